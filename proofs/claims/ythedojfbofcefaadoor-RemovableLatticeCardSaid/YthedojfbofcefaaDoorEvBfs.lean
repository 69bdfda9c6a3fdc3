import Derived.Test.YthedojfbofcefaaDoorEvG1
/- graph.beyond, graph.Check. -/
namespace Go.Ev
open Go Go.Proofs
set_option linter.unusedSimpArgs false
set_option linter.unusedVariables false
set_option maxRecDepth 100000
set_option maxHeartbeats 4000000
attribute [local irreducible] wpOps wpC wpD wpF wpLoop wpCall seqK blockK loopK retK T.put T.get T.setF

def beyondB (n k : Int) : Bool := decide (k < 0) || decide (k ≥ n)

theorem f54_spec [Sorts Tryd.prog] (n k : Int) (s : HS) : wpF Tryd.prog s.nx 54 [.int .i64 n, .int .i64 k] s (fun v s' => v = .bool (beyondB n k) ∧ s' = s) := by
  refine wpF_of Tryd.func54 rfl rfl rfl rfl (Nat.le_refl _) ?_
  simp only [paramsA]
  by_cases h : k < 0
  · repeat (first
  | with_reducible first | refine st (by constructor) ?_ | apply c_region
  | (with_reducible apply k_block_on
     · decide)
  | ((with_reducible first | apply xOp | apply xDr | apply xIf); rfl; (simp only [Nat.reduceEqDiff, Nat.reduceAdd, ↓reduceIte, xBB, stG, undef, opA, val, opdA, opdO, plainN, omap, binA, intBinA, loadV, readA, storeV, writeA, fieldAddrA, indexAddrA, lenA, builtinA, newA, unA, packA, Value.cells, h]; rfl); first | rfl | exact ⟨rfl, rfl, rfl⟩))
    intro _
    ((with_reducible first | apply ret_i | apply ret_n); (simp only [Nat.reduceEqDiff, Nat.reduceAdd, ↓reduceIte, xBB, resA, opdA, opdO, plainN, omap, val, loadV, readA, packA]; rfl))
    exact ⟨by simp [packR, beyondB, h], rfl⟩
  · repeat (first
  | with_reducible first | refine st (by constructor) ?_ | apply c_region
  | (with_reducible apply k_block_on
     · decide)
  | ((with_reducible first | apply xOp | apply xDr | apply xIf); rfl; (simp only [Nat.reduceEqDiff, Nat.reduceAdd, ↓reduceIte, xBB, stG, undef, opA, val, opdA, opdO, plainN, omap, binA, intBinA, loadV, readA, storeV, writeA, fieldAddrA, indexAddrA, lenA, builtinA, newA, unA, packA, Value.cells, h]; rfl); first | rfl | exact ⟨rfl, rfl, rfl⟩))
    intro _
    ((with_reducible first | apply ret_i | apply ret_n); (simp only [Nat.reduceEqDiff, Nat.reduceAdd, ↓reduceIte, xBB, resA, opdA, opdO, plainN, omap, val, loadV, readA, packA]; rfl))
    exact ⟨by simp [packR, beyondB, h], rfl⟩

def incr : List (Int × Int) → Bool
  | x :: y :: l => decide (ordE x y < 0) && incr (y :: l)
  | _ => true
def outside (n : Int) (e : Int × Int) : Bool := beyondB n e.1 || beyondB n e.2
/-- What Check returns. -/
def checkR (n : Int) (es : List (Int × Int)) : Int :=
  if n < 0 ∨ n > 64 then 2 else if (es.length : Int) > n * n then 6 else if es.any (outside n) then 2 else if incr es then 0 else 8

def vG (n : Int) (ev : Value) : Value := .agg #[.int .i64 n, ev]

theorem f36_spec [Sorts Tryd.prog] (n : Int) (es : List (Int × Int)) (ev : Value) (s : HS) (hs : Sl s 2 ev (es.map encE)) : wpF Tryd.prog s.nx 36 [vG n ev] s (fun v s' => v = .int .i64 (checkR n es)) := by
  obtain ⟨b, c, rfl⟩ := hs.shape
  refine wpF_of Tryd.func36 rfl rfl rfl rfl (Nat.le_refl _) ?_
  simp only [paramsA, vG]
  by_cases h1 : n < 0
  · repeat (first
  | with_reducible first | refine st (by constructor) ?_ | apply c_region
  | (with_reducible apply k_block_on
     · decide)
  | ((with_reducible first | apply xOp | apply xDr | apply xIf); rfl; (simp only [Nat.reduceEqDiff, Nat.reduceAdd, ↓reduceIte, xBB, stG, undef, opA, val, opdA, opdO, plainN, omap, binA, intBinA, loadV, readA, storeV, writeA, fieldAddrA, indexAddrA, lenA, builtinA, newA, unA, packA, Value.cells, ty28, sz28, fd28_0, fd28_1, ty3, ty26, un26, sz58, h1]; rfl); first | rfl | exact ⟨rfl, rfl, rfl⟩))
    intro _
    ((with_reducible first | apply ret_i | apply ret_n); (simp only [Nat.reduceEqDiff, Nat.reduceAdd, ↓reduceIte, xBB, resA, opdA, opdO, plainN, omap, val, loadV, readA, packA]; rfl))
    simp [packR, checkR, h1]
  by_cases h2 : n > 64
  · repeat (first
  | with_reducible first | refine st (by constructor) ?_ | apply c_region
  | (with_reducible apply k_block_on
     · decide)
  | ((with_reducible first | apply xOp | apply xDr | apply xIf); rfl; (simp only [Nat.reduceEqDiff, Nat.reduceAdd, ↓reduceIte, xBB, stG, undef, opA, val, opdA, opdO, plainN, omap, binA, intBinA, loadV, readA, storeV, writeA, fieldAddrA, indexAddrA, lenA, builtinA, newA, unA, packA, Value.cells, ty28, sz28, fd28_0, fd28_1, ty3, ty26, un26, sz58, h1, h2]; rfl); first | rfl | exact ⟨rfl, rfl, rfl⟩))
    intro _
    ((with_reducible first | apply ret_i | apply ret_n); (simp only [Nat.reduceEqDiff, Nat.reduceAdd, ↓reduceIte, xBB, resA, opdA, opdO, plainN, omap, val, loadV, readA, packA]; rfl))
    simp [packR, checkR, h1, h2]
  have hw : IntKind.i64.wrap (n * n) = n * n := by
    refine IntWalk.i64_in _ ⟨?_, ?_⟩
    · have := Int.mul_nonneg (show 0 ≤ n by omega) (show 0 ≤ n by omega); omega
    · have := Int.mul_le_mul (show n ≤ 64 by omega) (show n ≤ 64 by omega) (show 0 ≤ n by omega) (show (0 : Int) ≤ 64 by omega); omega
  have hnn : n * n ≤ 4096 := by
    have := Int.mul_le_mul (show n ≤ 64 by omega) (show n ≤ 64 by omega) (show 0 ≤ n by omega) (show (0 : Int) ≤ 64 by omega); omega
  by_cases h3 : ((es.map encE).length : Int) > n * n
  · repeat (first
  | with_reducible first | refine st (by constructor) ?_ | apply c_region
  | (with_reducible apply k_block_on
     · decide)
  | ((with_reducible first | apply xOp | apply xDr | apply xIf); rfl; (simp only [Nat.reduceEqDiff, Nat.reduceAdd, ↓reduceIte, xBB, stG, undef, opA, val, opdA, opdO, plainN, omap, binA, intBinA, loadV, readA, storeV, writeA, fieldAddrA, indexAddrA, lenA, builtinA, newA, unA, packA, Value.cells, ty28, sz28, fd28_0, fd28_1, ty3, ty26, un26, sz58, h1, h2, hw, h3]; rfl); first | rfl | exact ⟨rfl, rfl, rfl⟩))
    intro _
    ((with_reducible first | apply ret_i | apply ret_n); (simp only [Nat.reduceEqDiff, Nat.reduceAdd, ↓reduceIte, xBB, resA, opdA, opdO, plainN, omap, val, loadV, readA, packA]; rfl))
    simp at h3
    simp [packR, checkR, h1, h2, h3]
  have hlen : es.length ≤ 4096 := by simp at h3; omega
  have h3' : ¬ (es.length : Int) > n * n := by simpa using h3
  repeat (first
  | with_reducible first | refine st (by constructor) ?_ | apply c_region
  | (with_reducible apply k_block_on
     · decide)
  | ((with_reducible first | apply xOp | apply xDr | apply xIf); rfl; (simp only [Nat.reduceEqDiff, Nat.reduceAdd, ↓reduceIte, xBB, stG, undef, opA, val, opdA, opdO, plainN, omap, binA, intBinA, loadV, readA, storeV, writeA, fieldAddrA, indexAddrA, lenA, builtinA, newA, unA, packA, Value.cells, ty28, sz28, fd28_0, fd28_1, ty3, ty26, un26, sz58, h1, h2, hw, h3]; rfl); first | rfl | exact ⟨rfl, rfl, rfl⟩))
  refine loop_k (lk' := s.nx + 1) (s0 := ⟨_, s.nx + 1⟩) (fun m f t => ∃ k : Nat, k + m = es.length ∧ (es.drop k).any (outside n) = es.any (outside n) ∧ f.get 28 = some (.int .i64 k)) es.length (Nat.le_succ _) (Nat.le_refl _) ?_ (Ab.refl _ _) ?_
  · exact ⟨0, by omega, rfl, by simp only [Nat.reduceEqDiff, T.get_put, ↓reduceIte]; rfl⟩
  · rintro m f t ⟨k, hk, hany, h28⟩ hA hF
    (have k26 := hF 26 (by rfl); simp only [Nat.reduceEqDiff, T.get_put, ↓reduceIte] at k26; have k27 := hF 27 (by rfl); simp only [Nat.reduceEqDiff, T.get_put, ↓reduceIte] at k27; have k1 := hF 1 (by rfl); simp only [Nat.reduceEqDiff, T.get_put, ↓reduceIte] at k1)
    have hbox := hA.get (Nat.le_refl _) (Nat.lt_succ_self s.nx)
    rw [T.get_put_eq] at hbox
    by_cases hlt : (k : Int) < ((es.map encE).length : Int)
    · have hlt' : k < es.length := by simp at hlt; omega
      obtain ⟨id, off, wr, e, cs, rfl, g1, g2, g3, g4⟩ := hs.at (i := k) (x := encE es[k]) (by simp [hlt'])
      have g1' : t.hp.get id = some (.cells wr e cs) := by rw [hA.get (Nat.le_refl _) (Nat.lt_succ_of_lt g2), T.get_put_ne _ _ _ (by omega)]; exact g1
      have hb : (0 : Int) ≤ (k : Int) ∧ (k : Int) < ((es.map encE).length : Int) := ⟨by omega, hlt⟩
      have hnx : s.nx < t.nx := hA.nx
      have hne1 : ¬ s.nx = t.nx := by omega
      have hne2 : ¬ id = t.nx := by omega
      have hle : s.nx ≤ t.nx := by omega
      have hle2 : s.nx + 1 ≤ t.nx := by omega
      simp only [encE] at g3
      have hw2 : IntKind.i64.wrap ((k : Int) + 1) = ((k + 1 : Nat) : Int) := by rw [IntWalk.i64_in _ (by omega)]; rfl
      repeat (first
  | with_reducible first | refine st (by constructor) ?_ | apply c_region
  | (with_reducible apply k_block_on
     · decide)
  | ((with_reducible first | apply xOp | apply xDr | apply xIf); rfl; (simp only [Nat.reduceEqDiff, Nat.reduceAdd, ↓reduceIte, xBB, stG, undef, opA, val, opdA, opdO, plainN, omap, binA, intBinA, loadV, readA, storeV, writeA, fieldAddrA, indexAddrA, lenA, builtinA, newA, unA, packA, Value.cells, h28, k27, k26, k1, hlt, un26, sz58, ty58, zr58, hb, g1', g3, hbox, hne1, hne2, hle, hle2, ty3, fd28_0, fd58_0, fd58_1]; rfl); first | rfl | exact ⟨rfl, rfl, rfl⟩))
      ((with_reducible first | apply xCa | apply xCd); rfl; (simp only [Nat.reduceEqDiff, Nat.reduceAdd, ↓reduceIte, xBB, stB, opdA, opdO, plainN, omap, val, Value.cells]; exact ⟨rfl, rfl⟩); try rfl)
      apply call_fn
      refine (f54_spec n es[k].1 _).use (by first | exact Nat.le_refl _ | (simp only [cond_true, cond_false]; omega) | omega | (dsimp only; omega)) (by first | exact Nat.le_refl _ | (simp only [cond_true, cond_false]; omega) | omega | (dsimp only; omega)) fun v s1 hv _ => ?_
      obtain ⟨rfl, rfl⟩ := hv
      refine opt_of rfl ?_
      by_cases hb1 : beyondB n es[k].1 = true
      · repeat (first
  | with_reducible first | refine st (by constructor) ?_ | apply c_region
  | (with_reducible apply k_block_on
     · decide)
  | ((with_reducible first | apply xOp | apply xDr | apply xIf); rfl; (simp only [Nat.reduceEqDiff, Nat.reduceAdd, ↓reduceIte, xBB, stG, undef, opA, val, opdA, opdO, plainN, omap, binA, intBinA, loadV, readA, storeV, writeA, fieldAddrA, indexAddrA, lenA, builtinA, newA, unA, packA, Value.cells, hb1]; rfl); first | rfl | exact ⟨rfl, rfl, rfl⟩))
        intro _ _
        repeat (first
  | with_reducible first | refine st (by constructor) ?_ | apply c_region
  | (with_reducible apply k_block_on
     · decide)
  | ((with_reducible first | apply xOp | apply xDr | apply xIf); rfl; (simp only [Nat.reduceEqDiff, Nat.reduceAdd, ↓reduceIte, xBB, stG, undef, opA, val, opdA, opdO, plainN, omap, binA, intBinA, loadV, readA, storeV, writeA, fieldAddrA, indexAddrA, lenA, builtinA, newA, unA, packA, Value.cells]; rfl); first | rfl | exact ⟨rfl, rfl, rfl⟩))
        intro _
        ((with_reducible first | apply ret_i | apply ret_n); (simp only [Nat.reduceEqDiff, Nat.reduceAdd, ↓reduceIte, xBB, resA, opdA, opdO, plainN, omap, val, loadV, readA, packA]; rfl))
        rw [List.drop_eq_getElem_cons hlt', List.any_cons] at hany
        simp only [outside, hb1, Bool.true_or] at hany
        simp only [packR, checkR, show ¬ (n < 0 ∨ n > 64) by omega, h3', ← hany, if_false, if_true]
      · simp only [Bool.not_eq_true] at hb1
        repeat (first
  | with_reducible first | refine st (by constructor) ?_ | apply c_region
  | (with_reducible apply k_block_on
     · decide)
  | ((with_reducible first | apply xOp | apply xDr | apply xIf); rfl; (simp only [Nat.reduceEqDiff, Nat.reduceAdd, ↓reduceIte, xBB, stG, undef, opA, val, opdA, opdO, plainN, omap, binA, intBinA, loadV, readA, storeV, writeA, fieldAddrA, indexAddrA, lenA, builtinA, newA, unA, packA, Value.cells, hb1, k1, hbox, hne1, hne2, ty3, fd28_0, fd58_1]; rfl); first | rfl | exact ⟨rfl, rfl, rfl⟩))
        ((with_reducible first | apply xCa | apply xCd); rfl; (simp only [Nat.reduceEqDiff, Nat.reduceAdd, ↓reduceIte, xBB, stB, opdA, opdO, plainN, omap, val, Value.cells, hb1]; exact ⟨rfl, rfl⟩); try rfl)
        apply call_fn
        refine (f54_spec n es[k].2 _).use (by first | exact Nat.le_refl _ | (simp only [cond_true, cond_false]; omega) | omega | (dsimp only; omega)) (by first | exact Nat.le_refl _ | (simp only [cond_true, cond_false]; omega) | omega | (dsimp only; omega)) fun v s1 hv _ => ?_
        obtain ⟨rfl, rfl⟩ := hv
        refine opt_of rfl ?_
        by_cases hb2 : beyondB n es[k].2 = true
        · repeat (first
  | with_reducible first | refine st (by constructor) ?_ | apply c_region
  | (with_reducible apply k_block_on
     · decide)
  | ((with_reducible first | apply xOp | apply xDr | apply xIf); rfl; (simp only [Nat.reduceEqDiff, Nat.reduceAdd, ↓reduceIte, xBB, stG, undef, opA, val, opdA, opdO, plainN, omap, binA, intBinA, loadV, readA, storeV, writeA, fieldAddrA, indexAddrA, lenA, builtinA, newA, unA, packA, Value.cells, hb2, hb1]; rfl); first | rfl | exact ⟨rfl, rfl, rfl⟩))
          intro _ _
          repeat (first
  | with_reducible first | refine st (by constructor) ?_ | apply c_region
  | (with_reducible apply k_block_on
     · decide)
  | ((with_reducible first | apply xOp | apply xDr | apply xIf); rfl; (simp only [Nat.reduceEqDiff, Nat.reduceAdd, ↓reduceIte, xBB, stG, undef, opA, val, opdA, opdO, plainN, omap, binA, intBinA, loadV, readA, storeV, writeA, fieldAddrA, indexAddrA, lenA, builtinA, newA, unA, packA, Value.cells]; rfl); first | rfl | exact ⟨rfl, rfl, rfl⟩))
          intro _
          ((with_reducible first | apply ret_i | apply ret_n); (simp only [Nat.reduceEqDiff, Nat.reduceAdd, ↓reduceIte, xBB, resA, opdA, opdO, plainN, omap, val, loadV, readA, packA]; rfl))
          rw [List.drop_eq_getElem_cons hlt', List.any_cons] at hany
          simp only [outside, hb1, hb2, Bool.true_or, Bool.or_true] at hany
          simp only [packR, checkR, show ¬ (n < 0 ∨ n > 64) by omega, h3', ← hany, if_false, if_true]
        · simp only [Bool.not_eq_true] at hb2
          repeat (first
  | with_reducible first | refine st (by constructor) ?_ | apply c_region
  | (with_reducible apply k_block_on
     · decide)
  | ((with_reducible first | apply xOp | apply xDr | apply xIf); rfl; (simp only [Nat.reduceEqDiff, Nat.reduceAdd, ↓reduceIte, xBB, stG, undef, opA, val, opdA, opdO, plainN, omap, binA, intBinA, loadV, readA, storeV, writeA, fieldAddrA, indexAddrA, lenA, builtinA, newA, unA, packA, Value.cells, hb2, hb1, h28, hw2]; rfl); first | rfl | exact ⟨rfl, rfl, rfl⟩))
          intro _ _
          refine k_loop_next (m' := m - 1) (by omega) ⟨k + 1, by omega, ?_, ?_⟩
          · rw [List.drop_eq_getElem_cons hlt', List.any_cons] at hany
            rw [← hany]
            show _ = (outside n es[k] || _)
            simp only [outside, hb1, hb2, Bool.false_or]
          · simp only [Nat.reduceEqDiff, T.get_put, ↓reduceIte]
    · have hno : es.any (outside n) = false := by
        rw [← hany, List.drop_eq_nil_of_le (by simp at hlt; omega)]; rfl
      repeat (first
  | with_reducible first | refine st (by constructor) ?_ | apply c_region
  | (with_reducible apply k_block_on
     · decide)
  | ((with_reducible first | apply xOp | apply xDr | apply xIf); rfl; (simp only [Nat.reduceEqDiff, Nat.reduceAdd, ↓reduceIte, xBB, stG, undef, opA, val, opdA, opdO, plainN, omap, binA, intBinA, loadV, readA, storeV, writeA, fieldAddrA, indexAddrA, lenA, builtinA, newA, unA, packA, Value.cells, h28, k27, hlt]; rfl); first | rfl | exact ⟨rfl, rfl, rfl⟩))
      intro _ _
      repeat (first
  | with_reducible first | refine st (by constructor) ?_ | apply c_region
  | (with_reducible apply k_block_on
     · decide)
  | ((with_reducible first | apply xOp | apply xDr | apply xIf); rfl; (simp only [Nat.reduceEqDiff, Nat.reduceAdd, ↓reduceIte, xBB, stG, undef, opA, val, opdA, opdO, plainN, omap, binA, intBinA, loadV, readA, storeV, writeA, fieldAddrA, indexAddrA, lenA, builtinA, newA, unA, packA, Value.cells]; rfl); first | rfl | exact ⟨rfl, rfl, rfl⟩))
      clear hany hk hlt h28
      have hA0 : Ab s.nx s t := (Ab.new _ _).trans (hA.lower (Nat.le_succ _) (Nat.le_refl _))
      have hs' := hs.keep hA0
      have b1 := k1
      have hnx : s.nx < t.nx := hA.nx
      refine loop_k (lk' := t.nx) (s0 := t) (fun m f t => ∃ k : Nat, 1 ≤ k ∧ m = es.length - k ∧ incr (es.drop (k - 1)) = incr es ∧ f.get 5 = some (.int .i64 k)) (es.length - 1) hA0.nx (Nat.le_refl _) ?_ (Ab.refl _ _) ?_
      · exact ⟨1, by omega, rfl, rfl, by simp only [Nat.reduceEqDiff, T.get_put, ↓reduceIte]; rfl⟩
      · clear hA hF k1
        rintro m f u ⟨k, hk, hm, hin, h5⟩ hA hF
        (have k1 := hF 1 (by rfl); simp only [Nat.reduceEqDiff, T.get_put, ↓reduceIte, b1] at k1)
        have hbox' : u.hp.get s.nx = some (.cells true 28 [.int .i64 n, .slice b (es.map encE).length c]) := by rw [hA.get (Nat.le_refl _) hnx]; exact hbox
        have hs'' := hs'.keep hA
        have hnu := hA.nx
        by_cases hlt : (k : Int) < ((es.map encE).length : Int)
        · have hlt' : k < es.length := by simp at hlt; omega
          have hlt2 : k - 1 < es.length := by omega
          obtain ⟨id, off, wr, e, cs, rfl, g1, g2, g3, g4⟩ := hs''.at (i := k) (x := encE es[k]) (by simp [hlt'])
          obtain ⟨_, _, _, _, _, hh, g1', _, g3', _⟩ := hs''.at (i := k - 1) (x := encE es[k - 1]) (by simp [hlt2])
          simp only [Option.some.injEq, Addr.mk.injEq] at hh; obtain ⟨rfl, rfl, _⟩ := hh
          rw [g1] at g1'; cases g1'
          have hb : (0 : Int) ≤ (k : Int) ∧ (k : Int) < ((es.map encE).length : Int) := ⟨by omega, hlt⟩
          have hb' : (0 : Int) ≤ ((k - 1 : Nat) : Int) ∧ ((k - 1 : Nat) : Int) < ((es.map encE).length : Int) := ⟨by omega, by simp; omega⟩
          have hw1 : IntKind.i64.wrap ((k : Int) - 1) = ((k - 1 : Nat) : Int) := by rw [IntWalk.i64_in _ (by omega)]; omega
          have hw2 : IntKind.i64.wrap ((k : Int) + 1) = ((k + 1 : Nat) : Int) := by rw [IntWalk.i64_in _ (by omega)]; rfl
          simp only [encE] at g3 g3'
          repeat (first
  | with_reducible first | refine st (by constructor) ?_ | apply c_region
  | (with_reducible apply k_block_on
     · decide)
  | ((with_reducible first | apply xOp | apply xDr | apply xIf); rfl; (simp only [Nat.reduceEqDiff, Nat.reduceAdd, ↓reduceIte, xBB, stG, undef, opA, val, opdA, opdO, plainN, omap, binA, intBinA, loadV, readA, storeV, writeA, fieldAddrA, indexAddrA, lenA, builtinA, newA, unA, packA, Value.cells, h5, k1, hbox', ty26, sz28, fd28_0, fd28_1, un26, hlt]; rfl); first | rfl | exact ⟨rfl, rfl, rfl⟩))
          refine c_draw [⟨false, [], none⟩, ⟨false, [], none⟩, ⟨false, [], none⟩, ⟨false, [], none⟩, ⟨false, [], none⟩, ⟨false, [], none⟩, ⟨false, [], none⟩, ⟨false, [1, 5], none⟩, ⟨false, [], none⟩, ⟨false, [], none⟩, ⟨false, [1, 5], none⟩, ⟨true, [], none⟩, ⟨true, [], none⟩] (by kernel_rfl) ?_
          repeat (first
  | with_reducible first | refine st (by constructor) ?_ | apply c_region
  | (with_reducible apply k_block_on
     · decide)
  | ((with_reducible first | apply xOp | apply xDr | apply xIf); rfl; (simp only [Nat.reduceEqDiff, Nat.reduceAdd, ↓reduceIte, xBB, stG, undef, opA, val, opdA, opdO, plainN, omap, binA, intBinA, loadV, readA, storeV, writeA, fieldAddrA, indexAddrA, lenA, builtinA, newA, unA, packA, Value.cells, h5, k1, hbox', ty26, sz28, fd28_0, fd28_1, un26, hlt, sz58, ty58, hb, hb', g1, g3, g3', hw1]; rfl); first | rfl | exact ⟨rfl, rfl, rfl⟩))
          ((with_reducible first | apply xCa | apply xCd); rfl; (simp only [Nat.reduceEqDiff, Nat.reduceAdd, ↓reduceIte, xBB, stB, opdA, opdO, plainN, omap, val, Value.cells]; exact ⟨rfl, rfl⟩); try rfl)
          apply call_fn
          refine (f55_spec es[k - 1] es[k] _).use (by first | exact Nat.le_refl _ | (simp only [cond_true, cond_false]; omega) | omega | (dsimp only; omega)) (by first | exact Nat.le_refl _ | (simp only [cond_true, cond_false]; omega) | omega | (dsimp only; omega)) fun v s1 hv hA1 => ?_
          subst hv
          refine opt_of rfl ?_
          by_cases ho : ordE es[k - 1] es[k] ≥ 0
          · repeat (first
  | with_reducible first | refine st (by constructor) ?_ | apply c_region
  | (with_reducible apply k_block_on
     · decide)
  | ((with_reducible first | apply xOp | apply xDr | apply xIf); rfl; (simp only [Nat.reduceEqDiff, Nat.reduceAdd, ↓reduceIte, xBB, stG, undef, opA, val, opdA, opdO, plainN, omap, binA, intBinA, loadV, readA, storeV, writeA, fieldAddrA, indexAddrA, lenA, builtinA, newA, unA, packA, Value.cells, ho]; rfl); first | rfl | exact ⟨rfl, rfl, rfl⟩))
            intro _ _
            repeat (first
  | with_reducible first | refine st (by constructor) ?_ | apply c_region
  | (with_reducible apply k_block_on
     · decide)
  | ((with_reducible first | apply xOp | apply xDr | apply xIf); rfl; (simp only [Nat.reduceEqDiff, Nat.reduceAdd, ↓reduceIte, xBB, stG, undef, opA, val, opdA, opdO, plainN, omap, binA, intBinA, loadV, readA, storeV, writeA, fieldAddrA, indexAddrA, lenA, builtinA, newA, unA, packA, Value.cells]; rfl); first | rfl | exact ⟨rfl, rfl, rfl⟩))
            intro _
            ((with_reducible first | apply ret_i | apply ret_n); (simp only [Nat.reduceEqDiff, Nat.reduceAdd, ↓reduceIte, xBB, resA, opdA, opdO, plainN, omap, val, loadV, readA, packA]; rfl))
            rw [List.drop_eq_getElem_cons hlt2, show k - 1 + 1 = k by omega, List.drop_eq_getElem_cons hlt', incr] at hin
            simp only [show ¬ ordE es[k - 1] es[k] < 0 by omega, decide_false, Bool.false_and] at hin
            simp only [packR, checkR, show ¬ (n < 0 ∨ n > 64) by omega, h3', hno, ← hin, if_false]; rfl
          · repeat (first
  | with_reducible first | refine st (by constructor) ?_ | apply c_region
  | (with_reducible apply k_block_on
     · decide)
  | ((with_reducible first | apply xOp | apply xDr | apply xIf); rfl; (simp only [Nat.reduceEqDiff, Nat.reduceAdd, ↓reduceIte, xBB, stG, undef, opA, val, opdA, opdO, plainN, omap, binA, intBinA, loadV, readA, storeV, writeA, fieldAddrA, indexAddrA, lenA, builtinA, newA, unA, packA, Value.cells, ho, h5, hw2]; rfl); first | rfl | exact ⟨rfl, rfl, rfl⟩))
            intro _ _
            refine k_loop_next (m' := es.length - (k + 1)) (by omega) ⟨k + 1, by omega, rfl, ?_, ?_⟩
            · rw [List.drop_eq_getElem_cons hlt2, show k - 1 + 1 = k by omega, List.drop_eq_getElem_cons hlt', incr, ← List.drop_eq_getElem_cons hlt'] at hin
              simp only [show ordE es[k - 1] es[k] < 0 by omega, decide_true, Bool.true_and] at hin
              exact hin
            · simp only [Nat.reduceEqDiff, T.get_put, ↓reduceIte]
        · repeat (first
  | with_reducible first | refine st (by constructor) ?_ | apply c_region
  | (with_reducible apply k_block_on
     · decide)
  | ((with_reducible first | apply xOp | apply xDr | apply xIf); rfl; (simp only [Nat.reduceEqDiff, Nat.reduceAdd, ↓reduceIte, xBB, stG, undef, opA, val, opdA, opdO, plainN, omap, binA, intBinA, loadV, readA, storeV, writeA, fieldAddrA, indexAddrA, lenA, builtinA, newA, unA, packA, Value.cells, h5, k1, hbox', ty26, sz28, fd28_0, fd28_1, un26, hlt]; rfl); first | rfl | exact ⟨rfl, rfl, rfl⟩))
          intro _ _
          repeat (first
  | with_reducible first | refine st (by constructor) ?_ | apply c_region
  | (with_reducible apply k_block_on
     · decide)
  | ((with_reducible first | apply xOp | apply xDr | apply xIf); rfl; (simp only [Nat.reduceEqDiff, Nat.reduceAdd, ↓reduceIte, xBB, stG, undef, opA, val, opdA, opdO, plainN, omap, binA, intBinA, loadV, readA, storeV, writeA, fieldAddrA, indexAddrA, lenA, builtinA, newA, unA, packA, Value.cells]; rfl); first | rfl | exact ⟨rfl, rfl, rfl⟩))
          intro _
          ((with_reducible first | apply ret_i | apply ret_n); (simp only [Nat.reduceEqDiff, Nat.reduceAdd, ↓reduceIte, xBB, resA, opdA, opdO, plainN, omap, val, loadV, readA, packA]; rfl))
          have hyes : incr es = true := by
            rw [← hin]
            have : (es.drop (k - 1)).length ≤ 1 := by rw [List.length_drop]; simp at hlt; omega
            match he : es.drop (k - 1), this with
            | [], _ => rfl
            | [x], _ => rfl
          simp only [packR, checkR, show ¬ (n < 0 ∨ n > 64) by omega, h3', hno, hyes, if_false, if_true]; rfl
end Go.Ev

/- graph.ready. -/
namespace Go.Ev
open Go Go.Proofs
set_option linter.unusedSimpArgs false
set_option linter.unusedVariables false
set_option maxRecDepth 100000
set_option maxHeartbeats 4000000
attribute [local irreducible] wpOps wpC wpD wpF wpLoop wpCall seqK blockK loopK retK T.put T.get T.setF

theorem f68_spec [Sorts Tryd.prog] (n k : Int) (ev : Value) (id : Nat) (wr : Bool) (e : TypeId) (s : HS) (hb : s.hp.get id = some (.cells wr e [.int .i64 n, ev])) :
    wpF Tryd.prog s.nx 68 [.int .i64 k, .pointer (some ⟨id, 0, none⟩)] s (fun v s' => v = .bool (beyondB n k) ∧ s' = s) := by
  refine wpF_of Tryd.func68 rfl rfl rfl rfl (Nat.le_refl _) ?_
  simp only [paramsA]
  repeat (first
  | with_reducible first | refine st (by constructor) ?_ | apply c_region
  | (with_reducible apply k_block_on
     · decide)
  | ((with_reducible first | apply xOp | apply xDr | apply xIf); rfl; (simp only [Nat.reduceEqDiff, Nat.reduceAdd, ↓reduceIte, xBB, stG, undef, opA, val, opdA, opdO, plainN, omap, binA, intBinA, loadV, readA, storeV, writeA, fieldAddrA, indexAddrA, lenA, builtinA, newA, unA, packA, Value.cells, fd28_0, ty3, hb]; rfl); first | rfl | exact ⟨rfl, rfl, rfl⟩))
  ((with_reducible first | apply xCa | apply xCd); rfl; (simp only [Nat.reduceEqDiff, Nat.reduceAdd, ↓reduceIte, xBB, stB, opdA, opdO, plainN, omap, val, Value.cells]; exact ⟨rfl, rfl⟩); try rfl)
  apply call_fn
  refine (f54_spec n k s).mono fun v s1 hv => ?_
  obtain ⟨rfl, rfl⟩ := hv
  refine opt_of rfl ?_
  repeat (first
  | with_reducible first | refine st (by constructor) ?_ | apply c_region
  | (with_reducible apply k_block_on
     · decide)
  | ((with_reducible first | apply xOp | apply xDr | apply xIf); rfl; (simp only [Nat.reduceEqDiff, Nat.reduceAdd, ↓reduceIte, xBB, stG, undef, opA, val, opdA, opdO, plainN, omap, binA, intBinA, loadV, readA, storeV, writeA, fieldAddrA, indexAddrA, lenA, builtinA, newA, unA, packA, Value.cells]; rfl); first | rfl | exact ⟨rfl, rfl, rfl⟩))
  intro _
  ((with_reducible first | apply ret_i | apply ret_n); (simp only [Nat.reduceEqDiff, Nat.reduceAdd, ↓reduceIte, xBB, resA, opdA, opdO, plainN, omap, val, loadV, readA, packA]; rfl))
  exact ⟨rfl, rfl⟩

/-- A function value that answers a question about a number, without a trace. -/
def AskI [Sorts Tryd.prog] (s : HS) (fv : Value) (p : Int → Bool) : Prop :=
  ∃ g ca, fv = .func (.func g) #[] ca ∧ ∀ x t, Ab s.nx s t → wpF Tryd.prog t.nx g ([.int .i64 x] ++ ca.toList) t (fun v t' => v = .bool (p x) ∧ t' = t)

theorem f84_spec [Sorts Tryd.prog] (l : List Int) (p : Int → Bool) (lv fv : Value) (s : HS) (hs : Sl s 1 lv (l.map encI)) (hl : l.length < 1000000000) (hf : AskI s fv p) :
    wpF Tryd.prog s.nx 84 [lv, fv] s (fun v s' => (∃ r : Int, v = .int .i64 r ∧ decide (r ≥ 0) = l.any p) ∧ s' = s) := by
  obtain ⟨b, c, rfl⟩ := hs.shape
  obtain ⟨g, ca, rfl, hf⟩ := hf
  refine wpF_of Tryd.func84 rfl rfl rfl rfl (Nat.le_refl _) ?_
  simp only [paramsA]
  repeat (first
  | with_reducible first | refine st (by constructor) ?_ | apply c_region
  | (with_reducible apply k_block_on
     · decide)
  | ((with_reducible first | apply xOp | apply xDr | apply xIf); rfl; (simp only [Nat.reduceEqDiff, Nat.reduceAdd, ↓reduceIte, xBB, stG, undef, opA, val, opdA, opdO, plainN, omap, binA, intBinA, loadV, readA, storeV, writeA, fieldAddrA, indexAddrA, lenA, builtinA, newA, unA, packA, Value.cells, un35]; rfl); first | rfl | exact ⟨rfl, rfl, rfl⟩))
  refine loop_k (lk' := s.nx) (s0 := s) (fun m f t => t = s ∧ ∃ k : Nat, k + m = l.length ∧ (l.drop k).any p = l.any p ∧ f.get 8 = some (.int .i64 k)) l.length (Nat.le_refl _) (Nat.le_refl _) ?_ (Ab.refl _ _) ?_
  · exact ⟨rfl, 0, by omega, rfl, by simp only [Nat.reduceEqDiff, T.get_put, ↓reduceIte]; rfl⟩
  · rintro m f t ⟨rfl, k, hk, hany, h8⟩ hA hF
    (have k0 := hF 0 (by rfl); simp only [Nat.reduceEqDiff, T.get_put, ↓reduceIte] at k0; have k1 := hF 1 (by rfl); simp only [Nat.reduceEqDiff, T.get_put, ↓reduceIte] at k1; have k6 := hF 6 (by rfl); simp only [Nat.reduceEqDiff, T.get_put, ↓reduceIte] at k6; have k7 := hF 7 (by rfl); simp only [Nat.reduceEqDiff, T.get_put, ↓reduceIte] at k7)
    by_cases hlt : (k : Int) < ((l.map encI).length : Int)
    · have hlt' : k < l.length := by simp at hlt; omega
      obtain ⟨id, off, wr, e, cs, rfl, g1, g2, g3, g4⟩ := hs.at (i := k) (x := encI l[k]) (by simp [hlt'])
      have hb : (0 : Int) ≤ (k : Int) ∧ (k : Int) < ((l.map encI).length : Int) := ⟨by omega, hlt⟩
      simp only [encI] at g3
      have hw : IntKind.i64.wrap ((k : Int) + 1) = ((k + 1 : Nat) : Int) := by rw [IntWalk.i64_in _ (by omega)]; rfl
      repeat (first
  | with_reducible first | refine st (by constructor) ?_ | apply c_region
  | (with_reducible apply k_block_on
     · decide)
  | ((with_reducible first | apply xOp | apply xDr | apply xIf); rfl; (simp only [Nat.reduceEqDiff, Nat.reduceAdd, ↓reduceIte, xBB, stG, undef, opA, val, opdA, opdO, plainN, omap, binA, intBinA, loadV, readA, storeV, writeA, fieldAddrA, indexAddrA, lenA, builtinA, newA, unA, packA, Value.cells, h8, k7, k6, k1, k0, hlt, un35, sz35, sz3, ty3, hb, g1, g3]; rfl); first | rfl | exact ⟨rfl, rfl, rfl⟩))
      ((with_reducible first | apply xCa | apply xCd); rfl; (simp only [Nat.reduceEqDiff, Nat.reduceAdd, ↓reduceIte, xBB, stB, opdA, opdO, plainN, omap, val, Value.cells, k1]; exact ⟨rfl, rfl⟩); try rfl)
      apply call_clo
      refine (hf l[k] _ (Ab.refl _ _)).mono fun v s1 hv => ?_
      obtain ⟨rfl, rfl⟩ := hv
      refine opt_of rfl ?_
      by_cases hp : p l[k] = true
      · repeat (first
  | with_reducible first | refine st (by constructor) ?_ | apply c_region
  | (with_reducible apply k_block_on
     · decide)
  | ((with_reducible first | apply xOp | apply xDr | apply xIf); rfl; (simp only [Nat.reduceEqDiff, Nat.reduceAdd, ↓reduceIte, xBB, stG, undef, opA, val, opdA, opdO, plainN, omap, binA, intBinA, loadV, readA, storeV, writeA, fieldAddrA, indexAddrA, lenA, builtinA, newA, unA, packA, Value.cells, hp]; rfl); first | rfl | exact ⟨rfl, rfl, rfl⟩))
        intro _ _
        repeat (first
  | with_reducible first | refine st (by constructor) ?_ | apply c_region
  | (with_reducible apply k_block_on
     · decide)
  | ((with_reducible first | apply xOp | apply xDr | apply xIf); rfl; (simp only [Nat.reduceEqDiff, Nat.reduceAdd, ↓reduceIte, xBB, stG, undef, opA, val, opdA, opdO, plainN, omap, binA, intBinA, loadV, readA, storeV, writeA, fieldAddrA, indexAddrA, lenA, builtinA, newA, unA, packA, Value.cells]; rfl); first | rfl | exact ⟨rfl, rfl, rfl⟩))
        intro _
        ((with_reducible first | apply ret_i | apply ret_n); (simp only [Nat.reduceEqDiff, Nat.reduceAdd, ↓reduceIte, xBB, resA, opdA, opdO, plainN, omap, val, loadV, readA, packA]; rfl))
        refine ⟨⟨k, rfl, ?_⟩, rfl⟩
        rw [← hany, List.drop_eq_getElem_cons hlt', List.any_cons, hp]; simp
      · simp only [Bool.not_eq_true] at hp
        repeat (first
  | with_reducible first | refine st (by constructor) ?_ | apply c_region
  | (with_reducible apply k_block_on
     · decide)
  | ((with_reducible first | apply xOp | apply xDr | apply xIf); rfl; (simp only [Nat.reduceEqDiff, Nat.reduceAdd, ↓reduceIte, xBB, stG, undef, opA, val, opdA, opdO, plainN, omap, binA, intBinA, loadV, readA, storeV, writeA, fieldAddrA, indexAddrA, lenA, builtinA, newA, unA, packA, Value.cells, hp, h8, hw]; rfl); first | rfl | exact ⟨rfl, rfl, rfl⟩))
        intro _ _
        refine k_loop_next (m' := m - 1) (by omega) ⟨rfl, k + 1, by omega, ?_, ?_⟩
        · rw [← hany, List.drop_eq_getElem_cons hlt', List.any_cons, hp]; rfl
        · simp only [Nat.reduceEqDiff, T.get_put, ↓reduceIte]
    · have hno : l.any p = false := by rw [← hany, List.drop_eq_nil_of_le (by simp at hlt; omega)]; rfl
      repeat (first
  | with_reducible first | refine st (by constructor) ?_ | apply c_region
  | (with_reducible apply k_block_on
     · decide)
  | ((with_reducible first | apply xOp | apply xDr | apply xIf); rfl; (simp only [Nat.reduceEqDiff, Nat.reduceAdd, ↓reduceIte, xBB, stG, undef, opA, val, opdA, opdO, plainN, omap, binA, intBinA, loadV, readA, storeV, writeA, fieldAddrA, indexAddrA, lenA, builtinA, newA, unA, packA, Value.cells, h8, k7, hlt]; rfl); first | rfl | exact ⟨rfl, rfl, rfl⟩))
      intro _ _
      repeat (first
  | with_reducible first | refine st (by constructor) ?_ | apply c_region
  | (with_reducible apply k_block_on
     · decide)
  | ((with_reducible first | apply xOp | apply xDr | apply xIf); rfl; (simp only [Nat.reduceEqDiff, Nat.reduceAdd, ↓reduceIte, xBB, stG, undef, opA, val, opdA, opdO, plainN, omap, binA, intBinA, loadV, readA, storeV, writeA, fieldAddrA, indexAddrA, lenA, builtinA, newA, unA, packA, Value.cells]; rfl); first | rfl | exact ⟨rfl, rfl, rfl⟩))
      intro _
      ((with_reducible first | apply ret_i | apply ret_n); (simp only [Nat.reduceEqDiff, Nat.reduceAdd, ↓reduceIte, xBB, resA, opdA, opdO, plainN, omap, val, loadV, readA, packA]; rfl))
      exact ⟨⟨-1, rfl, by rw [hno]; rfl⟩, rfl⟩

theorem f67_spec [Sorts Tryd.prog] (l : List Int) (p : Int → Bool) (lv fv : Value) (s : HS) (hs : Sl s 1 lv (l.map encI)) (hl : l.length < 1000000000) (hf : AskI s fv p) :
    wpF Tryd.prog s.nx 67 [lv, fv] s (fun v s' => v = .bool (l.any p) ∧ s' = s) := by
  refine wpF_of Tryd.func67 rfl rfl rfl rfl (Nat.le_refl _) ?_
  simp only [paramsA]
  repeat (first
  | with_reducible first | refine st (by constructor) ?_ | apply c_region
  | (with_reducible apply k_block_on
     · decide)
  | ((with_reducible first | apply xOp | apply xDr | apply xIf); rfl; (simp only [Nat.reduceEqDiff, Nat.reduceAdd, ↓reduceIte, xBB, stG, undef, opA, val, opdA, opdO, plainN, omap, binA, intBinA, loadV, readA, storeV, writeA, fieldAddrA, indexAddrA, lenA, builtinA, newA, unA, packA, Value.cells]; rfl); first | rfl | exact ⟨rfl, rfl, rfl⟩))
  ((with_reducible first | apply xCa | apply xCd); rfl; (simp only [Nat.reduceEqDiff, Nat.reduceAdd, ↓reduceIte, xBB, stB, opdA, opdO, plainN, omap, val, Value.cells]; exact ⟨rfl, rfl⟩); try rfl)
  apply call_fn
  refine (f84_spec l p lv fv s hs hl hf).mono fun v s1 hv => ?_
  obtain ⟨⟨r, rfl, hr⟩, rfl⟩ := hv
  refine opt_of rfl ?_
  repeat (first
  | with_reducible first | refine st (by constructor) ?_ | apply c_region
  | (with_reducible apply k_block_on
     · decide)
  | ((with_reducible first | apply xOp | apply xDr | apply xIf); rfl; (simp only [Nat.reduceEqDiff, Nat.reduceAdd, ↓reduceIte, xBB, stG, undef, opA, val, opdA, opdO, plainN, omap, binA, intBinA, loadV, readA, storeV, writeA, fieldAddrA, indexAddrA, lenA, builtinA, newA, unA, packA, Value.cells]; rfl); first | rfl | exact ⟨rfl, rfl, rfl⟩))
  intro _
  ((with_reducible first | apply ret_i | apply ret_n); (simp only [Nat.reduceEqDiff, Nat.reduceAdd, ↓reduceIte, xBB, resA, opdA, opdO, plainN, omap, val, loadV, readA, packA]; rfl))
  exact ⟨by rw [← hr]; rfl, rfl⟩

def incrI : List Int → Bool
  | x :: y :: l => decide (x < y) && incrI (y :: l)
  | _ => true
/-- What ready returns. -/
def readyR (n : Int) (es : List (Int × Int)) (l : List Int) : Int :=
  if checkR n es ≠ 0 then checkR n es else if l.any (beyondB n) then 2 else if incrI l then 0 else 8

theorem f57_spec [Sorts Tryd.prog] (n : Int) (es : List (Int × Int)) (ev : Value) (l : List Int) (lv : Value) (s : HS) (hs : Sl s 2 ev (es.map encE)) (hl : Sl s 1 lv (l.map encI)) (hlen : l.length < 1000000000) :
    wpF Tryd.prog s.nx 57 [vG n ev, lv] s (fun v s' => v = .int .i64 (readyR n es l)) := by
  obtain ⟨b, c, rfl⟩ := hl.shape
  refine wpF_of Tryd.func57 rfl rfl rfl rfl (Nat.le_refl _) ?_
  simp only [paramsA, vG]
  repeat (first
  | with_reducible first | refine st (by constructor) ?_ | apply c_region
  | (with_reducible apply k_block_on
     · decide)
  | ((with_reducible first | apply xOp | apply xDr | apply xIf); rfl; (simp only [Nat.reduceEqDiff, Nat.reduceAdd, ↓reduceIte, xBB, stG, undef, opA, val, opdA, opdO, plainN, omap, binA, intBinA, loadV, readA, storeV, writeA, fieldAddrA, indexAddrA, lenA, builtinA, newA, unA, packA, Value.cells, ty28, sz28, cutL]; rfl); first | rfl | exact ⟨rfl, rfl, rfl⟩))
  have hA0 := Ab.new (lk := s.nx) s (.cells true 28 [.int .i64 n, ev])
  ((with_reducible first | apply xCa | apply xCd); rfl; (simp only [Nat.reduceEqDiff, Nat.reduceAdd, ↓reduceIte, xBB, stB, opdA, opdO, plainN, omap, val, Value.cells]; exact ⟨rfl, rfl⟩); try rfl)
  apply call_fn
  refine (f36_spec n es ev _ (hs.keep hA0)).use (by first | exact Nat.le_refl _ | (simp only [cond_true, cond_false]; omega) | omega | (dsimp only; omega)) (by first | exact Nat.le_refl _ | (simp only [cond_true, cond_false]; omega) | omega | (dsimp only; omega)) fun v s1 hv hA1 => ?_
  subst hv
  refine opt_of rfl ?_
  have hbox := hA1.get (Nat.le_refl _) (Nat.lt_succ_self s.nx)
  rw [T.get_put_eq] at hbox
  by_cases hc : checkR n es = 0
  · have hc' : (checkR n es != 0) = false := by simp [hc]
    repeat (first
  | with_reducible first | refine st (by constructor) ?_ | apply c_region
  | (with_reducible apply k_block_on
     · decide)
  | ((with_reducible first | apply xOp | apply xDr | apply xIf); rfl; (simp only [Nat.reduceEqDiff, Nat.reduceAdd, ↓reduceIte, xBB, stG, undef, opA, val, opdA, opdO, plainN, omap, binA, intBinA, loadV, readA, storeV, writeA, fieldAddrA, indexAddrA, lenA, builtinA, newA, unA, packA, Value.cells, hc']; rfl); first | rfl | exact ⟨rfl, rfl, rfl⟩))
    ((with_reducible first | apply xCa | apply xCd); rfl; (simp only [Nat.reduceEqDiff, Nat.reduceAdd, ↓reduceIte, xBB, stB, opdA, opdO, plainN, omap, val, Value.cells]; exact ⟨rfl, rfl⟩); try rfl)
    apply call_fn
    have hA2 := hA0.trans (hA1.lower (Nat.le_succ _) (Nat.le_refl _))
    have hl2 := hl.keep hA2
    refine (f67_spec l (beyondB n) _ _ _ hl2 hlen ⟨68, _, rfl, fun x t hA3 => ?_⟩).use hA2.nx (Nat.le_refl _) fun v s2 hv _ => ?_
    · exact f68_spec n x ev s.nx true 28 t (by rw [hA3.get (Nat.le_refl _) hA1.nx]; exact hbox)
    obtain ⟨rfl, rfl⟩ := hv
    refine opt_of rfl ?_
    by_cases ha : l.any (beyondB n) = true
    · repeat (first
  | with_reducible first | refine st (by constructor) ?_ | apply c_region
  | (with_reducible apply k_block_on
     · decide)
  | ((with_reducible first | apply xOp | apply xDr | apply xIf); rfl; (simp only [Nat.reduceEqDiff, Nat.reduceAdd, ↓reduceIte, xBB, stG, undef, opA, val, opdA, opdO, plainN, omap, binA, intBinA, loadV, readA, storeV, writeA, fieldAddrA, indexAddrA, lenA, builtinA, newA, unA, packA, Value.cells, ha]; rfl); first | rfl | exact ⟨rfl, rfl, rfl⟩))
      intro _
      ((with_reducible first | apply ret_i | apply ret_n); (simp only [Nat.reduceEqDiff, Nat.reduceAdd, ↓reduceIte, xBB, resA, opdA, opdO, plainN, omap, val, loadV, readA, packA]; rfl))
      simp only [packR, readyR, hc, ha]; rfl
    · simp only [Bool.not_eq_true] at ha
      repeat (first
  | with_reducible first | refine st (by constructor) ?_ | apply c_region
  | (with_reducible apply k_block_on
     · decide)
  | ((with_reducible first | apply xOp | apply xDr | apply xIf); rfl; (simp only [Nat.reduceEqDiff, Nat.reduceAdd, ↓reduceIte, xBB, stG, undef, opA, val, opdA, opdO, plainN, omap, binA, intBinA, loadV, readA, storeV, writeA, fieldAddrA, indexAddrA, lenA, builtinA, newA, unA, packA, Value.cells, ha]; rfl); first | rfl | exact ⟨rfl, rfl, rfl⟩))
      refine loop_k (lk' := s2.nx) (s0 := s2) (fun m f t => t = s2 ∧ ∃ k : Nat, 1 ≤ k ∧ m = l.length - k ∧ incrI (l.drop (k - 1)) = incrI l ∧ f.get 6 = some (.int .i64 k)) (l.length - 1) hA2.nx (Nat.le_refl _) ?_ (Ab.refl _ _) ?_
      · exact ⟨rfl, 1, by omega, rfl, rfl, by simp only [Nat.reduceEqDiff, T.get_put, ↓reduceIte]; rfl⟩
      · rintro m f u ⟨rfl, k, hk, hm, hin, h5⟩ hA hF
        (have k1 := hF 1 (by rfl); simp only [Nat.reduceEqDiff, T.get_put, ↓reduceIte] at k1)
        by_cases hlt : (k : Int) < ((l.map encI).length : Int)
        · have hlt' : k < l.length := by simp at hlt; omega
          have hlt2 : k - 1 < l.length := by omega
          obtain ⟨id, off, wr, e, cs, rfl, g1, g2, g3, g4⟩ := hl2.at (i := k) (x := encI l[k]) (by simp [hlt'])
          obtain ⟨_, _, _, _, _, hh, g1', _, g3', _⟩ := hl2.at (i := k - 1) (x := encI l[k - 1]) (by simp [hlt2])
          simp only [Option.some.injEq, Addr.mk.injEq] at hh; obtain ⟨rfl, rfl, _⟩ := hh
          rw [g1] at g1'; cases g1'
          have hb : (0 : Int) ≤ (k : Int) ∧ (k : Int) < ((l.map encI).length : Int) := ⟨by omega, hlt⟩
          have hb' : (0 : Int) ≤ ((k - 1 : Nat) : Int) ∧ ((k - 1 : Nat) : Int) < ((l.map encI).length : Int) := ⟨by omega, by simp; omega⟩
          have hw1 : IntKind.i64.wrap ((k : Int) - 1) = ((k - 1 : Nat) : Int) := by rw [IntWalk.i64_in _ (by omega)]; omega
          have hw2 : IntKind.i64.wrap ((k : Int) + 1) = ((k + 1 : Nat) : Int) := by rw [IntWalk.i64_in _ (by omega)]; rfl
          simp only [encI] at g3 g3'
          repeat (first
  | with_reducible first | refine st (by constructor) ?_ | apply c_region
  | (with_reducible apply k_block_on
     · decide)
  | ((with_reducible first | apply xOp | apply xDr | apply xIf); rfl; (simp only [Nat.reduceEqDiff, Nat.reduceAdd, ↓reduceIte, xBB, stG, undef, opA, val, opdA, opdO, plainN, omap, binA, intBinA, loadV, readA, storeV, writeA, fieldAddrA, indexAddrA, lenA, builtinA, newA, unA, packA, Value.cells, h5, k1, un35, hlt]; rfl); first | rfl | exact ⟨rfl, rfl, rfl⟩))
          refine c_draw [⟨false, [], none⟩, ⟨false, [], none⟩, ⟨false, [], none⟩, ⟨false, [], none⟩, ⟨false, [], none⟩, ⟨false, [], none⟩, ⟨false, [], none⟩, ⟨false, [], none⟩, ⟨false, [3], none⟩, ⟨true, [], none⟩] (by kernel_rfl) ?_
          by_cases ho : l[k] ≤ l[k - 1]
          · repeat (first
  | with_reducible first | refine st (by constructor) ?_ | apply c_region
  | (with_reducible apply k_block_on
     · decide)
  | ((with_reducible first | apply xOp | apply xDr | apply xIf); rfl; (simp only [Nat.reduceEqDiff, Nat.reduceAdd, ↓reduceIte, xBB, stG, undef, opA, val, opdA, opdO, plainN, omap, binA, intBinA, loadV, readA, storeV, writeA, fieldAddrA, indexAddrA, lenA, builtinA, newA, unA, packA, Value.cells, h5, k1, un35, sz35, sz3, ty3, hb, hb', g1, g3, g3', hw1, ho]; rfl); first | rfl | exact ⟨rfl, rfl, rfl⟩))
            intro _ _
            repeat (first
  | with_reducible first | refine st (by constructor) ?_ | apply c_region
  | (with_reducible apply k_block_on
     · decide)
  | ((with_reducible first | apply xOp | apply xDr | apply xIf); rfl; (simp only [Nat.reduceEqDiff, Nat.reduceAdd, ↓reduceIte, xBB, stG, undef, opA, val, opdA, opdO, plainN, omap, binA, intBinA, loadV, readA, storeV, writeA, fieldAddrA, indexAddrA, lenA, builtinA, newA, unA, packA, Value.cells]; rfl); first | rfl | exact ⟨rfl, rfl, rfl⟩))
            intro _
            ((with_reducible first | apply ret_i | apply ret_n); (simp only [Nat.reduceEqDiff, Nat.reduceAdd, ↓reduceIte, xBB, resA, opdA, opdO, plainN, omap, val, loadV, readA, packA]; rfl))
            rw [List.drop_eq_getElem_cons hlt2, show k - 1 + 1 = k by omega, List.drop_eq_getElem_cons hlt', incrI] at hin
            simp only [show ¬ l[k - 1] < l[k] by omega, decide_false, Bool.false_and] at hin
            simp only [packR, readyR, hc, ha, ← hin]; rfl
          · repeat (first
  | with_reducible first | refine st (by constructor) ?_ | apply c_region
  | (with_reducible apply k_block_on
     · decide)
  | ((with_reducible first | apply xOp | apply xDr | apply xIf); rfl; (simp only [Nat.reduceEqDiff, Nat.reduceAdd, ↓reduceIte, xBB, stG, undef, opA, val, opdA, opdO, plainN, omap, binA, intBinA, loadV, readA, storeV, writeA, fieldAddrA, indexAddrA, lenA, builtinA, newA, unA, packA, Value.cells, h5, k1, un35, sz35, sz3, ty3, hb, hb', g1, g3, g3', hw1, ho, hw2]; rfl); first | rfl | exact ⟨rfl, rfl, rfl⟩))
            intro _ _
            refine k_loop_next (m' := l.length - (k + 1)) (by omega) ⟨rfl, k + 1, by omega, rfl, ?_, ?_⟩
            · rw [List.drop_eq_getElem_cons hlt2, show k - 1 + 1 = k by omega, List.drop_eq_getElem_cons hlt', incrI, ← List.drop_eq_getElem_cons hlt'] at hin
              simp only [show l[k - 1] < l[k] by omega, decide_true, Bool.true_and] at hin
              exact hin
            · simp only [Nat.reduceEqDiff, T.get_put, ↓reduceIte]
        · repeat (first
  | with_reducible first | refine st (by constructor) ?_ | apply c_region
  | (with_reducible apply k_block_on
     · decide)
  | ((with_reducible first | apply xOp | apply xDr | apply xIf); rfl; (simp only [Nat.reduceEqDiff, Nat.reduceAdd, ↓reduceIte, xBB, stG, undef, opA, val, opdA, opdO, plainN, omap, binA, intBinA, loadV, readA, storeV, writeA, fieldAddrA, indexAddrA, lenA, builtinA, newA, unA, packA, Value.cells, h5, k1, un35, hlt]; rfl); first | rfl | exact ⟨rfl, rfl, rfl⟩))
          intro _ _
          repeat (first
  | with_reducible first | refine st (by constructor) ?_ | apply c_region
  | (with_reducible apply k_block_on
     · decide)
  | ((with_reducible first | apply xOp | apply xDr | apply xIf); rfl; (simp only [Nat.reduceEqDiff, Nat.reduceAdd, ↓reduceIte, xBB, stG, undef, opA, val, opdA, opdO, plainN, omap, binA, intBinA, loadV, readA, storeV, writeA, fieldAddrA, indexAddrA, lenA, builtinA, newA, unA, packA, Value.cells]; rfl); first | rfl | exact ⟨rfl, rfl, rfl⟩))
          intro _
          ((with_reducible first | apply ret_i | apply ret_n); (simp only [Nat.reduceEqDiff, Nat.reduceAdd, ↓reduceIte, xBB, resA, opdA, opdO, plainN, omap, val, loadV, readA, packA]; rfl))
          have hyes : incrI l = true := by
            rw [← hin]
            have : (l.drop (k - 1)).length ≤ 1 := by rw [List.length_drop]; simp at hlt; omega
            match he : l.drop (k - 1), this with
            | [], _ => rfl
            | [x], _ => rfl
          simp only [packR, readyR, hc, ha, hyes]; rfl
  · have hc' : (checkR n es != 0) = true := by simp [hc]
    repeat (first
  | with_reducible first | refine st (by constructor) ?_ | apply c_region
  | (with_reducible apply k_block_on
     · decide)
  | ((with_reducible first | apply xOp | apply xDr | apply xIf); rfl; (simp only [Nat.reduceEqDiff, Nat.reduceAdd, ↓reduceIte, xBB, stG, undef, opA, val, opdA, opdO, plainN, omap, binA, intBinA, loadV, readA, storeV, writeA, fieldAddrA, indexAddrA, lenA, builtinA, newA, unA, packA, Value.cells, hc']; rfl); first | rfl | exact ⟨rfl, rfl, rfl⟩))
    intro _
    ((with_reducible first | apply ret_i | apply ret_n); (simp only [Nat.reduceEqDiff, Nat.reduceAdd, ↓reduceIte, xBB, resA, opdA, opdO, plainN, omap, val, loadV, readA, packA]; rfl))
    simp only [packR, readyR, if_pos hc, ne_eq, hc, not_false_eq_true, if_true]
end Go.Ev

/- slices.Clone, graph.listed. -/
namespace Go.Ev
open Go Go.Proofs
set_option linter.unusedSimpArgs false
set_option linter.unusedVariables false
set_option maxRecDepth 100000
set_option maxHeartbeats 4000000
attribute [local irreducible] wpOps wpC wpD wpF wpLoop wpCall seqK blockK loopK retK T.put T.get T.setF

theorem eqA_slice {P : Program} {t e : TypeId} {b : Option Addr} {n c : Nat} (h : P.underlying t = some (.slice e)) : eqA P 10000 t (.slice b n c) (.slice none 0 0) = some b.isNone := by
  show eqA P (9999 + 1) t _ _ = _
  unfold eqA
  rw [h]
  cases b <;> rfl

/-- The slice of an own block is its own. -/
def newer (s : HS) (o : Option Nat) : Prop := ∀ id, o = some id → s.nx ≤ id

theorem f70_spec [Sorts Tryd.prog] (l : List Int) (lv : Value) (s : HS) (hs : Sl s 1 lv (l.map encI)) (hl : l.length < 1000000000) :
    wpF Tryd.prog s.nx 70 [lv] s (fun v s' => ∃ o, Own s' 3 1 o v (l.map encI) ∧ newer s o) := by
  obtain ⟨b, c, rfl⟩ := hs.shape
  refine wpF_of Tryd.func70 rfl rfl rfl rfl (Nat.le_refl _) ?_
  simp only [paramsA]
  cases b with
  | none =>
    have hnil : l = [] := by
      cases l with
      | nil => rfl
      | cons x l =>
        obtain ⟨_, _, _, _, _, h, _⟩ := hs.at (i := 0) (x := encI x) rfl
        cases h
    repeat (first
  | with_reducible first | refine st (by constructor) ?_ | apply c_region
  | (with_reducible apply k_block_on
     · decide)
  | ((with_reducible first | apply xOp | apply xDr | apply xIf); rfl; (simp only [Nat.reduceEqDiff, Nat.reduceAdd, ↓reduceIte, xBB, stG, undef, opA, val, opdA, opdO, plainN, omap, binA, intBinA, loadV, readA, storeV, writeA, fieldAddrA, indexAddrA, lenA, builtinA, newA, unA, packA, Value.cells, eqGuardA, eqA_slice un35, Option.isNone]; rfl); first | rfl | exact ⟨rfl, rfl, rfl⟩))
    intro _
    ((with_reducible first | apply ret_i | apply ret_n); (simp only [Nat.reduceEqDiff, Nat.reduceAdd, ↓reduceIte, xBB, resA, opdA, opdO, plainN, omap, val, loadV, readA, packA]; rfl))
    exact ⟨none, ⟨by rw [hnil]; rfl, rfl⟩, fun _ h => by cases h⟩
  | some a =>
    repeat (first
  | with_reducible first | refine st (by constructor) ?_ | apply c_region
  | (with_reducible apply k_block_on
     · decide)
  | ((with_reducible first | apply xOp | apply xDr | apply xIf); rfl; (simp only [Nat.reduceEqDiff, Nat.reduceAdd, ↓reduceIte, xBB, stG, undef, opA, val, opdA, opdO, plainN, omap, binA, intBinA, loadV, readA, storeV, writeA, fieldAddrA, indexAddrA, lenA, builtinA, newA, unA, packA, Value.cells, eqGuardA, eqA_slice un35, Option.isNone, buildSliceA, el35, sz3, zr3, zerosL, fillA]; rfl); first | rfl | exact ⟨rfl, rfl, rfl⟩))
    ((with_reducible first | apply ops_opt | apply xPd); (first | rfl | exact ⟨rfl, rfl⟩); (simp only [Nat.reduceEqDiff, Nat.reduceAdd, ↓reduceIte, xBB, opA, val, opdA, opdO, plainN, omap, binA, intBinA, loadV, readA, storeV, writeA, fieldAddrA, indexAddrA, lenA, builtinA, newA, unA, packA, Value.cells, un35]; rfl))
    have hown : Own { hp := s.hp.put s.nx (some (.cells true 3 [])), nx := s.nx + 1 } 3 1 (some s.nx) (.slice (some ⟨s.nx, 0, none⟩) 0 0) [] :=
      Own.block (T.get_put_eq _ _ _) rfl (Nat.lt_succ_self _) rfl (Or.inl rfl) (fun x hx => by cases hx) (by unfold UNK; simp)
    have hs2 := hs.keep (Ab.new s (.cells true 3 []))
    refine opt_ex (app_own (lk := s.nx) el35 sz3 by3 zr3 rfl (by decide) hown (fun id h => by cases h; exact Nat.le_refl _) hs2.len (fun h => hs2.first h) ?_ ?_) fun q hq => ?_
    · intro y hy; obtain ⟨x, _, rfl⟩ := List.mem_map.1 hy; exact ⟨rfl, rfl⟩
    · simp; omega
    obtain ⟨v, s1⟩ := q
    obtain ⟨h1, h2, o', h3, h4⟩ := hq
    refine opt_of rfl ?_
    repeat (first
  | with_reducible first | refine st (by constructor) ?_ | apply c_region
  | (with_reducible apply k_block_on
     · decide)
  | ((with_reducible first | apply xOp | apply xDr | apply xIf); rfl; (simp only [Nat.reduceEqDiff, Nat.reduceAdd, ↓reduceIte, xBB, stG, undef, opA, val, opdA, opdO, plainN, omap, binA, intBinA, loadV, readA, storeV, writeA, fieldAddrA, indexAddrA, lenA, builtinA, newA, unA, packA, Value.cells]; rfl); first | rfl | exact ⟨rfl, rfl, rfl⟩))
    intro _
    ((with_reducible first | apply ret_i | apply ret_n); (simp only [Nat.reduceEqDiff, Nat.reduceAdd, ↓reduceIte, xBB, resA, opdA, opdO, plainN, omap, val, loadV, readA, packA]; rfl))
    refine ⟨o', h3, fun id h => ?_⟩
    rcases h4 with rfl | rfl <;> cases h
    · exact Nat.le_refl _
    · exact Nat.le_succ _

def encB (b : Bool) : List Value := [.bool b]
/-- The places of a list that are true, from a number on. -/
def listedL : Int → List Bool → List Int
  | _, [] => []
  | k, b :: l => if b then k :: listedL (k + 1) l else listedL (k + 1) l

theorem listedL_len (k : Int) (l : List Bool) : (listedL k l).length ≤ l.length := by
  induction l generalizing k with
  | nil => exact Nat.le_refl _
  | cons b l ih =>
    have := ih (k + 1)
    unfold listedL
    split
    · simp only [List.length_cons]; omega
    · simp only [List.length_cons]; omega

theorem f58_spec [Sorts Tryd.prog] (l : List Bool) (lv : Value) (s : HS) (hs : Sl s 1 lv (l.map encB)) (hl : l.length < 100000000) :
    wpF Tryd.prog s.nx 58 [lv] s (fun v s' => ∃ o, Own s' 3 1 o v ((listedL 0 l).map encI) ∧ newer s o) := by
  obtain ⟨b, c, rfl⟩ := hs.shape
  refine wpF_of Tryd.func58 rfl rfl rfl rfl (Nat.le_refl _) ?_
  simp only [paramsA]
  repeat (first
  | with_reducible first | refine st (by constructor) ?_ | apply c_region
  | (with_reducible apply k_block_on
     · decide)
  | ((with_reducible first | apply xOp | apply xDr | apply xIf); rfl; (simp only [Nat.reduceEqDiff, Nat.reduceAdd, ↓reduceIte, xBB, stG, undef, opA, val, opdA, opdO, plainN, omap, binA, intBinA, loadV, readA, storeV, writeA, fieldAddrA, indexAddrA, lenA, builtinA, newA, unA, packA, Value.cells, un95]; rfl); first | rfl | exact ⟨rfl, rfl, rfl⟩))
  refine loop_k (lk' := s.nx) (s0 := s) (fun m f t => ∃ k : Nat, k + m = l.length ∧ f.get 8 = some (.int .i64 k) ∧
    ∃ o v xs, f.get 3 = some v ∧ Own t 3 1 o v (xs.map encI) ∧ newer s o ∧ xs.length ≤ k ∧ xs ++ listedL k (l.drop k) = listedL 0 l) l.length (Nat.le_refl _) (Nat.le_refl _) ?_ (Ab.refl _ _) ?_
  · exact ⟨0, by omega, by simp only [Nat.reduceEqDiff, T.get_put, ↓reduceIte]; rfl, none, .slice none 0 0, [], by simp only [Nat.reduceEqDiff, T.get_put, ↓reduceIte], ⟨rfl, rfl⟩, fun _ h => (by cases h), Nat.le_refl _, rfl⟩
  · rintro m f t ⟨k, hk, h8, o, v, xs, h3, hown, hnew, hxl, hxs⟩ hA hF
    (have k6 := hF 6 (by rfl); simp only [Nat.reduceEqDiff, T.get_put, ↓reduceIte] at k6; have k7 := hF 7 (by rfl); simp only [Nat.reduceEqDiff, T.get_put, ↓reduceIte] at k7)
    by_cases hlt : (k : Int) < ((l.map encB).length : Int)
    · have hlt' : k < l.length := by simp at hlt; omega
      have hs2 := hs.keep hA
      obtain ⟨id, off, wr, e, cs, rfl, g1, g2, g3, g4⟩ := hs2.at (i := k) (x := encB l[k]) (by simp [hlt'])
      have hb : (0 : Int) ≤ (k : Int) ∧ (k : Int) < ((l.map encB).length : Int) := ⟨by omega, hlt⟩
      simp only [encB] at g3
      have hw : IntKind.i64.wrap ((k : Int) + 1) = ((k + 1 : Nat) : Int) := by rw [IntWalk.i64_in _ (by omega)]; rfl
      have hd : l.drop k = l[k] :: l.drop (k + 1) := List.drop_eq_getElem_cons hlt'
      by_cases hp : l[k] = true
      · repeat (first
  | with_reducible first | refine st (by constructor) ?_ | apply c_region
  | (with_reducible apply k_block_on
     · decide)
  | ((with_reducible first | apply xOp | apply xDr | apply xIf); rfl; (simp only [Nat.reduceEqDiff, Nat.reduceAdd, ↓reduceIte, xBB, stG, undef, opA, val, opdA, opdO, plainN, omap, binA, intBinA, loadV, readA, storeV, writeA, fieldAddrA, indexAddrA, lenA, builtinA, newA, unA, packA, Value.cells, h8, k7, k6, hlt, un95, sz4, ty4, hb, g1, g3, hp, h3, buildSliceA, el35, sz3, zr3, zerosL, fillA, putL]; rfl); first | rfl | exact ⟨rfl, rfl, rfl⟩))
        ((with_reducible first | apply ops_opt | apply xPd); (first | rfl | exact ⟨rfl, rfl⟩); (simp only [Nat.reduceEqDiff, Nat.reduceAdd, ↓reduceIte, xBB, opA, val, opdA, opdO, plainN, omap, binA, intBinA, loadV, readA, storeV, writeA, fieldAddrA, indexAddrA, lenA, builtinA, newA, unA, packA, Value.cells, un35, h3]; rfl))
        have hown2 : Own { hp := t.hp.put t.nx (some (.cells true 3 [.int .i64 k])), nx := t.nx + 1 } 3 1 o v (xs.map encI) :=
          hown.same (Nat.le_succ _) fun id h => T.get_put_ne _ _ _ (by have := hown.lt h; omega)
        refine opt_ex (app_one (lk := s.nx) (y := [.int .i64 k]) el35 sz3 by3 zr3 rfl (by decide) hown2 hnew (T.get_put_eq _ _ _) rfl rfl (by simp; omega)) fun q hq => ?_
        obtain ⟨v', s1⟩ := q
        obtain ⟨q1, q2, o', q3, q4⟩ := hq
        refine opt_of rfl ?_
        repeat (first
  | with_reducible first | refine st (by constructor) ?_ | apply c_region
  | (with_reducible apply k_block_on
     · decide)
  | ((with_reducible first | apply xOp | apply xDr | apply xIf); rfl; (simp only [Nat.reduceEqDiff, Nat.reduceAdd, ↓reduceIte, xBB, stG, undef, opA, val, opdA, opdO, plainN, omap, binA, intBinA, loadV, readA, storeV, writeA, fieldAddrA, indexAddrA, lenA, builtinA, newA, unA, packA, Value.cells, hw, h8]; rfl); first | rfl | exact ⟨rfl, rfl, rfl⟩))
        intro _ _
        refine k_loop_next (m' := m - 1) (by omega) ⟨k + 1, by omega, by simp only [Nat.reduceEqDiff, T.get_put, ↓reduceIte], o', v', xs ++ [(k : Int)], by simp only [Nat.reduceEqDiff, T.get_put, ↓reduceIte], ?_, ?_, by simp; omega, ?_⟩
        · rw [List.map_append]; exact q3
        · intro id h
          rcases q4 with rfl | rfl
          · exact hnew id h
          · cases h; have := hA.nx; show s.nx ≤ t.nx + 1; omega
        · rw [← hxs, hd, listedL, hp, if_pos rfl, List.append_assoc]; rfl
      · simp only [Bool.not_eq_true] at hp
        repeat (first
  | with_reducible first | refine st (by constructor) ?_ | apply c_region
  | (with_reducible apply k_block_on
     · decide)
  | ((with_reducible first | apply xOp | apply xDr | apply xIf); rfl; (simp only [Nat.reduceEqDiff, Nat.reduceAdd, ↓reduceIte, xBB, stG, undef, opA, val, opdA, opdO, plainN, omap, binA, intBinA, loadV, readA, storeV, writeA, fieldAddrA, indexAddrA, lenA, builtinA, newA, unA, packA, Value.cells, h8, k7, k6, hlt, un95, sz4, ty4, hb, g1, g3, hp, hw]; rfl); first | rfl | exact ⟨rfl, rfl, rfl⟩))
        intro _ _
        refine k_loop_next (m' := m - 1) (by omega) ⟨k + 1, by omega, by simp only [Nat.reduceEqDiff, T.get_put, ↓reduceIte], o, v, xs, by simp only [Nat.reduceEqDiff, T.get_put, ↓reduceIte, h3], hown, hnew, by omega, ?_⟩
        rw [← hxs, hd, listedL, hp, if_neg (by simp)]; rfl
    · repeat (first
  | with_reducible first | refine st (by constructor) ?_ | apply c_region
  | (with_reducible apply k_block_on
     · decide)
  | ((with_reducible first | apply xOp | apply xDr | apply xIf); rfl; (simp only [Nat.reduceEqDiff, Nat.reduceAdd, ↓reduceIte, xBB, stG, undef, opA, val, opdA, opdO, plainN, omap, binA, intBinA, loadV, readA, storeV, writeA, fieldAddrA, indexAddrA, lenA, builtinA, newA, unA, packA, Value.cells, h8, k7, hlt]; rfl); first | rfl | exact ⟨rfl, rfl, rfl⟩))
      intro _ _
      repeat (first
  | with_reducible first | refine st (by constructor) ?_ | apply c_region
  | (with_reducible apply k_block_on
     · decide)
  | ((with_reducible first | apply xOp | apply xDr | apply xIf); rfl; (simp only [Nat.reduceEqDiff, Nat.reduceAdd, ↓reduceIte, xBB, stG, undef, opA, val, opdA, opdO, plainN, omap, binA, intBinA, loadV, readA, storeV, writeA, fieldAddrA, indexAddrA, lenA, builtinA, newA, unA, packA, Value.cells, h3]; rfl); first | rfl | exact ⟨rfl, rfl, rfl⟩))
      intro _
      ((with_reducible first | apply ret_i | apply ret_n); (simp only [Nat.reduceEqDiff, Nat.reduceAdd, ↓reduceIte, xBB, resA, opdA, opdO, plainN, omap, val, loadV, readA, packA]; rfl))
      refine ⟨o, ?_, hnew⟩
      have : l.drop k = [] := by rw [List.drop_eq_nil_iff]; simp at hlt; omega
      rw [this, listedL, List.append_nil] at hxs
      rw [← hxs]; exact hown
end Go.Ev

/- graph.next. -/
namespace Go.Ev
open Go Go.Proofs
set_option linter.unusedSimpArgs false
set_option linter.unusedVariables false
set_option maxRecDepth 100000
set_option maxHeartbeats 4000000
attribute [local irreducible] wpOps wpC wpD wpF wpLoop wpCall seqK blockK loopK retK T.put T.get T.setF

/-- A list of numbers in a block of its own. -/
structure Row where
  o : Option Nat
  v : Value
  xs : List Int

def RowsOK (t : HS) (lo ob : Nat) (rs : List Row) : Prop :=
  (∀ r ∈ rs, Own t 3 1 r.o r.v (r.xs.map encI) ∧ ∀ id, r.o = some id → lo ≤ id ∧ id ≠ ob) ∧
  ∀ (i j : Nat) (ri rj : Row), rs[i]? = some ri → rs[j]? = some rj → i ≠ j → ∀ id, ri.o = some id → rj.o ≠ some id

theorem RowsOK.set {t u : HS} {lo ob i : Nat} {rs : List Row} {r r' : Row} (h : RowsOK t lo ob rs) (hi : rs[i]? = some r) (hn : t.nx ≤ u.nx) (hlo : lo ≤ t.nx) (hob : ob < t.nx)
    (hsame : ∀ id, id < t.nx → r.o ≠ some id → id ≠ ob → u.hp.get id = t.hp.get id) (hown : Own u 3 1 r'.o r'.v (r'.xs.map encI)) (ho : ∀ id, r'.o = some id → r.o = some id ∨ t.nx ≤ id) : RowsOK u lo ob (rs.set i r') := by
  have hil : i < rs.length := (List.getElem?_eq_some_iff.1 hi).1
  have key : ∀ j rj, (rs.set i r')[j]? = some rj → (j = i ∧ rj = r') ∨ (j ≠ i ∧ rs[j]? = some rj) := fun j rj hj => by
    rw [List.getElem?_set] at hj
    by_cases hji : i = j
    · rw [if_pos hji, if_pos hil] at hj; cases hj; exact Or.inl ⟨hji.symm, rfl⟩
    · rw [if_neg hji] at hj; exact Or.inr ⟨fun e => hji e.symm, hj⟩
  refine ⟨fun q hq => ?_, fun a b ra rb ha hb hab id h1 h2 => ?_⟩
  · obtain ⟨j, hj⟩ := List.getElem?_of_mem hq
    rcases key j q hj with ⟨rfl, rfl⟩ | ⟨hne, hj'⟩
    · refine ⟨hown, fun id h1 => ?_⟩
      rcases ho id h1 with h2 | h2
      · exact (h.1 r (List.mem_of_getElem? hi)).2 id h2
      · exact ⟨by omega, by omega⟩
    · obtain ⟨g1, g2⟩ := h.1 q (List.mem_of_getElem? hj')
      exact ⟨g1.same hn fun id h1 => hsame id (g1.lt h1) (fun e => h.2 i j r q hi hj' (fun e => hne e.symm) id e h1) (g2 id h1).2, g2⟩
  · rcases key a ra ha with ⟨rfl, rfl⟩ | ⟨ha1, ha2⟩ <;> rcases key b rb hb with ⟨rfl, rfl⟩ | ⟨hb1, hb2⟩
    · exact hab rfl
    · rcases ho id h1 with h3 | h3
      · exact h.2 _ _ r rb hi hb2 hab id h3 h2
      · have := (h.1 rb (List.mem_of_getElem? hb2)).1.lt h2; omega
    · rcases ho id h2 with h3 | h3
      · exact h.2 _ _ ra r ha2 hi hab id h1 h3
      · have := (h.1 ra (List.mem_of_getElem? ha2)).1.lt h1; omega
    · exact h.2 _ _ ra rb ha2 hb2 hab id h1 h2

/-- A graph in which the edges join its nodes. -/
structure GoodG (n : Int) (es : List (Int × Int)) : Prop where
  lo : 0 ≤ n
  hi : n ≤ 64
  len : es.length ≤ 4096
  ins : ∀ e ∈ es, 0 ≤ e.1 ∧ e.1 < n ∧ 0 ≤ e.2 ∧ e.2 < n

/-- Where edges lead from a node, in their order. -/
def succL (es : List (Int × Int)) (k : Int) : List Int := (es.filter fun e => decide (e.1 = k)).map (·.2)

theorem succL_take {es : List (Int × Int)} {k : Nat} (hk : k < es.length) (i : Int) : succL (es.take (k + 1)) i = if es[k].1 = i then succL (es.take k) i ++ [es[k].2] else succL (es.take k) i := by
  unfold succL
  rw [List.take_succ_eq_append_getElem hk, List.filter_append, List.map_append]
  by_cases h : es[k].1 = i
  · rw [if_pos h, List.filter_cons_of_pos (by simpa using h)]; rfl
  · rw [if_neg h, List.filter_cons_of_neg (by simpa using h)]; simp

theorem zerosL_map (z : Value) (n : Nat) : zerosL [z] n = ((List.replicate n [z]).flatten : List Value) := by
  induction n with
  | zero => rfl
  | succ n ih => rw [zerosL, ih, List.replicate_succ, List.flatten_cons]

theorem f69_spec [Sorts Tryd.prog] (n : Int) (es : List (Int × Int)) (ev : Value) (s : HS) (hs : Sl s 2 ev (es.map encE)) (hg : GoodG n es) :
    wpF Tryd.prog s.nx 69 [vG n ev] s (fun v s' => ∃ (ob : Nat) (rs : List Row), s.nx ≤ ob ∧ Own s' 35 1 (some ob) v (rs.map fun r => [r.v]) ∧ RowsOK s' s.nx ob rs ∧ rs.length = n.toNat ∧ ∀ (i : Nat) (r : Row), rs[i]? = some r → r.xs = succL es i) := by
  obtain ⟨b, c, rfl⟩ := hs.shape
  obtain ⟨hn0, hn1, hlen, hins⟩ := hg
  refine wpF_of Tryd.func69 rfl rfl rfl rfl (Nat.le_refl _) ?_
  simp only [paramsA, vG]
  have hA0 := Ab.new (lk := s.nx) s (.cells true 28 [.int .i64 n, .slice b (es.map encE).length c])
  have hmk : makeSliceA Tryd.prog 30 (.int .i64 n) (.int .i64 n) { hp := s.hp.put s.nx (some (.cells true 28 [.int .i64 n, .slice b (es.map encE).length c])), nx := s.nx + 1 } =
      some (.slice (some ⟨s.nx + 1, 0, none⟩) n.toNat n.toNat, { hp := (s.hp.put s.nx (some (.cells true 28 [.int .i64 n, .slice b (es.map encE).length c]))).put (s.nx + 1) (some (.cells true 35 (zerosL [.slice none 0 0] n.toNat))), nx := s.nx + 1 + 1 }) := by
    unfold makeSliceA
    simp only [el30, sz35, by35, zr35, Option.bind_some]
    rw [if_pos ⟨rfl, by decide, by omega, Int.le_refl _, by omega, by omega⟩]
    rfl
  repeat (first
  | with_reducible first | refine st (by constructor) ?_ | apply c_region
  | (with_reducible apply k_block_on
     · decide)
  | ((with_reducible first | apply xOp | apply xDr | apply xIf); rfl; (simp only [Nat.reduceEqDiff, Nat.reduceAdd, ↓reduceIte, xBB, stG, undef, opA, val, opdA, opdO, plainN, omap, binA, intBinA, loadV, readA, storeV, writeA, fieldAddrA, indexAddrA, lenA, builtinA, newA, unA, packA, Value.cells, ty28, sz28, fd28_0, fd28_1, ty3, ty26, un26, hmk]; rfl); first | rfl | exact ⟨rfl, rfl, rfl⟩))
  have hA1 := Ab.new (lk := s.nx) { hp := s.hp.put s.nx (some (.cells true 28 [.int .i64 n, .slice b (es.map encE).length c])), nx := s.nx + 1 } (.cells true 35 (zerosL [.slice none 0 0] n.toNat))
  refine loop_k (lk' := s.nx) (s0 := ⟨_, s.nx + 2⟩) (fun m f t => ∃ k : Nat, k + m = es.length ∧ f.get 12 = some (.int .i64 k) ∧
    ∃ rs : List Row, Own t 35 1 (some (s.nx + 1)) (.slice (some ⟨s.nx + 1, 0, none⟩) n.toNat n.toNat) (rs.map fun r => [r.v]) ∧ RowsOK t s.nx (s.nx + 1) rs ∧ rs.length = n.toNat ∧
      ∀ (i : Nat) (r : Row), rs[i]? = some r → r.xs = succL (es.take k) i) es.length (Nat.le_refl _) (by show s.nx ≤ s.nx + 2; omega) ?_ (Ab.refl _ _) ?_
  · refine ⟨0, by omega, by simp only [Nat.reduceEqDiff, T.get_put, ↓reduceIte]; rfl, List.replicate n.toNat ⟨none, .slice none 0 0, []⟩, ?_, ⟨fun r hr => ?_, fun i j ri rj h1 h2 _ id h3 => ?_⟩, by simp, fun i r hr => ?_⟩
    · refine Own.block (T.get_put_eq _ _ _) ?_ (Nat.lt_succ_self _) (by simp) (Or.inl rfl) (fun x hx => ?_) (by simp only [List.length_map, List.length_replicate]; unfold UNK; omega)
      · rw [zerosL_map, List.map_replicate]
      · rw [List.map_replicate] at hx; obtain rfl := (List.mem_replicate.1 hx).2; exact ⟨rfl, rfl⟩
    · obtain rfl := (List.mem_replicate.1 hr).2; exact ⟨⟨rfl, rfl⟩, fun id h => by cases h⟩
    · obtain rfl := (List.mem_replicate.1 (List.mem_of_getElem? h1)).2; cases h3
    · obtain rfl := (List.mem_replicate.1 (List.mem_of_getElem? hr)).2; rfl
  · rintro m f t ⟨k, hk, h12, rs, hob, hrows, hrl, hxs⟩ hA hF
    (have k3 := hF 3 (by rfl); simp only [Nat.reduceEqDiff, T.get_put, ↓reduceIte] at k3; have k10 := hF 10 (by rfl); simp only [Nat.reduceEqDiff, T.get_put, ↓reduceIte] at k10; have k11 := hF 11 (by rfl); simp only [Nat.reduceEqDiff, T.get_put, ↓reduceIte] at k11)
    by_cases hlt : (k : Int) < ((es.map encE).length : Int)
    · have hlt' : k < es.length := by simp at hlt; omega
      have hs2 := hs.keep ((hA0.trans hA1).trans hA)
      obtain ⟨id, off, wr, e, cs, rfl, g1, g2, g3, g4⟩ := hs2.at (i := k) (x := encE es[k]) (by simp [hlt'])
      have hb : (0 : Int) ≤ (k : Int) ∧ (k : Int) < ((es.map encE).length : Int) := ⟨by omega, hlt⟩
      simp only [encE] at g3
      obtain ⟨q1, q2, q3, q4⟩ := hins es[k] (List.getElem_mem hlt')
      obtain ⟨i, hi⟩ : ∃ i : Nat, es[k].1 = (i : Int) := ⟨es[k].1.toNat, by omega⟩
      rw [hi] at g3
      have hir : i < rs.length := by omega
      have hri : rs[i]? = some rs[i] := List.getElem?_eq_getElem hir
      have hb2 : (0 : Int) ≤ (i : Int) ∧ (i : Int) < (n.toNat : Int) := by omega
      obtain ⟨_, _, wr2, e2, cs2, hh, o1, o2, o3, o4⟩ := hob.sl.at (i := i) (x := [rs[i].v]) (by simp [hir])
      simp only [Option.some.injEq, Addr.mk.injEq] at hh; obtain ⟨rfl, rfl, _⟩ := hh
      have hne1 : ¬ id = t.nx := by omega
      have hne2 : ¬ s.nx + 1 = t.nx := by omega
      have hle : s.nx ≤ t.nx := by omega
      repeat (first
  | with_reducible first | refine st (by constructor) ?_ | apply c_region
  | (with_reducible apply k_block_on
     · decide)
  | ((with_reducible first | apply xOp | apply xDr | apply xIf); rfl; (simp only [Nat.reduceEqDiff, Nat.reduceAdd, ↓reduceIte, xBB, stG, undef, opA, val, opdA, opdO, plainN, omap, binA, intBinA, loadV, readA, storeV, writeA, fieldAddrA, indexAddrA, lenA, builtinA, newA, unA, packA, Value.cells, h12, k11, k10, hlt, un26, sz58, ty58, zr58, hb, g1, g3, hne1, hne2, hle]; rfl); first | rfl | exact ⟨rfl, rfl, rfl⟩))
      refine c_draw [⟨false, [], none⟩, ⟨false, [], none⟩, ⟨false, [], some [2]⟩, ⟨false, [], none⟩, ⟨false, [], none⟩, ⟨false, [], none⟩, ⟨false, [], none⟩, ⟨false, [], none⟩, ⟨false, [], none⟩, ⟨false, [5, 7], none⟩, ⟨false, [5, 7], none⟩, ⟨true, [2], none⟩, ⟨true, [], none⟩, ⟨true, [], none⟩] (by kernel_rfl) ?_
      repeat (first
      | with_reducible first | apply ops_end | apply d_end | apply k_seq | apply k_seq_ret | apply k_seq_exit | apply k_block | apply k_block_ret | apply k_block_here | apply c_seq | apply c_block | apply c_region | apply c_skip | apply c_ret | apply c_exit | apply c_loop | apply k_loop_exit | apply k_loop_ret
      | (with_reducible apply k_block_on
         · decide)
      | ((first
          | (with_reducible apply ops_do
             · rfl)
          | (with_reducible apply d_same
             · rfl
             · rfl))
         · (simp only [Nat.reduceEqDiff, opA, val, opdA, opdO, T.get_put, ↓reduceIte, Nat.add_assoc, Nat.reduceAdd, Nat.left_eq_add, Nat.add_eq_left, Nat.add_left_cancel_iff, Nat.add_zero, plainN, omap, Option.map_some, Option.bind_some, Nat.le_add_right, Nat.le_refl, binA, intBinA, loadV, readA, storeV, writeA, fieldAddrA, indexAddrA, lenA, builtinA, newA, unA, packA, if_true, and_self, and_true, true_and, Value.cells, Int.toNat_natCast, decide_true, decide_false, cond_true, cond_false, k3, fd58_0, fd58_1, ty3, un30, sz35, ty35, hb2, o1, hne2, o3, buildSliceA, el35, sz3, zr3, zerosL, fillA, putL]; rfl)
         · rfl
         try (· rfl))
      | ((first
          | (with_reducible apply d_do
             · rfl
             · rfl)
          | (with_reducible apply d_quiet
             · rfl
             · rfl
             · rfl))
         · (simp only [Nat.reduceEqDiff, opA, val, opdA, opdO, T.get_put, ↓reduceIte, Nat.add_assoc, Nat.reduceAdd, Nat.left_eq_add, Nat.add_eq_left, Nat.add_left_cancel_iff, Nat.add_zero, plainN, omap, Option.map_some, Option.bind_some, Nat.le_add_right, Nat.le_refl, binA, intBinA, loadV, readA, storeV, writeA, fieldAddrA, indexAddrA, lenA, builtinA, newA, unA, packA, if_true, and_self, and_true, true_and, Value.cells, Int.toNat_natCast, decide_true, decide_false, cond_true, cond_false, k3, fd58_0, fd58_1, ty3, un30, sz35, ty35, hb2, o1, hne2, o3, buildSliceA, el35, sz3, zr3, zerosL, fillA, putL]; rfl)
         first
         | · rfl
         | (· (simp only [Nat.reduceEqDiff, loadBlk, opdA, T.get_put, ↓reduceIte, k3, fd58_0, fd58_1, ty3, un30, sz35, ty35, hb2, o1, hne2, o3, buildSliceA, el35, sz3, zr3, zerosL, fillA, putL]; rfl)
            · rfl))
      | ((first
          | with_reducible apply ops_skipG
          | (with_reducible apply d_skip
             · rfl))
         · rfl
         · rfl
         · (simp only [Nat.reduceEqDiff, T.get_put, ↓reduceIte, k3, fd58_0, fd58_1, ty3, un30, sz35, ty35, hb2, o1, hne2, o3, buildSliceA, el35, sz3, zr3, zerosL, fillA, putL]; rfl)
         · (simp only [decide_true, decide_false, k3, fd58_0, fd58_1, ty3, un30, sz35, ty35, hb2, o1, hne2, o3, buildSliceA, el35, sz3, zr3, zerosL, fillA, putL, bt_tf, bt_ft, bt_tt, bt_ff]; done)
         · rfl)
      | ((first
          | with_reducible apply ops_doG
          | (with_reducible apply d_sameG
             · rfl))
         · rfl
         · rfl
         · (simp only [Nat.reduceEqDiff, T.get_put, ↓reduceIte, k3, fd58_0, fd58_1, ty3, un30, sz35, ty35, hb2, o1, hne2, o3, buildSliceA, el35, sz3, zr3, zerosL, fillA, putL]; rfl)
         · (simp only [decide_true, decide_false, k3, fd58_0, fd58_1, ty3, un30, sz35, ty35, hb2, o1, hne2, o3, buildSliceA, el35, sz3, zr3, zerosL, fillA, putL, bt_tf, bt_ft, bt_tt, bt_ff]; done)
         · (simp only [Nat.reduceEqDiff, opA, val, opdA, opdO, T.get_put, ↓reduceIte, Nat.add_assoc, Nat.reduceAdd, Nat.left_eq_add, Nat.add_eq_left, Nat.add_left_cancel_iff, Nat.add_zero, plainN, omap, Option.map_some, Option.bind_some, Nat.le_add_right, Nat.le_refl, binA, intBinA, loadV, readA, storeV, writeA, fieldAddrA, indexAddrA, lenA, builtinA, newA, unA, packA, if_true, and_self, and_true, true_and, Value.cells, Int.toNat_natCast, decide_true, decide_false, cond_true, cond_false, k3, fd58_0, fd58_1, ty3, un30, sz35, ty35, hb2, o1, hne2, o3, buildSliceA, el35, sz3, zr3, zerosL, fillA, putL]; rfl)
         · rfl
         try (· rfl))
      | (with_reducible apply c_if
         · (simp only [Nat.reduceEqDiff, opdA, opdO, T.get_put, ↓reduceIte, Nat.add_assoc, Nat.reduceAdd, Nat.left_eq_add, Nat.add_eq_left, Nat.add_left_cancel_iff, Nat.add_zero, plainN, omap, Option.map_some, Option.bind_some, Nat.le_add_right, Nat.le_refl, decide_true, decide_false, k3, fd58_0, fd58_1, ty3, un30, sz35, ty35, hb2, o1, hne2, o3, buildSliceA, el35, sz3, zr3, zerosL, fillA, putL]; rfl)
         with_reducible first | apply if_t | apply if_f))
      obtain ⟨hrow, hrlo⟩ := hrows.1 rs[i] (List.getElem_mem hir)
      have hxi := hxs i rs[i] hri
      have hxl : rs[i].xs.length ≤ es.length := by
        rw [hxi]; unfold succL
        rw [List.length_map]
        exact Nat.le_trans (List.length_filter_le _ _) (by rw [List.length_take]; omega)
      refine d_hid rfl rfl rfl fun sh hshn hshg => ⟨_, by simp only [Nat.reduceEqDiff, opA, val, opdA, opdO, T.get_put, ↓reduceIte, Nat.add_assoc, Nat.reduceAdd, Nat.left_eq_add, Nat.add_eq_left, Nat.add_left_cancel_iff, Nat.add_zero, plainN, omap, Option.map_some, Option.bind_some, Nat.le_add_right, Nat.le_refl, binA, intBinA, loadV, readA, storeV, writeA, fieldAddrA, indexAddrA, lenA, builtinA, newA, unA, packA, if_true, and_self, and_true, true_and, Value.cells, Int.toNat_natCast, decide_true, decide_false, cond_true, cond_false, un35]; rfl, ?_⟩
      have hrow2 : Own sh 3 1 rs[i].o rs[i].v (rs[i].xs.map encI) := hrow.same (by rw [hshn]; show t.nx ≤ t.nx + 2; omega) fun id h => by
        have := hrow.lt h
        rw [hshg, if_neg (by omega)]
        simp only [T.get_put]
        rw [if_neg (by omega), if_neg (by omega), if_neg (by omega)]
      have hy : sh.hp.get (t.nx + 1) = some (.cells true 3 [.int .i64 es[k].2]) := by
        rw [hshg, if_neg (by omega)]
        simp only [T.get_put, ↓reduceIte]; rfl
      refine opt_ex (app_one (lk := s.nx) (y := [.int .i64 es[k].2]) el35 sz3 by3 zr3 rfl (by decide) hrow2 (fun id h => (hrlo id h).1) hy rfl rfl (by simp; omega)) fun q hq => ?_
      obtain ⟨v', s5⟩ := q
      obtain ⟨p1, p2, o', p3, p4⟩ := hq
      dsimp only at p1 p2 p3
      intro s6 h6n h6g
      dsimp only at h6n h6g
      rw [hshn] at p1 p2
      dsimp only at p1 p2
      -- what is ars it was
      have hsame : ∀ id, id < t.nx → rs[i].o ≠ some id → s6.hp.get id = t.hp.get id := fun id h1 h2 => by
        rw [h6g, if_neg (by omega), p2 id (by omega) h2, hshg, if_neg (by omega)]
        simp only [T.get_put]
        rw [if_neg (by omega), if_neg (by omega), if_neg (by omega)]
      have hobs : s6.hp.get (s.nx + 1) = t.hp.get (s.nx + 1) := hsame _ o2 fun h => (hrlo _ h).2 rfl
      obtain ⟨off3, cap3, cs3, hh3, w1, w2, w3⟩ := hob.set (i := i) (x := [v']) (by simp [hir]) rfl (by
        obtain ⟨_, _, hv'⟩ := p3.shape
        rw [hv']; rfl)
      simp only [Value.slice.injEq, Option.some.injEq, Addr.mk.injEq] at hh3; obtain ⟨⟨_, rfl, _⟩, _, _⟩ := hh3
      obtain ⟨vb, vc, rfl⟩ := p3.shape
      rw [← hobs] at w1
      have hle3 : s.nx ≤ s.nx + 1 := Nat.le_succ _
      have hone : ([Value.slice vb (rs[i].xs.map encI ++ [[Value.int .i64 es[k].2]]).length vc] : List Value).all Value.oneCell' = true := rfl
      have hw : IntKind.i64.wrap ((k : Int) + 1) = ((k + 1 : Nat) : Int) := by rw [IntWalk.i64_in _ (by omega)]; rfl
      have hl1 : ([Value.slice vb (rs[i].xs.map encI ++ [[Value.int .i64 es[k].2]]).length vc] : List Value).length = 1 := rfl
      have w2' : 0 + (i * 1 + 1) ≤ cs3.length := by rw [← Nat.add_assoc]; exact w2
      refine opt_of rfl ?_
      repeat (first
  | with_reducible first | refine st (by constructor) ?_ | apply c_region
  | (with_reducible apply k_block_on
     · decide)
  | ((with_reducible first | apply xOp | apply xDr | apply xIf); rfl; (simp only [Nat.reduceEqDiff, Nat.reduceAdd, ↓reduceIte, xBB, stG, undef, opA, val, opdA, opdO, plainN, omap, binA, intBinA, loadV, readA, storeV, writeA, fieldAddrA, indexAddrA, lenA, builtinA, newA, unA, packA, Value.cells, k3, un30, sz35, ty35, hb2, w1, hl1, w2', hle3, hone, List.toList_toArray, h12, hw]; rfl); first | rfl | exact ⟨rfl, rfl, rfl⟩))
      intro _ _
      refine k_loop_next (m' := m - 1) (by omega) ⟨k + 1, by omega, by simp only [Nat.reduceEqDiff, T.get_put, ↓reduceIte], rs.set i ⟨o', .slice vb (rs[i].xs.map encI ++ [[Value.int .i64 es[k].2]]).length vc, rs[i].xs ++ [es[k].2]⟩, ?_, ?_, by simp [hrl], ?_⟩
      · rw [List.map_set]
        refine w3 _ ?_ (T.get_put_eq _ _ _)
        show t.nx ≤ s6.nx; omega
      · refine hrows.set hri (by show t.nx ≤ s6.nx; omega) hle o2 (fun id h1 h2 h3 => ?_) ?_ (fun id h => ?_)
        · show (T.put s6.hp _ _).get id = _
          rw [T.get_put_ne _ _ _ h3]
          exact hsame id h1 h2
        · refine (?_ : Own _ 3 1 o' _ ((rs[i].xs ++ [es[k].2]).map encI))
          rw [List.map_append]
          refine p3.same (by show s5.nx ≤ s6.nx; omega) fun id h => ?_
          have hlt2 := p3.lt h
          have hno : id ≠ s.nx + 1 ∧ id ≠ t.nx := by
            rcases p4 with rfl | rfl
            · have := hrow.lt h; exact ⟨(hrlo id h).2, by omega⟩
            · cases h; rw [hshn]; dsimp only; omega
          show (T.put s6.hp _ _).get id = _
          rw [T.get_put_ne _ _ _ hno.1, h6g, if_neg hno.2]
        · rcases p4 with rfl | rfl
          · exact Or.inl h
          · cases h; rw [hshn]; exact Or.inr (Nat.le_add_right _ _)
      · intro j r hr
        rw [succL_take hlt', hi]
        rw [List.getElem?_set] at hr
        by_cases hij : i = j
        · subst hij
          rw [if_pos rfl, if_pos hir] at hr; cases hr
          rw [if_pos rfl, ← hxi]
        · rw [if_neg hij] at hr
          rw [if_neg (by omega)]
          exact hxs j r hr
    · have hke : es.take k = es := List.take_of_length_le (by simp at hlt; omega)
      rw [hke] at hxs
      repeat (first
  | with_reducible first | refine st (by constructor) ?_ | apply c_region
  | (with_reducible apply k_block_on
     · decide)
  | ((with_reducible first | apply xOp | apply xDr | apply xIf); rfl; (simp only [Nat.reduceEqDiff, Nat.reduceAdd, ↓reduceIte, xBB, stG, undef, opA, val, opdA, opdO, plainN, omap, binA, intBinA, loadV, readA, storeV, writeA, fieldAddrA, indexAddrA, lenA, builtinA, newA, unA, packA, Value.cells, h12, k11, hlt]; rfl); first | rfl | exact ⟨rfl, rfl, rfl⟩))
      intro _ _
      repeat (first
  | with_reducible first | refine st (by constructor) ?_ | apply c_region
  | (with_reducible apply k_block_on
     · decide)
  | ((with_reducible first | apply xOp | apply xDr | apply xIf); rfl; (simp only [Nat.reduceEqDiff, Nat.reduceAdd, ↓reduceIte, xBB, stG, undef, opA, val, opdA, opdO, plainN, omap, binA, intBinA, loadV, readA, storeV, writeA, fieldAddrA, indexAddrA, lenA, builtinA, newA, unA, packA, Value.cells, k3]; rfl); first | rfl | exact ⟨rfl, rfl, rfl⟩))
      intro _
      ((with_reducible first | apply ret_i | apply ret_n); (simp only [Nat.reduceEqDiff, Nat.reduceAdd, ↓reduceIte, xBB, resA, opdA, opdO, plainN, omap, val, loadV, readA, packA]; rfl))
      exact ⟨s.nx + 1, rs, Nat.le_succ _, hob, hrows, hrl, hxs⟩
end Go.Ev

/- The plain law of graph.reach: a breadth-first search marks what is reached. -/
set_option linter.unusedSimpArgs false
set_option linter.unusedVariables false
namespace Go.Ev
open Go

/-- Edges lead from a to b. -/
inductive Rch (es : List (Int × Int)) : Int → Int → Prop
  | refl (a : Int) : Rch es a a
  | step {a b c : Int} (h : Rch es a b) (e : (b, c) ∈ es) : Rch es a c

theorem Rch.trans {es : List (Int × Int)} {a b c : Int} (h : Rch es a b) (k : Rch es b c) : Rch es a c := by
  induction k with
  | refl => exact h
  | step _ e ih => exact .step ih e

theorem Rch.inside {n : Int} {es : List (Int × Int)} (hg : GoodG n es) {a b : Int} (h : Rch es a b) (ha : 0 ≤ a ∧ a < n) : 0 ≤ b ∧ b < n := by
  induction h with
  | refl => exact ha
  | step _ e _ => exact ⟨(hg.ins _ e).2.2.1, (hg.ins _ e).2.2.2⟩

theorem mem_succL {es : List (Int × Int)} {k y : Int} : y ∈ succL es k ↔ (k, y) ∈ es := by
  unfold succL
  simp only [List.mem_map, List.mem_filter, decide_eq_true_eq]
  constructor
  · rintro ⟨⟨a, b⟩, ⟨h1, h2⟩, h3⟩; subst h2 h3; exact h1
  · intro h; exact ⟨(k, y), ⟨h, rfl⟩, rfl⟩

/-- The node x is marked. -/
def Mk (seen : List Bool) (x : Int) : Prop := 0 ≤ x ∧ seen[x.toNat]? = some true

theorem Mk.set {seen : List Bool} {i : Nat} (hi : i < seen.length) {x : Int} : Mk (seen.set i true) x ↔ Mk seen x ∨ x = (i : Int) := by
  unfold Mk
  rw [List.getElem?_set]
  by_cases h : i = x.toNat
  · rw [if_pos h, if_pos hi]
    constructor
    · rintro ⟨h1, _⟩; exact Or.inr (by omega)
    · rintro (h1 | h1)
      · exact ⟨h1.1, rfl⟩
      · exact ⟨by omega, rfl⟩
  · rw [if_neg h]
    constructor
    · exact Or.inl
    · rintro (h1 | h1)
      · exact h1
      · omega

theorem count_set : ∀ {seen : List Bool} {i : Nat}, seen[i]? = some false → (seen.set i true).count false + 1 = seen.count false := by
  intro seen
  induction seen with
  | nil => intro i h; simp at h
  | cons b l ih =>
    intro i h
    cases i with
    | zero =>
      simp only [List.getElem?_cons_zero, Option.some.injEq] at h; subst h
      simp
    | succ i =>
      simp only [List.getElem?_cons_succ] at h
      have := ih h
      rw [List.set_cons_succ, List.count_cons, List.count_cons]
      omega

/-- What holds while a search goes on: K are the nodes in hand. -/
structure Bfs (n : Int) (es : List (Int × Int)) (from_ : List Int) (queue : List Int) (seen : List Bool) (K : Int → Prop) : Prop where
  len : seen.length = n.toNat
  que : ∀ x ∈ queue, 0 ≤ x ∧ x < n ∧ Mk seen x
  frm : ∀ x ∈ from_, Mk seen x
  rch : ∀ x, Mk seen x → ∃ f ∈ from_, Rch es f x
  clo : ∀ x, Mk seen x → x ∈ queue ∨ K x ∨ ∀ y ∈ succL es x, Mk seen y

theorem Bfs.pop {n : Int} {es : List (Int × Int)} {from_ queue : List Int} {seen : List Bool} {k : Int} (h : Bfs n es from_ (k :: queue) seen fun _ => False) : Bfs n es from_ queue seen fun x => x = k where
  len := h.len
  que := fun x hx => h.que x (List.mem_cons_of_mem _ hx)
  frm := h.frm
  rch := h.rch
  clo := fun x hx => by
    rcases h.clo x hx with h1 | h1 | h1
    · rcases List.mem_cons.1 h1 with h2 | h2
      · exact Or.inr (Or.inl h2)
      · exact Or.inl h2
    · cases h1
    · exact Or.inr (Or.inr h1)

theorem Bfs.mark {n : Int} {es : List (Int × Int)} {from_ queue : List Int} {seen : List Bool} {k : Int} {i : Nat} (h : Bfs n es from_ queue seen fun x => x = k) (hk : Mk seen k) (hi : i < seen.length) (he : (k, (i : Int)) ∈ es) :
    Bfs n es from_ (queue ++ [(i : Int)]) (seen.set i true) fun x => x = k where
  len := by rw [List.length_set]; exact h.len
  que := fun x hx => by
    rcases List.mem_append.1 hx with h1 | h1
    · obtain ⟨a, b, c⟩ := h.que x h1; exact ⟨a, b, (Mk.set hi).2 (Or.inl c)⟩
    · obtain rfl := List.mem_singleton.1 h1
      have := h.len
      exact ⟨by omega, by omega, (Mk.set hi).2 (Or.inr rfl)⟩
  frm := fun x hx => (Mk.set hi).2 (Or.inl (h.frm x hx))
  rch := fun x hx => by
    rcases (Mk.set hi).1 hx with h1 | h1
    · exact h.rch x h1
    · obtain ⟨f, h2, h3⟩ := h.rch k hk
      exact ⟨f, h2, by rw [h1]; exact .step h3 he⟩
  clo := fun x hx => by
    rcases (Mk.set hi).1 hx with h1 | h1
    · rcases h.clo x h1 with h2 | h2 | h2
      · exact Or.inl (List.mem_append_left _ h2)
      · exact Or.inr (Or.inl h2)
      · exact Or.inr (Or.inr fun y hy => (Mk.set hi).2 (Or.inl (h2 y hy)))
    · exact Or.inl (List.mem_append_right _ (by rw [h1]; exact List.mem_singleton.2 rfl))

theorem Bfs.done1 {n : Int} {es : List (Int × Int)} {from_ queue : List Int} {seen : List Bool} {k : Int} (h : Bfs n es from_ queue seen fun x => x = k) (hk : ∀ y ∈ succL es k, Mk seen y) : Bfs n es from_ queue seen fun _ => False where
  len := h.len
  que := h.que
  frm := h.frm
  rch := h.rch
  clo := fun x hx => by
    rcases h.clo x hx with h1 | h1 | h1
    · exact Or.inl h1
    · exact Or.inr (Or.inr (by rw [h1]; exact hk))
    · exact Or.inr (Or.inr h1)

theorem Bfs.all {n : Int} {es : List (Int × Int)} {from_ : List Int} {seen : List Bool} (h : Bfs n es from_ [] seen fun _ => False) (x : Int) : Mk seen x ↔ ∃ f ∈ from_, Rch es f x := by
  refine ⟨h.rch x, ?_⟩
  rintro ⟨f, hf, hr⟩
  induction hr with
  | refl => exact h.frm _ hf
  | step _ e ih =>
    rcases h.clo _ ih with h1 | h1 | h1
    · cases h1
    · cases h1
    · exact h1 _ (mem_succL.2 e)
end Go.Ev
