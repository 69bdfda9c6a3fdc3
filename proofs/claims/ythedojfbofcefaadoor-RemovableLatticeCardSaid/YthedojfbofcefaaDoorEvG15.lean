import Derived.Test.YthedojfbofcefaaDoorEvG21
/- set.nodes, slices.Compare, removable.compare, limits.allows. -/
namespace Go.Ev
open Go Go.Proofs
set_option linter.unusedSimpArgs false
set_option linter.unusedVariables false
set_option maxRecDepth 100000
set_option maxHeartbeats 4000000
attribute [local irreducible] wpOps wpC wpD wpF wpLoop wpCall seqK blockK loopK retK T.put T.get T.setF

theorem f34_spec [Sorts Tryd.prog] (a : Nat) (s : HS) (hgl : Glob s) (ha : a < 18446744073709551616) : wpF Tryd.prog s.nx 34 [.int .u64 a] s (fun v s' => ∃ o, Own s' 3 1 o v ((nodesL a 64).map encI) ∧ newer s o) := by
  refine wpF_of Tryd.func34 rfl rfl rfl rfl (Nat.le_refl _) ?_
  simp only [paramsA]
  repeat (first
  | with_reducible first | refine st (by constructor) ?_ | apply c_region
  | (with_reducible apply k_block_on
     · decide)
  | ((with_reducible first | apply xOp | apply xDr | apply xIf); rfl; (simp only [Nat.reduceEqDiff, Nat.reduceAdd, ↓reduceIte, xBB, stG, undef, opA, val, opdA, opdO, plainN, omap, binA, intBinA, loadV, readA, storeV, writeA, fieldAddrA, indexAddrA, lenA, builtinA, newA, unA, packA, Value.cells]; rfl); first | rfl | exact ⟨rfl, rfl, rfl⟩))
  refine loop_k (lk' := s.nx) (s0 := s) (fun m f t => m < 18446744073709551616 ∧ f.get 0 = some (.int .u64 m) ∧ ∃ (o : Option Nat) (v : Value) (xs : List Int), f.get 3 = some v ∧ Own t 3 1 o v (xs.map encI) ∧ newer s o ∧ nodesL a 64 = xs ++ nodesL m 64) a (Nat.le_refl _) (Nat.le_refl _) ?_ (Ab.refl _ _) ?_
  · exact ⟨ha, by simp only [Nat.reduceEqDiff, T.get_put, ↓reduceIte], none, .slice none 0 0, [], by simp only [Nat.reduceEqDiff, T.get_put, ↓reduceIte], ⟨rfl, rfl⟩, fun _ h => (by cases h), rfl⟩
  · rintro m f t ⟨hm, h0, o, v, xs, h3, hown, hnew, hxs⟩ hA hF
    by_cases hz : m = 0
    · subst hz
      have e0 : (((0 : Nat) : Int) != 0) = false := rfl
      repeat (first
  | with_reducible first | refine st (by constructor) ?_ | apply c_region
  | (with_reducible apply k_block_on
     · decide)
  | ((with_reducible first | apply xOp | apply xDr | apply xIf); rfl; (simp only [Nat.reduceEqDiff, Nat.reduceAdd, ↓reduceIte, xBB, stG, undef, opA, val, opdA, opdO, plainN, omap, binA, intBinA, loadV, readA, storeV, writeA, fieldAddrA, indexAddrA, lenA, builtinA, newA, unA, packA, Value.cells, h0, e0]; rfl); first | rfl | exact ⟨rfl, rfl, rfl⟩))
      intro _ _
      repeat (first
  | with_reducible first | refine st (by constructor) ?_ | apply c_region
  | (with_reducible apply k_block_on
     · decide)
  | ((with_reducible first | apply xOp | apply xDr | apply xIf); rfl; (simp only [Nat.reduceEqDiff, Nat.reduceAdd, ↓reduceIte, xBB, stG, undef, opA, val, opdA, opdO, plainN, omap, binA, intBinA, loadV, readA, storeV, writeA, fieldAddrA, indexAddrA, lenA, builtinA, newA, unA, packA, Value.cells, h3]; rfl); first | rfl | exact ⟨rfl, rfl, rfl⟩))
      intro _
      ((with_reducible first | apply ret_i | apply ret_n); (simp only [Nat.reduceEqDiff, Nat.reduceAdd, ↓reduceIte, xBB, resA, opdA, opdO, plainN, omap, val, loadV, readA, packA]; rfl))
      rw [nodesL_zero, List.append_nil] at hxs
      exact ⟨o, by rw [hxs]; exact hown, hnew⟩
    · have e0 : ((m : Int) != 0) = true := by simp; exact hz
      obtain ⟨k, hk⟩ := low_ex m hz
      have hk64 := hk.lt (n := 64) hm
      have e1 : IntKind.u64.wrap ((m : Int) - 1) = ((m - 1 : Nat) : Int) := by
        have : IntKind.u64.wrap ((m : Int) - 1) = ((m : Int) - 1) % 18446744073709551616 := by simp [IntKind.wrap, IntKind.signed, IntKind.bits]
        rw [this]; omega
      have e2 := and_u64 (a := m) (b := m - 1) hm (by omega)
      repeat (first
  | with_reducible first | refine st (by constructor) ?_ | apply c_region
  | (with_reducible apply k_block_on
     · decide)
  | ((with_reducible first | apply xOp | apply xDr | apply xIf); rfl; (simp only [Nat.reduceEqDiff, Nat.reduceAdd, ↓reduceIte, xBB, stG, undef, opA, val, opdA, opdO, plainN, omap, binA, intBinA, loadV, readA, storeV, writeA, fieldAddrA, indexAddrA, lenA, builtinA, newA, unA, packA, Value.cells, h0, e0, h3]; rfl); first | rfl | exact ⟨rfl, rfl, rfl⟩))
      ((with_reducible first | apply xCa | apply xCd); rfl; (simp only [Nat.reduceEqDiff, Nat.reduceAdd, ↓reduceIte, xBB, stB, opdA, opdO, plainN, omap, val, Value.cells]; exact ⟨rfl, rfl⟩); try rfl)
      apply call_fn
      refine (f49_spec m k t (hgl.keep hA) hm hk).use hA.nx (Nat.le_refl _) fun v' t' hv hA2 => ?_
      obtain ⟨rfl, rfl⟩ := hv
      refine opt_of rfl ?_
      repeat (first
  | with_reducible first | refine st (by constructor) ?_ | apply c_region
  | (with_reducible apply k_block_on
     · decide)
  | ((with_reducible first | apply xOp | apply xDr | apply xIf); rfl; (simp only [Nat.reduceEqDiff, Nat.reduceAdd, ↓reduceIte, xBB, stG, undef, opA, val, opdA, opdO, plainN, omap, binA, intBinA, loadV, readA, storeV, writeA, fieldAddrA, indexAddrA, lenA, builtinA, newA, unA, packA, Value.cells, buildSliceA, el35, sz3, zr3, zerosL, fillA]; rfl); first | rfl | exact ⟨rfl, rfl, rfl⟩))
      ((with_reducible first | apply ops_opt | apply xPd); (first | rfl | exact ⟨rfl, rfl⟩); (simp only [Nat.reduceEqDiff, Nat.reduceAdd, ↓reduceIte, xBB, opA, val, opdA, opdO, plainN, omap, binA, intBinA, loadV, readA, storeV, writeA, fieldAddrA, indexAddrA, lenA, builtinA, newA, unA, packA, Value.cells, un35, h3]; rfl))
      have hown2 : Own { hp := t'.hp.put t'.nx (some (.cells true 3 [.int .i64 k])), nx := t'.nx + 1 } 3 1 o v (xs.map encI) :=
        hown.same (Nat.le_succ _) fun id h => T.get_put_ne _ _ _ (by have := hown.lt h; omega)
      have hlen : xs.length ≤ 64 := by
        have h1 := nodesL_len a 64
        rw [hxs, List.length_append] at h1; omega
      refine opt_ex (app_one (lk := s.nx) (y := [.int .i64 k]) el35 sz3 by3 zr3 rfl (by decide) hown2 hnew (T.get_put_eq _ _ _) rfl rfl (by simp; omega)) fun q hq => ?_
      obtain ⟨v', s1⟩ := q
      obtain ⟨q1, q2, o', q3, q4⟩ := hq
      refine opt_of rfl ?_
      repeat (first
  | with_reducible first | refine st (by constructor) ?_ | apply c_region
  | (with_reducible apply k_block_on
     · decide)
  | ((with_reducible first | apply xOp | apply xDr | apply xIf); rfl; (simp only [Nat.reduceEqDiff, Nat.reduceAdd, ↓reduceIte, xBB, stG, undef, opA, val, opdA, opdO, plainN, omap, binA, intBinA, loadV, readA, storeV, writeA, fieldAddrA, indexAddrA, lenA, builtinA, newA, unA, packA, Value.cells, h0, e1, e2]; rfl); first | rfl | exact ⟨rfl, rfl, rfl⟩))
      intro _ _
      refine k_loop_next (m' := m &&& (m - 1)) hk.less ⟨Nat.lt_of_lt_of_le hk.less (Nat.le_of_lt hm), by simp only [Nat.reduceEqDiff, T.get_put, ↓reduceIte], o', v', xs ++ [(k : Int)], by simp only [Nat.reduceEqDiff, T.get_put, ↓reduceIte], ?_, fun id h => ?_, ?_⟩
      · rw [List.map_append]; exact q3
      · rcases q4 with rfl | rfl
        · exact hnew id h
        · cases h; have := hA.nx; show s.nx ≤ t'.nx + 1; omega
      · rw [hxs, hk.nodes64 hm, List.append_assoc]; rfl

/-- slices.Compare. -/
def cmpL : List Int → List Int → Int
  | [], [] => 0
  | [], _ :: _ => -1
  | _ :: _, [] => 1
  | x :: xs, y :: ys => if cmpI x y ≠ 0 then cmpI x y else cmpL xs ys

theorem f48_spec [Sorts Tryd.prog] (a b : List Int) (av bv : Value) (s : HS) (ha : Sl s 1 av (a.map encI)) (hb : Sl s 1 bv (b.map encI)) (hla : a.length < 1000000000) (hlb : b.length < 1000000000) :
    wpF Tryd.prog s.nx 48 [av, bv] s (fun v s' => v = .int .i64 (cmpL a b) ∧ s' = s) := by
  obtain ⟨p1, c1, rfl⟩ := ha.shape
  obtain ⟨p2, c2, rfl⟩ := hb.shape
  simp only [List.length_map] at ha hb ⊢
  refine wpF_of Tryd.func48 rfl rfl rfl rfl (Nat.le_refl _) ?_
  simp only [paramsA]
  repeat (first
  | with_reducible first | refine st (by constructor) ?_ | apply c_region
  | (with_reducible apply k_block_on
     · decide)
  | ((with_reducible first | apply xOp | apply xDr | apply xIf); rfl; (simp only [Nat.reduceEqDiff, Nat.reduceAdd, ↓reduceIte, xBB, stG, undef, opA, val, opdA, opdO, plainN, omap, binA, intBinA, loadV, readA, storeV, writeA, fieldAddrA, indexAddrA, lenA, builtinA, newA, unA, packA, Value.cells, un35]; rfl); first | rfl | exact ⟨rfl, rfl, rfl⟩))
  refine loop_k (lk' := s.nx) (s0 := s) (fun m f t => t = s ∧ ∃ k : Nat, k + m = a.length ∧ f.get 11 = some (.int .i64 k) ∧ cmpL a b = cmpL (a.drop k) (b.drop k) ∧ k ≤ b.length) a.length (Nat.le_refl _) (Nat.le_refl _) ?_ (Ab.refl _ _) ?_
  · exact ⟨rfl, 0, by omega, by simp only [Nat.reduceEqDiff, T.get_put, ↓reduceIte]; rfl, rfl, Nat.zero_le _⟩
  · rintro m f t ⟨rfl, k, hk, h11, hc, hkb⟩ hA hF
    (have k0 := hF 0 (by rfl); simp only [Nat.reduceEqDiff, T.get_put, ↓reduceIte] at k0; have k1 := hF 1 (by rfl); simp only [Nat.reduceEqDiff, T.get_put, ↓reduceIte] at k1; have k9 := hF 9 (by rfl); simp only [Nat.reduceEqDiff, T.get_put, ↓reduceIte] at k9; have k10 := hF 10 (by rfl); simp only [Nat.reduceEqDiff, T.get_put, ↓reduceIte] at k10)
    by_cases hlt : (k : Int) < (a.length : Int)
    · have hlt' : k < a.length := by omega
      have hw : IntKind.i64.wrap ((k : Int) + 1) = ((k + 1 : Nat) : Int) := by rw [IntWalk.i64_in _ (by omega)]; rfl
      have hba : (0 : Int) ≤ (k : Int) ∧ (k : Int) < (a.length : Int) := by omega
      have ha' := ha
      have hb' := hb
      rw [show a.length = (a.map encI).length by simp] at ha'
      rw [show b.length = (b.map encI).length by simp] at hb'
      obtain ⟨id, off, wr, e, cs, rfl, g1, g2, g3, g4⟩ := ha'.at (i := k) (x := encI a[k]) (by simp [hlt'])
      simp only [encI] at g3
      rw [List.drop_eq_getElem_cons hlt'] at hc
      by_cases hge : (k : Int) ≥ (b.length : Int)
      · repeat (first
  | with_reducible first | refine st (by constructor) ?_ | apply c_region
  | (with_reducible apply k_block_on
     · decide)
  | ((with_reducible first | apply xOp | apply xDr | apply xIf); rfl; (simp only [Nat.reduceEqDiff, Nat.reduceAdd, ↓reduceIte, xBB, stG, undef, opA, val, opdA, opdO, plainN, omap, binA, intBinA, loadV, readA, storeV, writeA, fieldAddrA, indexAddrA, lenA, builtinA, newA, unA, packA, Value.cells, h11, k0, k1, k9, k10, hlt, un35, sz3, ty3, hba, g1, g3, hge]; rfl); first | rfl | exact ⟨rfl, rfl, rfl⟩))
        intro _ _
        repeat (first
  | with_reducible first | refine st (by constructor) ?_ | apply c_region
  | (with_reducible apply k_block_on
     · decide)
  | ((with_reducible first | apply xOp | apply xDr | apply xIf); rfl; (simp only [Nat.reduceEqDiff, Nat.reduceAdd, ↓reduceIte, xBB, stG, undef, opA, val, opdA, opdO, plainN, omap, binA, intBinA, loadV, readA, storeV, writeA, fieldAddrA, indexAddrA, lenA, builtinA, newA, unA, packA, Value.cells]; rfl); first | rfl | exact ⟨rfl, rfl, rfl⟩))
        intro _
        ((with_reducible first | apply ret_i | apply ret_n); (simp only [Nat.reduceEqDiff, Nat.reduceAdd, ↓reduceIte, xBB, resA, opdA, opdO, plainN, omap, val, loadV, readA, packA]; rfl))
        have : k = b.length := by omega
        subst this
        rw [List.drop_length] at hc
        exact ⟨by rw [hc]; rfl, rfl⟩
      · have hltb : k < b.length := by omega
        have hbb : (0 : Int) ≤ (k : Int) ∧ (k : Int) < (b.length : Int) := by omega
        obtain ⟨id2, off2, wr2, e2, cs2, rfl, r1, r2, r3, r4⟩ := hb'.at (i := k) (x := encI b[k]) (by simp [hltb])
        simp only [encI] at r3
        rw [List.drop_eq_getElem_cons hltb] at hc
        repeat (first
  | with_reducible first | refine st (by constructor) ?_ | apply c_region
  | (with_reducible apply k_block_on
     · decide)
  | ((with_reducible first | apply xOp | apply xDr | apply xIf); rfl; (simp only [Nat.reduceEqDiff, Nat.reduceAdd, ↓reduceIte, xBB, stG, undef, opA, val, opdA, opdO, plainN, omap, binA, intBinA, loadV, readA, storeV, writeA, fieldAddrA, indexAddrA, lenA, builtinA, newA, unA, packA, Value.cells, h11, k0, k1, k9, k10, hlt, un35, sz3, ty3, hba, hbb, g1, g3, hge, r1, r3]; rfl); first | rfl | exact ⟨rfl, rfl, rfl⟩))
        ((with_reducible first | apply xCa | apply xCd); rfl; (simp only [Nat.reduceEqDiff, Nat.reduceAdd, ↓reduceIte, xBB, stB, opdA, opdO, plainN, omap, val, Value.cells]; exact ⟨rfl, rfl⟩); try rfl)
        apply call_fn
        refine (f47_spec a[k] b[k] t).mono fun v t' hv => ?_
        obtain ⟨rfl, rfl⟩ := hv
        refine opt_of rfl ?_
        by_cases hne : cmpI a[k] b[k] = 0
        · have e0 : (cmpI a[k] b[k] != 0) = false := by simp [hne]
          repeat (first
  | with_reducible first | refine st (by constructor) ?_ | apply c_region
  | (with_reducible apply k_block_on
     · decide)
  | ((with_reducible first | apply xOp | apply xDr | apply xIf); rfl; (simp only [Nat.reduceEqDiff, Nat.reduceAdd, ↓reduceIte, xBB, stG, undef, opA, val, opdA, opdO, plainN, omap, binA, intBinA, loadV, readA, storeV, writeA, fieldAddrA, indexAddrA, lenA, builtinA, newA, unA, packA, Value.cells, e0, h11, hw]; rfl); first | rfl | exact ⟨rfl, rfl, rfl⟩))
          intro _ _
          refine k_loop_next (m' := m - 1) (by omega) ⟨rfl, k + 1, by omega, by simp only [Nat.reduceEqDiff, T.get_put, ↓reduceIte], ?_, by omega⟩
          rw [hc, cmpL, if_neg (by simpa using hne)]
        · have e0 : (cmpI a[k] b[k] != 0) = true := by simp [hne]
          repeat (first
  | with_reducible first | refine st (by constructor) ?_ | apply c_region
  | (with_reducible apply k_block_on
     · decide)
  | ((with_reducible first | apply xOp | apply xDr | apply xIf); rfl; (simp only [Nat.reduceEqDiff, Nat.reduceAdd, ↓reduceIte, xBB, stG, undef, opA, val, opdA, opdO, plainN, omap, binA, intBinA, loadV, readA, storeV, writeA, fieldAddrA, indexAddrA, lenA, builtinA, newA, unA, packA, Value.cells, e0]; rfl); first | rfl | exact ⟨rfl, rfl, rfl⟩))
          intro _ _
          repeat (first
  | with_reducible first | refine st (by constructor) ?_ | apply c_region
  | (with_reducible apply k_block_on
     · decide)
  | ((with_reducible first | apply xOp | apply xDr | apply xIf); rfl; (simp only [Nat.reduceEqDiff, Nat.reduceAdd, ↓reduceIte, xBB, stG, undef, opA, val, opdA, opdO, plainN, omap, binA, intBinA, loadV, readA, storeV, writeA, fieldAddrA, indexAddrA, lenA, builtinA, newA, unA, packA, Value.cells]; rfl); first | rfl | exact ⟨rfl, rfl, rfl⟩))
          intro _
          ((with_reducible first | apply ret_i | apply ret_n); (simp only [Nat.reduceEqDiff, Nat.reduceAdd, ↓reduceIte, xBB, resA, opdA, opdO, plainN, omap, val, loadV, readA, packA]; rfl))
          exact ⟨by rw [hc, cmpL, if_pos hne]; rfl, rfl⟩
    · have hkn : k = a.length := by omega
      subst hkn
      rw [List.drop_length] at hc
      by_cases hl : (a.length : Int) < (b.length : Int)
      · repeat (first
  | with_reducible first | refine st (by constructor) ?_ | apply c_region
  | (with_reducible apply k_block_on
     · decide)
  | ((with_reducible first | apply xOp | apply xDr | apply xIf); rfl; (simp only [Nat.reduceEqDiff, Nat.reduceAdd, ↓reduceIte, xBB, stG, undef, opA, val, opdA, opdO, plainN, omap, binA, intBinA, loadV, readA, storeV, writeA, fieldAddrA, indexAddrA, lenA, builtinA, newA, unA, packA, Value.cells, h11, k0, k1, k9, k10, hlt, un35, hl]; rfl); first | rfl | exact ⟨rfl, rfl, rfl⟩))
        intro _ _
        repeat (first
  | with_reducible first | refine st (by constructor) ?_ | apply c_region
  | (with_reducible apply k_block_on
     · decide)
  | ((with_reducible first | apply xOp | apply xDr | apply xIf); rfl; (simp only [Nat.reduceEqDiff, Nat.reduceAdd, ↓reduceIte, xBB, stG, undef, opA, val, opdA, opdO, plainN, omap, binA, intBinA, loadV, readA, storeV, writeA, fieldAddrA, indexAddrA, lenA, builtinA, newA, unA, packA, Value.cells, k0, k1, un35, hl]; rfl); first | rfl | exact ⟨rfl, rfl, rfl⟩))
        intro _
        ((with_reducible first | apply ret_i | apply ret_n); (simp only [Nat.reduceEqDiff, Nat.reduceAdd, ↓reduceIte, xBB, resA, opdA, opdO, plainN, omap, val, loadV, readA, packA]; rfl))
        rw [List.drop_eq_getElem_cons (by omega)] at hc
        exact ⟨by rw [hc]; rfl, rfl⟩
      · repeat (first
  | with_reducible first | refine st (by constructor) ?_ | apply c_region
  | (with_reducible apply k_block_on
     · decide)
  | ((with_reducible first | apply xOp | apply xDr | apply xIf); rfl; (simp only [Nat.reduceEqDiff, Nat.reduceAdd, ↓reduceIte, xBB, stG, undef, opA, val, opdA, opdO, plainN, omap, binA, intBinA, loadV, readA, storeV, writeA, fieldAddrA, indexAddrA, lenA, builtinA, newA, unA, packA, Value.cells, h11, k0, k1, k9, k10, hlt, un35, hl]; rfl); first | rfl | exact ⟨rfl, rfl, rfl⟩))
        intro _ _
        repeat (first
  | with_reducible first | refine st (by constructor) ?_ | apply c_region
  | (with_reducible apply k_block_on
     · decide)
  | ((with_reducible first | apply xOp | apply xDr | apply xIf); rfl; (simp only [Nat.reduceEqDiff, Nat.reduceAdd, ↓reduceIte, xBB, stG, undef, opA, val, opdA, opdO, plainN, omap, binA, intBinA, loadV, readA, storeV, writeA, fieldAddrA, indexAddrA, lenA, builtinA, newA, unA, packA, Value.cells, k0, k1, un35, hl]; rfl); first | rfl | exact ⟨rfl, rfl, rfl⟩))
        intro _
        ((with_reducible first | apply ret_i | apply ret_n); (simp only [Nat.reduceEqDiff, Nat.reduceAdd, ↓reduceIte, xBB, resA, opdA, opdO, plainN, omap, val, loadV, readA, packA]; rfl))
        rw [List.drop_eq_nil_of_le (by omega)] at hc
        exact ⟨by rw [hc]; rfl, rfl⟩

/-- removable.compare. -/
def cmpS (a b : Nat) : Int := orI [cmpI (onesI a) (onesI b), cmpL (nodesL a 64) (nodesL b 64)]

theorem f33_spec [Sorts Tryd.prog] (a b : Nat) (s : HS) (hgl : Glob s) (ha : a < 18446744073709551616) (hb : b < 18446744073709551616) : wpF Tryd.prog s.nx 33 [.int .u64 a, .int .u64 b] s (fun v s' => v = .int .i64 (cmpS a b)) := by
  refine wpF_of Tryd.func33 rfl rfl rfl rfl (Nat.le_refl _) ?_
  simp only [paramsA]
  repeat (first
  | with_reducible first | refine st (by constructor) ?_ | apply c_region
  | (with_reducible apply k_block_on
     · decide)
  | ((with_reducible first | apply xOp | apply xDr | apply xIf); rfl; (simp only [Nat.reduceEqDiff, Nat.reduceAdd, ↓reduceIte, xBB, stG, undef, opA, val, opdA, opdO, plainN, omap, binA, intBinA, loadV, readA, storeV, writeA, fieldAddrA, indexAddrA, lenA, builtinA, newA, unA, packA, Value.cells]; rfl); first | rfl | exact ⟨rfl, rfl, rfl⟩))
  ((with_reducible first | apply xCa | apply xCd); rfl; (simp only [Nat.reduceEqDiff, Nat.reduceAdd, ↓reduceIte, xBB, stB, opdA, opdO, plainN, omap, val, Value.cells]; exact ⟨rfl, rfl⟩); try rfl)
  apply call_fn
  refine (f45_spec a s ha).mono fun v s1 hv => ?_
  obtain ⟨rfl, rfl⟩ := hv
  refine opt_of rfl ?_
  repeat (first
  | with_reducible first | refine st (by constructor) ?_ | apply c_region
  | (with_reducible apply k_block_on
     · decide)
  | ((with_reducible first | apply xOp | apply xDr | apply xIf); rfl; (simp only [Nat.reduceEqDiff, Nat.reduceAdd, ↓reduceIte, xBB, stG, undef, opA, val, opdA, opdO, plainN, omap, binA, intBinA, loadV, readA, storeV, writeA, fieldAddrA, indexAddrA, lenA, builtinA, newA, unA, packA, Value.cells]; rfl); first | rfl | exact ⟨rfl, rfl, rfl⟩))
  ((with_reducible first | apply xCa | apply xCd); rfl; (simp only [Nat.reduceEqDiff, Nat.reduceAdd, ↓reduceIte, xBB, stB, opdA, opdO, plainN, omap, val, Value.cells]; exact ⟨rfl, rfl⟩); try rfl)
  apply call_fn
  refine (f45_spec b s1 hb).mono fun v s2 hv => ?_
  obtain ⟨rfl, rfl⟩ := hv
  refine opt_of rfl ?_
  repeat (first
  | with_reducible first | refine st (by constructor) ?_ | apply c_region
  | (with_reducible apply k_block_on
     · decide)
  | ((with_reducible first | apply xOp | apply xDr | apply xIf); rfl; (simp only [Nat.reduceEqDiff, Nat.reduceAdd, ↓reduceIte, xBB, stG, undef, opA, val, opdA, opdO, plainN, omap, binA, intBinA, loadV, readA, storeV, writeA, fieldAddrA, indexAddrA, lenA, builtinA, newA, unA, packA, Value.cells]; rfl); first | rfl | exact ⟨rfl, rfl, rfl⟩))
  ((with_reducible first | apply xCa | apply xCd); rfl; (simp only [Nat.reduceEqDiff, Nat.reduceAdd, ↓reduceIte, xBB, stB, opdA, opdO, plainN, omap, val, Value.cells]; exact ⟨rfl, rfl⟩); try rfl)
  apply call_fn
  refine (f47_spec _ _ s2).mono fun v s3 hv => ?_
  obtain ⟨rfl, rfl⟩ := hv
  refine opt_of rfl ?_
  repeat (first
  | with_reducible first | refine st (by constructor) ?_ | apply c_region
  | (with_reducible apply k_block_on
     · decide)
  | ((with_reducible first | apply xOp | apply xDr | apply xIf); rfl; (simp only [Nat.reduceEqDiff, Nat.reduceAdd, ↓reduceIte, xBB, stG, undef, opA, val, opdA, opdO, plainN, omap, binA, intBinA, loadV, readA, storeV, writeA, fieldAddrA, indexAddrA, lenA, builtinA, newA, unA, packA, Value.cells]; rfl); first | rfl | exact ⟨rfl, rfl, rfl⟩))
  ((with_reducible first | apply xCa | apply xCd); rfl; (simp only [Nat.reduceEqDiff, Nat.reduceAdd, ↓reduceIte, xBB, stB, opdA, opdO, plainN, omap, val, Value.cells]; exact ⟨rfl, rfl⟩); try rfl)
  apply call_fn
  refine (f34_spec a s3 hgl ha).use (Nat.le_refl _) (Nat.le_refl _) fun v s4 hv hA4 => ?_
  obtain ⟨o1, ho1, hn1⟩ := hv
  refine opt_of rfl ?_
  repeat (first
  | with_reducible first | refine st (by constructor) ?_ | apply c_region
  | (with_reducible apply k_block_on
     · decide)
  | ((with_reducible first | apply xOp | apply xDr | apply xIf); rfl; (simp only [Nat.reduceEqDiff, Nat.reduceAdd, ↓reduceIte, xBB, stG, undef, opA, val, opdA, opdO, plainN, omap, binA, intBinA, loadV, readA, storeV, writeA, fieldAddrA, indexAddrA, lenA, builtinA, newA, unA, packA, Value.cells]; rfl); first | rfl | exact ⟨rfl, rfl, rfl⟩))
  ((with_reducible first | apply xCa | apply xCd); rfl; (simp only [Nat.reduceEqDiff, Nat.reduceAdd, ↓reduceIte, xBB, stB, opdA, opdO, plainN, omap, val, Value.cells]; exact ⟨rfl, rfl⟩); try rfl)
  apply call_fn
  refine (f34_spec b s4 (hgl.keep hA4) hb).use hA4.nx (Nat.le_refl _) fun w s5 hv hA5 => ?_
  obtain ⟨o2, ho2, hn2⟩ := hv
  have l1 := nodesL_len a 64
  have l2 := nodesL_len b 64
  refine opt_of rfl ?_
  repeat (first
  | with_reducible first | refine st (by constructor) ?_ | apply c_region
  | (with_reducible apply k_block_on
     · decide)
  | ((with_reducible first | apply xOp | apply xDr | apply xIf); rfl; (simp only [Nat.reduceEqDiff, Nat.reduceAdd, ↓reduceIte, xBB, stG, undef, opA, val, opdA, opdO, plainN, omap, binA, intBinA, loadV, readA, storeV, writeA, fieldAddrA, indexAddrA, lenA, builtinA, newA, unA, packA, Value.cells]; rfl); first | rfl | exact ⟨rfl, rfl, rfl⟩))
  ((with_reducible first | apply xCa | apply xCd); rfl; (simp only [Nat.reduceEqDiff, Nat.reduceAdd, ↓reduceIte, xBB, stB, opdA, opdO, plainN, omap, val, Value.cells]; exact ⟨rfl, rfl⟩); try rfl)
  apply call_fn
  refine (f48_spec _ _ _ _ s5 (ho1.sl.keep hA5) ho2.sl (by omega) (by omega)).use (Nat.le_trans hA4.nx hA5.nx) (Nat.le_refl _) fun u s6 hv _ => ?_
  obtain ⟨rfl, rfl⟩ := hv
  refine opt_of rfl ?_
  repeat (first
  | with_reducible first | refine st (by constructor) ?_ | apply c_region
  | (with_reducible apply k_block_on
     · decide)
  | ((with_reducible first | apply xOp | apply xDr | apply xIf); rfl; (simp only [Nat.reduceEqDiff, Nat.reduceAdd, ↓reduceIte, xBB, stG, undef, opA, val, opdA, opdO, plainN, omap, binA, intBinA, loadV, readA, storeV, writeA, fieldAddrA, indexAddrA, lenA, builtinA, newA, unA, packA, Value.cells, buildSliceA, el35, sz3, zr3, zerosL, fillA, putL]; rfl); first | rfl | exact ⟨rfl, rfl, rfl⟩))
  ((with_reducible first | apply xCa | apply xCd); rfl; (simp only [Nat.reduceEqDiff, Nat.reduceAdd, ↓reduceIte, xBB, stB, opdA, opdO, plainN, omap, val, Value.cells]; exact ⟨rfl, rfl⟩); try rfl)
  apply call_fn
  refine (f46_spec [cmpI (onesI a) (onesI b), cmpL (nodesL a 64) (nodesL b 64)] _ _ ?_ (by simp)).use ?_ (Nat.le_refl _) fun v s7 hv _ => ?_
  · exact Sl.block (post := []) (T.get_put_eq _ _ _) rfl (Nat.lt_succ_self _) rfl (Sl.map fun _ => rfl)
  · have h1 := hA4.nx
    have h2 := hA5.nx
    show s3.nx ≤ s6.nx + 1; omega
  obtain ⟨rfl, rfl⟩ := hv
  refine opt_of rfl ?_
  repeat (first
  | with_reducible first | refine st (by constructor) ?_ | apply c_region
  | (with_reducible apply k_block_on
     · decide)
  | ((with_reducible first | apply xOp | apply xDr | apply xIf); rfl; (simp only [Nat.reduceEqDiff, Nat.reduceAdd, ↓reduceIte, xBB, stG, undef, opA, val, opdA, opdO, plainN, omap, binA, intBinA, loadV, readA, storeV, writeA, fieldAddrA, indexAddrA, lenA, builtinA, newA, unA, packA, Value.cells]; rfl); first | rfl | exact ⟨rfl, rfl, rfl⟩))
  intro _
  ((with_reducible first | apply ret_i | apply ret_n); (simp only [Nat.reduceEqDiff, Nat.reduceAdd, ↓reduceIte, xBB, resA, opdA, opdO, plainN, omap, val, loadV, readA, packA]; rfl))
  rfl

theorem f43_spec [Sorts Tryd.prog] (a b : Nat) (s : HS) (hgl : Glob s) (ha : a < 18446744073709551616) (hb : b < 18446744073709551616) : wpF Tryd.prog s.nx 43 [.int .u64 a, .int .u64 b] s (fun v s' => v = .int .i64 (cmpS a b)) := by
  refine wpF_of Tryd.func43 rfl rfl rfl rfl (Nat.le_refl _) ?_
  simp only [paramsA]
  repeat (first
  | with_reducible first | refine st (by constructor) ?_ | apply c_region
  | (with_reducible apply k_block_on
     · decide)
  | ((with_reducible first | apply xOp | apply xDr | apply xIf); rfl; (simp only [Nat.reduceEqDiff, Nat.reduceAdd, ↓reduceIte, xBB, stG, undef, opA, val, opdA, opdO, plainN, omap, binA, intBinA, loadV, readA, storeV, writeA, fieldAddrA, indexAddrA, lenA, builtinA, newA, unA, packA, Value.cells]; rfl); first | rfl | exact ⟨rfl, rfl, rfl⟩))
  ((with_reducible first | apply xCa | apply xCd); rfl; (simp only [Nat.reduceEqDiff, Nat.reduceAdd, ↓reduceIte, xBB, stB, opdA, opdO, plainN, omap, val, Value.cells]; exact ⟨rfl, rfl⟩); try rfl)
  apply call_fn
  refine (f33_spec a b s hgl ha hb).use (Nat.le_refl _) (Nat.le_refl _) fun v s1 hv _ => ?_
  subst hv
  refine opt_of rfl ?_
  repeat (first
  | with_reducible first | refine st (by constructor) ?_ | apply c_region
  | (with_reducible apply k_block_on
     · decide)
  | ((with_reducible first | apply xOp | apply xDr | apply xIf); rfl; (simp only [Nat.reduceEqDiff, Nat.reduceAdd, ↓reduceIte, xBB, stG, undef, opA, val, opdA, opdO, plainN, omap, binA, intBinA, loadV, readA, storeV, writeA, fieldAddrA, indexAddrA, lenA, builtinA, newA, unA, packA, Value.cells]; rfl); first | rfl | exact ⟨rfl, rfl, rfl⟩))
  intro _
  ((with_reducible first | apply ret_i | apply ret_n); (simp only [Nat.reduceEqDiff, Nat.reduceAdd, ↓reduceIte, xBB, resA, opdA, opdO, plainN, omap, val, loadV, readA, packA]; rfl))
  rfl
end Go.Ev

/- graph.Closure, removable.hulls. -/
namespace Go.Ev
open Go Go.Proofs
set_option linter.unusedSimpArgs false
set_option linter.unusedVariables false
set_option maxRecDepth 100000
set_option maxHeartbeats 4000000
attribute [local irreducible] wpOps wpC wpD wpF wpLoop wpCall seqK blockK loopK retK T.put T.get T.setF

/-- The nodes that a node reaches, in order. -/
def ReachOf (n : Int) (es : List (Int × Int)) (k : Nat) (r : List Int) : Prop := ∃ seen, SeenOf n es k seen ∧ r = listedL 0 seen

theorem f44_spec [Sorts Tryd.prog] (n : Int) (es : List (Int × Int)) (ev : Value) (s : HS) (hs : Sl s 2 ev (es.map encE)) (hc : checkR n es = 0) :
    wpF Tryd.prog s.nx 44 [vG n ev] s (fun v s' => ∃ (lv : Value) (vs : List Value), v = .tuple #[lv, .int .i64 0] ∧ Sl s' 1 lv (vs.map fun r => [r]) ∧ vs.length = n.toNat ∧
      ∀ (i : Nat) (r : Value), vs[i]? = some r → ∃ l, Sl s' 1 r (l.map encI) ∧ ReachOf n es i l) := by
  have hg := good_of hc
  have hgh := hg.hi
  refine wpF_of Tryd.func44 rfl rfl rfl rfl (Nat.le_refl _) ?_
  simp only [paramsA, vG]
  repeat (first
  | with_reducible first | refine st (by constructor) ?_ | apply c_region
  | (with_reducible apply k_block_on
     · decide)
  | ((with_reducible first | apply xOp | apply xDr | apply xIf); rfl; (simp only [Nat.reduceEqDiff, Nat.reduceAdd, ↓reduceIte, xBB, stG, undef, opA, val, opdA, opdO, plainN, omap, binA, intBinA, loadV, readA, storeV, writeA, fieldAddrA, indexAddrA, lenA, builtinA, newA, unA, packA, Value.cells, ty28, cutL]; rfl); first | rfl | exact ⟨rfl, rfl, rfl⟩))
  have hA0 := Ab.new (lk := s.nx) s (.cells true 28 [.int .i64 n, ev])
  ((with_reducible first | apply xCa | apply xCd); rfl; (simp only [Nat.reduceEqDiff, Nat.reduceAdd, ↓reduceIte, xBB, stB, opdA, opdO, plainN, omap, val, Value.cells]; exact ⟨rfl, rfl⟩); try rfl)
  apply call_fn
  refine (f36_spec n es ev _ (hs.keep hA0)).use (by first | exact Nat.le_refl _ | (simp only [cond_true, cond_false]; omega) | omega | (dsimp only; omega)) (by first | exact Nat.le_refl _ | (simp only [cond_true, cond_false]; omega) | omega | (dsimp only; omega)) fun v s1 hv hA1 => ?_
  subst hv
  have hbox := hA1.get (Nat.le_refl _) (Nat.lt_succ_self s.nx)
  rw [T.get_put_eq] at hbox
  have hA01 := hA0.trans (hA1.lower (Nat.le_succ _) (Nat.le_refl _))
  have hc' : (checkR n es != 0) = false := by simp [hc]
  refine opt_of rfl ?_
  repeat (first
  | with_reducible first | refine st (by constructor) ?_ | apply c_region
  | (with_reducible apply k_block_on
     · decide)
  | ((with_reducible first | apply xOp | apply xDr | apply xIf); rfl; (simp only [Nat.reduceEqDiff, Nat.reduceAdd, ↓reduceIte, xBB, stG, undef, opA, val, opdA, opdO, plainN, omap, binA, intBinA, loadV, readA, storeV, writeA, fieldAddrA, indexAddrA, lenA, builtinA, newA, unA, packA, Value.cells, hc', ty28, hbox]; rfl); first | rfl | exact ⟨rfl, rfl, rfl⟩))
  ((with_reducible first | apply xCa | apply xCd); rfl; (simp only [Nat.reduceEqDiff, Nat.reduceAdd, ↓reduceIte, xBB, stB, opdA, opdO, plainN, omap, val, Value.cells]; exact ⟨rfl, rfl⟩); try rfl)
  apply call_fn
  refine (f62_spec n es ev s1 (hs.keep hA01) hg).use hA01.nx (Nat.le_refl _) fun v s2 hv hA2 => ?_
  obtain ⟨ob, cs, hob0, hob, hcl, hcs⟩ := hv
  obtain ⟨vb, vc, rfl⟩ := hob.shape
  have hA02 := hA01.trans (hA2.lower hA01.nx (Nat.le_refl _))
  refine opt_of rfl ?_
  repeat (first
  | with_reducible first | refine st (by constructor) ?_ | apply c_region
  | (with_reducible apply k_block_on
     · decide)
  | ((with_reducible first | apply xOp | apply xDr | apply xIf); rfl; (simp only [Nat.reduceEqDiff, Nat.reduceAdd, ↓reduceIte, xBB, stG, undef, opA, val, opdA, opdO, plainN, omap, binA, intBinA, loadV, readA, storeV, writeA, fieldAddrA, indexAddrA, lenA, builtinA, newA, unA, packA, Value.cells, un100]; rfl); first | rfl | exact ⟨rfl, rfl, rfl⟩))
  refine loop_k (lk' := s2.nx) (s0 := s2) (fun m f t => ∃ k : Nat, k + m = n.toNat ∧ f.get 16 = some (.int .i64 k) ∧ ∃ (o : Option Nat) (lv : Value) (vs : List Value), f.get 5 = some lv ∧ Own t 35 1 o lv (vs.map fun r => [r]) ∧ newer s2 o ∧ vs.length = k ∧
    ∀ (i : Nat) (r : Value), vs[i]? = some r → ∃ (o' : Option Nat) (l : List Int), Own t 3 1 o' r (l.map encI) ∧ newer s2 o' ∧ (∀ id, o' = some id → o ≠ some id) ∧ ReachOf n es i l) n.toNat hA02.nx (Nat.le_refl _) ?_ (Ab.refl _ _) ?_
  · exact ⟨0, by omega, by simp only [Nat.reduceEqDiff, T.get_put, ↓reduceIte]; rfl, none, .slice none 0 0, [], by simp only [Nat.reduceEqDiff, T.get_put, ↓reduceIte], ⟨rfl, rfl⟩, fun _ h => (by cases h), rfl, fun i r h => by simp at h⟩
  · rintro m f t ⟨k, hk, h16, o, lv, vs, h5, hown, hnew, hvl, hvs⟩ hA hF
    (have k14 := hF 14 (by rfl); simp only [Nat.reduceEqDiff, T.get_put, ↓reduceIte] at k14; have k15 := hF 15 (by rfl); simp only [Nat.reduceEqDiff, T.get_put, ↓reduceIte] at k15)
    have hnt := hA.nx
    by_cases hlt : (k : Int) < (((cs.map fun r => [r]).length : Nat) : Int)
    · have hlt' : k < cs.length := by simp at hlt; omega
      have hob2 := hob.keep hA
      obtain ⟨id, off, wr, e, cc, hh, g1, g2, g3, g4⟩ := hob2.sl.at (i := k) (x := [cs[k]]) (by simp [hlt'])
      subst hh
      have hb : (0 : Int) ≤ (k : Int) ∧ (k : Int) < (((cs.map fun r => [r]).length : Nat) : Int) := ⟨by omega, hlt⟩
      have hw : IntKind.i64.wrap ((k : Int) + 1) = ((k + 1 : Nat) : Int) := by rw [IntWalk.i64_in _ (by omega)]; rfl
      obtain ⟨o1, seen, ho1, hseen, hso⟩ := hcs k cs[k] (List.getElem?_eq_getElem hlt')
      have hslen := hso.1
      repeat (first
  | with_reducible first | refine st (by constructor) ?_ | apply c_region
  | (with_reducible apply k_block_on
     · decide)
  | ((with_reducible first | apply xOp | apply xDr | apply xIf); rfl; (simp only [Nat.reduceEqDiff, Nat.reduceAdd, ↓reduceIte, xBB, stG, undef, opA, val, opdA, opdO, plainN, omap, binA, intBinA, loadV, readA, storeV, writeA, fieldAddrA, indexAddrA, lenA, builtinA, newA, unA, packA, Value.cells, h16, k14, k15, hlt, un100, sz95, ty95, hb, g1, g3, h5]; rfl); first | rfl | exact ⟨rfl, rfl, rfl⟩))
      ((with_reducible first | apply xCa | apply xCd); rfl; (simp only [Nat.reduceEqDiff, Nat.reduceAdd, ↓reduceIte, xBB, stB, opdA, opdO, plainN, omap, val, Value.cells]; exact ⟨rfl, rfl⟩); try rfl)
      apply call_fn
      refine (f58_spec seen cs[k] t (hseen.keep hA).sl (by omega)).use hnt (Nat.le_refl _) fun v u hv hA3 => ?_
      obtain ⟨o2, hl2, hn2⟩ := hv
      obtain ⟨lb, lc, rfl⟩ := hl2.shape
      have hnu := hA3.nx
      refine opt_of rfl ?_
      repeat (first
  | with_reducible first | refine st (by constructor) ?_ | apply c_region
  | (with_reducible apply k_block_on
     · decide)
  | ((with_reducible first | apply xOp | apply xDr | apply xIf); rfl; (simp only [Nat.reduceEqDiff, Nat.reduceAdd, ↓reduceIte, xBB, stG, undef, opA, val, opdA, opdO, plainN, omap, binA, intBinA, loadV, readA, storeV, writeA, fieldAddrA, indexAddrA, lenA, builtinA, newA, unA, packA, Value.cells, buildSliceA, el30, sz35, zr35, zerosL, fillA]; rfl); first | rfl | exact ⟨rfl, rfl, rfl⟩))
      ((with_reducible first | apply ops_opt | apply xPd); (first | rfl | exact ⟨rfl, rfl⟩); (simp only [Nat.reduceEqDiff, Nat.reduceAdd, ↓reduceIte, xBB, opA, val, opdA, opdO, plainN, omap, binA, intBinA, loadV, readA, storeV, writeA, fieldAddrA, indexAddrA, lenA, builtinA, newA, unA, packA, Value.cells, un30, un35, h5]; rfl))
      generalize hst0 : ({ hp := u.hp.put u.nx (some (.cells true 35 (putL ([.slice none 0 0] ++ []) (0 * 1) [.slice lb ((listedL 0 seen).map encI).length lc]))), nx := u.nx + 1 } : HS) = w
      have hwn : w.nx = u.nx + 1 := by rw [← hst0]
      have hwo : ∀ id, id < u.nx → w.hp.get id = u.hp.get id := fun id h => by rw [← hst0]; exact T.get_put_ne _ _ _ (by omega)
      have hwy : w.hp.get u.nx = some (.cells true 35 [.slice lb ((listedL 0 seen).map encI).length lc]) := by rw [← hst0]; exact T.get_put_eq _ _ _
      have hown2 : Own w 35 1 o lv (vs.map fun r => [r]) := hown.same (by omega) fun id h => by rw [hwo id (by have := hown.lt h; omega), hA3.get (Nat.le_refl _) (hown.lt h)]
      refine opt_ex (app_one (lk := s2.nx) (y := [.slice lb ((listedL 0 seen).map encI).length lc]) el30 sz35 by35 zr35 rfl (by decide) hown2 (fun id h => hnew id h) hwy rfl rfl (by simp; omega)) fun q hq => ?_
      obtain ⟨qv, s5⟩ := q
      obtain ⟨p1, p2, o', p3, p4⟩ := hq
      dsimp only at p1 p2 p3
      refine opt_of rfl ?_
      repeat (first
  | with_reducible first | refine st (by constructor) ?_ | apply c_region
  | (with_reducible apply k_block_on
     · decide)
  | ((with_reducible first | apply xOp | apply xDr | apply xIf); rfl; (simp only [Nat.reduceEqDiff, Nat.reduceAdd, ↓reduceIte, xBB, stG, undef, opA, val, opdA, opdO, plainN, omap, binA, intBinA, loadV, readA, storeV, writeA, fieldAddrA, indexAddrA, lenA, builtinA, newA, unA, packA, Value.cells, hw, h16]; rfl); first | rfl | exact ⟨rfl, rfl, rfl⟩))
      intro _ _
      refine k_loop_next (m' := m - 1) (by omega) ⟨k + 1, by omega, by simp only [Nat.reduceEqDiff, T.get_put, ↓reduceIte], o', qv, vs ++ [.slice lb ((listedL 0 seen).map encI).length lc], by simp only [Nat.reduceEqDiff, T.get_put, ↓reduceIte],
        by rw [List.map_append]; exact p3, fun id h => ?_, by simp [hvl], fun i r hr => ?_⟩
      · rcases p4 with rfl | rfl
        · exact hnew id h
        · cases h; omega
      · rw [List.getElem?_append] at hr
        split at hr
        · obtain ⟨o3, l3, h1, h2, h3, h4⟩ := hvs i r hr
          refine ⟨o3, l3, h1.same (by omega) fun id h => ?_, h2, fun id h => ?_, h4⟩
          · have := h1.lt h
            rw [p2 id (by omega) (h3 id h), hwo id (by omega), hA3.get (Nat.le_refl _) this]
          · have := h1.lt h
            rcases p4 with rfl | rfl
            · exact h3 id h
            · intro e; cases e; omega
        · rename_i hge
          have hik : i = k := by
            have := (List.getElem?_eq_some_iff.1 hr).1
            simp at this; omega
          subst hik
          rw [hvl, Nat.sub_self] at hr
          cases hr
          refine ⟨o2, listedL 0 seen, hl2.same (by omega) fun id h => ?_, fun id h => by have := hn2 id h; omega, fun id h => ?_, seen, hso, rfl⟩
          · have h1 := hl2.lt h
            have h2 := hn2 id h
            rw [p2 id (by omega) (fun e => by have := hown.lt e; omega), hwo id h1]
          · have h1 := hl2.lt h
            have h2 := hn2 id h
            rcases p4 with rfl | rfl
            · intro e; have := hown.lt e; omega
            · intro e; cases e; omega
    · repeat (first
  | with_reducible first | refine st (by constructor) ?_ | apply c_region
  | (with_reducible apply k_block_on
     · decide)
  | ((with_reducible first | apply xOp | apply xDr | apply xIf); rfl; (simp only [Nat.reduceEqDiff, Nat.reduceAdd, ↓reduceIte, xBB, stG, undef, opA, val, opdA, opdO, plainN, omap, binA, intBinA, loadV, readA, storeV, writeA, fieldAddrA, indexAddrA, lenA, builtinA, newA, unA, packA, Value.cells, h16, k15, hlt]; rfl); first | rfl | exact ⟨rfl, rfl, rfl⟩))
      intro _ _
      repeat (first
  | with_reducible first | refine st (by constructor) ?_ | apply c_region
  | (with_reducible apply k_block_on
     · decide)
  | ((with_reducible first | apply xOp | apply xDr | apply xIf); rfl; (simp only [Nat.reduceEqDiff, Nat.reduceAdd, ↓reduceIte, xBB, stG, undef, opA, val, opdA, opdO, plainN, omap, binA, intBinA, loadV, readA, storeV, writeA, fieldAddrA, indexAddrA, lenA, builtinA, newA, unA, packA, Value.cells, h5]; rfl); first | rfl | exact ⟨rfl, rfl, rfl⟩))
      intro _
      ((with_reducible first | apply ret_i | apply ret_n); (simp only [Nat.reduceEqDiff, Nat.reduceAdd, ↓reduceIte, xBB, resA, opdA, opdO, plainN, omap, val, loadV, readA, packA]; rfl))
      have hkn : k = n.toNat := by simp at hlt; omega
      refine ⟨lv, vs, rfl, hown.sl, by omega, fun i r hr => ?_⟩
      obtain ⟨o3, l3, h1, _, _, h4⟩ := hvs i r hr
      exact ⟨l3, h1.sl, h4⟩
end Go.Ev

/- Lists of lists; removable.hulls. -/
namespace Go.Ev
open Go Go.Proofs
set_option linter.unusedSimpArgs false
set_option linter.unusedVariables false
set_option maxRecDepth 100000
set_option maxHeartbeats 4000000
attribute [local irreducible] wpOps wpC wpD wpF wpLoop wpCall seqK blockK loopK retK T.put T.get T.setF

/-- A slice whose block is not one of some. -/
def SlB (s : HS) (bad : Nat → Prop) (v : Value) (xs : List (List Value)) : Prop :=
  (v = .slice none 0 0 ∧ xs = []) ∨
  ∃ id off cap wr e cs, v = .slice (some ⟨id, off, none⟩) xs.length cap ∧ s.hp.get id = some (.cells wr e cs) ∧ id < s.nx ∧ ¬ bad id ∧ ∀ i x, xs[i]? = some x → x.length = 1 ∧ cutL cs (off + i * 1) 1 = some x

theorem SlB.sl {s : HS} {bad : Nat → Prop} {v : Value} {xs : List (List Value)} (h : SlB s bad v xs) : Sl s 1 v xs := by
  rcases h with h | ⟨id, off, cap, wr, e, cs, h1, h2, h3, _, h5⟩
  · exact Or.inl h
  · exact Or.inr ⟨id, off, cap, wr, e, cs, h1, h2, h3, h5⟩
theorem SlB.of_sl {s : HS} {bad : Nat → Prop} {v : Value} {xs : List (List Value)} (h : Sl s 1 v xs) (hb : ∀ id, bad id → s.nx ≤ id) : SlB s bad v xs := by
  rcases h with h | ⟨id, off, cap, wr, e, cs, h1, h2, h3, h5⟩
  · exact Or.inl h
  · exact Or.inr ⟨id, off, cap, wr, e, cs, h1, h2, h3, fun h => by have := hb id h; omega, h5⟩
theorem SlB.of_own {s : HS} {bad : Nat → Prop} {o : Option Nat} {e : TypeId} {v : Value} {xs : List (List Value)} (h : Own s e 1 o v xs) (hb : ∀ id, o = some id → ¬ bad id) : SlB s bad v xs := by
  cases o with
  | none => obtain ⟨rfl, rfl⟩ := h; exact Or.inl ⟨rfl, rfl⟩
  | some id =>
    obtain ⟨h1, h2, h2', off, cap, cs, rfl, h3, h4, h5, post, h6⟩ := h
    exact Or.inr ⟨id, off, cap, true, e, cs, rfl, h4, h1, hb id rfl, fun i x hi => flat_cut (fun x hx => (h2 x hx).1) h6 h5 hi⟩
theorem SlB.same {s s' : HS} {bad : Nat → Prop} {v : Value} {xs : List (List Value)} (h : SlB s bad v xs) (hn : s.nx ≤ s'.nx) (hg : ∀ id, id < s.nx → ¬ bad id → s'.hp.get id = s.hp.get id) {bad' : Nat → Prop} (hb : ∀ id, bad' id → bad id ∨ s.nx ≤ id) : SlB s' bad' v xs := by
  rcases h with h | ⟨id, off, cap, wr, e, cs, h1, h2, h3, h4, h5⟩
  · exact Or.inl h
  · refine Or.inr ⟨id, off, cap, wr, e, cs, h1, by rw [hg id h3 h4]; exact h2, Nat.lt_of_lt_of_le h3 hn, fun h => ?_, h5⟩
    rcases hb id h with h6 | h6
    · exact h4 h6
    · omega

/-- A list of lists in memory. -/
def LlsE {α : Type} (enc : α → List Value) (t : HS) (v : Value) (ls : List (List α)) : Prop := ∃ vs : List Value, Sl t 1 v (vs.map fun r => [r]) ∧ vs.length = ls.length ∧ ∀ (i : Nat) (r : Value) (l : List α), vs[i]? = some r → ls[i]? = some l → Sl t 1 r (l.map enc)
/-- A list of lists of numbers in memory. -/
abbrev Lls (t : HS) (v : Value) (ls : List (List Int)) : Prop := LlsE encI t v ls
section
variable {α : Type} {enc : α → List Value}
theorem LlsE.keep {t t' : HS} {v : Value} {ls : List (List α)} (h : LlsE enc t v ls) (a : Ab t.nx t t') : LlsE enc t' v ls := by
  obtain ⟨vs, h1, h2, h3⟩ := h
  exact ⟨vs, h1.keep a, h2, fun i r l hr hl => (h3 i r l hr hl).keep a⟩
theorem LlsE.same {t t' : HS} {v : Value} {ls : List (List α)} (h : LlsE enc t v ls) (hn : t.nx ≤ t'.nx) (hg : ∀ id, id < t.nx → t'.hp.get id = t.hp.get id) : LlsE enc t' v ls := by
  obtain ⟨vs, h1, h2, h3⟩ := h
  exact ⟨vs, h1.same hn hg, h2, fun i r l hr hl => (h3 i r l hr hl).same hn hg⟩
theorem LlsE.shape {t : HS} {v : Value} {ls : List (List α)} (h : LlsE enc t v ls) : ∃ b c, v = .slice b ls.length c := by
  obtain ⟨vs, h1, h2, h3⟩ := h
  obtain ⟨b, c, h4⟩ := h1.shape
  exact ⟨b, c, by rw [h4, List.length_map, h2]⟩
/-- One of the lists. -/
theorem LlsE.at {t : HS} {b : Option Addr} {n c i : Nat} {ls : List (List α)} (h : LlsE enc t (.slice b n c) ls) {l : List α} (hi : ls[i]? = some l) :
    ∃ (id off : Nat) (wr : Bool) (e : TypeId) (cs : List Value) (rb : Option Addr) (rc : Nat), b = some ⟨id, off, none⟩ ∧ t.hp.get id = some (.cells wr e cs) ∧ id < t.nx ∧ cutL cs (off + i * 1) 1 = some [.slice rb (l.map enc).length rc] ∧ Sl t 1 (.slice rb (l.map enc).length rc) (l.map enc) := by
  obtain ⟨vs, h1, h2, h3⟩ := h
  have hil := (List.getElem?_eq_some_iff.1 hi).1
  have hr : vs[i]? = some vs[i] := List.getElem?_eq_getElem (by omega)
  have h4 := h3 i _ l hr hi
  obtain ⟨rb, rc, h5⟩ := h4.shape
  obtain ⟨bb, cc, h6⟩ := h1.shape
  cases h6
  obtain ⟨id, off, wr, e, cs, rfl, g1, g2, g3, _⟩ := h1.at (i := i) (x := [vs[i]]) (by simp [hr])
  rw [h5] at g3 h4
  exact ⟨id, off, wr, e, cs, rb, rc, rfl, g1, g2, g3, h4⟩
end

/-- A list of lists that is being built: its own block, and rows apart from that and from some others. -/
def Bld (t : HS) (av : Nat → Prop) (o : Option Nat) (v : Value) (ls : List (List Int)) : Prop := (∀ id, o = some id → ¬ av id) ∧ ∃ vs : List Value, Own t 35 1 o v (vs.map fun r => [r]) ∧ vs.length = ls.length ∧
  ∀ (i : Nat) (r : Value) (l : List Int), vs[i]? = some r → ls[i]? = some l → SlB t (fun id => o = some id ∨ av id) r (l.map encI)
theorem Bld.nil {t : HS} {av : Nat → Prop} : Bld t av none (.slice none 0 0) [] := ⟨fun _ h => (by cases h), [], ⟨rfl, rfl⟩, rfl, fun i r l h => by simp at h⟩
theorem Bld.lt {t : HS} {av : Nat → Prop} {o : Option Nat} {v : Value} {ls : List (List Int)} (h : Bld t av o v ls) {id : Nat} (ho : o = some id) : id < t.nx := by
  subst ho
  obtain ⟨_, vs, h1, _⟩ := h
  exact h1.lt rfl
/-- Where the list's blocks stay, it stays; others may be barred. -/
theorem Bld.same {t t' : HS} {av av' : Nat → Prop} {o : Option Nat} {v : Value} {ls : List (List Int)} (h : Bld t av o v ls) (hn : t.nx ≤ t'.nx) (hg : ∀ id, id < t.nx → ¬ av id → t'.hp.get id = t.hp.get id) (hb : ∀ id, av' id → av id ∨ t.nx ≤ id) : Bld t' av' o v ls := by
  have hlt := fun {id} ho => h.lt (id := id) ho
  obtain ⟨h0, vs, h1, h2, h3⟩ := h
  refine ⟨fun id ho ha => ?_, vs, h1.same hn fun id ho => hg id (hlt ho) (h0 id ho), h2, fun i r l hr hl => (h3 i r l hr hl).same hn (fun id h1 h2 => hg id h1 fun ha => h2 (Or.inr ha)) fun id h => ?_⟩
  · rcases hb id ha with h4 | h4
    · exact h0 id ho h4
    · have := hlt ho; omega
  · rcases h with h | h
    · exact Or.inl (Or.inl h)
    · rcases hb id h with h4 | h4
      · exact Or.inl (Or.inr h4)
      · exact Or.inr h4
theorem Bld.lls {t : HS} {av : Nat → Prop} {o : Option Nat} {v : Value} {ls : List (List Int)} (h : Bld t av o v ls) : Lls t v ls := by
  obtain ⟨_, vs, h1, h2, h3⟩ := h
  exact ⟨vs, h1.sl, h2, fun i r l hr hl => (h3 i r l hr hl).sl⟩
theorem Bld.shape {t : HS} {av : Nat → Prop} {o : Option Nat} {v : Value} {ls : List (List Int)} (h : Bld t av o v ls) : ∃ b c, v = .slice b ls.length c := by
  obtain ⟨_, vs, h1, h2, h3⟩ := h
  obtain ⟨b, c, h4⟩ := h1.shape
  exact ⟨b, c, by rw [h4, List.length_map, h2]⟩

theorem Bld.weak {t : HS} {av av' : Nat → Prop} {o : Option Nat} {v : Value} {ls : List (List Int)} (h : Bld t av o v ls) (hb : ∀ id, av' id → av id) : Bld t av' o v ls :=
  h.same (Nat.le_refl _) (fun _ _ _ => rfl) fun id h => Or.inl (hb id h)
/-- A list of lists all of whose blocks are newer than a memory. -/
def LlsN (s0 t : HS) (v : Value) (ls : List (List Int)) : Prop := ∃ o, Bld t (fun id => id < s0.nx) o v ls
theorem LlsN.lls {s0 t : HS} {v : Value} {ls : List (List Int)} (h : LlsN s0 t v ls) : Lls t v ls := by
  obtain ⟨o, h⟩ := h; exact h.lls
theorem LlsN.shape {s0 t : HS} {v : Value} {ls : List (List Int)} (h : LlsN s0 t v ls) : ∃ b c, v = .slice b ls.length c := h.lls.shape
theorem LlsN.off {s0 t t' : HS} {v : Value} {ls : List (List Int)} (h : LlsN s0 t v ls) (hn : t.nx ≤ t'.nx) (hg : ∀ id, s0.nx ≤ id → id < t.nx → t'.hp.get id = t.hp.get id) : LlsN s0 t' v ls := by
  obtain ⟨o, h⟩ := h
  exact ⟨o, h.same hn (fun id h1 h2 => hg id (by omega) h1) fun id h => Or.inl h⟩
theorem LlsN.old {s0 s1 t : HS} {v : Value} {ls : List (List Int)} (h : LlsN s1 t v ls) (hn : s0.nx ≤ s1.nx) : LlsN s0 t v ls := by
  obtain ⟨o, h⟩ := h
  exact ⟨o, h.weak fun id h => by omega⟩
theorem LlsN.keep {s0 t t' : HS} {v : Value} {ls : List (List Int)} (h : LlsN s0 t v ls) (a : Ab t.nx t t') : LlsN s0 t' v ls := h.off a.nx fun id _ h => a.get (Nat.le_refl _) h
theorem LlsN.at {s0 t : HS} {b : Option Addr} {n c i : Nat} {ls : List (List Int)} (h : LlsN s0 t (.slice b n c) ls) {l : List Int} (hi : ls[i]? = some l) :
    ∃ (id off : Nat) (wr : Bool) (e : TypeId) (cs : List Value) (rb : Option Addr) (rc : Nat), b = some ⟨id, off, none⟩ ∧ t.hp.get id = some (.cells wr e cs) ∧ id < t.nx ∧ cutL cs (off + i * 1) 1 = some [.slice rb (l.map encI).length rc] ∧ SlB t (fun id => id < s0.nx) (.slice rb (l.map encI).length rc) (l.map encI) := by
  obtain ⟨o, h0, vs, h1, h2, h3⟩ := h
  have hil := (List.getElem?_eq_some_iff.1 hi).1
  have hr : vs[i]? = some vs[i] := List.getElem?_eq_getElem (by omega)
  have h4 := h3 i _ l hr hi
  obtain ⟨rb, rc, h5⟩ := h4.sl.shape
  obtain ⟨bb, cc, h6⟩ := h1.sl.shape
  cases h6
  obtain ⟨id, off, wr, e, cs, rfl, g1, g2, g3, _⟩ := h1.sl.at (i := i) (x := [vs[i]]) (by simp [hr])
  rw [h5] at g3 h4
  exact ⟨id, off, wr, e, cs, rb, rc, rfl, g1, g2, g3, h4.same (Nat.le_refl _) (fun _ _ _ => rfl) fun id h => Or.inl (Or.inr h)⟩

/-- A row more. `w` is the memory with the row as a block of its own, `yid`. -/
theorem app_bld {lk : Nat} {av : Nat → Prop} {w : HS} {o : Option Nat} {v r : Value} {ls : List (List Int)} {l : List Int} {yid c : Nat} {wr : Bool} {e' : TypeId} (hB : Bld w av o v ls) (hlk : ∀ id, o = some id → lk ≤ id) (hy : w.hp.get yid = some (.cells wr e' [r])) (hr : SlB w (fun id => o = some id ∨ av id) r (l.map encI)) (hn : ls.length ≤ 1000000000) (hav : ¬ av w.nx) :
    opt (appendA Tryd.prog lk 30 v (.slice (some ⟨yid, 0, none⟩) 1 c) w) fun q => w.nx ≤ q.2.nx ∧ (∀ i, i < w.nx → o ≠ some i → q.2.hp.get i = w.hp.get i) ∧ ∃ o', Bld q.2 av o' q.1 (ls ++ [l]) ∧ (o' = o ∨ o' = some w.nx) := by
  have hlt := fun {id} ho => hB.lt (id := id) ho
  obtain ⟨h0, vs, h1, h2, h3⟩ := hB
  have hc1 : cell1 [r] = true := by
    obtain ⟨b, c', h⟩ := hr.sl.shape
    rw [h]; rfl
  refine opt_ex (app_one (lk := lk) (y := [r]) el30 sz35 by35 zr35 rfl (by decide) h1 hlk hy rfl hc1 (by simp; omega)) fun q hq => ?_
  obtain ⟨q1, q2, o', q3, q4⟩ := hq
  have hbad : ∀ id, (o' = some id ∨ av id) → (o = some id ∨ av id) ∨ w.nx ≤ id := fun id h => by
    rcases h with h | h
    · rcases q4 with rfl | rfl
      · exact Or.inl (Or.inl h)
      · cases h; exact Or.inr (Nat.le_refl _)
    · exact Or.inl (Or.inr h)
  refine ⟨q1, q2, o', ⟨fun id h => ?_, vs ++ [r], by rw [List.map_append]; exact q3, by simp [h2], fun i r' l' hr' hl' => ?_⟩, q4⟩
  · rcases q4 with rfl | rfl
    · exact h0 id h
    · cases h; exact hav
  · rw [List.getElem?_append] at hr' hl'
    rw [h2] at hr'
    split at hr'
    · rename_i hlt
      rw [if_pos hlt] at hl'
      exact (h3 i r' l' hr' hl').same q1 (fun id h h' => q2 id h fun h2 => h' (Or.inl h2)) hbad
    · rename_i hge
      rw [if_neg hge] at hl'
      have : i - ls.length = 0 := by have := (List.getElem?_eq_some_iff.1 hl').1; simp at this; omega
      rw [this] at hr' hl'
      cases hr'; cases hl'
      exact hr.same q1 (fun id h h' => q2 id h fun h2 => h' (Or.inl h2)) hbad
end Go.Ev

/- removable.hulls. -/
namespace Go.Ev
open Go Go.Proofs
set_option linter.unusedSimpArgs false
set_option linter.unusedVariables false
set_option maxRecDepth 100000
set_option maxHeartbeats 4000000
attribute [local irreducible] wpOps wpC wpD wpF wpLoop wpCall seqK blockK loopK retK T.put T.get T.setF

/-- The hulls of all nodes. -/
def hullsL (n : Nat) (es : List (Int × Int)) : List (List Value) := (List.range n).map fun i => [.int .u64 (HN n es i)]

theorem f44_spec' [Sorts Tryd.prog] (n : Nat) (es : List (Int × Int)) (ev : Value) (s : HS) (hs : Sl s 2 ev (es.map encE)) (hc : checkR n es = 0) :
    wpF Tryd.prog s.nx 44 [vG n ev] s (fun v s' => ∃ lv : Value, v = .tuple #[lv, .int .i64 0] ∧ Lls s' lv ((List.range n).map fun i => nodesL (HN n es i) n)) := by
  have hg := good_of hc
  refine (f44_spec n es ev s hs hc).mono fun v s' h => ?_
  obtain ⟨lv, vs, h1, h2, h3, h4⟩ := h
  refine ⟨lv, h1, vs, h2, by simp; omega, fun i r l hr hl => ?_⟩
  obtain ⟨l', h5, seen, h6, rfl⟩ := h4 i r hr
  have hi : i < n := by have := (List.getElem?_eq_some_iff.1 hl).1; simpa using this
  rw [List.getElem?_map, List.getElem?_range hi] at hl
  cases hl
  rw [seen_eq hg hi h6, listed_seenH] at h5
  exact h5

theorem f31_spec [Sorts Tryd.prog] (n : Nat) (es : List (Int × Int)) (ev : Value) (s : HS) (hs : Sl s 2 ev (es.map encE)) (hc : checkR n es = 0) :
    wpF Tryd.prog s.nx 31 [vG n ev] s (fun v s' => ∃ o, Own s' 60 1 o v (hullsL n es)) := by
  have hg := good_of hc
  have hn64 : n ≤ 64 := by have := hg.hi; omega
  refine wpF_of Tryd.func31 rfl rfl rfl rfl (Nat.le_refl _) ?_
  simp only [paramsA, vG]
  repeat (first
  | with_reducible first | refine st (by constructor) ?_ | apply c_region
  | (with_reducible apply k_block_on
     · decide)
  | ((with_reducible first | apply xOp | apply xDr | apply xIf); rfl; (simp only [Nat.reduceEqDiff, Nat.reduceAdd, ↓reduceIte, xBB, stG, undef, opA, val, opdA, opdO, plainN, omap, binA, intBinA, loadV, readA, storeV, writeA, fieldAddrA, indexAddrA, lenA, builtinA, newA, unA, packA, Value.cells, ty28, cutL]; rfl); first | rfl | exact ⟨rfl, rfl, rfl⟩))
  have hA0 := Ab.new (lk := s.nx) s (.cells true 28 [.int .i64 n, ev])
  ((with_reducible first | apply xCa | apply xCd); rfl; (simp only [Nat.reduceEqDiff, Nat.reduceAdd, ↓reduceIte, xBB, stB, opdA, opdO, plainN, omap, val, Value.cells]; exact ⟨rfl, rfl⟩); try rfl)
  apply call_fn
  refine (f44_spec' n es ev _ (hs.keep hA0) hc).use (by first | exact Nat.le_refl _ | (simp only [cond_true, cond_false]; omega) | omega | (dsimp only; omega)) (by first | exact Nat.le_refl _ | (simp only [cond_true, cond_false]; omega) | omega | (dsimp only; omega)) fun v s1 hv hA1 => ?_
  obtain ⟨lv, rfl, hl⟩ := hv
  obtain ⟨lb, lc, rfl⟩ := hl.shape
  have hbox := hA1.get (Nat.le_refl _) (Nat.lt_succ_self s.nx)
  rw [T.get_put_eq] at hbox
  have hA01 := hA0.trans (hA1.lower (Nat.le_succ _) (Nat.le_refl _))
  have hmk : makeSliceA Tryd.prog 65 (.int .i64 n) (.int .i64 n) s1 = some (.slice (some ⟨s1.nx, 0, none⟩) n n, { hp := s1.hp.put s1.nx (some (.cells true 60 (zerosL [.int .u64 0] n))), nx := s1.nx + 1 }) := by
    unfold makeSliceA
    simp only [el65, sz60, by60, zr60, Option.bind_some]
    rw [if_pos ⟨rfl, by decide, by omega, Int.le_refl _, by omega, by omega⟩]
    rfl
  refine opt_of rfl ?_
  repeat (first
  | with_reducible first | refine st (by constructor) ?_ | apply c_region
  | (with_reducible apply k_block_on
     · decide)
  | ((with_reducible first | apply xOp | apply xDr | apply xIf); rfl; (simp only [Nat.reduceEqDiff, Nat.reduceAdd, ↓reduceIte, xBB, stG, undef, opA, val, opdA, opdO, plainN, omap, binA, intBinA, loadV, readA, storeV, writeA, fieldAddrA, indexAddrA, lenA, builtinA, newA, unA, packA, Value.cells, ty28, sz28, fd28_0, fd28_1, ty3, hbox, cutL, hmk, un30]; rfl); first | rfl | exact ⟨rfl, rfl, rfl⟩))
  have hA2 := Ab.new (lk := s1.nx) s1 (.cells true 60 (zerosL [.int .u64 0] n))
  have hll : ((List.range n).map fun i => nodesL (HN n es i) n).length = n := by simp
  refine loop_k (lk' := s1.nx) (s0 := ⟨_, s1.nx + 1⟩) (fun m f t => ∃ k : Nat, k + m = n ∧ f.get 18 = some (.int .i64 k) ∧
    Own t 60 1 (some s1.nx) (.slice (some ⟨s1.nx, 0, none⟩) n n) ((List.range n).map fun i => [.int .u64 (if i < k then ((HN n es i : Nat) : Int) else 0)])) n hA01.nx (Nat.le_succ _) ?_ (Ab.refl _ _) ?_
  · refine ⟨0, by omega, by simp only [Nat.reduceEqDiff, T.get_put, ↓reduceIte]; rfl, ?_⟩
    refine Own.block (T.get_put_eq _ _ _) ?_ (Nat.lt_succ_self _) (by simp) (Or.inl rfl) (fun x hx => ?_) (by simp only [List.length_map, List.length_range]; unfold UNK; omega)
    · rw [zerosL_map]
      refine congrArg _ (List.ext_getElem? fun i => ?_)
      by_cases hi : i < n
      · rw [List.getElem?_map, List.getElem?_range hi, List.getElem?_replicate, if_pos hi]; simp
      · rw [List.getElem?_eq_none (by simp; omega), List.getElem?_eq_none (by simp; omega)]
    · obtain ⟨i, _, rfl⟩ := List.mem_map.1 hx; exact ⟨rfl, rfl⟩
  · rintro m f t ⟨k, hk, h18, hown⟩ hA hF
    (have k5 := hF 5 (by rfl); simp only [Nat.reduceEqDiff, T.get_put, ↓reduceIte] at k5; have k16 := hF 16 (by rfl); simp only [Nat.reduceEqDiff, T.get_put, ↓reduceIte] at k16; have k17 := hF 17 (by rfl); simp only [Nat.reduceEqDiff, T.get_put, ↓reduceIte] at k17)
    have hnt : s1.nx + 1 ≤ t.nx := hA.nx
    rw [hll] at k17
    by_cases hlt : (k : Int) < (n : Int)
    · have hlt' : k < n := by omega
      have hw : IntKind.i64.wrap ((k : Int) + 1) = ((k + 1 : Nat) : Int) := by rw [IntWalk.i64_in _ (by omega)]; rfl
      have hl2 : Lls t _ _ := hl.same (by omega) fun id h => by
        rw [hA.get (Nat.le_succ _) h]; exact T.get_put_ne _ _ _ (by omega)
      obtain ⟨id, off, wr, e, cs, rb, rc, rfl, g1, g2, g3, g4⟩ := hl2.at (i := k) (l := nodesL (HN n es k) n) (by rw [List.getElem?_map, List.getElem?_range hlt']; rfl)
      have hb : (0 : Int) ≤ (k : Int) ∧ (k : Int) < (n : Int) := by omega
      repeat (first
  | with_reducible first | refine st (by constructor) ?_ | apply c_region
  | (with_reducible apply k_block_on
     · decide)
  | ((with_reducible first | apply xOp | apply xDr | apply xIf); rfl; (simp only [Nat.reduceEqDiff, Nat.reduceAdd, ↓reduceIte, xBB, stG, undef, opA, val, opdA, opdO, plainN, omap, binA, intBinA, loadV, readA, storeV, writeA, fieldAddrA, indexAddrA, lenA, builtinA, newA, unA, packA, Value.cells, h18, k17, hlt, k16, hll, un30, sz35, ty35, hb, g1, g3, k5]; rfl); first | rfl | exact ⟨rfl, rfl, rfl⟩))
      ((with_reducible first | apply xCa | apply xCd); rfl; (simp only [Nat.reduceEqDiff, Nat.reduceAdd, ↓reduceIte, xBB, stB, opdA, opdO, plainN, omap, val, Value.cells]; exact ⟨rfl, rfl⟩); try rfl)
      apply call_fn
      refine (f41_spec _ _ t g4 (by have := nodesL_len (HN n es k) n; omega) (fun x hx => by obtain ⟨q1, q2, _⟩ := mem_nodesL.1 hx; omega)).use (by first | exact Nat.le_refl _ | (simp only [cond_true, cond_false]; omega) | omega | (dsimp only; omega)) (Nat.le_refl _) fun v u hv hA3 => ?_
      obtain ⟨rfl, rfl⟩ := hv
      rw [bits_nodesL (HN_lt hg hlt')]
      obtain ⟨off3, cap3, cs3, hh3, w1, w2, w3⟩ := hown.set (i := k) (x := [.int .u64 (HN n es k)]) (by simp; omega) rfl rfl
      simp only [Value.slice.injEq, Option.some.injEq, Addr.mk.injEq] at hh3; obtain ⟨⟨_, rfl, _⟩, _, _⟩ := hh3
      have w2' : 0 + (k * 1 + 1) ≤ cs3.length := by rw [← Nat.add_assoc]; exact w2
      have hl1 : ([Value.int .u64 (HN n es k)] : List Value).length = 1 := rfl
      have hone : ([Value.int .u64 (HN n es k)] : List Value).all Value.oneCell' = true := rfl
      have hlo : s1.nx ≤ s1.nx := Nat.le_refl _
      refine opt_of rfl ?_
      repeat (first
  | with_reducible first | refine st (by constructor) ?_ | apply c_region
  | (with_reducible apply k_block_on
     · decide)
  | ((with_reducible first | apply xOp | apply xDr | apply xIf); rfl; (simp only [Nat.reduceEqDiff, Nat.reduceAdd, ↓reduceIte, xBB, stG, undef, opA, val, opdA, opdO, plainN, omap, binA, intBinA, loadV, readA, storeV, writeA, fieldAddrA, indexAddrA, lenA, builtinA, newA, unA, packA, Value.cells, h18, un65, sz60, hb, w1, w2', hl1, hone, List.toList_toArray, hw]; rfl); first | rfl | exact ⟨rfl, rfl, rfl⟩))
      intro _ _
      refine k_loop_next (m' := m - 1) (by omega) ⟨k + 1, by omega, by simp only [Nat.reduceEqDiff, T.get_put, ↓reduceIte], ?_⟩
      have hset : ((List.range n).map fun i => [Value.int .u64 (if i < k then ((HN n es i : Nat) : Int) else 0)]).set k [.int .u64 (HN n es k)] = (List.range n).map fun i => [Value.int .u64 (if i < k + 1 then ((HN n es i : Nat) : Int) else 0)] := by
        refine List.ext_getElem? fun i => ?_
        rw [List.getElem?_set]
        by_cases hi : i < n
        · by_cases hki : k = i
          · subst hki
            rw [if_pos rfl, if_pos (by simp; omega), List.getElem?_map, List.getElem?_range hi, Option.map_some, if_pos (by omega)]
          · rw [if_neg hki, List.getElem?_map, List.getElem?_map, List.getElem?_range hi, Option.map_some, Option.map_some]
            by_cases h2 : i < k
            · rw [if_pos h2, if_pos (by omega)]
            · rw [if_neg h2, if_neg (by omega)]
        · rw [if_neg (by omega), List.getElem?_eq_none (by simp; omega), List.getElem?_eq_none (by simp; omega)]
      rw [hset] at w3
      exact w3 _ (Nat.le_refl _) (T.get_put_eq _ _ _)
    · repeat (first
  | with_reducible first | refine st (by constructor) ?_ | apply c_region
  | (with_reducible apply k_block_on
     · decide)
  | ((with_reducible first | apply xOp | apply xDr | apply xIf); rfl; (simp only [Nat.reduceEqDiff, Nat.reduceAdd, ↓reduceIte, xBB, stG, undef, opA, val, opdA, opdO, plainN, omap, binA, intBinA, loadV, readA, storeV, writeA, fieldAddrA, indexAddrA, lenA, builtinA, newA, unA, packA, Value.cells, h18, k17, hlt]; rfl); first | rfl | exact ⟨rfl, rfl, rfl⟩))
      intro _ _
      repeat (first
  | with_reducible first | refine st (by constructor) ?_ | apply c_region
  | (with_reducible apply k_block_on
     · decide)
  | ((with_reducible first | apply xOp | apply xDr | apply xIf); rfl; (simp only [Nat.reduceEqDiff, Nat.reduceAdd, ↓reduceIte, xBB, stG, undef, opA, val, opdA, opdO, plainN, omap, binA, intBinA, loadV, readA, storeV, writeA, fieldAddrA, indexAddrA, lenA, builtinA, newA, unA, packA, Value.cells, k5]; rfl); first | rfl | exact ⟨rfl, rfl, rfl⟩))
      intro _
      ((with_reducible first | apply ret_i | apply ret_n); (simp only [Nat.reduceEqDiff, Nat.reduceAdd, ↓reduceIte, xBB, resA, opdA, opdO, plainN, omap, val, loadV, readA, packA]; rfl))
      refine ⟨some s1.nx, ?_⟩
      have hkn : k = n := by omega
      subst hkn
      have he : hullsL k es = (List.range k).map fun i => [Value.int .u64 (if i < k then ((HN k es i : Nat) : Int) else 0)] := by
        refine List.map_congr_left fun i hi => ?_
        rw [if_pos (List.mem_range.1 hi)]
      rw [he]; exact hown
end Go.Ev
