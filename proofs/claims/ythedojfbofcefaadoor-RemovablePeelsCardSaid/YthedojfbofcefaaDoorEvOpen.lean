import Derived.Test.YthedojfbofcefaaDoorEvG18
import Derived.Test.YthedojfbofcefaaDoorEvG2
import Derived.Test.YthedojfbofcefaaDoorCards
import Derived.Test.YthedojfbofcefaaDoorTie
import Derived.WalkKit
import Derived.ProofKit
import Derived.OpenShut
import Derived.ReadAgain
import Derived.Deep.DeepHandedRow
import Derived.Lib.LaidTab
/- The model: peel. -/
namespace Go.Ev
open Go Go.Proofs
set_option linter.unusedSimpArgs false
set_option linter.unusedVariables false
set_option maxRecDepth 100000
set_option maxHeartbeats 4000000
attribute [local irreducible] wpOps wpC wpD wpF wpLoop wpCall seqK blockK loopK retK T.put T.get T.setF

theorem pick_of {n : Nat} {es : List (Int × Int)} {gone i : Nat} (hi : i < n) (ho : okM n es gone i = true) (hf : ∀ j, j < i → okM n es gone j = false) : pick n es gone = some i := by
  unfold pick
  rw [List.find?_range_eq_some]
  exact ⟨ho, by simpa using hi, fun j hj => by simp [hf j hj]⟩
theorem peel_end {n : Nat} {es : List (Int × Int)} (hg : GoodG n es) {k : Nat} (hk : k ≤ cN n es) (hp : ∀ j, j < n → okM n es (peelSt n es k).2 j = false) : k = cN n es := by
  rcases Nat.lt_or_ge k (cN n es) with h | h
  · obtain ⟨r, hr, _⟩ := peel_pick hg h
    obtain ⟨h1, h2, _⟩ := pick_some hr
    rw [hp r h1] at h2; cases h2
  · omega
theorem peel_on {n : Nat} {es : List (Int × Int)} (hg : GoodG n es) {k i : Nat} (hk : k ≤ cN n es) (hi : i < n) (ho : okM n es (peelSt n es k).2 i = true) (hf : ∀ j, j < i → okM n es (peelSt n es k).2 j = false) :
    k < cN n es ∧ peelSt n es (k + 1) = ((peelSt n es k).1 ++ [i], (peelSt n es k).2 ||| compN n es i) := by
  have hp := pick_of hi ho hf
  refine ⟨?_, by rw [peelSt, hp]⟩
  rcases Nat.lt_or_ge k (cN n es) with h | h
  · exact h
  · have : k = cN n es := by omega
    subst this
    rw [peel_full hg, pick_full] at hp; cases hp
theorem nodes62 {a n : Nat} (ha : a < 2 ^ n) (hn : n ≤ 62) : nodesL a 62 = nodesL a n := nodesL_high (by rw [Nat.shiftRight_eq_div_pow]; exact Nat.div_eq_of_lt ha) 62 hn

theorem f26_spec [Sorts Tryd.prog] (n : Nat) (es : List (Int × Int)) (ev : Value) (s : HS) (hs : Sl s 2 ev (es.map encE)) (hg : GoodG n es) (hn : n < 62) :
    wpF Tryd.prog s.nx 26 [vG n ev] s (fun v s' => Lls s' v (rowsL n es (peelSt n es (cN n es)).1)) := by
  have hcn : cN n es ≤ n := reps_len n
  refine wpF_of Tryd.func26 rfl rfl rfl rfl (Nat.le_refl _) ?_
  simp only [paramsA, vG]
  repeat (first
  | with_reducible first | apply ops_end | apply d_end | apply k_seq | apply k_seq_ret | apply k_seq_exit | apply k_block | apply k_block_ret | apply k_block_here | apply c_seq | apply c_block | apply c_region | apply c_skip | apply c_ret | apply c_exit | apply c_loop | apply k_loop_exit | apply k_loop_ret | apply if_t | apply if_f
  | (with_reducible apply k_block_on
     · decide)
  | ((with_reducible first | apply xOp | apply xDr | apply xIf); rfl; (simp only [Nat.reduceEqDiff, Nat.reduceAdd, ↓reduceIte, xBB, stG, opA, val, opdA, opdO, plainN, omap, binA, intBinA, loadV, readA, storeV, writeA, fieldAddrA, indexAddrA, lenA, builtinA, newA, unA, packA, Value.cells]; rfl); first | rfl | exact ⟨rfl, rfl, rfl⟩))
  have hA0 := Ab.new (lk := s.nx) s (.cells true 28 [.int .i64 n, ev])
  have hs1 := hs.keep hA0
  have hc0 : cutL [Value.int .i64 (n : Int), ev] 0 1 = some [Value.int .i64 n] := rfl
  have hc2 : cutL [Value.int .i64 (n : Int), ev] 0 2 = some [Value.int .i64 n, ev] := rfl
  refine loop_k (lk' := s.nx + 1) (s0 := ⟨_, s.nx + 1⟩) (fun m f t => ∃ k : Nat, k + m = cN n es ∧ f.get 4 = some (.int .i64 ((peelSt n es k).2 : Nat)) ∧ ∃ (o : Option Nat) (v : Value), f.get 3 = some v ∧ Bld t (fun _ => False) o v (rowsL n es (peelSt n es k).1) ∧ ∀ id, o = some id → s.nx + 1 ≤ id) (cN n es) (Nat.le_succ _) (Nat.le_refl _) ?_ (Ab.refl _ _) ?_
  · exact ⟨0, by omega, by simp only [Nat.reduceEqDiff, T.get_put, ↓reduceIte]; rfl, none, .slice none 0 0, by simp only [Nat.reduceEqDiff, T.get_put, ↓reduceIte], Bld.nil, fun id h => by cases h⟩
  · rintro m f t ⟨k, hk, h4, o, v, h3, hB, ho⟩ hA hF
    (have k1 := hF 1 (by rfl); simp only [Nat.reduceEqDiff, T.get_put, ↓reduceIte] at k1)
    have hnx := hA.nx
    dsimp only at hnx
    have hbox := hA.get (Nat.le_refl _) (Nat.lt_succ_self s.nx)
    rw [T.get_put_eq] at hbox
    have hkc : k ≤ cN n es := by omega
    have hkl : (rowsL n es (peelSt n es k).1).length = k := by unfold rowsL; rw [List.length_map]; exact (peel_left hg k hkc).2
    obtain ⟨vb, vc, hv⟩ := hB.shape
    rw [hkl] at hv
    subst hv
    by_cases hlt : (k : Int) < (n : Int)
    · repeat (first
  | with_reducible first | apply ops_end | apply d_end | apply k_seq | apply k_seq_ret | apply k_seq_exit | apply k_block | apply k_block_ret | apply k_block_here | apply c_seq | apply c_block | apply c_region | apply c_skip | apply c_ret | apply c_exit | apply c_loop | apply k_loop_exit | apply k_loop_ret | apply if_t | apply if_f
  | (with_reducible apply k_block_on
     · decide)
  | ((with_reducible first | apply xOp | apply xDr | apply xIf); rfl; (simp only [Nat.reduceEqDiff, Nat.reduceAdd, ↓reduceIte, xBB, stG, opA, val, opdA, opdO, plainN, omap, binA, intBinA, loadV, readA, storeV, writeA, fieldAddrA, indexAddrA, lenA, builtinA, newA, unA, packA, Value.cells, h3, un30, k1, fd28_0, ty3, hbox, hc0, hlt]; rfl); first | rfl | exact ⟨rfl, rfl, rfl⟩))
      have c1 := k1
      refine loop_k (lk' := s.nx + 1) (s0 := t) (fun m f u => ∃ i : Nat, i + m = n ∧ f.get 6 = some (.int .i64 i) ∧
        ((f.get 5 = some (.bool false) ∧ f.get 4 = some (.int .i64 ((peelSt n es k).2 : Nat)) ∧ f.get 3 = some (.slice vb k vc) ∧ Bld u (fun _ => False) o (.slice vb k vc) (rowsL n es (peelSt n es k).1) ∧ ∀ j, j < i → okM n es (peelSt n es k).2 j = false) ∨
         (f.get 5 = some (.bool true) ∧ k < cN n es ∧ f.get 4 = some (.int .i64 ((peelSt n es (k + 1)).2 : Nat)) ∧ ∃ (o' : Option Nat) (v : Value), f.get 3 = some v ∧ Bld u (fun _ => False) o' v (rowsL n es (peelSt n es (k + 1)).1) ∧ ∀ id, o' = some id → s.nx + 1 ≤ id))) n (Nat.le_refl _) hnx ?_ (Ab.refl _ _) ?_
      · exact ⟨0, by omega, by simp only [Nat.reduceEqDiff, T.get_put, ↓reduceIte]; rfl, Or.inl ⟨by simp only [Nat.reduceEqDiff, T.get_put, ↓reduceIte], by simp only [Nat.reduceEqDiff, T.get_put, ↓reduceIte]; exact h4, by simp only [Nat.reduceEqDiff, T.get_put, ↓reduceIte]; exact h3, hB, fun j h => by omega⟩⟩
      · clear hF h3 h4
        rintro m2 f2 u ⟨i, hi, h6, hcase⟩ hA2 hF
        (have k1 := hF 1 (by rfl); simp only [Nat.reduceEqDiff, T.get_put, ↓reduceIte, c1] at k1)
        have hnx2 := hA2.nx
        have hbox2 := (hA2.get hnx (show s.nx < s.nx + 1 by omega)).trans hbox
        have hsu : Sl u 2 ev _ := hs1.same (by show s.nx + 1 ≤ u.nx; omega) fun id h => (hA2.get hnx h).trans (hA.get (Nat.le_refl _) h)
        have hw : i < n → IntKind.i64.wrap ((i : Int) + 1) = ((i + 1 : Nat) : Int) := fun h => by rw [IntWalk.i64_in _ (by omega)]; rfl
        rcases hcase with ⟨h5, h4, h3, hB, hf⟩ | ⟨h5, hkc', h4, o', v, h3, hB, ho'⟩
        · by_cases hin : (i : Int) < (n : Int)
          · have hin' : i < n := by omega
            have hw' := hw hin'
            have hgone := peel_ok n es k
            generalize hG : (peelSt n es k).2 = gone at *
            have hg3 : gone < 2 ^ 63 := Nat.lt_of_lt_of_le hgone.lt (Nat.pow_le_pow_right (by decide) (by omega))
            have hc3 : compN n es i < 2 ^ 63 := Nat.lt_of_lt_of_le compN_lt (Nat.pow_le_pow_right (by decide) (by omega))
            have hsh := shr_i64 (a := gone) (k := i) hg3
            have hand := and_one (a := gone >>> i) (shr_lt hg3)
            have hbit := bit_eq0 gone i
            have hor := or_i64 (a := gone) (b := compN n es i) hg3 hc3
            have hor62 : gone ||| compN n es i < 2 ^ 62 := Nat.lt_of_lt_of_le (Nat.or_lt_two_pow hgone.lt compN_lt) (Nat.pow_le_pow_right (by decide) (by omega))
            repeat (first
  | with_reducible first | apply ops_end | apply d_end | apply k_seq | apply k_seq_ret | apply k_seq_exit | apply k_block | apply k_block_ret | apply k_block_here | apply c_seq | apply c_block | apply c_region | apply c_skip | apply c_ret | apply c_exit | apply c_loop | apply k_loop_exit | apply k_loop_ret | apply if_t | apply if_f
  | (with_reducible apply k_block_on
     · decide)
  | ((with_reducible first | apply xOp | apply xDr | apply xIf); rfl; (simp only [Nat.reduceEqDiff, Nat.reduceAdd, ↓reduceIte, xBB, stG, opA, val, opdA, opdO, plainN, omap, binA, intBinA, loadV, readA, storeV, writeA, fieldAddrA, indexAddrA, lenA, builtinA, newA, unA, packA, Value.cells, h6, k1, fd28_0, ty3, hbox2, hc0, hin, h5, Bool.not_false, ty28, hc2]; rfl); first | rfl | exact ⟨rfl, rfl, rfl⟩))
            ((with_reducible first | apply xCa | apply xCd); rfl; (simp only [Nat.reduceEqDiff, Nat.reduceAdd, ↓reduceIte, xBB, stB, opdA, opdO, plainN, omap, val, Value.cells]; exact ⟨rfl, rfl⟩); try rfl)
            apply call_fn
            refine (f16_spec n es ev i u hsu hg hn hin').use (by first | exact Nat.le_refl _ | (simp only [cond_true, cond_false]; omega) | omega | (dsimp only; omega)) (by first | exact Nat.le_refl _ | (simp only [cond_true, cond_false]; omega) | omega | (dsimp only; omega)) fun v u1 hv hA3 => ?_
            subst hv
            have hnx3 := hA3.nx
            have hB1 : Bld u1 (fun _ => False) o _ _ := hB.same hnx3 (fun id h _ => hA3.get (Nat.le_refl _) h) fun id h => Or.inl h
            have hbox3 := (hA3.get (Nat.le_refl _) (by omega)).trans hbox2
            refine opt_of rfl ?_
            cases hb1 : gone.testBit i with
            | true =>
              repeat (first
  | with_reducible first | apply ops_end | apply d_end | apply k_seq | apply k_seq_ret | apply k_seq_exit | apply k_block | apply k_block_ret | apply k_block_here | apply c_seq | apply c_block | apply c_region | apply c_skip | apply c_ret | apply c_exit | apply c_loop | apply k_loop_exit | apply k_loop_ret | apply if_t | apply if_f
  | (with_reducible apply k_block_on
     · decide)
  | ((with_reducible first | apply xOp | apply xDr | apply xIf); rfl; (simp only [Nat.reduceEqDiff, Nat.reduceAdd, ↓reduceIte, xBB, stG, opA, val, opdA, opdO, plainN, omap, binA, intBinA, loadV, readA, storeV, writeA, fieldAddrA, indexAddrA, lenA, builtinA, newA, unA, packA, Value.cells, h4, h6, hsh, hand, hbit, hb1, Bool.not_true, Bool.not_false, hw']; rfl); first | rfl | exact ⟨rfl, rfl, rfl⟩))
              intro _ _
              refine k_loop_next (m' := m2 - 1) (by omega) ⟨i + 1, by omega, by simp only [Nat.reduceEqDiff, T.get_put, ↓reduceIte], Or.inl ⟨by simp only [Nat.reduceEqDiff, T.get_put, ↓reduceIte]; exact h5, by simp only [Nat.reduceEqDiff, T.get_put, ↓reduceIte]; exact h4, by simp only [Nat.reduceEqDiff, T.get_put, ↓reduceIte]; exact h3, hB1, fun j hj => ?_⟩⟩
              by_cases hji : j = i
              · subst hji; unfold okM; rw [hb1]; rfl
              · exact hf j (by omega)
            | false =>
              repeat (first
  | with_reducible first | apply ops_end | apply d_end | apply k_seq | apply k_seq_ret | apply k_seq_exit | apply k_block | apply k_block_ret | apply k_block_here | apply c_seq | apply c_block | apply c_region | apply c_skip | apply c_ret | apply c_exit | apply c_loop | apply k_loop_exit | apply k_loop_ret | apply if_t | apply if_f
  | (with_reducible apply k_block_on
     · decide)
  | ((with_reducible first | apply xOp | apply xDr | apply xIf); rfl; (simp only [Nat.reduceEqDiff, Nat.reduceAdd, ↓reduceIte, xBB, stG, opA, val, opdA, opdO, plainN, omap, binA, intBinA, loadV, readA, storeV, writeA, fieldAddrA, indexAddrA, lenA, builtinA, newA, unA, packA, Value.cells, h4, h6, hsh, hand, hbit, hb1, Bool.not_true, Bool.not_false, k1, ty28, hbox3, hc2, hor]; rfl); first | rfl | exact ⟨rfl, rfl, rfl⟩))
              ((with_reducible first | apply xCa | apply xCd); rfl; (simp only [Nat.reduceEqDiff, Nat.reduceAdd, ↓reduceIte, xBB, stB, opdA, opdO, plainN, omap, val, Value.cells]; exact ⟨rfl, rfl⟩); try rfl)
              apply call_fn
              refine (f17_spec n es ev (gone ||| compN n es i) u1 (hsu.keep hA3) hg hor62).use (by first | exact Nat.le_refl _ | (simp only [cond_true, cond_false]; omega) | omega | (dsimp only; omega)) (by first | exact Nat.le_refl _ | (simp only [cond_true, cond_false]; omega) | omega | (dsimp only; omega)) fun v u2 hv hA4 => ?_
              subst hv
              have hnx4 := hA4.nx
              have hB2 : Bld u2 (fun _ => False) o _ _ := hB1.same hnx4 (fun id h _ => hA4.get (Nat.le_refl _) h) fun id h => Or.inl h
              refine opt_of rfl ?_
              cases hcl : closedB es (gone ||| compN n es i) with
              | false =>
                repeat (first
  | with_reducible first | apply ops_end | apply d_end | apply k_seq | apply k_seq_ret | apply k_seq_exit | apply k_block | apply k_block_ret | apply k_block_here | apply c_seq | apply c_block | apply c_region | apply c_skip | apply c_ret | apply c_exit | apply c_loop | apply k_loop_exit | apply k_loop_ret | apply if_t | apply if_f
  | (with_reducible apply k_block_on
     · decide)
  | ((with_reducible first | apply xOp | apply xDr | apply xIf); rfl; (simp only [Nat.reduceEqDiff, Nat.reduceAdd, ↓reduceIte, xBB, stG, opA, val, opdA, opdO, plainN, omap, binA, intBinA, loadV, readA, storeV, writeA, fieldAddrA, indexAddrA, lenA, builtinA, newA, unA, packA, Value.cells, h6, hw']; rfl); first | rfl | exact ⟨rfl, rfl, rfl⟩))
                intro _ _
                refine k_loop_next (m' := m2 - 1) (by omega) ⟨i + 1, by omega, by simp only [Nat.reduceEqDiff, T.get_put, ↓reduceIte], Or.inl ⟨by simp only [Nat.reduceEqDiff, T.get_put, ↓reduceIte]; exact h5, by simp only [Nat.reduceEqDiff, T.get_put, ↓reduceIte]; exact h4, by simp only [Nat.reduceEqDiff, T.get_put, ↓reduceIte]; exact h3, hB2, fun j hj => ?_⟩⟩
                by_cases hji : j = i
                · subst hji; unfold okM; rw [hcl]; simp
                · exact hf j (by omega)
              | true =>
                have hok : okM n es gone i = true := by unfold okM; rw [hcl, hb1]; rfl
                obtain ⟨hkc2, he⟩ := peel_on hg hkc hin' (by rw [hG]; exact hok) (by rw [hG]; exact hf)
                rw [hG] at he
                repeat (first
  | with_reducible first | apply ops_end | apply d_end | apply k_seq | apply k_seq_ret | apply k_seq_exit | apply k_block | apply k_block_ret | apply k_block_here | apply c_seq | apply c_block | apply c_region | apply c_skip | apply c_ret | apply c_exit | apply c_loop | apply k_loop_exit | apply k_loop_ret | apply if_t | apply if_f
  | (with_reducible apply k_block_on
     · decide)
  | ((with_reducible first | apply xOp | apply xDr | apply xIf); rfl; (simp only [Nat.reduceEqDiff, Nat.reduceAdd, ↓reduceIte, xBB, stG, opA, val, opdA, opdO, plainN, omap, binA, intBinA, loadV, readA, storeV, writeA, fieldAddrA, indexAddrA, lenA, builtinA, newA, unA, packA, Value.cells, h3]; rfl); first | rfl | exact ⟨rfl, rfl, rfl⟩))
                ((with_reducible first | apply xCa | apply xCd); rfl; (simp only [Nat.reduceEqDiff, Nat.reduceAdd, ↓reduceIte, xBB, stB, opdA, opdO, plainN, omap, val, Value.cells]; exact ⟨rfl, rfl⟩); try rfl)
                apply call_fn
                refine (f18_spec (compN n es i) u2 (Nat.lt_of_lt_of_le compN_lt (Nat.pow_le_pow_right (by decide) (by omega)))).use (by first | exact Nat.le_refl _ | (simp only [cond_true, cond_false]; omega) | omega | (dsimp only; omega)) (by first | exact Nat.le_refl _ | (simp only [cond_true, cond_false]; omega) | omega | (dsimp only; omega)) fun v u3 hv hA5 => ?_
                obtain ⟨ol, hol, hnl⟩ := hv
                rw [nodes62 compN_lt (by omega)] at hol
                obtain ⟨lb, lc, rfl⟩ := hol.shape
                have hnx5 := hA5.nx
                refine opt_of rfl ?_
                repeat (first
  | with_reducible first | apply ops_end | apply d_end | apply k_seq | apply k_seq_ret | apply k_seq_exit | apply k_block | apply k_block_ret | apply k_block_here | apply c_seq | apply c_block | apply c_region | apply c_skip | apply c_ret | apply c_exit | apply c_loop | apply k_loop_exit | apply k_loop_ret | apply if_t | apply if_f
  | (with_reducible apply k_block_on
     · decide)
  | ((with_reducible first | apply xOp | apply xDr | apply xIf); rfl; (simp only [Nat.reduceEqDiff, Nat.reduceAdd, ↓reduceIte, xBB, stG, opA, val, opdA, opdO, plainN, omap, binA, intBinA, loadV, readA, storeV, writeA, fieldAddrA, indexAddrA, lenA, builtinA, newA, unA, packA, Value.cells, h4, h6, hor, buildSliceA, el30, sz35, zr35, zerosL, fillA]; rfl); first | rfl | exact ⟨rfl, rfl, rfl⟩))
                ((with_reducible first | apply ops_opt | apply xPd); (first | rfl | exact ⟨rfl, rfl⟩); (simp only [Nat.reduceEqDiff, Nat.reduceAdd, ↓reduceIte, xBB, opA, val, opdA, opdO, plainN, omap, binA, intBinA, loadV, readA, storeV, writeA, fieldAddrA, indexAddrA, lenA, builtinA, newA, unA, packA, Value.cells, un30, un35]; rfl))
                generalize hst0 : ({ hp := u3.hp.put u3.nx (some (.cells true 35 (putL ([.slice none 0 0] ++ []) (0 * 1) [.slice lb ((nodesL (compN n es i) n).map encI).length lc]))), nx := u3.nx + 1 } : HS) = w
                have hwn : w.nx = u3.nx + 1 := by rw [← hst0]
                have hwo : ∀ id, id < u3.nx → w.hp.get id = u3.hp.get id := fun id h => by rw [← hst0]; exact T.get_put_ne _ _ _ (by omega)
                have hwy : w.hp.get u3.nx = some (.cells true 35 [.slice lb ((nodesL (compN n es i) n).map encI).length lc]) := by rw [← hst0]; exact T.get_put_eq _ _ _
                have hB4 : Bld w (fun _ => False) o _ _ := hB2.same (by omega) (fun id h _ => (hwo id (by omega)).trans (hA5.get (Nat.le_refl _) h)) fun id h => Or.inl h
                have hol2 : Own w 3 1 ol _ _ := hol.same (by omega) fun id h => hwo id (hol.lt h)
                refine opt_ex (app_bld (lk := s.nx + 1) (l := nodesL (compN n es i) n) hB4 ho hwy (SlB.of_own hol2 fun id h h2 => ?_) (by omega) (fun h => h)) fun qq hq => ?_
                · have h6 := hnl id h
                  rcases h2 with h2 | h2
                  · have := hB2.lt h2; omega
                  · exact h2
                obtain ⟨qv, s5⟩ := qq
                obtain ⟨v1, v2, o', v3, v4⟩ := hq
                dsimp only at v1 v2 v3
                refine opt_of rfl ?_
                repeat (first
  | with_reducible first | apply ops_end | apply d_end | apply k_seq | apply k_seq_ret | apply k_seq_exit | apply k_block | apply k_block_ret | apply k_block_here | apply c_seq | apply c_block | apply c_region | apply c_skip | apply c_ret | apply c_exit | apply c_loop | apply k_loop_exit | apply k_loop_ret | apply if_t | apply if_f
  | (with_reducible apply k_block_on
     · decide)
  | ((with_reducible first | apply xOp | apply xDr | apply xIf); rfl; (simp only [Nat.reduceEqDiff, Nat.reduceAdd, ↓reduceIte, xBB, stG, opA, val, opdA, opdO, plainN, omap, binA, intBinA, loadV, readA, storeV, writeA, fieldAddrA, indexAddrA, lenA, builtinA, newA, unA, packA, Value.cells, h4, h6, hor, hw']; rfl); first | rfl | exact ⟨rfl, rfl, rfl⟩))
                intro _ _
                refine k_loop_next (m' := m2 - 1) (by omega) ⟨i + 1, by omega, by simp only [Nat.reduceEqDiff, T.get_put, ↓reduceIte], Or.inr ⟨by simp only [Nat.reduceEqDiff, T.get_put, ↓reduceIte], hkc2, by simp only [Nat.reduceEqDiff, T.get_put, ↓reduceIte]; rw [he], o', qv, by simp only [Nat.reduceEqDiff, T.get_put, ↓reduceIte], ?_, fun id h => ?_⟩⟩
                · have : rowsL n es (peelSt n es (k + 1)).1 = rowsL n es (peelSt n es k).1 ++ [nodesL (compN n es i) n] := by rw [he]; unfold rowsL; rw [List.map_append]; rfl
                  rw [this]; exact v3
                · rcases v4 with rfl | rfl
                  · exact ho id h
                  · cases h; omega
          · repeat (first
  | with_reducible first | apply ops_end | apply d_end | apply k_seq | apply k_seq_ret | apply k_seq_exit | apply k_block | apply k_block_ret | apply k_block_here | apply c_seq | apply c_block | apply c_region | apply c_skip | apply c_ret | apply c_exit | apply c_loop | apply k_loop_exit | apply k_loop_ret | apply if_t | apply if_f
  | (with_reducible apply k_block_on
     · decide)
  | ((with_reducible first | apply xOp | apply xDr | apply xIf); rfl; (simp only [Nat.reduceEqDiff, Nat.reduceAdd, ↓reduceIte, xBB, stG, opA, val, opdA, opdO, plainN, omap, binA, intBinA, loadV, readA, storeV, writeA, fieldAddrA, indexAddrA, lenA, builtinA, newA, unA, packA, Value.cells, h6, k1, fd28_0, ty3, hbox2, hc0, hin]; rfl); first | rfl | exact ⟨rfl, rfl, rfl⟩))
            intro _ _
            repeat (first
  | with_reducible first | apply ops_end | apply d_end | apply k_seq | apply k_seq_ret | apply k_seq_exit | apply k_block | apply k_block_ret | apply k_block_here | apply c_seq | apply c_block | apply c_region | apply c_skip | apply c_ret | apply c_exit | apply c_loop | apply k_loop_exit | apply k_loop_ret | apply if_t | apply if_f
  | (with_reducible apply k_block_on
     · decide)
  | ((with_reducible first | apply xOp | apply xDr | apply xIf); rfl; (simp only [Nat.reduceEqDiff, Nat.reduceAdd, ↓reduceIte, xBB, stG, opA, val, opdA, opdO, plainN, omap, binA, intBinA, loadV, readA, storeV, writeA, fieldAddrA, indexAddrA, lenA, builtinA, newA, unA, packA, Value.cells, h5, h3, Bool.not_false]; rfl); first | rfl | exact ⟨rfl, rfl, rfl⟩))
            intro _ _
            repeat (first
  | with_reducible first | apply ops_end | apply d_end | apply k_seq | apply k_seq_ret | apply k_seq_exit | apply k_block | apply k_block_ret | apply k_block_here | apply c_seq | apply c_block | apply c_region | apply c_skip | apply c_ret | apply c_exit | apply c_loop | apply k_loop_exit | apply k_loop_ret | apply if_t | apply if_f
  | (with_reducible apply k_block_on
     · decide)
  | ((with_reducible first | apply xOp | apply xDr | apply xIf); rfl; (simp only [Nat.reduceEqDiff, Nat.reduceAdd, ↓reduceIte, xBB, stG, opA, val, opdA, opdO, plainN, omap, binA, intBinA, loadV, readA, storeV, writeA, fieldAddrA, indexAddrA, lenA, builtinA, newA, unA, packA, Value.cells]; rfl); first | rfl | exact ⟨rfl, rfl, rfl⟩))
            intro _
            ((with_reducible first | apply ret_i | apply ret_n); (simp only [Nat.reduceEqDiff, Nat.reduceAdd, ↓reduceIte, xBB, resA, opdA, opdO, plainN, omap, val, loadV, readA, packA]; rfl))
            have hkn := peel_end hg hkc fun j hj => hf j (by omega)
            rw [← hkn]
            exact hB.lls
        · by_cases hin : (i : Int) < (n : Int)
          · repeat (first
  | with_reducible first | apply ops_end | apply d_end | apply k_seq | apply k_seq_ret | apply k_seq_exit | apply k_block | apply k_block_ret | apply k_block_here | apply c_seq | apply c_block | apply c_region | apply c_skip | apply c_ret | apply c_exit | apply c_loop | apply k_loop_exit | apply k_loop_ret | apply if_t | apply if_f
  | (with_reducible apply k_block_on
     · decide)
  | ((with_reducible first | apply xOp | apply xDr | apply xIf); rfl; (simp only [Nat.reduceEqDiff, Nat.reduceAdd, ↓reduceIte, xBB, stG, opA, val, opdA, opdO, plainN, omap, binA, intBinA, loadV, readA, storeV, writeA, fieldAddrA, indexAddrA, lenA, builtinA, newA, unA, packA, Value.cells, h6, k1, fd28_0, ty3, hbox2, hc0, hin, h5, Bool.not_true]; rfl); first | rfl | exact ⟨rfl, rfl, rfl⟩))
            intro _ _
            repeat (first
  | with_reducible first | apply ops_end | apply d_end | apply k_seq | apply k_seq_ret | apply k_seq_exit | apply k_block | apply k_block_ret | apply k_block_here | apply c_seq | apply c_block | apply c_region | apply c_skip | apply c_ret | apply c_exit | apply c_loop | apply k_loop_exit | apply k_loop_ret | apply if_t | apply if_f
  | (with_reducible apply k_block_on
     · decide)
  | ((with_reducible first | apply xOp | apply xDr | apply xIf); rfl; (simp only [Nat.reduceEqDiff, Nat.reduceAdd, ↓reduceIte, xBB, stG, opA, val, opdA, opdO, plainN, omap, binA, intBinA, loadV, readA, storeV, writeA, fieldAddrA, indexAddrA, lenA, builtinA, newA, unA, packA, Value.cells, h5, Bool.not_true]; rfl); first | rfl | exact ⟨rfl, rfl, rfl⟩))
            intro _ _
            exact k_loop_next (m' := m - 1) (by omega) ⟨k + 1, by omega, by simp only [Nat.reduceEqDiff, T.get_put, ↓reduceIte]; exact h4, o', v, by simp only [Nat.reduceEqDiff, T.get_put, ↓reduceIte]; exact h3, hB, ho'⟩
          · repeat (first
  | with_reducible first | apply ops_end | apply d_end | apply k_seq | apply k_seq_ret | apply k_seq_exit | apply k_block | apply k_block_ret | apply k_block_here | apply c_seq | apply c_block | apply c_region | apply c_skip | apply c_ret | apply c_exit | apply c_loop | apply k_loop_exit | apply k_loop_ret | apply if_t | apply if_f
  | (with_reducible apply k_block_on
     · decide)
  | ((with_reducible first | apply xOp | apply xDr | apply xIf); rfl; (simp only [Nat.reduceEqDiff, Nat.reduceAdd, ↓reduceIte, xBB, stG, opA, val, opdA, opdO, plainN, omap, binA, intBinA, loadV, readA, storeV, writeA, fieldAddrA, indexAddrA, lenA, builtinA, newA, unA, packA, Value.cells, h6, k1, fd28_0, ty3, hbox2, hc0, hin, h5, Bool.not_true]; rfl); first | rfl | exact ⟨rfl, rfl, rfl⟩))
            intro _ _
            repeat (first
  | with_reducible first | apply ops_end | apply d_end | apply k_seq | apply k_seq_ret | apply k_seq_exit | apply k_block | apply k_block_ret | apply k_block_here | apply c_seq | apply c_block | apply c_region | apply c_skip | apply c_ret | apply c_exit | apply c_loop | apply k_loop_exit | apply k_loop_ret | apply if_t | apply if_f
  | (with_reducible apply k_block_on
     · decide)
  | ((with_reducible first | apply xOp | apply xDr | apply xIf); rfl; (simp only [Nat.reduceEqDiff, Nat.reduceAdd, ↓reduceIte, xBB, stG, opA, val, opdA, opdO, plainN, omap, binA, intBinA, loadV, readA, storeV, writeA, fieldAddrA, indexAddrA, lenA, builtinA, newA, unA, packA, Value.cells, h5, Bool.not_true]; rfl); first | rfl | exact ⟨rfl, rfl, rfl⟩))
            intro _ _
            exact k_loop_next (m' := m - 1) (by omega) ⟨k + 1, by omega, by simp only [Nat.reduceEqDiff, T.get_put, ↓reduceIte]; exact h4, o', v, by simp only [Nat.reduceEqDiff, T.get_put, ↓reduceIte]; exact h3, hB, ho'⟩
    · repeat (first
  | with_reducible first | apply ops_end | apply d_end | apply k_seq | apply k_seq_ret | apply k_seq_exit | apply k_block | apply k_block_ret | apply k_block_here | apply c_seq | apply c_block | apply c_region | apply c_skip | apply c_ret | apply c_exit | apply c_loop | apply k_loop_exit | apply k_loop_ret | apply if_t | apply if_f
  | (with_reducible apply k_block_on
     · decide)
  | ((with_reducible first | apply xOp | apply xDr | apply xIf); rfl; (simp only [Nat.reduceEqDiff, Nat.reduceAdd, ↓reduceIte, xBB, stG, opA, val, opdA, opdO, plainN, omap, binA, intBinA, loadV, readA, storeV, writeA, fieldAddrA, indexAddrA, lenA, builtinA, newA, unA, packA, Value.cells, h3, un30, k1, fd28_0, ty3, hbox, hc0, hlt]; rfl); first | rfl | exact ⟨rfl, rfl, rfl⟩))
      intro _ _
      repeat (first
  | with_reducible first | apply ops_end | apply d_end | apply k_seq | apply k_seq_ret | apply k_seq_exit | apply k_block | apply k_block_ret | apply k_block_here | apply c_seq | apply c_block | apply c_region | apply c_skip | apply c_ret | apply c_exit | apply c_loop | apply k_loop_exit | apply k_loop_ret | apply if_t | apply if_f
  | (with_reducible apply k_block_on
     · decide)
  | ((with_reducible first | apply xOp | apply xDr | apply xIf); rfl; (simp only [Nat.reduceEqDiff, Nat.reduceAdd, ↓reduceIte, xBB, stG, opA, val, opdA, opdO, plainN, omap, binA, intBinA, loadV, readA, storeV, writeA, fieldAddrA, indexAddrA, lenA, builtinA, newA, unA, packA, Value.cells, h3]; rfl); first | rfl | exact ⟨rfl, rfl, rfl⟩))
      intro _
      ((with_reducible first | apply ret_i | apply ret_n); (simp only [Nat.reduceEqDiff, Nat.reduceAdd, ↓reduceIte, xBB, resA, opdA, opdO, plainN, omap, val, loadV, readA, packA]; rfl))
      have hkn : k = cN n es := by omega
      rw [← hkn]
      exact hB.lls
end Go.Ev

/- The examples of the chapter hold: evaluated by the kernel. -/
set_option linter.unusedSimpArgs false
set_option linter.unusedVariables false
namespace Go.Ev
open Go Go.Proofs
set_option maxRecDepth 100000

/-- The table of math/bits. -/
def tabL : List Int := [0, 1, 56, 2, 57, 49, 28, 3, 61, 58, 42, 50, 38, 29, 17, 4, 62, 47, 59, 36, 45, 43, 51, 22, 53, 39, 33, 30, 24, 18, 12, 5, 63, 55, 48, 27, 60, 41, 37, 16, 46, 35, 44, 21, 52, 32, 23, 11, 54, 26, 40, 15, 34, 20, 31, 10, 25, 14, 19, 9, 13, 8, 7, 6]
def tabB : AObj := .cells false 103 (tabL.map fun n => .int .u8 n)
/-- The memory of the program's variables. -/
def Glob (s : HS) : Prop := 0 < s.nx ∧ s.hp.get 0 = some tabB
theorem Glob.keep {s s' : HS} (h : Glob s) (a : Ab s.nx s s') : Glob s' := ⟨Nat.lt_of_lt_of_le h.1 a.nx, by rw [a.get (Nat.le_refl _) h.1]; exact h.2⟩

def isT (r : Option (Value × HS)) : Bool := match r with | some (.bool true, _) => true | _ => false
theorem isT_inv {r : Option (Value × HS)} (h : isT r = true) : ∃ s, r = some (.bool true, s) := by
  unfold isT at h
  split at h
  · exact ⟨_, rfl⟩
  · cases h
theorem globs : Tryd.prog.globals.size = 1 := by kernel_rfl
theorem low_glob {s : HS} (h : Glob s) : low Tryd.prog s = ⟨T.nil.put 0 (some tabB), 1⟩ := by
  unfold low
  rw [globs]
  show (⟨T.put .nil 0 (lowB s 0), 1⟩ : HS) = _
  have : lowB s 0 = some tabB := by unfold lowB; rw [h.2]; rfl
  rw [this]
theorem known_run : isT ((ev0 Tryd.prog 400).call 1 9 [] ⟨T.nil.put 0 (some tabB), 1⟩) = true := by kernel_rfl
theorem known_closed {s : HS} (h : Glob s) : ClosedB Tryd.prog 9 (low Tryd.prog s) true := by
  rw [low_glob h]
  obtain ⟨s, h⟩ := isT_inv known_run
  refine ⟨400, s, ?_⟩
  rw [globs]; exact h
end Go.Ev

/- sameSets; the law RemovablePeels. -/
namespace Go.Ev
open Go Go.Proofs
set_option linter.unusedSimpArgs false
set_option linter.unusedVariables false
set_option maxRecDepth 100000
set_option maxHeartbeats 4000000
attribute [local irreducible] wpOps wpC wpD wpF wpLoop wpCall seqK blockK loopK retK T.put T.get T.setF

theorem f14_spec [Sorts Tryd.prog] (ls : List (List Int)) (av bv : Value) (s : HS) (ha : Lls s av ls) (hb : Lls s bv ls) (hl : ls.length < 1000000000) (hll : ∀ l ∈ ls, l.length < 1000000000) :
    wpF Tryd.prog s.nx 14 [av, bv] s (fun v s' => v = .bool true) := by
  obtain ⟨p1, c1, rfl⟩ := ha.shape
  obtain ⟨p2, c2, rfl⟩ := hb.shape
  refine wpF_of Tryd.func14 rfl rfl rfl rfl (Nat.le_refl _) ?_
  simp only [paramsA]
  have hne : ((ls.length : Int) != (ls.length : Int)) = false := by simp
  repeat (first
  | with_reducible first | apply ops_end | apply d_end | apply k_seq | apply k_seq_ret | apply k_seq_exit | apply k_block | apply k_block_ret | apply k_block_here | apply c_seq | apply c_block | apply c_region | apply c_skip | apply c_ret | apply c_exit | apply c_loop | apply k_loop_exit | apply k_loop_ret | apply if_t | apply if_f
  | (with_reducible apply k_block_on
     · decide)
  | ((with_reducible first | apply xOp | apply xDr | apply xIf); rfl; (simp only [Nat.reduceEqDiff, Nat.reduceAdd, ↓reduceIte, xBB, stG, opA, val, opdA, opdO, plainN, omap, binA, intBinA, loadV, readA, storeV, writeA, fieldAddrA, indexAddrA, lenA, builtinA, newA, unA, packA, Value.cells, un30, hne]; rfl); first | rfl | exact ⟨rfl, rfl, rfl⟩))
  refine loop_k (lk' := s.nx) (s0 := s) (fun m f t => t = s ∧ ∃ k : Nat, k + m = ls.length ∧ f.get 5 = some (.int .i64 k)) ls.length (Nat.le_refl _) (Nat.le_refl _) ?_ (Ab.refl _ _) ?_
  · exact ⟨rfl, 0, by omega, by simp only [Nat.reduceEqDiff, T.get_put, ↓reduceIte]; rfl⟩
  · rintro m f t ⟨rfl, k, hk, h5⟩ hA hF
    (have k0 := hF 0 (by rfl); simp only [Nat.reduceEqDiff, T.get_put, ↓reduceIte] at k0; have k1 := hF 1 (by rfl); simp only [Nat.reduceEqDiff, T.get_put, ↓reduceIte] at k1)
    by_cases hlt : (k : Int) < (ls.length : Int)
    · have hlt' : k < ls.length := by omega
      have hw : IntKind.i64.wrap ((k : Int) + 1) = ((k + 1 : Nat) : Int) := by rw [IntWalk.i64_in _ (by omega)]; rfl
      have hb0 : (0 : Int) ≤ (k : Int) ∧ (k : Int) < (ls.length : Int) := by omega
      obtain ⟨id, off, wr, e, cs, rb, rc, rfl, g1, g2, g3, g4⟩ := ha.at (List.getElem?_eq_getElem hlt')
      obtain ⟨id2, off2, wr2, e2, cs2, rb2, rc2, rfl, b1, b2, b3, b4⟩ := hb.at (List.getElem?_eq_getElem hlt')
      repeat (first
  | with_reducible first | apply ops_end | apply d_end | apply k_seq | apply k_seq_ret | apply k_seq_exit | apply k_block | apply k_block_ret | apply k_block_here | apply c_seq | apply c_block | apply c_region | apply c_skip | apply c_ret | apply c_exit | apply c_loop | apply k_loop_exit | apply k_loop_ret | apply if_t | apply if_f
  | (with_reducible apply k_block_on
     · decide)
  | ((with_reducible first | apply xOp | apply xDr | apply xIf); rfl; (simp only [Nat.reduceEqDiff, Nat.reduceAdd, ↓reduceIte, xBB, stG, opA, val, opdA, opdO, plainN, omap, binA, intBinA, loadV, readA, storeV, writeA, fieldAddrA, indexAddrA, lenA, builtinA, newA, unA, packA, Value.cells, h5, k0, un30, hlt]; rfl); first | rfl | exact ⟨rfl, rfl, rfl⟩))
      refine c_draw [⟨false, [], none⟩, ⟨false, [], none⟩, ⟨false, [], none⟩, ⟨false, [], none⟩, ⟨false, [], none⟩, ⟨false, [], none⟩, ⟨false, [], none⟩, ⟨false, [3], none⟩, ⟨true, [], none⟩, ⟨true, [], none⟩] (by kernel_rfl) ?_
      repeat (first
  | with_reducible first | apply ops_end | apply d_end | apply k_seq | apply k_seq_ret | apply k_seq_exit | apply k_block | apply k_block_ret | apply k_block_here | apply c_seq | apply c_block | apply c_region | apply c_skip | apply c_ret | apply c_exit | apply c_loop | apply k_loop_exit | apply k_loop_ret | apply if_t | apply if_f
  | (with_reducible apply k_block_on
     · decide)
  | ((with_reducible first | apply xOp | apply xDr | apply xIf); rfl; (simp only [Nat.reduceEqDiff, Nat.reduceAdd, ↓reduceIte, xBB, stG, opA, val, opdA, opdO, plainN, omap, binA, intBinA, loadV, readA, storeV, writeA, fieldAddrA, indexAddrA, lenA, builtinA, newA, unA, packA, Value.cells, h5, k0, k1, un30, sz35, ty35, hb0, g1, g3, b1, b3]; rfl); first | rfl | exact ⟨rfl, rfl, rfl⟩))
      ((with_reducible first | apply xCa | apply xCd); rfl; (simp only [Nat.reduceEqDiff, Nat.reduceAdd, ↓reduceIte, xBB, stB, opdA, opdO, plainN, omap, val, Value.cells]; exact ⟨rfl, rfl⟩); try rfl)
      apply call_fn
      refine (f15_spec ls[k] ls[k] _ _ t g4 b4 (hll _ (List.getElem_mem hlt'))).use (by first | exact Nat.le_refl _ | (simp only [cond_true, cond_false]; omega) | omega | (dsimp only; omega)) (by first | exact Nat.le_refl _ | (simp only [cond_true, cond_false]; omega) | omega | (dsimp only; omega)) fun v t1 hv _ => ?_
      obtain ⟨rfl, rfl⟩ := hv
      rw [decide_eq_true (rfl : ls[k] = ls[k])]
      refine opt_of rfl ?_
      repeat (first
  | with_reducible first | apply ops_end | apply d_end | apply k_seq | apply k_seq_ret | apply k_seq_exit | apply k_block | apply k_block_ret | apply k_block_here | apply c_seq | apply c_block | apply c_region | apply c_skip | apply c_ret | apply c_exit | apply c_loop | apply k_loop_exit | apply k_loop_ret | apply if_t | apply if_f
  | (with_reducible apply k_block_on
     · decide)
  | ((with_reducible first | apply xOp | apply xDr | apply xIf); rfl; (simp only [Nat.reduceEqDiff, Nat.reduceAdd, ↓reduceIte, xBB, stG, opA, val, opdA, opdO, plainN, omap, binA, intBinA, loadV, readA, storeV, writeA, fieldAddrA, indexAddrA, lenA, builtinA, newA, unA, packA, Value.cells, Bool.not_true, h5, hw]; rfl); first | rfl | exact ⟨rfl, rfl, rfl⟩))
      intro _ _
      exact k_loop_next (m' := m - 1) (by omega) ⟨rfl, k + 1, by omega, by simp only [Nat.reduceEqDiff, T.get_put, ↓reduceIte]⟩
    · repeat (first
  | with_reducible first | apply ops_end | apply d_end | apply k_seq | apply k_seq_ret | apply k_seq_exit | apply k_block | apply k_block_ret | apply k_block_here | apply c_seq | apply c_block | apply c_region | apply c_skip | apply c_ret | apply c_exit | apply c_loop | apply k_loop_exit | apply k_loop_ret | apply if_t | apply if_f
  | (with_reducible apply k_block_on
     · decide)
  | ((with_reducible first | apply xOp | apply xDr | apply xIf); rfl; (simp only [Nat.reduceEqDiff, Nat.reduceAdd, ↓reduceIte, xBB, stG, opA, val, opdA, opdO, plainN, omap, binA, intBinA, loadV, readA, storeV, writeA, fieldAddrA, indexAddrA, lenA, builtinA, newA, unA, packA, Value.cells, h5, k0, un30, hlt]; rfl); first | rfl | exact ⟨rfl, rfl, rfl⟩))
      intro _ _
      repeat (first
  | with_reducible first | apply ops_end | apply d_end | apply k_seq | apply k_seq_ret | apply k_seq_exit | apply k_block | apply k_block_ret | apply k_block_here | apply c_seq | apply c_block | apply c_region | apply c_skip | apply c_ret | apply c_exit | apply c_loop | apply k_loop_exit | apply k_loop_ret | apply if_t | apply if_f
  | (with_reducible apply k_block_on
     · decide)
  | ((with_reducible first | apply xOp | apply xDr | apply xIf); rfl; (simp only [Nat.reduceEqDiff, Nat.reduceAdd, ↓reduceIte, xBB, stG, opA, val, opdA, opdO, plainN, omap, binA, intBinA, loadV, readA, storeV, writeA, fieldAddrA, indexAddrA, lenA, builtinA, newA, unA, packA, Value.cells]; rfl); first | rfl | exact ⟨rfl, rfl, rfl⟩))
      intro _
      ((with_reducible first | apply ret_i | apply ret_n); (simp only [Nat.reduceEqDiff, Nat.reduceAdd, ↓reduceIte, xBB, resA, opdA, opdO, plainN, omap, val, loadV, readA, packA]; rfl))
      rfl

theorem rows_len {n : Nat} {es : List (Int × Int)} {R : List Nat} : ∀ l ∈ rowsL n es R, l.length ≤ n := fun l h => by
  obtain ⟨r, _, rfl⟩ := List.mem_map.1 h
  exact nodesL_len _ _
theorem sub_one {n : Nat} (h : n < 62) : IntKind.i64.wrap ((((2 ^ n : Nat)) : Int) - 1) = ((2 ^ n - 1 : Nat) : Int) := by
  have h1 : 0 < 2 ^ n := Nat.pow_pos (by decide)
  have h2 : 2 ^ n < 2 ^ 62 := Nat.pow_lt_pow_right (by decide) h
  generalize 2 ^ n = x at *
  rw [show (x : Int) - 1 = ((x - 1 : Nat) : Int) by omega]
  exact wrapN (by omega)

theorem f7_spec [Sorts Tryd.prog] (nb : Nat) (bs : List Nat) (bv : Value) (s : HS) (hgl : Glob s) (hs : Sl s 1 bv (bs.map encU)) (hbs : ∀ b ∈ bs, b < 256) (hnb : nb < 256) :
    wpF Tryd.prog s.nx 7 [.agg #[.int .u8 nb, bv]] s (fun v s' => v = .bool true) := by
  obtain ⟨b, c, rfl⟩ := hs.shape
  refine wpF_of Tryd.func7 rfl rfl rfl rfl (Nat.le_refl _) ?_
  simp only [paramsA]
  repeat (first
  | with_reducible first | apply ops_end | apply d_end | apply k_seq | apply k_seq_ret | apply k_seq_exit | apply k_block | apply k_block_ret | apply k_block_here | apply c_seq | apply c_block | apply c_region | apply c_skip | apply c_ret | apply c_exit | apply c_loop | apply k_loop_exit | apply k_loop_ret | apply if_t | apply if_f
  | (with_reducible apply k_block_on
     · decide)
  | ((with_reducible first | apply xOp | apply xDr | apply xIf); rfl; (simp only [Nat.reduceEqDiff, Nat.reduceAdd, ↓reduceIte, xBB, stG, opA, val, opdA, opdO, plainN, omap, binA, intBinA, loadV, readA, storeV, writeA, fieldAddrA, indexAddrA, lenA, builtinA, newA, unA, packA, Value.cells]; rfl); first | rfl | exact ⟨rfl, rfl, rfl⟩))
  have hA0 := Ab.new (lk := s.nx) s (.cells true 24 [.int .u8 nb, .slice b (bs.map encU).length c])
  ((with_reducible first | apply xCa | apply xCd); rfl; (simp only [Nat.reduceEqDiff, Nat.reduceAdd, ↓reduceIte, xBB, stB, opdA, opdO, plainN, omap, val, Value.cells]; exact ⟨rfl, rfl⟩); try rfl)
  apply call_fn
  refine wpF_closed (known_closed (hgl.keep hA0)) ?_
  refine opt_of rfl ?_
  repeat (first
  | with_reducible first | apply ops_end | apply d_end | apply k_seq | apply k_seq_ret | apply k_seq_exit | apply k_block | apply k_block_ret | apply k_block_here | apply c_seq | apply c_block | apply c_region | apply c_skip | apply c_ret | apply c_exit | apply c_loop | apply k_loop_exit | apply k_loop_ret | apply if_t | apply if_f
  | (with_reducible apply k_block_on
     · decide)
  | ((with_reducible first | apply xOp | apply xDr | apply xIf); rfl; (simp only [Nat.reduceEqDiff, Nat.reduceAdd, ↓reduceIte, xBB, stG, opA, val, opdA, opdO, plainN, omap, binA, intBinA, loadV, readA, storeV, writeA, fieldAddrA, indexAddrA, lenA, builtinA, newA, unA, packA, Value.cells, Bool.not_true, ty24, cutL]; rfl); first | rfl | exact ⟨rfl, rfl, rfl⟩))
  ((with_reducible first | apply xCa | apply xCd); rfl; (simp only [Nat.reduceEqDiff, Nat.reduceAdd, ↓reduceIte, xBB, stB, opdA, opdO, plainN, omap, val, Value.cells]; exact ⟨rfl, rfl⟩); try rfl)
  apply call_fn
  refine (f10_spec nb bs _ _ (hs.keep hA0) hbs hnb).use (by first | exact Nat.le_refl _ | (simp only [cond_true, cond_false]; omega) | omega | (dsimp only; omega)) (by first | exact Nat.le_refl _ | (simp only [cond_true, cond_false]; omega) | omega | (dsimp only; omega)) fun v s1 hv hA1 => ?_
  obtain ⟨o, ev, rfl, hown, hnew⟩ := hv
  have hk8 : nb % 8 < 8 := Nat.mod_lt _ (by decide)
  generalize hk : nb % 8 = n at *
  have hc0 := netE_good bs hk8
  have hg := good_of hc0
  generalize hes : netE n bs = es at *
  have hA2 := hA0.trans (hA1.lower (Nat.le_succ _) (Nat.le_refl _))
  obtain ⟨eb, ec, rfl⟩ := hown.shape
  have hle1 : s.nx ≤ s1.nx := hA2.nx
  have hout : ([Value.int .i64 (n : Int), .slice eb (es.map encE).length ec] : List Value).all Value.oneCell' = true := rfl
  refine opt_of rfl ?_
  unfold vG
  repeat (first
  | with_reducible first | apply ops_end | apply d_end | apply k_seq | apply k_seq_ret | apply k_seq_exit | apply k_block | apply k_block_ret | apply k_block_here | apply c_seq | apply c_block | apply c_region | apply c_skip | apply c_ret | apply c_exit | apply c_loop | apply k_loop_exit | apply k_loop_ret | apply if_t | apply if_f
  | (with_reducible apply k_block_on
     · decide)
  | ((with_reducible first | apply xOp | apply xDr | apply xIf); rfl; (simp only [Nat.reduceEqDiff, Nat.reduceAdd, ↓reduceIte, xBB, stG, opA, val, opdA, opdO, plainN, omap, binA, intBinA, loadV, readA, storeV, writeA, fieldAddrA, indexAddrA, lenA, builtinA, newA, unA, packA, Value.cells, zr28, sz28, ty28, hle1, hout, List.toList_toArray]; rfl); first | rfl | exact ⟨rfl, rfl, rfl⟩))
  generalize hs2 : ({ hp := (s1.hp.put s1.nx (some (.cells true 28 [.int .i64 0, .slice none 0 0]))).put s1.nx (some (.cells true 28 (putL [.int .i64 0, .slice none 0 0] 0 [.int .i64 (n : Int), .slice eb (es.map encE).length ec]))), nx := s1.nx + 1 } : HS) = s2
  have hn2 : s2.nx = s1.nx + 1 := by rw [← hs2]
  have h2lo : ∀ id, id < s1.nx → s2.hp.get id = s1.hp.get id := fun id h => by rw [← hs2]; dsimp only; rw [T.get_put_ne _ _ _ (by omega), T.get_put_ne _ _ _ (by omega)]
  have h2b : s2.hp.get s1.nx = some (.cells true 28 [.int .i64 (n : Int), .slice eb (es.map encE).length ec]) := by rw [← hs2]; exact T.get_put_eq _ _ _
  have hsE : Sl s2 2 (.slice eb (es.map encE).length ec) (es.map encE) := hown.sl.same (by omega) h2lo
  repeat (first
  | with_reducible first | apply ops_end | apply d_end | apply k_seq | apply k_seq_ret | apply k_seq_exit | apply k_block | apply k_block_ret | apply k_block_here | apply c_seq | apply c_block | apply c_region | apply c_skip | apply c_ret | apply c_exit | apply c_loop | apply k_loop_exit | apply k_loop_ret | apply if_t | apply if_f
  | (with_reducible apply k_block_on
     · decide)
  | ((with_reducible first | apply xOp | apply xDr | apply xIf); rfl; (simp only [Nat.reduceEqDiff, Nat.reduceAdd, ↓reduceIte, xBB, stG, opA, val, opdA, opdO, plainN, omap, binA, intBinA, loadV, readA, storeV, writeA, fieldAddrA, indexAddrA, lenA, builtinA, newA, unA, packA, Value.cells, h2b, ty28, cutL, List.drop_zero]; rfl); first | rfl | exact ⟨rfl, rfl, rfl⟩))
  ((with_reducible first | apply xCa | apply xCd); rfl; (simp only [Nat.reduceEqDiff, Nat.reduceAdd, ↓reduceIte, xBB, stB, opdA, opdO, plainN, omap, val, Value.cells]; exact ⟨rfl, rfl⟩); try rfl)
  apply call_fn
  refine (f25_spec n es _ s2 hsE hc0).use (by first | exact Nat.le_refl _ | (simp only [cond_true, cond_false]; omega) | omega | (dsimp only; omega)) (Nat.le_refl _) fun v s3 hv hA3 => ?_
  obtain ⟨ov, rfl, hl3⟩ := hv
  have hn3 := hA3.nx
  have h3b := (hA3.get (Nat.le_refl _) (by omega)).trans h2b
  have hsE3 := hsE.keep hA3
  have hc2 : cutL [Value.int .i64 (n : Int), .slice eb (es.map encE).length ec] 0 2 = some [Value.int .i64 n, .slice eb (es.map encE).length ec] := rfl
  have hc3 : cutL [Value.int .i64 (n : Int), .slice eb (es.map encE).length ec] 0 1 = some [Value.int .i64 n] := rfl
  refine opt_of rfl ?_
  repeat (first
  | with_reducible first | apply ops_end | apply d_end | apply k_seq | apply k_seq_ret | apply k_seq_exit | apply k_block | apply k_block_ret | apply k_block_here | apply c_seq | apply c_block | apply c_region | apply c_skip | apply c_ret | apply c_exit | apply c_loop | apply k_loop_exit | apply k_loop_ret | apply if_t | apply if_f
  | (with_reducible apply k_block_on
     · decide)
  | ((with_reducible first | apply xOp | apply xDr | apply xIf); rfl; (simp only [Nat.reduceEqDiff, Nat.reduceAdd, ↓reduceIte, xBB, stG, opA, val, opdA, opdO, plainN, omap, binA, intBinA, loadV, readA, storeV, writeA, fieldAddrA, indexAddrA, lenA, builtinA, newA, unA, packA, Value.cells, List.getElem?_cons_zero, List.getElem?_cons_succ, h3b, ty28, hc2]; rfl); first | rfl | exact ⟨rfl, rfl, rfl⟩))
  ((with_reducible first | apply xCa | apply xCd); rfl; (simp only [Nat.reduceEqDiff, Nat.reduceAdd, ↓reduceIte, xBB, stB, opdA, opdO, plainN, omap, val, Value.cells]; exact ⟨rfl, rfl⟩); try rfl)
  apply call_fn
  refine (f26_spec n es _ s3 hsE3 hg (by omega)).use (by first | exact Nat.le_refl _ | (simp only [cond_true, cond_false]; omega) | omega | (dsimp only; omega)) (Nat.le_refl _) fun v s4 hv hA4 => ?_
  have hn4 := hA4.nx
  have h4b := (hA4.get (Nat.le_refl _) (by omega)).trans h3b
  have hsE4 := hsE3.keep hA4
  have hl4 := hl3.keep hA4
  have hcn : cN n es ≤ n := reps_len n
  have hrl : (rowsL n es (peelSt n es (cN n es)).1).length = cN n es := by unfold rowsL; rw [List.length_map]; exact (peel_left hg _ (Nat.le_refl _)).2
  refine opt_of rfl ?_
  repeat (first
  | with_reducible first | apply ops_end | apply d_end | apply k_seq | apply k_seq_ret | apply k_seq_exit | apply k_block | apply k_block_ret | apply k_block_here | apply c_seq | apply c_block | apply c_region | apply c_skip | apply c_ret | apply c_exit | apply c_loop | apply k_loop_exit | apply k_loop_ret | apply if_t | apply if_f
  | (with_reducible apply k_block_on
     · decide)
  | ((with_reducible first | apply xOp | apply xDr | apply xIf); rfl; (simp only [Nat.reduceEqDiff, Nat.reduceAdd, ↓reduceIte, xBB, stG, opA, val, opdA, opdO, plainN, omap, binA, intBinA, loadV, readA, storeV, writeA, fieldAddrA, indexAddrA, lenA, builtinA, newA, unA, packA, Value.cells]; rfl); first | rfl | exact ⟨rfl, rfl, rfl⟩))
  ((with_reducible first | apply xCa | apply xCd); rfl; (simp only [Nat.reduceEqDiff, Nat.reduceAdd, ↓reduceIte, xBB, stB, opdA, opdO, plainN, omap, val, Value.cells]; exact ⟨rfl, rfl⟩); try rfl)
  apply call_fn
  refine (f14_spec _ _ _ s4 hl4 hv (by omega) (fun l h => by have := rows_len l h; omega)).use (by first | exact Nat.le_refl _ | (simp only [cond_true, cond_false]; omega) | omega | (dsimp only; omega)) (Nat.le_refl _) fun v s5 hv hA5 => ?_
  subst hv
  have hn5 := hA5.nx
  have h5b := (hA5.get (Nat.le_refl _) (by omega)).trans h4b
  have hsE5 := hsE4.keep hA5
  have hl5 := hl4.keep hA5
  have h00 : ((0 : Int) != 0) = false := rfl
  obtain ⟨rb, rc, rfl⟩ := hl5.shape
  rw [hrl] at hl5
  refine opt_of rfl ?_
  repeat (first
  | with_reducible first | apply ops_end | apply d_end | apply k_seq | apply k_seq_ret | apply k_seq_exit | apply k_block | apply k_block_ret | apply k_block_here | apply c_seq | apply c_block | apply c_region | apply c_skip | apply c_ret | apply c_exit | apply c_loop | apply k_loop_exit | apply k_loop_ret | apply if_t | apply if_f
  | (with_reducible apply k_block_on
     · decide)
  | ((with_reducible first | apply xOp | apply xDr | apply xIf); rfl; (simp only [Nat.reduceEqDiff, Nat.reduceAdd, ↓reduceIte, xBB, stG, opA, val, opdA, opdO, plainN, omap, binA, intBinA, loadV, readA, storeV, writeA, fieldAddrA, indexAddrA, lenA, builtinA, newA, unA, packA, Value.cells, Bool.not_true, h00]; rfl); first | rfl | exact ⟨rfl, rfl, rfl⟩))
  refine loop_k (lk' := s5.nx) (s0 := s5) (fun m f t => ∃ i : Nat, i + m = cN n es ∧ f.get 7 = some (.int .i64 i) ∧ f.get 6 = some (.int .i64 ((peelSt n es i).2 : Nat))) (cN n es) (by omega) (Nat.le_refl _) ?_ (Ab.refl _ _) ?_
  · exact ⟨0, by omega, by simp only [Nat.reduceEqDiff, T.get_put, ↓reduceIte]; rfl, by simp only [Nat.reduceEqDiff, T.get_put, ↓reduceIte]; rfl⟩
  · rintro m f t ⟨i, hi, h7, h6⟩ hA hF
    (have k3 := hF 3 (by rfl); simp only [Nat.reduceEqDiff, T.get_put, ↓reduceIte, hrl] at k3; have k4 := hF 4 (by rfl); simp only [Nat.reduceEqDiff, T.get_put, ↓reduceIte, hrl] at k4)
    have hnt := hA.nx
    have htb := (hA.get (Nat.le_refl _) (by omega)).trans h5b
    by_cases hlt : (i : Int) < ((cN n es : Nat) : Int)
    · have hlt' : i < cN n es := by omega
      have hw : IntKind.i64.wrap ((i : Int) + 1) = ((i + 1 : Nat) : Int) := by rw [IntWalk.i64_in _ (by omega)]; rfl
      have hb0 : (0 : Int) ≤ (i : Int) ∧ (i : Int) < ((cN n es : Nat) : Int) := by omega
      obtain ⟨r, hr, hrn, hnext⟩ := peel_at hg hlt'
      obtain ⟨id, off, wr, e, cs, lb, lc, rfl, g1, g2, g3, g4⟩ := (hl5.keep hA).at (i := i) (l := nodesL (compN n es r) n) (by unfold rowsL; rw [List.getElem?_map, hr]; rfl)
      have hset3 : (peelSt n es i).2 < 2 ^ 63 := Nat.lt_of_lt_of_le (peel_ok n es i).lt (Nat.pow_le_pow_right (by decide) (by omega))
      have hc3 : compN n es r < 2 ^ 63 := Nat.lt_of_lt_of_le compN_lt (Nat.pow_le_pow_right (by decide) (by omega))
      have hor := or_i64 hset3 hc3
      have hnx62 : (peelSt n es (i + 1)).2 < 2 ^ 62 := Nat.lt_of_lt_of_le (peel_ok n es (i + 1)).lt (Nat.pow_le_pow_right (by decide) (by omega))
      have hrow := nodesL_len (compN n es r) n
      repeat (first
  | with_reducible first | apply ops_end | apply d_end | apply k_seq | apply k_seq_ret | apply k_seq_exit | apply k_block | apply k_block_ret | apply k_block_here | apply c_seq | apply c_block | apply c_region | apply c_skip | apply c_ret | apply c_exit | apply c_loop | apply k_loop_exit | apply k_loop_ret | apply if_t | apply if_f
  | (with_reducible apply k_block_on
     · decide)
  | ((with_reducible first | apply xOp | apply xDr | apply xIf); rfl; (simp only [Nat.reduceEqDiff, Nat.reduceAdd, ↓reduceIte, xBB, stG, opA, val, opdA, opdO, plainN, omap, binA, intBinA, loadV, readA, storeV, writeA, fieldAddrA, indexAddrA, lenA, builtinA, newA, unA, packA, Value.cells, h7, k4, un30, hlt, h6, sz35, ty35, hb0, g1, g3]; rfl); first | rfl | exact ⟨rfl, rfl, rfl⟩))
      ((with_reducible first | apply xCa | apply xCd); rfl; (simp only [Nat.reduceEqDiff, Nat.reduceAdd, ↓reduceIte, xBB, stB, opdA, opdO, plainN, omap, val, Value.cells]; exact ⟨rfl, rfl⟩); try rfl)
      apply call_fn
      refine (f23_spec _ _ t g4 (by omega) (fun y hy => by obtain ⟨q1, q2, _⟩ := mem_nodesL.1 hy; omega)).use (by first | exact Nat.le_refl _ | (simp only [cond_true, cond_false]; omega) | omega | (dsimp only; omega)) (Nat.le_refl _) fun v t1 hv hA6 => ?_
      obtain ⟨rfl, rfl⟩ := hv
      rw [bits_nodesL compN_lt]
      refine opt_of rfl ?_
      rw [← hnext] at hor
      repeat (first
  | with_reducible first | apply ops_end | apply d_end | apply k_seq | apply k_seq_ret | apply k_seq_exit | apply k_block | apply k_block_ret | apply k_block_here | apply c_seq | apply c_block | apply c_region | apply c_skip | apply c_ret | apply c_exit | apply c_loop | apply k_loop_exit | apply k_loop_ret | apply if_t | apply if_f
  | (with_reducible apply k_block_on
     · decide)
  | ((with_reducible first | apply xOp | apply xDr | apply xIf); rfl; (simp only [Nat.reduceEqDiff, Nat.reduceAdd, ↓reduceIte, xBB, stG, opA, val, opdA, opdO, plainN, omap, binA, intBinA, loadV, readA, storeV, writeA, fieldAddrA, indexAddrA, lenA, builtinA, newA, unA, packA, Value.cells, hor, k3, htb, ty28, hc2]; rfl); first | rfl | exact ⟨rfl, rfl, rfl⟩))
      ((with_reducible first | apply xCa | apply xCd); rfl; (simp only [Nat.reduceEqDiff, Nat.reduceAdd, ↓reduceIte, xBB, stB, opdA, opdO, plainN, omap, val, Value.cells]; exact ⟨rfl, rfl⟩); try rfl)
      apply call_fn
      refine (f17_spec n es _ _ t1 (hsE5.keep hA) hg hnx62).use (by first | exact Nat.le_refl _ | (simp only [cond_true, cond_false]; omega) | omega | (dsimp only; omega)) (Nat.le_refl _) fun v t2 hv hA7 => ?_
      rw [(peel_ok n es (i + 1)).cl] at hv
      subst hv
      refine opt_of rfl ?_
      repeat (first
  | with_reducible first | apply ops_end | apply d_end | apply k_seq | apply k_seq_ret | apply k_seq_exit | apply k_block | apply k_block_ret | apply k_block_here | apply c_seq | apply c_block | apply c_region | apply c_skip | apply c_ret | apply c_exit | apply c_loop | apply k_loop_exit | apply k_loop_ret | apply if_t | apply if_f
  | (with_reducible apply k_block_on
     · decide)
  | ((with_reducible first | apply xOp | apply xDr | apply xIf); rfl; (simp only [Nat.reduceEqDiff, Nat.reduceAdd, ↓reduceIte, xBB, stG, opA, val, opdA, opdO, plainN, omap, binA, intBinA, loadV, readA, storeV, writeA, fieldAddrA, indexAddrA, lenA, builtinA, newA, unA, packA, Value.cells, Bool.not_true, h7, hw]; rfl); first | rfl | exact ⟨rfl, rfl, rfl⟩))
      intro _ _
      exact k_loop_next (m' := m - 1) (by omega) ⟨i + 1, by omega, by simp only [Nat.reduceEqDiff, T.get_put, ↓reduceIte], by simp only [Nat.reduceEqDiff, T.get_put, ↓reduceIte]⟩
    · have hic : i = cN n es := by omega
      rw [hic, peel_full hg] at h6
      have hshl := shl_i64 (k := n) (by omega)
      have hsub := sub_one (n := n) (by omega)
      have hself : ((((2 ^ n - 1 : Nat)) : Int) == (((2 ^ n - 1 : Nat)) : Int)) = true := by simp
      repeat (first
  | with_reducible first | apply ops_end | apply d_end | apply k_seq | apply k_seq_ret | apply k_seq_exit | apply k_block | apply k_block_ret | apply k_block_here | apply c_seq | apply c_block | apply c_region | apply c_skip | apply c_ret | apply c_exit | apply c_loop | apply k_loop_exit | apply k_loop_ret | apply if_t | apply if_f
  | (with_reducible apply k_block_on
     · decide)
  | ((with_reducible first | apply xOp | apply xDr | apply xIf); rfl; (simp only [Nat.reduceEqDiff, Nat.reduceAdd, ↓reduceIte, xBB, stG, opA, val, opdA, opdO, plainN, omap, binA, intBinA, loadV, readA, storeV, writeA, fieldAddrA, indexAddrA, lenA, builtinA, newA, unA, packA, Value.cells, h7, k4, un30, hlt]; rfl); first | rfl | exact ⟨rfl, rfl, rfl⟩))
      intro _ _
      repeat (first
  | with_reducible first | apply ops_end | apply d_end | apply k_seq | apply k_seq_ret | apply k_seq_exit | apply k_block | apply k_block_ret | apply k_block_here | apply c_seq | apply c_block | apply c_region | apply c_skip | apply c_ret | apply c_exit | apply c_loop | apply k_loop_exit | apply k_loop_ret | apply if_t | apply if_f
  | (with_reducible apply k_block_on
     · decide)
  | ((with_reducible first | apply xOp | apply xDr | apply xIf); rfl; (simp only [Nat.reduceEqDiff, Nat.reduceAdd, ↓reduceIte, xBB, stG, opA, val, opdA, opdO, plainN, omap, binA, intBinA, loadV, readA, storeV, writeA, fieldAddrA, indexAddrA, lenA, builtinA, newA, unA, packA, Value.cells, h6, k3, fd28_0, ty3, htb, hc3, hshl, hsub, hself]; rfl); first | rfl | exact ⟨rfl, rfl, rfl⟩))
      intro _
      ((with_reducible first | apply ret_i | apply ret_n); (simp only [Nat.reduceEqDiff, Nat.reduceAdd, ↓reduceIte, xBB, resA, opdA, opdO, plainN, omap, val, loadV, readA, packA]; rfl))
      rfl
end Go.Ev

/- From the row's world to the clean one: the arguments as the evaluator sees them; what the row asks of the world behind the call. -/
set_option linter.unusedSimpArgs false
set_option linter.unusedVariables false
namespace Go.Ev
open Go Go.Proofs Go.ChangeShapes Go.WideShapes Go.ChangeAt Go.RowKit
set_option maxRecDepth 100000

theorem ownKnobT : ownKnob Tryd.prog.godebug = none := by kernel_rfl
theorem gTab : Tryd.prog.globalNamed "math/bits.deBruijn64tab" = some 0 := by kernel_rfl
theorem gTabType : (Tryd.prog.globals[0]?).map (·.type) = some 103 := by kernel_rfl
theorem un103 : Tryd.prog.underlying 103 = some (.array 64 5) := by kernel_rfl
theorem cells103 : Tryd.prog.cellsOf 103 = 64 := by kernel_rfl
theorem cells5 : Tryd.prog.cellsOf 5 = 1 := by kernel_rfl
theorem cells3 : Tryd.prog.cellsOf 3 = 1 := by kernel_rfl
theorem kidsT : Kids Tryd.prog (· < Tryd.prog.types.size) := kids_rows (by kernel_rfl) (by kernel_rfl)
theorem fullT : ∀ t e, t < Tryd.prog.types.size → Tryd.prog.underlying t = some (.slice e) → 0 < Tryd.prog.cellsOf e := slices_full_of Tryd.prog (by kernel_rfl)
theorem sz103 : szA Tryd.prog 103 = some 64 := by kernel_rfl
theorem mixed : Tryd.prog.follows .mixedOrders = true := by kernel_rfl

/-! ### Behind the call -/
section
variable {H : Type} {enc : TypeId × Value → H}

theorem keptBut_of {W W' : World} {may : MemPlace → Prop} (hos : W'.os = W.os) (hout : W'.output = W.output) (hh : ∀ r, r < W.heap.size → W'.heap[r]? = W.heap[r]?) : W.keptBut W' may := by
  refine ⟨hos, hout, fun i hi => ?_⟩
  have := (World.keptBut_refl W may).2.2 i hi
  rw [hh i hi]; exact this

theorem sameAt_of {W W' : World} (hh : ∀ r, r < W.heap.size → W'.heap[r]? = W.heap[r]?) {p : MemPlace} (hp : p.block < W.heap.size) : W.sameAt W' p := by
  cases p with
  | cell b off =>
    show W'.cell? ⟨b, off, none⟩ = W.cell? ⟨b, off, none⟩
    unfold World.cell?
    rw [hh b hp]
  | map b => exact hh b hp

theorem trodAll_carry {P : Program} {w w' : World} {base : Nat} {spare : Nat → Bool} {held : Bool} : ∀ {ts : List TypeId} {vs : List Value} {ds : List (DataW H)} {ps : List MemPlace},
    DataW.TrodAll enc P w base spare held ts vs ds ps → (∀ p ∈ ps, w.sameAt w' p) → DataW.TrodAll enc P w' base spare held ts vs ds ps
  | [], [], [], _, h, _ => h
  | _ :: _, _ :: _, _ :: _, _, ⟨p, q, ⟨n, h1⟩, h2, e⟩, hs =>
    ⟨p, q, ⟨n, DataW.trod_carry n _ _ _ h1 fun x hx => hs x (by rw [e]; exact List.mem_append_left _ hx)⟩, trodAll_carry h2 (fun x hx => hs x (by rw [e]; exact List.mem_append_right _ hx)), e⟩

/-- What a law's row asks behind the call: true, and the arguments as they were. -/
theorem law_post {fn : Func} {s : ChangeSpec} (hvars : s.vars = []) (hres : fn.resultTypes = #[4]) (hpar : ∀ t ∈ fn.params.toList, t < Tryd.prog.types.size) {W W' : World} {args : Array Value} {ds gs : List (DataW H)} {before : List MemPlace}
    (hW : DataW.Whole enc Tryd.prog fn.params.toList s.vars false W args.toList ds gs before) (hsp : s.fn H (ds ++ gs) = { results := [.lit (.bool true)], args := ds })
    (hos : W'.os = W.os) (hout : W'.output = W.output) (hh : ∀ r, r < W.heap.size → W'.heap[r]? = W.heap[r]?) : s.post enc Tryd.prog fn false true false false W args (.bool true) W' := by
  have hlt := hW.lt
  have hW0 := hW
  obtain ⟨p, q, hA, hV, rfl, _, _⟩ := hW0
  refine ⟨ds, gs, p ++ q, [], p, [], hW, ?_, ?_, ?_, keptBut_of hos hout hh, fun h => by cases h⟩
  · rw [hsp, hres]
    exact trodAll_cons_mk (shut_bool un4 _) trodAll_mk0
  · rw [hsp]
    refine DataW.TrodAll.respare kidsT fullT hpar (trodAll_carry hA fun x hx => sameAt_of hh (hlt x (List.mem_append_left _ hx))) fun x hx => ?_
    simpa using hlt x (List.mem_append_left _ hx)
  · rw [hsp, hvars]; rfl
end

/-! ### Ahead of the call -/
/-- How an argument is seen: a block for what it holds, if it holds anything. -/
structure View (P : Program) (W : World) (v : Value) (xs : List (List Value)) (o : Option AObj) (im : Img) (av : Nat → Value) : Prop where
  val : ∀ φ id, φ id = some im → VR φ (av id) v
  blk : ∀ φ x, o = some x → OR P φ im (W.heap[im.blk]?) x ∧ wrO x = false
  sl : ∀ id (s : HS), s.hp.get id = o → id < s.nx → Sl s 1 (av id) xs

theorem lies_info {p : Program} {u : TypeId} (hu : ∀ m e, p.underlying u ≠ some (.array m e)) : ∀ {d : Nat} {e c off n : Nat}, liesAt p d e c off u n = true → p.cellsOf e ≠ 0 := by
  intro d e c off n h hz
  cases d with
  | zero => cases h
  | succ d =>
    unfold liesAt at h
    rw [Bool.or_eq_true] at h
    rcases h with h | h
    · unfold Program.depth at h
      unfold rowAt at h
      simp only [hz, if_true] at h
      cases h
    · split at h
      · rename_i m u' hmu; exact hu _ _ hmu
      · cases h

theorem sz_of_cells {p : Program} {e : TypeId} (h : p.cellsOf e ≠ 0) : ∃ n, szA p e = some n := by
  unfold Program.cellsOf at h
  unfold szA
  cases hi : p.info? e with
  | none => rw [hi] at h; exact absurd rfl h
  | some i => exact ⟨_, rfl⟩

/-- A slice of numbers. -/
theorem view_ints {P : Program} {W : World} {H : Type} {enc : TypeId × Value → H} {base b0 : Nat} {sp : Nat → Bool} {held : Bool} {t e : TypeId} {k : IntKind} {v : Value} {d : DataW H} {ps : List MemPlace}
    (ht : P.underlying t = some (.slice e)) (he : P.underlying e = some (.int k)) (hc : P.cellsOf e = 1) (hval : Value.okWide P W .any b0 t v) (hd : DataW.Trod enc P W base sp held t v d ps) :
    ∃ (zs : List Int) (o : Option AObj) (im : Img) (av : Nat → Value), View P W v (zs.map fun n => [.int k n]) o im av ∧ (∀ n ∈ zs, (Lit.int k n).wf = true) ∧ zs.length ≤ maxLen := by
  obtain ⟨fuel, hf⟩ := hd
  have hone : v.cells.toList = [v] := by
    unfold Value.okWide at hval
    rw [ht] at hval
    simp only at hval
    unfold Cell.okWide at hval
    rw [ht] at hval
    cases v <;> first | rfl | (simp [Cell.ok, ht] at hval; done)
  rcases open_ints ht he hc hf with ⟨hcs, _⟩ | ⟨a, len, cap, zs, hcs, _, hl, hm, hz, _, hcell, hwf⟩
  · rw [hone] at hcs
    obtain rfl := List.head_eq_of_cons_eq hcs
    refine ⟨[], none, ⟨0, 0, 0, 0⟩, fun _ => .slice none 0 0, ⟨fun φ id _ => .nilslice 0 0, fun φ x h => (by cases h), fun id s _ _ => Or.inl ⟨rfl, rfl⟩⟩, fun n h => (by cases h), Nat.zero_le _⟩
  · rw [hone] at hcs
    obtain rfl := List.head_eq_of_cons_eq hcs
    -- where the slice lies
    obtain ⟨row, c, fz, hspot, hblk, hsz⟩ : ∃ row c fz, a.spot = none ∧ W.heap[a.block]? = some (.cells c row fz) ∧ ∃ n, szA P row = some n := by
      unfold Value.okWide at hval
      rw [ht] at hval
      simp only at hval
      unfold Cell.okWide at hval
      rw [ht] at hval
      simp only [Cell.ok, ht] at hval
      obtain ⟨_, _, _, h1, row, cells, h2, h3⟩ := hval
      unfold World.shape? at h2
      split at h2
      · rename_i c elem fz hb
        cases h2
        refine ⟨_, c, fz, h1, hb, sz_of_cells (lies_info (fun m e' h => ?_) h3)⟩
        rw [he] at h; cases h
      · cases h2
    obtain ⟨n, hn⟩ := hsz
    obtain ⟨ab, aoff, aspot⟩ := a
    simp only at hspot hblk
    subst hspot
    have hcU : cap < UNK := by unfold maxLen at hm; unfold UNK; omega
    have hcl : ∀ i, i < zs.length → c[aoff + i]? = some (.int k (zs.getD i 0)) := fun i hi => by
      have := hcell i hi
      rw [add_plain] at this
      unfold World.cell? at this
      simp only [hblk] at this
      simpa using this
    have hlz : len ≤ zs.length := by rw [hz]; split <;> omega
    by_cases h0 : len = 0
    · subst h0
      refine ⟨[], some (.cells false row []), ⟨ab, 0, c.size, n⟩, fun id => .slice (some ⟨id, aoff, none⟩) 0 cap, ⟨fun φ id h => ?_, fun φ x h => ?_, fun id s h1 h2 => ?_⟩, fun n h => (by cases h), Nat.zero_le _⟩
      · have := VR.slice (φ := φ) id aoff 0 cap ⟨ab, 0, c.size, n⟩ h hcU
        simpa using this
      · cases h
        exact ⟨⟨hn, c, fz, hblk, by simp, Nat.zero_le _, fun i v h => (by simp at h), fun h => (by cases h)⟩, rfl⟩
      · exact Or.inr ⟨id, aoff, cap, false, row, [], rfl, h1, h2, fun i x h => by simp at h⟩
    · have hoff : aoff ≤ c.size := by
        have := (Array.getElem?_eq_some_iff.1 (hcl 0 (by omega))).1; omega
      have hend : aoff + len ≤ c.size := by
        have := (Array.getElem?_eq_some_iff.1 (hcl (len - 1) (by omega))).1; omega
      have hlen : (zs.take len).length = len := by rw [List.length_take]; omega
      refine ⟨zs.take len, some (.cells false row ((zs.take len).map fun n => .int k n)), ⟨ab, aoff, c.size - aoff, n⟩, fun id => .slice (some ⟨id, 0, none⟩) len cap, ⟨fun φ id h => ?_, fun φ x h => ?_, fun id s h1 h2 => ?_⟩, fun n h => hwf n (List.mem_of_mem_take h), by omega⟩
      · exact VR.slice (φ := φ) id 0 len cap ⟨ab, aoff, c.size - aoff, n⟩ h hcU
      · cases h
        refine ⟨⟨hn, c, fz, hblk, by show aoff + (c.size - aoff) = c.size; omega, by rw [List.length_map, hlen]; show len ≤ c.size - aoff; omega, fun i v h => ?_, fun h => (by cases h)⟩, rfl⟩
        rw [List.getElem?_map, Option.map_eq_some_iff] at h
        obtain ⟨z, h3, rfl⟩ := h
        have hi : i < len := by have := (List.getElem?_eq_some_iff.1 h3).1; omega
        rw [List.getElem?_take_of_lt hi] at h3
        refine ⟨.int k z, ?_, .int k z⟩
        show c[aoff + i]? = _
        rw [hcl i (by omega), List.getD_eq_getElem?_getD, h3]; rfl
      · refine Or.inr ⟨id, 0, cap, false, row, _, by rw [List.length_map, hlen], h1, h2, fun i x h => ?_⟩
        rw [List.getElem?_map, Option.map_eq_some_iff] at h
        obtain ⟨z, h3, rfl⟩ := h
        refine ⟨rfl, ?_⟩
        have hi : i < (zs.take len).length := (List.getElem?_eq_some_iff.1 h3).1
        unfold cutL
        rw [if_pos (by simp only [List.length_map]; omega)]
        rw [Nat.zero_add, Nat.mul_one, List.drop_eq_getElem_cons (by simpa using hi)]
        have h4 := (List.getElem?_eq_some_iff.1 h3).2
        simp only [List.getElem_map, h4, List.take_succ_cons, List.take_zero]

/-- No second argument. -/
theorem view_none {P : Program} {W : World} : View P W (.slice none 0 0) [] none ⟨0, 0, 0, 0⟩ (fun _ => .slice none 0 0) :=
  ⟨fun φ id _ => .nilslice 0 0, fun φ x h => (by cases h), fun id s _ _ => Or.inl ⟨rfl, rfl⟩⟩

/-- The clean memory of two arguments. -/
def s2 (o1 o2 : Option AObj) : HS := ⟨((T.nil.put 0 (some tabB)).put 1 o1).put 2 o2, 3⟩
def φ2 (im1 im2 : Img) : Inj := fun id => if id = 0 then some ⟨0, 0, 64, 64⟩ else if id = 1 then some im1 else if id = 2 then some im2 else none

theorem s2_get (o1 o2 : Option AObj) (id : Nat) : (s2 o1 o2).hp.get id = if id = 2 then o2 else if id = 1 then o1 else if id = 0 then some tabB else none := by
  unfold s2
  simp only [T.get_put, T.get_nil]

theorem s2_glob (o1 o2 : Option AObj) : Glob (s2 o1 o2) := ⟨by unfold s2; simp, by rw [s2_get]; rfl⟩

/-- The program's variable, as the clean memory has it. -/
theorem tab_or {W : World} (hsh : W.ShapedOpen Tryd.prog) (hT : Lib.TabIs Tryd.prog W "math/bits.deBruijn64tab" .u8 tabL) (φ : Inj) : OR Tryd.prog φ ⟨0, 0, 64, 64⟩ (W.heap[0]?) tabB := by
  have hrow : ∃ zero, ((begin Tryd.prog (fun _ _ => 0) default).world.heap[0]?).bind Obj.row? = some (zero, 103) := by
    have h : (((begin Tryd.prog (fun _ _ => 0) default).world.heap[0]?).bind Obj.row?).map (·.2) = some 103 := by kernel_rfl
    cases hc : ((begin Tryd.prog (fun _ _ => 0) default).world.heap[0]?).bind Obj.row? with
    | none => rw [hc] at h; cases h
    | some x => rw [hc] at h; obtain ⟨z, t⟩ := x; cases h; exact ⟨z, rfl⟩
  obtain ⟨zero, hz⟩ := hrow
  obtain ⟨cs, hcs, _, _⟩ := hsh.1 0 zero 103 (by rw [globs]; decide) hz
  have hv : W.var? Tryd.prog "math/bits.deBruijn64tab" = some (tabL.map fun z => Value.int .u8 z).toArray := hT
  unfold World.var? at hv
  rw [gTab] at hv
  simp only [Option.bind_some, hcs, Option.some.injEq] at hv
  subst hv
  refine ⟨sz103, _, _, hcs, rfl, Nat.le_refl _, fun i v h => ?_, fun h => by cases h⟩
  refine ⟨v, ?_, ?_⟩
  · show (tabL.map fun z => Value.int .u8 z).toArray[0 + i]? = _
    rw [Nat.zero_add, List.getElem?_toArray]; exact h
  · rw [List.getElem?_map, Option.map_eq_some_iff] at h
    obtain ⟨z, _, rfl⟩ := h
    exact .int .u8 z

theorem hr2 {W : World} {v1 v2 : Value} {x1 x2 : List (List Value)} {o1 o2 : Option AObj} {im1 im2 : Img} {a1 a2 : Nat → Value} (hsh : W.ShapedOpen Tryd.prog) (hT : Lib.TabIs Tryd.prog W "math/bits.deBruijn64tab" .u8 tabL)
    (h1 : View Tryd.prog W v1 x1 o1 im1 a1) (h2 : View Tryd.prog W v2 x2 o2 im2 a2) : HR Tryd.prog (φ2 im1 im2) (s2 o1 o2) W := by
  have hwr : ∀ id o, (s2 o1 o2).hp.get id = some o → wrO o = false := fun id o h => by
    rw [s2_get] at h
    split at h
    · exact (h2.blk (φ2 im1 im2) o h).2
    · split at h
      · exact (h1.blk (φ2 im1 im2) o h).2
      · split at h
        · cases h; rfl
        · cases h
  refine ⟨fun id o h => ?_, fun i j oi oj mi mj a b _ _ _ hw => ?_, fun id o h => ?_, fun g hg => ?_, ?_⟩
  · rw [s2_get] at h
    split at h
    · rename_i e; subst e; exact ⟨im2, rfl, (h2.blk _ o h).1⟩
    · split at h
      · rename_i e; subst e; exact ⟨im1, rfl, (h1.blk _ o h).1⟩
      · split at h
        · rename_i e; subst e; cases h; exact ⟨_, rfl, tab_or hsh hT _⟩
        · cases h
  · rw [hwr i oi a, hwr j oj b] at hw; rcases hw with h | h <;> cases h
  · rw [s2_get] at h
    show id < 3
    split at h
    · omega
    · split at h
      · omega
      · split at h
        · omega
        · cases h
  · rw [globs] at hg
    obtain rfl : g = 0 := by omega
    exact ⟨_, rfl, rfl, rfl⟩
  · rw [globs]; show 1 ≤ 3; decide

theorem fresh2 (im1 im2 : Img) (n : Nat) : Fresh (φ2 im1 im2) 3 n := fun id h _ => by
  unfold φ2
  rw [if_neg (by omega), if_neg (by omega), if_neg (by omega)]

/-- From the clean run to the call. -/
theorem calls_of [Sorts Tryd.prog] {W : World} {f : FuncId} {args args' : List Value} {im1 im2 : Img} {o1 o2 : Option AObj} (hH : HR Tryd.prog (φ2 im1 im2) (s2 o1 o2) W) (hl : LR (φ2 im1 im2) args args')
    (h : wpF Tryd.prog (s2 o1 o2).nx f args (s2 o1 o2) fun v _ => v = .bool true) :
    Calls Tryd.prog f args'.toArray W fun e W' => e = .returned (.bool true) ∧ W'.os = W.os ∧ W'.output = W.output ∧ ∀ r, r < W.heap.size → W'.heap[r]? = W.heap[r]? := by
  obtain ⟨n, v, s', h1, rfl⟩ := h
  refine (ev_calls Tryd.prog mixed h1 hH hl (Nat.le_refl _) (fresh2 im1 im2 _)).mono fun e W' hp => ?_
  obtain ⟨v', φ', rfl, hv, p⟩ := hp
  cases hv
  refine ⟨rfl, p.os, p.output, fun r hr => p.frame r hr fun id im hid hw _ => ?_⟩
  have hid' : 3 ≤ id := hid
  have := hw.ne
  rw [s2_get, if_neg (by omega), if_neg (by omega), if_neg (by omega)] at this
  exact absurd rfl this

theorem fieldsOf {P : Program} {t : TypeId} {fs : List Field} (h : fieldsA P t = some fs) : P.underlying t = some (.struct fs.toArray) := by
  unfold fieldsA at h
  split at h
  · rename_i f hf
    simp only [Option.some.injEq] at h
    subst h
    rw [hf]
  · cases h

def encU' (b : Nat) : List Value := [.int .u8 b]

theorem wf_u8 {n : Int} (h : (Lit.int .u8 n).wf = true) : 0 ≤ n ∧ n < 256 := by
  have h1 : IntKind.u8.min = 0 := rfl
  have h2 : IntKind.u8.max = 255 := rfl
  simp only [Lit.wf, Bool.and_eq_true, decide_eq_true_eq] at h
  omega

/-- A net: its number, and its list. -/
theorem view_net {W : World} {H : Type} {enc : TypeId × Value → H} {base b0 : Nat} {sp : Nat → Bool} {held : Bool} {v : Value} {d : DataW H} {ps : List MemPlace} (hval : Value.okWide Tryd.prog W .any b0 24 v) (hd : DataW.Trod enc Tryd.prog W base sp held 24 v d ps) :
    ∃ (nb : Nat) (c1 : Value) (bs : List Nat) (o : Option AObj) (im : Img) (av : Nat → Value), v = .agg #[.int .u8 nb, c1] ∧ View Tryd.prog W c1 (bs.map encU') o im av ∧ nb < 256 ∧ (∀ b ∈ bs, b < 256) ∧ bs.length ≤ maxLen := by
  have hs := fieldsOf (P := Tryd.prog) (t := 24) (fs := [{ name := "Nodes", type := 5, offset := 0, embedded := false, tag := "", pkgPath := "", byteOffset := 0 }, { name := "Edges", type := 22, offset := 1, embedded := false, tag := "", pkgPath := "", byteOffset := 8 }]) (by kernel_rfl)
  obtain ⟨fuel, hf⟩ := hd
  obtain ⟨y0, y1, n, _, hl, h0, h1⟩ := trod_struct2 hs hf
  have hc24 : Tryd.prog.cellsOf 24 = 2 := by kernel_rfl
  have hc22 : Tryd.prog.cellsOf 22 = 1 := by kernel_rfl
  unfold Value.okWide at hval
  rw [hs] at hval
  simp only at hval
  obtain ⟨cs, rfl, hsz, ts, hts, _, hrow⟩ := hval
  have hts2 : Tryd.prog.cellTypes Tryd.prog.depth 24 = some [5, 22] := by kernel_rfl
  rw [hts2] at hts
  obtain rfl := (Option.some.inj hts).symm
  rw [hc24] at hsz
  obtain ⟨l⟩ := cs
  match l, hsz with
  | [c0, c1], _ =>
    simp only [Value.cells, cells5, hc22] at h0 h1
    obtain ⟨z, hz, _, hwf⟩ := DataW.trod_int un5 (show DataW.trod enc Tryd.prog W base sp held n 5 [c0] = some y0 from h0)
    obtain rfl := List.head_eq_of_cons_eq hz
    obtain ⟨u, hu, hok⟩ := hrow 1 c1 rfl
    obtain rfl : u = 22 := (Option.some.inj (show some 22 = some u from hu)).symm
    have hval1 : Value.okWide Tryd.prog W .any b0 22 c1 := by
      unfold Value.okWide
      rw [un22]
      exact hok
    have hone : c1.cells.toList = [c1] := by
      unfold Cell.okWide at hok
      rw [un22] at hok
      cases c1 <;> first | rfl | (simp [Cell.ok, un22] at hok; done)
    obtain ⟨zs, o, im, av, hv, hwz, hlz⟩ := view_ints un22 un5 cells5 hval1 ⟨n, by rw [hone]; exact h1⟩
    have hzn := wf_u8 hwf
    refine ⟨z.toNat, c1, zs.map Int.toNat, o, im, av, by rw [Int.toNat_of_nonneg hzn.1], ?_, by omega, fun b hb => ?_, by rw [List.length_map]; exact hlz⟩
    · have : (zs.map fun n => [Value.int .u8 n]) = (zs.map Int.toNat).map encU' := by
        rw [List.map_map]
        refine List.map_congr_left fun x hx => ?_
        simp only [Function.comp, encU']
        rw [Int.toNat_of_nonneg (wf_u8 (hwz x hx)).1]
      rw [← this]; exact hv
    · obtain ⟨x, hx, rfl⟩ := List.mem_map.1 hb
      have := wf_u8 (hwz x hx); omega
end Go.Ev
