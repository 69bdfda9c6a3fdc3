import Derived.Test.YthedojfbofcefaaDoorEvG32
import Derived.Test.YthedojfbofcefaaDoorEvLaw1
/- removable.Candidates, removable.Count. -/
namespace Go.Ev
open Go Go.Proofs
set_option linter.unusedSimpArgs false
set_option linter.unusedVariables false
set_option maxRecDepth 100000
set_option maxHeartbeats 4000000
attribute [local irreducible] wpOps wpC wpD wpF wpLoop wpCall seqK blockK loopK retK T.put T.get T.setF

theorem f12_spec (n : Nat) (es : List (Int × Int)) (ev : Value) (most wo : Int) (s : HS) (hgl : Glob s) (hs : Sl s 2 ev (es.map encE)) :
    wpF Tryd.prog s.nx 12 [vG n ev, .int .i64 most, .int .i64 wo] s (fun v s' => (restR n es most wo ≠ 0 ∧ v = .tuple #[.slice none 0 0, .int .i64 (restR n es most wo)]) ∨
      (restR n es most wo = 0 ∧ ∃ ys, Found (HNs n es) (allowB (2 ^ n - 1) most wo) ys ∧ ∃ lv : Value, ((ys.length = 1025 ∧ v = .tuple #[lv, .int .i64 6] ∧ Lls s' lv []) ∨
        (ys.length ≤ 1024 ∧ (∀ S, Gn (HNs n es) (allowB (2 ^ n - 1) most wo) S → S = 0 ∨ S ∈ ys) ∧ v = .tuple #[lv, .int .i64 0] ∧ Lls s' lv ((srtN ys).map fun a => nodesL a 64))))) := by
  refine wpF_of Tryd.func12 rfl rfl rfl rfl (Nat.le_refl _) ?_
  simp only [paramsA, vG]
  have hc2 : cutL [Value.int .i64 (n : Int), ev] 0 2 = some [.int .i64 n, ev] := rfl
  repeat (first
  | with_reducible first | apply ops_end | apply d_end | apply k_seq | apply k_seq_ret | apply k_seq_exit | apply k_block | apply k_block_ret | apply k_block_here | apply c_seq | apply c_block | apply c_region | apply c_skip | apply c_ret | apply c_exit | apply c_loop | apply k_loop_exit | apply k_loop_ret | apply if_t | apply if_f
  | (with_reducible apply k_block_on
     · decide)
  | ((with_reducible first | apply xOp | apply xDr | apply xIf); rfl; (simp only [Nat.reduceEqDiff, Nat.reduceAdd, ↓reduceIte, xBB, stG, undef, opA, val, opdA, opdO, plainN, omap, binA, intBinA, loadV, readA, storeV, writeA, fieldAddrA, indexAddrA, lenA, builtinA, newA, unA, packA, Value.cells, sz28, ty28, hc2, List.toList_toArray]; rfl); first | rfl | exact ⟨rfl, rfl, rfl⟩))
  have hA0 := Ab.new (lk := s.nx) s (.cells true 28 [.int .i64 n, ev])
  ((with_reducible first | apply xCa | apply xCd); rfl; (simp only [Nat.reduceEqDiff, Nat.reduceAdd, ↓reduceIte, xBB, stB, opdA, opdO, plainN, omap, val, Value.cells]; exact ⟨rfl, rfl⟩); try rfl)
  apply call_fn
  refine (f28_spec n es ev most wo _ (hs.keep hA0)).use (by first | exact Nat.le_refl _ | (simp only [cond_true, cond_false]; omega) | omega | (dsimp only; omega)) (by first | exact Nat.le_refl _ | (simp only [cond_true, cond_false]; omega) | omega | (dsimp only; omega)) fun v s1 hv hA1 => ?_
  subst hv
  have hn1 := hA1.nx
  dsimp only at hn1
  have hb0 := hA1.get (Nat.le_refl _) (Nat.lt_succ_self s.nx)
  rw [T.get_put_eq] at hb0
  have hA01 := hA0.trans (hA1.lower (Nat.le_succ _) (Nat.le_refl _))
  have hl1 : s.nx ≤ s1.nx := by omega
  have hone : ∀ a b c : Int, ([Value.int .u64 a, .int .i64 b, .int .i64 c] : List Value).all Value.oneCell' = true := fun _ _ _ => rfl
  have hput : ∀ a b c : Int, putL [Value.int .u64 0, .int .i64 0, .int .i64 0] 0 [.int .u64 a, .int .i64 b, .int .i64 c] = [.int .u64 a, .int .i64 b, .int .i64 c] := fun _ _ _ => rfl
  have hcut : ∀ a b c : Value, cutL [a, b, c] 0 3 = some [a, b, c] := fun _ _ _ => rfl
  refine opt_of rfl ?_
  by_cases hR : restR n es most wo = 0
  · have e0 : (restR n es most wo != 0) = false := by simp [hR]
    rw [if_pos hR, Int.toNat_natCast]
    have hc : checkR n es = 0 := by
      unfold restR at hR
      split at hR
      · rename_i h; exact absurd hR h
      · rename_i h; simpa using h
    have hg := good_of hc
    have hn64 : n ≤ 64 := by have := hg.hi; omega
    unfold vL
    repeat (first
  | with_reducible first | apply ops_end | apply d_end | apply k_seq | apply k_seq_ret | apply k_seq_exit | apply k_block | apply k_block_ret | apply k_block_here | apply c_seq | apply c_block | apply c_region | apply c_skip | apply c_ret | apply c_exit | apply c_loop | apply k_loop_exit | apply k_loop_ret | apply if_t | apply if_f
  | (with_reducible apply k_block_on
     · decide)
  | ((with_reducible first | apply xOp | apply xDr | apply xIf); rfl; (simp only [Nat.reduceEqDiff, Nat.reduceAdd, ↓reduceIte, xBB, stG, undef, opA, val, opdA, opdO, plainN, omap, binA, intBinA, loadV, readA, storeV, writeA, fieldAddrA, indexAddrA, lenA, builtinA, newA, unA, packA, Value.cells, e0, zr62, sz62, hl1, hone, hput, List.toList_toArray, List.getElem?_cons_zero, List.getElem?_cons_succ]; rfl); first | rfl | exact ⟨rfl, rfl, rfl⟩))
    have hb64 : (2 : Nat) ^ n ≤ 2 ^ 64 := Nat.pow_le_pow_right (by decide) hn64
    generalize hst0 : ({ hp := (s1.hp.put s1.nx (some (.cells true 62 [.int .u64 0, .int .i64 0, .int .i64 0]))).put s1.nx (some (.cells true 62 [.int .u64 ((2 ^ n - 1 : Nat)), .int .i64 most, .int .i64 wo])), nx := s1.nx + 1 } : HS) = w
    have hwn : w.nx = s1.nx + 1 := by rw [← hst0]
    have hwo : ∀ id, id < s1.nx → w.hp.get id = s1.hp.get id := fun id h => by rw [← hst0]; dsimp only; rw [T.get_put_ne _ _ _ (by omega), T.get_put_ne _ _ _ (by omega)]
    have hwb : w.hp.get s1.nx = some (.cells true 62 [.int .u64 ((2 ^ n - 1 : Nat)), .int .i64 most, .int .i64 wo]) := by rw [← hst0]; exact T.get_put_eq _ _ _
    have hw0 := (hwo s.nx (by omega)).trans hb0
    have hglw : Glob w := by
      have h1 : Glob s1 := hgl.keep hA01
      exact ⟨by have := h1.1; omega, by rw [hwo 0 h1.1]; exact h1.2⟩
    repeat (first
  | with_reducible first | apply ops_end | apply d_end | apply k_seq | apply k_seq_ret | apply k_seq_exit | apply k_block | apply k_block_ret | apply k_block_here | apply c_seq | apply c_block | apply c_region | apply c_skip | apply c_ret | apply c_exit | apply c_loop | apply k_loop_exit | apply k_loop_ret | apply if_t | apply if_f
  | (with_reducible apply k_block_on
     · decide)
  | ((with_reducible first | apply xOp | apply xDr | apply xIf); rfl; (simp only [Nat.reduceEqDiff, Nat.reduceAdd, ↓reduceIte, xBB, stG, undef, opA, val, opdA, opdO, plainN, omap, binA, intBinA, loadV, readA, storeV, writeA, fieldAddrA, indexAddrA, lenA, builtinA, newA, unA, packA, Value.cells, hw0, ty28, hc2, hwb, ty62, hcut, List.toList_toArray]; rfl); first | rfl | exact ⟨rfl, rfl, rfl⟩))
    ((with_reducible first | apply xCa | apply xCd); rfl; (simp only [Nat.reduceEqDiff, Nat.reduceAdd, ↓reduceIte, xBB, stB, opdA, opdO, plainN, omap, val, Value.cells]; exact ⟨rfl, rfl⟩); try rfl)
    apply call_fn
    refine (f29_spec n es ev (2 ^ n - 1) most wo w hglw ((hs.keep hA01).same (by omega) hwo) hc).use (by first | exact Nat.le_refl _ | (simp only [cond_true, cond_false]; omega) | omega | (dsimp only; omega)) (Nat.le_refl _) fun v s2 hv hA2 => ?_
    obtain ⟨ys, hF, hv⟩ := hv
    have hn2 := hA2.nx
    have hgl2 := hglw.keep hA2
    rcases hv with ⟨hlen, rfl⟩ | ⟨hlen, hall, o, lv, rfl, hown⟩
    · refine opt_of rfl ?_
      repeat (first
  | with_reducible first | apply ops_end | apply d_end | apply k_seq | apply k_seq_ret | apply k_seq_exit | apply k_block | apply k_block_ret | apply k_block_here | apply c_seq | apply c_block | apply c_region | apply c_skip | apply c_ret | apply c_exit | apply c_loop | apply k_loop_exit | apply k_loop_ret | apply if_t | apply if_f
  | (with_reducible apply k_block_on
     · decide)
  | ((with_reducible first | apply xOp | apply xDr | apply xIf); rfl; (simp only [Nat.reduceEqDiff, Nat.reduceAdd, ↓reduceIte, xBB, stG, undef, opA, val, opdA, opdO, plainN, omap, binA, intBinA, loadV, readA, storeV, writeA, fieldAddrA, indexAddrA, lenA, builtinA, newA, unA, packA, Value.cells, List.toList_toArray, List.getElem?_cons_zero, List.getElem?_cons_succ]; rfl); first | rfl | exact ⟨rfl, rfl, rfl⟩))
      ((with_reducible first | apply xCa | apply xCd); rfl; (simp only [Nat.reduceEqDiff, Nat.reduceAdd, ↓reduceIte, xBB, stB, opdA, opdO, plainN, omap, val, Value.cells]; exact ⟨rfl, rfl⟩); try rfl)
      apply call_fn
      refine (f30_spec [] _ s2 hgl2 (Or.inl ⟨rfl, rfl⟩) (fun z h => by cases h) (by simp)).use (by first | exact Nat.le_refl _ | (simp only [cond_true, cond_false]; omega) | omega | (dsimp only; omega)) (Nat.le_refl _) fun v s3 hv hA3 => ?_
      refine opt_of rfl ?_
      repeat (first
  | with_reducible first | apply ops_end | apply d_end | apply k_seq | apply k_seq_ret | apply k_seq_exit | apply k_block | apply k_block_ret | apply k_block_here | apply c_seq | apply c_block | apply c_region | apply c_skip | apply c_ret | apply c_exit | apply c_loop | apply k_loop_exit | apply k_loop_ret | apply if_t | apply if_f
  | (with_reducible apply k_block_on
     · decide)
  | ((with_reducible first | apply xOp | apply xDr | apply xIf); rfl; (simp only [Nat.reduceEqDiff, Nat.reduceAdd, ↓reduceIte, xBB, stG, undef, opA, val, opdA, opdO, plainN, omap, binA, intBinA, loadV, readA, storeV, writeA, fieldAddrA, indexAddrA, lenA, builtinA, newA, unA, packA, Value.cells]; rfl); first | rfl | exact ⟨rfl, rfl, rfl⟩))
      intro _
      ((with_reducible first | apply ret_i | apply ret_n); (simp only [Nat.reduceEqDiff, Nat.reduceAdd, ↓reduceIte, xBB, resA, opdA, opdO, plainN, omap, val, loadV, readA, packA]; rfl))
      exact Or.inr ⟨hR, ys, hF, v, Or.inl ⟨hlen, rfl, hv⟩⟩
    · refine opt_of rfl ?_
      repeat (first
  | with_reducible first | apply ops_end | apply d_end | apply k_seq | apply k_seq_ret | apply k_seq_exit | apply k_block | apply k_block_ret | apply k_block_here | apply c_seq | apply c_block | apply c_region | apply c_skip | apply c_ret | apply c_exit | apply c_loop | apply k_loop_exit | apply k_loop_ret | apply if_t | apply if_f
  | (with_reducible apply k_block_on
     · decide)
  | ((with_reducible first | apply xOp | apply xDr | apply xIf); rfl; (simp only [Nat.reduceEqDiff, Nat.reduceAdd, ↓reduceIte, xBB, stG, undef, opA, val, opdA, opdO, plainN, omap, binA, intBinA, loadV, readA, storeV, writeA, fieldAddrA, indexAddrA, lenA, builtinA, newA, unA, packA, Value.cells, List.toList_toArray, List.getElem?_cons_zero, List.getElem?_cons_succ]; rfl); first | rfl | exact ⟨rfl, rfl, rfl⟩))
      ((with_reducible first | apply xCa | apply xCd); rfl; (simp only [Nat.reduceEqDiff, Nat.reduceAdd, ↓reduceIte, xBB, stB, opdA, opdO, plainN, omap, val, Value.cells]; exact ⟨rfl, rfl⟩); try rfl)
      apply call_fn
      refine (f30_spec (srtN ys) _ s2 hgl2 hown.sl (fun z h => ?_) (by rw [srtN_len]; omega)).use (by first | exact Nat.le_refl _ | (simp only [cond_true, cond_false]; omega) | omega | (dsimp only; omega)) (Nat.le_refl _) fun v s3 hv hA3 => ?_
      · unfold srtN at h
        obtain ⟨u, _, rfl⟩ := List.mem_map.1 h
        exact u.2
      refine opt_of rfl ?_
      repeat (first
  | with_reducible first | apply ops_end | apply d_end | apply k_seq | apply k_seq_ret | apply k_seq_exit | apply k_block | apply k_block_ret | apply k_block_here | apply c_seq | apply c_block | apply c_region | apply c_skip | apply c_ret | apply c_exit | apply c_loop | apply k_loop_exit | apply k_loop_ret | apply if_t | apply if_f
  | (with_reducible apply k_block_on
     · decide)
  | ((with_reducible first | apply xOp | apply xDr | apply xIf); rfl; (simp only [Nat.reduceEqDiff, Nat.reduceAdd, ↓reduceIte, xBB, stG, undef, opA, val, opdA, opdO, plainN, omap, binA, intBinA, loadV, readA, storeV, writeA, fieldAddrA, indexAddrA, lenA, builtinA, newA, unA, packA, Value.cells]; rfl); first | rfl | exact ⟨rfl, rfl, rfl⟩))
      intro _
      ((with_reducible first | apply ret_i | apply ret_n); (simp only [Nat.reduceEqDiff, Nat.reduceAdd, ↓reduceIte, xBB, resA, opdA, opdO, plainN, omap, val, loadV, readA, packA]; rfl))
      exact Or.inr ⟨hR, ys, hF, v, Or.inr ⟨hlen, hall, rfl, hv⟩⟩
  · have e0 : (restR n es most wo != 0) = true := by simp [hR]
    rw [if_neg hR]
    unfold vL
    repeat (first
  | with_reducible first | apply ops_end | apply d_end | apply k_seq | apply k_seq_ret | apply k_seq_exit | apply k_block | apply k_block_ret | apply k_block_here | apply c_seq | apply c_block | apply c_region | apply c_skip | apply c_ret | apply c_exit | apply c_loop | apply k_loop_exit | apply k_loop_ret | apply if_t | apply if_f
  | (with_reducible apply k_block_on
     · decide)
  | ((with_reducible first | apply xOp | apply xDr | apply xIf); rfl; (simp only [Nat.reduceEqDiff, Nat.reduceAdd, ↓reduceIte, xBB, stG, undef, opA, val, opdA, opdO, plainN, omap, binA, intBinA, loadV, readA, storeV, writeA, fieldAddrA, indexAddrA, lenA, builtinA, newA, unA, packA, Value.cells, e0, zr62, sz62, hl1, hone, hput, List.toList_toArray, List.getElem?_cons_zero, List.getElem?_cons_succ]; rfl); first | rfl | exact ⟨rfl, rfl, rfl⟩))
    intro _
    ((with_reducible first | apply ret_i | apply ret_n); (simp only [Nat.reduceEqDiff, Nat.reduceAdd, ↓reduceIte, xBB, resA, opdA, opdO, plainN, omap, val, loadV, readA, packA]; rfl))
    exact Or.inl ⟨hR, rfl⟩

/-- The memory of the loop that counts. -/
def J20 (L : ALoop) (l b5 : Nat) (ys : List Nat) (Cs : Nat → Prop) (t : HS) : Prop := Cs = (fun id => id = l ∨ id = b5) ∧ t.hp.get l = some (.loop L) ∧ t.hp.get b5 = some (.cells true 3 [.int .i64 ((1 + ys.length : Nat))]) ∧ ys.length ≤ 1023 ∧ l < t.nx ∧ b5 < t.nx
def Stop20 (l b5 : Nat) (ys : List Nat) (t : HS) : Prop := ys.length = 1024 ∧ (∃ L : ALoop, t.hp.get l = some (.loop L) ∧ L.state = .done ∧ L.pending = some (.exit 0)) ∧ t.hp.get b5 = some (.cells true 3 [.int .i64 1025])

theorem f20_spec [Sorts Tryd.prog] (n : Nat) (es : List (Int × Int)) (ev : Value) (s : HS) (hs : Sl s 2 ev (es.map encE)) :
    wpF Tryd.prog s.nx 20 [vG n ev] s (fun v s' => (checkR n es ≠ 0 ∧ v = .tuple #[.int .i64 0, .int .i64 (checkR n es)]) ∨ (checkR n es = 0 ∧ ∃ ys, Found (HNs n es) (fun _ => true) ys ∧
      ((ys.length = 1024 ∧ v = .tuple #[.int .i64 1025, .int .i64 0]) ∨ (ys.length ≤ 1023 ∧ (∀ S, Gn (HNs n es) (fun _ => true) S → S = 0 ∨ S ∈ ys) ∧ v = .tuple #[.int .i64 ((1 + ys.length : Nat)), .int .i64 0])))) := by
  refine wpF_of Tryd.func20 rfl rfl rfl rfl (Nat.le_refl _) ?_
  simp only [paramsA, vG]
  have hc2 : cutL [Value.int .i64 (n : Int), ev] 0 2 = some [.int .i64 n, ev] := rfl
  have hc1 : ∀ x : Value, cutL [x] 0 1 = some [x] := fun _ => rfl
  have hp1 : ∀ x y : Value, putL [x] 0 [y] = [y] := fun _ _ => rfl
  repeat (first
  | with_reducible first | apply ops_end | apply d_end | apply k_seq | apply k_seq_ret | apply k_seq_exit | apply k_block | apply k_block_ret | apply k_block_here | apply c_seq | apply c_block | apply c_region | apply c_skip | apply c_ret | apply c_exit | apply c_loop | apply k_loop_exit | apply k_loop_ret | apply if_t | apply if_f
  | (with_reducible apply k_block_on
     · decide)
  | ((with_reducible first | apply xOp | apply xDr | apply xIf); rfl; (simp only [Nat.reduceEqDiff, Nat.reduceAdd, ↓reduceIte, xBB, stG, undef, opA, val, opdA, opdO, plainN, omap, binA, intBinA, loadV, readA, storeV, writeA, fieldAddrA, indexAddrA, lenA, builtinA, newA, unA, packA, Value.cells, sz28, ty28, hc2, List.toList_toArray]; rfl); first | rfl | exact ⟨rfl, rfl, rfl⟩))
  have hA0 := Ab.new (lk := s.nx) s (.cells true 28 [.int .i64 n, ev])
  ((with_reducible first | apply xCa | apply xCd); rfl; (simp only [Nat.reduceEqDiff, Nat.reduceAdd, ↓reduceIte, xBB, stB, opdA, opdO, plainN, omap, val, Value.cells]; exact ⟨rfl, rfl⟩); try rfl)
  apply call_fn
  refine (f36_spec n es ev _ (hs.keep hA0)).use (by first | exact Nat.le_refl _ | (simp only [cond_true, cond_false]; omega) | omega | (dsimp only; omega)) (by first | exact Nat.le_refl _ | (simp only [cond_true, cond_false]; omega) | omega | (dsimp only; omega)) fun v s1 hv hA1 => ?_
  subst hv
  have hn1 := hA1.nx
  dsimp only at hn1
  have hb0 := hA1.get (Nat.le_refl _) (Nat.lt_succ_self s.nx)
  rw [T.get_put_eq] at hb0
  have hA01 := hA0.trans (hA1.lower (Nat.le_succ _) (Nat.le_refl _))
  refine opt_of rfl ?_
  by_cases hc : checkR n es = 0
  · have e0 : (checkR n es != 0) = false := by simp [hc]
    have hg := good_of hc
    have hn64 : n ≤ 64 := by have := hg.hi; omega
    have hl1 : s.nx ≤ s1.nx := by omega
    have o1 : ∀ z : Int, ([Value.int .i64 z] : List Value).all Value.oneCell' = true := fun _ => rfl
    repeat (first
  | with_reducible first | apply ops_end | apply d_end | apply k_seq | apply k_seq_ret | apply k_seq_exit | apply k_block | apply k_block_ret | apply k_block_here | apply c_seq | apply c_block | apply c_region | apply c_skip | apply c_ret | apply c_exit | apply c_loop | apply k_loop_exit | apply k_loop_ret | apply if_t | apply if_f
  | (with_reducible apply k_block_on
     · decide)
  | ((with_reducible first | apply xOp | apply xDr | apply xIf); rfl; (simp only [Nat.reduceEqDiff, Nat.reduceAdd, ↓reduceIte, xBB, stG, undef, opA, val, opdA, opdO, plainN, omap, binA, intBinA, loadV, readA, storeV, writeA, fieldAddrA, indexAddrA, lenA, builtinA, newA, unA, packA, Value.cells, e0, zr3, sz3, hl1, o1, hp1, List.toList_toArray]; rfl); first | rfl | exact ⟨rfl, rfl, rfl⟩))
    dsimp only
    generalize hst0 : ({ hp := (s1.hp.put s1.nx (some (.cells true 3 [.int .i64 0]))).put s1.nx (some (.cells true 3 [.int .i64 1])), nx := s1.nx + 1 } : HS) = w
    have hwn : w.nx = s1.nx + 1 := by rw [← hst0]
    have hwo : ∀ id, id < s1.nx → w.hp.get id = s1.hp.get id := fun id h => by rw [← hst0]; dsimp only; rw [T.get_put_ne _ _ _ (by omega), T.get_put_ne _ _ _ (by omega)]
    have hwb : w.hp.get s1.nx = some (.cells true 3 [.int .i64 1]) := by rw [← hst0]; exact T.get_put_eq _ _ _
    have hw0 := (hwo s.nx (by omega)).trans hb0
    repeat (first
  | with_reducible first | apply ops_end | apply d_end | apply k_seq | apply k_seq_ret | apply k_seq_exit | apply k_block | apply k_block_ret | apply k_block_here | apply c_seq | apply c_block | apply c_region | apply c_skip | apply c_ret | apply c_exit | apply c_loop | apply k_loop_exit | apply k_loop_ret | apply if_t | apply if_f
  | (with_reducible apply k_block_on
     · decide)
  | ((with_reducible first | apply xOp | apply xDr | apply xIf); rfl; (simp only [Nat.reduceEqDiff, Nat.reduceAdd, ↓reduceIte, xBB, stG, undef, opA, val, opdA, opdO, plainN, omap, binA, intBinA, loadV, readA, storeV, writeA, fieldAddrA, indexAddrA, lenA, builtinA, newA, unA, packA, Value.cells, hw0, ty28, hc2, List.toList_toArray]; rfl); first | rfl | exact ⟨rfl, rfl, rfl⟩))
    ((with_reducible first | apply xCa | apply xCd); rfl; (simp only [Nat.reduceEqDiff, Nat.reduceAdd, ↓reduceIte, xBB, stB, opdA, opdO, plainN, omap, val, Value.cells]; exact ⟨rfl, rfl⟩); try rfl)
    apply call_fn
    refine (f31_spec n es ev w ((hs.keep hA01).same (by omega) hwo) hc).use (by first | exact Nat.le_refl _ | (simp only [cond_true, cond_false]; omega) | omega | (dsimp only; omega)) (Nat.le_refl _) fun v s2 hv hA2 => ?_
    obtain ⟨oh, hown⟩ := hv
    rw [hullsL_eq] at hown
    have hn2 := hA2.nx
    obtain ⟨hvb, hvc, rfl⟩ := hown.shape
    refine opt_of rfl ?_
    repeat (first
  | with_reducible first | apply ops_end | apply d_end | apply k_seq | apply k_seq_ret | apply k_seq_exit | apply k_block | apply k_block_ret | apply k_block_here | apply c_seq | apply c_block | apply c_region | apply c_skip | apply c_ret | apply c_exit | apply c_loop | apply k_loop_exit | apply k_loop_ret | apply if_t | apply if_f
  | (with_reducible apply k_block_on
     · decide)
  | ((with_reducible first | apply xOp | apply xDr | apply xIf); rfl; (simp only [Nat.reduceEqDiff, Nat.reduceAdd, ↓reduceIte, xBB, stG, undef, opA, val, opdA, opdO, plainN, omap, binA, intBinA, loadV, readA, storeV, writeA, fieldAddrA, indexAddrA, lenA, builtinA, newA, unA, packA, Value.cells]; rfl); first | rfl | exact ⟨rfl, rfl, rfl⟩))
    ((with_reducible first | apply xCa | apply xCd); rfl; (simp only [Nat.reduceEqDiff, Nat.reduceAdd, ↓reduceIte, xBB, stB, opdA, opdO, plainN, omap, val, Value.cells]; exact ⟨rfl, rfl⟩); try rfl)
    apply call_fn
    refine (f37_spec _ _ s2 rfl rfl).use (by first | exact Nat.le_refl _ | (simp only [cond_true, cond_false]; omega) | omega | (dsimp only; omega)) (Nat.le_refl _) fun v s3 hv hA3 => ?_
    obtain ⟨rfl, hs3⟩ := hv
    have h3n : s3.nx = s2.nx + 2 := by rw [hs3]
    have h3o : ∀ id, id < s2.nx → s3.hp.get id = s2.hp.get id := fun id h => hA3.get (Nat.le_refl _) h
    have h3b : s3.hp.get s2.nx = some (.cells true 65 [.slice hvb ((HNs n es).map encQ).length hvc]) := by rw [hs3]; dsimp only; rw [T.get_put_ne _ _ _ (by omega), T.get_put_eq]; rfl
    have h3a : s3.hp.get (s2.nx + 1) = some (.cells true 70 [.func (.func 38) #[] #[]]) := by rw [hs3]; exact T.get_put_eq _ _ _
    clear hs3
    have hown3 : Own s3 60 1 oh (.slice hvb ((HNs n es).map encQ).length hvc) ((HNs n es).map encQ) := hown.same (by omega) fun id h => h3o id (hown.lt h)
    have hoh : ∀ id, oh = some id → id < s2.nx := fun id h => hown.lt h
    have hb5 := (h3o s1.nx (by omega)).trans ((hA2.get (Nat.le_refl _) (by omega)).trans hwb)
    refine opt_of rfl ?_
    repeat (first
  | with_reducible first | apply ops_end | apply d_end | apply k_seq | apply k_seq_ret | apply k_seq_exit | apply k_block | apply k_block_ret | apply k_block_here | apply c_seq | apply c_block | apply c_region | apply c_skip | apply c_ret | apply c_exit | apply c_loop | apply k_loop_exit | apply k_loop_ret | apply if_t | apply if_f
  | (with_reducible apply k_block_on
     · decide)
  | ((with_reducible first | apply xOp | apply xDr | apply xIf); rfl; (simp only [Nat.reduceEqDiff, Nat.reduceAdd, ↓reduceIte, xBB, stG, undef, opA, val, opdA, opdO, plainN, omap, binA, intBinA, loadV, readA, storeV, writeA, fieldAddrA, indexAddrA, lenA, builtinA, newA, unA, packA, Value.cells]; rfl); first | rfl | exact ⟨rfl, rfl, rfl⟩))
    refine c_range (g := 56) (fi := []) (ca := [.pointer (some ⟨s2.nx, 0, none⟩), .pointer (some ⟨s2.nx + 1, 0, none⟩)]) (by simp only [Nat.reduceEqDiff, opdA, T.get_put, ↓reduceIte]) fun L hL1 hL2 hL3 hL4 hL5 hL6 hL7 => ?_
    have hf5 : L.fr.get 5 = some (.pointer (some ⟨s1.nx, 0, none⟩)) := by rw [hL1]; simp only [Nat.reduceEqDiff, T.get_put, ↓reduceIte]
    have C : Cons Tryd.prog s.nx s3.nx (fun a => .int .u64 a) (fun x => Gn (HNs n es) (fun _ => true) x ∧ (fun _ => true) x = true ∧ x ≠ 0) (J20 L s3.nx s1.nx) (Stop20 s3.nx s1.nx) := by
      refine ⟨fun {ys Cs t x} hx hxn hJ => ?_, fun {ys Cs t t'} hJ hn hg => ?_, fun {ys Cs t id} hJ hid => ?_, fun {ys Cs t} hJ => ?_⟩
      · obtain ⟨rfl, j1, j2, j3, j4, j5⟩ := hJ
        refine wpRound_of (P := Tryd.prog) (L := L) (fr := L.fr.put 14 (some (.int .u64 x))) (by omega) j1 hL2 hL4 hL5 (by rw [hL3]; rfl) (by rw [hL3, hL2]; rfl) ?_
        repeat (first
  | with_reducible first | apply ops_end | apply d_end | apply k_seq | apply k_seq_ret | apply k_seq_exit | apply k_block | apply k_block_ret | apply k_block_here | apply c_seq | apply c_block | apply c_region | apply c_skip | apply c_ret | apply c_exit | apply c_loop | apply k_loop_exit | apply k_loop_ret | apply if_t | apply if_f
  | (with_reducible apply k_block_on
     · decide)
  | ((with_reducible first | apply xOp | apply xDr | apply xIf); rfl; (simp only [Nat.reduceEqDiff, Nat.reduceAdd, ↓reduceIte, xBB, stG, undef, opA, val, opdA, opdO, plainN, omap, binA, intBinA, loadV, readA, storeV, writeA, fieldAddrA, indexAddrA, lenA, builtinA, newA, unA, packA, Value.cells]; rfl); first | rfl | exact ⟨rfl, rfl, rfl⟩))
        refine ⟨rfl, L, j1, hL6, ?_⟩
        generalize ht1 : ({ hp := t.hp.put s3.nx (some (.loop (lpBusy L))), nx := t.nx } : HS) = t1
        have h1n : t1.nx = t.nx := by rw [← ht1]
        have h1o : ∀ id, id ≠ s3.nx → t1.hp.get id = t.hp.get id := fun id h => by rw [← ht1]; exact T.get_put_ne _ _ _ h
        have h1l : t1.hp.get s3.nx = some (.loop (lpBusy L)) := by rw [← ht1]; exact T.get_put_eq _ _ _
        have j2' := (h1o s1.nx (by omega)).trans j2
        have hw : IntKind.i64.wrap (((1 + ys.length : Nat) : Int) + 1) = ((1 + (ys.length + 1) : Nat) : Int) := by rw [IntWalk.i64_in _ (by omega)]; omega
        by_cases hfull : ys.length = 1023
        · have e1 : ((1 + (ys.length + 1) : Nat) : Int) > 1024 := by omega
          repeat (first
  | with_reducible first | apply ops_end | apply d_end | apply k_seq | apply k_seq_ret | apply k_seq_exit | apply k_block | apply k_block_ret | apply k_block_here | apply c_seq | apply c_block | apply c_skip | apply c_ret | apply c_exit | apply c_loop | apply k_loop_exit | apply k_loop_ret | apply if_t | apply if_f
  | (with_reducible apply k_block_on
     · decide)
  | ((with_reducible first | apply xOp | apply xDr | apply xIf); rfl; (simp only [Nat.reduceEqDiff, Nat.reduceAdd, ↓reduceIte, xBB, stG, undef, opA, val, opdA, opdO, plainN, omap, binA, intBinA, loadV, readA, storeV, writeA, fieldAddrA, indexAddrA, lenA, builtinA, newA, unA, packA, Value.cells]; rfl); first | rfl | exact ⟨rfl, rfl, rfl⟩))
          refine c_region ?_
          repeat (first
  | with_reducible first | apply ops_end | apply d_end | apply k_seq | apply k_seq_ret | apply k_seq_exit | apply k_block | apply k_block_ret | apply k_block_here | apply c_seq | apply c_block | apply c_skip | apply c_ret | apply c_exit | apply c_loop | apply k_loop_exit | apply k_loop_ret | apply if_t | apply if_f
  | (with_reducible apply k_block_on
     · decide)
  | ((with_reducible first | apply xOp | apply xDr | apply xIf); rfl; (simp only [Nat.reduceEqDiff, Nat.reduceAdd, ↓reduceIte, xBB, stG, undef, opA, val, opdA, opdO, plainN, omap, binA, intBinA, loadV, readA, storeV, writeA, fieldAddrA, indexAddrA, lenA, builtinA, newA, unA, packA, Value.cells, hf5, j2', ty3, sz3, hc1, hw, hl1, o1, hp1, List.toList_toArray]; rfl); first | rfl | exact ⟨rfl, rfl, rfl⟩))
          refine c_region ?_
          repeat (first
  | with_reducible first | apply ops_end | apply d_end | apply k_seq | apply k_seq_ret | apply k_seq_exit | apply k_block | apply k_block_ret | apply k_block_here | apply c_seq | apply c_block | apply c_skip | apply c_ret | apply c_exit | apply c_loop | apply k_loop_exit | apply k_loop_ret | apply if_t | apply if_f
  | (with_reducible apply k_block_on
     · decide)
  | ((with_reducible first | apply xOp | apply xDr | apply xIf); rfl; (simp only [Nat.reduceEqDiff, Nat.reduceAdd, ↓reduceIte, xBB, stG, undef, opA, val, opdA, opdO, plainN, omap, binA, intBinA, loadV, readA, storeV, writeA, fieldAddrA, indexAddrA, lenA, builtinA, newA, unA, packA, Value.cells, hf5, ty3, hc1, e1]; rfl); first | rfl | exact ⟨rfl, rfl, rfl⟩))
          refine ⟨lpBusy L, ?_, Or.inr ⟨rfl, ?_⟩⟩
          · dsimp only; rw [T.get_put_ne _ _ _ (by omega)]; exact h1l
          · refine ⟨by simp [hfull], ⟨_, T.get_put_eq _ _ _, rfl, rfl⟩, ?_⟩
            dsimp only; rw [T.get_put_ne _ _ _ (by omega), T.get_put_eq, hfull]; rfl
        · have e1 : ¬ ((1 + (ys.length + 1) : Nat) : Int) > 1024 := by omega
          repeat (first
  | with_reducible first | apply ops_end | apply d_end | apply k_seq | apply k_seq_ret | apply k_seq_exit | apply k_block | apply k_block_ret | apply k_block_here | apply c_seq | apply c_block | apply c_skip | apply c_ret | apply c_exit | apply c_loop | apply k_loop_exit | apply k_loop_ret | apply if_t | apply if_f
  | (with_reducible apply k_block_on
     · decide)
  | ((with_reducible first | apply xOp | apply xDr | apply xIf); rfl; (simp only [Nat.reduceEqDiff, Nat.reduceAdd, ↓reduceIte, xBB, stG, undef, opA, val, opdA, opdO, plainN, omap, binA, intBinA, loadV, readA, storeV, writeA, fieldAddrA, indexAddrA, lenA, builtinA, newA, unA, packA, Value.cells]; rfl); first | rfl | exact ⟨rfl, rfl, rfl⟩))
          refine c_region ?_
          repeat (first
  | with_reducible first | apply ops_end | apply d_end | apply k_seq | apply k_seq_ret | apply k_seq_exit | apply k_block | apply k_block_ret | apply k_block_here | apply c_seq | apply c_block | apply c_skip | apply c_ret | apply c_exit | apply c_loop | apply k_loop_exit | apply k_loop_ret | apply if_t | apply if_f
  | (with_reducible apply k_block_on
     · decide)
  | ((with_reducible first | apply xOp | apply xDr | apply xIf); rfl; (simp only [Nat.reduceEqDiff, Nat.reduceAdd, ↓reduceIte, xBB, stG, undef, opA, val, opdA, opdO, plainN, omap, binA, intBinA, loadV, readA, storeV, writeA, fieldAddrA, indexAddrA, lenA, builtinA, newA, unA, packA, Value.cells, hf5, j2', ty3, sz3, hc1, hw, hl1, o1, hp1, List.toList_toArray]; rfl); first | rfl | exact ⟨rfl, rfl, rfl⟩))
          refine c_region ?_
          repeat (first
  | with_reducible first | apply ops_end | apply d_end | apply k_seq | apply k_seq_ret | apply k_seq_exit | apply k_block | apply k_block_ret | apply k_block_here | apply c_seq | apply c_block | apply c_skip | apply c_ret | apply c_exit | apply c_loop | apply k_loop_exit | apply k_loop_ret | apply if_t | apply if_f
  | (with_reducible apply k_block_on
     · decide)
  | ((with_reducible first | apply xOp | apply xDr | apply xIf); rfl; (simp only [Nat.reduceEqDiff, Nat.reduceAdd, ↓reduceIte, xBB, stG, undef, opA, val, opdA, opdO, plainN, omap, binA, intBinA, loadV, readA, storeV, writeA, fieldAddrA, indexAddrA, lenA, builtinA, newA, unA, packA, Value.cells, hf5, ty3, hc1, e1]; rfl); first | rfl | exact ⟨rfl, rfl, rfl⟩))
          refine ⟨lpBusy L, ?_, Or.inl ⟨rfl, fun id => id = s3.nx ∨ id = s1.nx, ?_, ?_, ?_, ?_⟩⟩
          · dsimp only; rw [T.get_put_ne _ _ _ (by omega)]; exact h1l
          · refine ⟨rfl, ?_, ?_, ?_, ?_, ?_⟩
            · dsimp only; rw [T.get_put_eq, loop_back hL6 hL7]
            · dsimp only; rw [T.get_put_ne _ _ _ (by omega), T.get_put_eq, List.length_append]; rfl
            · simp; omega
            · show s3.nx < t1.nx; omega
            · show s1.nx < t1.nx; omega
          · show t.nx ≤ t1.nx; omega
          · intro id h; exact Or.inl h
          · intro id h1 h2
            dsimp only
            rw [T.get_put_ne _ _ _ (fun e => h2 (Or.inl e)), T.get_put_ne _ _ _ (fun e => h2 (Or.inr e))]
            exact h1o id fun e => h2 (Or.inl e)
      · obtain ⟨rfl, j1, j2, j3, j4, j5⟩ := hJ
        exact ⟨rfl, (hg _ (Or.inl rfl)).trans j1, (hg _ (Or.inr rfl)).trans j2, j3, by omega, by omega⟩
      · obtain ⟨rfl, j1, j2, j3, j4, j5⟩ := hJ
        rcases hid with h | h <;> omega
      · obtain ⟨rfl, j1, j2, j3, j4, j5⟩ := hJ
        omega
    generalize hs4 : ({ hp := s3.hp.put s3.nx (some (.loop L)), nx := s3.nx + 1 } : HS) = s4
    have h4n : s4.nx = s3.nx + 1 := by rw [← hs4]
    have h4o : ∀ id, id < s3.nx → s4.hp.get id = s3.hp.get id := fun id h => by rw [← hs4]; exact T.get_put_ne _ _ _ (by omega)
    have h4l : s4.hp.get s3.nx = some (.loop L) := by rw [← hs4]; exact T.get_put_eq _ _ _
    have hJ0 : J20 L s3.nx s1.nx [] (fun id => id = s3.nx ∨ id = s1.nx) s4 := ⟨rfl, h4l, (h4o _ (by omega)).trans hb5, by simp, by omega, by omega⟩
    have hhl : (HNs n es).length ≤ 64 := by unfold HNs; simpa using hn64
    refine (f56_spec C hn64 (HNs_lt hg) hhl allow_any (by omega) hJ0 ((h4o _ (by omega)).trans h3b) ((h4o _ (by omega)).trans h3a) (hown3.same (by omega) fun id h => h4o id (hown3.lt h)) (by omega) (by omega) (fun h => ?_) (fun h => ?_) (fun id ho h => ?_)).use (Nat.le_refl _) (by omega) fun v s5 hv hA5 => ?_
    · rcases h with h | h <;> omega
    · rcases h with h | h <;> omega
    · have h5 := hoh id ho
      subst ho
      obtain ⟨cs, h6⟩ := own_get hown3
      rcases h with rfl | rfl
      · omega
      · rw [hb5] at h6; cases h6
    · rcases hv with ⟨ys, Cs', hF, hall, hJ⟩ | ⟨ys, hF, hlen, ⟨L2, j1, j2, j3⟩, j4⟩
      · obtain ⟨rfl, j1, j2, j3, j4, j5⟩ := hJ
        refine opt_of (rf_normal j1 hL6 hL7) ?_
        generalize hs6 : ({ s5 with hp := s5.hp.put s3.nx none } : HS) = s6
        have k2 : s6.hp.get s1.nx = some (.cells true 3 [.int .i64 ((1 + ys.length : Nat))]) := by rw [← hs6]; exact (T.get_put_ne _ _ _ (by omega)).trans j2
        repeat (first
  | with_reducible first | apply ops_end | apply d_end | apply k_seq | apply k_seq_ret | apply k_seq_exit | apply k_block | apply k_block_ret | apply k_block_here | apply c_seq | apply c_block | apply c_region | apply c_skip | apply c_ret | apply c_exit | apply c_loop | apply k_loop_exit | apply k_loop_ret | apply if_t | apply if_f
  | (with_reducible apply k_block_on
     · decide)
  | ((with_reducible first | apply xOp | apply xDr | apply xIf); rfl; (simp only [Nat.reduceEqDiff, Nat.reduceAdd, ↓reduceIte, xBB, stG, undef, opA, val, opdA, opdO, plainN, omap, binA, intBinA, loadV, readA, storeV, writeA, fieldAddrA, indexAddrA, lenA, builtinA, newA, unA, packA, Value.cells, k2, ty3, hc1]; rfl); first | rfl | exact ⟨rfl, rfl, rfl⟩))
        intro _
        ((with_reducible first | apply ret_i | apply ret_n); (simp only [Nat.reduceEqDiff, Nat.reduceAdd, ↓reduceIte, xBB, resA, opdA, opdO, plainN, omap, val, loadV, readA, packA]; rfl))
        exact Or.inr ⟨hc, ys, hF, Or.inr ⟨j3, hall, rfl⟩⟩
      · refine opt_of (rf_exit j1 j2 j3) ?_
        generalize hs6 : ({ s5 with hp := s5.hp.put s3.nx none } : HS) = s6
        have k2 : s6.hp.get s1.nx = some (.cells true 3 [.int .i64 1025]) := by rw [← hs6]; exact (T.get_put_ne _ _ _ (by omega)).trans j4
        repeat (first
  | with_reducible first | apply ops_end | apply d_end | apply k_seq | apply k_seq_ret | apply k_seq_exit | apply k_block | apply k_block_ret | apply k_block_here | apply c_seq | apply c_block | apply c_region | apply c_skip | apply c_ret | apply c_exit | apply c_loop | apply k_loop_exit | apply k_loop_ret | apply if_t | apply if_f
  | (with_reducible apply k_block_on
     · decide)
  | ((with_reducible first | apply xOp | apply xDr | apply xIf); rfl; (simp only [Nat.reduceEqDiff, Nat.reduceAdd, ↓reduceIte, xBB, stG, undef, opA, val, opdA, opdO, plainN, omap, binA, intBinA, loadV, readA, storeV, writeA, fieldAddrA, indexAddrA, lenA, builtinA, newA, unA, packA, Value.cells, k2, ty3, hc1]; rfl); first | rfl | exact ⟨rfl, rfl, rfl⟩))
        intro _
        ((with_reducible first | apply ret_i | apply ret_n); (simp only [Nat.reduceEqDiff, Nat.reduceAdd, ↓reduceIte, xBB, resA, opdA, opdO, plainN, omap, val, loadV, readA, packA]; rfl))
        exact Or.inr ⟨hc, ys, hF, Or.inl ⟨hlen, rfl⟩⟩
  · have e0 : (checkR n es != 0) = true := by simp [hc]
    repeat (first
  | with_reducible first | apply ops_end | apply d_end | apply k_seq | apply k_seq_ret | apply k_seq_exit | apply k_block | apply k_block_ret | apply k_block_here | apply c_seq | apply c_block | apply c_region | apply c_skip | apply c_ret | apply c_exit | apply c_loop | apply k_loop_exit | apply k_loop_ret | apply if_t | apply if_f
  | (with_reducible apply k_block_on
     · decide)
  | ((with_reducible first | apply xOp | apply xDr | apply xIf); rfl; (simp only [Nat.reduceEqDiff, Nat.reduceAdd, ↓reduceIte, xBB, stG, undef, opA, val, opdA, opdO, plainN, omap, binA, intBinA, loadV, readA, storeV, writeA, fieldAddrA, indexAddrA, lenA, builtinA, newA, unA, packA, Value.cells, e0]; rfl); first | rfl | exact ⟨rfl, rfl, rfl⟩))
    intro _
    ((with_reducible first | apply ret_i | apply ret_n); (simp only [Nat.reduceEqDiff, Nat.reduceAdd, ↓reduceIte, xBB, resA, opdA, opdO, plainN, omap, val, loadV, readA, packA]; rfl))
    exact Or.inl ⟨hc, rfl⟩
end Go.Ev

/- Plain laws: graphs without edges. -/
set_option linter.unusedSimpArgs false
set_option linter.unusedVariables false
namespace Go.Ev
open Go

theorem hullN_nil (a : Nat) : ∀ k, hullN [] k a = a
  | 0 => rfl
  | k + 1 => by show hullRound [] (hullN [] k a) = a; rw [hullN_nil a k]; rfl
theorem HNs_nil (n : Nat) : HNs n [] = (List.range n).map (2 ^ ·) := by
  unfold HNs
  refine List.map_congr_left fun i _ => ?_
  unfold HN
  exact hullN_nil _ _
theorem mem_HNs_nil {n h : Nat} : h ∈ HNs n [] ↔ ∃ i, i < n ∧ h = 2 ^ i := by
  rw [HNs_nil, List.mem_map]
  constructor
  · rintro ⟨i, h1, rfl⟩; exact ⟨i, List.mem_range.1 h1, rfl⟩
  · rintro ⟨i, h1, rfl⟩; exact ⟨i, List.mem_range.2 h1, rfl⟩
theorem HNs_nil_lt {n : Nat} : ∀ h ∈ HNs n [], h < 2 ^ n := fun h hm => by
  obtain ⟨i, h1, rfl⟩ := mem_HNs_nil.1 hm
  exact Nat.pow_lt_pow_right (by decide) h1

theorem low_split {S k : Nat} (h : Low S k) : (S &&& (S - 1)) ||| 2 ^ k = S := by
  refine Nat.eq_of_testBit_eq fun j => ?_
  rw [setBit, h.and_pred]
  by_cases hj : j = k
  · subst hj; rw [h.1]; simp
  · simp [hj]
/-- Without edges each set is made of its nodes. -/
theorem gn_all {n : Nat} {al : Nat → Bool} : ∀ {S : Nat}, S < 2 ^ n → (∀ T, T ≠ 0 → T ≤ S → al T = true) → Gn (HNs n []) al S := by
  intro S
  induction S using Nat.strongRecOn with
  | _ S ih =>
    intro hS hal
    by_cases h0 : S = 0
    · rw [h0]; exact .zero
    · obtain ⟨k, hk⟩ := low_ex S h0
      have h1 := ih (S &&& (S - 1)) hk.less (Nat.lt_trans hk.less hS) fun T h2 h3 => hal T h2 (by have := hk.less; omega)
      have h2 := low_split hk
      have := Gn.step (hs := HNs n []) (al := al) h1 (mem_HNs_nil.2 ⟨k, hk.lt hS, rfl⟩) (by rw [h2]; exact hal S h0 (Nat.le_refl _))
      rwa [h2] at this

theorem sub_len : ∀ {l ys : List Nat}, List.Nodup l → (∀ x ∈ l, x ∈ ys) → l.length ≤ ys.length := by
  intro l
  induction l with
  | nil => intro ys _ _; exact Nat.zero_le _
  | cons x l ih =>
    intro ys hn hs
    obtain ⟨h1, h2⟩ := List.nodup_cons.1 hn
    have hx := hs x List.mem_cons_self
    have := ih (ys := ys.erase x) h2 fun y hy => (List.mem_erase_of_ne (by rintro rfl; exact h1 hy)).2 (hs y (List.mem_cons_of_mem _ hy))
    rw [List.length_erase_of_mem hx] at this
    have := List.length_pos_of_mem hx
    rw [List.length_cons]; omega
theorem range_nodup (B : Nat) : List.Nodup ((List.range B).map (· + 1)) := by
  refine List.Pairwise.map _ (fun a b h => ?_) List.nodup_range
  intro e; exact h (by omega)
theorem most_len {ys : List Nat} {B : Nat} (hn : List.Nodup ys) (h : ∀ y ∈ ys, y ≠ 0 ∧ y ≤ B) : ys.length ≤ B := by
  have := nodup_len (b := B + 1) (l := 0 :: ys) (List.nodup_cons.2 ⟨fun h0 => (h 0 h0).1 rfl, hn⟩) fun x hx => by
    rcases List.mem_cons.1 hx with rfl | hx
    · omega
    · have := (h x hx).2; omega
  rw [List.length_cons] at this; omega
theorem least_len {ys : List Nat} {B : Nat} (h : ∀ y, y ≠ 0 → y ≤ B → y ∈ ys) : B ≤ ys.length := by
  have := sub_len (range_nodup B) fun x hx => by
    obtain ⟨y, hy, rfl⟩ := List.mem_map.1 hx
    have := List.mem_range.1 hy
    exact h (y + 1) (by omega) (by omega)
  simpa using this
theorem pow_big {n : Nat} (h : n > 10) : 2048 ≤ 2 ^ n := by
  have : (2 : Nat) ^ 11 ≤ 2 ^ n := Nat.pow_le_pow_right (by decide) h
  simpa using this
theorem pow_small {n : Nat} (h : n ≤ 10) : 2 ^ n ≤ 1024 := by
  have : (2 : Nat) ^ n ≤ 2 ^ 10 := Nat.pow_le_pow_right (by decide) h
  simpa using this

theorem allow_not {n a : Nat} : allowB (2 ^ n - 1) 0 (-1) a = decide (a ≠ 2 ^ n - 1) := by
  unfold allowB
  simp

/-- All sets but none and all. -/
theorem lim1 {n : Nat} {ys : List Nat} (hF : Found (HNs n []) (allowB (2 ^ n - 1) 0 (-1)) ys) : (n ≤ 10 → ys.length ≤ 1022) ∧ ((∀ S, Gn (HNs n []) (allowB (2 ^ n - 1) 0 (-1)) S → S = 0 ∨ S ∈ ys) → (n > 10 → ys.length > 1024) ∧ (n ≤ 10 → ys.length = 2 ^ n - 2)) := by
  have hp : 0 < 2 ^ n := Nat.pow_pos (by decide)
  have hb : ∀ y ∈ ys, y ≠ 0 ∧ y ≤ 2 ^ n - 2 := fun y hy => by
    obtain ⟨h1, h2, h3⟩ := hF.2 y hy
    have h4 := h1.lt HNs_nil_lt
    rw [allow_not, decide_eq_true_eq] at h2
    omega
  have hle := most_len hF.1 hb
  refine ⟨fun hn => by have := pow_small hn; omega, fun hall => ?_⟩
  have hall' : ∀ y, y ≠ 0 → y ≤ 2 ^ n - 2 → y ∈ ys := fun y h1 h2 => by
    rcases hall y (gn_all (by omega) fun T h3 h4 => by rw [allow_not, decide_eq_true_eq]; omega) with h | h
    · exact absurd h h1
    · exact h
  refine ⟨fun hn => ?_, fun hn => ?_⟩
  · have := pow_big hn
    have := least_len (B := 1025) fun y h1 h2 => hall' y h1 (by omega)
    omega
  · have := least_len hall'
    omega

theorem ones_single {i : Nat} (hi : i < 64) : onesI (2 ^ i) = 1 := by
  have := ones_pair hi hi
  rw [Nat.or_self, if_pos rfl] at this
  exact this
theorem pow_inj {i j : Nat} (h : 2 ^ i = 2 ^ j) : i = j := by
  rcases Nat.lt_trichotomy i j with h1 | h1 | h1
  · have := Nat.pow_lt_pow_right (a := 2) (by decide) h1; omega
  · exact h1
  · have := Nat.pow_lt_pow_right (a := 2) (by decide) h1; omega
theorem pow_all {n i : Nat} (hi : i < n) : 2 ^ i = 2 ^ n - 1 ↔ n = 1 := by
  constructor
  · intro h
    have h1 : 2 ^ (i + 1) ≤ 2 ^ n := Nat.pow_le_pow_right (by decide) hi
    rw [Nat.pow_succ] at h1
    have h0 : 0 < 2 ^ i := Nat.pow_pos (by decide)
    have h2 : 2 ^ i = 1 := by omega
    have h3 : i = 0 := pow_inj (j := 0) h2
    have h4 : 2 ^ n = 2 ^ 1 := by rw [h2] at h; omega
    exact pow_inj h4
  · rintro rfl
    obtain rfl : i = 0 := by omega
    rfl
theorem allow_one {n i : Nat} (hn : n ≤ 64) (hi : i < n) {most : Int} (hm : 0 ≤ most) : allowB (2 ^ n - 1) most (-1) (2 ^ i) = decide (n ≠ 1) := by
  unfold allowB
  rw [ones_single (by omega)]
  have h1 : (decide (most = 0) || decide ((1 : Int) ≤ most)) = true := by simp; omega
  have h2 : decide ((-1 : Int) < 0) = true := by decide
  rw [h1, h2, Bool.true_or, Bool.and_true, Bool.and_true]
  congr 1
  rw [ne_eq, ne_eq, pow_all hi]

/-- Single nodes. -/
theorem gn_one {n : Nat} (hn : n ≤ 64) {S : Nat} (h : Gn (HNs n []) (allowB (2 ^ n - 1) 1 (-1)) S) : S = 0 ∨ ∃ i, i < n ∧ S = 2 ^ i := by
  induction h with
  | zero => exact Or.inl rfl
  | step _ hh ha ih =>
    right
    obtain ⟨j, hj, rfl⟩ := mem_HNs_nil.1 hh
    rcases ih with rfl | ⟨i, hi, rfl⟩
    · exact ⟨j, hj, Nat.zero_or _⟩
    · by_cases hij : i = j
      · subst hij; exact ⟨i, hi, Nat.or_self _⟩
      · exfalso
        have h1 := ones_pair (i := i) (j := j) (by omega) (by omega)
        rw [if_neg hij] at h1
        unfold allowB at ha
        rw [h1] at ha
        simp at ha
theorem lim2 {n : Nat} (hn : n ≤ 64) {ys : List Nat} (hF : Found (HNs n []) (allowB (2 ^ n - 1) 1 (-1)) ys) : ys.length ≤ n ∧ ((∀ S, Gn (HNs n []) (allowB (2 ^ n - 1) 1 (-1)) S → S = 0 ∨ S ∈ ys) → n > 1 → ys.length = n) := by
  have h1 : ∀ y ∈ ys, y ∈ (List.range n).map (2 ^ ·) := fun y hy => by
    obtain ⟨h1, h2, h3⟩ := hF.2 y hy
    rcases gn_one hn h1 with h | ⟨i, hi, rfl⟩
    · exact absurd h h3
    · exact List.mem_map.2 ⟨i, List.mem_range.2 hi, rfl⟩
  have hle := sub_len hF.1 h1
  rw [List.length_map, List.length_range] at hle
  refine ⟨hle, fun hall hn1 => ?_⟩
  have hnd : List.Nodup ((List.range n).map (2 ^ ·)) := List.Pairwise.map _ (fun a b h e => h (pow_inj e)) List.nodup_range
  have := sub_len (ys := ys) hnd fun x hx => by
    obtain ⟨i, hi, rfl⟩ := List.mem_map.1 hx
    have hi' := List.mem_range.1 hi
    have hg : Gn (HNs n []) (allowB (2 ^ n - 1) 1 (-1)) (0 ||| 2 ^ i) := .step .zero (mem_HNs_nil.2 ⟨i, hi', rfl⟩) (by rw [Nat.zero_or, allow_one hn hi' (by decide), decide_eq_true_eq]; omega)
    rw [Nat.zero_or] at hg
    rcases hall _ hg with h | h
    · have : 0 < 2 ^ i := Nat.pow_pos (by decide)
      omega
    · exact h
  rw [List.length_map, List.length_range] at this
  omega

/-- All sets but none. -/
theorem lim3 {n : Nat} {ys : List Nat} (hF : Found (HNs n []) (fun _ => true) ys) : (n ≤ 10 → ys.length ≤ 1023) ∧ ((∀ S, Gn (HNs n []) (fun _ => true) S → S = 0 ∨ S ∈ ys) → (n > 10 → ys.length > 1023) ∧ (n ≤ 10 → ys.length = 2 ^ n - 1)) := by
  have hp : 0 < 2 ^ n := Nat.pow_pos (by decide)
  have hb : ∀ y ∈ ys, y ≠ 0 ∧ y ≤ 2 ^ n - 1 := fun y hy => by
    obtain ⟨h1, h2, h3⟩ := hF.2 y hy
    have h4 := h1.lt HNs_nil_lt
    omega
  have hle := most_len hF.1 hb
  refine ⟨fun hn => by have := pow_small hn; omega, fun hall => ?_⟩
  have hall' : ∀ y, y ≠ 0 → y ≤ 2 ^ n - 1 → y ∈ ys := fun y h1 h2 => by
    rcases hall y (gn_all (by omega) fun T h3 h4 => rfl) with h | h
    · exact absurd h h1
    · exact h
  refine ⟨fun hn => ?_, fun hn => ?_⟩
  · have := pow_big hn
    have := least_len (B := 1024) fun y h1 h2 => hall' y h1 (by omega)
    omega
  · have := least_len hall'
    omega

theorem low_pow (i : Nat) : Low (2 ^ i) i ∧ 2 ^ i &&& (2 ^ i - 1) = 0 := by
  obtain ⟨k, hk⟩ := low_ex (2 ^ i) (by have : 0 < 2 ^ i := Nat.pow_pos (by decide); omega)
  have h1 := hk.1
  rw [Nat.testBit_two_pow] at h1
  have h2 : i = k := by simpa using h1
  subst h2
  refine ⟨hk, Nat.eq_of_testBit_eq fun j => ?_⟩
  rw [hk.and_pred, Nat.testBit_two_pow, Nat.zero_testBit]
  by_cases hj : j = i
  · simp [hj]
  · simp [hj, Ne.symm hj]
theorem nodes_pow {i : Nat} (hi : i < 64) : nodesL (2 ^ i) 64 = [(i : Int)] := by
  obtain ⟨h1, h2⟩ := low_pow i
  rw [h1.nodes64 (Nat.pow_lt_pow_right (by decide) hi), h2, nodesL_zero]
theorem cmpS_pow {i : Nat} (h0 : 0 < i) (hi : i < 64) : ¬ cmpS (2 ^ i) 1 < 0 := by
  unfold cmpS
  rw [ones_single hi, show (1 : Nat) = 2 ^ 0 from rfl, ones_single (by decide), nodes_pow hi, nodes_pow (by decide)]
  rw [orI_two, cmpI_eq, if_neg (by simp), cmpL]
  have h1 : cmpI (i : Int) ((0 : Nat) : Int) = 1 := by unfold cmpI; rw [if_neg (by omega), if_pos (by omega)]
  rw [h1]; decide
/-- The least is the first node. -/
theorem lim4 {n : Nat} (hn : n ≤ 64) {most : Int} (hm : 0 ≤ most) : leastL (2 ^ n - 1) most (-1) (HNs n []) = if n > 1 then (1, true) else (0, false) := by
  rw [HNs_nil]
  have key : ∀ k, k ≤ n → n > 1 → leastL (2 ^ n - 1) most (-1) ((List.range k).map (2 ^ ·)) = if k > 0 then (1, true) else (0, false) := by
    intro k
    induction k with
    | zero => intro _ _; rfl
    | succ k ih =>
      intro hk hn1
      have ih' := ih (by omega) hn1
      unfold leastL at ih' ⊢
      rw [List.range_succ, List.map_append, List.foldl_append, ih']
      show leastStep (2 ^ n - 1) most (-1) _ (2 ^ k) = _
      unfold leastStep
      rw [allow_one hn (by omega) hm, decide_eq_true (show n ≠ 1 by omega), Bool.true_and, if_pos (show k + 1 > 0 by omega)]
      by_cases hk0 : k > 0
      · rw [if_pos hk0, decide_eq_false (cmpS_pow hk0 (by omega))]
        rfl
      · obtain rfl : k = 0 := by omega
        rfl
  by_cases hn1 : n > 1
  · rw [key n (Nat.le_refl _) hn1, if_pos (by omega), if_pos hn1]
  · rw [if_neg hn1]
    have : n = 0 ∨ n = 1 := by omega
    rcases this with rfl | rfl
    · rfl
    · show leastStep (2 ^ 1 - 1) most (-1) (0, false) (2 ^ 0) = _
      unfold leastStep
      rw [allow_one (n := 1) (by decide) (by decide) hm]
      rfl
end Go.Ev

/- The law RemovableLimits. -/
namespace Go.Ev
open Go Go.Proofs
set_option linter.unusedSimpArgs false
set_option linter.unusedVariables false
set_option maxRecDepth 100000
set_option maxHeartbeats 4000000
attribute [local irreducible] wpOps wpC wpD wpF wpLoop wpCall seqK blockK loopK retK T.put T.get T.setF

theorem check_nil {n : Nat} (hn : n ≤ 64) : checkR n [] = 0 := by
  unfold checkR
  rw [if_neg (by omega), if_neg (by simp only [List.length_nil]; have := Int.mul_nonneg (a := (n : Int)) (b := (n : Int)) (by omega) (by omega); omega), if_neg (by simp)]
  rfl
theorem tmodN' (a b : Nat) : (a : Int).tmod (b : Int) = ((a % b : Nat) : Int) := by
  rw [Int.tmod_eq_emod_of_nonneg (by omega)]; rfl
theorem guard_bool (a b : Bool) : eqGuardA Tryd.prog 4 (.bool a) (.bool b) = true := rfl
theorem eq_bool (a b : Bool) : eqA Tryd.prog 10000 4 (.bool a) (.bool b) = some (a == b) := by
  unfold eqA
  rw [un4]

theorem f4_spec (z0 z1 : Nat) (s : HS) (hgl : Glob s) (h0 : z0 < 256) (h1 : z1 < 256) : wpF Tryd.prog s.nx 4 [.int .u8 z0, .int .u8 z1] s (fun v s' => v = .bool true) := by
  refine wpF_of Tryd.func4 rfl rfl rfl rfl (Nat.le_refl _) ?_
  simp only [paramsA]
  have e1 : (z0 : Int).tmod 65 = ((z0 % 65 : Nat) : Int) := tmodN' z0 65
  have hn : z0 % 65 ≤ 64 := by omega
  generalize z0 % 65 = n at *
  have e2 : IntKind.i64.wrap (n : Int) = (n : Int) := IntWalk.i64_in _ (by omega)
  have e3 : IntKind.i64.wrap (z1 : Int) = (z1 : Int) := IntWalk.i64_in _ (by omega)
  have e4 : ¬ (65 : Int) = 0 := by decide
  have hb28 := build28 (.int .i64 n) rfl
  have hlo : s.nx ≤ s.nx := Nat.le_refl _
  have o1 : ([Value.int .i64 (n : Int), .slice none 0 0] : List Value).all Value.oneCell' = true := rfl
  repeat (first
  | with_reducible first | apply ops_end | apply d_end | apply k_seq | apply k_seq_ret | apply k_seq_exit | apply k_block | apply k_block_ret | apply k_block_here | apply c_seq | apply c_block | apply c_region | apply c_skip | apply c_ret | apply c_exit | apply c_loop | apply k_loop_exit | apply k_loop_ret | apply if_t | apply if_f
  | (with_reducible apply k_block_on
     · decide)
  | ((with_reducible first | apply xOp | apply xDr | apply xIf); rfl; (simp only [Nat.reduceEqDiff, Nat.reduceAdd, ↓reduceIte, xBB, stG, undef, opA, val, opdA, opdO, plainN, omap, binA, intBinA, loadV, readA, storeV, writeA, fieldAddrA, indexAddrA, lenA, builtinA, newA, unA, packA, Value.cells]; rfl); first | rfl | exact ⟨rfl, rfl, rfl⟩))
  ((with_reducible first | apply xCa | apply xCd); rfl; (simp only [Nat.reduceEqDiff, Nat.reduceAdd, ↓reduceIte, xBB, stB, opdA, opdO, plainN, omap, val, Value.cells]; exact ⟨rfl, rfl⟩); try rfl)
  apply call_fn
  refine wpF_closed (known_closed hgl) ?_
  refine opt_of rfl ?_
  repeat (first
  | with_reducible first | apply ops_end | apply d_end | apply k_seq | apply k_seq_ret | apply k_seq_exit | apply k_block | apply k_block_ret | apply k_block_here | apply c_seq | apply c_block | apply c_skip | apply c_ret | apply c_exit | apply c_loop | apply k_loop_exit | apply k_loop_ret | apply if_t | apply if_f
  | (with_reducible apply k_block_on
     · decide)
  | ((with_reducible first | apply xOp | apply xDr | apply xIf); rfl; (simp only [Nat.reduceEqDiff, Nat.reduceAdd, ↓reduceIte, xBB, stG, undef, opA, val, opdA, opdO, plainN, omap, binA, intBinA, loadV, readA, storeV, writeA, fieldAddrA, indexAddrA, lenA, builtinA, newA, unA, packA, Value.cells, Bool.not_true]; rfl); first | rfl | exact ⟨rfl, rfl, rfl⟩))
  apply c_region
  repeat (first
  | with_reducible first | apply ops_end | apply d_end | apply k_seq | apply k_seq_ret | apply k_seq_exit | apply k_block | apply k_block_ret | apply k_block_here | apply c_seq | apply c_block | apply c_skip | apply c_ret | apply c_exit | apply c_loop | apply k_loop_exit | apply k_loop_ret | apply if_t | apply if_f
  | (with_reducible apply k_block_on
     · decide)
  | ((with_reducible first | apply xOp | apply xDr | apply xIf); rfl; (simp only [Nat.reduceEqDiff, Nat.reduceAdd, ↓reduceIte, xBB, stG, undef, opA, val, opdA, opdO, plainN, omap, binA, intBinA, loadV, readA, storeV, writeA, fieldAddrA, indexAddrA, lenA, builtinA, newA, unA, packA, Value.cells, e1, e4, convA, un5, un3, e2, hb28, zr28, sz28, o1, List.toList_toArray]; rfl); first | rfl | exact ⟨rfl, rfl, rfl⟩))
  dsimp only
  generalize hst0 : ({ hp := (s.hp.put s.nx (some (.cells true 28 [.int .i64 0, .slice none 0 0]))).put s.nx (some (.cells true 28 (putL [.int .i64 0, .slice none 0 0] 0 [.int .i64 (n : Int), .slice none 0 0]))), nx := s.nx + 1 } : HS) = w
  have hwn : w.nx = s.nx + 1 := by rw [← hst0]
  have hwo : ∀ id, id < s.nx → w.hp.get id = s.hp.get id := fun id h => by rw [← hst0]; dsimp only; rw [T.get_put_ne _ _ _ (by omega), T.get_put_ne _ _ _ (by omega)]
  have hwb : w.hp.get s.nx = some (.cells true 28 [.int .i64 n, .slice none 0 0]) := by rw [← hst0]; exact T.get_put_eq _ _ _
  clear hst0
  have hc2 : cutL [Value.int .i64 (n : Int), .slice none 0 0] 0 2 = some [.int .i64 n, .slice none 0 0] := rfl
  have hc1 : cutL [Value.int .i64 (n : Int), .slice none 0 0] 0 1 = some [.int .i64 n] := rfl
  have hglw : Glob w := ⟨by have := hgl.1; omega, by rw [hwo 0 hgl.1]; exact hgl.2⟩
  have hnil : ∀ t : HS, Sl t 2 (.slice none 0 0) (([] : List (Int × Int)).map encE) := fun _ => Or.inl ⟨rfl, rfl⟩
  have hR : ∀ m : Int, 0 ≤ m → restR n [] m (-1) = 0 := fun m hm => by
    unfold restR
    rw [if_neg (by simpa using check_nil hn), if_neg (by omega)]
  apply c_region
  repeat (first
  | with_reducible first | apply ops_end | apply d_end | apply k_seq | apply k_seq_ret | apply k_seq_exit | apply k_block | apply k_block_ret | apply k_block_here | apply c_seq | apply c_block | apply c_skip | apply c_ret | apply c_exit | apply c_loop | apply k_loop_exit | apply k_loop_ret | apply if_t | apply if_f
  | (with_reducible apply k_block_on
     · decide)
  | ((with_reducible first | apply xOp | apply xDr | apply xIf); rfl; (simp only [Nat.reduceEqDiff, Nat.reduceAdd, ↓reduceIte, xBB, stG, undef, opA, val, opdA, opdO, plainN, omap, binA, intBinA, loadV, readA, storeV, writeA, fieldAddrA, indexAddrA, lenA, builtinA, newA, unA, packA, Value.cells, hwb, ty28, hc2, List.toList_toArray]; rfl); first | rfl | exact ⟨rfl, rfl, rfl⟩))
  ((with_reducible first | apply xCa | apply xCd); rfl; (simp only [Nat.reduceEqDiff, Nat.reduceAdd, ↓reduceIte, xBB, stB, opdA, opdO, plainN, omap, val, Value.cells]; exact ⟨rfl, rfl⟩); try rfl)
  apply call_fn
  refine (f12_spec n [] _ 0 (-1) w hglw (hnil w)).use (by first | exact Nat.le_refl _ | (simp only [cond_true, cond_false]; omega) | omega | (dsimp only; omega)) (Nat.le_refl _) fun v w1 hv hA1 => ?_
  have hn1 := hA1.nx
  have hw1 := (hA1.get (Nat.le_refl _) (show s.nx < w.nx by omega)).trans hwb
  have hgl1 := hglw.keep hA1
  rcases hv with ⟨h, _⟩ | ⟨_, ys1, hF1, lv1, hv⟩
  · exact absurd (hR 0 (by decide)) h
  obtain ⟨a1, a2⟩ := lim1 hF1
  have hv1 : ∃ (b : Option Addr) (c len1 : Nat) (e : Int), v = .tuple #[.slice b len1 c, .int .i64 e] ∧ (n > 10 → len1 = 0 ∧ e = 6) ∧ (n ≤ 10 → len1 = 2 ^ n - 2 ∧ e = 0) := by
    rcases hv with ⟨h1, rfl, h2⟩ | ⟨h1, h2, rfl, h3⟩
    · obtain ⟨b, c, rfl⟩ := h2.shape
      exact ⟨b, c, 0, 6, rfl, fun _ => ⟨rfl, rfl⟩, fun h => by have := a1 h; omega⟩
    · obtain ⟨b, c, rfl⟩ := h3.shape
      obtain ⟨a3, a4⟩ := a2 h2
      refine ⟨b, c, _, 0, rfl, fun h => by have := a3 h; omega, fun h => ⟨?_, rfl⟩⟩
      rw [List.length_map, srtN_len, a4 h]
  obtain ⟨b1, c1, len1, e1', rfl, hbig1, hsm1⟩ := hv1
  clear hv hA1 hF1 a1 a2
  refine opt_of rfl ?_
  repeat (first
  | with_reducible first | apply ops_end | apply d_end | apply k_seq | apply k_seq_ret | apply k_seq_exit | apply k_block | apply k_block_ret | apply k_block_here | apply c_seq | apply c_block | apply c_region | apply c_skip | apply c_ret | apply c_exit | apply c_loop | apply k_loop_exit | apply k_loop_ret | apply if_t | apply if_f
  | (with_reducible apply k_block_on
     · decide)
  | ((with_reducible first | apply xOp | apply xDr | apply xIf); rfl; (simp only [Nat.reduceEqDiff, Nat.reduceAdd, ↓reduceIte, xBB, stG, undef, opA, val, opdA, opdO, plainN, omap, binA, intBinA, loadV, readA, storeV, writeA, fieldAddrA, indexAddrA, lenA, builtinA, newA, unA, packA, Value.cells, List.toList_toArray, List.getElem?_cons_zero, List.getElem?_cons_succ, hw1, ty28, hc2]; rfl); first | rfl | exact ⟨rfl, rfl, rfl⟩))
  ((with_reducible first | apply xCa | apply xCd); rfl; (simp only [Nat.reduceEqDiff, Nat.reduceAdd, ↓reduceIte, xBB, stB, opdA, opdO, plainN, omap, val, Value.cells]; exact ⟨rfl, rfl⟩); try rfl)
  apply call_fn
  refine (f12_spec n [] _ 1 (-1) w1 hgl1 (hnil w1)).use (by first | exact Nat.le_refl _ | (simp only [cond_true, cond_false]; omega) | omega | (dsimp only; omega)) (Nat.le_refl _) fun v w2 hv hA2 => ?_
  have hn2 := hA2.nx
  have hw2 := (hA2.get (Nat.le_refl _) (show s.nx < w1.nx by omega)).trans hw1
  have hgl2 := hgl1.keep hA2
  rcases hv with ⟨h, _⟩ | ⟨_, ys2, hF2, lv2, hv⟩
  · exact absurd (hR 1 (by decide)) h
  obtain ⟨a1, a2⟩ := lim2 hn hF2
  have hv2 : ∃ (b : Option Addr) (c len2 : Nat), v = .tuple #[.slice b len2 c, .int .i64 0] ∧ (n > 1 → len2 = n) := by
    rcases hv with ⟨h1, rfl, h2⟩ | ⟨h1, h2, rfl, h3⟩
    · omega
    · obtain ⟨b, c, rfl⟩ := h3.shape
      refine ⟨b, c, _, rfl, fun h => ?_⟩
      rw [List.length_map, srtN_len, a2 h2 h]
  obtain ⟨b2, c2, len2, rfl, hlen2⟩ := hv2
  clear hv hA2 hF2 a1 a2
  refine opt_of rfl ?_
  repeat (first
  | with_reducible first | apply ops_end | apply d_end | apply k_seq | apply k_seq_ret | apply k_seq_exit | apply k_block | apply k_block_ret | apply k_block_here | apply c_seq | apply c_block | apply c_region | apply c_skip | apply c_ret | apply c_exit | apply c_loop | apply k_loop_exit | apply k_loop_ret | apply if_t | apply if_f
  | (with_reducible apply k_block_on
     · decide)
  | ((with_reducible first | apply xOp | apply xDr | apply xIf); rfl; (simp only [Nat.reduceEqDiff, Nat.reduceAdd, ↓reduceIte, xBB, stG, undef, opA, val, opdA, opdO, plainN, omap, binA, intBinA, loadV, readA, storeV, writeA, fieldAddrA, indexAddrA, lenA, builtinA, newA, unA, packA, Value.cells, List.toList_toArray, List.getElem?_cons_zero, List.getElem?_cons_succ, hw2, ty28, hc2]; rfl); first | rfl | exact ⟨rfl, rfl, rfl⟩))
  ((with_reducible first | apply xCa | apply xCd); rfl; (simp only [Nat.reduceEqDiff, Nat.reduceAdd, ↓reduceIte, xBB, stB, opdA, opdO, plainN, omap, val, Value.cells]; exact ⟨rfl, rfl⟩); try rfl)
  apply call_fn
  refine (f20_spec n [] _ w2 (hnil w2)).use (by first | exact Nat.le_refl _ | (simp only [cond_true, cond_false]; omega) | omega | (dsimp only; omega)) (Nat.le_refl _) fun v w3 hv hA3 => ?_
  have hn3 := hA3.nx
  have hw3 := (hA3.get (Nat.le_refl _) (show s.nx < w2.nx by omega)).trans hw2
  have hgl3 := hgl2.keep hA3
  rcases hv with ⟨h, _⟩ | ⟨_, ys3, hF3, hv⟩
  · exact absurd (check_nil hn) h
  obtain ⟨a1, a2⟩ := lim3 hF3
  have hp0 : 0 < 2 ^ n := Nat.pow_pos (by decide)
  have hv3 : ∃ cnt : Nat, v = .tuple #[.int .i64 cnt, .int .i64 0] ∧ (n > 10 → cnt = 1025) ∧ (n ≤ 10 → cnt = 2 ^ n) := by
    rcases hv with ⟨h1, rfl⟩ | ⟨h1, h2, rfl⟩
    · exact ⟨1025, rfl, fun _ => rfl, fun h => by have := a1 h; omega⟩
    · obtain ⟨a3, a4⟩ := a2 h2
      refine ⟨_, rfl, fun h => by have := a3 h; omega, fun h => ?_⟩
      have := a4 h; omega
  obtain ⟨cnt, rfl, hbig3, hsm3⟩ := hv3
  clear hv hA3 hF3 a1 a2
  refine opt_of rfl ?_
  repeat (first
  | with_reducible first | apply ops_end | apply d_end | apply k_seq | apply k_seq_ret | apply k_seq_exit | apply k_block | apply k_block_ret | apply k_block_here | apply c_seq | apply c_block | apply c_region | apply c_skip | apply c_ret | apply c_exit | apply c_loop | apply k_loop_exit | apply k_loop_ret | apply if_t | apply if_f
  | (with_reducible apply k_block_on
     · decide)
  | ((with_reducible first | apply xOp | apply xDr | apply xIf); rfl; (simp only [Nat.reduceEqDiff, Nat.reduceAdd, ↓reduceIte, xBB, stG, undef, opA, val, opdA, opdO, plainN, omap, binA, intBinA, loadV, readA, storeV, writeA, fieldAddrA, indexAddrA, lenA, builtinA, newA, unA, packA, Value.cells, List.toList_toArray, List.getElem?_cons_zero, List.getElem?_cons_succ, hw3, ty28, hc2, convA, un5, un3, e3]; rfl); first | rfl | exact ⟨rfl, rfl, rfl⟩))
  ((with_reducible first | apply xCa | apply xCd); rfl; (simp only [Nat.reduceEqDiff, Nat.reduceAdd, ↓reduceIte, xBB, stB, opdA, opdO, plainN, omap, val, Value.cells]; exact ⟨rfl, rfl⟩); try rfl)
  apply call_fn
  refine (f13_spec n [] _ z1 (-1) w3 hgl3 (hnil w3)).use (by first | exact Nat.le_refl _ | (simp only [cond_true, cond_false]; omega) | omega | (dsimp only; omega)) (Nat.le_refl _) fun v w4 hv hA4 => ?_
  have hn4 := hA4.nx
  have hw4 := (hA4.get (Nat.le_refl _) (show s.nx < w3.nx by omega)).trans hw3
  rcases hv with ⟨h, _⟩ | ⟨_, o4, lv4, rfl, hown4⟩
  · exact absurd (hR z1 (by omega)) h
  rw [lim4 hn (by omega)] at *
  have z0' : ((0 : Int) != 0) = false := rfl
  have nb : ∀ b : Bool, (!(b == b)) = false := fun b => by cases b <;> rfl
  refine opt_of rfl ?_
  repeat (first
  | with_reducible first | apply ops_end | apply d_end | apply k_seq | apply k_seq_ret | apply k_seq_exit | apply k_block | apply k_block_ret | apply k_block_here | apply c_seq | apply c_block | apply c_skip | apply c_ret | apply c_exit | apply c_loop | apply k_loop_exit | apply k_loop_ret | apply if_t | apply if_f
  | (with_reducible apply k_block_on
     · decide)
  | ((with_reducible first | apply xOp | apply xDr | apply xIf); rfl; (simp only [Nat.reduceEqDiff, Nat.reduceAdd, ↓reduceIte, xBB, stG, undef, opA, val, opdA, opdO, plainN, omap, binA, intBinA, loadV, readA, storeV, writeA, fieldAddrA, indexAddrA, lenA, builtinA, newA, unA, packA, Value.cells, List.toList_toArray, List.getElem?_cons_zero, List.getElem?_cons_succ]; rfl); first | rfl | exact ⟨rfl, rfl, rfl⟩))
  apply c_region
  by_cases hn1 : n > 1
  · have g1 : (n : Int) > 1 := by omega
    have g2 : ((len2 : Int) != (n : Int)) = false := by rw [hlen2 hn1]; simp
    rw [if_pos hn1] at hown4 ⊢
    rw [show nodesL 1 64 = [(0 : Int)] from nodes_pow (i := 0) (by decide)] at hown4
    repeat (first
  | with_reducible first | apply ops_end | apply d_end | apply k_seq | apply k_seq_ret | apply k_seq_exit | apply k_block | apply k_block_ret | apply k_block_here | apply c_seq | apply c_block | apply c_region | apply c_skip | apply c_ret | apply c_exit | apply c_loop | apply k_loop_exit | apply k_loop_ret | apply if_t | apply if_f
  | (with_reducible apply k_block_on
     · decide)
  | ((with_reducible first | apply xOp | apply xDr | apply xIf); rfl; (simp only [Nat.reduceEqDiff, Nat.reduceAdd, ↓reduceIte, xBB, stG, undef, opA, val, opdA, opdO, plainN, omap, binA, intBinA, loadV, readA, storeV, writeA, fieldAddrA, indexAddrA, lenA, builtinA, newA, unA, packA, Value.cells, z0', guard_bool, eq_bool, hw4, fd28_0, ty3, hc1, g1, nb, beq_self_eq_true, Bool.not_true, buildSliceA, el35, sz3, zr3, zerosL, fillA]; rfl); first | rfl | exact ⟨rfl, rfl, rfl⟩))
    ((with_reducible first | apply xCa | apply xCd); rfl; (simp only [Nat.reduceEqDiff, Nat.reduceAdd, ↓reduceIte, xBB, stB, opdA, opdO, plainN, omap, val, Value.cells]; exact ⟨rfl, rfl⟩); try rfl)
    apply call_fn
    generalize hst1 : ({ hp := w4.hp.put w4.nx (some (.cells true 3 (putL ([.int .i64 0] ++ []) (0 * 1) [.int .i64 0]))), nx := w4.nx + 1 } : HS) = w5
    have hn5 : w5.nx = w4.nx + 1 := by rw [← hst1]
    have h5o : ∀ id, id < w4.nx → w5.hp.get id = w4.hp.get id := fun id h => by rw [← hst1]; exact T.get_put_ne _ _ _ (by omega)
    have h5b : w5.hp.get w4.nx = some (.cells true 3 [.int .i64 0]) := by rw [← hst1]; exact T.get_put_eq _ _ _
    refine (f15_spec [0] [0] lv4 _ w5 (hown4.sl.same (by omega) h5o) (Sl.block (post := []) h5b rfl (by omega) rfl (fun x hx => by simp at hx; rw [hx]; rfl)) (by decide)).use (by first | exact Nat.le_refl _ | (simp only [cond_true, cond_false]; omega) | omega | (dsimp only; omega)) (Nat.le_refl _) fun v w6 hv hA6 => ?_
    obtain ⟨rfl, rfl⟩ := hv
    rw [decide_eq_true (rfl : ([0] : List Int) = [0])]
    have hw5 := (h5o s.nx (by omega)).trans hw4
    refine opt_of rfl ?_
    have hmax : ∀ x : Nat, (if ((x : Nat) : Int) > 0 then ((x : Nat) : Int) else 0) = (x : Int) := fun x => by split <;> omega
    have hshl : n ≤ 10 → shiftA .shl .i64 1 (n : Int) = some (.int .i64 ((2 ^ n : Nat) : Int)) := fun h => shl_i64 (by omega)
    by_cases hn10 : n > 10
    · have g3 : (n : Int) > 10 := by omega
      obtain ⟨rfl, rfl⟩ := hbig1 hn10
      obtain rfl := hbig3 hn10
      have k1 : (((0 : Nat) : Int) == 0) = true := rfl
      have k2 : ((6 : Int) == 6) = true := rfl
      have k3 : (((1025 : Nat) : Int) == 1025) = true := rfl
      repeat (first
  | with_reducible first | apply ops_end | apply d_end | apply k_seq | apply k_seq_ret | apply k_seq_exit | apply k_block | apply k_block_ret | apply k_block_here | apply c_seq | apply c_block | apply c_region | apply c_skip | apply c_ret | apply c_exit | apply c_loop | apply k_loop_exit | apply k_loop_ret | apply if_t | apply if_f
  | (with_reducible apply k_block_on
     · decide)
  | ((with_reducible first | apply xOp | apply xDr | apply xIf); rfl; (simp only [Nat.reduceEqDiff, Nat.reduceAdd, ↓reduceIte, xBB, stG, undef, opA, val, opdA, opdO, plainN, omap, binA, intBinA, loadV, readA, storeV, writeA, fieldAddrA, indexAddrA, lenA, builtinA, newA, unA, packA, Value.cells, Bool.not_true, g1, g2, hw5, fd28_0, ty3, hc1, g3, un30, k1, k2, k3]; rfl); first | rfl | exact ⟨rfl, rfl, rfl⟩))
      intro _
      ((with_reducible first | apply ret_i | apply ret_n); (simp only [Nat.reduceEqDiff, Nat.reduceAdd, ↓reduceIte, xBB, resA, opdA, opdO, plainN, omap, val, loadV, readA, packA]; rfl))
      rfl
    · have g3 : ¬ (n : Int) > 10 := by omega
      obtain ⟨rfl, rfl⟩ := hsm1 (by omega)
      obtain rfl := hsm3 (by omega)
      have hp2 : 2 ≤ 2 ^ n := Nat.le_trans (by decide) (Nat.pow_le_pow_right (n := 2) (by decide) hn1)
      have hp10 := pow_small (n := n) (by omega)
      have k1 := hshl (by omega)
      have k2 : IntKind.i64.wrap (((2 ^ n : Nat) : Int) - 2) = ((2 ^ n - 2 : Nat) : Int) := by rw [IntWalk.i64_in _ (by omega)]; omega
      have k3 := hmax (2 ^ n - 2)
      have k4 : (((2 ^ n - 2 : Nat) : Int) == ((2 ^ n - 2 : Nat) : Int)) = true := by simp
      have k5 : ((0 : Int) == 0) = true := rfl
      have k6 : (((2 ^ n : Nat) : Int) == ((2 ^ n : Nat) : Int)) = true := by simp
      repeat (first
  | with_reducible first | apply ops_end | apply d_end | apply k_seq | apply k_seq_ret | apply k_seq_exit | apply k_block | apply k_block_ret | apply k_block_here | apply c_seq | apply c_block | apply c_region | apply c_skip | apply c_ret | apply c_exit | apply c_loop | apply k_loop_exit | apply k_loop_ret | apply if_t | apply if_f
  | (with_reducible apply k_block_on
     · decide)
  | ((with_reducible first | apply xOp | apply xDr | apply xIf); rfl; (simp only [Nat.reduceEqDiff, Nat.reduceAdd, ↓reduceIte, xBB, stG, undef, opA, val, opdA, opdO, plainN, omap, binA, intBinA, loadV, readA, storeV, writeA, fieldAddrA, indexAddrA, lenA, builtinA, newA, unA, packA, Value.cells, Bool.not_true, g1, g2, hw5, fd28_0, ty3, hc1, g3, un30, k1, k2, k3, k4, k5, k6]; rfl); first | rfl | exact ⟨rfl, rfl, rfl⟩))
      intro _
      ((with_reducible first | apply ret_i | apply ret_n); (simp only [Nat.reduceEqDiff, Nat.reduceAdd, ↓reduceIte, xBB, resA, opdA, opdO, plainN, omap, val, loadV, readA, packA]; rfl))
      rfl
  · have g1 : ¬ (n : Int) > 1 := by omega
    rw [if_neg hn1] at hown4 ⊢
    have hmax : ∀ x : Nat, (if ((x : Nat) : Int) > 0 then ((x : Nat) : Int) else 0) = (x : Int) := fun x => by split <;> omega
    have g3 : ¬ (n : Int) > 10 := by omega
    obtain ⟨rfl, rfl⟩ := hsm1 (by omega)
    obtain rfl := hsm3 (by omega)
    have hp2 : 2 ^ n ≤ 2 := Nat.le_trans (Nat.pow_le_pow_right (n := 2) (by decide) (show n ≤ 1 by omega)) (by decide)
    have k1 := shl_i64 (k := n) (by omega)
    have k2 : IntKind.i64.wrap (((2 ^ n : Nat) : Int) - 2) = ((2 ^ n : Nat) : Int) - 2 := IntWalk.i64_in _ (by omega)
    have k3 : (if ((2 ^ n : Nat) : Int) - 2 > 0 then ((2 ^ n : Nat) : Int) - 2 else 0) = 0 := by rw [if_neg (by omega)]
    have k4 : (((2 ^ n - 2 : Nat) : Int) == 0) = true := by simp; omega
    have k5 : ((0 : Int) == 0) = true := rfl
    have k6 : (((2 ^ n : Nat) : Int) == ((2 ^ n : Nat) : Int)) = true := by simp
    have hsame : ∀ b : Bool, (if b = true then false else false) = false := fun b => by cases b <;> rfl
    cases hq : ((len2 : Int) != (n : Int)) with
    | true =>
      repeat (first
  | with_reducible first | apply ops_end | apply d_end | apply k_seq | apply k_seq_ret | apply k_seq_exit | apply k_block | apply k_block_ret | apply k_block_here | apply c_seq | apply c_block | apply c_region | apply c_skip | apply c_ret | apply c_exit | apply c_loop | apply k_loop_exit | apply k_loop_ret | apply if_t | apply if_f
  | (with_reducible apply k_block_on
     · decide)
  | ((with_reducible first | apply xOp | apply xDr | apply xIf); rfl; (simp only [Nat.reduceEqDiff, Nat.reduceAdd, ↓reduceIte, xBB, stG, undef, opA, val, opdA, opdO, plainN, omap, binA, intBinA, loadV, readA, storeV, writeA, fieldAddrA, indexAddrA, lenA, builtinA, newA, unA, packA, Value.cells, z0', guard_bool, eq_bool, hw4, fd28_0, ty3, hc1, g1, nb, beq_self_eq_true, Bool.not_true, un30, hq, g3, k1, k2, k3, k4, k5, k6]; rfl); first | rfl | exact ⟨rfl, rfl, rfl⟩))
      intro _
      ((with_reducible first | apply ret_i | apply ret_n); (simp only [Nat.reduceEqDiff, Nat.reduceAdd, ↓reduceIte, xBB, resA, opdA, opdO, plainN, omap, val, loadV, readA, packA]; rfl))
      rfl
    | false =>
      repeat (first
  | with_reducible first | apply ops_end | apply d_end | apply k_seq | apply k_seq_ret | apply k_seq_exit | apply k_block | apply k_block_ret | apply k_block_here | apply c_seq | apply c_block | apply c_region | apply c_skip | apply c_ret | apply c_exit | apply c_loop | apply k_loop_exit | apply k_loop_ret | apply if_t | apply if_f
  | (with_reducible apply k_block_on
     · decide)
  | ((with_reducible first | apply xOp | apply xDr | apply xIf); rfl; (simp only [Nat.reduceEqDiff, Nat.reduceAdd, ↓reduceIte, xBB, stG, undef, opA, val, opdA, opdO, plainN, omap, binA, intBinA, loadV, readA, storeV, writeA, fieldAddrA, indexAddrA, lenA, builtinA, newA, unA, packA, Value.cells, z0', guard_bool, eq_bool, hw4, fd28_0, ty3, hc1, g1, nb, beq_self_eq_true, Bool.not_true, un30, hq, g3, k1, k2, k3, k4, k5, k6]; rfl); first | rfl | exact ⟨rfl, rfl, rfl⟩))
      intro _
      ((with_reducible first | apply ret_i | apply ret_n); (simp only [Nat.reduceEqDiff, Nat.reduceAdd, ↓reduceIte, xBB, resA, opdA, opdO, plainN, omap, val, loadV, readA, packA]; rfl))
      rfl
end Go.Ev
