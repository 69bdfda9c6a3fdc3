import Derived.Test.YthedojfbofcefaaDoorEvG32
import Derived.Test.YthedojfbofcefaaDoorEvG18
import Derived.Test.YthedojfbofcefaaDoorEvG21
import Derived.Test.YthedojfbofcefaaDoorEvReg
/- removable.Candidates, removable.Count. -/
namespace Go.Ev
open Go Go.Proofs
set_option linter.unusedSimpArgs false
set_option linter.unusedVariables false
set_option maxRecDepth 100000
set_option maxHeartbeats 4000000
attribute [local irreducible] wpOps wpC wpD wpF wpLoop wpCall seqK blockK loopK retK T.put T.get T.setF

theorem f12_spec (n : Nat) (es : List (Int × Int)) (ev : Value) (most wo : Int) (s : HS) (hgl : Glob s) (hs : Sl s 2 ev (es.map encE)) :
    wpF Tryd.prog s.nx 12 [vG n ev, .int .i64 most, .int .i64 wo] s (fun v s' => (restR n es most wo ≠ 0 ∧ v = .tuple #[.slice none 0 0, .int .i64 (restR n es most wo)]) ∨
      (restR n es most wo = 0 ∧ ∃ ys, Found (HNs n es) (allowB (2 ^ n - 1) most wo) ys ∧ ∃ lv : Value, ((ys.length = 1025 ∧ v = .tuple #[lv, .int .i64 6] ∧ Lls s' lv []) ∨
        (ys.length ≤ 1024 ∧ (∀ S, Gn (HNs n es) (allowB (2 ^ n - 1) most wo) S → S = 0 ∨ S ∈ ys) ∧ v = .tuple #[lv, .int .i64 0] ∧ LlsN s s' lv ((srtN ys).map fun a => nodesL a 64))))) := by
  refine wpF_of Tryd.func12 rfl rfl rfl rfl (Nat.le_refl _) ?_
  simp only [paramsA, vG]
  have hc2 : cutL [Value.int .i64 (n : Int), ev] 0 2 = some [.int .i64 n, ev] := rfl
  repeat (first
  | with_reducible first | refine st (by constructor) ?_ | apply c_region
  | (with_reducible apply k_block_on
     · decide)
  | ((with_reducible first | apply xOp | apply xDr | apply xIf); rfl; (simp only [Nat.reduceEqDiff, Nat.reduceAdd, ↓reduceIte, xBB, stG, undef, opA, val, opdA, opdO, plainN, omap, binA, intBinA, loadV, readA, storeV, writeA, fieldAddrA, indexAddrA, lenA, builtinA, newA, unA, packA, Value.cells, sz28, ty28, hc2, List.toList_toArray]; rfl); first | rfl | exact ⟨rfl, rfl, rfl⟩))
  have hA0 := Ab.new (lk := s.nx) s (.cells true 28 [.int .i64 n, ev])
  ((with_reducible first | apply xCa | apply xCd); rfl; (simp only [Nat.reduceEqDiff, Nat.reduceAdd, ↓reduceIte, xBB, stB, opdA, opdO, plainN, omap, val, Value.cells]; exact ⟨rfl, rfl⟩); try rfl)
  apply call_fn
  refine (f28_spec n es ev most wo _ (hs.keep hA0)).use (by first | exact Nat.le_refl _ | (simp only [cond_true, cond_false]; omega) | omega | (dsimp only; omega)) (by first | exact Nat.le_refl _ | (simp only [cond_true, cond_false]; omega) | omega | (dsimp only; omega)) fun v s1 hv hA1 => ?_
  subst hv
  have hn1 := hA1.nx
  dsimp only at hn1
  have hb0 := hA1.get (Nat.le_refl _) (Nat.lt_succ_self s.nx)
  rw [T.get_put_eq] at hb0
  have hA01 := hA0.trans (hA1.lower (Nat.le_succ _) (Nat.le_refl _))
  have hl1 : s.nx ≤ s1.nx := by omega
  have hone : ∀ a b c : Int, ([Value.int .u64 a, .int .i64 b, .int .i64 c] : List Value).all Value.oneCell' = true := fun _ _ _ => rfl
  have hput : ∀ a b c : Int, putL [Value.int .u64 0, .int .i64 0, .int .i64 0] 0 [.int .u64 a, .int .i64 b, .int .i64 c] = [.int .u64 a, .int .i64 b, .int .i64 c] := fun _ _ _ => rfl
  have hcut : ∀ a b c : Value, cutL [a, b, c] 0 3 = some [a, b, c] := fun _ _ _ => rfl
  refine opt_of rfl ?_
  by_cases hR : restR n es most wo = 0
  · have e0 : (restR n es most wo != 0) = false := by simp [hR]
    rw [if_pos hR, Int.toNat_natCast]
    have hc : checkR n es = 0 := by
      unfold restR at hR
      split at hR
      · rename_i h; exact absurd hR h
      · rename_i h; simpa using h
    have hg := good_of hc
    have hn64 : n ≤ 64 := by have := hg.hi; omega
    unfold vL
    repeat (first
  | with_reducible first | refine st (by constructor) ?_ | apply c_region
  | (with_reducible apply k_block_on
     · decide)
  | ((with_reducible first | apply xOp | apply xDr | apply xIf); rfl; (simp only [Nat.reduceEqDiff, Nat.reduceAdd, ↓reduceIte, xBB, stG, undef, opA, val, opdA, opdO, plainN, omap, binA, intBinA, loadV, readA, storeV, writeA, fieldAddrA, indexAddrA, lenA, builtinA, newA, unA, packA, Value.cells, e0, zr62, sz62, hl1, hone, hput, List.toList_toArray, List.getElem?_cons_zero, List.getElem?_cons_succ]; rfl); first | rfl | exact ⟨rfl, rfl, rfl⟩))
    have hb64 : (2 : Nat) ^ n ≤ 2 ^ 64 := Nat.pow_le_pow_right (by decide) hn64
    generalize hst0 : ({ hp := (s1.hp.put s1.nx (some (.cells true 62 [.int .u64 0, .int .i64 0, .int .i64 0]))).put s1.nx (some (.cells true 62 [.int .u64 ((2 ^ n - 1 : Nat)), .int .i64 most, .int .i64 wo])), nx := s1.nx + 1 } : HS) = w
    have hwn : w.nx = s1.nx + 1 := by rw [← hst0]
    have hwo : ∀ id, id < s1.nx → w.hp.get id = s1.hp.get id := fun id h => by rw [← hst0]; dsimp only; rw [T.get_put_ne _ _ _ (by omega), T.get_put_ne _ _ _ (by omega)]
    have hwb : w.hp.get s1.nx = some (.cells true 62 [.int .u64 ((2 ^ n - 1 : Nat)), .int .i64 most, .int .i64 wo]) := by rw [← hst0]; exact T.get_put_eq _ _ _
    have hw0 := (hwo s.nx (by omega)).trans hb0
    have hglw : Glob w := by
      have h1 : Glob s1 := hgl.keep hA01
      exact ⟨by have := h1.1; omega, by rw [hwo 0 h1.1]; exact h1.2⟩
    repeat (first
  | with_reducible first | refine st (by constructor) ?_ | apply c_region
  | (with_reducible apply k_block_on
     · decide)
  | ((with_reducible first | apply xOp | apply xDr | apply xIf); rfl; (simp only [Nat.reduceEqDiff, Nat.reduceAdd, ↓reduceIte, xBB, stG, undef, opA, val, opdA, opdO, plainN, omap, binA, intBinA, loadV, readA, storeV, writeA, fieldAddrA, indexAddrA, lenA, builtinA, newA, unA, packA, Value.cells, hw0, ty28, hc2, hwb, ty62, hcut, List.toList_toArray]; rfl); first | rfl | exact ⟨rfl, rfl, rfl⟩))
    ((with_reducible first | apply xCa | apply xCd); rfl; (simp only [Nat.reduceEqDiff, Nat.reduceAdd, ↓reduceIte, xBB, stB, opdA, opdO, plainN, omap, val, Value.cells]; exact ⟨rfl, rfl⟩); try rfl)
    apply call_fn
    refine (f29_spec n es ev (2 ^ n - 1) most wo w hglw ((hs.keep hA01).same (by omega) hwo) hc).use (by first | exact Nat.le_refl _ | (simp only [cond_true, cond_false]; omega) | omega | (dsimp only; omega)) (Nat.le_refl _) fun v s2 hv hA2 => ?_
    obtain ⟨ys, hF, hv⟩ := hv
    have hn2 := hA2.nx
    have hgl2 := hglw.keep hA2
    rcases hv with ⟨hlen, rfl⟩ | ⟨hlen, hall, o, lv, rfl, hown⟩
    · refine opt_of rfl ?_
      repeat (first
  | with_reducible first | refine st (by constructor) ?_ | apply c_region
  | (with_reducible apply k_block_on
     · decide)
  | ((with_reducible first | apply xOp | apply xDr | apply xIf); rfl; (simp only [Nat.reduceEqDiff, Nat.reduceAdd, ↓reduceIte, xBB, stG, undef, opA, val, opdA, opdO, plainN, omap, binA, intBinA, loadV, readA, storeV, writeA, fieldAddrA, indexAddrA, lenA, builtinA, newA, unA, packA, Value.cells, List.toList_toArray, List.getElem?_cons_zero, List.getElem?_cons_succ]; rfl); first | rfl | exact ⟨rfl, rfl, rfl⟩))
      ((with_reducible first | apply xCa | apply xCd); rfl; (simp only [Nat.reduceEqDiff, Nat.reduceAdd, ↓reduceIte, xBB, stB, opdA, opdO, plainN, omap, val, Value.cells]; exact ⟨rfl, rfl⟩); try rfl)
      apply call_fn
      refine (f30_spec [] _ s2 hgl2 (Or.inl ⟨rfl, rfl⟩) (fun z h => by cases h) (by simp)).use (by first | exact Nat.le_refl _ | (simp only [cond_true, cond_false]; omega) | omega | (dsimp only; omega)) (Nat.le_refl _) fun v s3 hv hA3 => ?_
      refine opt_of rfl ?_
      repeat (first
  | with_reducible first | refine st (by constructor) ?_ | apply c_region
  | (with_reducible apply k_block_on
     · decide)
  | ((with_reducible first | apply xOp | apply xDr | apply xIf); rfl; (simp only [Nat.reduceEqDiff, Nat.reduceAdd, ↓reduceIte, xBB, stG, undef, opA, val, opdA, opdO, plainN, omap, binA, intBinA, loadV, readA, storeV, writeA, fieldAddrA, indexAddrA, lenA, builtinA, newA, unA, packA, Value.cells]; rfl); first | rfl | exact ⟨rfl, rfl, rfl⟩))
      intro _
      ((with_reducible first | apply ret_i | apply ret_n); (simp only [Nat.reduceEqDiff, Nat.reduceAdd, ↓reduceIte, xBB, resA, opdA, opdO, plainN, omap, val, loadV, readA, packA]; rfl))
      exact Or.inr ⟨hR, ys, hF, v, Or.inl ⟨hlen, rfl, hv.lls⟩⟩
    · refine opt_of rfl ?_
      repeat (first
  | with_reducible first | refine st (by constructor) ?_ | apply c_region
  | (with_reducible apply k_block_on
     · decide)
  | ((with_reducible first | apply xOp | apply xDr | apply xIf); rfl; (simp only [Nat.reduceEqDiff, Nat.reduceAdd, ↓reduceIte, xBB, stG, undef, opA, val, opdA, opdO, plainN, omap, binA, intBinA, loadV, readA, storeV, writeA, fieldAddrA, indexAddrA, lenA, builtinA, newA, unA, packA, Value.cells, List.toList_toArray, List.getElem?_cons_zero, List.getElem?_cons_succ]; rfl); first | rfl | exact ⟨rfl, rfl, rfl⟩))
      ((with_reducible first | apply xCa | apply xCd); rfl; (simp only [Nat.reduceEqDiff, Nat.reduceAdd, ↓reduceIte, xBB, stB, opdA, opdO, plainN, omap, val, Value.cells]; exact ⟨rfl, rfl⟩); try rfl)
      apply call_fn
      refine (f30_spec (srtN ys) _ s2 hgl2 hown.sl (fun z h => ?_) (by rw [srtN_len]; omega)).use (by first | exact Nat.le_refl _ | (simp only [cond_true, cond_false]; omega) | omega | (dsimp only; omega)) (Nat.le_refl _) fun v s3 hv hA3 => ?_
      · unfold srtN at h
        obtain ⟨u, _, rfl⟩ := List.mem_map.1 h
        exact u.2
      refine opt_of rfl ?_
      repeat (first
  | with_reducible first | refine st (by constructor) ?_ | apply c_region
  | (with_reducible apply k_block_on
     · decide)
  | ((with_reducible first | apply xOp | apply xDr | apply xIf); rfl; (simp only [Nat.reduceEqDiff, Nat.reduceAdd, ↓reduceIte, xBB, stG, undef, opA, val, opdA, opdO, plainN, omap, binA, intBinA, loadV, readA, storeV, writeA, fieldAddrA, indexAddrA, lenA, builtinA, newA, unA, packA, Value.cells]; rfl); first | rfl | exact ⟨rfl, rfl, rfl⟩))
      intro _
      ((with_reducible first | apply ret_i | apply ret_n); (simp only [Nat.reduceEqDiff, Nat.reduceAdd, ↓reduceIte, xBB, resA, opdA, opdO, plainN, omap, val, loadV, readA, packA]; rfl))
      exact Or.inr ⟨hR, ys, hF, v, Or.inr ⟨hlen, hall, rfl, hv.old (by omega)⟩⟩
  · have e0 : (restR n es most wo != 0) = true := by simp [hR]
    rw [if_neg hR]
    unfold vL
    repeat (first
  | with_reducible first | refine st (by constructor) ?_ | apply c_region
  | (with_reducible apply k_block_on
     · decide)
  | ((with_reducible first | apply xOp | apply xDr | apply xIf); rfl; (simp only [Nat.reduceEqDiff, Nat.reduceAdd, ↓reduceIte, xBB, stG, undef, opA, val, opdA, opdO, plainN, omap, binA, intBinA, loadV, readA, storeV, writeA, fieldAddrA, indexAddrA, lenA, builtinA, newA, unA, packA, Value.cells, e0, zr62, sz62, hl1, hone, hput, List.toList_toArray, List.getElem?_cons_zero, List.getElem?_cons_succ]; rfl); first | rfl | exact ⟨rfl, rfl, rfl⟩))
    intro _
    ((with_reducible first | apply ret_i | apply ret_n); (simp only [Nat.reduceEqDiff, Nat.reduceAdd, ↓reduceIte, xBB, resA, opdA, opdO, plainN, omap, val, loadV, readA, packA]; rfl))
    exact Or.inl ⟨hR, rfl⟩

/-- The memory of the loop that counts. -/
def J20 (L : ALoop) (l b5 : Nat) (ys : List Nat) (Cs : Nat → Prop) (t : HS) : Prop := Cs = (fun id => id = l ∨ id = b5) ∧ t.hp.get l = some (.loop L) ∧ t.hp.get b5 = some (.cells true 3 [.int .i64 ((1 + ys.length : Nat))]) ∧ ys.length ≤ 1023 ∧ l < t.nx ∧ b5 < t.nx
def Stop20 (l b5 : Nat) (ys : List Nat) (t : HS) : Prop := ys.length = 1024 ∧ (∃ L : ALoop, t.hp.get l = some (.loop L) ∧ L.state = .done ∧ L.pending = some (.exit 0)) ∧ t.hp.get b5 = some (.cells true 3 [.int .i64 1025])

theorem f20_spec [Sorts Tryd.prog] (n : Nat) (es : List (Int × Int)) (ev : Value) (s : HS) (hs : Sl s 2 ev (es.map encE)) :
    wpF Tryd.prog s.nx 20 [vG n ev] s (fun v s' => (checkR n es ≠ 0 ∧ v = .tuple #[.int .i64 0, .int .i64 (checkR n es)]) ∨ (checkR n es = 0 ∧ ∃ ys, Found (HNs n es) (fun _ => true) ys ∧
      ((ys.length = 1024 ∧ v = .tuple #[.int .i64 1025, .int .i64 0]) ∨ (ys.length ≤ 1023 ∧ (∀ S, Gn (HNs n es) (fun _ => true) S → S = 0 ∨ S ∈ ys) ∧ v = .tuple #[.int .i64 ((1 + ys.length : Nat)), .int .i64 0])))) := by
  refine wpF_of Tryd.func20 rfl rfl rfl rfl (Nat.le_refl _) ?_
  simp only [paramsA, vG]
  have hc2 : cutL [Value.int .i64 (n : Int), ev] 0 2 = some [.int .i64 n, ev] := rfl
  have hc1 : ∀ x : Value, cutL [x] 0 1 = some [x] := fun _ => rfl
  have hp1 : ∀ x y : Value, putL [x] 0 [y] = [y] := fun _ _ => rfl
  repeat (first
  | with_reducible first | refine st (by constructor) ?_ | apply c_region
  | (with_reducible apply k_block_on
     · decide)
  | ((with_reducible first | apply xOp | apply xDr | apply xIf); rfl; (simp only [Nat.reduceEqDiff, Nat.reduceAdd, ↓reduceIte, xBB, stG, undef, opA, val, opdA, opdO, plainN, omap, binA, intBinA, loadV, readA, storeV, writeA, fieldAddrA, indexAddrA, lenA, builtinA, newA, unA, packA, Value.cells, sz28, ty28, hc2, List.toList_toArray]; rfl); first | rfl | exact ⟨rfl, rfl, rfl⟩))
  have hA0 := Ab.new (lk := s.nx) s (.cells true 28 [.int .i64 n, ev])
  ((with_reducible first | apply xCa | apply xCd); rfl; (simp only [Nat.reduceEqDiff, Nat.reduceAdd, ↓reduceIte, xBB, stB, opdA, opdO, plainN, omap, val, Value.cells]; exact ⟨rfl, rfl⟩); try rfl)
  apply call_fn
  refine (f36_spec n es ev _ (hs.keep hA0)).use (by first | exact Nat.le_refl _ | (simp only [cond_true, cond_false]; omega) | omega | (dsimp only; omega)) (by first | exact Nat.le_refl _ | (simp only [cond_true, cond_false]; omega) | omega | (dsimp only; omega)) fun v s1 hv hA1 => ?_
  subst hv
  have hn1 := hA1.nx
  dsimp only at hn1
  have hb0 := hA1.get (Nat.le_refl _) (Nat.lt_succ_self s.nx)
  rw [T.get_put_eq] at hb0
  have hA01 := hA0.trans (hA1.lower (Nat.le_succ _) (Nat.le_refl _))
  refine opt_of rfl ?_
  by_cases hc : checkR n es = 0
  · have e0 : (checkR n es != 0) = false := by simp [hc]
    have hg := good_of hc
    have hn64 : n ≤ 64 := by have := hg.hi; omega
    have hl1 : s.nx ≤ s1.nx := by omega
    have o1 : ∀ z : Int, ([Value.int .i64 z] : List Value).all Value.oneCell' = true := fun _ => rfl
    repeat (first
  | with_reducible first | refine st (by constructor) ?_ | apply c_region
  | (with_reducible apply k_block_on
     · decide)
  | ((with_reducible first | apply xOp | apply xDr | apply xIf); rfl; (simp only [Nat.reduceEqDiff, Nat.reduceAdd, ↓reduceIte, xBB, stG, undef, opA, val, opdA, opdO, plainN, omap, binA, intBinA, loadV, readA, storeV, writeA, fieldAddrA, indexAddrA, lenA, builtinA, newA, unA, packA, Value.cells, e0, zr3, sz3, hl1, o1, hp1, List.toList_toArray]; rfl); first | rfl | exact ⟨rfl, rfl, rfl⟩))
    dsimp only
    generalize hst0 : ({ hp := (s1.hp.put s1.nx (some (.cells true 3 [.int .i64 0]))).put s1.nx (some (.cells true 3 [.int .i64 1])), nx := s1.nx + 1 } : HS) = w
    have hwn : w.nx = s1.nx + 1 := by rw [← hst0]
    have hwo : ∀ id, id < s1.nx → w.hp.get id = s1.hp.get id := fun id h => by rw [← hst0]; dsimp only; rw [T.get_put_ne _ _ _ (by omega), T.get_put_ne _ _ _ (by omega)]
    have hwb : w.hp.get s1.nx = some (.cells true 3 [.int .i64 1]) := by rw [← hst0]; exact T.get_put_eq _ _ _
    have hw0 := (hwo s.nx (by omega)).trans hb0
    repeat (first
  | with_reducible first | refine st (by constructor) ?_ | apply c_region
  | (with_reducible apply k_block_on
     · decide)
  | ((with_reducible first | apply xOp | apply xDr | apply xIf); rfl; (simp only [Nat.reduceEqDiff, Nat.reduceAdd, ↓reduceIte, xBB, stG, undef, opA, val, opdA, opdO, plainN, omap, binA, intBinA, loadV, readA, storeV, writeA, fieldAddrA, indexAddrA, lenA, builtinA, newA, unA, packA, Value.cells, hw0, ty28, hc2, List.toList_toArray]; rfl); first | rfl | exact ⟨rfl, rfl, rfl⟩))
    ((with_reducible first | apply xCa | apply xCd); rfl; (simp only [Nat.reduceEqDiff, Nat.reduceAdd, ↓reduceIte, xBB, stB, opdA, opdO, plainN, omap, val, Value.cells]; exact ⟨rfl, rfl⟩); try rfl)
    apply call_fn
    refine (f31_spec n es ev w ((hs.keep hA01).same (by omega) hwo) hc).use (by first | exact Nat.le_refl _ | (simp only [cond_true, cond_false]; omega) | omega | (dsimp only; omega)) (Nat.le_refl _) fun v s2 hv hA2 => ?_
    obtain ⟨oh, hown⟩ := hv
    rw [hullsL_eq] at hown
    have hn2 := hA2.nx
    obtain ⟨hvb, hvc, rfl⟩ := hown.shape
    refine opt_of rfl ?_
    repeat (first
  | with_reducible first | refine st (by constructor) ?_ | apply c_region
  | (with_reducible apply k_block_on
     · decide)
  | ((with_reducible first | apply xOp | apply xDr | apply xIf); rfl; (simp only [Nat.reduceEqDiff, Nat.reduceAdd, ↓reduceIte, xBB, stG, undef, opA, val, opdA, opdO, plainN, omap, binA, intBinA, loadV, readA, storeV, writeA, fieldAddrA, indexAddrA, lenA, builtinA, newA, unA, packA, Value.cells]; rfl); first | rfl | exact ⟨rfl, rfl, rfl⟩))
    ((with_reducible first | apply xCa | apply xCd); rfl; (simp only [Nat.reduceEqDiff, Nat.reduceAdd, ↓reduceIte, xBB, stB, opdA, opdO, plainN, omap, val, Value.cells]; exact ⟨rfl, rfl⟩); try rfl)
    apply call_fn
    refine (f37_spec _ _ s2 rfl rfl).use (by first | exact Nat.le_refl _ | (simp only [cond_true, cond_false]; omega) | omega | (dsimp only; omega)) (Nat.le_refl _) fun v s3 hv hA3 => ?_
    obtain ⟨rfl, hs3⟩ := hv
    have h3n : s3.nx = s2.nx + 2 := by rw [hs3]
    have h3o : ∀ id, id < s2.nx → s3.hp.get id = s2.hp.get id := fun id h => hA3.get (Nat.le_refl _) h
    have h3b : s3.hp.get s2.nx = some (.cells true 65 [.slice hvb ((HNs n es).map encQ).length hvc]) := by rw [hs3]; dsimp only; rw [T.get_put_ne _ _ _ (by omega), T.get_put_eq]; rfl
    have h3a : s3.hp.get (s2.nx + 1) = some (.cells true 70 [.func (.func 38) #[] #[]]) := by rw [hs3]; exact T.get_put_eq _ _ _
    clear hs3
    have hown3 : Own s3 60 1 oh (.slice hvb ((HNs n es).map encQ).length hvc) ((HNs n es).map encQ) := hown.same (by omega) fun id h => h3o id (hown.lt h)
    have hoh : ∀ id, oh = some id → id < s2.nx := fun id h => hown.lt h
    have hb5 := (h3o s1.nx (by omega)).trans ((hA2.get (Nat.le_refl _) (by omega)).trans hwb)
    refine opt_of rfl ?_
    repeat (first
  | with_reducible first | refine st (by constructor) ?_ | apply c_region
  | (with_reducible apply k_block_on
     · decide)
  | ((with_reducible first | apply xOp | apply xDr | apply xIf); rfl; (simp only [Nat.reduceEqDiff, Nat.reduceAdd, ↓reduceIte, xBB, stG, undef, opA, val, opdA, opdO, plainN, omap, binA, intBinA, loadV, readA, storeV, writeA, fieldAddrA, indexAddrA, lenA, builtinA, newA, unA, packA, Value.cells]; rfl); first | rfl | exact ⟨rfl, rfl, rfl⟩))
    refine c_range (g := 56) (fi := []) (ca := [.pointer (some ⟨s2.nx, 0, none⟩), .pointer (some ⟨s2.nx + 1, 0, none⟩)]) (by simp only [Nat.reduceEqDiff, opdA, T.get_put, ↓reduceIte]) fun L hL1 hL2 hL3 hL4 hL5 hL6 hL7 => ?_
    have hf5 : L.fr.get 5 = some (.pointer (some ⟨s1.nx, 0, none⟩)) := by rw [hL1]; simp only [Nat.reduceEqDiff, T.get_put, ↓reduceIte]
    have C : Cons Tryd.prog s.nx s3.nx (fun a => .int .u64 a) (fun x => Gn (HNs n es) (fun _ => true) x ∧ (fun _ => true) x = true ∧ x ≠ 0) (J20 L s3.nx s1.nx) (Stop20 s3.nx s1.nx) := by
      refine ⟨fun {ys Cs t x} hx hxn hJ => ?_, fun {ys Cs t t'} hJ hn hg => ?_, fun {ys Cs t id} hJ hid => ?_, fun {ys Cs t} hJ => ?_⟩
      · obtain ⟨rfl, j1, j2, j3, j4, j5⟩ := hJ
        refine wpRound_of (P := Tryd.prog) (L := L) (fr := L.fr.put 14 (some (.int .u64 x))) (by omega) j1 hL2 hL4 hL5 (by rw [hL3]; rfl) (by rw [hL3, hL2]; rfl) ?_
        repeat (first
  | with_reducible first | refine st (by constructor) ?_ | apply c_region
  | (with_reducible apply k_block_on
     · decide)
  | ((with_reducible first | apply xOp | apply xDr | apply xIf); rfl; (simp only [Nat.reduceEqDiff, Nat.reduceAdd, ↓reduceIte, xBB, stG, undef, opA, val, opdA, opdO, plainN, omap, binA, intBinA, loadV, readA, storeV, writeA, fieldAddrA, indexAddrA, lenA, builtinA, newA, unA, packA, Value.cells]; rfl); first | rfl | exact ⟨rfl, rfl, rfl⟩))
        refine ⟨rfl, L, j1, hL6, ?_⟩
        generalize ht1 : ({ hp := t.hp.put s3.nx (some (.loop (lpBusy L))), nx := t.nx } : HS) = t1
        have h1n : t1.nx = t.nx := by rw [← ht1]
        have h1o : ∀ id, id ≠ s3.nx → t1.hp.get id = t.hp.get id := fun id h => by rw [← ht1]; exact T.get_put_ne _ _ _ h
        have h1l : t1.hp.get s3.nx = some (.loop (lpBusy L)) := by rw [← ht1]; exact T.get_put_eq _ _ _
        have j2' := (h1o s1.nx (by omega)).trans j2
        have hw : IntKind.i64.wrap (((1 + ys.length : Nat) : Int) + 1) = ((1 + (ys.length + 1) : Nat) : Int) := by rw [IntWalk.i64_in _ (by omega)]; omega
        by_cases hfull : ys.length = 1023
        · have e1 : ((1 + (ys.length + 1) : Nat) : Int) > 1024 := by omega
          repeat (first
  | with_reducible first | refine st (by constructor) ?_
  | (with_reducible apply k_block_on
     · decide)
  | ((with_reducible first | apply xOp | apply xDr | apply xIf); rfl; (simp only [Nat.reduceEqDiff, Nat.reduceAdd, ↓reduceIte, xBB, stG, undef, opA, val, opdA, opdO, plainN, omap, binA, intBinA, loadV, readA, storeV, writeA, fieldAddrA, indexAddrA, lenA, builtinA, newA, unA, packA, Value.cells]; rfl); first | rfl | exact ⟨rfl, rfl, rfl⟩))
          refine c_region ?_
          repeat (first
  | with_reducible first | refine st (by constructor) ?_
  | (with_reducible apply k_block_on
     · decide)
  | ((with_reducible first | apply xOp | apply xDr | apply xIf); rfl; (simp only [Nat.reduceEqDiff, Nat.reduceAdd, ↓reduceIte, xBB, stG, undef, opA, val, opdA, opdO, plainN, omap, binA, intBinA, loadV, readA, storeV, writeA, fieldAddrA, indexAddrA, lenA, builtinA, newA, unA, packA, Value.cells, hf5, j2', ty3, sz3, hc1, hw, hl1, o1, hp1, List.toList_toArray]; rfl); first | rfl | exact ⟨rfl, rfl, rfl⟩))
          refine c_region ?_
          repeat (first
  | with_reducible first | refine st (by constructor) ?_
  | (with_reducible apply k_block_on
     · decide)
  | ((with_reducible first | apply xOp | apply xDr | apply xIf); rfl; (simp only [Nat.reduceEqDiff, Nat.reduceAdd, ↓reduceIte, xBB, stG, undef, opA, val, opdA, opdO, plainN, omap, binA, intBinA, loadV, readA, storeV, writeA, fieldAddrA, indexAddrA, lenA, builtinA, newA, unA, packA, Value.cells, hf5, ty3, hc1, e1]; rfl); first | rfl | exact ⟨rfl, rfl, rfl⟩))
          refine ⟨lpBusy L, ?_, Or.inr ⟨rfl, ?_⟩⟩
          · dsimp only; rw [T.get_put_ne _ _ _ (by omega)]; exact h1l
          · refine ⟨by simp [hfull], ⟨_, T.get_put_eq _ _ _, rfl, rfl⟩, ?_⟩
            dsimp only; rw [T.get_put_ne _ _ _ (by omega), T.get_put_eq, hfull]; rfl
        · have e1 : ¬ ((1 + (ys.length + 1) : Nat) : Int) > 1024 := by omega
          repeat (first
  | with_reducible first | refine st (by constructor) ?_
  | (with_reducible apply k_block_on
     · decide)
  | ((with_reducible first | apply xOp | apply xDr | apply xIf); rfl; (simp only [Nat.reduceEqDiff, Nat.reduceAdd, ↓reduceIte, xBB, stG, undef, opA, val, opdA, opdO, plainN, omap, binA, intBinA, loadV, readA, storeV, writeA, fieldAddrA, indexAddrA, lenA, builtinA, newA, unA, packA, Value.cells]; rfl); first | rfl | exact ⟨rfl, rfl, rfl⟩))
          refine c_region ?_
          repeat (first
  | with_reducible first | refine st (by constructor) ?_
  | (with_reducible apply k_block_on
     · decide)
  | ((with_reducible first | apply xOp | apply xDr | apply xIf); rfl; (simp only [Nat.reduceEqDiff, Nat.reduceAdd, ↓reduceIte, xBB, stG, undef, opA, val, opdA, opdO, plainN, omap, binA, intBinA, loadV, readA, storeV, writeA, fieldAddrA, indexAddrA, lenA, builtinA, newA, unA, packA, Value.cells, hf5, j2', ty3, sz3, hc1, hw, hl1, o1, hp1, List.toList_toArray]; rfl); first | rfl | exact ⟨rfl, rfl, rfl⟩))
          refine c_region ?_
          repeat (first
  | with_reducible first | refine st (by constructor) ?_
  | (with_reducible apply k_block_on
     · decide)
  | ((with_reducible first | apply xOp | apply xDr | apply xIf); rfl; (simp only [Nat.reduceEqDiff, Nat.reduceAdd, ↓reduceIte, xBB, stG, undef, opA, val, opdA, opdO, plainN, omap, binA, intBinA, loadV, readA, storeV, writeA, fieldAddrA, indexAddrA, lenA, builtinA, newA, unA, packA, Value.cells, hf5, ty3, hc1, e1]; rfl); first | rfl | exact ⟨rfl, rfl, rfl⟩))
          refine ⟨lpBusy L, ?_, Or.inl ⟨rfl, fun id => id = s3.nx ∨ id = s1.nx, ?_, ?_, ?_, ?_⟩⟩
          · dsimp only; rw [T.get_put_ne _ _ _ (by omega)]; exact h1l
          · refine ⟨rfl, ?_, ?_, ?_, ?_, ?_⟩
            · dsimp only; rw [T.get_put_eq, loop_back hL6 hL7]
            · dsimp only; rw [T.get_put_ne _ _ _ (by omega), T.get_put_eq, List.length_append]; rfl
            · simp; omega
            · show s3.nx < t1.nx; omega
            · show s1.nx < t1.nx; omega
          · show t.nx ≤ t1.nx; omega
          · intro id h; exact Or.inl h
          · intro id h1 h2
            dsimp only
            rw [T.get_put_ne _ _ _ (fun e => h2 (Or.inl e)), T.get_put_ne _ _ _ (fun e => h2 (Or.inr e))]
            exact h1o id fun e => h2 (Or.inl e)
      · obtain ⟨rfl, j1, j2, j3, j4, j5⟩ := hJ
        exact ⟨rfl, (hg _ (Or.inl rfl)).trans j1, (hg _ (Or.inr rfl)).trans j2, j3, by omega, by omega⟩
      · obtain ⟨rfl, j1, j2, j3, j4, j5⟩ := hJ
        rcases hid with h | h <;> omega
      · obtain ⟨rfl, j1, j2, j3, j4, j5⟩ := hJ
        omega
    generalize hs4 : ({ hp := s3.hp.put s3.nx (some (.loop L)), nx := s3.nx + 1 } : HS) = s4
    have h4n : s4.nx = s3.nx + 1 := by rw [← hs4]
    have h4o : ∀ id, id < s3.nx → s4.hp.get id = s3.hp.get id := fun id h => by rw [← hs4]; exact T.get_put_ne _ _ _ (by omega)
    have h4l : s4.hp.get s3.nx = some (.loop L) := by rw [← hs4]; exact T.get_put_eq _ _ _
    have hJ0 : J20 L s3.nx s1.nx [] (fun id => id = s3.nx ∨ id = s1.nx) s4 := ⟨rfl, h4l, (h4o _ (by omega)).trans hb5, by simp, by omega, by omega⟩
    have hhl : (HNs n es).length ≤ 64 := by unfold HNs; simpa using hn64
    refine (f56_spec C hn64 (HNs_lt hg) hhl allow_any (by omega) hJ0 ((h4o _ (by omega)).trans h3b) ((h4o _ (by omega)).trans h3a) (hown3.same (by omega) fun id h => h4o id (hown3.lt h)) (by omega) (by omega) (fun h => ?_) (fun h => ?_) (fun id ho h => ?_)).use (Nat.le_refl _) (by omega) fun v s5 hv hA5 => ?_
    · rcases h with h | h <;> omega
    · rcases h with h | h <;> omega
    · have h5 := hoh id ho
      subst ho
      obtain ⟨cs, h6⟩ := own_get hown3
      rcases h with rfl | rfl
      · omega
      · rw [hb5] at h6; cases h6
    · rcases hv with ⟨ys, Cs', hF, hall, hJ⟩ | ⟨ys, hF, hlen, ⟨L2, j1, j2, j3⟩, j4⟩
      · obtain ⟨rfl, j1, j2, j3, j4, j5⟩ := hJ
        refine opt_of (rf_normal j1 hL6 hL7) ?_
        generalize hs6 : ({ s5 with hp := s5.hp.put s3.nx none } : HS) = s6
        have k2 : s6.hp.get s1.nx = some (.cells true 3 [.int .i64 ((1 + ys.length : Nat))]) := by rw [← hs6]; exact (T.get_put_ne _ _ _ (by omega)).trans j2
        repeat (first
  | with_reducible first | refine st (by constructor) ?_ | apply c_region
  | (with_reducible apply k_block_on
     · decide)
  | ((with_reducible first | apply xOp | apply xDr | apply xIf); rfl; (simp only [Nat.reduceEqDiff, Nat.reduceAdd, ↓reduceIte, xBB, stG, undef, opA, val, opdA, opdO, plainN, omap, binA, intBinA, loadV, readA, storeV, writeA, fieldAddrA, indexAddrA, lenA, builtinA, newA, unA, packA, Value.cells, k2, ty3, hc1]; rfl); first | rfl | exact ⟨rfl, rfl, rfl⟩))
        intro _
        ((with_reducible first | apply ret_i | apply ret_n); (simp only [Nat.reduceEqDiff, Nat.reduceAdd, ↓reduceIte, xBB, resA, opdA, opdO, plainN, omap, val, loadV, readA, packA]; rfl))
        exact Or.inr ⟨hc, ys, hF, Or.inr ⟨j3, hall, rfl⟩⟩
      · refine opt_of (rf_exit j1 j2 j3) ?_
        generalize hs6 : ({ s5 with hp := s5.hp.put s3.nx none } : HS) = s6
        have k2 : s6.hp.get s1.nx = some (.cells true 3 [.int .i64 1025]) := by rw [← hs6]; exact (T.get_put_ne _ _ _ (by omega)).trans j4
        repeat (first
  | with_reducible first | refine st (by constructor) ?_ | apply c_region
  | (with_reducible apply k_block_on
     · decide)
  | ((with_reducible first | apply xOp | apply xDr | apply xIf); rfl; (simp only [Nat.reduceEqDiff, Nat.reduceAdd, ↓reduceIte, xBB, stG, undef, opA, val, opdA, opdO, plainN, omap, binA, intBinA, loadV, readA, storeV, writeA, fieldAddrA, indexAddrA, lenA, builtinA, newA, unA, packA, Value.cells, k2, ty3, hc1]; rfl); first | rfl | exact ⟨rfl, rfl, rfl⟩))
        intro _
        ((with_reducible first | apply ret_i | apply ret_n); (simp only [Nat.reduceEqDiff, Nat.reduceAdd, ↓reduceIte, xBB, resA, opdA, opdO, plainN, omap, val, loadV, readA, packA]; rfl))
        exact Or.inr ⟨hc, ys, hF, Or.inl ⟨hlen, rfl⟩⟩
  · have e0 : (checkR n es != 0) = true := by simp [hc]
    repeat (first
  | with_reducible first | refine st (by constructor) ?_ | apply c_region
  | (with_reducible apply k_block_on
     · decide)
  | ((with_reducible first | apply xOp | apply xDr | apply xIf); rfl; (simp only [Nat.reduceEqDiff, Nat.reduceAdd, ↓reduceIte, xBB, stG, undef, opA, val, opdA, opdO, plainN, omap, binA, intBinA, loadV, readA, storeV, writeA, fieldAddrA, indexAddrA, lenA, builtinA, newA, unA, packA, Value.cells, e0]; rfl); first | rfl | exact ⟨rfl, rfl, rfl⟩))
    intro _
    ((with_reducible first | apply ret_i | apply ret_n); (simp only [Nat.reduceEqDiff, Nat.reduceAdd, ↓reduceIte, xBB, resA, opdA, opdO, plainN, omap, val, loadV, readA, packA]; rfl))
    exact Or.inl ⟨hc, rfl⟩
end Go.Ev

/- Plain laws: graphs without edges. -/
set_option linter.unusedSimpArgs false
set_option linter.unusedVariables false
namespace Go.Ev
open Go

theorem hullN_nil (a : Nat) : ∀ k, hullN [] k a = a
  | 0 => rfl
  | k + 1 => by show hullRound [] (hullN [] k a) = a; rw [hullN_nil a k]; rfl
theorem HNs_nil (n : Nat) : HNs n [] = (List.range n).map (2 ^ ·) := by
  unfold HNs
  refine List.map_congr_left fun i _ => ?_
  unfold HN
  exact hullN_nil _ _
theorem mem_HNs_nil {n h : Nat} : h ∈ HNs n [] ↔ ∃ i, i < n ∧ h = 2 ^ i := by
  rw [HNs_nil, List.mem_map]
  constructor
  · rintro ⟨i, h1, rfl⟩; exact ⟨i, List.mem_range.1 h1, rfl⟩
  · rintro ⟨i, h1, rfl⟩; exact ⟨i, List.mem_range.2 h1, rfl⟩
theorem HNs_nil_lt {n : Nat} : ∀ h ∈ HNs n [], h < 2 ^ n := fun h hm => by
  obtain ⟨i, h1, rfl⟩ := mem_HNs_nil.1 hm
  exact Nat.pow_lt_pow_right (by decide) h1

theorem low_split {S k : Nat} (h : Low S k) : (S &&& (S - 1)) ||| 2 ^ k = S := by
  refine Nat.eq_of_testBit_eq fun j => ?_
  rw [setBit, h.and_pred]
  by_cases hj : j = k
  · subst hj; rw [h.1]; simp
  · simp [hj]
/-- Without edges each set is made of its nodes. -/
theorem gn_all {n : Nat} {al : Nat → Bool} : ∀ {S : Nat}, S < 2 ^ n → (∀ T, T ≠ 0 → T ≤ S → al T = true) → Gn (HNs n []) al S := by
  intro S
  induction S using Nat.strongRecOn with
  | _ S ih =>
    intro hS hal
    by_cases h0 : S = 0
    · rw [h0]; exact .zero
    · obtain ⟨k, hk⟩ := low_ex S h0
      have h1 := ih (S &&& (S - 1)) hk.less (Nat.lt_trans hk.less hS) fun T h2 h3 => hal T h2 (by have := hk.less; omega)
      have h2 := low_split hk
      have := Gn.step (hs := HNs n []) (al := al) h1 (mem_HNs_nil.2 ⟨k, hk.lt hS, rfl⟩) (by rw [h2]; exact hal S h0 (Nat.le_refl _))
      rwa [h2] at this

theorem sub_len : ∀ {l ys : List Nat}, List.Nodup l → (∀ x ∈ l, x ∈ ys) → l.length ≤ ys.length := by
  intro l
  induction l with
  | nil => intro ys _ _; exact Nat.zero_le _
  | cons x l ih =>
    intro ys hn hs
    obtain ⟨h1, h2⟩ := List.nodup_cons.1 hn
    have hx := hs x List.mem_cons_self
    have := ih (ys := ys.erase x) h2 fun y hy => (List.mem_erase_of_ne (by rintro rfl; exact h1 hy)).2 (hs y (List.mem_cons_of_mem _ hy))
    rw [List.length_erase_of_mem hx] at this
    have := List.length_pos_of_mem hx
    rw [List.length_cons]; omega
theorem range_nodup (B : Nat) : List.Nodup ((List.range B).map (· + 1)) := by
  refine List.Pairwise.map _ (fun a b h => ?_) List.nodup_range
  intro e; exact h (by omega)
theorem most_len {ys : List Nat} {B : Nat} (hn : List.Nodup ys) (h : ∀ y ∈ ys, y ≠ 0 ∧ y ≤ B) : ys.length ≤ B := by
  have := nodup_len (b := B + 1) (l := 0 :: ys) (List.nodup_cons.2 ⟨fun h0 => (h 0 h0).1 rfl, hn⟩) fun x hx => by
    rcases List.mem_cons.1 hx with rfl | hx
    · omega
    · have := (h x hx).2; omega
  rw [List.length_cons] at this; omega
theorem least_len {ys : List Nat} {B : Nat} (h : ∀ y, y ≠ 0 → y ≤ B → y ∈ ys) : B ≤ ys.length := by
  have := sub_len (range_nodup B) fun x hx => by
    obtain ⟨y, hy, rfl⟩ := List.mem_map.1 hx
    have := List.mem_range.1 hy
    exact h (y + 1) (by omega) (by omega)
  simpa using this
theorem pow_big {n : Nat} (h : n > 10) : 2048 ≤ 2 ^ n := by
  have : (2 : Nat) ^ 11 ≤ 2 ^ n := Nat.pow_le_pow_right (by decide) h
  simpa using this
theorem pow_small {n : Nat} (h : n ≤ 10) : 2 ^ n ≤ 1024 := by
  have : (2 : Nat) ^ n ≤ 2 ^ 10 := Nat.pow_le_pow_right (by decide) h
  simpa using this

theorem allow_not {n a : Nat} : allowB (2 ^ n - 1) 0 (-1) a = decide (a ≠ 2 ^ n - 1) := by
  unfold allowB
  simp

/-- All sets but none and all. -/
theorem lim1 {n : Nat} {ys : List Nat} (hF : Found (HNs n []) (allowB (2 ^ n - 1) 0 (-1)) ys) : (n ≤ 10 → ys.length ≤ 1022) ∧ ((∀ S, Gn (HNs n []) (allowB (2 ^ n - 1) 0 (-1)) S → S = 0 ∨ S ∈ ys) → (n > 10 → ys.length > 1024) ∧ (n ≤ 10 → ys.length = 2 ^ n - 2)) := by
  have hp : 0 < 2 ^ n := Nat.pow_pos (by decide)
  have hb : ∀ y ∈ ys, y ≠ 0 ∧ y ≤ 2 ^ n - 2 := fun y hy => by
    obtain ⟨h1, h2, h3⟩ := hF.2 y hy
    have h4 := h1.lt HNs_nil_lt
    rw [allow_not, decide_eq_true_eq] at h2
    omega
  have hle := most_len hF.1 hb
  refine ⟨fun hn => by have := pow_small hn; omega, fun hall => ?_⟩
  have hall' : ∀ y, y ≠ 0 → y ≤ 2 ^ n - 2 → y ∈ ys := fun y h1 h2 => by
    rcases hall y (gn_all (by omega) fun T h3 h4 => by rw [allow_not, decide_eq_true_eq]; omega) with h | h
    · exact absurd h h1
    · exact h
  refine ⟨fun hn => ?_, fun hn => ?_⟩
  · have := pow_big hn
    have := least_len (B := 1025) fun y h1 h2 => hall' y h1 (by omega)
    omega
  · have := least_len hall'
    omega

theorem ones_single {i : Nat} (hi : i < 64) : onesI (2 ^ i) = 1 := by
  have := ones_pair hi hi
  rw [Nat.or_self, if_pos rfl] at this
  exact this
theorem pow_inj {i j : Nat} (h : 2 ^ i = 2 ^ j) : i = j := by
  rcases Nat.lt_trichotomy i j with h1 | h1 | h1
  · have := Nat.pow_lt_pow_right (a := 2) (by decide) h1; omega
  · exact h1
  · have := Nat.pow_lt_pow_right (a := 2) (by decide) h1; omega
theorem pow_all {n i : Nat} (hi : i < n) : 2 ^ i = 2 ^ n - 1 ↔ n = 1 := by
  constructor
  · intro h
    have h1 : 2 ^ (i + 1) ≤ 2 ^ n := Nat.pow_le_pow_right (by decide) hi
    rw [Nat.pow_succ] at h1
    have h0 : 0 < 2 ^ i := Nat.pow_pos (by decide)
    have h2 : 2 ^ i = 1 := by omega
    have h3 : i = 0 := pow_inj (j := 0) h2
    have h4 : 2 ^ n = 2 ^ 1 := by rw [h2] at h; omega
    exact pow_inj h4
  · rintro rfl
    obtain rfl : i = 0 := by omega
    rfl
theorem allow_one {n i : Nat} (hn : n ≤ 64) (hi : i < n) {most : Int} (hm : 0 ≤ most) : allowB (2 ^ n - 1) most (-1) (2 ^ i) = decide (n ≠ 1) := by
  unfold allowB
  rw [ones_single (by omega)]
  have h1 : (decide (most = 0) || decide ((1 : Int) ≤ most)) = true := by simp; omega
  have h2 : decide ((-1 : Int) < 0) = true := by decide
  rw [h1, h2, Bool.true_or, Bool.and_true, Bool.and_true]
  congr 1
  rw [ne_eq, ne_eq, pow_all hi]

/-- Single nodes. -/
theorem gn_one {n : Nat} (hn : n ≤ 64) {S : Nat} (h : Gn (HNs n []) (allowB (2 ^ n - 1) 1 (-1)) S) : S = 0 ∨ ∃ i, i < n ∧ S = 2 ^ i := by
  induction h with
  | zero => exact Or.inl rfl
  | step _ hh ha ih =>
    right
    obtain ⟨j, hj, rfl⟩ := mem_HNs_nil.1 hh
    rcases ih with rfl | ⟨i, hi, rfl⟩
    · exact ⟨j, hj, Nat.zero_or _⟩
    · by_cases hij : i = j
      · subst hij; exact ⟨i, hi, Nat.or_self _⟩
      · exfalso
        have h1 := ones_pair (i := i) (j := j) (by omega) (by omega)
        rw [if_neg hij] at h1
        unfold allowB at ha
        rw [h1] at ha
        simp at ha
theorem lim2 {n : Nat} (hn : n ≤ 64) {ys : List Nat} (hF : Found (HNs n []) (allowB (2 ^ n - 1) 1 (-1)) ys) : ys.length ≤ n ∧ ((∀ S, Gn (HNs n []) (allowB (2 ^ n - 1) 1 (-1)) S → S = 0 ∨ S ∈ ys) → n > 1 → ys.length = n) := by
  have h1 : ∀ y ∈ ys, y ∈ (List.range n).map (2 ^ ·) := fun y hy => by
    obtain ⟨h1, h2, h3⟩ := hF.2 y hy
    rcases gn_one hn h1 with h | ⟨i, hi, rfl⟩
    · exact absurd h h3
    · exact List.mem_map.2 ⟨i, List.mem_range.2 hi, rfl⟩
  have hle := sub_len hF.1 h1
  rw [List.length_map, List.length_range] at hle
  refine ⟨hle, fun hall hn1 => ?_⟩
  have hnd : List.Nodup ((List.range n).map (2 ^ ·)) := List.Pairwise.map _ (fun a b h e => h (pow_inj e)) List.nodup_range
  have := sub_len (ys := ys) hnd fun x hx => by
    obtain ⟨i, hi, rfl⟩ := List.mem_map.1 hx
    have hi' := List.mem_range.1 hi
    have hg : Gn (HNs n []) (allowB (2 ^ n - 1) 1 (-1)) (0 ||| 2 ^ i) := .step .zero (mem_HNs_nil.2 ⟨i, hi', rfl⟩) (by rw [Nat.zero_or, allow_one hn hi' (by decide), decide_eq_true_eq]; omega)
    rw [Nat.zero_or] at hg
    rcases hall _ hg with h | h
    · have : 0 < 2 ^ i := Nat.pow_pos (by decide)
      omega
    · exact h
  rw [List.length_map, List.length_range] at this
  omega

/-- All sets but none. -/
theorem lim3 {n : Nat} {ys : List Nat} (hF : Found (HNs n []) (fun _ => true) ys) : (n ≤ 10 → ys.length ≤ 1023) ∧ ((∀ S, Gn (HNs n []) (fun _ => true) S → S = 0 ∨ S ∈ ys) → (n > 10 → ys.length > 1023) ∧ (n ≤ 10 → ys.length = 2 ^ n - 1)) := by
  have hp : 0 < 2 ^ n := Nat.pow_pos (by decide)
  have hb : ∀ y ∈ ys, y ≠ 0 ∧ y ≤ 2 ^ n - 1 := fun y hy => by
    obtain ⟨h1, h2, h3⟩ := hF.2 y hy
    have h4 := h1.lt HNs_nil_lt
    omega
  have hle := most_len hF.1 hb
  refine ⟨fun hn => by have := pow_small hn; omega, fun hall => ?_⟩
  have hall' : ∀ y, y ≠ 0 → y ≤ 2 ^ n - 1 → y ∈ ys := fun y h1 h2 => by
    rcases hall y (gn_all (by omega) fun T h3 h4 => rfl) with h | h
    · exact absurd h h1
    · exact h
  refine ⟨fun hn => ?_, fun hn => ?_⟩
  · have := pow_big hn
    have := least_len (B := 1024) fun y h1 h2 => hall' y h1 (by omega)
    omega
  · have := least_len hall'
    omega

theorem low_pow (i : Nat) : Low (2 ^ i) i ∧ 2 ^ i &&& (2 ^ i - 1) = 0 := by
  obtain ⟨k, hk⟩ := low_ex (2 ^ i) (by have : 0 < 2 ^ i := Nat.pow_pos (by decide); omega)
  have h1 := hk.1
  rw [Nat.testBit_two_pow] at h1
  have h2 : i = k := by simpa using h1
  subst h2
  refine ⟨hk, Nat.eq_of_testBit_eq fun j => ?_⟩
  rw [hk.and_pred, Nat.testBit_two_pow, Nat.zero_testBit]
  by_cases hj : j = i
  · simp [hj]
  · simp [hj, Ne.symm hj]
theorem nodes_pow {i : Nat} (hi : i < 64) : nodesL (2 ^ i) 64 = [(i : Int)] := by
  obtain ⟨h1, h2⟩ := low_pow i
  rw [h1.nodes64 (Nat.pow_lt_pow_right (by decide) hi), h2, nodesL_zero]
theorem cmpS_pow {i : Nat} (h0 : 0 < i) (hi : i < 64) : ¬ cmpS (2 ^ i) 1 < 0 := by
  unfold cmpS
  rw [ones_single hi, show (1 : Nat) = 2 ^ 0 from rfl, ones_single (by decide), nodes_pow hi, nodes_pow (by decide)]
  rw [orI_two, cmpI_eq, if_neg (by simp), cmpL]
  have h1 : cmpI (i : Int) ((0 : Nat) : Int) = 1 := by unfold cmpI; rw [if_neg (by omega), if_pos (by omega)]
  rw [h1]; decide
/-- The least is the first node. -/
theorem lim4 {n : Nat} (hn : n ≤ 64) {most : Int} (hm : 0 ≤ most) : leastL (2 ^ n - 1) most (-1) (HNs n []) = if n > 1 then (1, true) else (0, false) := by
  rw [HNs_nil]
  have key : ∀ k, k ≤ n → n > 1 → leastL (2 ^ n - 1) most (-1) ((List.range k).map (2 ^ ·)) = if k > 0 then (1, true) else (0, false) := by
    intro k
    induction k with
    | zero => intro _ _; rfl
    | succ k ih =>
      intro hk hn1
      have ih' := ih (by omega) hn1
      unfold leastL at ih' ⊢
      rw [List.range_succ, List.map_append, List.foldl_append, ih']
      show leastStep (2 ^ n - 1) most (-1) _ (2 ^ k) = _
      unfold leastStep
      rw [allow_one hn (by omega) hm, decide_eq_true (show n ≠ 1 by omega), Bool.true_and, if_pos (show k + 1 > 0 by omega)]
      by_cases hk0 : k > 0
      · rw [if_pos hk0, decide_eq_false (cmpS_pow hk0 (by omega))]
        rfl
      · obtain rfl : k = 0 := by omega
        rfl
  by_cases hn1 : n > 1
  · rw [key n (Nat.le_refl _) hn1, if_pos (by omega), if_pos hn1]
  · rw [if_neg hn1]
    have : n = 0 ∨ n = 1 := by omega
    rcases this with rfl | rfl
    · rfl
    · show leastStep (2 ^ 1 - 1) most (-1) (0, false) (2 ^ 0) = _
      unfold leastStep
      rw [allow_one (n := 1) (by decide) (by decide) hm]
      rfl
end Go.Ev

/- Plain laws: the candidates in their order. -/
set_option linter.unusedSimpArgs false
set_option linter.unusedVariables false
namespace Go.Ev
open Go Go.Proofs Go.Sort

theorem sorted_ext {α : Type} {R : α → α → Prop} (ha : ∀ a b, R a b → ¬ R b a) : ∀ {l m : List α}, l.Pairwise R → m.Pairwise R → (∀ x, x ∈ l ↔ x ∈ m) → l = m := by
  have hirr : ∀ a, ¬ R a a := fun a h => ha a a h h
  intro l
  induction l with
  | nil =>
    intro m _ _ h
    exact (List.eq_nil_iff_forall_not_mem.2 fun x hx => by have := (h x).2 hx; cases this).symm
  | cons a l ih =>
    intro m h1 h2 h
    cases m with
    | nil => have := (h a).1 List.mem_cons_self; cases this
    | cons b m =>
      obtain ⟨p1, p2⟩ := List.pairwise_cons.1 h1
      obtain ⟨q1, q2⟩ := List.pairwise_cons.1 h2
      have hab : a = b := by
        rcases List.mem_cons.1 ((h a).1 List.mem_cons_self) with e | e
        · exact e
        · rcases List.mem_cons.1 ((h b).2 List.mem_cons_self) with e' | e'
          · exact e'.symm
          · exact absurd (q1 a e) (ha _ _ (p1 b e'))
      subst hab
      rw [ih p2 q2 fun x => ?_]
      constructor
      · intro hx
        rcases List.mem_cons.1 ((h x).1 (List.mem_cons_of_mem _ hx)) with e | e
        · subst e; exact absurd (p1 _ hx) (hirr _)
        · exact e
      · intro hx
        rcases List.mem_cons.1 ((h x).2 (List.mem_cons_of_mem _ hx)) with e | e
        · subst e; exact absurd (q1 _ hx) (hirr _)
        · exact e

/-! ### The order of lists -/
def ordL (a b : List Int) : Int := orI [cmpI (a.length : Int) (b.length : Int), cmpL a b]
theorem ordL_O : CmpO ordL := by
  have h := lex_O (α := List Int) cmpI_O cmpL_O (fun l => (l.length : Int)) (fun l => l) fun x y _ h => h
  exact h
theorem ltL_cmp : ∀ a b : List Int, a.length = b.length → ltL a b = decide (cmpL a b < 0)
  | [], [], _ => rfl
  | [], _ :: _, h => by simp at h
  | _ :: _, [], h => by simp at h
  | x :: xs, y :: ys, h => by
    rw [ltL, cmpL]
    rcases cmpI_cases x y with ⟨h1, h2, _⟩ | ⟨h1, h2, _⟩ | ⟨h1, h2, _⟩
    · rw [h2, if_pos (by omega), if_pos (by decide), decide_eq_true h1]; rfl
    · rw [h2, if_neg (by omega), if_neg (by decide)]; exact ltL_cmp xs ys (by simpa using h)
    · rw [h2, if_pos (by omega), if_pos (by decide), decide_eq_false (by omega)]; rfl
theorem before_ord (a b : List Int) : beforeB a b = decide (ordL a b < 0) := by
  unfold beforeB ordL
  rw [orI_two]
  rcases cmpI_cases (a.length : Int) (b.length : Int) with ⟨h1, h2, _⟩ | ⟨h1, h2, _⟩ | ⟨h1, h2, _⟩
  · rw [h2, if_pos (by omega), if_pos (by decide), decide_eq_true (by omega)]; rfl
  · rw [h2, if_neg (by omega), if_neg (by decide)]; exact ltL_cmp a b (by omega)
  · rw [h2, if_pos (by omega), if_pos (by decide), decide_eq_false (by omega)]; rfl
def Bef (a b : List Int) : Prop := ordL a b < 0
theorem Bef.asymm {a b : List Int} (h : Bef a b) : ¬ Bef b a := fun h' => by
  unfold Bef at *
  have := ordL_O.anti a b; omega
theorem Bef.trans {a b c : List Int} (h : Bef a b) (h' : Bef b c) : Bef a c := ordL_O.trans _ _ _ h h'
theorem bef_of_not {a b : List Int} (h : ¬ Bef a b) (hne : a ≠ b) : Bef b a := by
  unfold Bef at *
  have h1 := ordL_O.anti a b
  have h2 : ordL a b ≠ 0 := fun h2 => hne (ordL_O.zero _ _ h2)
  omega
theorem bef_len {a b : List Int} (h : a.length < b.length) : Bef a b := by
  unfold Bef ordL
  rw [orI_two]
  rcases cmpI_cases (a.length : Int) (b.length : Int) with ⟨h1, h2, _⟩ | ⟨h1, h2, _⟩ | ⟨h1, h2, _⟩
  · rw [h2, if_pos (by decide)]; decide
  · omega
  · omega

/-! ### The model's candidates stand in order -/
theorem posB_spec (l : List Int) (out : List (List Int)) : ∀ m, (∀ i, posB l out m ≤ i → i < m → Bef l (out.getD i [])) ∧ (posB l out m = 0 ∨ ¬ Bef l (out.getD (posB l out m - 1) []))
  | 0 => ⟨fun i _ h => by omega, Or.inl rfl⟩
  | m + 1 => by
    obtain ⟨h1, h2⟩ := posB_spec l out m
    unfold posB
    rw [before_ord]
    by_cases h : ordL l (out.getD m []) < 0
    · rw [decide_eq_true h, if_pos rfl]
      refine ⟨fun i a b => ?_, h2⟩
      by_cases him : i = m
      · subst him; exact h
      · exact h1 i a (by omega)
    · rw [decide_eq_false h, if_neg (by decide)]
      exact ⟨fun i a b => by omega, Or.inr h⟩
theorem insB_sorted {l : List Int} {out : List (List Int)} (h : out.Pairwise Bef) (hl : l ∉ out) : (insB l out).Pairwise Bef := by
  obtain ⟨h1, h2⟩ := posB_spec l out out.length
  have h3 := posB_le l out out.length
  unfold insB
  generalize posB l out out.length = p at *
  have hgd : ∀ i (hi : i < out.length), out.getD i [] = out[i] := fun i hi => by rw [List.getD_eq_getElem?_getD, List.getElem?_eq_getElem hi]; rfl
  have hpw := List.pairwise_iff_getElem.1 h
  have ha : ∀ a ∈ out.take p, Bef a l := fun a ha => by
    obtain ⟨i, hi, rfl⟩ := List.mem_iff_getElem.1 ha
    rw [List.length_take] at hi
    rw [List.getElem_take]
    rcases h2 with h2 | h2
    · omega
    · rw [hgd (p - 1) (by omega)] at h2
      have h4 := bef_of_not h2 fun e => hl (e ▸ List.getElem_mem _)
      by_cases hip : i = p - 1
      · subst hip; exact h4
      · exact (hpw i (p - 1) (by omega) (by omega) (by omega)).trans h4
  have hb : ∀ b ∈ out.drop p, Bef l b := fun b hb => by
    obtain ⟨i, hi, rfl⟩ := List.mem_iff_getElem.1 hb
    rw [List.length_drop] at hi
    rw [List.getElem_drop]
    have := h1 (p + i) (by omega) (by omega)
    rw [hgd _ (by omega)] at this
    exact this
  rw [List.pairwise_append, List.pairwise_cons]
  refine ⟨List.Pairwise.sublist (List.take_sublist _ _) h, ⟨hb, List.Pairwise.sublist (List.drop_sublist _ _) h⟩, fun a h5 b h6 => ?_⟩
  rcases List.mem_cons.1 h6 with rfl | h6
  · exact ha a h5
  · exact (ha a h5).trans (hb b h6)
theorem candU_sorted {es : List (Int × Int)} {most wo : Int} : ∀ k, k < 2 ^ 62 → (candU es most wo k).Pairwise Bef
  | 0, _ => List.Pairwise.nil
  | k + 1, hk => by
    unfold candU
    split
    · refine insB_sorted (candU_sorted k (by omega)) fun h => ?_
      obtain ⟨S, h1, h2, _, h3⟩ := (candU_mem k).1 h
      have := nodesL_inj (n := 62) hk (show S < 2 ^ 62 by omega) h3
      omega
    · exact candU_sorted k (by omega)

/-! ### What is found stands in order -/
theorem srt_sorted {ys : List Nat} (hn : ys.Nodup) (hy : ∀ y ∈ ys, y < 1024) : ((srtN ys).map fun a => nodesL a 64).Pairwise Bef ∧ ∀ x, x ∈ srtN ys ↔ x ∈ ys := by
  have hy64 : ∀ y ∈ ys, y < 18446744073709551616 := fun y h => Nat.lt_of_lt_of_le (hy y h) (by decide)
  have hv : ∀ y ∈ ys, (toU y).1 = y := fun y h => Nat.mod_eq_of_lt (hy64 y h)
  have hmem : ∀ u, u ∈ srt cfS (ys.map toU) ↔ u ∈ ys.map toU := fun u => by unfold srt; exact List.mem_mergeSort
  have hswo := cfS_O
  have hs1 : (srt cfS (ys.map toU)).Pairwise fun x y => (!(ltOf cfS) y x) = true := by
    unfold srt
    refine List.pairwise_mergeSort (fun a b c h1 h2 => ?_) (fun a b => ?_) _
    · have hsw := cfS_O.swo
      simp only [Bool.not_eq_true'] at *
      exact hsw.ntrans _ _ _ h2 h1
    · unfold ltOf
      have := cfS_O.anti a b
      simp only [Bool.or_eq_true, Bool.not_eq_true', decide_eq_false_iff_not]
      omega
  have hnd : (srt cfS (ys.map toU)).Nodup := by
    unfold srt
    refine (List.mergeSort_perm _ _).nodup_iff.2 ?_
    refine List.pairwise_map.2 (List.Pairwise.imp_of_mem (R := (· ≠ ·)) (fun {a b} h1 h2 h3 e => h3 ?_) hn)
    rw [← hv a h1, ← hv b h2, e]
  have hb : ∀ u ∈ srt cfS (ys.map toU), u.1 < 1024 := fun u hu => by
    obtain ⟨y, h1, rfl⟩ := List.mem_map.1 ((hmem u).1 hu)
    rw [hv y h1]; exact hy y h1
  refine ⟨?_, fun x => ?_⟩
  · unfold srtN
    rw [List.map_map, List.pairwise_map]
    refine List.Pairwise.imp_of_mem (fun {a b} h1 h2 h3 => ?_) (hs1.and hnd)
    obtain ⟨h4, h5⟩ := h3
    have h6 : cfS a b < 0 := by
      unfold ltOf at h4
      simp only [Bool.not_eq_true', decide_eq_false_iff_not] at h4
      have h7 : cfS a b ≠ 0 := fun h => h5 (cfS_O.zero _ _ h)
      have := cfS_O.anti a b
      omega
    unfold cfS cmpS at h6
    rw [ones_eq (hb a h1), ones_eq (hb b h2), ← nodesL_card, ← nodesL_card] at h6
    exact h6
  · unfold srtN
    rw [List.mem_map]
    constructor
    · rintro ⟨u, hu, rfl⟩
      obtain ⟨y, h1, rfl⟩ := List.mem_map.1 ((hmem u).1 hu)
      rw [hv y h1]; exact h1
    · intro hx
      exact ⟨toU x, (hmem _).2 (List.mem_map.2 ⟨x, hx, rfl⟩), hv x hx⟩

/-! ### What is made of hulls is what is closed -/
theorem closedB_or {es : List (Int × Int)} {a b : Nat} (ha : closedB es a = true) (hb : closedB es b = true) : closedB es (a ||| b) = true := by
  rw [closedB_iff] at *
  intro e he h
  rw [Nat.testBit_or, Bool.or_eq_true] at *
  rcases h with h | h
  · exact Or.inl (ha e he h)
  · exact Or.inr (hb e he h)
theorem Gn.closed {n : Nat} {es : List (Int × Int)} (hg : GoodG n es) {al : Nat → Bool} {S : Nat} (h : Gn (HNs n es) al S) : closedB es S = true := by
  induction h with
  | zero => rw [closedB_iff]; intro e he h; rw [Nat.zero_testBit] at h; cases h
  | step _ hh _ ih =>
    obtain ⟨i, hi, rfl⟩ := List.mem_map.1 hh
    exact closedB_or ih (HN_closed hg (List.mem_range.1 hi))
theorem gn_of {n : Nat} {es : List (Int × Int)} (hg : GoodG n es) {al : Nat → Bool} {S : Nat} (hS : S < 2 ^ n) (hc : closedB es S = true) (hal : ∀ T, T ≠ 0 → (∀ j, T.testBit j = true → S.testBit j = true) → al T = true) : Gn (HNs n es) al S := by
  have key : ∀ k, k ≤ n → ∃ T, Gn (HNs n es) al T ∧ (∀ j, T.testBit j = true → S.testBit j = true) ∧ ∀ i, i < k → S.testBit i = true → T.testBit i = true := by
    intro k
    induction k with
    | zero => intro _; exact ⟨0, .zero, fun j h => (by rw [Nat.zero_testBit] at h; cases h), fun i h => (by omega)⟩
    | succ k ih =>
      intro hk
      obtain ⟨T, h1, h2, h3⟩ := ih (by omega)
      by_cases hb : S.testBit k = true
      · have hsub : ∀ j, (T ||| HN n es k).testBit j = true → S.testBit j = true := fun j h => by
          rw [Nat.testBit_or, Bool.or_eq_true] at h
          rcases h with h | h
          · exact h2 j h
          · exact closedB_hull hg hc (by omega) hb h
        have hself := HN_self hg (show k < n by omega)
        refine ⟨T ||| HN n es k, .step h1 (List.mem_map.2 ⟨k, List.mem_range.2 (by omega), rfl⟩) (hal _ (fun e => ?_) hsub), hsub, fun i hi h => ?_⟩
        · have : (T ||| HN n es k).testBit k = true := by rw [Nat.testBit_or, hself, Bool.or_true]
          rw [e, Nat.zero_testBit] at this; cases this
        · rw [Nat.testBit_or]
          by_cases hik : i = k
          · subst hik; rw [hself, Bool.or_true]
          · rw [h3 i (by omega) h, Bool.true_or]
      · refine ⟨T, h1, h2, fun i hi h => ?_⟩
        by_cases hik : i = k
        · subst hik; exact absurd h hb
        · exact h3 i (by omega) h
  obtain ⟨T, h1, h2, h3⟩ := key n (Nat.le_refl _)
  have : T = S := Nat.eq_of_testBit_eq fun j => by
    cases hb : S.testBit j with
    | true => exact h3 j (testBit_lt hS hb) hb
    | false =>
      cases hb2 : T.testBit j with
      | false => rfl
      | true => rw [h2 j hb2] at hb; cases hb
  rw [← this]; exact h1
/-- What lies in a candidate is one, if closed. -/
theorem isC_sub {n : Nat} {es : List (Int × Int)} {most wo : Int} {S T : Nat} (h : isC n es most wo S) (h0 : T ≠ 0) (hsub : ∀ j, T.testBit j = true → S.testBit j = true) : T < 2 ^ n ∧ T ≠ 2 ^ n - 1 ∧ (most = 0 ∨ (cardN T n : Int) ≤ most) ∧ (wo < 0 ∨ T.testBit wo.toNat = false) := by
  obtain ⟨h1, h2, h3, h4, h5, h6⟩ := h
  have hlt : T < 2 ^ n := Nat.lt_pow_two_of_testBit _ fun i hi => by
    cases hb : T.testBit i with
    | false => rfl
    | true => have := testBit_lt h2 (hsub i hb); omega
  refine ⟨hlt, fun e => h4 ?_, ?_, ?_⟩
  · refine card_all h2 ?_
    have a := card_sub (n := n) hsub
    rw [e, card_full] at a
    have b := cardN_le S n
    omega
  · rcases h5 with h5 | h5
    · exact Or.inl h5
    · have a := card_sub (n := n) hsub
      exact Or.inr (by omega)
  · rcases h6 with h6 | h6
    · exact Or.inl h6
    · refine Or.inr ?_
      cases hb : T.testBit wo.toNat with
      | false => rfl
      | true => rw [hsub _ hb] at h6; cases h6

theorem found_iff {n : Nat} {es : List (Int × Int)} (hg : GoodG n es) {most wo : Int} (hn : n ≤ 10) (hm : 0 ≤ most) {ys : List Nat} (hF : Found (HNs n es) (allowB (2 ^ n - 1) most wo) ys) :
    (∀ y ∈ ys, isC n es most wo y) ∧ ((∀ S, Gn (HNs n es) (allowB (2 ^ n - 1) most wo) S → S = 0 ∨ S ∈ ys) → ∀ S, isC n es most wo S → S ∈ ys) := by
  refine ⟨fun y hy => ?_, fun hall S hS => ?_⟩
  · obtain ⟨h1, h2, h3⟩ := hF.2 y hy
    exact (isC_iff hn hm).2 ⟨h3, h1.lt (HNs_lt hg), h1.closed hg, h2⟩
  · have hgn : Gn (HNs n es) (allowB (2 ^ n - 1) most wo) S := gn_of hg hS.2.1 hS.2.2.1 fun T h1 h2 => by
      obtain ⟨a, b⟩ := isC_sub hS h1 h2
      exact (allow_iff hn a hm).2 b
    exact (hall S hgn).resolve_left hS.1

theorem isC_lt {n : Nat} {es : List (Int × Int)} {most wo : Int} {S : Nat} (h : isC n es most wo S) : 1 ≤ S ∧ S ≤ 2 ^ n - 2 := by
  obtain ⟨h1, h2, h3, h4, _⟩ := h
  omega
theorem found_len {n : Nat} {es : List (Int × Int)} {most wo : Int} {ys : List Nat} (hnd : ys.Nodup) (h : ∀ y ∈ ys, isC n es most wo y) : ys.length ≤ 2 ^ n - 2 :=
  most_len hnd fun y hy => by have := isC_lt (h y hy); omega

/-- The found sets, in order, are the model's candidates. -/
theorem cand_eq {n : Nat} {es : List (Int × Int)} (hg : GoodG n es) {most wo : Int} (hn : n ≤ 10) (hm : 0 ≤ most) {ys : List Nat} (hF : Found (HNs n es) (allowB (2 ^ n - 1) most wo) ys) (hall : ∀ S, Gn (HNs n es) (allowB (2 ^ n - 1) most wo) S → S = 0 ∨ S ∈ ys) :
    ((srtN ys).map fun a => nodesL a 64) = candU es most wo (2 ^ n - 2) := by
  obtain ⟨h1, h2⟩ := found_iff hg hn hm hF
  have h3 := h2 hall
  have hpow : 2 ^ n ≤ 1024 := pow_small hn
  obtain ⟨h4, h5⟩ := srt_sorted hF.1 fun y hy => by have := (h1 y hy).2.1; omega
  have h64 : ∀ S, S < 2 ^ n → nodesL S 64 = nodesL S 62 := fun S hS => by
    have h6 : S >>> n = 0 := by rw [Nat.shiftRight_eq_div_pow]; exact Nat.div_eq_of_lt hS
    rw [nodesL_high h6 64 (by omega), nodesL_high h6 62 (by omega)]
  refine sorted_ext (fun a b h => h.asymm) h4 (candU_sorted _ (by omega)) fun l => ?_
  rw [candU_mem, List.mem_map]
  constructor
  · rintro ⟨S, hS, rfl⟩
    have hc := h1 S ((h5 S).1 hS)
    obtain ⟨a, b⟩ := isC_lt hc
    exact ⟨S, a, b, (okC_iff (by omega) hm a b).2 hc, h64 S hc.2.1⟩
  · rintro ⟨S, a, b, hok, rfl⟩
    have hc := (okC_iff (by omega) hm a b).1 hok
    exact ⟨S, (h5 S).2 (h3 S hc), h64 S hc.2.1⟩
end Go.Ev

/- Edges: IndexFunc, ContainsFunc, Clone, Compact. -/
namespace Go.Ev
open Go Go.Proofs
set_option linter.unusedSimpArgs false
set_option linter.unusedVariables false
set_option maxRecDepth 100000
set_option maxHeartbeats 4000000
attribute [local irreducible] wpOps wpC wpD wpF wpLoop wpCall seqK blockK loopK retK T.put T.get T.setF

/-- A function value that answers a question about an edge. -/
def AskE [Sorts Tryd.prog] (s : HS) (fv : Value) (p : Int × Int → Bool) : Prop :=
  ∃ g ca, fv = .func (.func g) #[] ca ∧ ∀ e t, Ab s.nx s t → wpF Tryd.prog t.nx g ([vE e] ++ ca.toList) t (fun v t' => v = .bool (p e))

theorem f66_spec [Sorts Tryd.prog] (l : List (Int × Int)) (p : Int × Int → Bool) (lv fv : Value) (s : HS) (hs : Sl s 2 lv (l.map encE)) (hl : l.length < 1000000000) (hf : AskE s fv p) :
    wpF Tryd.prog s.nx 66 [lv, fv] s (fun v s' => ∃ r : Int, v = .int .i64 r ∧ decide (r ≥ 0) = l.any p) := by
  obtain ⟨b, c, rfl⟩ := hs.shape
  obtain ⟨g, ca, rfl, hf⟩ := hf
  refine wpF_of Tryd.func66 rfl rfl rfl rfl (Nat.le_refl _) ?_
  simp only [paramsA]
  have hlm : (l.map encE).length = l.length := List.length_map _
  repeat (first
  | with_reducible first | refine st (by constructor) ?_ | apply c_region
  | (with_reducible apply k_block_on
     · decide)
  | ((with_reducible first | apply xOp | apply xDr | apply xIf); rfl; (simp only [Nat.reduceEqDiff, Nat.reduceAdd, ↓reduceIte, xBB, stG, undef, opA, val, opdA, opdO, plainN, omap, binA, intBinA, loadV, readA, storeV, writeA, fieldAddrA, indexAddrA, lenA, builtinA, newA, unA, packA, Value.cells, un26, hlm]; rfl); first | rfl | exact ⟨rfl, rfl, rfl⟩))
  refine loop_k (lk' := s.nx) (s0 := s) (fun m f t => ∃ k : Nat, k + m = l.length ∧ (l.drop k).any p = l.any p ∧ f.get 8 = some (.int .i64 k)) l.length (Nat.le_refl _) (Nat.le_refl _) ?_ (Ab.refl _ _) ?_
  · exact ⟨0, by omega, rfl, by simp only [Nat.reduceEqDiff, T.get_put, ↓reduceIte]; rfl⟩
  · rintro m f t ⟨k, hk, hany, h8⟩ hA hF
    (have k0 := hF 0 (by rfl); simp only [Nat.reduceEqDiff, T.get_put, ↓reduceIte, hlm] at k0; have k1 := hF 1 (by rfl); simp only [Nat.reduceEqDiff, T.get_put, ↓reduceIte, hlm] at k1; have k6 := hF 6 (by rfl); simp only [Nat.reduceEqDiff, T.get_put, ↓reduceIte, hlm] at k6; have k7 := hF 7 (by rfl); simp only [Nat.reduceEqDiff, T.get_put, ↓reduceIte, hlm] at k7)
    have hnt := hA.nx
    by_cases hlt : (k : Int) < (l.length : Int)
    · have hlt' : k < l.length := by omega
      obtain ⟨id, off, wr, e, cs, rfl, g1, g2, g3, g4⟩ := (hs.keep hA).at (i := k) (x := encE l[k]) (by simp [hlt'])
      have hb : (0 : Int) ≤ (k : Int) ∧ (k : Int) < (l.length : Int) := ⟨by omega, hlt⟩
      simp only [encE] at g3
      have hw : IntKind.i64.wrap ((k : Int) + 1) = ((k + 1 : Nat) : Int) := by rw [IntWalk.i64_in _ (by omega)]; rfl
      repeat (first
  | with_reducible first | refine st (by constructor) ?_ | apply c_region
  | (with_reducible apply k_block_on
     · decide)
  | ((with_reducible first | apply xOp | apply xDr | apply xIf); rfl; (simp only [Nat.reduceEqDiff, Nat.reduceAdd, ↓reduceIte, xBB, stG, undef, opA, val, opdA, opdO, plainN, omap, binA, intBinA, loadV, readA, storeV, writeA, fieldAddrA, indexAddrA, lenA, builtinA, newA, unA, packA, Value.cells, h8, k7, k6, k1, k0, hlm, hlt, un26, sz58, ty58, hb, g1, g3, List.toList_toArray]; rfl); first | rfl | exact ⟨rfl, rfl, rfl⟩))
      ((with_reducible first | apply xCa | apply xCd); rfl; (simp only [Nat.reduceEqDiff, Nat.reduceAdd, ↓reduceIte, xBB, stB, opdA, opdO, plainN, omap, val, Value.cells, k1]; exact ⟨rfl, rfl⟩); try rfl)
      apply call_clo
      refine (hf l[k] t hA).use hnt (Nat.le_refl _) fun v s1 hv hA1 => ?_
      subst hv
      refine opt_of rfl ?_
      by_cases hp : p l[k] = true
      · repeat (first
  | with_reducible first | refine st (by constructor) ?_ | apply c_region
  | (with_reducible apply k_block_on
     · decide)
  | ((with_reducible first | apply xOp | apply xDr | apply xIf); rfl; (simp only [Nat.reduceEqDiff, Nat.reduceAdd, ↓reduceIte, xBB, stG, undef, opA, val, opdA, opdO, plainN, omap, binA, intBinA, loadV, readA, storeV, writeA, fieldAddrA, indexAddrA, lenA, builtinA, newA, unA, packA, Value.cells, hp]; rfl); first | rfl | exact ⟨rfl, rfl, rfl⟩))
        intro _ _
        repeat (first
  | with_reducible first | refine st (by constructor) ?_ | apply c_region
  | (with_reducible apply k_block_on
     · decide)
  | ((with_reducible first | apply xOp | apply xDr | apply xIf); rfl; (simp only [Nat.reduceEqDiff, Nat.reduceAdd, ↓reduceIte, xBB, stG, undef, opA, val, opdA, opdO, plainN, omap, binA, intBinA, loadV, readA, storeV, writeA, fieldAddrA, indexAddrA, lenA, builtinA, newA, unA, packA, Value.cells]; rfl); first | rfl | exact ⟨rfl, rfl, rfl⟩))
        intro _
        ((with_reducible first | apply ret_i | apply ret_n); (simp only [Nat.reduceEqDiff, Nat.reduceAdd, ↓reduceIte, xBB, resA, opdA, opdO, plainN, omap, val, loadV, readA, packA]; rfl))
        refine ⟨k, rfl, ?_⟩
        rw [← hany, List.drop_eq_getElem_cons hlt', List.any_cons, hp]; simp
      · simp only [Bool.not_eq_true] at hp
        repeat (first
  | with_reducible first | refine st (by constructor) ?_ | apply c_region
  | (with_reducible apply k_block_on
     · decide)
  | ((with_reducible first | apply xOp | apply xDr | apply xIf); rfl; (simp only [Nat.reduceEqDiff, Nat.reduceAdd, ↓reduceIte, xBB, stG, undef, opA, val, opdA, opdO, plainN, omap, binA, intBinA, loadV, readA, storeV, writeA, fieldAddrA, indexAddrA, lenA, builtinA, newA, unA, packA, Value.cells, hp, h8, hw]; rfl); first | rfl | exact ⟨rfl, rfl, rfl⟩))
        intro _ _
        refine k_loop_next (m' := m - 1) (by omega) ⟨k + 1, by omega, ?_, ?_⟩
        · rw [← hany, List.drop_eq_getElem_cons hlt', List.any_cons, hp]; rfl
        · simp only [Nat.reduceEqDiff, T.get_put, ↓reduceIte]
    · have hno : l.any p = false := by rw [← hany, List.drop_eq_nil_of_le (by omega)]; rfl
      repeat (first
  | with_reducible first | refine st (by constructor) ?_ | apply c_region
  | (with_reducible apply k_block_on
     · decide)
  | ((with_reducible first | apply xOp | apply xDr | apply xIf); rfl; (simp only [Nat.reduceEqDiff, Nat.reduceAdd, ↓reduceIte, xBB, stG, undef, opA, val, opdA, opdO, plainN, omap, binA, intBinA, loadV, readA, storeV, writeA, fieldAddrA, indexAddrA, lenA, builtinA, newA, unA, packA, Value.cells, h8, k7, hlm, hlt]; rfl); first | rfl | exact ⟨rfl, rfl, rfl⟩))
      intro _ _
      repeat (first
  | with_reducible first | refine st (by constructor) ?_ | apply c_region
  | (with_reducible apply k_block_on
     · decide)
  | ((with_reducible first | apply xOp | apply xDr | apply xIf); rfl; (simp only [Nat.reduceEqDiff, Nat.reduceAdd, ↓reduceIte, xBB, stG, undef, opA, val, opdA, opdO, plainN, omap, binA, intBinA, loadV, readA, storeV, writeA, fieldAddrA, indexAddrA, lenA, builtinA, newA, unA, packA, Value.cells]; rfl); first | rfl | exact ⟨rfl, rfl, rfl⟩))
      intro _
      ((with_reducible first | apply ret_i | apply ret_n); (simp only [Nat.reduceEqDiff, Nat.reduceAdd, ↓reduceIte, xBB, resA, opdA, opdO, plainN, omap, val, loadV, readA, packA]; rfl))
      exact ⟨-1, rfl, by rw [hno]; rfl⟩

theorem f52_spec [Sorts Tryd.prog] (l : List (Int × Int)) (p : Int × Int → Bool) (lv fv : Value) (s : HS) (hs : Sl s 2 lv (l.map encE)) (hl : l.length < 1000000000) (hf : AskE s fv p) :
    wpF Tryd.prog s.nx 52 [lv, fv] s (fun v s' => v = .bool (l.any p)) := by
  refine wpF_of Tryd.func52 rfl rfl rfl rfl (Nat.le_refl _) ?_
  simp only [paramsA]
  repeat (first
  | with_reducible first | refine st (by constructor) ?_ | apply c_region
  | (with_reducible apply k_block_on
     · decide)
  | ((with_reducible first | apply xOp | apply xDr | apply xIf); rfl; (simp only [Nat.reduceEqDiff, Nat.reduceAdd, ↓reduceIte, xBB, stG, undef, opA, val, opdA, opdO, plainN, omap, binA, intBinA, loadV, readA, storeV, writeA, fieldAddrA, indexAddrA, lenA, builtinA, newA, unA, packA, Value.cells]; rfl); first | rfl | exact ⟨rfl, rfl, rfl⟩))
  ((with_reducible first | apply xCa | apply xCd); rfl; (simp only [Nat.reduceEqDiff, Nat.reduceAdd, ↓reduceIte, xBB, stB, opdA, opdO, plainN, omap, val, Value.cells]; exact ⟨rfl, rfl⟩); try rfl)
  apply call_fn
  refine (f66_spec l p lv fv s hs hl hf).mono fun v s1 hv => ?_
  obtain ⟨r, rfl, hr⟩ := hv
  refine opt_of rfl ?_
  repeat (first
  | with_reducible first | refine st (by constructor) ?_ | apply c_region
  | (with_reducible apply k_block_on
     · decide)
  | ((with_reducible first | apply xOp | apply xDr | apply xIf); rfl; (simp only [Nat.reduceEqDiff, Nat.reduceAdd, ↓reduceIte, xBB, stG, undef, opA, val, opdA, opdO, plainN, omap, binA, intBinA, loadV, readA, storeV, writeA, fieldAddrA, indexAddrA, lenA, builtinA, newA, unA, packA, Value.cells]; rfl); first | rfl | exact ⟨rfl, rfl, rfl⟩))
  intro _
  ((with_reducible first | apply ret_i | apply ret_n); (simp only [Nat.reduceEqDiff, Nat.reduceAdd, ↓reduceIte, xBB, resA, opdA, opdO, plainN, omap, val, loadV, readA, packA]; rfl))
  rw [← hr]; rfl

theorem f53_spec [Sorts Tryd.prog] (e : Int × Int) (kb : Nat) (wr : Bool) (te : TypeId) (k : Int) (t : HS) (h : t.hp.get kb = some (.cells wr te [.int .i64 k])) (hlt : kb < t.nx) :
    wpF Tryd.prog t.nx 53 [vE e, .pointer (some ⟨kb, 0, none⟩)] t (fun v t' => v = .bool (e.1 == k)) := by
  refine wpF_of Tryd.func53 rfl rfl rfl rfl (Nat.le_refl _) ?_
  simp only [paramsA, vE]
  have hc1 : ∀ x : Value, cutL [x] 0 1 = some [x] := fun _ => rfl
  have hc2 : ∀ x y : Value, cutL [x, y] 0 1 = some [x] := fun _ _ => rfl
  have hne : ¬ kb = t.nx := by omega
  repeat (first
  | with_reducible first | refine st (by constructor) ?_ | apply c_region
  | (with_reducible apply k_block_on
     · decide)
  | ((with_reducible first | apply xOp | apply xDr | apply xIf); rfl; (simp only [Nat.reduceEqDiff, Nat.reduceAdd, ↓reduceIte, xBB, stG, undef, opA, val, opdA, opdO, plainN, omap, binA, intBinA, loadV, readA, storeV, writeA, fieldAddrA, indexAddrA, lenA, builtinA, newA, unA, packA, Value.cells, sz58, fd58_0, ty3, hc1, hc2, hne, h]; rfl); first | rfl | exact ⟨rfl, rfl, rfl⟩))
  intro _
  ((with_reducible first | apply ret_i | apply ret_n); (simp only [Nat.reduceEqDiff, Nat.reduceAdd, ↓reduceIte, xBB, resA, opdA, opdO, plainN, omap, val, loadV, readA, packA]; rfl))
  rfl

theorem f81_spec [Sorts Tryd.prog] (l : List (Int × Int)) (lv : Value) (s : HS) (hs : Sl s 2 lv (l.map encE)) (hl : l.length < 1000000000) :
    wpF Tryd.prog s.nx 81 [lv] s (fun v s' => ∃ o, Own s' 58 2 o v (l.map encE) ∧ newer s o) := by
  obtain ⟨b, c, rfl⟩ := hs.shape
  refine wpF_of Tryd.func81 rfl rfl rfl rfl (Nat.le_refl _) ?_
  simp only [paramsA]
  cases b with
  | none =>
    have hnil : l = [] := by
      cases l with
      | nil => rfl
      | cons x l =>
        obtain ⟨_, _, _, _, _, h, _⟩ := hs.at (i := 0) (x := encE x) rfl
        cases h
    repeat (first
  | with_reducible first | refine st (by constructor) ?_ | apply c_region
  | (with_reducible apply k_block_on
     · decide)
  | ((with_reducible first | apply xOp | apply xDr | apply xIf); rfl; (simp only [Nat.reduceEqDiff, Nat.reduceAdd, ↓reduceIte, xBB, stG, undef, opA, val, opdA, opdO, plainN, omap, binA, intBinA, loadV, readA, storeV, writeA, fieldAddrA, indexAddrA, lenA, builtinA, newA, unA, packA, Value.cells, eqGuardA, eqA_slice un26, Option.isNone]; rfl); first | rfl | exact ⟨rfl, rfl, rfl⟩))
    intro _
    ((with_reducible first | apply ret_i | apply ret_n); (simp only [Nat.reduceEqDiff, Nat.reduceAdd, ↓reduceIte, xBB, resA, opdA, opdO, plainN, omap, val, loadV, readA, packA]; rfl))
    exact ⟨none, ⟨by rw [hnil]; rfl, rfl⟩, fun _ h => by cases h⟩
  | some a =>
    repeat (first
  | with_reducible first | refine st (by constructor) ?_ | apply c_region
  | (with_reducible apply k_block_on
     · decide)
  | ((with_reducible first | apply xOp | apply xDr | apply xIf); rfl; (simp only [Nat.reduceEqDiff, Nat.reduceAdd, ↓reduceIte, xBB, stG, undef, opA, val, opdA, opdO, plainN, omap, binA, intBinA, loadV, readA, storeV, writeA, fieldAddrA, indexAddrA, lenA, builtinA, newA, unA, packA, Value.cells, eqGuardA, eqA_slice un26, Option.isNone, buildSliceA, el26, sz58, zr58, zerosL, fillA]; rfl); first | rfl | exact ⟨rfl, rfl, rfl⟩))
    ((with_reducible first | apply ops_opt | apply xPd); (first | rfl | exact ⟨rfl, rfl⟩); (simp only [Nat.reduceEqDiff, Nat.reduceAdd, ↓reduceIte, xBB, opA, val, opdA, opdO, plainN, omap, binA, intBinA, loadV, readA, storeV, writeA, fieldAddrA, indexAddrA, lenA, builtinA, newA, unA, packA, Value.cells, un26]; rfl))
    have hown : Own { hp := s.hp.put s.nx (some (.cells true 58 [])), nx := s.nx + 1 } 58 2 (some s.nx) (.slice (some ⟨s.nx, 0, none⟩) 0 0) [] :=
      Own.block (T.get_put_eq _ _ _) rfl (Nat.lt_succ_self _) rfl (Or.inl rfl) (fun x hx => by cases hx) (by unfold UNK; simp)
    have hs2 := hs.keep (Ab.new s (.cells true 58 []))
    refine opt_ex (app_own (lk := s.nx) el26 sz58 by58 zr58 rfl (by decide) hown (fun id h => by cases h; exact Nat.le_refl _) hs2.len (fun h => hs2.first h) ?_ ?_) fun q hq => ?_
    · intro y hy; obtain ⟨x, _, rfl⟩ := List.mem_map.1 hy; exact ⟨rfl, rfl⟩
    · simp; omega
    obtain ⟨v, s1⟩ := q
    obtain ⟨h1, h2, o', h3, h4⟩ := hq
    refine opt_of rfl ?_
    repeat (first
  | with_reducible first | refine st (by constructor) ?_ | apply c_region
  | (with_reducible apply k_block_on
     · decide)
  | ((with_reducible first | apply xOp | apply xDr | apply xIf); rfl; (simp only [Nat.reduceEqDiff, Nat.reduceAdd, ↓reduceIte, xBB, stG, undef, opA, val, opdA, opdO, plainN, omap, binA, intBinA, loadV, readA, storeV, writeA, fieldAddrA, indexAddrA, lenA, builtinA, newA, unA, packA, Value.cells]; rfl); first | rfl | exact ⟨rfl, rfl, rfl⟩))
    intro _
    ((with_reducible first | apply ret_i | apply ret_n); (simp only [Nat.reduceEqDiff, Nat.reduceAdd, ↓reduceIte, xBB, resA, opdA, opdO, plainN, omap, val, loadV, readA, packA]; rfl))
    refine ⟨o', h3, fun id h => ?_⟩
    rcases h4 with rfl | rfl <;> cases h
    · exact Nat.le_refl _
    · exact Nat.le_succ _

theorem guard_edge (a b : Int × Int) : eqGuardA Tryd.prog 58 (vE a) (vE b) = true := by
  have h : Tryd.prog.eqGuardType Tryd.prog.depth 58 = false := by kernel_rfl
  unfold eqGuardA vE
  simp only [h, Bool.not_false]
theorem eq_edge (a b : Int × Int) : eqA Tryd.prog 10000 58 (vE a) (vE b) = some (decide (a = b)) := by
  have h1 : fieldsA Tryd.prog 58 = some [{ name := "From", type := 3, offset := 0, embedded := false, tag := "", pkgPath := "", byteOffset := 0 }, { name := "To", type := 3, offset := 1, embedded := false, tag := "", pkgPath := "", byteOffset := 8 }] := by kernel_rfl
  have h2 : Tryd.prog.stoodInHeld 58 = false := by kernel_rfl
  have h3 : ∀ x y : Int, eqA Tryd.prog 9999 3 (.int .i64 x) (.int .i64 y) = some (x == y) := fun x y => by
    show eqA Tryd.prog (9998 + 1) 3 _ _ = _
    unfold eqA
    rw [un3]
    simp
  have h4 : ∀ x y : Int, partA Tryd.prog 3 [.int .i64 x, .int .i64 y] 0 = some (.int .i64 x) := fun x y => by unfold partA; rw [ty3]; rfl
  have h5 : ∀ x y : Int, partA Tryd.prog 3 [.int .i64 x, .int .i64 y] 1 = some (.int .i64 y) := fun x y => by unfold partA; rw [ty3]; rfl
  unfold fieldsA at h1
  split at h1
  · rename_i fs hfs
    simp only [Option.some.injEq] at h1
    show eqA Tryd.prog (9999 + 1) 58 _ _ = _
    unfold eqA
    unfold vE
    rw [hfs]
    simp only [h2, Bool.false_eq_true, if_false, h1]
    rw [eqFields, if_neg (by decide)]
    simp only [h4, Option.bind_some, h3]
    by_cases e1 : a.1 = b.1
    · rw [show (a.1 == b.1) = true by simp [e1]]
      simp only [if_true]
      rw [eqFields, if_neg (by decide)]
      simp only [h5, Option.bind_some, h3]
      by_cases e2 : a.2 = b.2
      · rw [show (a.2 == b.2) = true by simp [e2]]
        simp only [if_true, eqFields]
        rw [decide_eq_true (Prod.ext e1 e2)]
      · rw [show (a.2 == b.2) = false by simp [e2]]
        simp only [Bool.false_eq_true, if_false]
        rw [decide_eq_false (fun h => e2 (by rw [h]))]
    · rw [show (a.1 == b.1) = false by simp [e1]]
      simp only [Bool.false_eq_true, if_false]
      rw [decide_eq_false (fun h => e1 (by rw [h]))]
  · cases h1
end Go.Ev
