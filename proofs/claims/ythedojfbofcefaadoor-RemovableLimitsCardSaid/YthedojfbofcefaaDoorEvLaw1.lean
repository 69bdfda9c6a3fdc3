import Derived.Test.YthedojfbofcefaaDoorEvG7
import Derived.Test.YthedojfbofcefaaDoorEvG1
/- The model: sameInts, bits, nodes, hull. -/
namespace Go.Ev
open Go Go.Proofs
set_option linter.unusedSimpArgs false
set_option linter.unusedVariables false
set_option maxRecDepth 100000
set_option maxHeartbeats 4000000
attribute [local irreducible] wpOps wpC wpD wpF wpLoop wpCall seqK blockK loopK retK T.put T.get T.setF

def eqI : List Int → List Int → Bool
  | [], [] => true
  | x :: xs, y :: ys => (x == y) && eqI xs ys
  | _, _ => false
theorem eqI_iff {a b : List Int} : eqI a b = true ↔ a = b := by
  induction a generalizing b with
  | nil => cases b <;> simp [eqI]
  | cons x xs ih => cases b with
    | nil => simp [eqI]
    | cons y ys => simp [eqI, ih]
theorem eqI_dec (a b : List Int) : eqI a b = decide (a = b) := by
  cases h : eqI a b with
  | true => rw [eqI_iff] at h; simp [h]
  | false => rw [eq_comm, decide_eq_false_iff_not]; intro e; rw [eqI_iff.2 e] at h; cases h

theorem f15_spec [Sorts Tryd.prog] (a b : List Int) (av bv : Value) (s : HS) (ha : Sl s 1 av (a.map encI)) (hb : Sl s 1 bv (b.map encI)) (hl : a.length < 1000000000) :
    wpF Tryd.prog s.nx 15 [av, bv] s (fun v s' => v = .bool (decide (a = b)) ∧ s' = s) := by
  obtain ⟨p1, c1, rfl⟩ := ha.shape
  obtain ⟨p2, c2, rfl⟩ := hb.shape
  refine wpF_of Tryd.func15 rfl rfl rfl rfl (Nat.le_refl _) ?_
  simp only [paramsA]
  by_cases hne : (((a.map encI).length : Int) != ((b.map encI).length : Int)) = true
  · repeat (first
  | with_reducible first | apply ops_end | apply d_end | apply k_seq | apply k_seq_ret | apply k_seq_exit | apply k_block | apply k_block_ret | apply k_block_here | apply c_seq | apply c_block | apply c_region | apply c_skip | apply c_ret | apply c_exit | apply c_loop | apply k_loop_exit | apply k_loop_ret | apply if_t | apply if_f
  | (with_reducible apply k_block_on
     · decide)
  | ((with_reducible first | apply xOp | apply xDr | apply xIf); rfl; (simp only [Nat.reduceEqDiff, Nat.reduceAdd, ↓reduceIte, xBB, stG, opA, val, opdA, opdO, plainN, omap, binA, intBinA, loadV, readA, storeV, writeA, fieldAddrA, indexAddrA, lenA, builtinA, newA, unA, packA, Value.cells, un35, hne]; rfl); first | rfl | exact ⟨rfl, rfl, rfl⟩))
    intro _
    ((with_reducible first | apply ret_i | apply ret_n); (simp only [Nat.reduceEqDiff, Nat.reduceAdd, ↓reduceIte, xBB, resA, opdA, opdO, plainN, omap, val, loadV, readA, packA]; rfl))
    refine ⟨?_, rfl⟩
    have : ¬ a = b := fun e => by subst e; simp at hne
    simp only [this, decide_false]; rfl
  · simp only [Bool.not_eq_true] at hne
    have hlen : a.length = b.length := by simp at hne; omega
    repeat (first
  | with_reducible first | apply ops_end | apply d_end | apply k_seq | apply k_seq_ret | apply k_seq_exit | apply k_block | apply k_block_ret | apply k_block_here | apply c_seq | apply c_block | apply c_region | apply c_skip | apply c_ret | apply c_exit | apply c_loop | apply k_loop_exit | apply k_loop_ret | apply if_t | apply if_f
  | (with_reducible apply k_block_on
     · decide)
  | ((with_reducible first | apply xOp | apply xDr | apply xIf); rfl; (simp only [Nat.reduceEqDiff, Nat.reduceAdd, ↓reduceIte, xBB, stG, opA, val, opdA, opdO, plainN, omap, binA, intBinA, loadV, readA, storeV, writeA, fieldAddrA, indexAddrA, lenA, builtinA, newA, unA, packA, Value.cells, un35, hne]; rfl); first | rfl | exact ⟨rfl, rfl, rfl⟩))
    refine loop_k (lk' := s.nx) (s0 := s) (fun m f t => t = s ∧ ∃ k : Nat, k + m = a.length ∧ eqI (a.drop k) (b.drop k) = eqI a b ∧ f.get 5 = some (.int .i64 k)) a.length (Nat.le_refl _) (Nat.le_refl _) ?_ (Ab.refl _ _) ?_
    · exact ⟨rfl, 0, by omega, rfl, by simp only [Nat.reduceEqDiff, T.get_put, ↓reduceIte]; rfl⟩
    · rintro m f t ⟨rfl, k, hk, heq, h5⟩ hA hF
      (have k0 := hF 0 (by rfl); simp only [Nat.reduceEqDiff, T.get_put, ↓reduceIte] at k0; have k1 := hF 1 (by rfl); simp only [Nat.reduceEqDiff, T.get_put, ↓reduceIte] at k1)
      by_cases hlt : (k : Int) < ((a.map encI).length : Int)
      · have hlt' : k < a.length := by simp at hlt; omega
        have hlt2 : k < b.length := by omega
        obtain ⟨id, off, wr, e, cs, rfl, g1, g2, g3, g4⟩ := ha.at (i := k) (x := encI a[k]) (by simp [hlt'])
        obtain ⟨id', off', wr', e', cs', rfl, o1, o2, o3, o4⟩ := hb.at (i := k) (x := encI b[k]) (by simp [hlt2])
        have hb : (0 : Int) ≤ (k : Int) ∧ (k : Int) < ((a.map encI).length : Int) := ⟨by omega, hlt⟩
        have hb' : (0 : Int) ≤ (k : Int) ∧ (k : Int) < ((b.map encI).length : Int) := ⟨by omega, by simp; omega⟩
        have hw : IntKind.i64.wrap ((k : Int) + 1) = ((k + 1 : Nat) : Int) := by rw [IntWalk.i64_in _ (by omega)]; rfl
        simp only [encI] at g3 o3
        rw [List.drop_eq_getElem_cons hlt', List.drop_eq_getElem_cons hlt2, eqI] at heq
        repeat (first
  | with_reducible first | apply ops_end | apply d_end | apply k_seq | apply k_seq_ret | apply k_seq_exit | apply k_block | apply k_block_ret | apply k_block_here | apply c_seq | apply c_block | apply c_region | apply c_skip | apply c_ret | apply c_exit | apply c_loop | apply k_loop_exit | apply k_loop_ret | apply if_t | apply if_f
  | (with_reducible apply k_block_on
     · decide)
  | ((with_reducible first | apply xOp | apply xDr | apply xIf); rfl; (simp only [Nat.reduceEqDiff, Nat.reduceAdd, ↓reduceIte, xBB, stG, opA, val, opdA, opdO, plainN, omap, binA, intBinA, loadV, readA, storeV, writeA, fieldAddrA, indexAddrA, lenA, builtinA, newA, unA, packA, Value.cells, h5, k0, k1, un35, hlt]; rfl); first | rfl | exact ⟨rfl, rfl, rfl⟩))
        refine c_draw [⟨false, [], none⟩, ⟨false, [], none⟩, ⟨false, [], none⟩, ⟨false, [], none⟩, ⟨false, [], none⟩, ⟨false, [], none⟩, ⟨false, [], none⟩, ⟨false, [3], none⟩, ⟨true, [], none⟩] (by kernel_rfl) ?_
        by_cases hx : (a[k] != b[k]) = true
        · repeat (first
  | with_reducible first | apply ops_end | apply d_end | apply k_seq | apply k_seq_ret | apply k_seq_exit | apply k_block | apply k_block_ret | apply k_block_here | apply c_seq | apply c_block | apply c_region | apply c_skip | apply c_ret | apply c_exit | apply c_loop | apply k_loop_exit | apply k_loop_ret | apply if_t | apply if_f
  | (with_reducible apply k_block_on
     · decide)
  | ((with_reducible first | apply xOp | apply xDr | apply xIf); rfl; (simp only [Nat.reduceEqDiff, Nat.reduceAdd, ↓reduceIte, xBB, stG, opA, val, opdA, opdO, plainN, omap, binA, intBinA, loadV, readA, storeV, writeA, fieldAddrA, indexAddrA, lenA, builtinA, newA, unA, packA, Value.cells, h5, k0, k1, un35, hlt, sz35, sz3, ty3, hb, hb', g1, g3, o1, o3, hx]; rfl); first | rfl | exact ⟨rfl, rfl, rfl⟩))
          intro _ _
          repeat (first
  | with_reducible first | apply ops_end | apply d_end | apply k_seq | apply k_seq_ret | apply k_seq_exit | apply k_block | apply k_block_ret | apply k_block_here | apply c_seq | apply c_block | apply c_region | apply c_skip | apply c_ret | apply c_exit | apply c_loop | apply k_loop_exit | apply k_loop_ret | apply if_t | apply if_f
  | (with_reducible apply k_block_on
     · decide)
  | ((with_reducible first | apply xOp | apply xDr | apply xIf); rfl; (simp only [Nat.reduceEqDiff, Nat.reduceAdd, ↓reduceIte, xBB, stG, opA, val, opdA, opdO, plainN, omap, binA, intBinA, loadV, readA, storeV, writeA, fieldAddrA, indexAddrA, lenA, builtinA, newA, unA, packA, Value.cells]; rfl); first | rfl | exact ⟨rfl, rfl, rfl⟩))
          intro _
          ((with_reducible first | apply ret_i | apply ret_n); (simp only [Nat.reduceEqDiff, Nat.reduceAdd, ↓reduceIte, xBB, resA, opdA, opdO, plainN, omap, val, loadV, readA, packA]; rfl))
          refine ⟨?_, rfl⟩
          have hx2 : (a[k] == b[k]) = false := by simpa [bne] using hx
          rw [hx2, Bool.false_and] at heq
          rw [← eqI_dec, ← heq]; rfl
        · simp only [Bool.not_eq_true] at hx
          repeat (first
  | with_reducible first | apply ops_end | apply d_end | apply k_seq | apply k_seq_ret | apply k_seq_exit | apply k_block | apply k_block_ret | apply k_block_here | apply c_seq | apply c_block | apply c_region | apply c_skip | apply c_ret | apply c_exit | apply c_loop | apply k_loop_exit | apply k_loop_ret | apply if_t | apply if_f
  | (with_reducible apply k_block_on
     · decide)
  | ((with_reducible first | apply xOp | apply xDr | apply xIf); rfl; (simp only [Nat.reduceEqDiff, Nat.reduceAdd, ↓reduceIte, xBB, stG, opA, val, opdA, opdO, plainN, omap, binA, intBinA, loadV, readA, storeV, writeA, fieldAddrA, indexAddrA, lenA, builtinA, newA, unA, packA, Value.cells, h5, k0, k1, un35, hlt, sz35, sz3, ty3, hb, hb', g1, g3, o1, o3, hx, hw]; rfl); first | rfl | exact ⟨rfl, rfl, rfl⟩))
          intro _ _
          have hx2 : (a[k] == b[k]) = true := by simpa [bne] using hx
          rw [hx2, Bool.true_and] at heq
          exact k_loop_next (m' := m - 1) (by omega) ⟨rfl, k + 1, by omega, heq, by simp only [Nat.reduceEqDiff, T.get_put, ↓reduceIte]⟩
      · repeat (first
  | with_reducible first | apply ops_end | apply d_end | apply k_seq | apply k_seq_ret | apply k_seq_exit | apply k_block | apply k_block_ret | apply k_block_here | apply c_seq | apply c_block | apply c_region | apply c_skip | apply c_ret | apply c_exit | apply c_loop | apply k_loop_exit | apply k_loop_ret | apply if_t | apply if_f
  | (with_reducible apply k_block_on
     · decide)
  | ((with_reducible first | apply xOp | apply xDr | apply xIf); rfl; (simp only [Nat.reduceEqDiff, Nat.reduceAdd, ↓reduceIte, xBB, stG, opA, val, opdA, opdO, plainN, omap, binA, intBinA, loadV, readA, storeV, writeA, fieldAddrA, indexAddrA, lenA, builtinA, newA, unA, packA, Value.cells, h5, k0, un35, hlt]; rfl); first | rfl | exact ⟨rfl, rfl, rfl⟩))
        intro _ _
        repeat (first
  | with_reducible first | apply ops_end | apply d_end | apply k_seq | apply k_seq_ret | apply k_seq_exit | apply k_block | apply k_block_ret | apply k_block_here | apply c_seq | apply c_block | apply c_region | apply c_skip | apply c_ret | apply c_exit | apply c_loop | apply k_loop_exit | apply k_loop_ret | apply if_t | apply if_f
  | (with_reducible apply k_block_on
     · decide)
  | ((with_reducible first | apply xOp | apply xDr | apply xIf); rfl; (simp only [Nat.reduceEqDiff, Nat.reduceAdd, ↓reduceIte, xBB, stG, opA, val, opdA, opdO, plainN, omap, binA, intBinA, loadV, readA, storeV, writeA, fieldAddrA, indexAddrA, lenA, builtinA, newA, unA, packA, Value.cells]; rfl); first | rfl | exact ⟨rfl, rfl, rfl⟩))
        intro _
        ((with_reducible first | apply ret_i | apply ret_n); (simp only [Nat.reduceEqDiff, Nat.reduceAdd, ↓reduceIte, xBB, resA, opdA, opdO, plainN, omap, val, loadV, readA, packA]; rfl))
        refine ⟨?_, rfl⟩
        rw [List.drop_eq_nil_of_le (by simp at hlt; omega), List.drop_eq_nil_of_le (by simp at hlt; omega)] at heq
        rw [← eqI_dec, ← heq]; rfl

/-- The set of some nodes. -/
def bitsN (l : List Int) : Nat := l.foldl (fun s x => s ||| 2 ^ x.toNat) 0
theorem bitsN_snoc (l : List Int) (x : Int) : bitsN (l ++ [x]) = bitsN l ||| 2 ^ x.toNat := by unfold bitsN; rw [List.foldl_append]; rfl
theorem bitsN_lt {l : List Int} {n : Nat} (h : ∀ x ∈ l, 0 ≤ x ∧ x < n) : bitsN l < 2 ^ n := by
  unfold bitsN
  have : ∀ (l : List Int) (s : Nat), (∀ x ∈ l, 0 ≤ x ∧ x < n) → s < 2 ^ n → l.foldl (fun s x => s ||| 2 ^ x.toNat) s < 2 ^ n := by
    intro l
    induction l with
    | nil => intro s _ h; exact h
    | cons x l ih =>
      intro s h1 h2
      have := h1 x List.mem_cons_self
      exact ih _ (fun y hy => h1 y (List.mem_cons_of_mem _ hy)) (setBit_lt h2 (by omega))
  exact this l 0 h (Nat.two_pow_pos n)
theorem bitsN_bit (l : List Int) (j : Nat) : (bitsN l).testBit j = decide (∃ x ∈ l, x.toNat = j) := by
  unfold bitsN
  have : ∀ (l : List Int) (s : Nat), (l.foldl (fun s x => s ||| 2 ^ x.toNat) s).testBit j = (s.testBit j || decide (∃ x ∈ l, x.toNat = j)) := by
    intro l
    induction l with
    | nil => intro s; simp
    | cons x l ih =>
      intro s
      rw [List.foldl_cons, ih, setBit, Bool.or_assoc]
      congr 1
      rw [← Bool.decide_or]
      congr 1
      simp [eq_comm]
  rw [this]; simp

theorem f23_spec [Sorts Tryd.prog] (l : List Int) (lv : Value) (s : HS) (hl : Sl s 1 lv (l.map encI)) (hll : l.length < 1000000000) (hin : ∀ x ∈ l, 0 ≤ x ∧ x < 62) :
    wpF Tryd.prog s.nx 23 [lv] s (fun v s' => v = .int .i64 (bitsN l) ∧ s' = s) := by
  obtain ⟨b, c, rfl⟩ := hl.shape
  refine wpF_of Tryd.func23 rfl rfl rfl rfl (Nat.le_refl _) ?_
  simp only [paramsA]
  repeat (first
  | with_reducible first | apply ops_end | apply d_end | apply k_seq | apply k_seq_ret | apply k_seq_exit | apply k_block | apply k_block_ret | apply k_block_here | apply c_seq | apply c_block | apply c_region | apply c_skip | apply c_ret | apply c_exit | apply c_loop | apply k_loop_exit | apply k_loop_ret | apply if_t | apply if_f
  | (with_reducible apply k_block_on
     · decide)
  | ((with_reducible first | apply xOp | apply xDr | apply xIf); rfl; (simp only [Nat.reduceEqDiff, Nat.reduceAdd, ↓reduceIte, xBB, stG, opA, val, opdA, opdO, plainN, omap, binA, intBinA, loadV, readA, storeV, writeA, fieldAddrA, indexAddrA, lenA, builtinA, newA, unA, packA, Value.cells]; rfl); first | rfl | exact ⟨rfl, rfl, rfl⟩))
  refine loop_k (lk' := s.nx) (s0 := s) (fun m f t => t = s ∧ ∃ k : Nat, k + m = l.length ∧ f.get 4 = some (.int .i64 k) ∧ f.get 3 = some (.int .i64 (bitsN (l.take k)))) l.length (Nat.le_refl _) (Nat.le_refl _) ?_ (Ab.refl _ _) ?_
  · exact ⟨rfl, 0, by omega, by simp only [Nat.reduceEqDiff, T.get_put, ↓reduceIte]; rfl, by simp only [Nat.reduceEqDiff, T.get_put, ↓reduceIte]; rfl⟩
  · rintro m f t ⟨rfl, k, hk, h4, h3⟩ hA hF
    (have k0 := hF 0 (by rfl); simp only [Nat.reduceEqDiff, T.get_put, ↓reduceIte] at k0)
    by_cases hlt : (k : Int) < ((l.map encI).length : Int)
    · have hlt' : k < l.length := by simp at hlt; omega
      obtain ⟨id, off, wr, e, cs, rfl, g1, g2, g3, g4⟩ := hl.at (i := k) (x := encI l[k]) (by simp [hlt'])
      have hb : (0 : Int) ≤ (k : Int) ∧ (k : Int) < ((l.map encI).length : Int) := ⟨by omega, hlt⟩
      have hw : IntKind.i64.wrap ((k : Int) + 1) = ((k + 1 : Nat) : Int) := by rw [IntWalk.i64_in _ (by omega)]; rfl
      obtain ⟨q1, q2⟩ := hin l[k] (List.getElem_mem hlt')
      obtain ⟨i, hi⟩ : ∃ i : Nat, l[k] = (i : Int) := ⟨l[k].toNat, by omega⟩
      simp only [encI] at g3
      rw [hi] at g3
      have hsh := shl_i64 (k := i) (by omega)
      have hlt3 : bitsN (l.take k) < 2 ^ 62 := bitsN_lt fun x hx => hin x (List.mem_of_mem_take hx)
      have hor := or_i64 (a := bitsN (l.take k)) (b := 2 ^ i) (by omega) (Nat.pow_lt_pow_right (by decide) (by omega))
      repeat (first
  | with_reducible first | apply ops_end | apply d_end | apply k_seq | apply k_seq_ret | apply k_seq_exit | apply k_block | apply k_block_ret | apply k_block_here | apply c_seq | apply c_block | apply c_region | apply c_skip | apply c_ret | apply c_exit | apply c_loop | apply k_loop_exit | apply k_loop_ret | apply if_t | apply if_f
  | (with_reducible apply k_block_on
     · decide)
  | ((with_reducible first | apply xOp | apply xDr | apply xIf); rfl; (simp only [Nat.reduceEqDiff, Nat.reduceAdd, ↓reduceIte, xBB, stG, opA, val, opdA, opdO, plainN, omap, binA, intBinA, loadV, readA, storeV, writeA, fieldAddrA, indexAddrA, lenA, builtinA, newA, unA, packA, Value.cells, h4, h3, k0, un35, hlt, sz3, ty3, hb, g1, g3, hsh, hor, hw]; rfl); first | rfl | exact ⟨rfl, rfl, rfl⟩))
      intro _ _
      refine k_loop_next (m' := m - 1) (by omega) ⟨rfl, k + 1, by omega, by simp only [Nat.reduceEqDiff, T.get_put, ↓reduceIte], ?_⟩
      simp only [Nat.reduceEqDiff, T.get_put, ↓reduceIte]
      rw [List.take_succ_eq_append_getElem hlt', bitsN_snoc, hi, Int.toNat_natCast]
    · repeat (first
  | with_reducible first | apply ops_end | apply d_end | apply k_seq | apply k_seq_ret | apply k_seq_exit | apply k_block | apply k_block_ret | apply k_block_here | apply c_seq | apply c_block | apply c_region | apply c_skip | apply c_ret | apply c_exit | apply c_loop | apply k_loop_exit | apply k_loop_ret | apply if_t | apply if_f
  | (with_reducible apply k_block_on
     · decide)
  | ((with_reducible first | apply xOp | apply xDr | apply xIf); rfl; (simp only [Nat.reduceEqDiff, Nat.reduceAdd, ↓reduceIte, xBB, stG, opA, val, opdA, opdO, plainN, omap, binA, intBinA, loadV, readA, storeV, writeA, fieldAddrA, indexAddrA, lenA, builtinA, newA, unA, packA, Value.cells, h4, k0, un35, hlt]; rfl); first | rfl | exact ⟨rfl, rfl, rfl⟩))
      intro _ _
      repeat (first
  | with_reducible first | apply ops_end | apply d_end | apply k_seq | apply k_seq_ret | apply k_seq_exit | apply k_block | apply k_block_ret | apply k_block_here | apply c_seq | apply c_block | apply c_region | apply c_skip | apply c_ret | apply c_exit | apply c_loop | apply k_loop_exit | apply k_loop_ret | apply if_t | apply if_f
  | (with_reducible apply k_block_on
     · decide)
  | ((with_reducible first | apply xOp | apply xDr | apply xIf); rfl; (simp only [Nat.reduceEqDiff, Nat.reduceAdd, ↓reduceIte, xBB, stG, opA, val, opdA, opdO, plainN, omap, binA, intBinA, loadV, readA, storeV, writeA, fieldAddrA, indexAddrA, lenA, builtinA, newA, unA, packA, Value.cells, h3]; rfl); first | rfl | exact ⟨rfl, rfl, rfl⟩))
      intro _
      ((with_reducible first | apply ret_i | apply ret_n); (simp only [Nat.reduceEqDiff, Nat.reduceAdd, ↓reduceIte, xBB, resA, opdA, opdO, plainN, omap, val, loadV, readA, packA]; rfl))
      refine ⟨?_, rfl⟩
      rw [List.take_of_length_le (by simp at hlt; omega)]; rfl
end Go.Ev

/- The model: nodes, hull. -/
namespace Go.Ev
open Go Go.Proofs
set_option linter.unusedSimpArgs false
set_option linter.unusedVariables false
set_option maxRecDepth 100000
set_option maxHeartbeats 4000000
attribute [local irreducible] wpOps wpC wpD wpF wpLoop wpCall seqK blockK loopK retK T.put T.get T.setF

/-- The nodes of a set, in order, below a number. -/
def nodesL (a n : Nat) : List Int := ((List.range n).filter (fun i : Nat => a.testBit i)).map (fun i : Nat => (i : Int))
theorem nodesL_succ (a n : Nat) : nodesL a (n + 1) = nodesL a n ++ (if a.testBit n then [(n : Int)] else []) := by
  unfold nodesL
  rw [List.range_succ, List.filter_append, List.map_append]
  cases h : a.testBit n with
  | true => rw [List.filter_cons_of_pos h]; rfl
  | false => rw [List.filter_cons_of_neg (by simp [h])]; rfl
theorem nodesL_high {a k : Nat} (h : a >>> k = 0) : ∀ n, k ≤ n → nodesL a n = nodesL a k := by
  intro n
  induction n with
  | zero => intro h; rw [show k = 0 by omega]
  | succ n ih =>
    intro hk
    by_cases hkn : k = n + 1
    · rw [hkn]
    · rw [nodesL_succ, ih (by omega)]
      have : a.testBit n = false := by
        have h2 := Nat.testBit_shiftRight (i := k) (j := n - k) a
        rw [h, show k + (n - k) = n by omega] at h2
        simpa using h2.symm
      rw [this]; simp
theorem nodesL_len (a n : Nat) : (nodesL a n).length ≤ n := by
  unfold nodesL
  rw [List.length_map]
  exact Nat.le_trans (List.length_filter_le _ _) (by simp)
theorem mem_nodesL {a n : Nat} {x : Int} : x ∈ nodesL a n ↔ 0 ≤ x ∧ x < n ∧ a.testBit x.toNat = true := by
  unfold nodesL
  simp only [List.mem_map, List.mem_filter, List.mem_range]
  constructor
  · rintro ⟨i, ⟨h1, h2⟩, rfl⟩; exact ⟨by omega, by omega, by simpa using h2⟩
  · rintro ⟨h1, h2, h3⟩; exact ⟨x.toNat, ⟨by omega, h3⟩, by omega⟩

theorem f18_spec [Sorts Tryd.prog] (a : Nat) (s : HS) (ha : a < 2 ^ 62) : wpF Tryd.prog s.nx 18 [.int .i64 a] s (fun v s' => ∃ o, Own s' 3 1 o v ((nodesL a 62).map encI) ∧ newer s o) := by
  have ha3 : a < 2 ^ 63 := Nat.lt_trans ha (by decide)
  refine wpF_of Tryd.func18 rfl rfl rfl rfl (Nat.le_refl _) ?_
  simp only [paramsA]
  repeat (first
  | with_reducible first | apply ops_end | apply d_end | apply k_seq | apply k_seq_ret | apply k_seq_exit | apply k_block | apply k_block_ret | apply k_block_here | apply c_seq | apply c_block | apply c_region | apply c_skip | apply c_ret | apply c_exit | apply c_loop | apply k_loop_exit | apply k_loop_ret | apply if_t | apply if_f
  | (with_reducible apply k_block_on
     · decide)
  | ((with_reducible first | apply xOp | apply xDr | apply xIf); rfl; (simp only [Nat.reduceEqDiff, Nat.reduceAdd, ↓reduceIte, xBB, stG, opA, val, opdA, opdO, plainN, omap, binA, intBinA, loadV, readA, storeV, writeA, fieldAddrA, indexAddrA, lenA, builtinA, newA, unA, packA, Value.cells]; rfl); first | rfl | exact ⟨rfl, rfl, rfl⟩))
  refine loop_k (lk' := s.nx) (s0 := s) (fun m f t => ∃ k : Nat, k + m = 62 ∧ f.get 4 = some (.int .i64 k) ∧ ∃ o v, f.get 3 = some v ∧ Own t 3 1 o v ((nodesL a k).map encI) ∧ newer s o) 62 (Nat.le_refl _) (Nat.le_refl _) ?_ (Ab.refl _ _) ?_
  · exact ⟨0, by omega, by simp only [Nat.reduceEqDiff, T.get_put, ↓reduceIte]; rfl, none, .slice none 0 0, by simp only [Nat.reduceEqDiff, T.get_put, ↓reduceIte], ⟨rfl, rfl⟩, fun _ h => (by cases h)⟩
  · rintro m f t ⟨k, hk, h4, o, v, h3, hown, hnew⟩ hA hF
    (have k0 := hF 0 (by rfl); simp only [Nat.reduceEqDiff, T.get_put, ↓reduceIte] at k0)
    have hsh := shr_i64 (a := a) (k := k) ha3
    by_cases hz : (((a >>> k : Nat) : Int)) > 0
    · have hkm : k < 62 := by
        rcases Nat.lt_or_ge k 62 with h | h
        · exact h
        · have : a >>> k = 0 := by rw [Nat.shiftRight_eq_div_pow]; exact Nat.div_eq_of_lt (Nat.lt_of_lt_of_le ha (Nat.pow_le_pow_right (by decide) h))
          omega
      have hand := and_one (a := a >>> k) (shr_lt ha3)
      have hbit := bit_eq a k
      have hw : IntKind.i64.wrap ((k : Int) + 1) = ((k + 1 : Nat) : Int) := by rw [IntWalk.i64_in _ (by omega)]; rfl
      by_cases hb : a.testBit k = true
      · repeat (first
  | with_reducible first | apply ops_end | apply d_end | apply k_seq | apply k_seq_ret | apply k_seq_exit | apply k_block | apply k_block_ret | apply k_block_here | apply c_seq | apply c_block | apply c_region | apply c_skip | apply c_ret | apply c_exit | apply c_loop | apply k_loop_exit | apply k_loop_ret | apply if_t | apply if_f
  | (with_reducible apply k_block_on
     · decide)
  | ((with_reducible first | apply xOp | apply xDr | apply xIf); rfl; (simp only [Nat.reduceEqDiff, Nat.reduceAdd, ↓reduceIte, xBB, stG, opA, val, opdA, opdO, plainN, omap, binA, intBinA, loadV, readA, storeV, writeA, fieldAddrA, indexAddrA, lenA, builtinA, newA, unA, packA, Value.cells, h4, k0, hsh, hz, hand, hbit, hb, buildSliceA, el35, sz3, zr3, zerosL, fillA, h3]; rfl); first | rfl | exact ⟨rfl, rfl, rfl⟩))
        ((with_reducible first | apply ops_opt | apply xPd); (first | rfl | exact ⟨rfl, rfl⟩); (simp only [Nat.reduceEqDiff, Nat.reduceAdd, ↓reduceIte, xBB, opA, val, opdA, opdO, plainN, omap, binA, intBinA, loadV, readA, storeV, writeA, fieldAddrA, indexAddrA, lenA, builtinA, newA, unA, packA, Value.cells, un35, h3]; rfl))
        have hlen := nodesL_len a k
        have hown2 : Own { hp := t.hp.put t.nx (some (.cells true 3 [.int .i64 k])), nx := t.nx + 1 } 3 1 o v ((nodesL a k).map encI) :=
          hown.same (Nat.le_succ _) fun id h => T.get_put_ne _ _ _ (by have := hown.lt h; omega)
        refine opt_ex (app_one (lk := s.nx) (y := [.int .i64 k]) el35 sz3 by3 zr3 rfl (by decide) hown2 hnew (T.get_put_eq _ _ _) rfl rfl (by simp; omega)) fun q hq => ?_
        obtain ⟨v', s1⟩ := q
        obtain ⟨q1, q2, o', q3, q4⟩ := hq
        refine opt_of rfl ?_
        repeat (first
  | with_reducible first | apply ops_end | apply d_end | apply k_seq | apply k_seq_ret | apply k_seq_exit | apply k_block | apply k_block_ret | apply k_block_here | apply c_seq | apply c_block | apply c_region | apply c_skip | apply c_ret | apply c_exit | apply c_loop | apply k_loop_exit | apply k_loop_ret | apply if_t | apply if_f
  | (with_reducible apply k_block_on
     · decide)
  | ((with_reducible first | apply xOp | apply xDr | apply xIf); rfl; (simp only [Nat.reduceEqDiff, Nat.reduceAdd, ↓reduceIte, xBB, stG, opA, val, opdA, opdO, plainN, omap, binA, intBinA, loadV, readA, storeV, writeA, fieldAddrA, indexAddrA, lenA, builtinA, newA, unA, packA, Value.cells, hw, h4]; rfl); first | rfl | exact ⟨rfl, rfl, rfl⟩))
        intro _ _
        refine k_loop_next (m' := m - 1) (by omega) ⟨k + 1, by omega, by simp only [Nat.reduceEqDiff, T.get_put, ↓reduceIte], o', v', by simp only [Nat.reduceEqDiff, T.get_put, ↓reduceIte], ?_, fun id h => ?_⟩
        · rw [nodesL_succ, if_pos hb, List.map_append]; exact q3
        · rcases q4 with rfl | rfl
          · exact hnew id h
          · cases h; have := hA.nx; show s.nx ≤ t.nx + 1; omega
      · simp only [Bool.not_eq_true] at hb
        repeat (first
  | with_reducible first | apply ops_end | apply d_end | apply k_seq | apply k_seq_ret | apply k_seq_exit | apply k_block | apply k_block_ret | apply k_block_here | apply c_seq | apply c_block | apply c_region | apply c_skip | apply c_ret | apply c_exit | apply c_loop | apply k_loop_exit | apply k_loop_ret | apply if_t | apply if_f
  | (with_reducible apply k_block_on
     · decide)
  | ((with_reducible first | apply xOp | apply xDr | apply xIf); rfl; (simp only [Nat.reduceEqDiff, Nat.reduceAdd, ↓reduceIte, xBB, stG, opA, val, opdA, opdO, plainN, omap, binA, intBinA, loadV, readA, storeV, writeA, fieldAddrA, indexAddrA, lenA, builtinA, newA, unA, packA, Value.cells, h4, k0, hsh, hz, hand, hbit, hb, hw]; rfl); first | rfl | exact ⟨rfl, rfl, rfl⟩))
        intro _ _
        refine k_loop_next (m' := m - 1) (by omega) ⟨k + 1, by omega, by simp only [Nat.reduceEqDiff, T.get_put, ↓reduceIte], o, v, by simp only [Nat.reduceEqDiff, T.get_put, ↓reduceIte, h3], ?_, hnew⟩
        rw [nodesL_succ, hb]; simpa using hown
    · repeat (first
  | with_reducible first | apply ops_end | apply d_end | apply k_seq | apply k_seq_ret | apply k_seq_exit | apply k_block | apply k_block_ret | apply k_block_here | apply c_seq | apply c_block | apply c_region | apply c_skip | apply c_ret | apply c_exit | apply c_loop | apply k_loop_exit | apply k_loop_ret | apply if_t | apply if_f
  | (with_reducible apply k_block_on
     · decide)
  | ((with_reducible first | apply xOp | apply xDr | apply xIf); rfl; (simp only [Nat.reduceEqDiff, Nat.reduceAdd, ↓reduceIte, xBB, stG, opA, val, opdA, opdO, plainN, omap, binA, intBinA, loadV, readA, storeV, writeA, fieldAddrA, indexAddrA, lenA, builtinA, newA, unA, packA, Value.cells, h4, k0, hsh, hz]; rfl); first | rfl | exact ⟨rfl, rfl, rfl⟩))
      intro _ _
      repeat (first
  | with_reducible first | apply ops_end | apply d_end | apply k_seq | apply k_seq_ret | apply k_seq_exit | apply k_block | apply k_block_ret | apply k_block_here | apply c_seq | apply c_block | apply c_region | apply c_skip | apply c_ret | apply c_exit | apply c_loop | apply k_loop_exit | apply k_loop_ret | apply if_t | apply if_f
  | (with_reducible apply k_block_on
     · decide)
  | ((with_reducible first | apply xOp | apply xDr | apply xIf); rfl; (simp only [Nat.reduceEqDiff, Nat.reduceAdd, ↓reduceIte, xBB, stG, opA, val, opdA, opdO, plainN, omap, binA, intBinA, loadV, readA, storeV, writeA, fieldAddrA, indexAddrA, lenA, builtinA, newA, unA, packA, Value.cells, h3]; rfl); first | rfl | exact ⟨rfl, rfl, rfl⟩))
      intro _
      ((with_reducible first | apply ret_i | apply ret_n); (simp only [Nat.reduceEqDiff, Nat.reduceAdd, ↓reduceIte, xBB, resA, opdA, opdO, plainN, omap, val, loadV, readA, packA]; rfl))
      refine ⟨o, ?_, hnew⟩
      have hz0 : a >>> k = 0 := by generalize a >>> k = z at hz; omega
      rw [nodesL_high hz0 62 (by omega)]
      exact hown

/-- One edge of the model's hull. -/
def hullStep (set : Nat) (e : Int × Int) : Nat := if set.testBit e.1.toNat then set ||| 2 ^ e.2.toNat else set
def hullRound (es : List (Int × Int)) (set : Nat) : Nat := es.foldl hullStep set
def hullN (es : List (Int × Int)) : Nat → Nat → Nat
  | 0, set => set
  | k + 1, set => hullRound es (hullN es k set)

theorem hullStep_lt {set n : Nat} {e : Int × Int} (h : set < 2 ^ n) (he : e.2.toNat < n) : hullStep set e < 2 ^ n := by
  unfold hullStep
  split
  · exact setBit_lt h he
  · exact h
theorem foldl_lt {n : Nat} : ∀ {es : List (Int × Int)} {set : Nat}, set < 2 ^ n → (∀ e ∈ es, e.2.toNat < n) → es.foldl hullStep set < 2 ^ n := by
  intro es
  induction es with
  | nil => intro set h _; exact h
  | cons e es ih => intro set h he; exact ih (hullStep_lt h (he e List.mem_cons_self)) fun x hx => he x (List.mem_cons_of_mem _ hx)
theorem hullN_lt {n : Nat} {es : List (Int × Int)} {set : Nat} (h : set < 2 ^ n) (he : ∀ e ∈ es, e.2.toNat < n) : ∀ k, hullN es k set < 2 ^ n := by
  intro k
  induction k with
  | zero => exact h
  | succ k ih => exact foldl_lt ih he

theorem f22_spec [Sorts Tryd.prog] (n : Int) (es : List (Int × Int)) (ev : Value) (a : Nat) (s : HS) (hs : Sl s 2 ev (es.map encE)) (hg : GoodG n es) (hn : n < 62) (ha : a < 2 ^ 62) :
    wpF Tryd.prog s.nx 22 [vG n ev, .int .i64 a] s (fun v s' => v = .int .i64 (hullN es n.toNat a)) := by
  obtain ⟨b, c, rfl⟩ := hs.shape
  obtain ⟨hn0, hn1, hlen, hins⟩ := hg
  have he62 : ∀ e ∈ es, e.2.toNat < 62 := fun e he => by have := hins e he; omega
  refine wpF_of Tryd.func22 rfl rfl rfl rfl (Nat.le_refl _) ?_
  simp only [paramsA, vG]
  repeat (first
  | with_reducible first | apply ops_end | apply d_end | apply k_seq | apply k_seq_ret | apply k_seq_exit | apply k_block | apply k_block_ret | apply k_block_here | apply c_seq | apply c_block | apply c_region | apply c_skip | apply c_ret | apply c_exit | apply c_loop | apply k_loop_exit | apply k_loop_ret | apply if_t | apply if_f
  | (with_reducible apply k_block_on
     · decide)
  | ((with_reducible first | apply xOp | apply xDr | apply xIf); rfl; (simp only [Nat.reduceEqDiff, Nat.reduceAdd, ↓reduceIte, xBB, stG, opA, val, opdA, opdO, plainN, omap, binA, intBinA, loadV, readA, storeV, writeA, fieldAddrA, indexAddrA, lenA, builtinA, newA, unA, packA, Value.cells]; rfl); first | rfl | exact ⟨rfl, rfl, rfl⟩))
  have hA0 := Ab.new (lk := s.nx) s (.cells true 28 [.int .i64 n, .slice b (es.map encE).length c])
  have hs1 := hs.keep hA0
  refine loop_k (lk' := s.nx + 1) (s0 := ⟨_, s.nx + 1⟩) (fun m f t => ∃ k : Nat, k + m = n.toNat ∧ f.get 5 = some (.int .i64 k) ∧ f.get 1 = some (.int .i64 (hullN es k a))) n.toNat (Nat.le_succ _) (Nat.le_refl _) ?_ (Ab.refl _ _) ?_
  · exact ⟨0, by omega, by simp only [Nat.reduceEqDiff, T.get_put, ↓reduceIte]; rfl, by simp only [Nat.reduceEqDiff, Nat.reduceAdd, Nat.zero_add, T.get_put, ↓reduceIte]; rfl⟩
  · rintro m f t ⟨k, hk, h5, h1⟩ hA hF
    (have k2 := hF 2 (by rfl); simp only [Nat.reduceEqDiff, T.get_put, ↓reduceIte] at k2)
    have hbox := hA.get (Nat.le_refl _) (Nat.lt_succ_self s.nx)
    rw [T.get_put_eq] at hbox
    have hst := hs1.keep hA
    have hnx := hA.nx
    dsimp only at hnx
    by_cases hlt : (k : Int) < n
    · repeat (first
  | with_reducible first | apply ops_end | apply d_end | apply k_seq | apply k_seq_ret | apply k_seq_exit | apply k_block | apply k_block_ret | apply k_block_here | apply c_seq | apply c_block | apply c_region | apply c_skip | apply c_ret | apply c_exit | apply c_loop | apply k_loop_exit | apply k_loop_ret | apply if_t | apply if_f
  | (with_reducible apply k_block_on
     · decide)
  | ((with_reducible first | apply xOp | apply xDr | apply xIf); rfl; (simp only [Nat.reduceEqDiff, Nat.reduceAdd, ↓reduceIte, xBB, stG, opA, val, opdA, opdO, plainN, omap, binA, intBinA, loadV, readA, storeV, writeA, fieldAddrA, indexAddrA, lenA, builtinA, newA, unA, packA, Value.cells, h5, k2, fd28_0, ty3, hbox, hlt]; rfl); first | rfl | exact ⟨rfl, rfl, rfl⟩))
      have b2 := k2
      refine loop_k (lk' := t.nx) (s0 := t) (fun m f u => u = t ∧ ∃ j : Nat, j + m = es.length ∧ f.get 6 = some (.int .i64 j) ∧ f.get 1 = some (.int .i64 (((es.take j).foldl hullStep (hullN es k a) : Nat) : Int))) es.length hnx (Nat.le_refl _) ?_ (Ab.refl _ _) ?_
      · exact ⟨rfl, 0, by omega, by simp only [Nat.reduceEqDiff, T.get_put, ↓reduceIte]; rfl, by simp only [Nat.reduceEqDiff, T.get_put, ↓reduceIte, h1]; rfl⟩
      · clear h1
        have h5' := h5
        clear hF
        rintro m2 f2 u ⟨rfl, j, hj, h6, h1⟩ hA2 hF
        (have k2 := hF 2 (by rfl); simp only [Nat.reduceEqDiff, T.get_put, ↓reduceIte, b2, h5'] at k2; have k5 := hF 5 (by rfl); simp only [Nat.reduceEqDiff, T.get_put, ↓reduceIte, b2, h5'] at k5)
        by_cases hjl : (j : Int) < ((es.map encE).length : Int)
        · have hjl' : j < es.length := by simp at hjl; omega
          obtain ⟨id, off, wr, e, cs, rfl, g1, g2, g3, g4⟩ := hst.at (i := j) (x := encE es[j]) (by simp [hjl'])
          have hb : (0 : Int) ≤ (j : Int) ∧ (j : Int) < ((es.map encE).length : Int) := ⟨by omega, hjl⟩
          have hw : IntKind.i64.wrap ((j : Int) + 1) = ((j + 1 : Nat) : Int) := by rw [IntWalk.i64_in _ (by omega)]; rfl
          obtain ⟨q1, q2, q3, q4⟩ := hins es[j] (List.getElem_mem hjl')
          obtain ⟨x, hx⟩ : ∃ x : Nat, es[j].1 = (x : Int) := ⟨es[j].1.toNat, by omega⟩
          obtain ⟨y, hy⟩ : ∃ y : Nat, es[j].2 = (y : Int) := ⟨es[j].2.toNat, by omega⟩
          simp only [encE, hx, hy] at g3
          obtain ⟨p3, p4⟩ := cut_pair g3
          rw [Nat.add_assoc] at p4
          have hset : (es.take j).foldl hullStep (hullN es k a) < 2 ^ 62 := foldl_lt (hullN_lt ha he62 k) fun e he => he62 e (List.mem_of_mem_take he)
          generalize hS : (es.take j).foldl hullStep (hullN es k a) = S at *
          have hS3 : S < 2 ^ 63 := Nat.lt_trans hset (by decide)
          have hsh := shr_i64 (a := S) (k := x) hS3
          have hand := and_one (a := S >>> x) (shr_lt hS3)
          have hbit := bit_eq S x
          have hnext : (es.take (j + 1)).foldl hullStep (hullN es k a) = hullStep S es[j] := by
            rw [List.take_succ_eq_append_getElem hjl', List.foldl_append, hS]; rfl
          by_cases hbt : S.testBit x = true
          · have hshl := shl_i64 (k := y) (by omega)
            have hor := or_i64 (a := S) (b := 2 ^ y) hS3 (Nat.pow_lt_pow_right (by decide) (by omega))
            repeat (first
  | with_reducible first | apply ops_end | apply d_end | apply k_seq | apply k_seq_ret | apply k_seq_exit | apply k_block | apply k_block_ret | apply k_block_here | apply c_seq | apply c_block | apply c_region | apply c_skip | apply c_ret | apply c_exit | apply c_loop | apply k_loop_exit | apply k_loop_ret | apply if_t | apply if_f
  | (with_reducible apply k_block_on
     · decide)
  | ((with_reducible first | apply xOp | apply xDr | apply xIf); rfl; (simp only [Nat.reduceEqDiff, Nat.reduceAdd, ↓reduceIte, xBB, stG, opA, val, opdA, opdO, plainN, omap, binA, intBinA, loadV, readA, storeV, writeA, fieldAddrA, indexAddrA, lenA, builtinA, newA, unA, packA, Value.cells, h6, h1, k2, fd28_1, ty26, hbox, un26, hjl, sz58, hb, fd58_0, fd58_1, ty3, g1, p3, p4, hsh, hand, hbit, hbt, hshl, hor, hw]; rfl); first | rfl | exact ⟨rfl, rfl, rfl⟩))
            intro _ _
            refine k_loop_next (m' := m2 - 1) (by omega) ⟨rfl, j + 1, by omega, by simp only [Nat.reduceEqDiff, T.get_put, ↓reduceIte], ?_⟩
            simp only [Nat.reduceEqDiff, T.get_put, ↓reduceIte]
            rw [hnext, hullStep, hx, hy, Int.toNat_natCast, Int.toNat_natCast, if_pos hbt]
          · simp only [Bool.not_eq_true] at hbt
            repeat (first
  | with_reducible first | apply ops_end | apply d_end | apply k_seq | apply k_seq_ret | apply k_seq_exit | apply k_block | apply k_block_ret | apply k_block_here | apply c_seq | apply c_block | apply c_region | apply c_skip | apply c_ret | apply c_exit | apply c_loop | apply k_loop_exit | apply k_loop_ret | apply if_t | apply if_f
  | (with_reducible apply k_block_on
     · decide)
  | ((with_reducible first | apply xOp | apply xDr | apply xIf); rfl; (simp only [Nat.reduceEqDiff, Nat.reduceAdd, ↓reduceIte, xBB, stG, opA, val, opdA, opdO, plainN, omap, binA, intBinA, loadV, readA, storeV, writeA, fieldAddrA, indexAddrA, lenA, builtinA, newA, unA, packA, Value.cells, h6, h1, k2, fd28_1, ty26, hbox, un26, hjl, sz58, hb, fd58_0, fd58_1, ty3, g1, p3, p4, hsh, hand, hbit, hbt, hw]; rfl); first | rfl | exact ⟨rfl, rfl, rfl⟩))
            intro _ _
            refine k_loop_next (m' := m2 - 1) (by omega) ⟨rfl, j + 1, by omega, by simp only [Nat.reduceEqDiff, T.get_put, ↓reduceIte], ?_⟩
            simp only [Nat.reduceEqDiff, T.get_put, ↓reduceIte, h1]
            rw [hnext, hullStep, hx, Int.toNat_natCast, if_neg (by simp [hbt])]
        · have hall : es.take j = es := List.take_of_length_le (by simp at hjl; omega)
          rw [hall] at h1
          have hw : IntKind.i64.wrap ((k : Int) + 1) = ((k + 1 : Nat) : Int) := by rw [IntWalk.i64_in _ (by omega)]; rfl
          repeat (first
  | with_reducible first | apply ops_end | apply d_end | apply k_seq | apply k_seq_ret | apply k_seq_exit | apply k_block | apply k_block_ret | apply k_block_here | apply c_seq | apply c_block | apply c_region | apply c_skip | apply c_ret | apply c_exit | apply c_loop | apply k_loop_exit | apply k_loop_ret | apply if_t | apply if_f
  | (with_reducible apply k_block_on
     · decide)
  | ((with_reducible first | apply xOp | apply xDr | apply xIf); rfl; (simp only [Nat.reduceEqDiff, Nat.reduceAdd, ↓reduceIte, xBB, stG, opA, val, opdA, opdO, plainN, omap, binA, intBinA, loadV, readA, storeV, writeA, fieldAddrA, indexAddrA, lenA, builtinA, newA, unA, packA, Value.cells, h6, k2, fd28_1, ty26, hbox, un26, hjl]; rfl); first | rfl | exact ⟨rfl, rfl, rfl⟩))
          intro _ _
          repeat (first
  | with_reducible first | apply ops_end | apply d_end | apply k_seq | apply k_seq_ret | apply k_seq_exit | apply k_block | apply k_block_ret | apply k_block_here | apply c_seq | apply c_block | apply c_region | apply c_skip | apply c_ret | apply c_exit | apply c_loop | apply k_loop_exit | apply k_loop_ret | apply if_t | apply if_f
  | (with_reducible apply k_block_on
     · decide)
  | ((with_reducible first | apply xOp | apply xDr | apply xIf); rfl; (simp only [Nat.reduceEqDiff, Nat.reduceAdd, ↓reduceIte, xBB, stG, opA, val, opdA, opdO, plainN, omap, binA, intBinA, loadV, readA, storeV, writeA, fieldAddrA, indexAddrA, lenA, builtinA, newA, unA, packA, Value.cells, k5, hw]; rfl); first | rfl | exact ⟨rfl, rfl, rfl⟩))
          intro _ _
          exact k_loop_next (m' := m - 1) (by omega) ⟨k + 1, by omega, by simp only [Nat.reduceEqDiff, T.get_put, ↓reduceIte], by simp only [Nat.reduceEqDiff, T.get_put, ↓reduceIte, h1]; rfl⟩
    · repeat (first
  | with_reducible first | apply ops_end | apply d_end | apply k_seq | apply k_seq_ret | apply k_seq_exit | apply k_block | apply k_block_ret | apply k_block_here | apply c_seq | apply c_block | apply c_region | apply c_skip | apply c_ret | apply c_exit | apply c_loop | apply k_loop_exit | apply k_loop_ret | apply if_t | apply if_f
  | (with_reducible apply k_block_on
     · decide)
  | ((with_reducible first | apply xOp | apply xDr | apply xIf); rfl; (simp only [Nat.reduceEqDiff, Nat.reduceAdd, ↓reduceIte, xBB, stG, opA, val, opdA, opdO, plainN, omap, binA, intBinA, loadV, readA, storeV, writeA, fieldAddrA, indexAddrA, lenA, builtinA, newA, unA, packA, Value.cells, h5, k2, fd28_0, ty3, hbox, hlt]; rfl); first | rfl | exact ⟨rfl, rfl, rfl⟩))
      intro _ _
      repeat (first
  | with_reducible first | apply ops_end | apply d_end | apply k_seq | apply k_seq_ret | apply k_seq_exit | apply k_block | apply k_block_ret | apply k_block_here | apply c_seq | apply c_block | apply c_region | apply c_skip | apply c_ret | apply c_exit | apply c_loop | apply k_loop_exit | apply k_loop_ret | apply if_t | apply if_f
  | (with_reducible apply k_block_on
     · decide)
  | ((with_reducible first | apply xOp | apply xDr | apply xIf); rfl; (simp only [Nat.reduceEqDiff, Nat.reduceAdd, ↓reduceIte, xBB, stG, opA, val, opdA, opdO, plainN, omap, binA, intBinA, loadV, readA, storeV, writeA, fieldAddrA, indexAddrA, lenA, builtinA, newA, unA, packA, Value.cells, h1]; rfl); first | rfl | exact ⟨rfl, rfl, rfl⟩))
      intro _
      ((with_reducible first | apply ret_i | apply ret_n); (simp only [Nat.reduceEqDiff, Nat.reduceAdd, ↓reduceIte, xBB, resA, opdA, opdO, plainN, omap, val, loadV, readA, packA]; rfl))
      rw [show n.toNat = k by omega]; rfl
end Go.Ev

/- The model: the graph of a net. -/
namespace Go.Ev
open Go Go.Proofs
set_option linter.unusedSimpArgs false
set_option linter.unusedVariables false
set_option maxRecDepth 100000
set_option maxHeartbeats 4000000
attribute [local irreducible] wpOps wpC wpD wpF wpLoop wpCall seqK blockK loopK retK T.put T.get T.setF

theorem build28 (k : Value) (h : k.cells = #[k]) : buildA Tryd.prog 28 [(0, k)] = some (.agg #[k, .slice none 0 0]) := by
  have h1 : fieldsA Tryd.prog 28 = some [{ name := "Nodes", type := 3, offset := 0, embedded := false, tag := "", pkgPath := "", byteOffset := 0 }, { name := "Edges", type := 26, offset := 1, embedded := false, tag := "", pkgPath := "", byteOffset := 8 }] := by kernel_rfl
  unfold fieldsA at h1
  split at h1
  · rename_i fs hfs
    simp only [Option.some.injEq] at h1
    unfold buildA
    simp only [zr28, Option.bind_some, hfs, h1, omap, sz3, sz26, Option.map_some]
    simp only [fillA, List.getElem?_cons_zero, Option.bind_some, h]
    rfl
  · cases h1
theorem build58 (a b : Int) : buildA Tryd.prog 58 [(0, .int .i64 a), (1, .int .i64 b)] = some (.agg #[.int .i64 a, .int .i64 b]) := by
  have h1 : fieldsA Tryd.prog 58 = some [{ name := "From", type := 3, offset := 0, embedded := false, tag := "", pkgPath := "", byteOffset := 0 }, { name := "To", type := 3, offset := 1, embedded := false, tag := "", pkgPath := "", byteOffset := 8 }] := by kernel_rfl
  unfold fieldsA at h1
  split at h1
  · rename_i fs hfs
    simp only [Option.some.injEq] at h1
    unfold buildA
    simp only [zr58, Option.bind_some, hfs, h1, omap, sz3, Option.map_some]
    simp only [fillA, List.getElem?_cons_zero, List.getElem?_cons_succ, Option.bind_some]
    rfl
  · cases h1

theorem Sl.same {s s' : HS} {size : Nat} {v : Value} {xs : List (List Value)} (h : Sl s size v xs) (hn : s.nx ≤ s'.nx) (hg : ∀ id, id < s.nx → s'.hp.get id = s.hp.get id) : Sl s' size v xs := by
  rcases h with ⟨rfl, rfl⟩ | ⟨id, off, cap, wr, e, cs, rfl, h2, h3, h4⟩
  · exact Or.inl ⟨rfl, rfl⟩
  · exact Or.inr ⟨id, off, cap, wr, e, cs, rfl, by rw [hg _ h3]; exact h2, Nat.lt_of_lt_of_le h3 hn, h4⟩

def encU (b : Nat) : List Value := [.int .u8 b]
/-- Does a net have the edge of a number? -/
def hitB (k : Nat) (bs : List Nat) (i : Nat) : Bool := (bs.take 40).any fun b => decide (b % 49 = i / k * 7 + i % k)
def edgeN (k i : Nat) : Int × Int := (((i / k : Nat) : Int), ((i % k : Nat) : Int))
def graphL (k : Nat) (bs : List Nat) (n : Nat) : List (Int × Int) := ((List.range n).filter (hitB k bs)).map (edgeN k)
theorem graphL_succ (k : Nat) (bs : List Nat) (n : Nat) : graphL k bs (n + 1) = graphL k bs n ++ (if hitB k bs n then [edgeN k n] else []) := by
  unfold graphL
  rw [List.range_succ, List.filter_append, List.map_append]
  cases h : hitB k bs n with
  | true => rw [List.filter_cons_of_pos h]; rfl
  | false => rw [List.filter_cons_of_neg (by simp [h])]; rfl
theorem graphL_len (k : Nat) (bs : List Nat) (n : Nat) : (graphL k bs n).length ≤ n := by
  unfold graphL
  rw [List.length_map]
  exact Nat.le_trans (List.length_filter_le _ _) (by simp)
/-- The edges of a net. -/
def netE (k : Nat) (bs : List Nat) : List (Int × Int) := graphL k bs (k * k)

theorem f10_spec [Sorts Tryd.prog] (nb : Nat) (bs : List Nat) (bv : Value) (s : HS) (hs : Sl s 1 bv (bs.map encU)) (hbs : ∀ b ∈ bs, b < 256) (hnb : nb < 256) :
    wpF Tryd.prog s.nx 10 [.agg #[.int .u8 nb, bv]] s (fun v s' => ∃ o ev, v = vG ((nb % 8 : Nat) : Int) ev ∧ Own s' 58 2 o ev ((netE (nb % 8) bs).map encE) ∧ newer s o) := by
  obtain ⟨b, c, rfl⟩ := hs.shape
  refine wpF_of Tryd.func10 rfl rfl rfl rfl (Nat.le_refl _) ?_
  simp only [paramsA]
  have hrem : (nb : Int).tmod 8 = ((nb % 8 : Nat) : Int) := by
    rw [Int.tmod_eq_emod_of_nonneg (by omega)]; rfl
  have h8 : ¬ (8 : Int) = 0 := by decide
  have hcv : IntKind.i64.wrap ((nb % 8 : Nat) : Int) = ((nb % 8 : Nat) : Int) := IntWalk.i64_in _ (by omega)
  have hk8 : nb % 8 < 8 := Nat.mod_lt _ (by decide)
  generalize hk : nb % 8 = k at *
  have hb28 := build28 (.int .i64 k) rfl
  repeat (first
  | with_reducible first | apply ops_end | apply d_end | apply k_seq | apply k_seq_ret | apply k_seq_exit | apply k_block | apply k_block_ret | apply k_block_here | apply c_seq | apply c_block | apply c_region | apply c_skip | apply c_ret | apply c_exit | apply c_loop | apply k_loop_exit | apply k_loop_ret | apply if_t | apply if_f
  | (with_reducible apply k_block_on
     · decide)
  | ((with_reducible first | apply xOp | apply xDr | apply xIf); rfl; (simp only [Nat.reduceEqDiff, Nat.reduceAdd, ↓reduceIte, xBB, stG, opA, val, opdA, opdO, plainN, omap, binA, intBinA, loadV, readA, storeV, writeA, fieldAddrA, indexAddrA, lenA, builtinA, newA, unA, packA, Value.cells, ty24, fd24_0, fd24_1, ty5, hrem, h8, convA, un5, un3, hcv, hb28, zr28, sz28, ty28]; rfl); first | rfl | exact ⟨rfl, rfl, rfl⟩))
  generalize hs3 : ({ hp := (((s.hp.put s.nx (some (.cells true 24 [.int .u8 nb, .slice b (bs.map encU).length c]))).put (s.nx + 1) (some (.cells true 28 [.int .i64 0, .slice none 0 0]))).put (s.nx + 2) (some (.cells true 28 [.int .i64 0, .slice none 0 0]))).put (s.nx + 2) (some (.cells true 28 (putL [.int .i64 0, .slice none 0 0] 0 [.int .i64 k, .slice none 0 0]))), nx := s.nx + 3 } : HS) = s3
  have hn3 : s3.nx = s.nx + 3 := by rw [← hs3]
  have h3lo : ∀ id, id < s.nx → s3.hp.get id = s.hp.get id := fun id h => by
    rw [← hs3]; dsimp only; rw [T.get_put_ne _ _ _ (by omega), T.get_put_ne _ _ _ (by omega), T.get_put_ne _ _ _ (by omega), T.get_put_ne _ _ _ (by omega)]
  have h3a : s3.hp.get s.nx = some (.cells true 24 [.int .u8 nb, .slice b (bs.map encU).length c]) := by
    rw [← hs3]; dsimp only; rw [T.get_put_ne _ _ _ (by omega), T.get_put_ne _ _ _ (by omega), T.get_put_ne _ _ _ (by omega), T.get_put_eq]
  have h3b : s3.hp.get (s.nx + 1) = some (.cells true 28 [.int .i64 0, .slice none 0 0]) := by
    rw [← hs3]; dsimp only; rw [T.get_put_ne _ _ _ (by omega), T.get_put_ne _ _ _ (by omega), T.get_put_eq]
  have h3c : s3.hp.get (s.nx + 2) = some (.cells true 28 [.int .i64 k, .slice none 0 0]) := by rw [← hs3]; exact T.get_put_eq _ _ _
  refine loop_k (lk' := s.nx + 2) (s0 := s3) (fun m f t => ∃ i : Nat, i + m = k * k ∧ f.get 5 = some (.int .i64 i) ∧ ∃ o ev, t.hp.get (s.nx + 2) = some (.cells true 28 [.int .i64 k, ev]) ∧
    Own t 58 2 o ev ((graphL k bs i).map encE) ∧ ∀ id, o = some id → s.nx + 3 ≤ id) (k * k) (by omega) (by omega) ?_ (Ab.refl _ _) ?_
  · exact ⟨0, by omega, by simp only [Nat.reduceEqDiff, T.get_put, ↓reduceIte]; rfl, none, _, h3c, ⟨rfl, rfl⟩, fun id h => (by cases h)⟩
  · have hkk : k * k ≤ 49 := Nat.mul_le_mul (show k ≤ 7 by omega) (show k ≤ 7 by omega)
    have hwk : IntKind.i64.wrap ((k : Int) * (k : Int)) = ((k * k : Nat) : Int) := by rw [← Int.natCast_mul]; exact IntWalk.i64_in _ (by omega)
    rintro m f t ⟨i, hi, h5, o, ev, hbox, hown, ho⟩ hA hF
    (have k1 := hF 1 (by rfl); simp only [Nat.reduceEqDiff, T.get_put, ↓reduceIte] at k1; have k2 := hF 2 (by rfl); simp only [Nat.reduceEqDiff, T.get_put, ↓reduceIte] at k2; have k3 := hF 3 (by rfl); simp only [Nat.reduceEqDiff, T.get_put, ↓reduceIte] at k3; have k4 := hF 4 (by rfl); simp only [Nat.reduceEqDiff, T.get_put, ↓reduceIte] at k4)
    have hnt := hA.nx
    have hsl : Sl t 1 (.slice b (bs.map encU).length c) (bs.map encU) := hs.same (by omega) fun id h => by rw [hA.get (by omega) (by omega)]; exact h3lo id h
    have hta : t.hp.get s.nx = some (.cells true 24 [.int .u8 nb, .slice b (bs.map encU).length c]) := by rw [hA.get (by omega) (by omega)]; exact h3a
    by_cases hlt : (i : Int) < ((k * k : Nat) : Int)
    · have hlt' : i < k * k := by omega
      have hk0 : 0 < k := by rcases Nat.eq_zero_or_pos k with h | h; · subst h; omega
                             · exact h
      have hwi : IntKind.i64.wrap ((i : Int) + 1) = ((i + 1 : Nat) : Int) := by rw [IntWalk.i64_in _ (by omega)]; rfl
      repeat (first
  | with_reducible first | apply ops_end | apply d_end | apply k_seq | apply k_seq_ret | apply k_seq_exit | apply k_block | apply k_block_ret | apply k_block_here | apply c_seq | apply c_block | apply c_region | apply c_skip | apply c_ret | apply c_exit | apply c_loop | apply k_loop_exit | apply k_loop_ret | apply if_t | apply if_f
  | (with_reducible apply k_block_on
     · decide)
  | ((with_reducible first | apply xOp | apply xDr | apply xIf); rfl; (simp only [Nat.reduceEqDiff, Nat.reduceAdd, ↓reduceIte, xBB, stG, opA, val, opdA, opdO, plainN, omap, binA, intBinA, loadV, readA, storeV, writeA, fieldAddrA, indexAddrA, lenA, builtinA, newA, unA, packA, Value.cells, h5, k3, hwk, hlt]; rfl); first | rfl | exact ⟨rfl, rfl, rfl⟩))
      have b1 := k1
      have b3 := k3
      have b4 := k4
      have b5 := h5
      refine loop_k (lk' := s.nx + 2) (s0 := t) (fun m f u => u = t ∧ ∃ j : Nat, j + m = bs.length ∧ f.get 6 = some (.int .i64 j) ∧ ((bs.take 40).drop j).any (fun b => decide (b % 49 = i / k * 7 + i % k)) = hitB k bs i) bs.length (Nat.le_refl _) (by omega) ?_ (Ab.refl _ _) ?_
      · exact ⟨rfl, 0, by omega, by simp only [Nat.reduceEqDiff, T.get_put, ↓reduceIte]; rfl, rfl⟩
      · clear k1 k3 k4
        rintro m2 f2 u ⟨rfl, j, hj, h6, hhit⟩ hA2 hF2
        have hF := hF2
        (have k1 := hF 1 (by rfl); simp only [Nat.reduceEqDiff, T.get_put, ↓reduceIte, b1, b3, b4, b5] at k1; have k3 := hF 3 (by rfl); simp only [Nat.reduceEqDiff, T.get_put, ↓reduceIte, b1, b3, b4, b5] at k3; have k4 := hF 4 (by rfl); simp only [Nat.reduceEqDiff, T.get_put, ↓reduceIte, b1, b3, b4, b5] at k4; have k5 := hF 5 (by rfl); simp only [Nat.reduceEqDiff, T.get_put, ↓reduceIte, b1, b3, b4, b5] at k5)
        clear hF hF2
        by_cases hjl : (j : Int) < ((bs.map encU).length : Int)
        · have hjl' : j < bs.length := by simp at hjl; omega
          by_cases hj40 : (j : Int) < 40
          · have hj40' : j < 40 := by omega
            have hjt : j < (bs.take 40).length := by rw [List.length_take]; omega
            have hbj : (bs.take 40)[j] = bs[j] := List.getElem_take
            have hdrop : (bs.take 40).drop j = bs[j] :: (bs.take 40).drop (j + 1) := by rw [List.drop_eq_getElem_cons hjt, hbj]
            rw [hdrop, List.any_cons] at hhit
            have hb256 := hbs bs[j] (List.getElem_mem hjl')
            obtain ⟨id, off, wr, e, cs, rfl, g1, g2, g3, g4⟩ := hsl.at (i := j) (x := encU bs[j]) (by simp [hjl'])
            have hb : (0 : Int) ≤ (j : Int) ∧ (j : Int) < ((bs.map encU).length : Int) := ⟨by omega, hjl⟩
            have hw : IntKind.i64.wrap ((j : Int) + 1) = ((j + 1 : Nat) : Int) := by rw [IntWalk.i64_in _ (by omega)]; rfl
            have hcb : IntKind.i64.wrap ((bs[j] : Nat) : Int) = ((bs[j] : Nat) : Int) := IntWalk.i64_in _ (by omega)
            have h49 : ¬ (49 : Int) = 0 := by decide
            have hm49 : ((bs[j] : Nat) : Int).tmod 49 = ((bs[j] % 49 : Nat) : Int) := by rw [Int.tmod_eq_emod_of_nonneg (by omega)]; rfl
            have hk0' : ¬ ((k : Int) = 0) := by omega
            have hik : i / k < 7 := by rw [Nat.div_lt_iff_lt_mul hk0]; exact Nat.lt_of_lt_of_le hlt' (Nat.mul_le_mul_right _ (by omega))
            have hik2 : i % k < k := Nat.mod_lt _ hk0
            have hdiv : IntKind.i64.wrap ((i : Int).tdiv (k : Int)) = ((i / k : Nat) : Int) := by
              rw [Int.tdiv_eq_ediv_of_nonneg (by omega), ← Int.natCast_ediv]; exact wrapN (Nat.lt_trans hik (by decide))
            have hmod : (i : Int).tmod (k : Int) = ((i % k : Nat) : Int) := by rw [Int.tmod_eq_emod_of_nonneg (by omega)]; exact (Int.natCast_emod _ _).symm
            have hm7 : IntKind.i64.wrap (((i / k : Nat) : Int) * 7) = ((i / k * 7 : Nat) : Int) := by
              show IntKind.i64.wrap (((i / k : Nat) : Int) * ((7 : Nat) : Int)) = _
              rw [← Int.natCast_mul]; exact wrapN (Nat.lt_trans (Nat.mul_lt_mul_of_pos_right hik (by decide)) (by decide))
            have hadd : IntKind.i64.wrap (((i / k * 7 : Nat) : Int) + ((i % k : Nat) : Int)) = ((i / k * 7 + i % k : Nat) : Int) := by
              rw [← Int.natCast_add]; exact wrapN (Nat.lt_trans (Nat.add_lt_add (Nat.mul_lt_mul_of_pos_right hik (show 0 < 7 by decide)) (Nat.lt_trans hik2 hk8)) (by decide))
            simp only [encU] at g3
            repeat (first
  | with_reducible first | apply ops_end | apply d_end | apply k_seq | apply k_seq_ret | apply k_seq_exit | apply k_block | apply k_block_ret | apply k_block_here | apply c_seq | apply c_block | apply c_region | apply c_skip | apply c_ret | apply c_exit | apply c_loop | apply k_loop_exit | apply k_loop_ret | apply if_t | apply if_f
  | (with_reducible apply k_block_on
     · decide)
  | ((with_reducible first | apply xOp | apply xDr | apply xIf); rfl; (simp only [Nat.reduceEqDiff, Nat.reduceAdd, ↓reduceIte, xBB, stG, opA, val, opdA, opdO, plainN, omap, binA, intBinA, loadV, readA, storeV, writeA, fieldAddrA, indexAddrA, lenA, builtinA, newA, unA, packA, Value.cells, h6, k1, k3, k4, k5, fd24_1, ty22, hta, un22, hjl, hj40]; rfl); first | rfl | exact ⟨rfl, rfl, rfl⟩))
            refine c_draw [⟨true, [], none⟩, ⟨true, [], none⟩, ⟨false, [], none⟩, ⟨true, [], none⟩, ⟨true, [], none⟩, ⟨true, [], none⟩, ⟨true, [], none⟩, ⟨false, [], none⟩, ⟨false, [], none⟩, ⟨false, [], none⟩, ⟨false, [], none⟩, ⟨false, [], none⟩, ⟨false, [], none⟩, ⟨false, [], none⟩, ⟨false, [], none⟩, ⟨true, [], none⟩] (by kernel_rfl) ?_
            by_cases hit : bs[j] % 49 = i / k * 7 + i % k
            · have hbeq : (((bs[j] % 49 : Nat) : Int) == ((i / k * 7 + i % k : Nat) : Int)) = true := by rw [hit]; exact beq_self_eq_true _
              have hfound : hitB k bs i = true := by rw [← hhit, hit]; simp
              repeat (first
  | with_reducible first | apply ops_end | apply d_end | apply k_seq | apply k_seq_ret | apply k_seq_exit | apply k_block | apply k_block_ret | apply k_block_here | apply c_seq | apply c_block | apply c_region | apply c_skip | apply c_ret | apply c_exit | apply c_loop | apply k_loop_exit | apply k_loop_ret | apply if_t | apply if_f
  | (with_reducible apply k_block_on
     · decide)
  | ((with_reducible first | apply xOp | apply xDr | apply xIf); rfl; (simp only [Nat.reduceEqDiff, Nat.reduceAdd, ↓reduceIte, xBB, stG, opA, val, opdA, opdO, plainN, omap, binA, intBinA, loadV, readA, storeV, writeA, fieldAddrA, indexAddrA, lenA, builtinA, newA, unA, packA, Value.cells, h6, k1, k3, k4, k5, fd24_1, ty22, hta, un22, sz5, hb, ty5, g1, g3, convA, un5, un3, hcb, h49, hm49, hk0', hdiv, hmod, hm7, hadd, hbeq]; rfl); first | rfl | exact ⟨rfl, rfl, rfl⟩))
              refine c_draw [⟨false, [], none⟩, ⟨false, [], none⟩, ⟨false, [], none⟩, ⟨false, [], none⟩, ⟨false, [], none⟩, ⟨false, [], none⟩, ⟨false, [], none⟩, ⟨false, [], none⟩, ⟨false, [], none⟩, ⟨false, [1], none⟩, ⟨true, [], none⟩, ⟨true, [], none⟩, ⟨true, [], none⟩] (by kernel_rfl) ?_
              have hb58 := build58 ((i / k : Nat) : Int) ((i % k : Nat) : Int)
              repeat (first
      | with_reducible first | apply ops_end | apply d_end | apply k_seq | apply k_seq_ret | apply k_seq_exit | apply k_block | apply k_block_ret | apply k_block_here | apply c_seq | apply c_block | apply c_region | apply c_skip | apply c_ret | apply c_exit | apply c_loop | apply k_loop_exit | apply k_loop_ret
      | (with_reducible apply k_block_on
         · decide)
      | ((first
          | (with_reducible apply ops_do
             · rfl)
          | (with_reducible apply d_same
             · rfl
             · rfl))
         · (simp only [Nat.reduceEqDiff, opA, val, opdA, opdO, T.get_put, ↓reduceIte, Nat.add_assoc, Nat.reduceAdd, Nat.left_eq_add, Nat.add_eq_left, Nat.add_left_cancel_iff, Nat.add_zero, plainN, omap, Option.map_some, Option.bind_some, Nat.le_add_right, Nat.le_refl, binA, intBinA, loadV, readA, storeV, writeA, fieldAddrA, indexAddrA, lenA, builtinA, newA, unA, packA, if_true, and_self, and_true, true_and, Value.cells, Int.toNat_natCast, decide_true, decide_false, cond_true, cond_false, k3, k4, k5, fd28_1, ty26, hbox, hk0', hdiv, hmod, hb58, buildSliceA, el26, sz58, zr58, zerosL, fillA]; rfl)
         · rfl
         try (· rfl))
      | ((first
          | (with_reducible apply d_do
             · rfl
             · rfl)
          | (with_reducible apply d_quiet
             · rfl
             · rfl
             · rfl))
         · (simp only [Nat.reduceEqDiff, opA, val, opdA, opdO, T.get_put, ↓reduceIte, Nat.add_assoc, Nat.reduceAdd, Nat.left_eq_add, Nat.add_eq_left, Nat.add_left_cancel_iff, Nat.add_zero, plainN, omap, Option.map_some, Option.bind_some, Nat.le_add_right, Nat.le_refl, binA, intBinA, loadV, readA, storeV, writeA, fieldAddrA, indexAddrA, lenA, builtinA, newA, unA, packA, if_true, and_self, and_true, true_and, Value.cells, Int.toNat_natCast, decide_true, decide_false, cond_true, cond_false, k3, k4, k5, fd28_1, ty26, hbox, hk0', hdiv, hmod, hb58, buildSliceA, el26, sz58, zr58, zerosL, fillA]; rfl)
         first
         | · rfl
         | (· (simp only [Nat.reduceEqDiff, loadBlk, opdA, T.get_put, ↓reduceIte, k3, k4, k5, fd28_1, ty26, hbox, hk0', hdiv, hmod, hb58, buildSliceA, el26, sz58, zr58, zerosL, fillA]; rfl)
            · rfl))
      | ((first
          | with_reducible apply ops_skipG
          | (with_reducible apply d_skip
             · rfl))
         · rfl
         · rfl
         · (simp only [Nat.reduceEqDiff, T.get_put, ↓reduceIte, k3, k4, k5, fd28_1, ty26, hbox, hk0', hdiv, hmod, hb58, buildSliceA, el26, sz58, zr58, zerosL, fillA]; rfl)
         · (simp only [decide_true, decide_false, k3, k4, k5, fd28_1, ty26, hbox, hk0', hdiv, hmod, hb58, buildSliceA, el26, sz58, zr58, zerosL, fillA, bt_tf, bt_ft, bt_tt, bt_ff]; done)
         · rfl)
      | ((first
          | with_reducible apply ops_doG
          | (with_reducible apply d_sameG
             · rfl))
         · rfl
         · rfl
         · (simp only [Nat.reduceEqDiff, T.get_put, ↓reduceIte, k3, k4, k5, fd28_1, ty26, hbox, hk0', hdiv, hmod, hb58, buildSliceA, el26, sz58, zr58, zerosL, fillA]; rfl)
         · (simp only [decide_true, decide_false, k3, k4, k5, fd28_1, ty26, hbox, hk0', hdiv, hmod, hb58, buildSliceA, el26, sz58, zr58, zerosL, fillA, bt_tf, bt_ft, bt_tt, bt_ff]; done)
         · (simp only [Nat.reduceEqDiff, opA, val, opdA, opdO, T.get_put, ↓reduceIte, Nat.add_assoc, Nat.reduceAdd, Nat.left_eq_add, Nat.add_eq_left, Nat.add_left_cancel_iff, Nat.add_zero, plainN, omap, Option.map_some, Option.bind_some, Nat.le_add_right, Nat.le_refl, binA, intBinA, loadV, readA, storeV, writeA, fieldAddrA, indexAddrA, lenA, builtinA, newA, unA, packA, if_true, and_self, and_true, true_and, Value.cells, Int.toNat_natCast, decide_true, decide_false, cond_true, cond_false, k3, k4, k5, fd28_1, ty26, hbox, hk0', hdiv, hmod, hb58, buildSliceA, el26, sz58, zr58, zerosL, fillA]; rfl)
         · rfl
         try (· rfl))
      | (with_reducible apply c_if
         · (simp only [Nat.reduceEqDiff, opdA, opdO, T.get_put, ↓reduceIte, Nat.add_assoc, Nat.reduceAdd, Nat.left_eq_add, Nat.add_eq_left, Nat.add_left_cancel_iff, Nat.add_zero, plainN, omap, Option.map_some, Option.bind_some, Nat.le_add_right, Nat.le_refl, decide_true, decide_false, k3, k4, k5, fd28_1, ty26, hbox, hk0', hdiv, hmod, hb58, buildSliceA, el26, sz58, zr58, zerosL, fillA]; rfl)
         with_reducible first | apply if_t | apply if_f))
              ((with_reducible first | apply ops_opt | apply xPd); (first | rfl | exact ⟨rfl, rfl⟩); (simp only [Nat.reduceEqDiff, Nat.reduceAdd, ↓reduceIte, xBB, opA, val, opdA, opdO, plainN, omap, binA, intBinA, loadV, readA, storeV, writeA, fieldAddrA, indexAddrA, lenA, builtinA, newA, unA, packA, Value.cells, un26]; rfl))
              have hown2 : Own { hp := u.hp.put u.nx (some (.cells true 58 (putL ([.int .i64 0, .int .i64 0] ++ []) (0 * 2) [.int .i64 ((i / k : Nat) : Int), .int .i64 ((i % k : Nat) : Int)]))), nx := u.nx + 1 } 58 2 o ev ((graphL k bs i).map encE) :=
                hown.same (Nat.le_succ _) fun id h => T.get_put_ne _ _ _ (by have := hown.lt h; omega)
              have hgl := graphL_len k bs i
              refine opt_ex (app_one (lk := s.nx + 2) (y := encE (edgeN k i)) el26 sz58 by58 zr58 rfl (by decide) hown2 (fun id h => by have := ho id h; omega) (T.get_put_eq _ _ _) rfl rfl (by simp; omega)) fun q hq => ?_
              obtain ⟨pv, s5⟩ := q
              obtain ⟨p1, p2, o', p3, p4⟩ := hq
              dsimp only at p1 p2 p3
              have hb5 : s5.hp.get (s.nx + 2) = some (.cells true 28 [.int .i64 k, ev]) := by
                rw [p2 _ (by omega) (fun h => by have := ho _ h; omega), T.get_put_ne _ _ _ (by omega)]; exact hbox
              obtain ⟨vb, vc, rfl⟩ := p3.shape
              have hl1 : ([Value.slice vb ((graphL k bs i).map encE ++ [encE (edgeN k i)]).length vc] : List Value).length = 1 := rfl
              have hone : ([Value.slice vb ((graphL k bs i).map encE ++ [encE (edgeN k i)]).length vc] : List Value).all Value.oneCell' = true := rfl
              have hl2 : 1 + 1 ≤ ([Value.int .i64 (k : Int), ev] : List Value).length := Nat.le_refl _
              have hlk : s.nx + 2 ≤ s.nx + 2 := Nat.le_refl _
              refine opt_of rfl ?_
              repeat (first
  | with_reducible first | apply ops_end | apply d_end | apply k_seq | apply k_seq_ret | apply k_seq_exit | apply k_block | apply k_block_ret | apply k_block_here | apply c_seq | apply c_block | apply c_region | apply c_skip | apply c_ret | apply c_exit | apply c_loop | apply k_loop_exit | apply k_loop_ret | apply if_t | apply if_f
  | (with_reducible apply k_block_on
     · decide)
  | ((with_reducible first | apply xOp | apply xDr | apply xIf); rfl; (simp only [Nat.reduceEqDiff, Nat.reduceAdd, ↓reduceIte, xBB, stG, opA, val, opdA, opdO, plainN, omap, binA, intBinA, loadV, readA, storeV, writeA, fieldAddrA, indexAddrA, lenA, builtinA, newA, unA, packA, Value.cells, k4, fd28_1, sz26, hb5, hl1, hone, hl2, hlk, List.toList_toArray]; rfl); first | rfl | exact ⟨rfl, rfl, rfl⟩))
              intro _ _
              repeat (first
  | with_reducible first | apply ops_end | apply d_end | apply k_seq | apply k_seq_ret | apply k_seq_exit | apply k_block | apply k_block_ret | apply k_block_here | apply c_seq | apply c_block | apply c_region | apply c_skip | apply c_ret | apply c_exit | apply c_loop | apply k_loop_exit | apply k_loop_ret | apply if_t | apply if_f
  | (with_reducible apply k_block_on
     · decide)
  | ((with_reducible first | apply xOp | apply xDr | apply xIf); rfl; (simp only [Nat.reduceEqDiff, Nat.reduceAdd, ↓reduceIte, xBB, stG, opA, val, opdA, opdO, plainN, omap, binA, intBinA, loadV, readA, storeV, writeA, fieldAddrA, indexAddrA, lenA, builtinA, newA, unA, packA, Value.cells, k5, hwi]; rfl); first | rfl | exact ⟨rfl, rfl, rfl⟩))
              intro _ _
              have ho' : ∀ id, o' = some id → s.nx + 3 ≤ id := fun id h => by
                rcases p4 with rfl | rfl
                · exact ho id h
                · cases h; show s.nx + 3 ≤ u.nx + 1; omega
              refine k_loop_next (m' := m - 1) (by omega) ⟨i + 1, by omega, by simp only [Nat.reduceEqDiff, T.get_put, ↓reduceIte], o', _, T.get_put_eq _ _ _, ?_, ho'⟩
              rw [graphL_succ, hfound, if_pos rfl, List.map_append]
              exact p3.same (Nat.le_refl _) fun id h => T.get_put_ne _ _ _ (by have := ho' id h; omega)
            · have hbeq : (((bs[j] % 49 : Nat) : Int) == ((i / k * 7 + i % k : Nat) : Int)) = false := by
                rw [beq_eq_false_iff_ne]; intro h; exact hit (by exact_mod_cast h)
              rw [decide_eq_false hit, Bool.false_or] at hhit
              repeat (first
  | with_reducible first | apply ops_end | apply d_end | apply k_seq | apply k_seq_ret | apply k_seq_exit | apply k_block | apply k_block_ret | apply k_block_here | apply c_seq | apply c_block | apply c_region | apply c_skip | apply c_ret | apply c_exit | apply c_loop | apply k_loop_exit | apply k_loop_ret | apply if_t | apply if_f
  | (with_reducible apply k_block_on
     · decide)
  | ((with_reducible first | apply xOp | apply xDr | apply xIf); rfl; (simp only [Nat.reduceEqDiff, Nat.reduceAdd, ↓reduceIte, xBB, stG, opA, val, opdA, opdO, plainN, omap, binA, intBinA, loadV, readA, storeV, writeA, fieldAddrA, indexAddrA, lenA, builtinA, newA, unA, packA, Value.cells, h6, k1, k3, k4, k5, fd24_1, ty22, hta, un22, sz5, hb, ty5, g1, g3, convA, un5, un3, hcb, h49, hm49, hk0', hdiv, hmod, hm7, hadd, hbeq, hw]; rfl); first | rfl | exact ⟨rfl, rfl, rfl⟩))
              intro _ _
              exact k_loop_next (m' := m2 - 1) (by omega) ⟨rfl, j + 1, by omega, by simp only [Nat.reduceEqDiff, T.get_put, ↓reduceIte], hhit⟩
          · have hno : hitB k bs i = false := by rw [← hhit, List.drop_eq_nil_of_le (by rw [List.length_take]; omega)]; rfl
            repeat (first
  | with_reducible first | apply ops_end | apply d_end | apply k_seq | apply k_seq_ret | apply k_seq_exit | apply k_block | apply k_block_ret | apply k_block_here | apply c_seq | apply c_block | apply c_region | apply c_skip | apply c_ret | apply c_exit | apply c_loop | apply k_loop_exit | apply k_loop_ret | apply if_t | apply if_f
  | (with_reducible apply k_block_on
     · decide)
  | ((with_reducible first | apply xOp | apply xDr | apply xIf); rfl; (simp only [Nat.reduceEqDiff, Nat.reduceAdd, ↓reduceIte, xBB, stG, opA, val, opdA, opdO, plainN, omap, binA, intBinA, loadV, readA, storeV, writeA, fieldAddrA, indexAddrA, lenA, builtinA, newA, unA, packA, Value.cells, h6, k1, fd24_1, ty22, hta, un22, hjl, hj40]; rfl); first | rfl | exact ⟨rfl, rfl, rfl⟩))
            intro _ _
            repeat (first
  | with_reducible first | apply ops_end | apply d_end | apply k_seq | apply k_seq_ret | apply k_seq_exit | apply k_block | apply k_block_ret | apply k_block_here | apply c_seq | apply c_block | apply c_region | apply c_skip | apply c_ret | apply c_exit | apply c_loop | apply k_loop_exit | apply k_loop_ret | apply if_t | apply if_f
  | (with_reducible apply k_block_on
     · decide)
  | ((with_reducible first | apply xOp | apply xDr | apply xIf); rfl; (simp only [Nat.reduceEqDiff, Nat.reduceAdd, ↓reduceIte, xBB, stG, opA, val, opdA, opdO, plainN, omap, binA, intBinA, loadV, readA, storeV, writeA, fieldAddrA, indexAddrA, lenA, builtinA, newA, unA, packA, Value.cells, k5, hwi]; rfl); first | rfl | exact ⟨rfl, rfl, rfl⟩))
            intro _ _
            refine k_loop_next (m' := m - 1) (by omega) ⟨i + 1, by omega, by simp only [Nat.reduceEqDiff, T.get_put, ↓reduceIte], o, ev, hbox, ?_, ho⟩
            rw [graphL_succ, hno]; simpa using hown
        · have hno : hitB k bs i = false := by rw [← hhit, List.drop_eq_nil_of_le (by rw [List.length_take]; simp at hjl; omega)]; rfl
          repeat (first
  | with_reducible first | apply ops_end | apply d_end | apply k_seq | apply k_seq_ret | apply k_seq_exit | apply k_block | apply k_block_ret | apply k_block_here | apply c_seq | apply c_block | apply c_region | apply c_skip | apply c_ret | apply c_exit | apply c_loop | apply k_loop_exit | apply k_loop_ret | apply if_t | apply if_f
  | (with_reducible apply k_block_on
     · decide)
  | ((with_reducible first | apply xOp | apply xDr | apply xIf); rfl; (simp only [Nat.reduceEqDiff, Nat.reduceAdd, ↓reduceIte, xBB, stG, opA, val, opdA, opdO, plainN, omap, binA, intBinA, loadV, readA, storeV, writeA, fieldAddrA, indexAddrA, lenA, builtinA, newA, unA, packA, Value.cells, h6, k1, fd24_1, ty22, hta, un22, hjl]; rfl); first | rfl | exact ⟨rfl, rfl, rfl⟩))
          intro _ _
          repeat (first
  | with_reducible first | apply ops_end | apply d_end | apply k_seq | apply k_seq_ret | apply k_seq_exit | apply k_block | apply k_block_ret | apply k_block_here | apply c_seq | apply c_block | apply c_region | apply c_skip | apply c_ret | apply c_exit | apply c_loop | apply k_loop_exit | apply k_loop_ret | apply if_t | apply if_f
  | (with_reducible apply k_block_on
     · decide)
  | ((with_reducible first | apply xOp | apply xDr | apply xIf); rfl; (simp only [Nat.reduceEqDiff, Nat.reduceAdd, ↓reduceIte, xBB, stG, opA, val, opdA, opdO, plainN, omap, binA, intBinA, loadV, readA, storeV, writeA, fieldAddrA, indexAddrA, lenA, builtinA, newA, unA, packA, Value.cells, k5, hwi]; rfl); first | rfl | exact ⟨rfl, rfl, rfl⟩))
          intro _ _
          refine k_loop_next (m' := m - 1) (by omega) ⟨i + 1, by omega, by simp only [Nat.reduceEqDiff, T.get_put, ↓reduceIte], o, ev, hbox, ?_, ho⟩
          rw [graphL_succ, hno]; simpa using hown
    · have hik : i = k * k := by omega
      subst hik
      repeat (first
  | with_reducible first | apply ops_end | apply d_end | apply k_seq | apply k_seq_ret | apply k_seq_exit | apply k_block | apply k_block_ret | apply k_block_here | apply c_seq | apply c_block | apply c_region | apply c_skip | apply c_ret | apply c_exit | apply c_loop | apply k_loop_exit | apply k_loop_ret | apply if_t | apply if_f
  | (with_reducible apply k_block_on
     · decide)
  | ((with_reducible first | apply xOp | apply xDr | apply xIf); rfl; (simp only [Nat.reduceEqDiff, Nat.reduceAdd, ↓reduceIte, xBB, stG, opA, val, opdA, opdO, plainN, omap, binA, intBinA, loadV, readA, storeV, writeA, fieldAddrA, indexAddrA, lenA, builtinA, newA, unA, packA, Value.cells, h5, k3, hwk, hlt]; rfl); first | rfl | exact ⟨rfl, rfl, rfl⟩))
      intro _ _
      have htb : t.hp.get (s.nx + 1) = some (.cells true 28 [.int .i64 0, .slice none 0 0]) := by rw [hA.get (by omega) (by omega)]; exact h3b
      obtain ⟨vb, vc, rfl⟩ := hown.shape
      have hl2 : ([Value.int .i64 (k : Int), .slice vb ((graphL k bs (k * k)).map encE).length vc] : List Value).length = 2 := rfl
      have hone : ([Value.int .i64 (k : Int), .slice vb ((graphL k bs (k * k)).map encE).length vc] : List Value).all Value.oneCell' = true := rfl
      have hlk : s.nx ≤ s.nx + 1 := Nat.le_succ _
      repeat (first
  | with_reducible first | apply ops_end | apply d_end | apply k_seq | apply k_seq_ret | apply k_seq_exit | apply k_block | apply k_block_ret | apply k_block_here | apply c_seq | apply c_block | apply c_region | apply c_skip | apply c_ret | apply c_exit | apply c_loop | apply k_loop_exit | apply k_loop_ret | apply if_t | apply if_f
  | (with_reducible apply k_block_on
     · decide)
  | ((with_reducible first | apply xOp | apply xDr | apply xIf); rfl; (simp only [Nat.reduceEqDiff, Nat.reduceAdd, ↓reduceIte, xBB, stG, opA, val, opdA, opdO, plainN, omap, binA, intBinA, loadV, readA, storeV, writeA, fieldAddrA, indexAddrA, lenA, builtinA, newA, unA, packA, Value.cells, k4, k2, ty28, sz28, hbox, htb, cutL, hone, hlk, List.drop_zero, List.toList_toArray]; rfl); first | rfl | exact ⟨rfl, rfl, rfl⟩))
      intro _
      ((with_reducible first | apply ret_i | apply ret_n); (simp only [Nat.reduceEqDiff, Nat.reduceAdd, ↓reduceIte, xBB, resA, opdA, opdO, plainN, omap, val, loadV, readA, packA, ty28, cutL, k2]; rfl))
      refine ⟨o, _, rfl, ?_, fun id h => by have := ho id h; omega⟩
      exact hown.same (Nat.le_refl _) fun id h => T.get_put_ne _ _ _ (by have := ho id h; omega)
end Go.Ev

/- Plain laws: the graph of a net is one; the hull of the model is what is reached. -/
set_option linter.unusedSimpArgs false
set_option linter.unusedVariables false
namespace Go.Ev
open Go

/-! ### The graph of a net -/
theorem cmpI_lt {a b : Int} (h : a < b) : cmpI a b = -1 := by unfold cmpI; rw [if_pos h]
theorem cmpI_eq (a : Int) : cmpI a a = 0 := by unfold cmpI; rw [if_neg (by omega), if_neg (by omega)]

theorem ordE_edge {k i j : Nat} (hij : i < j) : ordE (edgeN k i) (edgeN k j) < 0 := by
  unfold ordE edgeN
  simp only
  have hle : i / k ≤ j / k := Nat.div_le_div_right (by omega)
  rcases Nat.lt_or_ge (i / k) (j / k) with h | h
  · rw [cmpI_lt (by exact_mod_cast h), orI, if_pos (by decide)]; decide
  · have he : i / k = j / k := by omega
    have hm : i % k < j % k := by
      have h1 := Nat.div_add_mod i k
      have h2 := Nat.div_add_mod j k
      rw [he] at h1
      omega
    rw [he, cmpI_eq, cmpI_lt (by exact_mod_cast hm)]
    decide

theorem incr_pair : ∀ {l : List (Int × Int)}, l.Pairwise (fun x y => ordE x y < 0) → incr l = true := by
  intro l
  induction l with
  | nil => intro _; rfl
  | cons x l ih =>
    intro h
    cases l with
    | nil => rfl
    | cons y l =>
      rw [incr, ih (List.Pairwise.tail h)]
      have := (List.pairwise_cons.1 h).1 y List.mem_cons_self
      simp [this]

theorem netE_good {k : Nat} (bs : List Nat) (hk : k < 8) : checkR k (netE k bs) = 0 := by
  unfold checkR
  have hlen := graphL_len k bs (k * k)
  have hmem : ∀ e ∈ netE k bs, outside (k : Int) e = false := fun e he => by
    unfold netE graphL at he
    simp only [List.mem_map, List.mem_filter, List.mem_range] at he
    obtain ⟨i, ⟨h1, _⟩, rfl⟩ := he
    have hk0 : 0 < k := by rcases Nat.eq_zero_or_pos k with h | h; · subst h; omega
                           · exact h
    have h2 : i / k < k := by rw [Nat.div_lt_iff_lt_mul hk0]; exact h1
    have h3 : i % k < k := Nat.mod_lt _ hk0
    unfold outside beyondB edgeN
    simp only [Bool.or_eq_false_iff, decide_eq_false_iff_not]
    refine ⟨⟨?_, ?_⟩, ?_, ?_⟩ <;> generalize i / k = a at * <;> generalize i % k = b at * <;> omega
  have hinc : incr (netE k bs) = true := by
    refine incr_pair ?_
    unfold netE graphL
    rw [List.pairwise_map]
    refine List.Pairwise.filter _ ?_
    exact List.Pairwise.imp (fun {a b} h => ordE_edge h) List.pairwise_lt_range
  rw [if_neg (by omega), if_neg, if_neg, hinc, if_pos rfl]
  · intro h
    obtain ⟨e, h1, h2⟩ := List.any_eq_true.1 h
    rw [hmem e h1] at h2; cases h2
  · rw [← Int.natCast_mul]
    unfold netE
    omega

/-! ### The hull -/
theorem hullStep_mono {S : Nat} {e : Int × Int} {j : Nat} (h : S.testBit j = true) : (hullStep S e).testBit j = true := by
  unfold hullStep
  split
  · rw [setBit, h]; rfl
  · exact h
theorem foldl_mono {es : List (Int × Int)} : ∀ {S : Nat} {j : Nat}, S.testBit j = true → (es.foldl hullStep S).testBit j = true := by
  induction es with
  | nil => intro S j h; exact h
  | cons e es ih => intro S j h; exact ih (hullStep_mono h)
theorem foldl_edge {es : List (Int × Int)} : ∀ {S : Nat} {e : Int × Int}, e ∈ es → S.testBit e.1.toNat = true → (es.foldl hullStep S).testBit e.2.toNat = true := by
  induction es with
  | nil => intro S e h; cases h
  | cons x es ih =>
    intro S e h hS
    rcases List.mem_cons.1 h with rfl | h
    · rw [List.foldl_cons]
      refine foldl_mono ?_
      unfold hullStep
      rw [if_pos hS, setBit]; simp
    · exact ih h (hullStep_mono hS)

theorem hullN_sound {n : Int} {es : List (Int × Int)} {a : Nat} (hg : GoodG n es) : ∀ (k j : Nat), (hullN es k a).testBit j = true → ∃ i : Nat, a.testBit i = true ∧ Rch es i j := by
  have step : ∀ (fs : List (Int × Int)), (∀ e ∈ fs, e ∈ es) → ∀ S : Nat, (∀ j : Nat, S.testBit j = true → ∃ i : Nat, a.testBit i = true ∧ Rch es i j) → ∀ j : Nat, (fs.foldl hullStep S).testBit j = true → ∃ i : Nat, a.testBit i = true ∧ Rch es i j := by
    intro fs
    induction fs with
    | nil => intro _ S hS j h; exact hS j h
    | cons e fs ih =>
      intro hm S hS j h
      refine ih (fun x hx => hm x (List.mem_cons_of_mem _ hx)) (hullStep S e) (fun j hj => ?_) j h
      unfold hullStep at hj
      split at hj
      · rename_i hb
        rw [setBit, Bool.or_eq_true] at hj
        rcases hj with hj | hj
        · exact hS j hj
        · have hj' : j = e.2.toNat := by simpa using hj
          obtain ⟨i, h1, h2⟩ := hS _ hb
          have he := hm e List.mem_cons_self
          obtain ⟨q1, q2, q3, q4⟩ := hg.ins e he
          refine ⟨i, h1, .step h2 ?_⟩
          rw [hj', Int.toNat_of_nonneg q1, Int.toNat_of_nonneg q3]; exact he
      · exact hS j hj
  intro k
  induction k with
  | zero => intro j h; exact ⟨j, h, .refl _⟩
  | succ k ih => exact step es (fun _ h => h) _ ih

def cardN (S : Nat) : Nat → Nat
  | 0 => 0
  | n + 1 => cardN S n + if S.testBit n then 1 else 0
theorem cardN_le (S n : Nat) : cardN S n ≤ n := by
  induction n with
  | zero => exact Nat.le_refl _
  | succ n ih => rw [cardN]; split <;> omega
theorem cardN_mono {S T : Nat} (h : ∀ j, S.testBit j = true → T.testBit j = true) : ∀ n, cardN S n ≤ cardN T n ∧ ((∃ j, j < n ∧ T.testBit j = true ∧ S.testBit j = false) → cardN S n < cardN T n) := by
  intro n
  induction n with
  | zero => exact ⟨Nat.le_refl _, fun ⟨j, h, _⟩ => by omega⟩
  | succ n ih =>
    obtain ⟨i1, i2⟩ := ih
    simp only [cardN]
    refine ⟨?_, fun ⟨j, hj, h1, h2⟩ => ?_⟩
    · cases hs : S.testBit n with
      | true => rw [h n hs]; simp; exact i1
      | false => simp; split <;> omega
    · by_cases hjn : j = n
      · subst hjn
        rw [h1, h2]; simp; omega
      · have := i2 ⟨j, by omega, h1, h2⟩
        cases hs : S.testBit n with
        | true => rw [h n hs]; simp; exact this
        | false => simp; split <;> omega

theorem lt_bit {S n j : Nat} (h : S < 2 ^ n) (hj : n ≤ j) : S.testBit j = false := Nat.testBit_lt_two_pow (Nat.lt_of_lt_of_le h (Nat.pow_le_pow_right (by decide) hj))

/-- As long as rounds change something, they add something. -/
theorem hullN_grow {n : Nat} {es : List (Int × Int)} {a : Nat} (ha : a < 2 ^ n) (he : ∀ e ∈ es, e.2.toNat < n) : ∀ k, hullN es (k + 1) a = hullN es k a ∨ k + 1 ≤ cardN (hullN es (k + 1) a) n := by
  intro k
  induction k with
  | zero =>
    by_cases h : hullN es 1 a = hullN es 0 a
    · exact Or.inl h
    · right
      have hm : ∀ j, (hullN es 0 a).testBit j = true → (hullN es 1 a).testBit j = true := fun j hj => foldl_mono hj
      have : ∃ j, j < n ∧ (hullN es 1 a).testBit j = true ∧ (hullN es 0 a).testBit j = false := by
        refine Classical.byContradiction fun hno => h (Nat.eq_of_testBit_eq fun j => ?_)
        cases h1 : (hullN es 0 a).testBit j with
        | true => exact hm j h1
        | false =>
          cases h2 : (hullN es 1 a).testBit j with
          | false => rfl
          | true =>
            exfalso; refine hno ⟨j, ?_, h2, h1⟩
            rcases Nat.lt_or_ge j n with h3 | h3
            · exact h3
            · rw [lt_bit (hullN_lt ha he 1) h3] at h2; cases h2
      have := (cardN_mono hm n).2 this
      show 1 ≤ cardN (hullN es 1 a) n
      omega
  | succ k ih =>
    by_cases h : hullN es (k + 2) a = hullN es (k + 1) a
    · exact Or.inl h
    · right
      have hm : ∀ j, (hullN es (k + 1) a).testBit j = true → (hullN es (k + 2) a).testBit j = true := fun j hj => foldl_mono hj
      have hex : ∃ j, j < n ∧ (hullN es (k + 2) a).testBit j = true ∧ (hullN es (k + 1) a).testBit j = false := by
        refine Classical.byContradiction fun hno => h (Nat.eq_of_testBit_eq fun j => ?_)
        cases h1 : (hullN es (k + 1) a).testBit j with
        | true => exact hm j h1
        | false =>
          cases h2 : (hullN es (k + 2) a).testBit j with
          | false => rfl
          | true =>
            exfalso; refine hno ⟨j, ?_, h2, h1⟩
            rcases Nat.lt_or_ge j n with h3 | h3
            · exact h3
            · rw [lt_bit (hullN_lt ha he (k + 2)) h3] at h2; cases h2
      have := (cardN_mono hm n).2 hex
      rcases ih with ih | ih
      · exfalso; apply h
        show hullRound es (hullN es (k + 1) a) = hullN es (k + 1) a
        rw [ih]; exact ih
      · show k + 1 + 1 ≤ cardN (hullN es (k + 2) a) n
        omega

theorem hullN_fix {n : Nat} {es : List (Int × Int)} {a : Nat} (ha : a < 2 ^ n) (he : ∀ e ∈ es, e.2.toNat < n) : hullRound es (hullN es n a) = hullN es n a := by
  rcases hullN_grow ha he n with h | h
  · exact h
  · have := cardN_le (hullN es (n + 1) a) n; omega

theorem hullN_base {es : List (Int × Int)} {a j : Nat} (h : a.testBit j = true) : ∀ k, (hullN es k a).testBit j = true := by
  intro k
  induction k with
  | zero => exact h
  | succ k ih => exact foldl_mono ih

theorem hull_bit {n : Nat} {es : List (Int × Int)} {a : Nat} (hg : GoodG n es) (ha : a < 2 ^ n) (j : Nat) : (hullN es n a).testBit j = true ↔ ∃ i : Nat, a.testBit i = true ∧ Rch es i j := by
  refine ⟨hullN_sound hg n j, fun ⟨i, h1, h2⟩ => ?_⟩
  have he : ∀ e ∈ es, e.2.toNat < n := fun e h => by have := hg.ins e h; omega
  have hfix := hullN_fix ha he
  have key : ∀ x y : Int, Rch es x y → 0 ≤ x → (hullN es n a).testBit x.toNat = true → (hullN es n a).testBit y.toNat = true := by
    intro x y h
    induction h with
    | refl => intro _ h; exact h
    | step _ e ih =>
      intro hx hb
      have := foldl_edge e (ih hx hb)
      rw [← hfix]; exact this
  have := key i j h2 (by omega) (by rw [Int.toNat_natCast]; exact hullN_base h1 n)
  rwa [Int.toNat_natCast] at this

/-! ### Lists of nodes -/
theorem listedL_eq : ∀ (l : List Bool) (k : Nat), listedL k l = ((List.range l.length).filter fun i => l[i]?.getD false).map fun i : Nat => ((k + i : Nat) : Int) := by
  intro l
  induction l with
  | nil => intro k; rfl
  | cons b l ih =>
    intro k
    have e : listedL ((k : Int) + 1) l = listedL ((k + 1 : Nat) : Int) l := rfl
    rw [listedL, e, ih (k + 1), List.length_cons, List.range_succ_eq_map, List.filter_cons, List.filter_map]
    have h2 : ((fun i => (b :: l)[i]?.getD false) ∘ Nat.succ) = fun i => l[i]?.getD false := by funext i; simp
    have h3 : ((fun i : Nat => ((k + i : Nat) : Int)) ∘ Nat.succ) = fun i : Nat => ((k + 1 + i : Nat) : Int) := by funext i; simp only [Function.comp]; congr 1; omega
    cases b with
    | true => simp [h2]; intro a _ _; omega
    | false => simp [h2]; intro a _ _; omega

theorem nodesL_ext {a n : Nat} {seen : List Bool} (hl : seen.length = n) (ha : a < 2 ^ n) (hn : n ≤ 62) (h : ∀ i : Nat, Mk seen i ↔ a.testBit i = true) : listedL 0 seen = nodesL a 62 := by
  have h0 : a >>> n = 0 := by rw [Nat.shiftRight_eq_div_pow]; exact Nat.div_eq_of_lt ha
  rw [nodesL_high h0 62 hn, show listedL 0 seen = listedL ((0 : Nat) : Int) seen from rfl, listedL_eq, hl]
  unfold nodesL
  have e1 : (List.range n).filter (fun i => seen[i]?.getD false) = (List.range n).filter fun i => a.testBit i := by
    refine List.filter_congr fun i hi => ?_
    have hi' := List.mem_range.1 hi
    have h2 := h i
    unfold Mk at h2
    rw [Int.toNat_natCast] at h2
    cases hb : a.testBit i with
    | true => rw [(h2.2 hb).2]; rfl
    | false =>
      cases hs : seen[i]? with
      | none => rfl
      | some b =>
        cases b with
        | false => rfl
        | true => have := h2.1 ⟨by omega, hs⟩; rw [hb] at this; cases this
  rw [e1]
  refine List.map_congr_left fun i _ => ?_
  rw [Nat.zero_add]

/-- What Reach lists is the model's hull. -/
theorem reach_hull {n : Nat} {es : List (Int × Int)} {l r : List Int} (hg : GoodG n es) (hn62 : n ≤ 62) (hl : ∀ x ∈ l, 0 ≤ x ∧ x < (n : Int)) (h : ReachedL n es l r) : r = nodesL (hullN es n (bitsN l)) 62 := by
  obtain ⟨seen, h1, h2, rfl⟩ := h
  have hb := bitsN_lt hl
  have hn := hg.hi
  refine nodesL_ext (n := n) (by omega) (hullN_lt hb (fun e he => by have := hg.ins e he; omega) n) hn62 fun i => ?_
  rw [h2, hull_bit hg hb]
  constructor
  · rintro ⟨f, h3, h4⟩
    have := hl f h3
    refine ⟨f.toNat, ?_, ?_⟩
    · rw [bitsN_bit]; exact decide_eq_true ⟨f, h3, rfl⟩
    · rwa [Int.toNat_of_nonneg this.1]
  · rintro ⟨i', h3, h4⟩
    rw [bitsN_bit, decide_eq_true_eq] at h3
    obtain ⟨f, h5, h6⟩ := h3
    have := hl f h5
    refine ⟨f, h5, ?_⟩
    rwa [show f = (i' : Int) by omega]
end Go.Ev
