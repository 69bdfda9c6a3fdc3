import Derived.Test.YthedojfbofcefaaDoorEvG15
import Derived.Test.YthedojfbofcefaaDoorEvG18
import Derived.Test.YthedojfbofcefaaDoorEvG1
/- limits.allows, removable.restricted. -/
namespace Go.Ev
open Go Go.Proofs
set_option linter.unusedSimpArgs false
set_option linter.unusedVariables false
set_option maxRecDepth 100000
set_option maxHeartbeats 4000000
attribute [local irreducible] wpOps wpC wpD wpF wpLoop wpCall seqK blockK loopK retK T.put T.get T.setF

/-- limits.allows. -/
def allowB (all : Nat) (most wo : Int) (a : Nat) : Bool := decide (a ≠ all) && (decide (most = 0) || decide (onesI a ≤ most)) && (decide (wo < 0) || !a.testBit wo.toNat)
def vL (all : Nat) (most wo : Int) : Value := .agg #[.int .u64 all, .int .i64 most, .int .i64 wo]

theorem f32_spec [Sorts Tryd.prog] (all : Nat) (most wo : Int) (a : Nat) (s : HS) (ha : a < 18446744073709551616) : wpF Tryd.prog s.nx 32 [vL all most wo, .int .u64 a] s (fun v s' => v = .bool (allowB all most wo a)) := by
  have hbox : ∀ cs : List Value, ∀ x y z : Value, cs = [x, y, z] → cutL cs 0 1 = some [x] ∧ cutL cs 1 1 = some [y] ∧ cutL cs 2 1 = some [z] := fun cs x y z h => by subst h; exact ⟨rfl, rfl, rfl⟩
  obtain ⟨c0, c1, c2⟩ := hbox _ (.int .u64 all) (.int .i64 most) (.int .i64 wo) rfl
  refine wpF_of Tryd.func32 rfl rfl rfl rfl (Nat.le_refl _) ?_
  simp only [paramsA, vL]
  repeat (first
  | with_reducible first | refine st (by constructor) ?_ | apply c_region
  | (with_reducible apply k_block_on
     · decide)
  | ((with_reducible first | apply xOp | apply xDr | apply xIf); rfl; (simp only [Nat.reduceEqDiff, Nat.reduceAdd, ↓reduceIte, xBB, stG, undef, opA, val, opdA, opdO, plainN, omap, binA, intBinA, loadV, readA, storeV, writeA, fieldAddrA, indexAddrA, lenA, builtinA, newA, unA, packA, Value.cells, sz62]; rfl); first | rfl | exact ⟨rfl, rfl, rfl⟩))
  refine c_draw [⟨false, [], none⟩, ⟨true, [], none⟩, ⟨true, [], none⟩, ⟨true, [], none⟩, ⟨true, [], none⟩, ⟨true, [], none⟩, ⟨true, [], none⟩, ⟨true, [], none⟩, ⟨true, [], none⟩, ⟨false, [], none⟩, ⟨false, [], none⟩, ⟨false, [], none⟩, ⟨false, [10], none⟩, ⟨true, [], none⟩, ⟨true, [], none⟩, ⟨true, [], none⟩, ⟨true, [], none⟩, ⟨true, [], none⟩, ⟨true, [], none⟩, ⟨true, [], none⟩, ⟨true, [], none⟩, ⟨false, [], none⟩, ⟨true, [], none⟩, ⟨true, [], none⟩, ⟨true, [], none⟩, ⟨true, [], none⟩, ⟨true, [], none⟩, ⟨true, [], none⟩, ⟨true, [], none⟩, ⟨true, [], none⟩] (by kernel_rfl) ?_
  by_cases h1 : a = all
  · have e1 : ((a : Int) != (all : Int)) = false := by simp [h1]
    repeat (first
  | with_reducible first | refine st (by constructor) ?_ | apply c_region
  | (with_reducible apply k_block_on
     · decide)
  | ((with_reducible first | apply xOp | apply xDr | apply xIf); rfl; (simp only [Nat.reduceEqDiff, Nat.reduceAdd, ↓reduceIte, xBB, stG, undef, opA, val, opdA, opdO, plainN, omap, binA, intBinA, loadV, readA, storeV, writeA, fieldAddrA, indexAddrA, lenA, builtinA, newA, unA, packA, Value.cells, fd62_0, ty60, c0, e1]; rfl); first | rfl | exact ⟨rfl, rfl, rfl⟩))
    intro _
    ((with_reducible first | apply ret_i | apply ret_n); (simp only [Nat.reduceEqDiff, Nat.reduceAdd, ↓reduceIte, xBB, resA, opdA, opdO, plainN, omap, val, loadV, readA, packA]; rfl))
    unfold allowB
    rw [decide_eq_false (fun h => h h1)]; rfl
  · have e1 : ((a : Int) != (all : Int)) = true := by simp; omega
    have d1 : decide (a ≠ all) = true := decide_eq_true h1
    have hrest : ∃ r : Bool, (decide (wo < 0) || !a.testBit wo.toNat) = r ∧ ((wo < 0 ∧ r = true) ∨ (¬ wo < 0 ∧ ∃ x y : Int, shiftA .shr .u64 (a : Int) wo = some (.int .u64 x) ∧ IntKind.u64.wrap ((BitVec.ofInt IntKind.u64.bits x &&& BitVec.ofInt IntKind.u64.bits 1).toNat : Int) = y ∧ (y == 0) = r)) := by
      by_cases h5 : wo < 0
      · exact ⟨true, by simp [h5], Or.inl ⟨h5, rfl⟩⟩
      · obtain ⟨k, rfl⟩ : ∃ k : Nat, wo = (k : Int) := ⟨wo.toNat, by omega⟩
        refine ⟨!a.testBit k, by rw [decide_eq_false h5]; simp, Or.inr ⟨h5, _, _, shr_u64 ha, and_u64 (b := 1) (shr_lt64 ha) (by decide), bit_eq0 a k⟩⟩
    obtain ⟨r, hr, hr2⟩ := hrest
    unfold allowB
    rw [d1, hr, Bool.true_and]
    by_cases h2 : most = 0
    · have e2 : (most == 0) = true := by simp [h2]
      rw [decide_eq_true h2, Bool.true_or, Bool.true_and]
      rcases hr2 with ⟨h5, rfl⟩ | ⟨h5, x, y, e5, e6, e7⟩
      · repeat (first
  | with_reducible first | refine st (by constructor) ?_ | apply c_region
  | (with_reducible apply k_block_on
     · decide)
  | ((with_reducible first | apply xOp | apply xDr | apply xIf); rfl; (simp only [Nat.reduceEqDiff, Nat.reduceAdd, ↓reduceIte, xBB, stG, undef, opA, val, opdA, opdO, plainN, omap, binA, intBinA, loadV, readA, storeV, writeA, fieldAddrA, indexAddrA, lenA, builtinA, newA, unA, packA, Value.cells, fd62_0, fd62_1, fd62_2, ty60, ty3, c0, c1, c2, e1, e2, h5]; rfl); first | rfl | exact ⟨rfl, rfl, rfl⟩))
        intro _
        ((with_reducible first | apply ret_i | apply ret_n); (simp only [Nat.reduceEqDiff, Nat.reduceAdd, ↓reduceIte, xBB, resA, opdA, opdO, plainN, omap, val, loadV, readA, packA]; rfl))
        rfl
      · repeat (first
  | with_reducible first | refine st (by constructor) ?_ | apply c_region
  | (with_reducible apply k_block_on
     · decide)
  | ((with_reducible first | apply xOp | apply xDr | apply xIf); rfl; (simp only [Nat.reduceEqDiff, Nat.reduceAdd, ↓reduceIte, xBB, stG, undef, opA, val, opdA, opdO, plainN, omap, binA, intBinA, loadV, readA, storeV, writeA, fieldAddrA, indexAddrA, lenA, builtinA, newA, unA, packA, Value.cells, fd62_0, fd62_1, fd62_2, ty60, ty3, c0, c1, c2, e1, e2, h5, e5, e6, e7]; rfl); first | rfl | exact ⟨rfl, rfl, rfl⟩))
        intro _
        ((with_reducible first | apply ret_i | apply ret_n); (simp only [Nat.reduceEqDiff, Nat.reduceAdd, ↓reduceIte, xBB, resA, opdA, opdO, plainN, omap, val, loadV, readA, packA]; rfl))
        rfl
    · have e2 : (most == 0) = false := by simp [h2]
      rw [decide_eq_false h2, Bool.false_or]
      repeat (first
  | with_reducible first | refine st (by constructor) ?_ | apply c_region
  | (with_reducible apply k_block_on
     · decide)
  | ((with_reducible first | apply xOp | apply xDr | apply xIf); rfl; (simp only [Nat.reduceEqDiff, Nat.reduceAdd, ↓reduceIte, xBB, stG, undef, opA, val, opdA, opdO, plainN, omap, binA, intBinA, loadV, readA, storeV, writeA, fieldAddrA, indexAddrA, lenA, builtinA, newA, unA, packA, Value.cells, fd62_0, fd62_1, fd62_2, ty60, ty3, c0, c1, c2, e1, e2]; rfl); first | rfl | exact ⟨rfl, rfl, rfl⟩))
      ((with_reducible apply xCs); rfl; (simp only [Nat.reduceEqDiff, Nat.reduceAdd, ↓reduceIte, xBB, stB, opdA, opdO, plainN, omap, val, Value.cells]; exact ⟨rfl, rfl⟩); rfl)
      apply call_fn
      refine (f45_spec a _ ha).use (by first | exact Nat.le_refl _ | (simp only [cond_true, cond_false]; omega) | omega | (dsimp only; omega)) (by first | exact Nat.le_refl _ | (simp only [cond_true, cond_false]; omega) | omega | (dsimp only; omega)) fun v s1 hv _ => ?_
      obtain ⟨rfl, rfl⟩ := hv
      refine ⟨rfl, ?_⟩
      refine opt_of rfl ?_
      by_cases h4 : onesI a ≤ most
      · rw [decide_eq_true h4, Bool.true_and]
        rcases hr2 with ⟨h5, rfl⟩ | ⟨h5, x, y, e5, e6, e7⟩
        · repeat (first
  | with_reducible first | refine st (by constructor) ?_ | apply c_region
  | (with_reducible apply k_block_on
     · decide)
  | ((with_reducible first | apply xOp | apply xDr | apply xIf); rfl; (simp only [Nat.reduceEqDiff, Nat.reduceAdd, ↓reduceIte, xBB, stG, undef, opA, val, opdA, opdO, plainN, omap, binA, intBinA, loadV, readA, storeV, writeA, fieldAddrA, indexAddrA, lenA, builtinA, newA, unA, packA, Value.cells, fd62_0, fd62_1, fd62_2, ty60, ty3, c0, c1, c2, e1, e2, h4, h5]; rfl); first | rfl | exact ⟨rfl, rfl, rfl⟩))
          intro _
          ((with_reducible first | apply ret_i | apply ret_n); (simp only [Nat.reduceEqDiff, Nat.reduceAdd, ↓reduceIte, xBB, resA, opdA, opdO, plainN, omap, val, loadV, readA, packA]; rfl))
          rfl
        · repeat (first
  | with_reducible first | refine st (by constructor) ?_ | apply c_region
  | (with_reducible apply k_block_on
     · decide)
  | ((with_reducible first | apply xOp | apply xDr | apply xIf); rfl; (simp only [Nat.reduceEqDiff, Nat.reduceAdd, ↓reduceIte, xBB, stG, undef, opA, val, opdA, opdO, plainN, omap, binA, intBinA, loadV, readA, storeV, writeA, fieldAddrA, indexAddrA, lenA, builtinA, newA, unA, packA, Value.cells, fd62_0, fd62_1, fd62_2, ty60, ty3, c0, c1, c2, e1, e2, h4, h5, e5, e6, e7]; rfl); first | rfl | exact ⟨rfl, rfl, rfl⟩))
          intro _
          ((with_reducible first | apply ret_i | apply ret_n); (simp only [Nat.reduceEqDiff, Nat.reduceAdd, ↓reduceIte, xBB, resA, opdA, opdO, plainN, omap, val, loadV, readA, packA]; rfl))
          rfl
      · rw [decide_eq_false h4, Bool.false_and]
        repeat (first
  | with_reducible first | refine st (by constructor) ?_ | apply c_region
  | (with_reducible apply k_block_on
     · decide)
  | ((with_reducible first | apply xOp | apply xDr | apply xIf); rfl; (simp only [Nat.reduceEqDiff, Nat.reduceAdd, ↓reduceIte, xBB, stG, undef, opA, val, opdA, opdO, plainN, omap, binA, intBinA, loadV, readA, storeV, writeA, fieldAddrA, indexAddrA, lenA, builtinA, newA, unA, packA, Value.cells, fd62_0, fd62_1, fd62_2, ty60, ty3, c0, c1, c2, e1, e2, h4]; rfl); first | rfl | exact ⟨rfl, rfl, rfl⟩))
        intro _
        ((with_reducible first | apply ret_i | apply ret_n); (simp only [Nat.reduceEqDiff, Nat.reduceAdd, ↓reduceIte, xBB, resA, opdA, opdO, plainN, omap, val, loadV, readA, packA]; rfl))
        rfl

/-- removable.restricted. -/
def restR (n : Int) (es : List (Int × Int)) (most wo : Int) : Int := if checkR n es ≠ 0 then checkR n es else if most < 0 ∨ wo < -1 ∨ wo ≥ n then 2 else 0
theorem or_bits {k : Nat} : (2 ^ k - 1) ||| 2 ^ k = 2 ^ (k + 1) - 1 := by
  refine Nat.eq_of_testBit_eq fun j => ?_
  rw [setBit, Nat.testBit_two_pow_sub_one, Nat.testBit_two_pow_sub_one, Bool.eq_iff_iff]
  simp; omega

theorem build62 (x y z : Int) : buildA Tryd.prog 62 [(0, .int .u64 x), (1, .int .i64 y), (2, .int .i64 z)] = some (.agg #[.int .u64 x, .int .i64 y, .int .i64 z]) := by
  obtain ⟨fs, hu, ho⟩ : ∃ fs, Tryd.prog.underlying 62 = some (.struct fs) ∧ (omap (fun (f : Field) => (szA Tryd.prog f.type).map fun n => (f.offset, n)) fs.toList) = some [(0, 1), (1, 1), (2, 1)] := by
    refine ⟨_, rfl, ?_⟩
    kernel_rfl
  unfold buildA
  simp only [zr62, Option.bind_some]
  rw [hu]
  simp only
  rw [ho]
  rfl

theorem f28_spec [Sorts Tryd.prog] (n : Int) (es : List (Int × Int)) (ev : Value) (most wo : Int) (s : HS) (hs : Sl s 2 ev (es.map encE)) :
    wpF Tryd.prog s.nx 28 [vG n ev, .int .i64 most, .int .i64 wo] s (fun v s' => v = .tuple #[if restR n es most wo = 0 then vL (2 ^ n.toNat - 1) most wo else vL 0 0 0, .int .i64 (restR n es most wo)]) := by
  have hbuild0 : buildA Tryd.prog 62 [] = some (vL 0 0 0) := by kernel_rfl
  have hone : ∀ a b c : Int, ([Value.int .u64 a, .int .i64 b, .int .i64 c] : List Value).all Value.oneCell' = true := fun _ _ _ => rfl
  refine wpF_of Tryd.func28 rfl rfl rfl rfl (Nat.le_refl _) ?_
  simp only [paramsA, vG]
  have hc2' : cutL [Value.int .i64 n, ev] 0 2 = some [.int .i64 n, ev] := rfl
  repeat (first
  | with_reducible first | refine st (by constructor) ?_ | apply c_region
  | (with_reducible apply k_block_on
     · decide)
  | ((with_reducible first | apply xOp | apply xDr | apply xIf); rfl; (simp only [Nat.reduceEqDiff, Nat.reduceAdd, ↓reduceIte, xBB, stG, undef, opA, val, opdA, opdO, plainN, omap, binA, intBinA, loadV, readA, storeV, writeA, fieldAddrA, indexAddrA, lenA, builtinA, newA, unA, packA, Value.cells, zr62, sz62, sz28, ty28, hc2', List.toList_toArray]; rfl); first | rfl | exact ⟨rfl, rfl, rfl⟩))
  have hA0 := (Ab.new (lk := s.nx) s (.cells true 28 [.int .i64 n, ev])).trans (Ab.new (lk := s.nx) _ (.cells true 62 [.int .u64 0, .int .i64 0, .int .i64 0]))
  ((with_reducible first | apply xCa | apply xCd); rfl; (simp only [Nat.reduceEqDiff, Nat.reduceAdd, ↓reduceIte, xBB, stB, opdA, opdO, plainN, omap, val, Value.cells]; exact ⟨rfl, rfl⟩); try rfl)
  apply call_fn
  refine (f36_spec n es ev _ (hs.keep hA0)).use (by first | exact Nat.le_refl _ | (simp only [cond_true, cond_false]; omega) | omega | (dsimp only; omega)) (by first | exact Nat.le_refl _ | (simp only [cond_true, cond_false]; omega) | omega | (dsimp only; omega)) fun v s1 hv hA1 => ?_
  subst hv
  have hn1 := hA1.nx
  dsimp only at hn1
  have hb0 := hA1.get (Nat.le_refl _) (show s.nx < s.nx + 1 + 1 by omega)
  have hb1 := hA1.get (Nat.le_refl _) (Nat.lt_succ_self (s.nx + 1))
  rw [T.get_put_ne _ _ _ (show s.nx ≠ s.nx + 1 by omega), T.get_put_eq] at hb0
  rw [T.get_put_eq] at hb1
  have hc2 : cutL [Value.int .i64 n, ev] 0 2 = some [.int .i64 n, ev] := rfl
  have hc1 : cutL [Value.int .i64 n, ev] 0 1 = some [.int .i64 n] := rfl
  have hlo : s.nx ≤ s.nx + 1 := Nat.le_succ _
  have hput : ∀ a b c : Int, putL [Value.int .u64 0, .int .i64 0, .int .i64 0] 0 [.int .u64 a, .int .i64 b, .int .i64 c] = [.int .u64 a, .int .i64 b, .int .i64 c] := fun _ _ _ => rfl
  have hcut : ∀ a b c : Value, cutL [a, b, c] 0 3 = some [a, b, c] := fun _ _ _ => rfl
  have hl1 : s.nx ≤ s.nx + 1 := Nat.le_succ _
  refine opt_of rfl ?_
  by_cases h0 : checkR n es = 0
  · have hg := good_of h0
    have e0 : (checkR n es != 0) = false := by simp [h0]
    by_cases h1 : most < 0 ∨ wo < -1 ∨ wo ≥ n
    · have hR : restR n es most wo = 2 := by unfold restR; rw [if_neg (by simpa using h0), if_pos h1]
      rw [hR]
      by_cases q1 : most < 0
      · repeat (first
  | with_reducible first | refine st (by constructor) ?_ | apply c_region
  | (with_reducible apply k_block_on
     · decide)
  | ((with_reducible first | apply xOp | apply xDr | apply xIf); rfl; (simp only [Nat.reduceEqDiff, Nat.reduceAdd, ↓reduceIte, xBB, stG, undef, opA, val, opdA, opdO, plainN, omap, binA, intBinA, loadV, readA, storeV, writeA, fieldAddrA, indexAddrA, lenA, builtinA, newA, unA, packA, Value.cells, e0, q1, hbuild0, vL, sz62, hb1, hone, hput, List.toList_toArray]; rfl); first | rfl | exact ⟨rfl, rfl, rfl⟩))
        intro _
        ((with_reducible first | apply ret_i | apply ret_n); (simp only [Nat.reduceEqDiff, Nat.reduceAdd, ↓reduceIte, xBB, resA, opdA, opdO, plainN, omap, val, loadV, readA, packA, hb1, ty62, hcut]; rfl))
        rfl
      · by_cases q2 : wo < -1
        · repeat (first
  | with_reducible first | refine st (by constructor) ?_ | apply c_region
  | (with_reducible apply k_block_on
     · decide)
  | ((with_reducible first | apply xOp | apply xDr | apply xIf); rfl; (simp only [Nat.reduceEqDiff, Nat.reduceAdd, ↓reduceIte, xBB, stG, undef, opA, val, opdA, opdO, plainN, omap, binA, intBinA, loadV, readA, storeV, writeA, fieldAddrA, indexAddrA, lenA, builtinA, newA, unA, packA, Value.cells, e0, q1, q2, hbuild0, vL, sz62, hb1, hone, hput, List.toList_toArray]; rfl); first | rfl | exact ⟨rfl, rfl, rfl⟩))
          intro _
          ((with_reducible first | apply ret_i | apply ret_n); (simp only [Nat.reduceEqDiff, Nat.reduceAdd, ↓reduceIte, xBB, resA, opdA, opdO, plainN, omap, val, loadV, readA, packA, hb1, ty62, hcut]; rfl))
          rfl
        · have q3 : wo ≥ n := by omega
          repeat (first
  | with_reducible first | refine st (by constructor) ?_ | apply c_region
  | (with_reducible apply k_block_on
     · decide)
  | ((with_reducible first | apply xOp | apply xDr | apply xIf); rfl; (simp only [Nat.reduceEqDiff, Nat.reduceAdd, ↓reduceIte, xBB, stG, undef, opA, val, opdA, opdO, plainN, omap, binA, intBinA, loadV, readA, storeV, writeA, fieldAddrA, indexAddrA, lenA, builtinA, newA, unA, packA, Value.cells, e0, q1, q2, q3, hb0, fd28_0, ty3, hc1, hbuild0, vL, sz62, hb1, hone, hput, List.toList_toArray]; rfl); first | rfl | exact ⟨rfl, rfl, rfl⟩))
          intro _
          ((with_reducible first | apply ret_i | apply ret_n); (simp only [Nat.reduceEqDiff, Nat.reduceAdd, ↓reduceIte, xBB, resA, opdA, opdO, plainN, omap, val, loadV, readA, packA, hb1, ty62, hcut]; rfl))
          rfl
    · have hR : restR n es most wo = 0 := by unfold restR; rw [if_neg (by simpa using h0), if_neg h1]
      rw [hR, if_pos rfl]
      have q1 : ¬ most < 0 := by omega
      have q2 : ¬ wo < -1 := by omega
      have q3 : ¬ wo ≥ n := by omega
      have hgh := hg.hi
      have hg0 := hg.lo
      repeat (first
  | with_reducible first | refine st (by constructor) ?_ | apply c_region
  | (with_reducible apply k_block_on
     · decide)
  | ((with_reducible first | apply xOp | apply xDr | apply xIf); rfl; (simp only [Nat.reduceEqDiff, Nat.reduceAdd, ↓reduceIte, xBB, stG, undef, opA, val, opdA, opdO, plainN, omap, binA, intBinA, loadV, readA, storeV, writeA, fieldAddrA, indexAddrA, lenA, builtinA, newA, unA, packA, Value.cells, e0, q1, q2, q3, hb0, fd28_0, ty3, hc1]; rfl); first | rfl | exact ⟨rfl, rfl, rfl⟩))
      refine loop_k (lk' := s.nx) (s0 := s1) (fun m f t => t = s1 ∧ ∃ k : Nat, k + m = n.toNat ∧ f.get 32 = some (.int .i64 k) ∧ f.get 9 = some (.int .u64 ((2 ^ k - 1 : Nat)))) n.toNat (Nat.le_refl _) (by omega) ?_ (Ab.refl _ _) ?_
      · exact ⟨rfl, 0, by omega, by simp only [Nat.reduceEqDiff, T.get_put, ↓reduceIte]; rfl, by simp only [Nat.reduceEqDiff, T.get_put, ↓reduceIte]; rfl⟩
      · rintro m f t ⟨rfl, k, hk, h32, h9⟩ hA hF
        (have k1 := hF 1 (by rfl); simp only [Nat.reduceEqDiff, T.get_put, ↓reduceIte] at k1; have k2 := hF 2 (by rfl); simp only [Nat.reduceEqDiff, T.get_put, ↓reduceIte] at k2; have k6 := hF 6 (by rfl); simp only [Nat.reduceEqDiff, T.get_put, ↓reduceIte] at k6; have k31 := hF 31 (by rfl); simp only [Nat.reduceEqDiff, T.get_put, ↓reduceIte] at k31)
        by_cases hlt : (k : Int) < n
        · have hw : IntKind.i64.wrap ((k : Int) + 1) = ((k + 1 : Nat) : Int) := by rw [IntWalk.i64_in _ (by omega)]; rfl
          have hk64 : k < 64 := by omega
          have hsh := shl_u64 (k := k) hk64
          have hp := pow_lt64 hk64
          have hor := or_u64 (a := 2 ^ k - 1) (b := 2 ^ k) (by omega) hp
          rw [or_bits] at hor
          repeat (first
  | with_reducible first | refine st (by constructor) ?_ | apply c_region
  | (with_reducible apply k_block_on
     · decide)
  | ((with_reducible first | apply xOp | apply xDr | apply xIf); rfl; (simp only [Nat.reduceEqDiff, Nat.reduceAdd, ↓reduceIte, xBB, stG, undef, opA, val, opdA, opdO, plainN, omap, binA, intBinA, loadV, readA, storeV, writeA, fieldAddrA, indexAddrA, lenA, builtinA, newA, unA, packA, Value.cells, h32, h9, k31, hlt, hsh, hor, hw]; rfl); first | rfl | exact ⟨rfl, rfl, rfl⟩))
          intro _ _
          exact k_loop_next (m' := m - 1) (by omega) ⟨rfl, k + 1, by omega, by simp only [Nat.reduceEqDiff, T.get_put, ↓reduceIte], by simp only [Nat.reduceEqDiff, T.get_put, ↓reduceIte]⟩
        · have hkn : n.toNat = k := by omega
          have hb62 : ∀ x y z : Int, buildA Tryd.prog 62 [(0, .int .u64 x), (1, .int .i64 y), (2, .int .i64 z)] = some (.agg #[.int .u64 x, .int .i64 y, .int .i64 z]) := build62
          repeat (first
  | with_reducible first | refine st (by constructor) ?_ | apply c_region
  | (with_reducible apply k_block_on
     · decide)
  | ((with_reducible first | apply xOp | apply xDr | apply xIf); rfl; (simp only [Nat.reduceEqDiff, Nat.reduceAdd, ↓reduceIte, xBB, stG, undef, opA, val, opdA, opdO, plainN, omap, binA, intBinA, loadV, readA, storeV, writeA, fieldAddrA, indexAddrA, lenA, builtinA, newA, unA, packA, Value.cells, h32, k31, hlt]; rfl); first | rfl | exact ⟨rfl, rfl, rfl⟩))
          intro _ _
          repeat (first
  | with_reducible first | refine st (by constructor) ?_ | apply c_region
  | (with_reducible apply k_block_on
     · decide)
  | ((with_reducible first | apply xOp | apply xDr | apply xIf); rfl; (simp only [Nat.reduceEqDiff, Nat.reduceAdd, ↓reduceIte, xBB, stG, undef, opA, val, opdA, opdO, plainN, omap, binA, intBinA, loadV, readA, storeV, writeA, fieldAddrA, indexAddrA, lenA, builtinA, newA, unA, packA, Value.cells, h9, k1, k2, k6, hb62, vL, sz62, hb1, hone, hput, List.toList_toArray]; rfl); first | rfl | exact ⟨rfl, rfl, rfl⟩))
          intro _
          ((with_reducible first | apply ret_i | apply ret_n); (simp only [Nat.reduceEqDiff, Nat.reduceAdd, ↓reduceIte, xBB, resA, opdA, opdO, plainN, omap, val, loadV, readA, packA, k6, hb1, ty62, hcut]; rfl))
          rw [hkn]; rfl
  · have e0 : (checkR n es != 0) = true := by simp [h0]
    have hR : restR n es most wo = checkR n es := by unfold restR; rw [if_pos h0]
    rw [hR, if_neg h0]
    repeat (first
  | with_reducible first | refine st (by constructor) ?_ | apply c_region
  | (with_reducible apply k_block_on
     · decide)
  | ((with_reducible first | apply xOp | apply xDr | apply xIf); rfl; (simp only [Nat.reduceEqDiff, Nat.reduceAdd, ↓reduceIte, xBB, stG, undef, opA, val, opdA, opdO, plainN, omap, binA, intBinA, loadV, readA, storeV, writeA, fieldAddrA, indexAddrA, lenA, builtinA, newA, unA, packA, Value.cells, e0, hbuild0, vL, sz62, hb1, hone, hput, List.toList_toArray]; rfl); first | rfl | exact ⟨rfl, rfl, rfl⟩))
    intro _
    ((with_reducible first | apply ret_i | apply ret_n); (simp only [Nat.reduceEqDiff, Nat.reduceAdd, ↓reduceIte, xBB, resA, opdA, opdO, plainN, omap, val, loadV, readA, packA, hb1, ty62, hcut]; rfl))
    rfl
end Go.Ev

/- removable.Least, removable.Held. -/
namespace Go.Ev
open Go Go.Proofs
set_option linter.unusedSimpArgs false
set_option linter.unusedVariables false
set_option maxRecDepth 100000
set_option maxHeartbeats 4000000
attribute [local irreducible] wpOps wpC wpD wpF wpLoop wpCall seqK blockK loopK retK T.put T.get T.setF

def HNs (n : Nat) (es : List (Int × Int)) : List Nat := (List.range n).map (HN n es)
theorem hullsL_eq (n : Nat) (es : List (Int × Int)) : hullsL n es = (HNs n es).map fun a : Nat => [.int .u64 a] := by unfold hullsL HNs; rw [List.map_map]; rfl
theorem HNs_lt {n : Nat} {es : List (Int × Int)} (hg : GoodG n es) : ∀ a ∈ HNs n es, a < 2 ^ n := fun a h => by
  obtain ⟨i, hi, rfl⟩ := List.mem_map.1 h
  exact HN_lt hg (List.mem_range.1 hi)

def leastStep (all : Nat) (most wo : Int) (r : Nat × Bool) (h : Nat) : Nat × Bool := if (allowB all most wo h && (!r.2 || decide (cmpS h r.1 < 0))) = true then (h, true) else r
def leastL (all : Nat) (most wo : Int) (hs : List Nat) : Nat × Bool := hs.foldl (leastStep all most wo) (0, false)
theorem least_take {all : Nat} {most wo : Int} {hs : List Nat} {k : Nat} (hk : k < hs.length) : leastL all most wo (hs.take (k + 1)) = leastStep all most wo (leastL all most wo (hs.take k)) hs[k] := by
  unfold leastL
  rw [List.take_succ_eq_append_getElem hk, List.foldl_append]; rfl
theorem least_lt {all : Nat} {most wo : Int} {hs : List Nat} {b : Nat} (hb : 0 < b) (h : ∀ a ∈ hs, a < b) : (leastL all most wo hs).1 < b := by
  unfold leastL
  have key : ∀ (l : List Nat) (r : Nat × Bool), (∀ a ∈ l, a < b) → r.1 < b → (l.foldl (leastStep all most wo) r).1 < b := by
    intro l
    induction l with
    | nil => intro r _ h; exact h
    | cons x l ih =>
      intro r hl hr
      refine ih _ (fun a ha => hl a (List.mem_cons_of_mem _ ha)) ?_
      unfold leastStep
      split
      · exact hl x List.mem_cons_self
      · exact hr
  exact key hs _ h hb

theorem f13_spec [Sorts Tryd.prog] (n : Nat) (es : List (Int × Int)) (ev : Value) (most wo : Int) (s : HS) (hgl : Glob s) (hs : Sl s 2 ev (es.map encE)) :
    wpF Tryd.prog s.nx 13 [vG n ev, .int .i64 most, .int .i64 wo] s (fun v s' => (restR n es most wo ≠ 0 ∧ v = .tuple #[.slice none 0 0, .bool false, .int .i64 (restR n es most wo)]) ∨
      (restR n es most wo = 0 ∧ ∃ (o : Option Nat) (lv : Value), v = .tuple #[lv, .bool (leastL (2 ^ n - 1) most wo (HNs n es)).2, .int .i64 0] ∧ Own s' 3 1 o lv ((nodesL (leastL (2 ^ n - 1) most wo (HNs n es)).1 64).map encI))) := by
  refine wpF_of Tryd.func13 rfl rfl rfl rfl (Nat.le_refl _) ?_
  simp only [paramsA, vG]
  have hc2 : cutL [Value.int .i64 (n : Int), ev] 0 2 = some [.int .i64 n, ev] := rfl
  repeat (first
  | with_reducible first | refine st (by constructor) ?_ | apply c_region
  | (with_reducible apply k_block_on
     · decide)
  | ((with_reducible first | apply xOp | apply xDr | apply xIf); rfl; (simp only [Nat.reduceEqDiff, Nat.reduceAdd, ↓reduceIte, xBB, stG, undef, opA, val, opdA, opdO, plainN, omap, binA, intBinA, loadV, readA, storeV, writeA, fieldAddrA, indexAddrA, lenA, builtinA, newA, unA, packA, Value.cells, sz28, ty28, hc2, List.toList_toArray]; rfl); first | rfl | exact ⟨rfl, rfl, rfl⟩))
  have hA0 := Ab.new (lk := s.nx) s (.cells true 28 [.int .i64 n, ev])
  ((with_reducible first | apply xCa | apply xCd); rfl; (simp only [Nat.reduceEqDiff, Nat.reduceAdd, ↓reduceIte, xBB, stB, opdA, opdO, plainN, omap, val, Value.cells]; exact ⟨rfl, rfl⟩); try rfl)
  apply call_fn
  refine (f28_spec n es ev most wo _ (hs.keep hA0)).use (by first | exact Nat.le_refl _ | (simp only [cond_true, cond_false]; omega) | omega | (dsimp only; omega)) (by first | exact Nat.le_refl _ | (simp only [cond_true, cond_false]; omega) | omega | (dsimp only; omega)) fun v s1 hv hA1 => ?_
  subst hv
  have hn1 := hA1.nx
  dsimp only at hn1
  have hb0 := hA1.get (Nat.le_refl _) (Nat.lt_succ_self s.nx)
  rw [T.get_put_eq] at hb0
  have hA01 := hA0.trans (hA1.lower (Nat.le_succ _) (Nat.le_refl _))
  have hl1 : s.nx ≤ s1.nx := by omega
  have hone : ∀ a b c : Int, ([Value.int .u64 a, .int .i64 b, .int .i64 c] : List Value).all Value.oneCell' = true := fun _ _ _ => rfl
  have hput : ∀ a b c : Int, putL [Value.int .u64 0, .int .i64 0, .int .i64 0] 0 [.int .u64 a, .int .i64 b, .int .i64 c] = [.int .u64 a, .int .i64 b, .int .i64 c] := fun _ _ _ => rfl
  have hcut : ∀ a b c : Value, cutL [a, b, c] 0 3 = some [a, b, c] := fun _ _ _ => rfl
  refine opt_of rfl ?_
  by_cases hR : restR n es most wo = 0
  · have e0 : (restR n es most wo != 0) = false := by simp [hR]
    rw [if_pos hR, Int.toNat_natCast]
    have hc : checkR n es = 0 := by
      unfold restR at hR
      split at hR
      · rename_i h; exact absurd hR h
      · rename_i h; simpa using h
    have hg := good_of hc
    have hn64 : n ≤ 64 := by have := hg.hi; omega
    unfold vL
    repeat (first
  | with_reducible first | refine st (by constructor) ?_ | apply c_region
  | (with_reducible apply k_block_on
     · decide)
  | ((with_reducible first | apply xOp | apply xDr | apply xIf); rfl; (simp only [Nat.reduceEqDiff, Nat.reduceAdd, ↓reduceIte, xBB, stG, undef, opA, val, opdA, opdO, plainN, omap, binA, intBinA, loadV, readA, storeV, writeA, fieldAddrA, indexAddrA, lenA, builtinA, newA, unA, packA, Value.cells, e0, zr62, sz62, hl1, hone, hput, List.toList_toArray, List.getElem?_cons_zero, List.getElem?_cons_succ]; rfl); first | rfl | exact ⟨rfl, rfl, rfl⟩))
    have hp : 0 < 2 ^ n := Nat.pow_pos (by decide)
    have hb64 : (2 : Nat) ^ n ≤ 2 ^ 64 := Nat.pow_le_pow_right (by decide) hn64
    generalize hst0 : ({ hp := (s1.hp.put s1.nx (some (.cells true 62 [.int .u64 0, .int .i64 0, .int .i64 0]))).put s1.nx (some (.cells true 62 [.int .u64 ((2 ^ n - 1 : Nat)), .int .i64 most, .int .i64 wo])), nx := s1.nx + 1 } : HS) = w
    have hwn : w.nx = s1.nx + 1 := by rw [← hst0]
    have hwo : ∀ id, id < s1.nx → w.hp.get id = s1.hp.get id := fun id h => by rw [← hst0]; dsimp only; rw [T.get_put_ne _ _ _ (by omega), T.get_put_ne _ _ _ (by omega)]
    have hwb : w.hp.get s1.nx = some (.cells true 62 [.int .u64 ((2 ^ n - 1 : Nat)), .int .i64 most, .int .i64 wo]) := by rw [← hst0]; exact T.get_put_eq _ _ _
    have hw0 := (hwo s.nx (by omega)).trans hb0
    repeat (first
  | with_reducible first | refine st (by constructor) ?_ | apply c_region
  | (with_reducible apply k_block_on
     · decide)
  | ((with_reducible first | apply xOp | apply xDr | apply xIf); rfl; (simp only [Nat.reduceEqDiff, Nat.reduceAdd, ↓reduceIte, xBB, stG, undef, opA, val, opdA, opdO, plainN, omap, binA, intBinA, loadV, readA, storeV, writeA, fieldAddrA, indexAddrA, lenA, builtinA, newA, unA, packA, Value.cells, hw0, ty28, hc2, List.toList_toArray]; rfl); first | rfl | exact ⟨rfl, rfl, rfl⟩))
    ((with_reducible first | apply xCa | apply xCd); rfl; (simp only [Nat.reduceEqDiff, Nat.reduceAdd, ↓reduceIte, xBB, stB, opdA, opdO, plainN, omap, val, Value.cells]; exact ⟨rfl, rfl⟩); try rfl)
    apply call_fn
    refine (f31_spec n es ev w ((hs.keep hA01).same (by omega) hwo) hc).use (by first | exact Nat.le_refl _ | (simp only [cond_true, cond_false]; omega) | omega | (dsimp only; omega)) (Nat.le_refl _) fun v s2 hv hA2 => ?_
    obtain ⟨o, hown⟩ := hv
    rw [hullsL_eq] at hown
    have hn2 := hA2.nx
    have hb2 := (hA2.get (Nat.le_refl _) (show s1.nx < w.nx by omega)).trans hwb
    obtain ⟨hbb, hcc, rfl⟩ := hown.shape
    have hhl : ((HNs n es).map fun a : Nat => [Value.int .u64 (a : Int)]).length = n := by unfold HNs; simp
    have hhl' : (HNs n es).length = n := by unfold HNs; simp
    rw [hhl]
    rw [hhl] at hown
    have hgl2 : Glob s2 := by
      have h1 : Glob s1 := hgl.keep hA01
      refine ⟨by have := h1.1; omega, ?_⟩
      rw [hA2.get (Nat.le_refl _) (by have := h1.1; omega), hwo 0 h1.1]; exact h1.2
    refine opt_of rfl ?_
    repeat (first
  | with_reducible first | refine st (by constructor) ?_ | apply c_region
  | (with_reducible apply k_block_on
     · decide)
  | ((with_reducible first | apply xOp | apply xDr | apply xIf); rfl; (simp only [Nat.reduceEqDiff, Nat.reduceAdd, ↓reduceIte, xBB, stG, undef, opA, val, opdA, opdO, plainN, omap, binA, intBinA, loadV, readA, storeV, writeA, fieldAddrA, indexAddrA, lenA, builtinA, newA, unA, packA, Value.cells, un65]; rfl); first | rfl | exact ⟨rfl, rfl, rfl⟩))
    refine loop_k (lk' := s2.nx) (s0 := s2) (fun m f t => ∃ k : Nat, k + m = n ∧ f.get 28 = some (.int .i64 k) ∧ f.get 11 = some (.int .u64 (leastL (2 ^ n - 1) most wo ((HNs n es).take k)).1) ∧ f.get 12 = some (.bool (leastL (2 ^ n - 1) most wo ((HNs n es).take k)).2)) n (by omega) (Nat.le_refl _) ?_ (Ab.refl _ _) ?_
    · exact ⟨0, by omega, by simp only [Nat.reduceEqDiff, T.get_put, ↓reduceIte]; rfl, by simp only [Nat.reduceEqDiff, T.get_put, ↓reduceIte]; rfl, by simp only [Nat.reduceEqDiff, T.get_put, ↓reduceIte]; rfl⟩
    · rintro m f t ⟨k, hk, h28, h11, h12⟩ hA hF
      (have k9 := hF 9 (by rfl); simp only [Nat.reduceEqDiff, T.get_put, ↓reduceIte] at k9; have k26 := hF 26 (by rfl); simp only [Nat.reduceEqDiff, T.get_put, ↓reduceIte] at k26; have k27 := hF 27 (by rfl); simp only [Nat.reduceEqDiff, T.get_put, ↓reduceIte] at k27)
      have hnt := hA.nx
      by_cases hlt : (k : Int) < (n : Int)
      · have hlt' : k < (HNs n es).length := by omega
        have hw : IntKind.i64.wrap ((k : Int) + 1) = ((k + 1 : Nat) : Int) := by rw [IntWalk.i64_in _ (by omega)]; rfl
        have hb : (0 : Int) ≤ (k : Int) ∧ (k : Int) < (n : Int) := by omega
        obtain ⟨id, off, wr, e, cs, rfl, g1, g2, g3, g4⟩ := (hown.sl.keep hA).at (i := k) (x := [.int .u64 (HNs n es)[k]]) (by simp [hlt'])
        have hbt := (hA.get (Nat.le_refl _) (show s1.nx < s2.nx by omega)).trans hb2
        have hmk : (HNs n es)[k] < 2 ^ n := HNs_lt hg _ (List.getElem_mem hlt')
        have hbest : (leastL (2 ^ n - 1) most wo ((HNs n es).take k)).1 < 2 ^ n := least_lt hp fun a ha => HNs_lt hg a (List.mem_of_mem_take ha)
        have hstep := least_take (all := 2 ^ n - 1) (most := most) (wo := wo) hlt'
        generalize leastL (2 ^ n - 1) most wo ((HNs n es).take k) = r at *
        generalize (HNs n es)[k] = x at *
        obtain ⟨rb, rf⟩ := r
        dsimp only at h11 h12 hbest
        repeat (first
  | with_reducible first | refine st (by constructor) ?_ | apply c_region
  | (with_reducible apply k_block_on
     · decide)
  | ((with_reducible first | apply xOp | apply xDr | apply xIf); rfl; (simp only [Nat.reduceEqDiff, Nat.reduceAdd, ↓reduceIte, xBB, stG, undef, opA, val, opdA, opdO, plainN, omap, binA, intBinA, loadV, readA, storeV, writeA, fieldAddrA, indexAddrA, lenA, builtinA, newA, unA, packA, Value.cells, h28, k27, hlt, k26, un65, sz60, ty60, hb, g1, g3, k9, ty62, hbt, hcut, List.toList_toArray]; rfl); first | rfl | exact ⟨rfl, rfl, rfl⟩))
        ((with_reducible first | apply xCa | apply xCd); rfl; (simp only [Nat.reduceEqDiff, Nat.reduceAdd, ↓reduceIte, xBB, stB, opdA, opdO, plainN, omap, val, Value.cells]; exact ⟨rfl, rfl⟩); try rfl)
        apply call_fn
        refine (f32_spec (2 ^ n - 1) most wo x t (by omega)).use hnt (Nat.le_refl _) fun v t1 hv hA3 => ?_
        subst hv
        have hnt1 := hA3.nx
        refine opt_of rfl ?_
        unfold leastStep at hstep
        cases ha : allowB (2 ^ n - 1) most wo x with
        | false =>
          rw [ha, Bool.false_and, if_neg (by simp)] at hstep
          repeat (first
  | with_reducible first | refine st (by constructor) ?_ | apply c_region
  | (with_reducible apply k_block_on
     · decide)
  | ((with_reducible first | apply xOp | apply xDr | apply xIf); rfl; (simp only [Nat.reduceEqDiff, Nat.reduceAdd, ↓reduceIte, xBB, stG, undef, opA, val, opdA, opdO, plainN, omap, binA, intBinA, loadV, readA, storeV, writeA, fieldAddrA, indexAddrA, lenA, builtinA, newA, unA, packA, Value.cells, h28, hw]; rfl); first | rfl | exact ⟨rfl, rfl, rfl⟩))
          intro _ _
          refine k_loop_next (m' := m - 1) (by omega) ⟨k + 1, by omega, by simp only [Nat.reduceEqDiff, T.get_put, ↓reduceIte], ?_, ?_⟩
          · rw [hstep]; simp only [Nat.reduceEqDiff, T.get_put, ↓reduceIte]; exact h11
          · rw [hstep]; simp only [Nat.reduceEqDiff, T.get_put, ↓reduceIte]; exact h12
        | true =>
          rw [ha, Bool.true_and] at hstep
          cases rf with
          | false =>
            rw [Bool.not_false, Bool.true_or, if_pos rfl] at hstep
            repeat (first
  | with_reducible first | refine st (by constructor) ?_ | apply c_region
  | (with_reducible apply k_block_on
     · decide)
  | ((with_reducible first | apply xOp | apply xDr | apply xIf); rfl; (simp only [Nat.reduceEqDiff, Nat.reduceAdd, ↓reduceIte, xBB, stG, undef, opA, val, opdA, opdO, plainN, omap, binA, intBinA, loadV, readA, storeV, writeA, fieldAddrA, indexAddrA, lenA, builtinA, newA, unA, packA, Value.cells, h12, Bool.not_false, h28, hw]; rfl); first | rfl | exact ⟨rfl, rfl, rfl⟩))
            intro _ _
            refine k_loop_next (m' := m - 1) (by omega) ⟨k + 1, by omega, by simp only [Nat.reduceEqDiff, T.get_put, ↓reduceIte], ?_, ?_⟩
            · rw [hstep]; simp only [Nat.reduceEqDiff, T.get_put, ↓reduceIte]
            · rw [hstep]; simp only [Nat.reduceEqDiff, T.get_put, ↓reduceIte]
          | true =>
            rw [Bool.not_true, Bool.false_or] at hstep
            repeat (first
  | with_reducible first | refine st (by constructor) ?_ | apply c_region
  | (with_reducible apply k_block_on
     · decide)
  | ((with_reducible first | apply xOp | apply xDr | apply xIf); rfl; (simp only [Nat.reduceEqDiff, Nat.reduceAdd, ↓reduceIte, xBB, stG, undef, opA, val, opdA, opdO, plainN, omap, binA, intBinA, loadV, readA, storeV, writeA, fieldAddrA, indexAddrA, lenA, builtinA, newA, unA, packA, Value.cells, h12, h11, Bool.not_true]; rfl); first | rfl | exact ⟨rfl, rfl, rfl⟩))
            ((with_reducible first | apply xCa | apply xCd); rfl; (simp only [Nat.reduceEqDiff, Nat.reduceAdd, ↓reduceIte, xBB, stB, opdA, opdO, plainN, omap, val, Value.cells]; exact ⟨rfl, rfl⟩); try rfl)
            apply call_fn
            refine (f33_spec x rb t1 ((hgl2.keep hA).keep hA3) (by omega) (by omega)).use (by omega) (Nat.le_refl _) fun v t2 hv hA4 => ?_
            subst hv
            refine opt_of rfl ?_
            by_cases hcmp : cmpS x rb < 0
            · rw [decide_eq_true hcmp, if_pos rfl] at hstep
              repeat (first
  | with_reducible first | refine st (by constructor) ?_ | apply c_region
  | (with_reducible apply k_block_on
     · decide)
  | ((with_reducible first | apply xOp | apply xDr | apply xIf); rfl; (simp only [Nat.reduceEqDiff, Nat.reduceAdd, ↓reduceIte, xBB, stG, undef, opA, val, opdA, opdO, plainN, omap, binA, intBinA, loadV, readA, storeV, writeA, fieldAddrA, indexAddrA, lenA, builtinA, newA, unA, packA, Value.cells, hcmp, h28, hw]; rfl); first | rfl | exact ⟨rfl, rfl, rfl⟩))
              intro _ _
              refine k_loop_next (m' := m - 1) (by omega) ⟨k + 1, by omega, by simp only [Nat.reduceEqDiff, T.get_put, ↓reduceIte], ?_, ?_⟩
              · rw [hstep]; simp only [Nat.reduceEqDiff, T.get_put, ↓reduceIte]
              · rw [hstep]; simp only [Nat.reduceEqDiff, T.get_put, ↓reduceIte]
            · rw [decide_eq_false hcmp, if_neg (by simp)] at hstep
              repeat (first
  | with_reducible first | refine st (by constructor) ?_ | apply c_region
  | (with_reducible apply k_block_on
     · decide)
  | ((with_reducible first | apply xOp | apply xDr | apply xIf); rfl; (simp only [Nat.reduceEqDiff, Nat.reduceAdd, ↓reduceIte, xBB, stG, undef, opA, val, opdA, opdO, plainN, omap, binA, intBinA, loadV, readA, storeV, writeA, fieldAddrA, indexAddrA, lenA, builtinA, newA, unA, packA, Value.cells, hcmp, h28, hw]; rfl); first | rfl | exact ⟨rfl, rfl, rfl⟩))
              intro _ _
              refine k_loop_next (m' := m - 1) (by omega) ⟨k + 1, by omega, by simp only [Nat.reduceEqDiff, T.get_put, ↓reduceIte], ?_, ?_⟩
              · rw [hstep]; simp only [Nat.reduceEqDiff, T.get_put, ↓reduceIte]; exact h11
              · rw [hstep]; simp only [Nat.reduceEqDiff, T.get_put, ↓reduceIte]; exact h12
      · have hkn : k = n := by omega
        rw [hkn, List.take_of_length_le (by omega)] at h11 h12
        have hbest : (leastL (2 ^ n - 1) most wo (HNs n es)).1 < 2 ^ n := least_lt hp fun a ha => HNs_lt hg a ha
        repeat (first
  | with_reducible first | refine st (by constructor) ?_ | apply c_region
  | (with_reducible apply k_block_on
     · decide)
  | ((with_reducible first | apply xOp | apply xDr | apply xIf); rfl; (simp only [Nat.reduceEqDiff, Nat.reduceAdd, ↓reduceIte, xBB, stG, undef, opA, val, opdA, opdO, plainN, omap, binA, intBinA, loadV, readA, storeV, writeA, fieldAddrA, indexAddrA, lenA, builtinA, newA, unA, packA, Value.cells, h28, k27, hlt]; rfl); first | rfl | exact ⟨rfl, rfl, rfl⟩))
        intro _ _
        repeat (first
  | with_reducible first | refine st (by constructor) ?_ | apply c_region
  | (with_reducible apply k_block_on
     · decide)
  | ((with_reducible first | apply xOp | apply xDr | apply xIf); rfl; (simp only [Nat.reduceEqDiff, Nat.reduceAdd, ↓reduceIte, xBB, stG, undef, opA, val, opdA, opdO, plainN, omap, binA, intBinA, loadV, readA, storeV, writeA, fieldAddrA, indexAddrA, lenA, builtinA, newA, unA, packA, Value.cells, h11, h12]; rfl); first | rfl | exact ⟨rfl, rfl, rfl⟩))
        ((with_reducible first | apply xCa | apply xCd); rfl; (simp only [Nat.reduceEqDiff, Nat.reduceAdd, ↓reduceIte, xBB, stB, opdA, opdO, plainN, omap, val, Value.cells]; exact ⟨rfl, rfl⟩); try rfl)
        apply call_fn
        refine (f34_spec _ t (hgl2.keep hA) (by omega)).use (by omega) (Nat.le_refl _) fun v t1 hv hA3 => ?_
        obtain ⟨o2, hown2, hnew2⟩ := hv
        refine opt_of rfl ?_
        repeat (first
  | with_reducible first | refine st (by constructor) ?_ | apply c_region
  | (with_reducible apply k_block_on
     · decide)
  | ((with_reducible first | apply xOp | apply xDr | apply xIf); rfl; (simp only [Nat.reduceEqDiff, Nat.reduceAdd, ↓reduceIte, xBB, stG, undef, opA, val, opdA, opdO, plainN, omap, binA, intBinA, loadV, readA, storeV, writeA, fieldAddrA, indexAddrA, lenA, builtinA, newA, unA, packA, Value.cells, h12]; rfl); first | rfl | exact ⟨rfl, rfl, rfl⟩))
        intro _
        ((with_reducible first | apply ret_i | apply ret_n); (simp only [Nat.reduceEqDiff, Nat.reduceAdd, ↓reduceIte, xBB, resA, opdA, opdO, plainN, omap, val, loadV, readA, packA]; rfl))
        exact Or.inr ⟨hR, o2, _, rfl, hown2⟩
  · have e0 : (restR n es most wo != 0) = true := by simp [hR]
    rw [if_neg hR]
    unfold vL
    repeat (first
  | with_reducible first | refine st (by constructor) ?_ | apply c_region
  | (with_reducible apply k_block_on
     · decide)
  | ((with_reducible first | apply xOp | apply xDr | apply xIf); rfl; (simp only [Nat.reduceEqDiff, Nat.reduceAdd, ↓reduceIte, xBB, stG, undef, opA, val, opdA, opdO, plainN, omap, binA, intBinA, loadV, readA, storeV, writeA, fieldAddrA, indexAddrA, lenA, builtinA, newA, unA, packA, Value.cells, e0, zr62, sz62, hl1, hone, hput, List.toList_toArray, List.getElem?_cons_zero, List.getElem?_cons_succ]; rfl); first | rfl | exact ⟨rfl, rfl, rfl⟩))
    intro _
    ((with_reducible first | apply ret_i | apply ret_n); (simp only [Nat.reduceEqDiff, Nat.reduceAdd, ↓reduceIte, xBB, resA, opdA, opdO, plainN, omap, val, loadV, readA, packA]; rfl))
    exact Or.inl ⟨hR, rfl⟩

theorem f24_spec [Sorts Tryd.prog] (n : Nat) (es : List (Int × Int)) (ev : Value) (most wo : Int) (s : HS) (hgl : Glob s) (hs : Sl s 2 ev (es.map encE)) :
    wpF Tryd.prog s.nx 24 [vG n ev, .int .i64 most, .int .i64 wo] s (fun v s' => v = .tuple #[.bool (decide (restR n es most wo = 0) && !(leastL (2 ^ n - 1) most wo (HNs n es)).2), .int .i64 (restR n es most wo)]) := by
  refine wpF_of Tryd.func24 rfl rfl rfl rfl (Nat.le_refl _) ?_
  simp only [paramsA, vG]
  have hc2 : cutL [Value.int .i64 (n : Int), ev] 0 2 = some [.int .i64 n, ev] := rfl
  repeat (first
  | with_reducible first | refine st (by constructor) ?_ | apply c_region
  | (with_reducible apply k_block_on
     · decide)
  | ((with_reducible first | apply xOp | apply xDr | apply xIf); rfl; (simp only [Nat.reduceEqDiff, Nat.reduceAdd, ↓reduceIte, xBB, stG, undef, opA, val, opdA, opdO, plainN, omap, binA, intBinA, loadV, readA, storeV, writeA, fieldAddrA, indexAddrA, lenA, builtinA, newA, unA, packA, Value.cells, sz28, ty28, hc2, List.toList_toArray]; rfl); first | rfl | exact ⟨rfl, rfl, rfl⟩))
  have hA0 := Ab.new (lk := s.nx) s (.cells true 28 [.int .i64 n, ev])
  ((with_reducible first | apply xCa | apply xCd); rfl; (simp only [Nat.reduceEqDiff, Nat.reduceAdd, ↓reduceIte, xBB, stB, opdA, opdO, plainN, omap, val, Value.cells]; exact ⟨rfl, rfl⟩); try rfl)
  apply call_fn
  refine (f13_spec n es ev most wo _ (hgl.keep hA0) (hs.keep hA0)).use (by first | exact Nat.le_refl _ | (simp only [cond_true, cond_false]; omega) | omega | (dsimp only; omega)) (by first | exact Nat.le_refl _ | (simp only [cond_true, cond_false]; omega) | omega | (dsimp only; omega)) fun v s1 hv hA1 => ?_
  rcases hv with ⟨hR, rfl⟩ | ⟨hR, o, lv, rfl, hown⟩
  · have e0 : (restR n es most wo == 0) = false := by simp [hR]
    refine opt_of rfl ?_
    repeat (first
  | with_reducible first | refine st (by constructor) ?_ | apply c_region
  | (with_reducible apply k_block_on
     · decide)
  | ((with_reducible first | apply xOp | apply xDr | apply xIf); rfl; (simp only [Nat.reduceEqDiff, Nat.reduceAdd, ↓reduceIte, xBB, stG, undef, opA, val, opdA, opdO, plainN, omap, binA, intBinA, loadV, readA, storeV, writeA, fieldAddrA, indexAddrA, lenA, builtinA, newA, unA, packA, Value.cells, List.toList_toArray, List.getElem?_cons_zero, List.getElem?_cons_succ, e0]; rfl); first | rfl | exact ⟨rfl, rfl, rfl⟩))
    intro _
    ((with_reducible first | apply ret_i | apply ret_n); (simp only [Nat.reduceEqDiff, Nat.reduceAdd, ↓reduceIte, xBB, resA, opdA, opdO, plainN, omap, val, loadV, readA, packA]; rfl))
    rw [decide_eq_false hR]; rfl
  · have e0 : ((0 : Int) == 0) = true := rfl
    rw [hR]
    refine opt_of rfl ?_
    repeat (first
  | with_reducible first | refine st (by constructor) ?_ | apply c_region
  | (with_reducible apply k_block_on
     · decide)
  | ((with_reducible first | apply xOp | apply xDr | apply xIf); rfl; (simp only [Nat.reduceEqDiff, Nat.reduceAdd, ↓reduceIte, xBB, stG, undef, opA, val, opdA, opdO, plainN, omap, binA, intBinA, loadV, readA, storeV, writeA, fieldAddrA, indexAddrA, lenA, builtinA, newA, unA, packA, Value.cells, List.toList_toArray, List.getElem?_cons_zero, List.getElem?_cons_succ, e0]; rfl); first | rfl | exact ⟨rfl, rfl, rfl⟩))
    intro _
    ((with_reducible first | apply ret_i | apply ret_n); (simp only [Nat.reduceEqDiff, Nat.reduceAdd, ↓reduceIte, xBB, resA, opdA, opdO, plainN, omap, val, loadV, readA, packA]; rfl))
    rfl
end Go.Ev

/- Parts of a slice of a function's own; an element put in between. -/
set_option linter.unusedSimpArgs false
set_option linter.unusedVariables false
namespace Go.Ev
open Go
variable {P : Program} {lk : Nat} {s s' : HS} {size : Nat} {v : Value} {xs : List (List Value)} {e : TypeId} {o : Option Nat}

theorem flat_take {xs : List (List Value)} (h : ∀ x ∈ xs, x.length = size) {k : Nat} (hk : k ≤ xs.length) : xs.flatten.take (k * size) = (xs.take k).flatten := by
  have h1 : xs.flatten = (xs.take k).flatten ++ (xs.drop k).flatten := by rw [← List.flatten_append, List.take_append_drop]
  have h2 : (xs.take k).flatten.length = k * size := by
    rw [flat_len fun x hx => h x (List.mem_of_mem_take hx), List.length_take, Nat.min_eq_left hk]
  rw [h1, ← h2, List.take_left]
theorem flat_drop {xs : List (List Value)} (h : ∀ x ∈ xs, x.length = size) {k : Nat} (hk : k ≤ xs.length) : xs.flatten.drop (k * size) = (xs.drop k).flatten := by
  have h1 : xs.flatten = (xs.take k).flatten ++ (xs.drop k).flatten := by rw [← List.flatten_append, List.take_append_drop]
  have h2 : (xs.take k).flatten.length = k * size := by
    rw [flat_len fun x hx => h x (List.mem_of_mem_take hx), List.length_take, Nat.min_eq_left hk]
  rw [h1, ← h2, List.drop_left]

/-- v[:k:k] -/
theorem Own.head {t : TypeId} (hu : P.underlying t = some (.slice e)) (hsz : szA P e = some size) (h : Own s e size o v xs) {k : Nat} (hk : k ≤ xs.length) (hne : o = none ∨ xs ≠ []) :
    ∃ b, (∀ g : HS, sliceA P g.hp t v none (some (.int .i64 k)) (some (.int .i64 k)) = some (.slice b k k)) ∧ (b = none → k = 0) ∧
      ∀ g : HS, (∀ id, o = some id → g.hp.get id = s.hp.get id) → b ≠ none → firstA g.hp size k (.slice b k k) = some (xs.take k).flatten := by
  have hnk : (0 : Int) ≤ (k : Int) := by omega
  cases o with
  | none =>
    obtain ⟨rfl, rfl⟩ := h
    have hk0 : k = 0 := by simpa using hk
    subst hk0
    refine ⟨none, fun g => ?_, fun _ => rfl, fun _ _ h => absurd rfl h⟩
    unfold sliceA
    rw [hu]
    simp only [onatA, natA, hnk, if_true, Option.map_some, Option.bind_some, Option.getD_some, Option.getD_none, Int.toNat_natCast, hsz]
    rw [if_pos ⟨Nat.zero_le _, Nat.le_refl _, rfl, by unfold UNK; omega, Or.inl ⟨by unfold UNK; omega, Nat.le_refl _⟩⟩]
  | some id =>
    obtain ⟨h1, h2, h2', off, cap, cs, rfl, h3, h4, h5, post, h6⟩ := h
    have hx : xs ≠ [] := by rcases hne with h | h; cases h; exact h
    have hl : 0 < xs.length := List.length_pos_iff.2 hx
    refine ⟨some ⟨id, off, none⟩, fun g => ?_, fun h => (by cases h), fun g hg _ => ?_⟩
    · unfold sliceA
      rw [hu]
      simp only [onatA, natA, hnk, if_true, Option.map_some, Option.bind_some, Option.getD_some, Option.getD_none, Int.toNat_natCast, hsz]
      rw [if_pos ⟨Nat.zero_le _, Nat.le_refl _, rfl, by omega, by rcases h3 with rfl | rfl <;> omega⟩]
      simp only [Nat.sub_zero, Nat.zero_mul, Nat.add_zero, Option.map_some, ite_self]
    · show readA g.hp _ _ = _
      rw [read_block (by rw [hg id rfl]; exact h4)]
      have hs : ∀ x ∈ xs, x.length = size := fun x hx => (h2 x hx).1
      refine cut_all (post := (xs.drop k).flatten ++ post) ?_ h5 ?_
      · rw [h6, ← List.append_assoc, ← List.flatten_append, List.take_append_drop]
      · rw [flat_len fun x hx => hs x (List.mem_of_mem_take hx), List.length_take, Nat.min_eq_left hk]

/-- v[k:] -/
theorem Own.rest {t : TypeId} (hu : P.underlying t = some (.slice e)) (hsz : szA P e = some size) (h : Own s e size o v xs) {k : Nat} (hk : k ≤ xs.length) :
    ∃ r, (∀ g : HS, (∀ id, o = some id → g.hp.get id = s.hp.get id) → sliceA P g.hp t v (some (.int .i64 k)) none none = some r) ∧ lenV r = some (xs.length - k) ∧
      ∀ g : HS, (∀ id, o = some id → g.hp.get id = s.hp.get id) → xs.drop k ≠ [] → firstA g.hp size (xs.length - k) r = some (xs.drop k).flatten := by
  have hnk : (0 : Int) ≤ (k : Int) := by omega
  cases o with
  | none =>
    obtain ⟨rfl, rfl⟩ := h
    have hk0 : k = 0 := by simpa using hk
    subst hk0
    refine ⟨.slice none 0 0, fun g _ => ?_, rfl, fun _ _ h => absurd rfl h⟩
    unfold sliceA
    rw [hu]
    simp only [onatA, natA, hnk, if_true, Option.map_some, Option.bind_some, Option.getD_some, Option.getD_none, Int.toNat_natCast, hsz]
    rw [if_pos (by unfold UNK; omega), if_pos ⟨Nat.zero_le _, Nat.le_refl _⟩]
  | some id =>
    obtain ⟨h1, h2, h2', off, cap, cs, rfl, h3, h4, h5, post, h6⟩ := h
    have hs : ∀ x ∈ xs, x.length = size := fun x hx => (h2 x hx).1
    have hfl := flat_len hs
    have hlen : off + xs.length * size ≤ cs.length := by
      have := congrArg List.length h6
      rw [List.length_drop, List.length_append, hfl] at this; omega
    have hkz : k * size ≤ xs.length * size := Nat.mul_le_mul_right _ hk
    have hdrop : cs.drop (off + k * size) = (xs.drop k).flatten ++ post := by
      rw [← List.drop_drop, h6, List.drop_append_of_le_length (by rw [hfl]; exact hkz), flat_drop hs hk]
    have hread : ∀ g : HS, (∀ id', some id = some id' → g.hp.get id' = s.hp.get id') → readA g.hp ⟨id, off + k * size, none⟩ ((xs.length - k) * size) = some (xs.drop k).flatten := fun g hg => by
      rw [read_block (by rw [hg id rfl]; exact h4)]
      refine cut_all hdrop (by omega) ?_
      rw [flat_len fun x hx => hs x (List.mem_of_mem_drop hx), List.length_drop]
    rcases h3 with rfl | rfl
    · refine ⟨.slice (if xs.length = k then some ⟨id, off, none⟩ else some ⟨id, off + k * size, none⟩) (xs.length - k) (xs.length - k), fun g hg => ?_, rfl, fun g hg hd => ?_⟩
      · unfold sliceA
        rw [hu]
        simp only [onatA, natA, hnk, if_true, Option.map_some, Option.bind_some, Option.getD_some, Option.getD_none, Int.toNat_natCast, hsz]
        rw [if_pos h2', if_pos ⟨hk, Nat.le_refl _⟩]
      · have hne : ¬ xs.length = k := fun h => hd (by rw [← h, List.drop_length])
        rw [if_neg hne]
        exact hread g hg
    · refine ⟨.slice (some ⟨id, off + k * size, none⟩) (xs.length - k) (UNK + (xs.length - k)), fun g hg => ?_, rfl, fun g hg hd => hread g hg⟩
      have hlive : liveE P g.hp id size = true := by unfold liveE; rw [hg id rfl, h4]; simp [hsz]
      unfold sliceA
      rw [hu]
      simp only [onatA, natA, hnk, if_true, Option.map_some, Option.bind_some, Option.getD_some, Option.getD_none, Int.toNat_natCast, hsz]
      rw [if_neg (by omega), if_pos ⟨hk, Nat.le_refl _, hlive⟩]
      simp only [show UNK + xs.length - UNK - k = xs.length - k by omega]

variable {t : TypeId} {by_ : Nat} {z : Value}

/-- append of a slice behind one that has nothing to spare: a new block. -/
theorem app_full {b : Option Addr} {k : Nat} {y : Value} {old : List Value} {n : Nat} {new : List Value} (hel : elemA P t = some e) (hsz : szA P e = some size) (hby : bytesA P e = some by_) (hz : zeroA P e = some z) (hzs : z.cells.toList.length = size) (h0 : size ≠ 0)
    (hk : k < UNK) (hb : b = none → k = 0 ∧ old = []) (hf : b ≠ none → firstA s.hp size k (.slice b k k) = some old) (hy : lenV y = some n) (hn : n ≠ 0) (hnew : firstA s.hp size n y = some new) (hbd : (k + n) * (by_ + size) ≤ 1099511627776) :
    appendA P lk t (.slice b k k) y s = some (.slice (some ⟨s.nx, 0, none⟩) (k + n) (UNK + (k + n)), { hp := s.hp.put s.nx (some (.cells true e (old ++ new))), nx := s.nx + 1 }) := by
  have hc : ¬ (size = 0 ∨ z.cells.toList.length ≠ size ∨ ¬ (k + n) * (by_ + size) ≤ 1099511627776) := by
    rintro (h | h | h)
    · exact h0 h
    · exact h hzs
    · exact h hbd
  unfold appendA
  simp only [hel, hsz, hby, hz, hy, Option.bind_some]
  rw [if_neg hc, if_neg hn, hnew]
  simp only [Option.bind_some]
  cases b with
  | none =>
    obtain ⟨rfl, rfl⟩ := hb rfl
    simp only [and_self, if_true, newA, Nat.zero_add, List.nil_append]
  | some a =>
    simp only
    rw [if_pos hk, if_neg (by omega), hf (by simp)]
    simp only [Option.map_some, newA]

/-- append of nothing. -/
theorem app_none {b : Option Addr} {k c : Nat} {y : Value} (hel : elemA P t = some e) (hsz : szA P e = some size) (hby : bytesA P e = some by_) (hz : zeroA P e = some z) (hzs : z.cells.toList.length = size) (h0 : size ≠ 0)
    (hk : c < UNK) (hkc : k ≤ c) (hy : lenV y = some 0) (hbd : k * (by_ + size) ≤ 1099511627776) : appendA P lk t (.slice b k c) y s = some (.slice b k c, s) := by
  have hc : ¬ (size = 0 ∨ z.cells.toList.length ≠ size ∨ ¬ (k + 0) * (by_ + size) ≤ 1099511627776) := by
    rintro (h | h | h)
    · exact h0 h
    · exact h hzs
    · exact h hbd
  unfold appendA
  simp only [hel, hsz, hby, hz, hy, Option.bind_some]
  rw [if_neg hc, if_pos trivial, if_pos (Or.inl ⟨hk, hkc⟩)]
end Go.Ev

/- A region as a whole: what it leaves, told once; the temporaries that it does not set stay. -/
set_option linter.unusedSimpArgs false
set_option linter.unusedVariables false
namespace Go.Ev
open Go
variable {P : Program} [Sorts P] {lk sz : Nat}

theorem opt_self {α : Type} {x : Option α} {k : α → Prop} (h : opt x k) : opt x fun a => x = some a ∧ k a := by
  obtain ⟨a, rfl, h⟩ := opt_inv h
  exact ⟨rfl, h⟩

theorem wpStep_keep {all : List Oper} {fr : Fr} {s : HS} {o : Oper} {K : Fr → HS → Prop} (h : wpStep P lk sz all fr s o K) : wpStep P lk sz all fr s o fun f t => K f t ∧ ∀ i, asgOps [o] i = false → f.get i = fr.get i := by
  refine opt_mono h fun w h => ?_
  cases w with
  | true => exact wpOp_mono h fun v s' h => opt_mono (opt_self h) fun f h => ⟨h.2, fun i hi => setA_keep h.1 hi⟩
  | false => exact opt_mono (opt_self h) fun f h => ⟨h.2, fun i hi => setA_keep h.1 hi⟩

theorem wpOps_keep {all : List Oper} {K : Fr → HS → Prop} : ∀ {ops : List Oper} {fr : Fr} {s : HS}, wpOps P lk sz all ops fr s K → wpOps P lk sz all ops fr s fun f t => K f t ∧ ∀ i, asgOps ops i = false → f.get i = fr.get i := by
  intro ops
  induction ops with
  | nil => intro fr s h; exact ⟨h, fun _ _ => rfl⟩
  | cons o os ih =>
    intro fr s h
    refine wpStep_mono (wpStep_keep h) fun f t ⟨h, hk⟩ => wpOps_mono (fun f' t' h' => ⟨h'.1, fun i hi => ?_⟩) (ih h)
    obtain ⟨h1, h2⟩ := asgOps_cons hi
    rw [h'.2 i h2, hk i h1]

theorem wpDraw_keep {all : List Oper} {K : Fr → HS → Prop} : ∀ {ops : List Oper} {ps : List PlanRow} {k : Nat} {made : List (Nat × Nat × Nat)} {fr : Fr} {s : HS}, wpDraw P lk sz all ops ps k made fr s K →
    wpDraw P lk sz all ops ps k made fr s fun f t => K f t ∧ ∀ i, asgOps ops i = false → f.get i = fr.get i := by
  intro ops
  induction ops with
  | nil => intro ps k made fr s h; cases ps with | nil => exact ⟨h, fun _ _ => rfl⟩ | cons p ps => cases h
  | cons o os ih =>
    intro ps k made fr s h
    cases ps with
    | nil => cases h
    | cons p ps =>
      refine wpStep_mono (wpStep_keep h) fun f t ⟨h, hk⟩ => opt_mono h fun _ h => wpDraw_mono (fun f' t' h' => ⟨h'.1, fun i hi => ?_⟩) (ih h)
      obtain ⟨h1, h2⟩ := asgOps_cons hi
      rw [h'.2 i h2, hk i h1]

theorem wpLoop_mono {c : Code} {fr : Fr} {s : HS} {K K' : Sig → Fr → HS → Prop} (h : wpLoop P lk sz c fr s K) (hk : ∀ g f t, K g f t → K' g f t) : wpLoop P lk sz c fr s K' := by
  obtain ⟨n, g, f, t, h1, h2⟩ := h
  exact ⟨n, g, f, t, h1, hk _ _ _ h2⟩

theorem wpC_keep : ∀ {c : Code} {fr : Fr} {s : HS} {K : Sig → Fr → HS → Prop}, wpC P lk sz c fr s K → wpC P lk sz c fr s fun g f t => K g f t ∧ FKeep c fr f := by
  intro c
  induction c with
  | skip => intro fr s K h; exact ⟨h, fun _ _ => rfl⟩
  | label l => intro fr s K h; exact ⟨h, fun _ _ => rfl⟩
  | region id ops draw =>
    intro fr s K h
    cases draw with
    | false => exact wpOps_keep h
    | true => exact opt_mono h fun pl h => wpDraw_keep h
  | seq x y ihx ihy =>
    intro fr s K h
    show wpC P lk sz x fr s _
    refine wpC_mono (ihx h) fun g f t ⟨h, hk⟩ => ?_
    have hx : ∀ i, asgd (x.seq y) i = false → asgd x i = false ∧ asgd y i = false := fun i hi => by simpa only [asgd, Bool.or_eq_false_iff] using hi
    cases g with
    | normal => exact wpC_mono (ihy h) fun g' f' t' ⟨h', hk'⟩ => ⟨h', fun i hi => by rw [hk' i (hx i hi).2, hk i (hx i hi).1]⟩
    | exit i => exact ⟨h, fun i hi => hk i (hx i hi).1⟩
    | ret => exact ⟨h, fun i hi => hk i (hx i hi).1⟩
  | cond c x y ihx ihy =>
    intro fr s K h
    have hx : ∀ i, asgd (Code.cond c x y) i = false → asgd x i = false ∧ asgd y i = false := fun i hi => by simpa only [asgd, Bool.or_eq_false_iff] using hi
    refine opt_mono h fun v h => ?_
    cases v <;> first | (cases h; done) | skip
    rename_i b
    cases b with
    | true => exact wpC_mono (ihx h) fun g f t ⟨h, hk⟩ => ⟨h, fun i hi => hk i (hx i hi).1⟩
    | false => exact wpC_mono (ihy h) fun g f t ⟨h, hk⟩ => ⟨h, fun i hi => hk i (hx i hi).2⟩
  | block id c ih =>
    intro fr s K h
    show wpC P lk sz c fr s _
    refine wpC_mono (ih h) fun g f t ⟨h, hk⟩ => ?_
    cases g with
    | normal => exact ⟨h, hk⟩
    | ret => exact ⟨h, hk⟩
    | exit i =>
      simp only at h ⊢
      split at h
      · rename_i hi; rw [if_pos hi]; exact ⟨h, hk⟩
      · rename_i hi; rw [if_neg hi]; exact ⟨h, hk⟩
  | loop c ih => intro fr s K h; obtain ⟨n, g, f, t, h1, h2⟩ := h; exact ⟨n, g, f, t, h1, h2, fun i hi => ev_keep P n _ _ _ _ _ _ _ _ h1 i hi⟩
  | rangeFunc f ps assign body ih1 ih2 =>
    intro fr s K h
    refine opt_mono h fun v h => ?_
    split at h
    · refine wpF.mono h fun v s2 h => ?_
      refine opt_mono (opt_self h) fun r h => ⟨h.2, fun i _ => ?_⟩
      have h1 := h.1
      unfold rfEnd at h1
      split at h1
      · simp only at h1
        split at h1 <;> first | (cases h1; done) | (cases h1; rfl)
      · cases h1
    · cases h
  | exit id => intro fr s K h; exact ⟨h, fun _ _ => rfl⟩
  | scope c ih => intro fr s K h; cases h
  | goto l => intro fr s K h; cases h
  | ret => intro fr s K h; exact ⟨h, fun _ _ => rfl⟩
  | refuse y => intro fr s K h; cases h

variable {fr : Fr} {s : HS} {C : Sig → Fr → HS → Prop}
theorem c_regionK {id : Nat} {ops : Array Oper} (Q : Fr → HS → Prop) (h : wpOps P lk sz ops.toList ops.toList fr s Q) (hk : ∀ f t, Q f t → (∀ i, asgOps ops.toList i = false → f.get i = fr.get i) → C .normal f t) : wpC P lk sz (.region id ops false) fr s C :=
  c_region (wpOps_mono (fun f t h => hk f t h.1 h.2) (wpOps_keep h))
theorem c_drawK {id : Nat} {ops : Array Oper} (pl : List PlanRow) (hp : planA ops = some pl) (Q : Fr → HS → Prop) (h : wpD P lk sz ops.toList ops.toList pl 0 [] fr s Q)
    (hk : ∀ f t, Q f t → (∀ i, asgOps ops.toList i = false → f.get i = fr.get i) → C .normal f t) : wpC P lk sz (.region id ops true) fr s C :=
  c_draw pl hp (wpDraw_mono (fun f t h => hk f t h.1 h.2) (wpDraw_keep (h : wpDraw P lk sz ops.toList ops.toList pl 0 [] fr s Q)))
/-- What two parts of a code leave together. -/
theorem c_mid {a b : Code} (Q : Sig → Fr → HS → Prop) (h : wpC P lk sz a fr s (seqK P lk sz b Q)) (hk : ∀ g f t, Q g f t → FKeep (a.seq b) fr f → C g f t) : wpC P lk sz a fr s (seqK P lk sz b C) := by
  have h1 : wpC P lk sz (a.seq b) fr s Q := c_seq h
  have h2 : wpC P lk sz (a.seq b) fr s C := wpC_mono (wpC_keep h1) fun g f t h => hk g f t h.1 h.2
  exact wpC_mono (show wpC P lk sz a fr s fun g f t => match g with | .normal => wpC P lk sz b f t C | .exit i => C (.exit i) f t | .ret => C .ret f t from h2) fun g f t h => by cases g <;> exact h
/-- What a code leaves. -/
theorem c_leave {a : Code} (Q : Sig → Fr → HS → Prop) (h : wpC P lk sz a fr s Q) (hk : ∀ g f t, Q g f t → FKeep a fr f → C g f t) : wpC P lk sz a fr s C :=
  wpC_mono (wpC_keep h) fun g f t h => hk g f t h.1 h.2
end Go.Ev
