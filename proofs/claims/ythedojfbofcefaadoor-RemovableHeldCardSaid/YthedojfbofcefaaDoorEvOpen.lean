import Derived.Test.YthedojfbofcefaaDoorEvLaw4
import Derived.Test.YthedojfbofcefaaDoorEvG22
import Derived.Test.YthedojfbofcefaaDoorCards
import Derived.Test.YthedojfbofcefaaDoorTie
import Derived.WalkKit
import Derived.ProofKit
import Derived.OpenShut
import Derived.ReadAgain
import Derived.Deep.DeepHandedRow
import Derived.Lib.LaidTab
/- The law RemovableHeld. -/
namespace Go.Ev
open Go Go.Proofs
set_option linter.unusedSimpArgs false
set_option linter.unusedVariables false
set_option maxRecDepth 100000
set_option maxHeartbeats 4000000
attribute [local irreducible] wpOps wpC wpD wpF wpLoop wpCall seqK blockK loopK retK T.put T.get T.setF

theorem tmodN (a b : Nat) : (a : Int).tmod (b : Int) = ((a % b : Nat) : Int) := by
  rw [Int.tmod_eq_emod_of_nonneg (by omega)]; rfl

theorem f6_spec [Sorts Tryd.prog] (nb mst wth : Nat) (bs : List Nat) (bv : Value) (s : HS) (hgl : Glob s) (hs : Sl s 1 bv (bs.map encU)) (hbs : ∀ b ∈ bs, b < 256) (hnb : nb < 256) (hmst : mst < 256) (hwth : wth < 256) :
    wpF Tryd.prog s.nx 6 [.agg #[.int .u8 nb, bv], .int .u8 mst, .int .u8 wth] s (fun v s' => v = .bool true) := by
  obtain ⟨b, c, rfl⟩ := hs.shape
  refine wpF_of Tryd.func6 rfl rfl rfl rfl (Nat.le_refl _) ?_
  simp only [paramsA]
  repeat (first
  | with_reducible first | apply ops_end | apply d_end | apply k_seq | apply k_seq_ret | apply k_seq_exit | apply k_block | apply k_block_ret | apply k_block_here | apply c_seq | apply c_block | apply c_region | apply c_skip | apply c_ret | apply c_exit | apply c_loop | apply k_loop_exit | apply k_loop_ret | apply if_t | apply if_f
  | (with_reducible apply k_block_on
     · decide)
  | ((with_reducible first | apply xOp | apply xDr | apply xIf); rfl; (simp only [Nat.reduceEqDiff, Nat.reduceAdd, ↓reduceIte, xBB, stG, undef, opA, val, opdA, opdO, plainN, omap, binA, intBinA, loadV, readA, storeV, writeA, fieldAddrA, indexAddrA, lenA, builtinA, newA, unA, packA, Value.cells]; rfl); first | rfl | exact ⟨rfl, rfl, rfl⟩))
  have hA0 := Ab.new (lk := s.nx) s (.cells true 24 [.int .u8 nb, .slice b (bs.map encU).length c])
  ((with_reducible first | apply xCa | apply xCd); rfl; (simp only [Nat.reduceEqDiff, Nat.reduceAdd, ↓reduceIte, xBB, stB, opdA, opdO, plainN, omap, val, Value.cells]; exact ⟨rfl, rfl⟩); try rfl)
  apply call_fn
  refine wpF_closed (known_closed (hgl.keep hA0)) ?_
  refine opt_of rfl ?_
  repeat (first
  | with_reducible first | apply ops_end | apply d_end | apply k_seq | apply k_seq_ret | apply k_seq_exit | apply k_block | apply k_block_ret | apply k_block_here | apply c_seq | apply c_block | apply c_region | apply c_skip | apply c_ret | apply c_exit | apply c_loop | apply k_loop_exit | apply k_loop_ret | apply if_t | apply if_f
  | (with_reducible apply k_block_on
     · decide)
  | ((with_reducible first | apply xOp | apply xDr | apply xIf); rfl; (simp only [Nat.reduceEqDiff, Nat.reduceAdd, ↓reduceIte, xBB, stG, undef, opA, val, opdA, opdO, plainN, omap, binA, intBinA, loadV, readA, storeV, writeA, fieldAddrA, indexAddrA, lenA, builtinA, newA, unA, packA, Value.cells, Bool.not_true, ty24, cutL]; rfl); first | rfl | exact ⟨rfl, rfl, rfl⟩))
  ((with_reducible first | apply xCa | apply xCd); rfl; (simp only [Nat.reduceEqDiff, Nat.reduceAdd, ↓reduceIte, xBB, stB, opdA, opdO, plainN, omap, val, Value.cells]; exact ⟨rfl, rfl⟩); try rfl)
  apply call_fn
  refine (f10_spec nb bs _ _ (hs.keep hA0) hbs hnb).use (by first | exact Nat.le_refl _ | (simp only [cond_true, cond_false]; omega) | omega | (dsimp only; omega)) (by first | exact Nat.le_refl _ | (simp only [cond_true, cond_false]; omega) | omega | (dsimp only; omega)) fun v s1 hv hA1 => ?_
  obtain ⟨o, ev, rfl, hown, hnew⟩ := hv
  have hk8 : nb % 8 < 8 := Nat.mod_lt _ (by decide)
  generalize hk : nb % 8 = n at *
  have hc0 := netE_good bs hk8
  have hg := good_of hc0
  generalize hes : netE n bs = es at *
  have hA2 := hA0.trans (hA1.lower (Nat.le_succ _) (Nat.le_refl _))
  obtain ⟨eb, ec, rfl⟩ := hown.shape
  have hle1 : s.nx ≤ s1.nx := hA2.nx
  have hout : ([Value.int .i64 (n : Int), .slice eb (es.map encE).length ec] : List Value).all Value.oneCell' = true := rfl
  refine opt_of rfl ?_
  unfold vG
  repeat (first
  | with_reducible first | apply ops_end | apply d_end | apply k_seq | apply k_seq_ret | apply k_seq_exit | apply k_block | apply k_block_ret | apply k_block_here | apply c_seq | apply c_block | apply c_region | apply c_skip | apply c_ret | apply c_exit | apply c_loop | apply k_loop_exit | apply k_loop_ret | apply if_t | apply if_f
  | (with_reducible apply k_block_on
     · decide)
  | ((with_reducible first | apply xOp | apply xDr | apply xIf); rfl; (simp only [Nat.reduceEqDiff, Nat.reduceAdd, ↓reduceIte, xBB, stG, undef, opA, val, opdA, opdO, plainN, omap, binA, intBinA, loadV, readA, storeV, writeA, fieldAddrA, indexAddrA, lenA, builtinA, newA, unA, packA, Value.cells, zr28, sz28, ty28, hle1, hout, List.toList_toArray]; rfl); first | rfl | exact ⟨rfl, rfl, rfl⟩))
  dsimp only
  generalize hs2 : ({ hp := (s1.hp.put s1.nx (some (.cells true 28 [.int .i64 0, .slice none 0 0]))).put s1.nx (some (.cells true 28 (putL [.int .i64 0, .slice none 0 0] 0 [.int .i64 (n : Int), .slice eb (es.map encE).length ec]))), nx := s1.nx + 1 } : HS) = s2
  have hn2 : s2.nx = s1.nx + 1 := by rw [← hs2]
  have h2lo : ∀ id, id < s1.nx → s2.hp.get id = s1.hp.get id := fun id h => by rw [← hs2]; dsimp only; rw [T.get_put_ne _ _ _ (by omega), T.get_put_ne _ _ _ (by omega)]
  have h2b : s2.hp.get s1.nx = some (.cells true 28 [.int .i64 (n : Int), .slice eb (es.map encE).length ec]) := by rw [← hs2]; exact T.get_put_eq _ _ _
  have hsE : Sl s2 2 (.slice eb (es.map encE).length ec) (es.map encE) := hown.sl.same (by omega) h2lo
  have hgl2 : Glob s2 := by
    have h1 : Glob s1 := hgl.keep hA2
    exact ⟨by have := h1.1; omega, by rw [h2lo 0 h1.1]; exact h1.2⟩
  have hc2 : cutL [Value.int .i64 (n : Int), .slice eb (es.map encE).length ec] 0 2 = some [Value.int .i64 n, .slice eb (es.map encE).length ec] := rfl
  have hc3 : cutL [Value.int .i64 (n : Int), .slice eb (es.map encE).length ec] 0 1 = some [Value.int .i64 n] := rfl
  have hk1 : mst % 8 < 8 := Nat.mod_lt _ (by decide)
  have hx1 : wth % (n + 1) < n + 1 := Nat.mod_lt _ (by omega)
  have e1 : (mst : Int).tmod 8 = ((mst % 8 : Nat) : Int) := tmodN mst 8
  have e2 : IntKind.i64.wrap ((mst % 8 : Nat) : Int) = ((mst % 8 : Nat) : Int) := IntWalk.i64_in _ (by omega)
  have e3 : IntKind.i64.wrap (wth : Int) = (wth : Int) := IntWalk.i64_in _ (by omega)
  have e4 : IntKind.i64.wrap ((n : Int) + 1) = ((n + 1 : Nat) : Int) := by rw [IntWalk.i64_in _ (by omega)]; rfl
  have e5 : (wth : Int).tmod ((n + 1 : Nat) : Int) = ((wth % (n + 1) : Nat) : Int) := tmodN wth (n + 1)
  have e6 : IntKind.i64.wrap (((wth % (n + 1) : Nat) : Int) - 1) = ((wth % (n + 1) : Nat) : Int) - 1 := IntWalk.i64_in _ (by omega)
  have e7 : ¬ (8 : Int) = 0 := by decide
  have e8 : ¬ ((n + 1 : Nat) : Int) = 0 := by omega
  have e9 : IntKind.i64.wrap ((n : Int) - 1) = (n : Int) - 1 := IntWalk.i64_in _ (by omega)
  have hx0 : ((wth % (n + 1) : Nat) : Int) - 1 < (n : Int) ∧ -1 ≤ ((wth % (n + 1) : Nat) : Int) - 1 := by omega
  generalize hmo : mst % 8 = k at *
  repeat (first
  | with_reducible first | apply ops_end | apply d_end | apply k_seq | apply k_seq_ret | apply k_seq_exit | apply k_block | apply k_block_ret | apply k_block_here | apply c_seq | apply c_block | apply c_region | apply c_skip | apply c_ret | apply c_exit | apply c_loop | apply k_loop_exit | apply k_loop_ret | apply if_t | apply if_f
  | (with_reducible apply k_block_on
     · decide)
  | ((with_reducible first | apply xOp | apply xDr | apply xIf); rfl; (simp only [Nat.reduceEqDiff, Nat.reduceAdd, ↓reduceIte, xBB, stG, undef, opA, val, opdA, opdO, plainN, omap, binA, intBinA, loadV, readA, storeV, writeA, fieldAddrA, indexAddrA, lenA, builtinA, newA, unA, packA, Value.cells]; rfl); first | rfl | exact ⟨rfl, rfl, rfl⟩))
  refine c_draw [⟨false, [], none⟩, ⟨false, [], none⟩, ⟨false, [], none⟩, ⟨false, [], none⟩, ⟨false, [], none⟩, ⟨true, [], none⟩, ⟨true, [], none⟩, ⟨true, [], none⟩, ⟨true, [], none⟩, ⟨true, [], none⟩, ⟨false, [], none⟩, ⟨true, [], none⟩] (by kernel_rfl) ?_
  repeat (first
  | with_reducible first | apply ops_end | apply d_end | apply k_seq | apply k_seq_ret | apply k_seq_exit | apply k_block | apply k_block_ret | apply k_block_here | apply c_seq | apply c_block | apply c_region | apply c_skip | apply c_ret | apply c_exit | apply c_loop | apply k_loop_exit | apply k_loop_ret | apply if_t | apply if_f
  | (with_reducible apply k_block_on
     · decide)
  | ((with_reducible first | apply xOp | apply xDr | apply xIf); rfl; (simp only [Nat.reduceEqDiff, Nat.reduceAdd, ↓reduceIte, xBB, stG, undef, opA, val, opdA, opdO, plainN, omap, binA, intBinA, loadV, readA, storeV, writeA, fieldAddrA, indexAddrA, lenA, builtinA, newA, unA, packA, Value.cells, e1, e2, e3, e4, e5, e6, e7, e8, convA, un5, un3, h2b, fd28_0, ty3, hc3, ty28, hc2, List.toList_toArray]; rfl); first | rfl | exact ⟨rfl, rfl, rfl⟩))
  generalize hx : ((wth % (n + 1) : Nat) : Int) - 1 = x at *
  ((with_reducible first | apply xCa | apply xCd); rfl; (simp only [Nat.reduceEqDiff, Nat.reduceAdd, ↓reduceIte, xBB, stB, opdA, opdO, plainN, omap, val, Value.cells]; exact ⟨rfl, rfl⟩); try rfl)
  apply call_fn
  refine (f24_spec n es _ k x s2 hgl2 hsE).use (by first | exact Nat.le_refl _ | (simp only [cond_true, cond_false]; omega) | omega | (dsimp only; omega)) (Nat.le_refl _) fun v s3 hv hA3 => ?_
  have hR : restR n es k x = 0 := by
    unfold restR
    rw [if_neg (by simpa using hc0), if_neg (by omega)]
  rw [hR, decide_eq_true (show (0 : Int) = 0 from rfl), Bool.true_and] at hv
  subst hv
  have hn3 := hA3.nx
  have h3b := (hA3.get (Nat.le_refl _) (by omega)).trans h2b
  have hsE3 := hsE.keep hA3
  obtain ⟨l1, l2⟩ := held_law hg (by omega) (most := (k : Int)) (wo := x) (by omega)
  generalize hheld : (!(leastL (2 ^ n - 1) (k : Int) x (HNs n es)).2) = held at *
  refine opt_of rfl ?_
  repeat (first
  | with_reducible first | apply ops_end | apply d_end | apply k_seq | apply k_seq_ret | apply k_seq_exit | apply k_block | apply k_block_ret | apply k_block_here | apply c_seq | apply c_block | apply c_skip | apply c_ret | apply c_exit | apply c_loop | apply k_loop_exit | apply k_loop_ret | apply if_t | apply if_f
  | (with_reducible apply k_block_on
     · decide)
  | ((with_reducible first | apply xOp | apply xDr | apply xIf); rfl; (simp only [Nat.reduceEqDiff, Nat.reduceAdd, ↓reduceIte, xBB, stG, undef, opA, val, opdA, opdO, plainN, omap, binA, intBinA, loadV, readA, storeV, writeA, fieldAddrA, indexAddrA, lenA, builtinA, newA, unA, packA, Value.cells, List.getElem?_cons_zero, List.getElem?_cons_succ, List.toList_toArray]; rfl); first | rfl | exact ⟨rfl, rfl, rfl⟩))
  refine c_region ?_
  repeat (first
  | with_reducible first | apply ops_end | apply d_end | apply k_seq | apply k_seq_ret | apply k_seq_exit | apply k_block | apply k_block_ret | apply k_block_here | apply c_seq | apply c_block | apply c_skip | apply c_ret | apply c_exit | apply c_loop | apply k_loop_exit | apply k_loop_ret | apply if_t | apply if_f
  | (with_reducible apply k_block_on
     · decide)
  | ((with_reducible first | apply xOp | apply xDr | apply xIf); rfl; (simp only [Nat.reduceEqDiff, Nat.reduceAdd, ↓reduceIte, xBB, stG, undef, opA, val, opdA, opdO, plainN, omap, binA, intBinA, loadV, readA, storeV, writeA, fieldAddrA, indexAddrA, lenA, builtinA, newA, unA, packA, Value.cells, h3b, fd28_0, ty3, hc3, e9]; rfl); first | rfl | exact ⟨rfl, rfl, rfl⟩))
  refine c_mid (fun g f t => g = .normal ∧ t = s3 ∧ f.get 12 = some (.int .i64 (limI n k))) ?_ ?_
  · unfold limI
    by_cases hkp : ((k : Nat) : Int) > 0
    · rw [if_pos hkp]
      repeat (first
  | with_reducible first | apply ops_end | apply d_end | apply k_seq | apply k_seq_ret | apply k_seq_exit | apply k_block | apply k_block_ret | apply k_block_here | apply c_seq | apply c_block | apply c_region | apply c_skip | apply c_ret | apply c_exit | apply c_loop | apply k_loop_exit | apply k_loop_ret | apply if_t | apply if_f
  | (with_reducible apply k_block_on
     · decide)
  | ((with_reducible first | apply xOp | apply xDr | apply xIf); rfl; (simp only [Nat.reduceEqDiff, Nat.reduceAdd, ↓reduceIte, xBB, stG, undef, opA, val, opdA, opdO, plainN, omap, binA, intBinA, loadV, readA, storeV, writeA, fieldAddrA, indexAddrA, lenA, builtinA, newA, unA, packA, Value.cells, hkp]; rfl); first | rfl | exact ⟨rfl, rfl, rfl⟩))
      refine ⟨rfl, rfl, ?_⟩
      simp only [Nat.reduceEqDiff, T.get_put, ↓reduceIte]
    · rw [if_neg hkp]
      repeat (first
  | with_reducible first | apply ops_end | apply d_end | apply k_seq | apply k_seq_ret | apply k_seq_exit | apply k_block | apply k_block_ret | apply k_block_here | apply c_seq | apply c_block | apply c_region | apply c_skip | apply c_ret | apply c_exit | apply c_loop | apply k_loop_exit | apply k_loop_ret | apply if_t | apply if_f
  | (with_reducible apply k_block_on
     · decide)
  | ((with_reducible first | apply xOp | apply xDr | apply xIf); rfl; (simp only [Nat.reduceEqDiff, Nat.reduceAdd, ↓reduceIte, xBB, stG, undef, opA, val, opdA, opdO, plainN, omap, binA, intBinA, loadV, readA, storeV, writeA, fieldAddrA, indexAddrA, lenA, builtinA, newA, unA, packA, Value.cells, hkp]; rfl); first | rfl | exact ⟨rfl, rfl, rfl⟩))
      exact ⟨rfl, rfl, by simp only [Nat.reduceEqDiff, T.get_put, ↓reduceIte]⟩
  · rintro g f t ⟨rfl, rfl, h12⟩ hF0
    (have q7 := hF0 7 (by rfl); simp only [Nat.reduceEqDiff, T.get_put, ↓reduceIte] at q7; have q8 := hF0 8 (by rfl); simp only [Nat.reduceEqDiff, T.get_put, ↓reduceIte] at q8; have q9 := hF0 9 (by rfl); simp only [Nat.reduceEqDiff, T.get_put, ↓reduceIte] at q9; have q10 := hF0 10 (by rfl); simp only [Nat.reduceEqDiff, T.get_put, ↓reduceIte] at q10; have q11 := hF0 11 (by rfl); simp only [Nat.reduceEqDiff, T.get_put, ↓reduceIte] at q11)
    repeat (first
  | with_reducible first | apply ops_end | apply d_end | apply k_seq | apply k_seq_ret | apply k_seq_exit | apply k_block | apply k_block_ret | apply k_block_here | apply c_seq | apply c_block | apply c_region | apply c_skip | apply c_ret | apply c_exit | apply c_loop | apply k_loop_exit | apply k_loop_ret | apply if_t | apply if_f
  | (with_reducible apply k_block_on
     · decide)
  | ((with_reducible first | apply xOp | apply xDr | apply xIf); rfl; (simp only [Nat.reduceEqDiff, Nat.reduceAdd, ↓reduceIte, xBB, stG, undef, opA, val, opdA, opdO, plainN, omap, binA, intBinA, loadV, readA, storeV, writeA, fieldAddrA, indexAddrA, lenA, builtinA, newA, unA, packA, Value.cells]; rfl); first | rfl | exact ⟨rfl, rfl, rfl⟩))
    refine loop_k (lk' := t.nx) (s0 := t) (fun m f t' => ∃ i : Nat, i + m = n ∧ f.get 14 = some (.int .i64 i) ∧ f.get 13 = some (.bool ((List.range i).all (goodI n es (limI n k) x)))) n (by omega) (Nat.le_refl _) ?_ (Ab.refl _ _) ?_
    · exact ⟨0, by omega, by simp only [Nat.reduceEqDiff, T.get_put, ↓reduceIte]; rfl, by simp only [Nat.reduceEqDiff, T.get_put, ↓reduceIte]; rfl⟩
    · rintro m f1 t1 ⟨i, hi, h14, h13⟩ hA4 hF1
      (have r7 := hF1 7 (by rfl); simp only [Nat.reduceEqDiff, T.get_put, ↓reduceIte, q7, q8, q9, q10, q11, h12] at r7; have r8 := hF1 8 (by rfl); simp only [Nat.reduceEqDiff, T.get_put, ↓reduceIte, q7, q8, q9, q10, q11, h12] at r8; have r9 := hF1 9 (by rfl); simp only [Nat.reduceEqDiff, T.get_put, ↓reduceIte, q7, q8, q9, q10, q11, h12] at r9; have r10 := hF1 10 (by rfl); simp only [Nat.reduceEqDiff, T.get_put, ↓reduceIte, q7, q8, q9, q10, q11, h12] at r10; have r11 := hF1 11 (by rfl); simp only [Nat.reduceEqDiff, T.get_put, ↓reduceIte, q7, q8, q9, q10, q11, h12] at r11; have r12 := hF1 12 (by rfl); simp only [Nat.reduceEqDiff, T.get_put, ↓reduceIte, q7, q8, q9, q10, q11, h12] at r12)
      have hn4 := hA4.nx
      have h4b := (hA4.get (Nat.le_refl _) (by omega)).trans h3b
      by_cases hlt : (i : Int) < (n : Int)
      · have hlt' : i < n := by omega
        have hw : IntKind.i64.wrap ((i : Int) + 1) = ((i + 1 : Nat) : Int) := by rw [IntWalk.i64_in _ (by omega)]; rfl
        have hshl := shl_i64 (k := i) (by omega)
        have hp62 : 2 ^ i < 2 ^ 62 := Nat.pow_lt_pow_right (by decide) (by omega)
        repeat (first
  | with_reducible first | apply ops_end | apply d_end | apply k_seq | apply k_seq_ret | apply k_seq_exit | apply k_block | apply k_block_ret | apply k_block_here | apply c_seq | apply c_block | apply c_region | apply c_skip | apply c_ret | apply c_exit | apply c_loop | apply k_loop_exit | apply k_loop_ret | apply if_t | apply if_f
  | (with_reducible apply k_block_on
     · decide)
  | ((with_reducible first | apply xOp | apply xDr | apply xIf); rfl; (simp only [Nat.reduceEqDiff, Nat.reduceAdd, ↓reduceIte, xBB, stG, undef, opA, val, opdA, opdO, plainN, omap, binA, intBinA, loadV, readA, storeV, writeA, fieldAddrA, indexAddrA, lenA, builtinA, newA, unA, packA, Value.cells, h14, r7, fd28_0, ty3, h4b, hc3, hlt]; rfl); first | rfl | exact ⟨rfl, rfl, rfl⟩))
        refine c_draw [⟨true, [], none⟩, ⟨false, [], none⟩, ⟨false, [], none⟩, ⟨true, [], none⟩, ⟨true, [], none⟩] (by kernel_rfl) ?_
        repeat (first
  | with_reducible first | apply ops_end | apply d_end | apply k_seq | apply k_seq_ret | apply k_seq_exit | apply k_block | apply k_block_ret | apply k_block_here | apply c_seq | apply c_block | apply c_region | apply c_skip | apply c_ret | apply c_exit | apply c_loop | apply k_loop_exit | apply k_loop_ret | apply if_t | apply if_f
  | (with_reducible apply k_block_on
     · decide)
  | ((with_reducible first | apply xOp | apply xDr | apply xIf); rfl; (simp only [Nat.reduceEqDiff, Nat.reduceAdd, ↓reduceIte, xBB, stG, undef, opA, val, opdA, opdO, plainN, omap, binA, intBinA, loadV, readA, storeV, writeA, fieldAddrA, indexAddrA, lenA, builtinA, newA, unA, packA, Value.cells, h14, r7, ty28, h4b, hc2, hshl, List.toList_toArray]; rfl); first | rfl | exact ⟨rfl, rfl, rfl⟩))
        ((with_reducible first | apply xCa | apply xCd); rfl; (simp only [Nat.reduceEqDiff, Nat.reduceAdd, ↓reduceIte, xBB, stB, opdA, opdO, plainN, omap, val, Value.cells]; exact ⟨rfl, rfl⟩); try rfl)
        apply call_fn
        refine (f22_spec n es _ (2 ^ i) t1 (hsE3.keep hA4) hg (by omega) hp62).use (by first | exact Nat.le_refl _ | (simp only [cond_true, cond_false]; omega) | omega | (dsimp only; omega)) (Nat.le_refl _) fun v t2 hv hA5 => ?_
        rw [Int.toNat_natCast] at hv
        change v = Value.int .i64 ((HN n es i : Nat) : Int) at hv
        subst hv
        have hn5 := hA5.nx
        have hH := HN_lt hg hlt'
        have hH62 : HN n es i < 2 ^ 62 := Nat.lt_of_lt_of_le hH (Nat.pow_le_pow_right (by decide) (by omega))
        have hH63 : HN n es i < 2 ^ 63 := Nat.lt_trans hH62 (by decide)
        have hall : (List.range (i + 1)).all (goodI n es (limI n k) x) = ((List.range i).all (goodI n es (limI n k) x) && goodI n es (limI n k) x i) := by
          rw [List.range_succ, List.all_append]; simp
        refine opt_of rfl ?_
        repeat (first
  | with_reducible first | apply ops_end | apply d_end | apply k_seq | apply k_seq_ret | apply k_seq_exit | apply k_block | apply k_block_ret | apply k_block_here | apply c_seq | apply c_block | apply c_skip | apply c_ret | apply c_exit | apply c_loop | apply k_loop_exit | apply k_loop_ret | apply if_t | apply if_f
  | (with_reducible apply k_block_on
     · decide)
  | ((with_reducible first | apply xOp | apply xDr | apply xIf); rfl; (simp only [Nat.reduceEqDiff, Nat.reduceAdd, ↓reduceIte, xBB, stG, undef, opA, val, opdA, opdO, plainN, omap, binA, intBinA, loadV, readA, storeV, writeA, fieldAddrA, indexAddrA, lenA, builtinA, newA, unA, packA, Value.cells]; rfl); first | rfl | exact ⟨rfl, rfl, rfl⟩))
        refine c_regionK (fun f' t' => Ab t2.nx t2 t' ∧ f'.get 13 = some (.bool ((List.range (i + 1)).all (goodI n es (limI n k) x)))) ?_ ?_
        · rw [hall]
          cases hc13 : (List.range i).all (goodI n es (limI n k) x) with
          | false =>
            rw [hc13] at h13
            repeat (first
  | with_reducible first | apply ops_end | apply d_end | apply k_seq | apply k_seq_ret | apply k_seq_exit | apply k_block | apply k_block_ret | apply k_block_here | apply c_seq | apply c_block | apply c_region | apply c_skip | apply c_ret | apply c_exit | apply c_loop | apply k_loop_exit | apply k_loop_ret | apply if_t | apply if_f
  | (with_reducible apply k_block_on
     · decide)
  | ((with_reducible first | apply xOp | apply xDr | apply xIf); rfl; (simp only [Nat.reduceEqDiff, Nat.reduceAdd, ↓reduceIte, xBB, stG, undef, opA, val, opdA, opdO, plainN, omap, binA, intBinA, loadV, readA, storeV, writeA, fieldAddrA, indexAddrA, lenA, builtinA, newA, unA, packA, Value.cells, h13]; rfl); first | rfl | exact ⟨rfl, rfl, rfl⟩))
            exact ⟨Ab.refl _ _, by simp only [Nat.reduceEqDiff, T.get_put, ↓reduceIte]; rfl⟩
          | true =>
            rw [hc13] at h13
            rw [Bool.true_and]
            unfold goodI
            by_cases hix : ((i : Nat) : Int) = x
            · have ei : (((i : Nat) : Int) == x) = true := by simp [hix]
              rw [decide_eq_true hix]
              repeat (first
  | with_reducible first | apply ops_end | apply d_end | apply k_seq | apply k_seq_ret | apply k_seq_exit | apply k_block | apply k_block_ret | apply k_block_here | apply c_seq | apply c_block | apply c_region | apply c_skip | apply c_ret | apply c_exit | apply c_loop | apply k_loop_exit | apply k_loop_ret | apply if_t | apply if_f
  | (with_reducible apply k_block_on
     · decide)
  | ((with_reducible first | apply xOp | apply xDr | apply xIf); rfl; (simp only [Nat.reduceEqDiff, Nat.reduceAdd, ↓reduceIte, xBB, stG, undef, opA, val, opdA, opdO, plainN, omap, binA, intBinA, loadV, readA, storeV, writeA, fieldAddrA, indexAddrA, lenA, builtinA, newA, unA, packA, Value.cells, h13, h14, r9, ei]; rfl); first | rfl | exact ⟨rfl, rfl, rfl⟩))
              exact ⟨Ab.refl _ _, by simp only [Nat.reduceEqDiff, T.get_put, ↓reduceIte]; rfl⟩
            · have ei : (((i : Nat) : Int) == x) = false := by simp [hix]
              rw [decide_eq_false hix]
              repeat (first
  | with_reducible first | apply ops_end | apply d_end | apply k_seq | apply k_seq_ret | apply k_seq_exit | apply k_block | apply k_block_ret | apply k_block_here | apply c_seq | apply c_block | apply c_region | apply c_skip | apply c_ret | apply c_exit | apply c_loop | apply k_loop_exit | apply k_loop_ret | apply if_t | apply if_f
  | (with_reducible apply k_block_on
     · decide)
  | ((with_reducible first | apply xOp | apply xDr | apply xIf); rfl; (simp only [Nat.reduceEqDiff, Nat.reduceAdd, ↓reduceIte, xBB, stG, undef, opA, val, opdA, opdO, plainN, omap, binA, intBinA, loadV, readA, storeV, writeA, fieldAddrA, indexAddrA, lenA, builtinA, newA, unA, packA, Value.cells, h13, h14, r9, ei]; rfl); first | rfl | exact ⟨rfl, rfl, rfl⟩))
              ((with_reducible first | apply xCa | apply xCd); rfl; (simp only [Nat.reduceEqDiff, Nat.reduceAdd, ↓reduceIte, xBB, stB, opdA, opdO, plainN, omap, val, Value.cells]; exact ⟨rfl, rfl⟩); try rfl)
              apply call_fn
              refine (f18_spec (HN n es i) t2 hH62).use (by omega) (Nat.le_refl _) fun v t3 hv hA6 => ?_
              obtain ⟨o6, hown6, _⟩ := hv
              obtain ⟨vb, vc, rfl⟩ := hown6.shape
              have hlm : ((nodesL (HN n es i) 62).map encI).length = (nodesL (HN n es i) 62).length := List.length_map _
              refine opt_of rfl ?_
              by_cases hlen : ((nodesL (HN n es i) 62).length : Int) > limI n k
              · rw [decide_eq_true hlen]
                repeat (first
  | with_reducible first | apply ops_end | apply d_end | apply k_seq | apply k_seq_ret | apply k_seq_exit | apply k_block | apply k_block_ret | apply k_block_here | apply c_seq | apply c_block | apply c_region | apply c_skip | apply c_ret | apply c_exit | apply c_loop | apply k_loop_exit | apply k_loop_ret | apply if_t | apply if_f
  | (with_reducible apply k_block_on
     · decide)
  | ((with_reducible first | apply xOp | apply xDr | apply xIf); rfl; (simp only [Nat.reduceEqDiff, Nat.reduceAdd, ↓reduceIte, xBB, stG, undef, opA, val, opdA, opdO, plainN, omap, binA, intBinA, loadV, readA, storeV, writeA, fieldAddrA, indexAddrA, lenA, builtinA, newA, unA, packA, Value.cells, un35, hlm, r12, hlen]; rfl); first | rfl | exact ⟨rfl, rfl, rfl⟩))
                exact ⟨hA6, by simp only [Nat.reduceEqDiff, T.get_put, ↓reduceIte]; rfl⟩
              · rw [decide_eq_false hlen]
                by_cases h5 : x ≥ 0
                · obtain ⟨j, rfl⟩ : ∃ j : Nat, x = (j : Int) := ⟨x.toNat, by omega⟩
                  have hsh := shr_i64 (a := HN n es i) (k := j) hH63
                  have hand := and_one (a := HN n es i >>> j) (shr_lt hH63)
                  have hbit := bit_eq (HN n es i) j
                  rw [decide_eq_true h5]
                  repeat (first
  | with_reducible first | apply ops_end | apply d_end | apply k_seq | apply k_seq_ret | apply k_seq_exit | apply k_block | apply k_block_ret | apply k_block_here | apply c_seq | apply c_block | apply c_region | apply c_skip | apply c_ret | apply c_exit | apply c_loop | apply k_loop_exit | apply k_loop_ret | apply if_t | apply if_f
  | (with_reducible apply k_block_on
     · decide)
  | ((with_reducible first | apply xOp | apply xDr | apply xIf); rfl; (simp only [Nat.reduceEqDiff, Nat.reduceAdd, ↓reduceIte, xBB, stG, undef, opA, val, opdA, opdO, plainN, omap, binA, intBinA, loadV, readA, storeV, writeA, fieldAddrA, indexAddrA, lenA, builtinA, newA, unA, packA, Value.cells, un35, hlm, r12, r9, hlen, h5, hsh, hand, hbit]; rfl); first | rfl | exact ⟨rfl, rfl, rfl⟩))
                  exact ⟨hA6, by simp only [Nat.reduceEqDiff, T.get_put, ↓reduceIte]; rfl⟩
                · rw [decide_eq_false h5]
                  repeat (first
  | with_reducible first | apply ops_end | apply d_end | apply k_seq | apply k_seq_ret | apply k_seq_exit | apply k_block | apply k_block_ret | apply k_block_here | apply c_seq | apply c_block | apply c_region | apply c_skip | apply c_ret | apply c_exit | apply c_loop | apply k_loop_exit | apply k_loop_ret | apply if_t | apply if_f
  | (with_reducible apply k_block_on
     · decide)
  | ((with_reducible first | apply xOp | apply xDr | apply xIf); rfl; (simp only [Nat.reduceEqDiff, Nat.reduceAdd, ↓reduceIte, xBB, stG, undef, opA, val, opdA, opdO, plainN, omap, binA, intBinA, loadV, readA, storeV, writeA, fieldAddrA, indexAddrA, lenA, builtinA, newA, unA, packA, Value.cells, un35, hlm, r12, r9, hlen, h5]; rfl); first | rfl | exact ⟨rfl, rfl, rfl⟩))
                  exact ⟨hA6, by simp only [Nat.reduceEqDiff, T.get_put, ↓reduceIte]; rfl⟩
        · rintro f2 t3 ⟨hA6, p13⟩ hF2
          (have p14 := hF2 14 (by rfl); simp only [Nat.reduceEqDiff, T.get_put, ↓reduceIte, h14] at p14)
          repeat (first
  | with_reducible first | apply ops_end | apply d_end | apply k_seq | apply k_seq_ret | apply k_seq_exit | apply k_block | apply k_block_ret | apply k_block_here | apply c_seq | apply c_block | apply c_region | apply c_skip | apply c_ret | apply c_exit | apply c_loop | apply k_loop_exit | apply k_loop_ret | apply if_t | apply if_f
  | (with_reducible apply k_block_on
     · decide)
  | ((with_reducible first | apply xOp | apply xDr | apply xIf); rfl; (simp only [Nat.reduceEqDiff, Nat.reduceAdd, ↓reduceIte, xBB, stG, undef, opA, val, opdA, opdO, plainN, omap, binA, intBinA, loadV, readA, storeV, writeA, fieldAddrA, indexAddrA, lenA, builtinA, newA, unA, packA, Value.cells, p14, hw]; rfl); first | rfl | exact ⟨rfl, rfl, rfl⟩))
          intro _ _
          exact k_loop_next (m' := m - 1) (by omega) ⟨i + 1, by omega, by simp only [Nat.reduceEqDiff, T.get_put, ↓reduceIte], by simp only [Nat.reduceEqDiff, T.get_put, ↓reduceIte]; exact p13⟩
      · have hin : i = n := by omega
        rw [hin, ← l1] at h13
        have e10 : (held == held) = true := by simp
        repeat (first
  | with_reducible first | apply ops_end | apply d_end | apply k_seq | apply k_seq_ret | apply k_seq_exit | apply k_block | apply k_block_ret | apply k_block_here | apply c_seq | apply c_block | apply c_region | apply c_skip | apply c_ret | apply c_exit | apply c_loop | apply k_loop_exit | apply k_loop_ret | apply if_t | apply if_f
  | (with_reducible apply k_block_on
     · decide)
  | ((with_reducible first | apply xOp | apply xDr | apply xIf); rfl; (simp only [Nat.reduceEqDiff, Nat.reduceAdd, ↓reduceIte, xBB, stG, undef, opA, val, opdA, opdO, plainN, omap, binA, intBinA, loadV, readA, storeV, writeA, fieldAddrA, indexAddrA, lenA, builtinA, newA, unA, packA, Value.cells, h14, r7, fd28_0, ty3, h4b, hc3, hlt]; rfl); first | rfl | exact ⟨rfl, rfl, rfl⟩))
        intro _ _
        have g1 : ∀ a b : Bool, eqGuardA Tryd.prog 4 (.bool a) (.bool b) = true := fun _ _ => rfl
        have g2 : ∀ a b : Bool, eqA Tryd.prog 10000 4 (.bool a) (.bool b) = some (a == b) := fun a b => by
          unfold eqA
          rw [un4]
        cases held with
        | false =>
          repeat (first
  | with_reducible first | apply ops_end | apply d_end | apply k_seq | apply k_seq_ret | apply k_seq_exit | apply k_block | apply k_block_ret | apply k_block_here | apply c_seq | apply c_block | apply c_region | apply c_skip | apply c_ret | apply c_exit | apply c_loop | apply k_loop_exit | apply k_loop_ret | apply if_t | apply if_f
  | (with_reducible apply k_block_on
     · decide)
  | ((with_reducible first | apply xOp | apply xDr | apply xIf); rfl; (simp only [Nat.reduceEqDiff, Nat.reduceAdd, ↓reduceIte, xBB, stG, undef, opA, val, opdA, opdO, plainN, omap, binA, intBinA, loadV, readA, storeV, writeA, fieldAddrA, indexAddrA, lenA, builtinA, newA, unA, packA, Value.cells, h13, r10, r8, r9, r7, e10, g1, g2, ty28, h4b, hc2, List.toList_toArray]; rfl); first | rfl | exact ⟨rfl, rfl, rfl⟩))
          ((with_reducible first | apply xCa | apply xCd); rfl; (simp only [Nat.reduceEqDiff, Nat.reduceAdd, ↓reduceIte, xBB, stB, opdA, opdO, plainN, omap, val, Value.cells]; exact ⟨rfl, rfl⟩); try rfl)
          apply call_fn
          refine (f11_spec n es _ k x t1 (hsE3.keep hA4) hg (by omega)).use (by first | exact Nat.le_refl _ | (simp only [cond_true, cond_false]; omega) | omega | (dsimp only; omega)) (Nat.le_refl _) fun v t2 hv hA5 => ?_
          obtain ⟨vb, vc, rfl⟩ := hv.shape
          have hne : candU es k x (2 ^ n - 2) ≠ [] := fun h => by rw [decide_eq_true h] at l2; cases l2
          have e11 : ((((candU es k x (2 ^ n - 2)).length : Nat) : Int) == 0) = false := by simpa using hne
          refine opt_of rfl ?_
          repeat (first
  | with_reducible first | apply ops_end | apply d_end | apply k_seq | apply k_seq_ret | apply k_seq_exit | apply k_block | apply k_block_ret | apply k_block_here | apply c_seq | apply c_block | apply c_region | apply c_skip | apply c_ret | apply c_exit | apply c_loop | apply k_loop_exit | apply k_loop_ret | apply if_t | apply if_f
  | (with_reducible apply k_block_on
     · decide)
  | ((with_reducible first | apply xOp | apply xDr | apply xIf); rfl; (simp only [Nat.reduceEqDiff, Nat.reduceAdd, ↓reduceIte, xBB, stG, undef, opA, val, opdA, opdO, plainN, omap, binA, intBinA, loadV, readA, storeV, writeA, fieldAddrA, indexAddrA, lenA, builtinA, newA, unA, packA, Value.cells, un30, e11, r10, g1, g2, e10, r11, beq_self_eq_true]; rfl); first | rfl | exact ⟨rfl, rfl, rfl⟩))
          intro _
          ((with_reducible first | apply ret_i | apply ret_n); (simp only [Nat.reduceEqDiff, Nat.reduceAdd, ↓reduceIte, xBB, resA, opdA, opdO, plainN, omap, val, loadV, readA, packA]; rfl))
          rfl
        | true =>
          repeat (first
  | with_reducible first | apply ops_end | apply d_end | apply k_seq | apply k_seq_ret | apply k_seq_exit | apply k_block | apply k_block_ret | apply k_block_here | apply c_seq | apply c_block | apply c_region | apply c_skip | apply c_ret | apply c_exit | apply c_loop | apply k_loop_exit | apply k_loop_ret | apply if_t | apply if_f
  | (with_reducible apply k_block_on
     · decide)
  | ((with_reducible first | apply xOp | apply xDr | apply xIf); rfl; (simp only [Nat.reduceEqDiff, Nat.reduceAdd, ↓reduceIte, xBB, stG, undef, opA, val, opdA, opdO, plainN, omap, binA, intBinA, loadV, readA, storeV, writeA, fieldAddrA, indexAddrA, lenA, builtinA, newA, unA, packA, Value.cells, h13, r10, r8, r9, r7, e10, g1, g2, ty28, h4b, hc2, List.toList_toArray]; rfl); first | rfl | exact ⟨rfl, rfl, rfl⟩))
          ((with_reducible first | apply xCa | apply xCd); rfl; (simp only [Nat.reduceEqDiff, Nat.reduceAdd, ↓reduceIte, xBB, stB, opdA, opdO, plainN, omap, val, Value.cells]; exact ⟨rfl, rfl⟩); try rfl)
          apply call_fn
          refine (f11_spec n es _ k x t1 (hsE3.keep hA4) hg (by omega)).use (by first | exact Nat.le_refl _ | (simp only [cond_true, cond_false]; omega) | omega | (dsimp only; omega)) (Nat.le_refl _) fun v t2 hv hA5 => ?_
          obtain ⟨vb, vc, rfl⟩ := hv.shape
          have hne : candU es k x (2 ^ n - 2) = [] := Classical.byContradiction fun h => by rw [decide_eq_false h] at l2; cases l2
          have e11 : ((((candU es k x (2 ^ n - 2)).length : Nat) : Int) == 0) = true := by rw [hne]; rfl
          refine opt_of rfl ?_
          repeat (first
  | with_reducible first | apply ops_end | apply d_end | apply k_seq | apply k_seq_ret | apply k_seq_exit | apply k_block | apply k_block_ret | apply k_block_here | apply c_seq | apply c_block | apply c_region | apply c_skip | apply c_ret | apply c_exit | apply c_loop | apply k_loop_exit | apply k_loop_ret | apply if_t | apply if_f
  | (with_reducible apply k_block_on
     · decide)
  | ((with_reducible first | apply xOp | apply xDr | apply xIf); rfl; (simp only [Nat.reduceEqDiff, Nat.reduceAdd, ↓reduceIte, xBB, stG, undef, opA, val, opdA, opdO, plainN, omap, binA, intBinA, loadV, readA, storeV, writeA, fieldAddrA, indexAddrA, lenA, builtinA, newA, unA, packA, Value.cells, un30, e11, r10, g1, g2, e10, r11, beq_self_eq_true]; rfl); first | rfl | exact ⟨rfl, rfl, rfl⟩))
          intro _
          ((with_reducible first | apply ret_i | apply ret_n); (simp only [Nat.reduceEqDiff, Nat.reduceAdd, ↓reduceIte, xBB, resA, opdA, opdO, plainN, omap, val, loadV, readA, packA]; rfl))
          rfl
end Go.Ev

/- From the row's world to the clean one: the arguments as the evaluator sees them; what the row asks of the world behind the call. -/
set_option linter.unusedSimpArgs false
set_option linter.unusedVariables false
namespace Go.Ev
open Go Go.Proofs Go.ChangeShapes Go.WideShapes Go.ChangeAt Go.RowKit
set_option maxRecDepth 100000

theorem ownKnobT : ownKnob Tryd.prog.godebug = none := by kernel_rfl
theorem gTab : Tryd.prog.globalNamed "math/bits.deBruijn64tab" = some 0 := by kernel_rfl
theorem gTabType : (Tryd.prog.globals[0]?).map (·.type) = some 103 := by kernel_rfl
theorem un103 : Tryd.prog.underlying 103 = some (.array 64 5) := by kernel_rfl
theorem cells103 : Tryd.prog.cellsOf 103 = 64 := by kernel_rfl
theorem cells5 : Tryd.prog.cellsOf 5 = 1 := by kernel_rfl
theorem cells3 : Tryd.prog.cellsOf 3 = 1 := by kernel_rfl
theorem kidsT : Kids Tryd.prog (· < Tryd.prog.types.size) := kids_rows (by kernel_rfl) (by kernel_rfl)
theorem fullT : ∀ t e, t < Tryd.prog.types.size → Tryd.prog.underlying t = some (.slice e) → 0 < Tryd.prog.cellsOf e := slices_full_of Tryd.prog (by kernel_rfl)
theorem sz103 : szA Tryd.prog 103 = some 64 := by kernel_rfl
theorem mixed : Tryd.prog.follows .mixedOrders = true := by kernel_rfl

/-! ### Behind the call -/
section
variable {H : Type} {enc : TypeId × Value → H}

theorem keptBut_of {W W' : World} {may : MemPlace → Prop} (hos : W'.os = W.os) (hout : W'.output = W.output) (hh : ∀ r, r < W.heap.size → W'.heap[r]? = W.heap[r]?) : W.keptBut W' may := by
  refine ⟨hos, hout, fun i hi => ?_⟩
  have := (World.keptBut_refl W may).2.2 i hi
  rw [hh i hi]; exact this

theorem sameAt_of {W W' : World} (hh : ∀ r, r < W.heap.size → W'.heap[r]? = W.heap[r]?) {p : MemPlace} (hp : p.block < W.heap.size) : W.sameAt W' p := by
  cases p with
  | cell b off =>
    show W'.cell? ⟨b, off, none⟩ = W.cell? ⟨b, off, none⟩
    unfold World.cell?
    rw [hh b hp]
  | map b => exact hh b hp

theorem trodAll_carry {P : Program} {w w' : World} {base : Nat} {spare : Nat → Bool} {held : Bool} : ∀ {ts : List TypeId} {vs : List Value} {ds : List (DataW H)} {ps : List MemPlace},
    DataW.TrodAll enc P w base spare held ts vs ds ps → (∀ p ∈ ps, w.sameAt w' p) → DataW.TrodAll enc P w' base spare held ts vs ds ps
  | [], [], [], _, h, _ => h
  | _ :: _, _ :: _, _ :: _, _, ⟨p, q, ⟨n, h1⟩, h2, e⟩, hs =>
    ⟨p, q, ⟨n, DataW.trod_carry n _ _ _ h1 fun x hx => hs x (by rw [e]; exact List.mem_append_left _ hx)⟩, trodAll_carry h2 (fun x hx => hs x (by rw [e]; exact List.mem_append_right _ hx)), e⟩

/-- What a law's row asks behind the call: true, and the arguments as they were. -/
theorem law_post {fn : Func} {s : ChangeSpec} (hvars : s.vars = []) (hres : fn.resultTypes = #[4]) (hpar : ∀ t ∈ fn.params.toList, t < Tryd.prog.types.size) {W W' : World} {args : Array Value} {ds gs : List (DataW H)} {before : List MemPlace}
    (hW : DataW.Whole enc Tryd.prog fn.params.toList s.vars false W args.toList ds gs before) (hsp : s.fn H (ds ++ gs) = { results := [.lit (.bool true)], args := ds })
    (hos : W'.os = W.os) (hout : W'.output = W.output) (hh : ∀ r, r < W.heap.size → W'.heap[r]? = W.heap[r]?) : s.post enc Tryd.prog fn false true false false W args (.bool true) W' := by
  have hlt := hW.lt
  have hW0 := hW
  obtain ⟨p, q, hA, hV, rfl, _, _⟩ := hW0
  refine ⟨ds, gs, p ++ q, [], p, [], hW, ?_, ?_, ?_, keptBut_of hos hout hh, fun h => by cases h⟩
  · rw [hsp, hres]
    exact trodAll_cons_mk (shut_bool un4 _) trodAll_mk0
  · rw [hsp]
    refine DataW.TrodAll.respare kidsT fullT hpar (trodAll_carry hA fun x hx => sameAt_of hh (hlt x (List.mem_append_left _ hx))) fun x hx => ?_
    simpa using hlt x (List.mem_append_left _ hx)
  · rw [hsp, hvars]; rfl
end

/-! ### Ahead of the call -/
/-- How an argument is seen: a block for what it holds, if it holds anything. -/
structure View (P : Program) (W : World) (v : Value) (xs : List (List Value)) (o : Option AObj) (im : Img) (av : Nat → Value) : Prop where
  val : ∀ φ id, φ id = some im → VR φ (av id) v
  blk : ∀ φ x, o = some x → OR P φ im (W.heap[im.blk]?) x ∧ wrO x = false
  sl : ∀ id (s : HS), s.hp.get id = o → id < s.nx → Sl s 1 (av id) xs

theorem lies_info {p : Program} {u : TypeId} (hu : ∀ m e, p.underlying u ≠ some (.array m e)) : ∀ {d : Nat} {e c off n : Nat}, liesAt p d e c off u n = true → p.cellsOf e ≠ 0 := by
  intro d e c off n h hz
  cases d with
  | zero => cases h
  | succ d =>
    unfold liesAt at h
    rw [Bool.or_eq_true] at h
    rcases h with h | h
    · unfold Program.depth at h
      unfold rowAt at h
      simp only [hz, if_true] at h
      cases h
    · split at h
      · rename_i m u' hmu; exact hu _ _ hmu
      · cases h

theorem sz_of_cells {p : Program} {e : TypeId} (h : p.cellsOf e ≠ 0) : ∃ n, szA p e = some n := by
  unfold Program.cellsOf at h
  unfold szA
  cases hi : p.info? e with
  | none => rw [hi] at h; exact absurd rfl h
  | some i => exact ⟨_, rfl⟩

/-- A slice of numbers. -/
theorem view_ints {P : Program} {W : World} {H : Type} {enc : TypeId × Value → H} {base b0 : Nat} {sp : Nat → Bool} {held : Bool} {t e : TypeId} {k : IntKind} {v : Value} {d : DataW H} {ps : List MemPlace}
    (ht : P.underlying t = some (.slice e)) (he : P.underlying e = some (.int k)) (hc : P.cellsOf e = 1) (hval : Value.okWide P W .any b0 t v) (hd : DataW.Trod enc P W base sp held t v d ps) :
    ∃ (zs : List Int) (o : Option AObj) (im : Img) (av : Nat → Value), View P W v (zs.map fun n => [.int k n]) o im av ∧ (∀ n ∈ zs, (Lit.int k n).wf = true) ∧ zs.length ≤ maxLen := by
  obtain ⟨fuel, hf⟩ := hd
  have hone : v.cells.toList = [v] := by
    unfold Value.okWide at hval
    rw [ht] at hval
    simp only at hval
    unfold Cell.okWide at hval
    rw [ht] at hval
    cases v <;> first | rfl | (simp [Cell.ok, ht] at hval; done)
  rcases open_ints ht he hc hf with ⟨hcs, _⟩ | ⟨a, len, cap, zs, hcs, _, hl, hm, hz, _, hcell, hwf⟩
  · rw [hone] at hcs
    obtain rfl := List.head_eq_of_cons_eq hcs
    refine ⟨[], none, ⟨0, 0, 0, 0⟩, fun _ => .slice none 0 0, ⟨fun φ id _ => .nilslice 0 0, fun φ x h => (by cases h), fun id s _ _ => Or.inl ⟨rfl, rfl⟩⟩, fun n h => (by cases h), Nat.zero_le _⟩
  · rw [hone] at hcs
    obtain rfl := List.head_eq_of_cons_eq hcs
    -- where the slice lies
    obtain ⟨row, c, fz, hspot, hblk, hsz⟩ : ∃ row c fz, a.spot = none ∧ W.heap[a.block]? = some (.cells c row fz) ∧ ∃ n, szA P row = some n := by
      unfold Value.okWide at hval
      rw [ht] at hval
      simp only at hval
      unfold Cell.okWide at hval
      rw [ht] at hval
      simp only [Cell.ok, ht] at hval
      obtain ⟨_, _, _, h1, row, cells, h2, h3⟩ := hval
      unfold World.shape? at h2
      split at h2
      · rename_i c elem fz hb
        cases h2
        refine ⟨_, c, fz, h1, hb, sz_of_cells (lies_info (fun m e' h => ?_) h3)⟩
        rw [he] at h; cases h
      · cases h2
    obtain ⟨n, hn⟩ := hsz
    obtain ⟨ab, aoff, aspot⟩ := a
    simp only at hspot hblk
    subst hspot
    have hcU : cap < UNK := by unfold maxLen at hm; unfold UNK; omega
    have hcl : ∀ i, i < zs.length → c[aoff + i]? = some (.int k (zs.getD i 0)) := fun i hi => by
      have := hcell i hi
      rw [add_plain] at this
      unfold World.cell? at this
      simp only [hblk] at this
      simpa using this
    have hlz : len ≤ zs.length := by rw [hz]; split <;> omega
    by_cases h0 : len = 0
    · subst h0
      refine ⟨[], some (.cells false row []), ⟨ab, 0, c.size, n⟩, fun id => .slice (some ⟨id, aoff, none⟩) 0 cap, ⟨fun φ id h => ?_, fun φ x h => ?_, fun id s h1 h2 => ?_⟩, fun n h => (by cases h), Nat.zero_le _⟩
      · have := VR.slice (φ := φ) id aoff 0 cap ⟨ab, 0, c.size, n⟩ h hcU
        simpa using this
      · cases h
        exact ⟨⟨hn, c, fz, hblk, by simp, Nat.zero_le _, fun i v h => (by simp at h), fun h => (by cases h)⟩, rfl⟩
      · exact Or.inr ⟨id, aoff, cap, false, row, [], rfl, h1, h2, fun i x h => by simp at h⟩
    · have hoff : aoff ≤ c.size := by
        have := (Array.getElem?_eq_some_iff.1 (hcl 0 (by omega))).1; omega
      have hend : aoff + len ≤ c.size := by
        have := (Array.getElem?_eq_some_iff.1 (hcl (len - 1) (by omega))).1; omega
      have hlen : (zs.take len).length = len := by rw [List.length_take]; omega
      refine ⟨zs.take len, some (.cells false row ((zs.take len).map fun n => .int k n)), ⟨ab, aoff, c.size - aoff, n⟩, fun id => .slice (some ⟨id, 0, none⟩) len cap, ⟨fun φ id h => ?_, fun φ x h => ?_, fun id s h1 h2 => ?_⟩, fun n h => hwf n (List.mem_of_mem_take h), by omega⟩
      · exact VR.slice (φ := φ) id 0 len cap ⟨ab, aoff, c.size - aoff, n⟩ h hcU
      · cases h
        refine ⟨⟨hn, c, fz, hblk, by show aoff + (c.size - aoff) = c.size; omega, by rw [List.length_map, hlen]; show len ≤ c.size - aoff; omega, fun i v h => ?_, fun h => (by cases h)⟩, rfl⟩
        rw [List.getElem?_map, Option.map_eq_some_iff] at h
        obtain ⟨z, h3, rfl⟩ := h
        have hi : i < len := by have := (List.getElem?_eq_some_iff.1 h3).1; omega
        rw [List.getElem?_take_of_lt hi] at h3
        refine ⟨.int k z, ?_, .int k z⟩
        show c[aoff + i]? = _
        rw [hcl i (by omega), List.getD_eq_getElem?_getD, h3]; rfl
      · refine Or.inr ⟨id, 0, cap, false, row, _, by rw [List.length_map, hlen], h1, h2, fun i x h => ?_⟩
        rw [List.getElem?_map, Option.map_eq_some_iff] at h
        obtain ⟨z, h3, rfl⟩ := h
        refine ⟨rfl, ?_⟩
        have hi : i < (zs.take len).length := (List.getElem?_eq_some_iff.1 h3).1
        unfold cutL
        rw [if_pos (by simp only [List.length_map]; omega)]
        rw [Nat.zero_add, Nat.mul_one, List.drop_eq_getElem_cons (by simpa using hi)]
        have h4 := (List.getElem?_eq_some_iff.1 h3).2
        simp only [List.getElem_map, h4, List.take_succ_cons, List.take_zero]

/-- No second argument. -/
theorem view_none {P : Program} {W : World} : View P W (.slice none 0 0) [] none ⟨0, 0, 0, 0⟩ (fun _ => .slice none 0 0) :=
  ⟨fun φ id _ => .nilslice 0 0, fun φ x h => (by cases h), fun id s _ _ => Or.inl ⟨rfl, rfl⟩⟩

/-- The clean memory of two arguments. -/
def s2 (o1 o2 : Option AObj) : HS := ⟨((T.nil.put 0 (some tabB)).put 1 o1).put 2 o2, 3⟩
def φ2 (im1 im2 : Img) : Inj := fun id => if id = 0 then some ⟨0, 0, 64, 64⟩ else if id = 1 then some im1 else if id = 2 then some im2 else none

theorem s2_get (o1 o2 : Option AObj) (id : Nat) : (s2 o1 o2).hp.get id = if id = 2 then o2 else if id = 1 then o1 else if id = 0 then some tabB else none := by
  unfold s2
  simp only [T.get_put, T.get_nil]

theorem s2_glob (o1 o2 : Option AObj) : Glob (s2 o1 o2) := ⟨by unfold s2; simp, by rw [s2_get]; rfl⟩

/-- The program's variable, as the clean memory has it. -/
theorem tab_or {W : World} (hsh : W.ShapedOpen Tryd.prog) (hT : Lib.TabIs Tryd.prog W "math/bits.deBruijn64tab" .u8 tabL) (φ : Inj) : OR Tryd.prog φ ⟨0, 0, 64, 64⟩ (W.heap[0]?) tabB := by
  have hrow : ∃ zero, ((begin Tryd.prog (fun _ _ => 0) default).world.heap[0]?).bind Obj.row? = some (zero, 103) := by
    have h : (((begin Tryd.prog (fun _ _ => 0) default).world.heap[0]?).bind Obj.row?).map (·.2) = some 103 := by kernel_rfl
    cases hc : ((begin Tryd.prog (fun _ _ => 0) default).world.heap[0]?).bind Obj.row? with
    | none => rw [hc] at h; cases h
    | some x => rw [hc] at h; obtain ⟨z, t⟩ := x; cases h; exact ⟨z, rfl⟩
  obtain ⟨zero, hz⟩ := hrow
  obtain ⟨cs, hcs, _, _⟩ := hsh.1 0 zero 103 (by rw [globs]; decide) hz
  have hv : W.var? Tryd.prog "math/bits.deBruijn64tab" = some (tabL.map fun z => Value.int .u8 z).toArray := hT
  unfold World.var? at hv
  rw [gTab] at hv
  simp only [Option.bind_some, hcs, Option.some.injEq] at hv
  subst hv
  refine ⟨sz103, _, _, hcs, rfl, Nat.le_refl _, fun i v h => ?_, fun h => by cases h⟩
  refine ⟨v, ?_, ?_⟩
  · show (tabL.map fun z => Value.int .u8 z).toArray[0 + i]? = _
    rw [Nat.zero_add, List.getElem?_toArray]; exact h
  · rw [List.getElem?_map, Option.map_eq_some_iff] at h
    obtain ⟨z, _, rfl⟩ := h
    exact .int .u8 z

theorem hr2 {W : World} {v1 v2 : Value} {x1 x2 : List (List Value)} {o1 o2 : Option AObj} {im1 im2 : Img} {a1 a2 : Nat → Value} (hsh : W.ShapedOpen Tryd.prog) (hT : Lib.TabIs Tryd.prog W "math/bits.deBruijn64tab" .u8 tabL)
    (h1 : View Tryd.prog W v1 x1 o1 im1 a1) (h2 : View Tryd.prog W v2 x2 o2 im2 a2) : HR Tryd.prog (φ2 im1 im2) (s2 o1 o2) W := by
  have hwr : ∀ id o, (s2 o1 o2).hp.get id = some o → wrO o = false := fun id o h => by
    rw [s2_get] at h
    split at h
    · exact (h2.blk (φ2 im1 im2) o h).2
    · split at h
      · exact (h1.blk (φ2 im1 im2) o h).2
      · split at h
        · cases h; rfl
        · cases h
  refine ⟨fun id o h => ?_, fun i j oi oj mi mj a b _ _ _ hw => ?_, fun id o h => ?_, fun g hg => ?_, ?_⟩
  · rw [s2_get] at h
    split at h
    · rename_i e; subst e; exact ⟨im2, rfl, (h2.blk _ o h).1⟩
    · split at h
      · rename_i e; subst e; exact ⟨im1, rfl, (h1.blk _ o h).1⟩
      · split at h
        · rename_i e; subst e; cases h; exact ⟨_, rfl, tab_or hsh hT _⟩
        · cases h
  · rw [hwr i oi a, hwr j oj b] at hw; rcases hw with h | h <;> cases h
  · rw [s2_get] at h
    show id < 3
    split at h
    · omega
    · split at h
      · omega
      · split at h
        · omega
        · cases h
  · rw [globs] at hg
    obtain rfl : g = 0 := by omega
    exact ⟨_, rfl, rfl, rfl⟩
  · rw [globs]; show 1 ≤ 3; decide

theorem fresh2 (im1 im2 : Img) (n : Nat) : Fresh (φ2 im1 im2) 3 n := fun id h _ => by
  unfold φ2
  rw [if_neg (by omega), if_neg (by omega), if_neg (by omega)]

/-- From the clean run to the call. -/
theorem calls_of [Sorts Tryd.prog] {W : World} {f : FuncId} {args args' : List Value} {im1 im2 : Img} {o1 o2 : Option AObj} (hH : HR Tryd.prog (φ2 im1 im2) (s2 o1 o2) W) (hl : LR (φ2 im1 im2) args args')
    (h : wpF Tryd.prog (s2 o1 o2).nx f args (s2 o1 o2) fun v _ => v = .bool true) :
    Calls Tryd.prog f args'.toArray W fun e W' => e = .returned (.bool true) ∧ W'.os = W.os ∧ W'.output = W.output ∧ ∀ r, r < W.heap.size → W'.heap[r]? = W.heap[r]? := by
  obtain ⟨n, v, s', h1, rfl⟩ := h
  refine (ev_calls Tryd.prog mixed h1 hH hl (Nat.le_refl _) (fresh2 im1 im2 _)).mono fun e W' hp => ?_
  obtain ⟨v', φ', rfl, hv, p⟩ := hp
  cases hv
  refine ⟨rfl, p.os, p.output, fun r hr => p.frame r hr fun id im hid hw _ => ?_⟩
  have hid' : 3 ≤ id := hid
  have := hw.ne
  rw [s2_get, if_neg (by omega), if_neg (by omega), if_neg (by omega)] at this
  exact absurd rfl this

theorem fieldsOf {P : Program} {t : TypeId} {fs : List Field} (h : fieldsA P t = some fs) : P.underlying t = some (.struct fs.toArray) := by
  unfold fieldsA at h
  split at h
  · rename_i f hf
    simp only [Option.some.injEq] at h
    subst h
    rw [hf]
  · cases h

def encU' (b : Nat) : List Value := [.int .u8 b]

theorem wf_u8 {n : Int} (h : (Lit.int .u8 n).wf = true) : 0 ≤ n ∧ n < 256 := by
  have h1 : IntKind.u8.min = 0 := rfl
  have h2 : IntKind.u8.max = 255 := rfl
  simp only [Lit.wf, Bool.and_eq_true, decide_eq_true_eq] at h
  omega

/-- A net: its number, and its list. -/
theorem view_net {W : World} {H : Type} {enc : TypeId × Value → H} {base b0 : Nat} {sp : Nat → Bool} {held : Bool} {v : Value} {d : DataW H} {ps : List MemPlace} (hval : Value.okWide Tryd.prog W .any b0 24 v) (hd : DataW.Trod enc Tryd.prog W base sp held 24 v d ps) :
    ∃ (nb : Nat) (c1 : Value) (bs : List Nat) (o : Option AObj) (im : Img) (av : Nat → Value), v = .agg #[.int .u8 nb, c1] ∧ View Tryd.prog W c1 (bs.map encU') o im av ∧ nb < 256 ∧ (∀ b ∈ bs, b < 256) ∧ bs.length ≤ maxLen := by
  have hs := fieldsOf (P := Tryd.prog) (t := 24) (fs := [{ name := "Nodes", type := 5, offset := 0, embedded := false, tag := "", pkgPath := "", byteOffset := 0 }, { name := "Edges", type := 22, offset := 1, embedded := false, tag := "", pkgPath := "", byteOffset := 8 }]) (by kernel_rfl)
  obtain ⟨fuel, hf⟩ := hd
  obtain ⟨y0, y1, n, _, hl, h0, h1⟩ := trod_struct2 hs hf
  have hc24 : Tryd.prog.cellsOf 24 = 2 := by kernel_rfl
  have hc22 : Tryd.prog.cellsOf 22 = 1 := by kernel_rfl
  unfold Value.okWide at hval
  rw [hs] at hval
  simp only at hval
  obtain ⟨cs, rfl, hsz, ts, hts, _, hrow⟩ := hval
  have hts2 : Tryd.prog.cellTypes Tryd.prog.depth 24 = some [5, 22] := by kernel_rfl
  rw [hts2] at hts
  obtain rfl := (Option.some.inj hts).symm
  rw [hc24] at hsz
  obtain ⟨l⟩ := cs
  match l, hsz with
  | [c0, c1], _ =>
    simp only [Value.cells, cells5, hc22] at h0 h1
    obtain ⟨z, hz, _, hwf⟩ := DataW.trod_int un5 (show DataW.trod enc Tryd.prog W base sp held n 5 [c0] = some y0 from h0)
    obtain rfl := List.head_eq_of_cons_eq hz
    obtain ⟨u, hu, hok⟩ := hrow 1 c1 rfl
    obtain rfl : u = 22 := (Option.some.inj (show some 22 = some u from hu)).symm
    have hval1 : Value.okWide Tryd.prog W .any b0 22 c1 := by
      unfold Value.okWide
      rw [un22]
      exact hok
    have hone : c1.cells.toList = [c1] := by
      unfold Cell.okWide at hok
      rw [un22] at hok
      cases c1 <;> first | rfl | (simp [Cell.ok, un22] at hok; done)
    obtain ⟨zs, o, im, av, hv, hwz, hlz⟩ := view_ints un22 un5 cells5 hval1 ⟨n, by rw [hone]; exact h1⟩
    have hzn := wf_u8 hwf
    refine ⟨z.toNat, c1, zs.map Int.toNat, o, im, av, by rw [Int.toNat_of_nonneg hzn.1], ?_, by omega, fun b hb => ?_, by rw [List.length_map]; exact hlz⟩
    · have : (zs.map fun n => [Value.int .u8 n]) = (zs.map Int.toNat).map encU' := by
        rw [List.map_map]
        refine List.map_congr_left fun x hx => ?_
        simp only [Function.comp, encU']
        rw [Int.toNat_of_nonneg (wf_u8 (hwz x hx)).1]
      rw [← this]; exact hv
    · obtain ⟨x, hx, rfl⟩ := List.mem_map.1 hb
      have := wf_u8 (hwz x hx); omega
/-- A small number. -/
theorem view_u8 {W : World} {H : Type} {enc : TypeId × Value → H} {base b0 : Nat} {sp : Nat → Bool} {held : Bool} {v : Value} {d : DataW H} {ps : List MemPlace} (hval : Value.okWide Tryd.prog W .any b0 5 v) (hd : DataW.Trod enc Tryd.prog W base sp held 5 v d ps) :
    ∃ z : Nat, v = .int .u8 z ∧ z < 256 := by
  have hone : v.cells.toList = [v] := by
    unfold Value.okWide at hval
    rw [un5] at hval
    simp only at hval
    unfold Cell.okWide at hval
    rw [un5] at hval
    cases v <;> first | rfl | (simp [Cell.ok, un5] at hval; done)
  obtain ⟨n, hf⟩ := hd
  rw [hone] at hf
  obtain ⟨z, hz, _, hwf⟩ := DataW.trod_int un5 hf
  obtain rfl := List.head_eq_of_cons_eq hz
  have := wf_u8 hwf
  exact ⟨z.toNat, by rw [Int.toNat_of_nonneg this.1], by omega⟩
end Go.Ev
