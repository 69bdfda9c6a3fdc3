import Derived.Test.YthedojfbofcefaaDoorEvG26
/- The law RemovableCandidates. -/
namespace Go.Ev
open Go Go.Proofs
set_option linter.unusedSimpArgs false
set_option linter.unusedVariables false
set_option maxRecDepth 100000
set_option maxHeartbeats 4000000
attribute [local irreducible] wpOps wpC wpD wpF wpLoop wpCall seqK blockK loopK retK T.put T.get T.setF

theorem candU_rows {es : List (Int × Int)} {most wo : Int} {k : Nat} : ∀ l ∈ candU es most wo k, l.length < 1000000000 := fun l h => by
  obtain ⟨S, _, _, _, rfl⟩ := (candU_mem k).1 h
  have := nodesL_len S 62
  omega
theorem minT_rows {n : Nat} {es : List (Int × Int)} {k : Nat} : ∀ l ∈ minT n es k, l.length < 1000000000 := fun l h => by
  unfold minT at h
  obtain ⟨S, _, rfl⟩ := List.mem_map.1 h
  have := nodesL_len (compN n es S) 62
  omega

theorem guard_bool' (a b : Bool) : eqGuardA Tryd.prog 4 (.bool a) (.bool b) = true := rfl
theorem eq_bool' (a b : Bool) : eqA Tryd.prog 10000 4 (.bool a) (.bool b) = some (a == b) := by
  unfold eqA
  rw [un4]

theorem f3_spec (nb mst wth : Nat) (bs : List Nat) (bv : Value) (s : HS) (hgl : Glob s) (hs : Sl s 1 bv (bs.map encU)) (hbs : ∀ b ∈ bs, b < 256) (hnb : nb < 256) (hmst : mst < 256) (hwth : wth < 256) :
    wpF Tryd.prog s.nx 3 [.agg #[.int .u8 nb, bv], .int .u8 mst, .int .u8 wth] s (fun v s' => v = .bool true) := by
  obtain ⟨b, c, rfl⟩ := hs.shape
  refine wpF_of Tryd.func3 rfl rfl rfl rfl (Nat.le_refl _) ?_
  simp only [paramsA]
  repeat (first
  | with_reducible first | refine st (by constructor) ?_ | apply c_region
  | (with_reducible apply k_block_on
     · decide)
  | ((with_reducible first | apply xOp | apply xDr | apply xIf); rfl; (simp only [Nat.reduceEqDiff, Nat.reduceAdd, ↓reduceIte, xBB, stG, undef, opA, val, opdA, opdO, plainN, omap, binA, intBinA, loadV, readA, storeV, writeA, fieldAddrA, indexAddrA, lenA, builtinA, newA, unA, packA, Value.cells]; rfl); first | rfl | exact ⟨rfl, rfl, rfl⟩))
  have hA0 := Ab.new (lk := s.nx) s (.cells true 24 [.int .u8 nb, .slice b (bs.map encU).length c])
  ((with_reducible first | apply xCa | apply xCd); rfl; (simp only [Nat.reduceEqDiff, Nat.reduceAdd, ↓reduceIte, xBB, stB, opdA, opdO, plainN, omap, val, Value.cells]; exact ⟨rfl, rfl⟩); try rfl)
  apply call_fn
  refine wpF_closed (known_closed (hgl.keep hA0)) ?_
  refine opt_of rfl ?_
  repeat (first
  | with_reducible first | refine st (by constructor) ?_ | apply c_region
  | (with_reducible apply k_block_on
     · decide)
  | ((with_reducible first | apply xOp | apply xDr | apply xIf); rfl; (simp only [Nat.reduceEqDiff, Nat.reduceAdd, ↓reduceIte, xBB, stG, undef, opA, val, opdA, opdO, plainN, omap, binA, intBinA, loadV, readA, storeV, writeA, fieldAddrA, indexAddrA, lenA, builtinA, newA, unA, packA, Value.cells, Bool.not_true, ty24, cutL]; rfl); first | rfl | exact ⟨rfl, rfl, rfl⟩))
  ((with_reducible first | apply xCa | apply xCd); rfl; (simp only [Nat.reduceEqDiff, Nat.reduceAdd, ↓reduceIte, xBB, stB, opdA, opdO, plainN, omap, val, Value.cells]; exact ⟨rfl, rfl⟩); try rfl)
  apply call_fn
  refine (f10_spec nb bs _ _ (hs.keep hA0) hbs hnb).use (by first | exact Nat.le_refl _ | (simp only [cond_true, cond_false]; omega) | omega | (dsimp only; omega)) (by first | exact Nat.le_refl _ | (simp only [cond_true, cond_false]; omega) | omega | (dsimp only; omega)) fun v s1 hv hA1 => ?_
  obtain ⟨o, ev, rfl, hown, hnew⟩ := hv
  have hk8 : nb % 8 < 8 := Nat.mod_lt _ (by decide)
  generalize hk : nb % 8 = n at *
  have hc0 := netE_good bs hk8
  have hg := good_of hc0
  generalize hes : netE n bs = es at *
  have hA2 := hA0.trans (hA1.lower (Nat.le_succ _) (Nat.le_refl _))
  obtain ⟨eb, ec, rfl⟩ := hown.shape
  have hle1 : s.nx ≤ s1.nx := hA2.nx
  have hout : ([Value.int .i64 (n : Int), .slice eb (es.map encE).length ec] : List Value).all Value.oneCell' = true := rfl
  refine opt_of rfl ?_
  unfold vG
  repeat (first
  | with_reducible first | refine st (by constructor) ?_ | apply c_region
  | (with_reducible apply k_block_on
     · decide)
  | ((with_reducible first | apply xOp | apply xDr | apply xIf); rfl; (simp only [Nat.reduceEqDiff, Nat.reduceAdd, ↓reduceIte, xBB, stG, undef, opA, val, opdA, opdO, plainN, omap, binA, intBinA, loadV, readA, storeV, writeA, fieldAddrA, indexAddrA, lenA, builtinA, newA, unA, packA, Value.cells, zr28, sz28, ty28, hle1, hout, List.toList_toArray]; rfl); first | rfl | exact ⟨rfl, rfl, rfl⟩))
  dsimp only
  generalize hs2 : ({ hp := (s1.hp.put s1.nx (some (.cells true 28 [.int .i64 0, .slice none 0 0]))).put s1.nx (some (.cells true 28 (putL [.int .i64 0, .slice none 0 0] 0 [.int .i64 (n : Int), .slice eb (es.map encE).length ec]))), nx := s1.nx + 1 } : HS) = s2
  have hn2 : s2.nx = s1.nx + 1 := by rw [← hs2]
  have h2lo : ∀ id, id < s1.nx → s2.hp.get id = s1.hp.get id := fun id h => by rw [← hs2]; dsimp only; rw [T.get_put_ne _ _ _ (by omega), T.get_put_ne _ _ _ (by omega)]
  have h2b : s2.hp.get s1.nx = some (.cells true 28 [.int .i64 (n : Int), .slice eb (es.map encE).length ec]) := by rw [← hs2]; exact T.get_put_eq _ _ _
  have hsE : Sl s2 2 (.slice eb (es.map encE).length ec) (es.map encE) := hown.sl.same (by omega) h2lo
  have hgl2 : Glob s2 := by
    have h1 : Glob s1 := hgl.keep hA2
    exact ⟨by have := h1.1; omega, by rw [h2lo 0 h1.1]; exact h1.2⟩
  have hc2 : cutL [Value.int .i64 (n : Int), .slice eb (es.map encE).length ec] 0 2 = some [Value.int .i64 n, .slice eb (es.map encE).length ec] := rfl
  have hc3 : cutL [Value.int .i64 (n : Int), .slice eb (es.map encE).length ec] 0 1 = some [Value.int .i64 n] := rfl
  have hk1 : mst % 8 < 8 := Nat.mod_lt _ (by decide)
  have hx1 : wth % (n + 1) < n + 1 := Nat.mod_lt _ (by omega)
  have e1 : (mst : Int).tmod 8 = ((mst % 8 : Nat) : Int) := tmodN mst 8
  have e2 : IntKind.i64.wrap ((mst % 8 : Nat) : Int) = ((mst % 8 : Nat) : Int) := IntWalk.i64_in _ (by omega)
  have e3 : IntKind.i64.wrap (wth : Int) = (wth : Int) := IntWalk.i64_in _ (by omega)
  have e4 : IntKind.i64.wrap ((n : Int) + 1) = ((n + 1 : Nat) : Int) := by rw [IntWalk.i64_in _ (by omega)]; rfl
  have e5 : (wth : Int).tmod ((n + 1 : Nat) : Int) = ((wth % (n + 1) : Nat) : Int) := tmodN wth (n + 1)
  have e6 : IntKind.i64.wrap (((wth % (n + 1) : Nat) : Int) - 1) = ((wth % (n + 1) : Nat) : Int) - 1 := IntWalk.i64_in _ (by omega)
  have e7 : ¬ (8 : Int) = 0 := by decide
  have e8 : ¬ ((n + 1 : Nat) : Int) = 0 := by omega
  have hx0 : ((wth % (n + 1) : Nat) : Int) - 1 < (n : Int) ∧ -1 ≤ ((wth % (n + 1) : Nat) : Int) - 1 := by omega
  generalize hmo : mst % 8 = k at *
  repeat (first
  | with_reducible first | refine st (by constructor) ?_ | apply c_region
  | (with_reducible apply k_block_on
     · decide)
  | ((with_reducible first | apply xOp | apply xDr | apply xIf); rfl; (simp only [Nat.reduceEqDiff, Nat.reduceAdd, ↓reduceIte, xBB, stG, undef, opA, val, opdA, opdO, plainN, omap, binA, intBinA, loadV, readA, storeV, writeA, fieldAddrA, indexAddrA, lenA, builtinA, newA, unA, packA, Value.cells]; rfl); first | rfl | exact ⟨rfl, rfl, rfl⟩))
  refine c_draw [⟨false, [], none⟩, ⟨false, [], none⟩, ⟨false, [], none⟩, ⟨false, [], none⟩, ⟨false, [], none⟩, ⟨true, [], none⟩, ⟨true, [], none⟩, ⟨true, [], none⟩, ⟨true, [], none⟩, ⟨true, [], none⟩, ⟨false, [], none⟩, ⟨true, [], none⟩] (by kernel_rfl) ?_
  repeat (first
  | with_reducible first | refine st (by constructor) ?_ | apply c_region
  | (with_reducible apply k_block_on
     · decide)
  | ((with_reducible first | apply xOp | apply xDr | apply xIf); rfl; (simp only [Nat.reduceEqDiff, Nat.reduceAdd, ↓reduceIte, xBB, stG, undef, opA, val, opdA, opdO, plainN, omap, binA, intBinA, loadV, readA, storeV, writeA, fieldAddrA, indexAddrA, lenA, builtinA, newA, unA, packA, Value.cells, e1, e2, e3, e4, e5, e6, e7, e8, convA, un5, un3, h2b, fd28_0, ty3, hc3, ty28, hc2, List.toList_toArray]; rfl); first | rfl | exact ⟨rfl, rfl, rfl⟩))
  generalize hx : ((wth % (n + 1) : Nat) : Int) - 1 = x at *
  have hn10 : n ≤ 10 := by omega
  have hk0 : (0 : Int) ≤ (k : Int) := by omega
  have hpow := pow_small hn10
  have hR : restR n es k x = 0 := by
    unfold restR
    rw [if_neg (by simpa using hc0), if_neg (by omega)]
  ((with_reducible first | apply xCa | apply xCd); rfl; (simp only [Nat.reduceEqDiff, Nat.reduceAdd, ↓reduceIte, xBB, stB, opdA, opdO, plainN, omap, val, Value.cells]; exact ⟨rfl, rfl⟩); try rfl)
  apply call_fn
  refine (f11_spec n es _ k x s2 hsE hg (by omega)).use (by first | exact Nat.le_refl _ | (simp only [cond_true, cond_false]; omega) | omega | (dsimp only; omega)) (Nat.le_refl _) fun v s3 hl3 hA3 => ?_
  obtain ⟨mb, mc, rfl⟩ := hl3.shape
  have hn3 := hA3.nx
  have h3b := (hA3.get (Nat.le_refl _) (show s1.nx < s2.nx by omega)).trans h2b
  have hsE3 := hsE.keep hA3
  have hgl3 := hgl2.keep hA3
  refine opt_of rfl ?_
  repeat (first
  | with_reducible first | refine st (by constructor) ?_ | apply c_region
  | (with_reducible apply k_block_on
     · decide)
  | ((with_reducible first | apply xOp | apply xDr | apply xIf); rfl; (simp only [Nat.reduceEqDiff, Nat.reduceAdd, ↓reduceIte, xBB, stG, undef, opA, val, opdA, opdO, plainN, omap, binA, intBinA, loadV, readA, storeV, writeA, fieldAddrA, indexAddrA, lenA, builtinA, newA, unA, packA, Value.cells, h3b, ty28, hc2, List.toList_toArray]; rfl); first | rfl | exact ⟨rfl, rfl, rfl⟩))
  ((with_reducible first | apply xCa | apply xCd); rfl; (simp only [Nat.reduceEqDiff, Nat.reduceAdd, ↓reduceIte, xBB, stB, opdA, opdO, plainN, omap, val, Value.cells]; exact ⟨rfl, rfl⟩); try rfl)
  apply call_fn
  refine (f12_spec n es _ k x s3 hgl3 hsE3).use (by first | exact Nat.le_refl _ | (simp only [cond_true, cond_false]; omega) | omega | (dsimp only; omega)) (Nat.le_refl _) fun v s4 hv hA4 => ?_
  rcases hv with ⟨h, _⟩ | ⟨_, ys, hF, lv, hv⟩
  · exact absurd hR h
  have hv' : v = .tuple #[lv, .int .i64 0] ∧ Lls s4 lv (candU es k x (2 ^ n - 2)) := by
    rcases hv with ⟨h1, _⟩ | ⟨h1, h2, rfl, h3⟩
    · have := found_len hF.1 (found_iff hg hn10 hk0 hF).1; omega
    · exact ⟨rfl, by rw [← cand_eq hg hn10 hk0 hF h2]; exact h3⟩
  obtain ⟨rfl, hl4⟩ := hv'
  clear hv hF
  obtain ⟨ob, oc, rfl⟩ := hl4.shape
  have hn4 := hA4.nx
  have h4b := (hA4.get (Nat.le_refl _) (show s1.nx < s3.nx by omega)).trans h3b
  have hsE4 := hsE3.keep hA4
  have hgl4 := hgl3.keep hA4
  have hm4 := hl3.keep hA4
  refine opt_of rfl ?_
  repeat (first
  | with_reducible first | refine st (by constructor) ?_ | apply c_region
  | (with_reducible apply k_block_on
     · decide)
  | ((with_reducible first | apply xOp | apply xDr | apply xIf); rfl; (simp only [Nat.reduceEqDiff, Nat.reduceAdd, ↓reduceIte, xBB, stG, undef, opA, val, opdA, opdO, plainN, omap, binA, intBinA, loadV, readA, storeV, writeA, fieldAddrA, indexAddrA, lenA, builtinA, newA, unA, packA, Value.cells, h4b, ty28, hc2, List.toList_toArray, List.getElem?_cons_zero, List.getElem?_cons_succ]; rfl); first | rfl | exact ⟨rfl, rfl, rfl⟩))
  ((with_reducible first | apply xCa | apply xCd); rfl; (simp only [Nat.reduceEqDiff, Nat.reduceAdd, ↓reduceIte, xBB, stB, opdA, opdO, plainN, omap, val, Value.cells]; exact ⟨rfl, rfl⟩); try rfl)
  apply call_fn
  refine (f13_spec n es _ k x s4 hgl4 hsE4).use (by first | exact Nat.le_refl _ | (simp only [cond_true, cond_false]; omega) | omega | (dsimp only; omega)) (Nat.le_refl _) fun v s5 hv hA5 => ?_
  rcases hv with ⟨h, _⟩ | ⟨_, o5, lv5, rfl, hown5⟩
  · exact absurd hR h
  obtain ⟨lw1, lw2⟩ := least_law hg hn10 (wo := x) hk0
  have hn5 := hA5.nx
  have h5b := (hA5.get (Nat.le_refl _) (show s1.nx < s4.nx by omega)).trans h4b
  have hsE5 := hsE4.keep hA5
  have hgl5 := hgl4.keep hA5
  have hm5 := hm4.keep hA5
  have hl5 := hl4.keep hA5
  have hcl := candU_len es k x (2 ^ n - 2)
  have hrows := candU_rows (es := es) (most := k) (wo := x) (k := 2 ^ n - 2)
  obtain ⟨vb5, vc5, rfl⟩ := hown5.shape
  generalize hlst : leastL (2 ^ n - 1) (k : Int) x (HNs n es) = lst at *
  generalize hcn : candU es k x (2 ^ n - 2) = cn at *
  have z0' : ((0 : Int) != 0) = false := rfl
  refine opt_of rfl ?_
  repeat (first
  | with_reducible first | refine st (by constructor) ?_
  | (with_reducible apply k_block_on
     · decide)
  | ((with_reducible first | apply xOp | apply xDr | apply xIf); rfl; (simp only [Nat.reduceEqDiff, Nat.reduceAdd, ↓reduceIte, xBB, stG, undef, opA, val, opdA, opdO, plainN, omap, binA, intBinA, loadV, readA, storeV, writeA, fieldAddrA, indexAddrA, lenA, builtinA, newA, unA, packA, Value.cells, List.toList_toArray, List.getElem?_cons_zero, List.getElem?_cons_succ]; rfl); first | rfl | exact ⟨rfl, rfl, rfl⟩))
  refine c_regionK (fun f' t' => Ab s5.nx s5 t' ∧ f'.get 96 = some (.bool false)) ?_ ?_
  · repeat (first
  | with_reducible first | refine st (by constructor) ?_ | apply c_region
  | (with_reducible apply k_block_on
     · decide)
  | ((with_reducible first | apply xOp | apply xDr | apply xIf); rfl; (simp only [Nat.reduceEqDiff, Nat.reduceAdd, ↓reduceIte, xBB, stG, undef, opA, val, opdA, opdO, plainN, omap, binA, intBinA, loadV, readA, storeV, writeA, fieldAddrA, indexAddrA, lenA, builtinA, newA, unA, packA, Value.cells]; rfl); first | rfl | exact ⟨rfl, rfl, rfl⟩))
    ((with_reducible first | apply xCa | apply xCd); rfl; (simp only [Nat.reduceEqDiff, Nat.reduceAdd, ↓reduceIte, xBB, stB, opdA, opdO, plainN, omap, val, Value.cells]; exact ⟨rfl, rfl⟩); try rfl)
    apply call_fn
    refine (f14_spec cn _ _ s5 hl5 hm5 (by omega) hrows).use (by first | exact Nat.le_refl _ | (simp only [cond_true, cond_false]; omega) | omega | (dsimp only; omega)) (Nat.le_refl _) fun v s6 hv hA6 => ?_
    subst hv
    have hm6 := hm5.keep hA6
    have hn6' := hA6.nx
    have hlm : ((nodesL lst.1 64).map encI).length = (nodesL lst.1 64).length := List.length_map _
    have nb : ∀ b : Bool, (!(b == b)) = false := fun b => by cases b <;> rfl
    refine opt_of rfl ?_
    cases hfd : lst.2 with
    | true =>
      have h0 := lw1 hfd
      have hgt : (cn.length : Int) > 0 := by have := (List.getElem?_eq_some_iff.1 h0).1; omega
      have hb0 : (0 : Int) ≤ 0 ∧ (0 : Int) < (cn.length : Int) := ⟨by decide, hgt⟩
      obtain ⟨id, off, wr, e, cs, rb, rc, rfl, g1, g2, g3, g4⟩ := hm6.at h0
      have g3' : cutL cs (off + Int.toNat 0 * 1) 1 = some [Value.slice rb ((nodesL lst.1 64).map encI).length rc] := g3
      repeat (first
  | with_reducible first | refine st (by constructor) ?_ | apply c_region
  | (with_reducible apply k_block_on
     · decide)
  | ((with_reducible first | apply xOp | apply xDr | apply xIf); rfl; (simp only [Nat.reduceEqDiff, Nat.reduceAdd, ↓reduceIte, xBB, stG, undef, opA, val, opdA, opdO, plainN, omap, binA, intBinA, loadV, readA, storeV, writeA, fieldAddrA, indexAddrA, lenA, builtinA, newA, unA, packA, Value.cells, Bool.not_true, Bool.not_false, z0', un30, hgt, guard_bool', eq_bool', nb, hb0, g1, g3', sz35, ty35, List.toList_toArray]; rfl); first | rfl | exact ⟨rfl, rfl, rfl⟩))
      ((with_reducible first | apply xCa | apply xCd); rfl; (simp only [Nat.reduceEqDiff, Nat.reduceAdd, ↓reduceIte, xBB, stB, opdA, opdO, plainN, omap, val, Value.cells]; exact ⟨rfl, rfl⟩); try rfl)
      apply call_fn
      refine (f15_spec (nodesL lst.1 64) (nodesL lst.1 64) _ _ s6 (hown5.sl.keep hA6) g4 (by have := nodesL_len lst.1 64; omega)).use (by first | exact Nat.le_refl _ | (simp only [cond_true, cond_false]; omega) | omega | (dsimp only; omega)) (Nat.le_refl _) fun v s7 hv hA7 => ?_
      obtain ⟨rfl, rfl⟩ := hv
      rw [decide_eq_true (rfl : nodesL lst.1 64 = nodesL lst.1 64)]
      refine opt_of rfl ?_
      repeat (first
  | with_reducible first | refine st (by constructor) ?_ | apply c_region
  | (with_reducible apply k_block_on
     · decide)
  | ((with_reducible first | apply xOp | apply xDr | apply xIf); rfl; (simp only [Nat.reduceEqDiff, Nat.reduceAdd, ↓reduceIte, xBB, stG, undef, opA, val, opdA, opdO, plainN, omap, binA, intBinA, loadV, readA, storeV, writeA, fieldAddrA, indexAddrA, lenA, builtinA, newA, unA, packA, Value.cells, Bool.not_true, Bool.not_false]; rfl); first | rfl | exact ⟨rfl, rfl, rfl⟩))
      exact ⟨hA6, by simp only [Nat.reduceEqDiff, T.get_put, ↓reduceIte]⟩
    | false =>
      obtain ⟨h0, h1⟩ := lw2 hfd
      have hgt : ¬ (cn.length : Int) > 0 := by rw [h0]; decide
      have hgt2 : ¬ ((nodesL lst.1 64).length : Int) > 0 := by rw [h1]; decide
      repeat (first
  | with_reducible first | refine st (by constructor) ?_ | apply c_region
  | (with_reducible apply k_block_on
     · decide)
  | ((with_reducible first | apply xOp | apply xDr | apply xIf); rfl; (simp only [Nat.reduceEqDiff, Nat.reduceAdd, ↓reduceIte, xBB, stG, undef, opA, val, opdA, opdO, plainN, omap, binA, intBinA, loadV, readA, storeV, writeA, fieldAddrA, indexAddrA, lenA, builtinA, newA, unA, packA, Value.cells, Bool.not_true, Bool.not_false, z0', un30, un35, hlm, hgt, hgt2, guard_bool', eq_bool', nb, List.toList_toArray]; rfl); first | rfl | exact ⟨rfl, rfl, rfl⟩))
      exact ⟨hA6, by simp only [Nat.reduceEqDiff, T.get_put, ↓reduceIte]⟩
  · rintro f t ⟨hA6, h96⟩ hF0
    (have q7 := hF0 7 (by rfl); simp only [Nat.reduceEqDiff, T.get_put, ↓reduceIte] at q7)
    have hn6 := hA6.nx
    have h6b := (hA6.get (Nat.le_refl _) (show s1.nx < s5.nx by omega)).trans h5b
    have hsE6 := hsE5.keep hA6
    have hgl6 := hgl5.keep hA6
    repeat (first
  | with_reducible first | refine st (by constructor) ?_ | apply c_region
  | (with_reducible apply k_block_on
     · decide)
  | ((with_reducible first | apply xOp | apply xDr | apply xIf); rfl; (simp only [Nat.reduceEqDiff, Nat.reduceAdd, ↓reduceIte, xBB, stG, undef, opA, val, opdA, opdO, plainN, omap, binA, intBinA, loadV, readA, storeV, writeA, fieldAddrA, indexAddrA, lenA, builtinA, newA, unA, packA, Value.cells, h96, q7, h6b, ty28, hc2, List.toList_toArray]; rfl); first | rfl | exact ⟨rfl, rfl, rfl⟩))
    ((with_reducible first | apply xCa | apply xCd); rfl; (simp only [Nat.reduceEqDiff, Nat.reduceAdd, ↓reduceIte, xBB, stB, opdA, opdO, plainN, omap, val, Value.cells]; exact ⟨rfl, rfl⟩); try rfl)
    apply call_fn
    refine (f11_spec n es _ 0 (-1) t hsE6 hg (by omega)).use (by first | exact Nat.le_refl _ | (simp only [cond_true, cond_false]; omega) | omega | (dsimp only; omega)) (Nat.le_refl _) fun v s7 hl7 hA7 => ?_
    obtain ⟨ab, ac, rfl⟩ := hl7.shape
    have hn7 := hA7.nx
    have h7b := (hA7.get (Nat.le_refl _) (show s1.nx < t.nx by omega)).trans h6b
    have hsE7 := hsE6.keep hA7
    have hgl7 := hgl6.keep hA7
    have hcl7 := candU_len es 0 (-1) (2 ^ n - 2)
    have hsub := sub_one' (n := n) (by omega)
    have hshl := shl_i64 (k := n) (by omega)
    have hp62 : 2 ^ n < 2 ^ 62 := by omega
    refine opt_of rfl ?_
    repeat (first
  | with_reducible first | refine st (by constructor) ?_ | apply c_region
  | (with_reducible apply k_block_on
     · decide)
  | ((with_reducible first | apply xOp | apply xDr | apply xIf); rfl; (simp only [Nat.reduceEqDiff, Nat.reduceAdd, ↓reduceIte, xBB, stG, undef, opA, val, opdA, opdO, plainN, omap, binA, intBinA, loadV, readA, storeV, writeA, fieldAddrA, indexAddrA, lenA, builtinA, newA, unA, packA, Value.cells]; rfl); first | rfl | exact ⟨rfl, rfl, rfl⟩))
    refine loop_k (lk' := s7.nx) (s0 := s7) (fun m f u => ∃ i : Nat, i + m = n ∧ f.get 18 = some (.int .i64 i) ∧ ∃ (o : Option Nat) (v : Value), f.get 17 = some v ∧ Bld u (fun _ => False) o v (minT n es i) ∧ newer s7 o) n (by omega) (Nat.le_refl _) ?_ (Ab.refl _ _) ?_
    · exact ⟨0, by omega, by simp only [Nat.reduceEqDiff, T.get_put, ↓reduceIte]; rfl, none, .slice none 0 0, by simp only [Nat.reduceEqDiff, T.get_put, ↓reduceIte], Bld.nil, fun _ h => (by cases h)⟩
    · rintro m f1 u ⟨i, hi, h18, o8, v8, h17, hB, hnew8⟩ hA8 hF1
      (have r7 := hF1 7 (by rfl); simp only [Nat.reduceEqDiff, T.get_put, ↓reduceIte, q7] at r7; have r16 := hF1 16 (by rfl); simp only [Nat.reduceEqDiff, T.get_put, ↓reduceIte, q7] at r16)
      have hn8 := hA8.nx
      have h8b := (hA8.get (Nat.le_refl _) (show s1.nx < s7.nx by omega)).trans h7b
      have hsE8 := hsE7.keep hA8
      by_cases hlt : (i : Int) < (n : Int)
      · have hlt' : i < n := by omega
        have hw : IntKind.i64.wrap ((i : Int) + 1) = ((i + 1 : Nat) : Int) := by rw [IntWalk.i64_in _ (by omega)]; rfl
        have hcc : compN n es i < 2 ^ 62 := Nat.lt_trans compN_lt hp62
        repeat (first
  | with_reducible first | refine st (by constructor) ?_ | apply c_region
  | (with_reducible apply k_block_on
     · decide)
  | ((with_reducible first | apply xOp | apply xDr | apply xIf); rfl; (simp only [Nat.reduceEqDiff, Nat.reduceAdd, ↓reduceIte, xBB, stG, undef, opA, val, opdA, opdO, plainN, omap, binA, intBinA, loadV, readA, storeV, writeA, fieldAddrA, indexAddrA, lenA, builtinA, newA, unA, packA, Value.cells, h18, r7, fd28_0, ty3, h8b, hc3, hlt, ty28, hc2, List.toList_toArray]; rfl); first | rfl | exact ⟨rfl, rfl, rfl⟩))
        ((with_reducible first | apply xCa | apply xCd); rfl; (simp only [Nat.reduceEqDiff, Nat.reduceAdd, ↓reduceIte, xBB, stB, opdA, opdO, plainN, omap, val, Value.cells]; exact ⟨rfl, rfl⟩); try rfl)
        apply call_fn
        refine (f16_spec n es _ i u hsE8 hg (by omega) hlt').use (by first | exact Nat.le_refl _ | (simp only [cond_true, cond_false]; omega) | omega | (dsimp only; omega)) (Nat.le_refl _) fun v u1 hv hA9 => ?_
        subst hv
        have hn9 := hA9.nx
        have h9b := (hA9.get (Nat.le_refl _) (show s1.nx < u.nx by omega)).trans h8b
        have hsE9 := hsE8.keep hA9
        have hB9 : Bld u1 (fun _ => False) o8 v8 _ := hB.same hA9.nx (fun id h _ => hA9.get (Nat.le_refl _) h) fun id h => Or.inl h
        refine opt_of rfl ?_
        repeat (first
  | with_reducible first | refine st (by constructor) ?_
  | (with_reducible apply k_block_on
     · decide)
  | ((with_reducible first | apply xOp | apply xDr | apply xIf); rfl; (simp only [Nat.reduceEqDiff, Nat.reduceAdd, ↓reduceIte, xBB, stG, undef, opA, val, opdA, opdO, plainN, omap, binA, intBinA, loadV, readA, storeV, writeA, fieldAddrA, indexAddrA, lenA, builtinA, newA, unA, packA, Value.cells]; rfl); first | rfl | exact ⟨rfl, rfl, rfl⟩))
        refine c_regionK (fun f' t' => Ab u1.nx u1 t' ∧ f'.get 126 = some (.bool (minB n es i))) ?_ ?_
        · repeat (first
  | with_reducible first | refine st (by constructor) ?_ | apply c_region
  | (with_reducible apply k_block_on
     · decide)
  | ((with_reducible first | apply xOp | apply xDr | apply xIf); rfl; (simp only [Nat.reduceEqDiff, Nat.reduceAdd, ↓reduceIte, xBB, stG, undef, opA, val, opdA, opdO, plainN, omap, binA, intBinA, loadV, readA, storeV, writeA, fieldAddrA, indexAddrA, lenA, builtinA, newA, unA, packA, Value.cells, r7, h9b, ty28, hc2, List.toList_toArray]; rfl); first | rfl | exact ⟨rfl, rfl, rfl⟩))
          ((with_reducible first | apply xCa | apply xCd); rfl; (simp only [Nat.reduceEqDiff, Nat.reduceAdd, ↓reduceIte, xBB, stB, opdA, opdO, plainN, omap, val, Value.cells]; exact ⟨rfl, rfl⟩); try rfl)
          apply call_fn
          refine (f17_spec n es _ (compN n es i) u1 hsE9 hg hcc).use (by first | exact Nat.le_refl _ | (simp only [cond_true, cond_false]; omega) | omega | (dsimp only; omega)) (Nat.le_refl _) fun v u2 hv hA10 => ?_
          subst hv
          have hn10' := hA10.nx
          have h10b := (hA10.get (Nat.le_refl _) (show s1.nx < u1.nx by omega)).trans h9b
          refine opt_of rfl ?_
          unfold minB
          cases hcb : closedB es (compN n es i) with
          | false =>
            repeat (first
  | with_reducible first | refine st (by constructor) ?_ | apply c_region
  | (with_reducible apply k_block_on
     · decide)
  | ((with_reducible first | apply xOp | apply xDr | apply xIf); rfl; (simp only [Nat.reduceEqDiff, Nat.reduceAdd, ↓reduceIte, xBB, stG, undef, opA, val, opdA, opdO, plainN, omap, binA, intBinA, loadV, readA, storeV, writeA, fieldAddrA, indexAddrA, lenA, builtinA, newA, unA, packA, Value.cells]; rfl); first | rfl | exact ⟨rfl, rfl, rfl⟩))
            exact ⟨hA10, by simp only [Nat.reduceEqDiff, T.get_put, ↓reduceIte]; rfl⟩
          | true =>
            by_cases hf : compN n es i = 2 ^ n - 1
            · have ef : (((compN n es i : Nat) : Int) != ((2 ^ n - 1 : Nat) : Int)) = false := by rw [hf]; simp
              have ed : decide (compN n es i ≠ 2 ^ n - 1) = false := by simp [hf]
              rw [ed]
              repeat (first
  | with_reducible first | refine st (by constructor) ?_ | apply c_region
  | (with_reducible apply k_block_on
     · decide)
  | ((with_reducible first | apply xOp | apply xDr | apply xIf); rfl; (simp only [Nat.reduceEqDiff, Nat.reduceAdd, ↓reduceIte, xBB, stG, undef, opA, val, opdA, opdO, plainN, omap, binA, intBinA, loadV, readA, storeV, writeA, fieldAddrA, indexAddrA, lenA, builtinA, newA, unA, packA, Value.cells, r7, h10b, fd28_0, ty3, hc3, hshl, hsub, ef]; rfl); first | rfl | exact ⟨rfl, rfl, rfl⟩))
              exact ⟨hA10, by simp only [Nat.reduceEqDiff, T.get_put, ↓reduceIte]; rfl⟩
            · have ef : (((compN n es i : Nat) : Int) != ((2 ^ n - 1 : Nat) : Int)) = true := by rw [bne_iff_ne]; omega
              have ed : decide (compN n es i ≠ 2 ^ n - 1) = true := by simp [hf]
              rw [ed]
              obtain ⟨r0, hr0, hr1⟩ := comp_first hg (by omega) hlt'
              repeat (first
  | with_reducible first | refine st (by constructor) ?_ | apply c_region
  | (with_reducible apply k_block_on
     · decide)
  | ((with_reducible first | apply xOp | apply xDr | apply xIf); rfl; (simp only [Nat.reduceEqDiff, Nat.reduceAdd, ↓reduceIte, xBB, stG, undef, opA, val, opdA, opdO, plainN, omap, binA, intBinA, loadV, readA, storeV, writeA, fieldAddrA, indexAddrA, lenA, builtinA, newA, unA, packA, Value.cells, r7, h10b, fd28_0, ty3, hc3, hshl, hsub, ef]; rfl); first | rfl | exact ⟨rfl, rfl, rfl⟩))
              ((with_reducible first | apply xCa | apply xCd); rfl; (simp only [Nat.reduceEqDiff, Nat.reduceAdd, ↓reduceIte, xBB, stB, opdA, opdO, plainN, omap, val, Value.cells]; exact ⟨rfl, rfl⟩); try rfl)
              apply call_fn
              refine (f18_spec (compN n es i) u2 hcc).use (by omega) (Nat.le_refl _) fun v u3 hv hA11 => ?_
              obtain ⟨o11, hown11, _⟩ := hv
              have hlm11 : ((nodesL (compN n es i) 62).map encI).length = (nodesL (compN n es i) 62).length := List.length_map _
              have hgt11 : (0 : Int) ≤ 0 ∧ (0 : Int) < ((nodesL (compN n es i) 62).length : Int) := ⟨by decide, by have := (List.getElem?_eq_some_iff.1 hr0).1; omega⟩
              obtain ⟨vb11, vc11, rfl⟩ := hown11.shape
              obtain ⟨id, off, wr, e, cs, rfl, g1, g2, g3, g4⟩ := hown11.sl.at (i := 0) (x := encI (r0 : Int)) (by rw [List.getElem?_map, hr0]; rfl)
              have g3' : cutL cs (off + Int.toNat 0 * 1) 1 = some [Value.int .i64 (r0 : Int)] := g3
              have er : (((r0 : Nat) : Int) == ((i : Nat) : Int)) = isRep n es i := by
                cases hri : isRep n es i with
                | true => rw [hr1.2 hri]; simp
                | false => rw [beq_eq_false_iff_ne]; intro h; have := hr1.1 (by omega); rw [hri] at this; cases this
              refine opt_of rfl ?_
              repeat (first
  | with_reducible first | refine st (by constructor) ?_ | apply c_region
  | (with_reducible apply k_block_on
     · decide)
  | ((with_reducible first | apply xOp | apply xDr | apply xIf); rfl; (simp only [Nat.reduceEqDiff, Nat.reduceAdd, ↓reduceIte, xBB, stG, undef, opA, val, opdA, opdO, plainN, omap, binA, intBinA, loadV, readA, storeV, writeA, fieldAddrA, indexAddrA, lenA, builtinA, newA, unA, packA, Value.cells, un35, hlm11, hgt11, g1, g3', sz3, ty3, h18, er]; rfl); first | rfl | exact ⟨rfl, rfl, rfl⟩))
              exact ⟨hA10.trans (hA11.lower (by omega) (Nat.le_refl _)), by simp only [Nat.reduceEqDiff, T.get_put, ↓reduceIte]; rfl⟩
        · rintro f2 u2 ⟨hA10, p126⟩ hF2
          have hn10' := hA10.nx
          have hB10 : Bld u2 (fun _ => False) o8 v8 _ := hB9.same hA10.nx (fun id h _ => hA10.get (Nat.le_refl _) h) fun id h => Or.inl h
          have hsucc := minT_succ (n := n) (es := es) i
          (have p17 := hF2 17 (by rfl); simp only [Nat.reduceEqDiff, T.get_put, ↓reduceIte, h17, h18] at p17; have p18 := hF2 18 (by rfl); simp only [Nat.reduceEqDiff, T.get_put, ↓reduceIte, h17, h18] at p18; have p19 := hF2 19 (by rfl); simp only [Nat.reduceEqDiff, T.get_put, ↓reduceIte, h17, h18] at p19)
          cases hmb : minB n es i with
          | false =>
            rw [hmb] at p126 hsucc
            repeat (first
  | with_reducible first | refine st (by constructor) ?_ | apply c_region
  | (with_reducible apply k_block_on
     · decide)
  | ((with_reducible first | apply xOp | apply xDr | apply xIf); rfl; (simp only [Nat.reduceEqDiff, Nat.reduceAdd, ↓reduceIte, xBB, stG, undef, opA, val, opdA, opdO, plainN, omap, binA, intBinA, loadV, readA, storeV, writeA, fieldAddrA, indexAddrA, lenA, builtinA, newA, unA, packA, Value.cells, p126, p18, hw]; rfl); first | rfl | exact ⟨rfl, rfl, rfl⟩))
            intro _ _
            refine k_loop_next (m' := m - 1) (by omega) ⟨i + 1, by omega, by simp only [Nat.reduceEqDiff, T.get_put, ↓reduceIte], o8, v8, by simp only [Nat.reduceEqDiff, T.get_put, ↓reduceIte]; exact p17, ?_, hnew8⟩
            rw [hsucc]; simpa using hB10
          | true =>
            rw [hmb] at p126 hsucc
            rw [if_pos rfl] at hsucc
            have hml := minT_len (n := n) (es := es) i
            repeat (first
  | with_reducible first | refine st (by constructor) ?_ | apply c_region
  | (with_reducible apply k_block_on
     · decide)
  | ((with_reducible first | apply xOp | apply xDr | apply xIf); rfl; (simp only [Nat.reduceEqDiff, Nat.reduceAdd, ↓reduceIte, xBB, stG, undef, opA, val, opdA, opdO, plainN, omap, binA, intBinA, loadV, readA, storeV, writeA, fieldAddrA, indexAddrA, lenA, builtinA, newA, unA, packA, Value.cells, p126, p17, p18, p19, hw]; rfl); first | rfl | exact ⟨rfl, rfl, rfl⟩))
            ((with_reducible first | apply xCa | apply xCd); rfl; (simp only [Nat.reduceEqDiff, Nat.reduceAdd, ↓reduceIte, xBB, stB, opdA, opdO, plainN, omap, val, Value.cells]; exact ⟨rfl, rfl⟩); try rfl)
            apply call_fn
            refine (f18_spec (compN n es i) u2 hcc).use (by omega) (Nat.le_refl _) fun v u3 hv hA11 => ?_
            obtain ⟨ol, hol, hnl⟩ := hv
            obtain ⟨lb, lc, rfl⟩ := hol.shape
            have hn11 := hA11.nx
            refine opt_of rfl ?_
            repeat (first
  | with_reducible first | refine st (by constructor) ?_ | apply c_region
  | (with_reducible apply k_block_on
     · decide)
  | ((with_reducible first | apply xOp | apply xDr | apply xIf); rfl; (simp only [Nat.reduceEqDiff, Nat.reduceAdd, ↓reduceIte, xBB, stG, undef, opA, val, opdA, opdO, plainN, omap, binA, intBinA, loadV, readA, storeV, writeA, fieldAddrA, indexAddrA, lenA, builtinA, newA, unA, packA, Value.cells, p17, p18, hw, buildSliceA, el30, sz35, zr35, zerosL, fillA]; rfl); first | rfl | exact ⟨rfl, rfl, rfl⟩))
            ((with_reducible first | apply ops_opt | apply xPd); (first | rfl | exact ⟨rfl, rfl⟩); (simp only [Nat.reduceEqDiff, Nat.reduceAdd, ↓reduceIte, xBB, opA, val, opdA, opdO, plainN, omap, binA, intBinA, loadV, readA, storeV, writeA, fieldAddrA, indexAddrA, lenA, builtinA, newA, unA, packA, Value.cells, un30, un35]; rfl))
            generalize hst0 : ({ hp := u3.hp.put u3.nx (some (.cells true 35 (putL ([.slice none 0 0] ++ []) (0 * 1) [.slice lb ((nodesL (compN n es i) 62).map encI).length lc]))), nx := u3.nx + 1 } : HS) = w
            have hwn : w.nx = u3.nx + 1 := by rw [← hst0]
            have hwo : ∀ id, id < u3.nx → w.hp.get id = u3.hp.get id := fun id h => by rw [← hst0]; exact T.get_put_ne _ _ _ (by omega)
            have hwy : w.hp.get u3.nx = some (.cells true 35 [.slice lb ((nodesL (compN n es i) 62).map encI).length lc]) := by rw [← hst0]; exact T.get_put_eq _ _ _
            clear hst0
            have hB4 : Bld w (fun _ => False) o8 v8 _ := hB10.same (by omega) (fun id h _ => (hwo id (by omega)).trans (hA11.get (Nat.le_refl _) h)) fun id h => Or.inl h
            have hol2 : Own w 3 1 ol _ _ := hol.same (by omega) fun id h => hwo id (hol.lt h)
            refine opt_ex (app_bld (lk := s7.nx) (l := nodesL (compN n es i) 62) hB4 (fun id h => hnew8 id h) hwy (SlB.of_own hol2 fun id h h2 => ?_) (by omega) (fun h => h)) fun qq hq => ?_
            · have h6 := hnl id h
              rcases h2 with h2 | h2
              · have := hB10.lt h2; omega
              · exact h2
            obtain ⟨qv, s5'⟩ := qq
            obtain ⟨v1, v2, o', v3, v4⟩ := hq
            dsimp only at v1 v2 v3
            refine opt_of rfl ?_
            repeat (first
  | with_reducible first | refine st (by constructor) ?_ | apply c_region
  | (with_reducible apply k_block_on
     · decide)
  | ((with_reducible first | apply xOp | apply xDr | apply xIf); rfl; (simp only [Nat.reduceEqDiff, Nat.reduceAdd, ↓reduceIte, xBB, stG, undef, opA, val, opdA, opdO, plainN, omap, binA, intBinA, loadV, readA, storeV, writeA, fieldAddrA, indexAddrA, lenA, builtinA, newA, unA, packA, Value.cells, p18, hw]; rfl); first | rfl | exact ⟨rfl, rfl, rfl⟩))
            intro _ _
            refine k_loop_next (m' := m - 1) (by omega) ⟨i + 1, by omega, by simp only [Nat.reduceEqDiff, T.get_put, ↓reduceIte], o', qv, by simp only [Nat.reduceEqDiff, T.get_put, ↓reduceIte], ?_, fun id h => ?_⟩
            · rw [hsucc]; exact v3
            · rcases v4 with rfl | rfl
              · exact hnew8 id h
              · cases h; omega
      · have hin : i = n := by omega
        rw [hin] at hB
        have hgl8 := hgl7.keep hA8
        have hl8 := hl7.keep hA8
        repeat (first
  | with_reducible first | refine st (by constructor) ?_ | apply c_region
  | (with_reducible apply k_block_on
     · decide)
  | ((with_reducible first | apply xOp | apply xDr | apply xIf); rfl; (simp only [Nat.reduceEqDiff, Nat.reduceAdd, ↓reduceIte, xBB, stG, undef, opA, val, opdA, opdO, plainN, omap, binA, intBinA, loadV, readA, storeV, writeA, fieldAddrA, indexAddrA, lenA, builtinA, newA, unA, packA, Value.cells, h18, r7, fd28_0, ty3, h8b, hc3, hlt]; rfl); first | rfl | exact ⟨rfl, rfl, rfl⟩))
        intro _ _
        repeat (first
  | with_reducible first | refine st (by constructor) ?_ | apply c_region
  | (with_reducible apply k_block_on
     · decide)
  | ((with_reducible first | apply xOp | apply xDr | apply xIf); rfl; (simp only [Nat.reduceEqDiff, Nat.reduceAdd, ↓reduceIte, xBB, stG, undef, opA, val, opdA, opdO, plainN, omap, binA, intBinA, loadV, readA, storeV, writeA, fieldAddrA, indexAddrA, lenA, builtinA, newA, unA, packA, Value.cells, r7, ty28, h8b, hc2, List.toList_toArray]; rfl); first | rfl | exact ⟨rfl, rfl, rfl⟩))
        ((with_reducible first | apply xCa | apply xCd); rfl; (simp only [Nat.reduceEqDiff, Nat.reduceAdd, ↓reduceIte, xBB, stB, opdA, opdO, plainN, omap, val, Value.cells]; exact ⟨rfl, rfl⟩); try rfl)
        apply call_fn
        refine (f19_spec n es _ u hgl8 hsE8).use (by first | exact Nat.le_refl _ | (simp only [cond_true, cond_false]; omega) | omega | (dsimp only; omega)) (Nat.le_refl _) fun v u1 hv hA9 => ?_
        rcases hv with ⟨h, _⟩ | ⟨_, lv9, rfl, hl9⟩
        · exact absurd hc0 h
        rw [min_law hg hn10] at hl9
        obtain ⟨b9, c9, rfl⟩ := hl9.shape
        have hn9 := hA9.nx
        have h9b := (hA9.get (Nat.le_refl _) (show s1.nx < u.nx by omega)).trans h8b
        have hsE9 := hsE8.keep hA9
        have hB9 : Bld u1 (fun _ => False) o8 v8 _ := hB.same hA9.nx (fun id h _ => hA9.get (Nat.le_refl _) h) fun id h => Or.inl h
        refine opt_of rfl ?_
        repeat (first
  | with_reducible first | refine st (by constructor) ?_ | apply c_region
  | (with_reducible apply k_block_on
     · decide)
  | ((with_reducible first | apply xOp | apply xDr | apply xIf); rfl; (simp only [Nat.reduceEqDiff, Nat.reduceAdd, ↓reduceIte, xBB, stG, undef, opA, val, opdA, opdO, plainN, omap, binA, intBinA, loadV, readA, storeV, writeA, fieldAddrA, indexAddrA, lenA, builtinA, newA, unA, packA, Value.cells, r7, ty28, h9b, hc2, List.toList_toArray, List.getElem?_cons_zero, List.getElem?_cons_succ]; rfl); first | rfl | exact ⟨rfl, rfl, rfl⟩))
        ((with_reducible first | apply xCa | apply xCd); rfl; (simp only [Nat.reduceEqDiff, Nat.reduceAdd, ↓reduceIte, xBB, stB, opdA, opdO, plainN, omap, val, Value.cells]; exact ⟨rfl, rfl⟩); try rfl)
        apply call_fn
        refine (f20_spec n es _ u1 hsE9).use (by first | exact Nat.le_refl _ | (simp only [cond_true, cond_false]; omega) | omega | (dsimp only; omega)) (Nat.le_refl _) fun v u2 hv hA10 => ?_
        rcases hv with ⟨h, _⟩ | ⟨_, ys, hF, hv⟩
        · exact absurd hc0 h
        obtain ⟨q1, q2⟩ := count_law hg (by omega) hF
        have hv' : v = .tuple #[.int .i64 ((if n = 0 then 1 else (candU es 0 (-1) (2 ^ n - 2)).length + 2 : Nat)), .int .i64 0] := by
          rcases hv with ⟨h1, _⟩ | ⟨_, h2, rfl⟩
          · omega
          · rw [q2 h2]
        subst hv'
        clear hv hF q1 q2
        have hn10' := hA10.nx
        have h10b := (hA10.get (Nat.le_refl _) (show s1.nx < u1.nx by omega)).trans h9b
        have hl10 := hl9.keep hA10
        have hB10 : Bld u2 (fun _ => False) o8 v8 _ := hB9.same hA10.nx (fun id h _ => hA10.get (Nat.le_refl _) h) fun id h => Or.inl h
        have hml := minT_len (n := n) (es := es) n
        have hmr := minT_rows (n := n) (es := es) (k := n)
        have hw2 : IntKind.i64.wrap (((candU es 0 (-1) (2 ^ n - 2)).length : Int) + 2) = ((((candU es 0 (-1) (2 ^ n - 2)).length + 2 : Nat)) : Int) := by rw [IntWalk.i64_in _ (by omega)]; rfl
        by_cases hz : n = 0
        · have ez : ((n : Int) == 0) = true := by rw [hz]; rfl
          rw [if_pos hz]
          refine opt_of rfl ?_
          repeat (first
  | with_reducible first | refine st (by constructor) ?_ | apply c_region
  | (with_reducible apply k_block_on
     · decide)
  | ((with_reducible first | apply xOp | apply xDr | apply xIf); rfl; (simp only [Nat.reduceEqDiff, Nat.reduceAdd, ↓reduceIte, xBB, stG, undef, opA, val, opdA, opdO, plainN, omap, binA, intBinA, loadV, readA, storeV, writeA, fieldAddrA, indexAddrA, lenA, builtinA, newA, unA, packA, Value.cells, r7, r16, un30, hw2, fd28_0, ty3, h10b, hc3, ez, h17, List.toList_toArray, List.getElem?_cons_zero, List.getElem?_cons_succ]; rfl); first | rfl | exact ⟨rfl, rfl, rfl⟩))
          ((with_reducible first | apply xCa | apply xCd); rfl; (simp only [Nat.reduceEqDiff, Nat.reduceAdd, ↓reduceIte, xBB, stB, opdA, opdO, plainN, omap, val, Value.cells]; exact ⟨rfl, rfl⟩); try rfl)
          apply call_fn
          refine (f14_spec (minT n es n) _ _ u2 hl10 hB10.lls (by omega) hmr).use (by first | exact Nat.le_refl _ | (simp only [cond_true, cond_false]; omega) | omega | (dsimp only; omega)) (Nat.le_refl _) fun v u3 hv hA11 => ?_
          subst hv
          refine opt_of rfl ?_
          repeat (first
  | with_reducible first | refine st (by constructor) ?_ | apply c_region
  | (with_reducible apply k_block_on
     · decide)
  | ((with_reducible first | apply xOp | apply xDr | apply xIf); rfl; (simp only [Nat.reduceEqDiff, Nat.reduceAdd, ↓reduceIte, xBB, stG, undef, opA, val, opdA, opdO, plainN, omap, binA, intBinA, loadV, readA, storeV, writeA, fieldAddrA, indexAddrA, lenA, builtinA, newA, unA, packA, Value.cells, beq_self_eq_true]; rfl); first | rfl | exact ⟨rfl, rfl, rfl⟩))
          intro _
          ((with_reducible first | apply ret_i | apply ret_n); (simp only [Nat.reduceEqDiff, Nat.reduceAdd, ↓reduceIte, xBB, resA, opdA, opdO, plainN, omap, val, loadV, readA, packA]; rfl))
          rfl
        · have ez : ((n : Int) == 0) = false := by rw [beq_eq_false_iff_ne]; omega
          rw [if_neg hz]
          refine opt_of rfl ?_
          repeat (first
  | with_reducible first | refine st (by constructor) ?_ | apply c_region
  | (with_reducible apply k_block_on
     · decide)
  | ((with_reducible first | apply xOp | apply xDr | apply xIf); rfl; (simp only [Nat.reduceEqDiff, Nat.reduceAdd, ↓reduceIte, xBB, stG, undef, opA, val, opdA, opdO, plainN, omap, binA, intBinA, loadV, readA, storeV, writeA, fieldAddrA, indexAddrA, lenA, builtinA, newA, unA, packA, Value.cells, r7, r16, un30, hw2, fd28_0, ty3, h10b, hc3, ez, h17, List.toList_toArray, List.getElem?_cons_zero, List.getElem?_cons_succ]; rfl); first | rfl | exact ⟨rfl, rfl, rfl⟩))
          ((with_reducible first | apply xCa | apply xCd); rfl; (simp only [Nat.reduceEqDiff, Nat.reduceAdd, ↓reduceIte, xBB, stB, opdA, opdO, plainN, omap, val, Value.cells]; exact ⟨rfl, rfl⟩); try rfl)
          apply call_fn
          refine (f14_spec (minT n es n) _ _ u2 hl10 hB10.lls (by omega) hmr).use (by first | exact Nat.le_refl _ | (simp only [cond_true, cond_false]; omega) | omega | (dsimp only; omega)) (Nat.le_refl _) fun v u3 hv hA11 => ?_
          subst hv
          refine opt_of rfl ?_
          repeat (first
  | with_reducible first | refine st (by constructor) ?_ | apply c_region
  | (with_reducible apply k_block_on
     · decide)
  | ((with_reducible first | apply xOp | apply xDr | apply xIf); rfl; (simp only [Nat.reduceEqDiff, Nat.reduceAdd, ↓reduceIte, xBB, stG, undef, opA, val, opdA, opdO, plainN, omap, binA, intBinA, loadV, readA, storeV, writeA, fieldAddrA, indexAddrA, lenA, builtinA, newA, unA, packA, Value.cells, beq_self_eq_true]; rfl); first | rfl | exact ⟨rfl, rfl, rfl⟩))
          intro _
          ((with_reducible first | apply ret_i | apply ret_n); (simp only [Nat.reduceEqDiff, Nat.reduceAdd, ↓reduceIte, xBB, resA, opdA, opdO, plainN, omap, val, loadV, readA, packA]; rfl))
          rfl
end Go.Ev
