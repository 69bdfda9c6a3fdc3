import Derived.Test.YthedojfbofcefaaDoorEvLowG
import Derived.Test.YthedojfbofcefaaDoorEvG21
import Derived.Test.YthedojfbofcefaaDoorEvSrt
/- The law RemovableLattice. -/
namespace Go.Ev
open Go Go.Proofs
set_option linter.unusedSimpArgs false
set_option linter.unusedVariables false
set_option maxRecDepth 100000
set_option maxHeartbeats 4000000
attribute [local irreducible] wpOps wpC wpD wpF wpLoop wpCall seqK blockK loopK retK T.put T.get T.setF

theorem slice_take {t : HS} {b : Option Addr} {c k : Nat} {xs : List (List Value)} (hs : Sl t 1 (.slice b xs.length c) xs) (hc : CapOK (.slice b xs.length c)) (hk : k ≤ xs.length) :
    ∃ b', (∀ h, sliceA Tryd.prog h 22 (.slice b xs.length c) none (some (.int .i64 k)) none = some (.slice b' k c)) ∧ Sl t 1 (.slice b' (xs.take k).length c) (xs.take k) := by
  obtain ⟨h1, h2⟩ := hc
  have hkl : (xs.take k).length = k := by rw [List.length_take]; omega
  have hn : natA (.int .i64 (k : Int)) = some k := by show (if (0 : Int) ≤ (k : Int) then some (k : Int).toNat else none) = some k; rw [if_pos (by omega)]; rfl
  have he : ∀ (h : T AObj) (b : Option Addr), sliceA Tryd.prog h 22 (.slice b xs.length c) none (some (.int .i64 k)) none = some (.slice (if c = 0 then b else b.map fun a => ⟨a.block, a.off + 0 * 1, none⟩) k c) := fun h b => by
    unfold sliceA
    simp only [onatA, hn, Option.map_some, Option.bind_some, un22, sz5, Option.getD_none, Option.getD_some]
    rw [if_pos h2, if_pos ⟨Nat.zero_le _, by omega⟩]; simp
  refine ⟨_, fun h => he h b, ?_⟩
  rcases hs with ⟨h3, h4⟩ | ⟨id, off, cap, wr, e, cs, h3, h4, h5, h6⟩
  · subst h4
    cases h3
    left
    rw [List.take_nil]
    constructor
    · split <;> rfl
    · rfl
  · cases h3
    right
    refine ⟨id, off, c, wr, e, cs, ?_, h4, h5, fun i x hx => h6 i x ?_⟩
    · split <;> simp
    · rw [List.getElem?_take] at hx
      split at hx
      · exact hx
      · cases hx

/-- A list that is not empty, with its block. -/
theorem Lls.fix {t : HS} {b : Option Addr} {n c : Nat} {ls : List (List Int)} (h : Lls t (.slice b n c) ls) (hne : ls ≠ []) :
    ∃ (id off : Nat) (wr : Bool) (e : TypeId) (cs : List Value), b = some ⟨id, off, none⟩ ∧ t.hp.get id = some (.cells wr e cs) ∧ id < t.nx ∧ ∀ (i : Nat) (l : List Int), ls[i]? = some l → ∃ (rb : Option Addr) (rc : Nat), cutL cs (off + i * 1) 1 = some [.slice rb (l.map encI).length rc] ∧ Sl t 1 (.slice rb (l.map encI).length rc) (l.map encI) := by
  cases ls with
  | nil => exact absurd rfl hne
  | cons l0 ls =>
    obtain ⟨id, off, wr, e, cs, rb, rc, rfl, g1, g2, g3, g4⟩ := h.at (i := 0) (l := l0) rfl
    refine ⟨id, off, wr, e, cs, rfl, g1, g2, fun i l hi => ?_⟩
    obtain ⟨id', off', wr', e', cs', rb', rc', hh, g1', g2', g3', g4'⟩ := h.at hi
    cases hh
    rw [g1] at g1'
    cases g1'
    exact ⟨rb', rc', g3', g4'⟩

theorem f8_spec (nb z : Nat) (bs : List Nat) (bv : Value) (s : HS) (hgl : Glob s) (hs : Sl s 1 bv (bs.map encU)) (hcap : CapOK bv) (hbs : ∀ b ∈ bs, b < 256) (hnb : nb < 256) (hz : z < 256) :
    wpF Tryd.prog s.nx 8 [.agg #[.int .u8 nb, bv], .int .u8 z] s (fun v s' => v = .bool true) := by
  obtain ⟨b, c, rfl⟩ := hs.shape
  refine wpF_of Tryd.func8 rfl rfl rfl rfl (Nat.le_refl _) ?_
  simp only [paramsA]
  repeat (first
  | with_reducible first | refine st (by constructor) ?_ | apply c_region
  | (with_reducible apply k_block_on
     · decide)
  | ((with_reducible first | apply xOp | apply xDr | apply xIf); rfl; (simp only [Nat.reduceEqDiff, Nat.reduceAdd, ↓reduceIte, xBB, stG, undef, opA, val, opdA, opdO, plainN, omap, binA, intBinA, loadV, readA, storeV, writeA, fieldAddrA, indexAddrA, lenA, builtinA, newA, unA, packA, Value.cells]; rfl); first | rfl | exact ⟨rfl, rfl, rfl⟩))
  have hA0 := Ab.new (lk := s.nx) s (.cells true 24 [.int .u8 nb, .slice b (bs.map encU).length c])
  ((with_reducible first | apply xCa | apply xCd); rfl; (simp only [Nat.reduceEqDiff, Nat.reduceAdd, ↓reduceIte, xBB, stB, opdA, opdO, plainN, omap, val, Value.cells]; exact ⟨rfl, rfl⟩); try rfl)
  apply call_fn
  refine wpF_closed (known_closed (hgl.keep hA0)) ?_
  refine opt_of rfl ?_
  repeat (first
  | with_reducible first | refine st (by constructor) ?_ | apply c_region
  | (with_reducible apply k_block_on
     · decide)
  | ((with_reducible first | apply xOp | apply xDr | apply xIf); rfl; (simp only [Nat.reduceEqDiff, Nat.reduceAdd, ↓reduceIte, xBB, stG, undef, opA, val, opdA, opdO, plainN, omap, binA, intBinA, loadV, readA, storeV, writeA, fieldAddrA, indexAddrA, lenA, builtinA, newA, unA, packA, Value.cells, Bool.not_true, ty24, cutL]; rfl); first | rfl | exact ⟨rfl, rfl, rfl⟩))
  ((with_reducible first | apply xCa | apply xCd); rfl; (simp only [Nat.reduceEqDiff, Nat.reduceAdd, ↓reduceIte, xBB, stB, opdA, opdO, plainN, omap, val, Value.cells]; exact ⟨rfl, rfl⟩); try rfl)
  apply call_fn
  refine (f10_spec nb bs _ _ (hs.keep hA0) hbs hnb).use (by first | exact Nat.le_refl _ | (simp only [cond_true, cond_false]; omega) | omega | (dsimp only; omega)) (by first | exact Nat.le_refl _ | (simp only [cond_true, cond_false]; omega) | omega | (dsimp only; omega)) fun v s1 hv hA1 => ?_
  obtain ⟨o, ev, rfl, hown, hnew⟩ := hv
  have hk8 : nb % 8 < 8 := Nat.mod_lt _ (by decide)
  generalize hk : nb % 8 = n at *
  have hc0 := netE_good bs hk8
  have hg := good_of hc0
  have hA2 := hA0.trans (hA1.lower (Nat.le_succ _) (Nat.le_refl _))
  obtain ⟨eb, ec, rfl⟩ := hown.shape
  have hle1 : s.nx ≤ s1.nx := hA2.nx
  have hn1' := hA1.nx
  dsimp only at hn1'
  have hb0 := hA1.get (Nat.le_refl _) (Nat.lt_succ_self s.nx)
  rw [T.get_put_eq] at hb0
  have hout : ([Value.int .i64 (n : Int), .slice eb ((netE n bs).map encE).length ec] : List Value).all Value.oneCell' = true := rfl
  refine opt_of rfl ?_
  unfold vG
  repeat (first
  | with_reducible first | refine st (by constructor) ?_ | apply c_region
  | (with_reducible apply k_block_on
     · decide)
  | ((with_reducible first | apply xOp | apply xDr | apply xIf); rfl; (simp only [Nat.reduceEqDiff, Nat.reduceAdd, ↓reduceIte, xBB, stG, undef, opA, val, opdA, opdO, plainN, omap, binA, intBinA, loadV, readA, storeV, writeA, fieldAddrA, indexAddrA, lenA, builtinA, newA, unA, packA, Value.cells, zr28, sz28, ty28, hle1, hout, List.toList_toArray]; rfl); first | rfl | exact ⟨rfl, rfl, rfl⟩))
  generalize hs2 : ({ hp := (s1.hp.put s1.nx (some (.cells true 28 [.int .i64 0, .slice none 0 0]))).put s1.nx (some (.cells true 28 (putL [.int .i64 0, .slice none 0 0] 0 [.int .i64 (n : Int), .slice eb ((netE n bs).map encE).length ec]))), nx := s1.nx + 1 } : HS) = s2
  have hn2 : s2.nx = s1.nx + 1 := by rw [← hs2]
  have h2lo : ∀ id, id < s1.nx → s2.hp.get id = s1.hp.get id := fun id h => by rw [← hs2]; dsimp only; rw [T.get_put_ne _ _ _ (by omega), T.get_put_ne _ _ _ (by omega)]
  have h2b : s2.hp.get s1.nx = some (.cells true 28 [.int .i64 (n : Int), .slice eb ((netE n bs).map encE).length ec]) := by rw [← hs2]; exact T.get_put_eq _ _ _
  have h2x := (h2lo s.nx (by omega)).trans hb0
  have hsE : Sl s2 2 (.slice eb ((netE n bs).map encE).length ec) ((netE n bs).map encE) := hown.sl.same (by omega) h2lo
  have hsB : Sl s2 1 (.slice b (bs.map encU).length c) (bs.map encU) := (hs.keep hA2).same (by omega) h2lo
  have hgl2 : Glob s2 := by
    have h1 : Glob s1 := hgl.keep hA2
    exact ⟨by have := h1.1; omega, by rw [h2lo 0 h1.1]; exact h1.2⟩
  have hc2 : cutL [Value.int .i64 (n : Int), .slice eb ((netE n bs).map encE).length ec] 0 2 = some [Value.int .i64 n, .slice eb ((netE n bs).map encE).length ec] := rfl
  have hn10 : n ≤ 10 := by omega
  have hpow := pow_small hn10
  have hR : ∀ bs', restR n (netE n bs') 0 (-1) = 0 := fun bs' => by
    unfold restR
    rw [if_neg (by simpa using netE_good bs' hk8), if_neg (by omega)]
  repeat (first
  | with_reducible first | refine st (by constructor) ?_ | apply c_region
  | (with_reducible apply k_block_on
     · decide)
  | ((with_reducible first | apply xOp | apply xDr | apply xIf); rfl; (simp only [Nat.reduceEqDiff, Nat.reduceAdd, ↓reduceIte, xBB, stG, undef, opA, val, opdA, opdO, plainN, omap, binA, intBinA, loadV, readA, storeV, writeA, fieldAddrA, indexAddrA, lenA, builtinA, newA, unA, packA, Value.cells, h2b, ty28, hc2, List.toList_toArray]; rfl); first | rfl | exact ⟨rfl, rfl, rfl⟩))
  ((with_reducible first | apply xCa | apply xCd); rfl; (simp only [Nat.reduceEqDiff, Nat.reduceAdd, ↓reduceIte, xBB, stB, opdA, opdO, plainN, omap, val, Value.cells]; exact ⟨rfl, rfl⟩); try rfl)
  apply call_fn
  refine (f12_spec n _ _ 0 (-1) s2 hgl2 hsE).use (by first | exact Nat.le_refl _ | (simp only [cond_true, cond_false]; omega) | omega | (dsimp only; omega)) (Nat.le_refl _) fun v s3 hv hA3 => ?_
  rcases hv with ⟨h, _⟩ | ⟨_, ys, hF, lv, hv⟩
  · exact absurd (hR bs) h
  have hv' : v = .tuple #[lv, .int .i64 0] ∧ LlsN s2 s3 lv (candU (netE n bs) 0 (-1) (2 ^ n - 2)) := by
    rcases hv with ⟨h1, _⟩ | ⟨h1, h2, rfl, h3⟩
    · have := found_len hF.1 (found_iff hg hn10 (by decide) hF).1; omega
    · exact ⟨rfl, by rw [← cand_eq hg hn10 (by decide) hF h2]; exact h3⟩
  obtain ⟨rfl, hl3⟩ := hv'
  clear hv hF
  obtain ⟨ob, oc, rfl⟩ := hl3.shape
  have hn3 := hA3.nx
  have h3b := (hA3.get (Nat.le_refl _) (show s1.nx < s2.nx by omega)).trans h2b
  have h3x := (hA3.get (Nat.le_refl _) (show s.nx < s2.nx by omega)).trans h2x
  have hsE3 := hsE.keep hA3
  have hsB3 := hsB.keep hA3
  have hgl3 := hgl2.keep hA3
  refine opt_of rfl ?_
  repeat (first
  | with_reducible first | refine st (by constructor) ?_ | apply c_region
  | (with_reducible apply k_block_on
     · decide)
  | ((with_reducible first | apply xOp | apply xDr | apply xIf); rfl; (simp only [Nat.reduceEqDiff, Nat.reduceAdd, ↓reduceIte, xBB, stG, undef, opA, val, opdA, opdO, plainN, omap, binA, intBinA, loadV, readA, storeV, writeA, fieldAddrA, indexAddrA, lenA, builtinA, newA, unA, packA, Value.cells, h3b, ty28, hc2, List.toList_toArray, List.getElem?_cons_zero, List.getElem?_cons_succ]; rfl); first | rfl | exact ⟨rfl, rfl, rfl⟩))
  ((with_reducible first | apply xCa | apply xCd); rfl; (simp only [Nat.reduceEqDiff, Nat.reduceAdd, ↓reduceIte, xBB, stB, opdA, opdO, plainN, omap, val, Value.cells]; exact ⟨rfl, rfl⟩); try rfl)
  apply call_fn
  refine (f19_spec n _ _ s3 hgl3 hsE3).use (by first | exact Nat.le_refl _ | (simp only [cond_true, cond_false]; omega) | omega | (dsimp only; omega)) (Nat.le_refl _) fun v s4 hv hA4 => ?_
  rcases hv with ⟨h, _⟩ | ⟨_, lv4, rfl, hm4⟩
  · exact absurd hc0 h
  rw [min_law hg hn10] at hm4
  obtain ⟨mb, mc, rfl⟩ := hm4.shape
  have hn4 := hA4.nx
  have h4b := (hA4.get (Nat.le_refl _) (show s1.nx < s3.nx by omega)).trans h3b
  have h4x := (hA4.get (Nat.le_refl _) (show s.nx < s3.nx by omega)).trans h3x
  have hsE4 := hsE3.keep hA4
  have hsB4 := hsB3.keep hA4
  have hgl4 := hgl3.keep hA4
  have hl4 := hl3.keep hA4
  have hlm : (bs.map encU).length = bs.length := List.length_map _
  obtain ⟨k, hk39, hkl, hmin⟩ : ∃ k : Nat, bs.take 39 = bs.take k ∧ k ≤ bs.length ∧ k ≤ 39 ∧ (if (39 : Int) < ((bs.map encU).length : Int) then (39 : Int) else ((bs.map encU).length : Int)) = (k : Int) := by
    rw [hlm]
    by_cases h : 39 < bs.length
    · exact ⟨39, rfl, by omega, by omega, by rw [if_pos (by omega)]; rfl⟩
    · exact ⟨bs.length, by rw [List.take_length, List.take_of_length_le (by omega)], Nat.le_refl _, by omega, by rw [if_neg (by omega)]⟩
  obtain ⟨hk39', hmin⟩ := hmin
  have hd1 : ∀ x y : Value, cutL [x, y] 1 1 = some [y] := fun _ _ => rfl
  obtain ⟨b', hsl, hsk⟩ := slice_take hsB4 hcap (k := k) (by rw [hlm]; exact hkl)
  have hlo4 : s.nx ≤ s4.nx := by omega
  have hne4 : ¬ s.nx = s4.nx := by omega
  have hl40 : ((bs.map encU).take k).length = k := by rw [List.length_take, hlm]; omega
  refine opt_of rfl ?_
  repeat (first
  | with_reducible first | refine st (by constructor) ?_ | apply c_region
  | (with_reducible apply k_block_on
     · decide)
  | ((with_reducible first | apply xOp | apply xDr | apply xIf); rfl; (simp only [Nat.reduceEqDiff, Nat.reduceAdd, ↓reduceIte, xBB, stG, undef, opA, val, opdA, opdO, plainN, omap, binA, intBinA, loadV, readA, storeV, writeA, fieldAddrA, indexAddrA, lenA, builtinA, newA, unA, packA, Value.cells, List.toList_toArray, List.getElem?_cons_zero, List.getElem?_cons_succ, h4x, fd24_1, ty22, hd1, un22, buildSliceA, el22, sz5, zr5, zerosL, fillA, hmin, hsl, hne4]; rfl); first | rfl | exact ⟨rfl, rfl, rfl⟩))
  ((with_reducible first | apply ops_opt | apply xPd); (first | rfl | exact ⟨rfl, rfl⟩); (simp only [Nat.reduceEqDiff, Nat.reduceAdd, ↓reduceIte, xBB, opA, val, opdA, opdO, plainN, omap, binA, intBinA, loadV, readA, storeV, writeA, fieldAddrA, indexAddrA, lenA, builtinA, newA, unA, packA, Value.cells, un22]; rfl))
  have hown0 : Own { hp := s4.hp.put s4.nx (some (.cells true 5 [])), nx := s4.nx + 1 } 5 1 (some s4.nx) (.slice (some ⟨s4.nx, 0, none⟩) 0 0) [] :=
    Own.block (T.get_put_eq _ _ _) rfl (Nat.lt_succ_self _) rfl (Or.inl rfl) (fun x hx => by cases hx) (by unfold UNK; simp)
  have hsk2 := hsk.keep (Ab.new s4 (.cells true 5 []))
  rw [hl40] at hsk2
  have hcells : ∀ y ∈ (bs.map encU).take k, y.length = 1 ∧ cell1 y = true := fun y hy => by
    obtain ⟨x, _, rfl⟩ := List.mem_map.1 (List.mem_of_mem_take hy); exact ⟨rfl, rfl⟩
  refine opt_ex (app_own (lk := s.nx) (t := 22) el22 sz5 by5 zr5 rfl (by decide) hown0 (fun id h => by cases h; exact hlo4) hsk2.len (fun h => hsk2.first h) hcells (by rw [hl40]; simp; omega)) fun q hq => ?_
  obtain ⟨v5, s5⟩ := q
  obtain ⟨h51, h52, o5, hown5, h53⟩ := hq
  dsimp only at h51 h52 hown5 h53
  rw [List.nil_append] at hown5
  obtain ⟨b5, c5, rfl⟩ := hown5.shape
  have h5x : s5.hp.get s.nx = some (.cells true 24 [.int .u8 nb, .slice b (bs.map encU).length c]) := by
    rw [h52 s.nx (by omega) (by intro h; have := Option.some.inj h; omega), T.get_put_ne _ _ _ (by omega)]; exact h4x
  have h5o : ∀ id, id < s4.nx → s5.hp.get id = s4.hp.get id := fun id h => by
    rw [h52 id (by omega) (by intro h'; have := Option.some.inj h'; omega), T.get_put_ne _ _ _ (by omega)]
  have ho5 : ∀ id, o5 = some id → s4.nx ≤ id := fun id h => by
    rcases h53 with rfl | rfl
    · cases h; exact Nat.le_refl _
    · cases h; omega
  refine opt_of rfl ?_
  repeat (first
  | with_reducible first | refine st (by constructor) ?_ | apply c_region
  | (with_reducible apply k_block_on
     · decide)
  | ((with_reducible first | apply xOp | apply xDr | apply xIf); rfl; (simp only [Nat.reduceEqDiff, Nat.reduceAdd, ↓reduceIte, xBB, stG, undef, opA, val, opdA, opdO, plainN, omap, binA, intBinA, loadV, readA, storeV, writeA, fieldAddrA, indexAddrA, lenA, builtinA, newA, unA, packA, Value.cells, buildSliceA, el22, sz5, zr5, zerosL, fillA]; rfl); first | rfl | exact ⟨rfl, rfl, rfl⟩))
  ((with_reducible first | apply ops_opt | apply xPd); (first | rfl | exact ⟨rfl, rfl⟩); (simp only [Nat.reduceEqDiff, Nat.reduceAdd, ↓reduceIte, xBB, opA, val, opdA, opdO, plainN, omap, binA, intBinA, loadV, readA, storeV, writeA, fieldAddrA, indexAddrA, lenA, builtinA, newA, unA, packA, Value.cells, un22]; rfl))
  generalize hst6 : ({ hp := s5.hp.put s5.nx (some (.cells true 5 (putL ([.int .u8 0] ++ []) (0 * 1) [.int .u8 z]))), nx := s5.nx + 1 } : HS) = s6
  have hn6 : s6.nx = s5.nx + 1 := by rw [← hst6]
  have h6o : ∀ id, id < s5.nx → s6.hp.get id = s5.hp.get id := fun id h => by rw [← hst6]; exact T.get_put_ne _ _ _ (by omega)
  have h6y : s6.hp.get s5.nx = some (.cells true 5 [.int .u8 z]) := by rw [← hst6]; exact T.get_put_eq _ _ _
  clear hst6
  have hown6 : Own s6 5 1 o5 _ _ := hown5.same (by omega) fun id h => h6o id (hown5.lt h)
  refine opt_ex (app_one (lk := s.nx) (t := 22) (y := [.int .u8 z]) el22 sz5 by5 zr5 rfl (by decide) hown6 (fun id h => by have := ho5 id h; omega) h6y rfl rfl (by rw [hl40]; omega)) fun q hq => ?_
  obtain ⟨v7, s7⟩ := q
  obtain ⟨h71, h72, o7, hown7, h73⟩ := hq
  dsimp only at h71 h72 hown7 h73
  have hbs' : (bs.map encU).take k ++ [[Value.int .u8 z]] = (bs.take k ++ [z]).map encU := by rw [List.map_append, List.map_take]; rfl
  rw [hbs'] at hown7
  obtain ⟨b7, c7, rfl⟩ := hown7.shape
  have h7o : ∀ id, id < s4.nx → s7.hp.get id = s4.hp.get id := fun id h => by
    rw [h72 id (by omega) (by intro h'; have := ho5 id h'; omega), h6o id (by omega)]; exact h5o id h
  have h7x := (h7o s.nx (by omega)).trans h4x
  have hn7 : s4.nx ≤ s7.nx := by omega
  have p1 : ∀ x y z : Value, putL [x, y] 1 [z] = [x, z] := fun _ _ _ => rfl
  have o1 : ∀ (b : Option Addr) (n c : Nat), ([Value.slice b n c] : List Value).all Value.oneCell' = true := fun _ _ _ => rfl
  have hlo7 : s.nx ≤ s.nx := Nat.le_refl _
  refine opt_of rfl ?_
  repeat (first
  | with_reducible first | refine st (by constructor) ?_
  | (with_reducible apply k_block_on
     · decide)
  | ((with_reducible first | apply xOp | apply xDr | apply xIf); rfl; (simp only [Nat.reduceEqDiff, Nat.reduceAdd, ↓reduceIte, xBB, stG, undef, opA, val, opdA, opdO, plainN, omap, binA, intBinA, loadV, readA, storeV, writeA, fieldAddrA, indexAddrA, lenA, builtinA, newA, unA, packA, Value.cells, fd24_1, sz22, h7x, p1, o1, hlo7, List.toList_toArray]; rfl); first | rfl | exact ⟨rfl, rfl, rfl⟩))
  dsimp only
  generalize hst8 : ({ hp := s7.hp.put s.nx (some (.cells true 24 [.int .u8 nb, .slice b7 ((bs.take k ++ [z]).map encU).length c7])), nx := s7.nx } : HS) = s8
  have hn8 : s8.nx = s7.nx := by rw [← hst8]
  have h8o : ∀ id, id ≠ s.nx → s8.hp.get id = s7.hp.get id := fun id h => by rw [← hst8]; exact T.get_put_ne _ _ _ (by omega)
  have h8x : s8.hp.get s.nx = some (.cells true 24 [.int .u8 nb, .slice b7 ((bs.take k ++ [z]).map encU).length c7]) := by rw [← hst8]; exact T.get_put_eq _ _ _
  clear hst8
  have h48 : ∀ id, id < s4.nx → id ≠ s.nx → s8.hp.get id = s4.hp.get id := fun id h h' => (h8o id h').trans (h7o id h)
  have h18 : ∀ id, id < s1.nx → id ≠ s.nx → s8.hp.get id = s1.hp.get id := fun id h h' => (h48 id (by omega) h').trans ((hA4.get (Nat.le_refl _) (by omega)).trans ((hA3.get (Nat.le_refl _) (by omega)).trans (h2lo id h)))
  have hown8 : Own s8 58 2 o _ _ := hown.same (by omega) fun id ho => h18 id (hown.lt ho) (by have := hnew id ho; dsimp only at this; omega)
  have ho7 : ∀ id, o7 = some id → s4.nx ≤ id := fun id h => by
    rcases h73 with rfl | rfl
    · exact ho5 id h
    · cases h; omega
  have hown7' : Own s8 5 1 o7 _ _ := hown7.same (by omega) fun id ho => h8o id (by have := ho7 id ho; omega)
  have hl8 := hl4.off (t' := s8) (by omega) fun id h1 h2 => h48 id h2 (by omega)
  have hm8 := hm4.off (t' := s8) (by omega) fun id h1 h2 => h48 id h2 (by omega)
  have h8b := (h48 s1.nx (by omega) (by omega)).trans h4b
  have hgl8 : Glob s8 := ⟨by have := hgl4.1; omega, by rw [h48 0 hgl4.1 (by have := hgl.1; omega)]; exact hgl4.2⟩
  have hbs2 : ∀ x ∈ bs.take k ++ [z], x < 256 := fun x hx => by
    rcases List.mem_append.1 hx with h | h
    · exact hbs x (List.mem_of_mem_take h)
    · rw [List.mem_singleton.1 h]; exact hz
  have hf10 := f10_spec nb (bs.take k ++ [z]) _ s8 hown7'.sl hbs2 hnb
  rw [hk] at hf10
  have hc24 : ∀ x y : Value, cutL [x, y] 0 2 = some [x, y] := fun _ _ => rfl
  repeat (first
  | with_reducible first | refine st (by constructor) ?_ | apply c_region
  | (with_reducible apply k_block_on
     · decide)
  | ((with_reducible first | apply xOp | apply xDr | apply xIf); rfl; (simp only [Nat.reduceEqDiff, Nat.reduceAdd, ↓reduceIte, xBB, stG, undef, opA, val, opdA, opdO, plainN, omap, binA, intBinA, loadV, readA, storeV, writeA, fieldAddrA, indexAddrA, lenA, builtinA, newA, unA, packA, Value.cells, h8x, ty24, hc24, List.toList_toArray]; rfl); first | rfl | exact ⟨rfl, rfl, rfl⟩))
  ((with_reducible first | apply xCa | apply xCd); rfl; (simp only [Nat.reduceEqDiff, Nat.reduceAdd, ↓reduceIte, xBB, stB, opdA, opdO, plainN, omap, val, Value.cells]; exact ⟨rfl, rfl⟩); try rfl)
  apply call_fn
  refine hf10.use (by first | exact Nat.le_refl _ | (simp only [cond_true, cond_false]; omega) | omega | (dsimp only; omega)) (Nat.le_refl _) fun v s9 hv hA9 => ?_
  obtain ⟨o9, ev9, rfl, hown9, hnew9⟩ := hv
  obtain ⟨eb9, ec9, rfl⟩ := hown9.shape
  have hn9 := hA9.nx
  have hg9 := good_of (netE_good (bs.take k ++ [z]) hk8)
  have hgl9 := hgl8.keep hA9
  refine opt_of rfl ?_
  unfold vG
  repeat (first
  | with_reducible first | refine st (by constructor) ?_ | apply c_region
  | (with_reducible apply k_block_on
     · decide)
  | ((with_reducible first | apply xOp | apply xDr | apply xIf); rfl; (simp only [Nat.reduceEqDiff, Nat.reduceAdd, ↓reduceIte, xBB, stG, undef, opA, val, opdA, opdO, plainN, omap, binA, intBinA, loadV, readA, storeV, writeA, fieldAddrA, indexAddrA, lenA, builtinA, newA, unA, packA, Value.cells]; rfl); first | rfl | exact ⟨rfl, rfl, rfl⟩))
  ((with_reducible first | apply xCa | apply xCd); rfl; (simp only [Nat.reduceEqDiff, Nat.reduceAdd, ↓reduceIte, xBB, stB, opdA, opdO, plainN, omap, val, Value.cells]; exact ⟨rfl, rfl⟩); try rfl)
  apply call_fn
  refine (f12_spec n _ _ 0 (-1) s9 hgl9 hown9.sl).use (by first | exact Nat.le_refl _ | (simp only [cond_true, cond_false]; omega) | omega | (dsimp only; omega)) (Nat.le_refl _) fun v s10 hv hA10 => ?_
  rcases hv with ⟨h, _⟩ | ⟨_, ys, hF, lv, hv⟩
  · exact absurd (hR _) h
  have hv' : v = .tuple #[lv, .int .i64 0] ∧ Lls s10 lv (candU (netE n (bs.take k ++ [z])) 0 (-1) (2 ^ n - 2)) := by
    rcases hv with ⟨h1, _⟩ | ⟨h1, h2, rfl, h3⟩
    · have := found_len hF.1 (found_iff hg9 hn10 (by decide) hF).1; omega
    · exact ⟨rfl, by rw [← cand_eq hg9 hn10 (by decide) hF h2]; exact h3.lls⟩
  obtain ⟨rfl, ha10⟩ := hv'
  clear hv hF
  obtain ⟨ab, ac, rfl⟩ := ha10.shape
  have hn10' := hA10.nx
  have hA810 := hA9.trans (hA10.lower hn9 (Nat.le_refl _))
  have hE := hown8.sl.keep hA810
  have hl10 := (hl8.keep hA810).lls
  have hm10 := (hm8.keep hA810).lls
  have h10b := (hA810.get (Nat.le_refl _) (by omega)).trans h8b
  have h10x := (hA810.get (Nat.le_refl _) (by omega)).trans h8x
  have hb10 := (hown7'.sl.keep hA810)
  have hgl10 := hgl8.keep hA810
  have z0' : ((0 : Int) != 0) = false := rfl
  refine opt_of rfl ?_
  repeat (first
  | with_reducible first | refine st (by constructor) ?_ | apply c_region
  | (with_reducible apply k_block_on
     · decide)
  | ((with_reducible first | apply xOp | apply xDr | apply xIf); rfl; (simp only [Nat.reduceEqDiff, Nat.reduceAdd, ↓reduceIte, xBB, stG, undef, opA, val, opdA, opdO, plainN, omap, binA, intBinA, loadV, readA, storeV, writeA, fieldAddrA, indexAddrA, lenA, builtinA, newA, unA, packA, Value.cells, z0', List.toList_toArray, List.getElem?_cons_zero, List.getElem?_cons_succ]; rfl); first | rfl | exact ⟨rfl, rfl, rfl⟩))
  have hcl := candU_len (netE n bs) 0 (-1) (2 ^ n - 2)
  have hcnp : ∀ (p : Nat) (l : List Int), (candU (netE n bs) 0 (-1) (2 ^ n - 2))[p]? = some l → ∃ S, isC n (netE n bs) 0 (-1) S ∧ l = nodesL S 62 := fun p l h => by
    obtain ⟨S, a1, a2, a3, a4⟩ := (candU_mem _).1 (List.mem_of_getElem? h)
    exact ⟨S, (okC_iff (by omega) (by decide) a1 a2).1 a3, a4⟩
  generalize hcn : candU (netE n bs) 0 (-1) (2 ^ n - 2) = cn at *
  have h62 : ∀ S, S < 2 ^ n → S < 2 ^ 62 := fun S h => Nat.lt_of_lt_of_le h (Nat.pow_le_pow_right (by decide) (by omega))
  have h63 : ∀ S, S < 2 ^ n → S < 2 ^ 63 := fun S h => Nat.lt_of_lt_of_le h (Nat.pow_le_pow_right (by decide) (by omega))
  have hnin : ∀ S, ∀ x ∈ nodesL S 62, 0 ≤ x ∧ x < 62 := fun S x hx => by
    obtain ⟨i, h1, h2, rfl⟩ := nodes_mem.1 hx
    omega
  have hnl : ∀ S, (nodesL S 62).length < 1000000 := fun S => by have := nodesL_len S 62; omega
  refine loop_k (lk' := s10.nx) (s0 := s10) (fun m f t => ∃ p : Nat, p + m = cn.length ∧ f.get 12 = some (.int .i64 p)) cn.length (by omega) (Nat.le_refl _) ?_ (Ab.refl _ _) ?_
  · exact ⟨0, by omega, by simp only [Nat.reduceEqDiff, T.get_put, ↓reduceIte]; rfl⟩
  · rintro m f t ⟨p, hp, h12⟩ hA hF
    (have k2 := hF 2 (by rfl); simp only [Nat.reduceEqDiff, T.get_put, ↓reduceIte] at k2; have k5 := hF 5 (by rfl); simp only [Nat.reduceEqDiff, T.get_put, ↓reduceIte] at k5; have k6 := hF 6 (by rfl); simp only [Nat.reduceEqDiff, T.get_put, ↓reduceIte] at k6; have k8 := hF 8 (by rfl); simp only [Nat.reduceEqDiff, T.get_put, ↓reduceIte] at k8; have k10 := hF 10 (by rfl); simp only [Nat.reduceEqDiff, T.get_put, ↓reduceIte] at k10)
    have hnt := hA.nx
    have htb := (hA.get (Nat.le_refl _) (show s1.nx < s10.nx by omega)).trans h10b
    have hEt := hE.keep hA
    by_cases hlt : (p : Int) < (cn.length : Int)
    · have hlt' : p < cn.length := by omega
      have hw : IntKind.i64.wrap ((p : Int) + 1) = ((p + 1 : Nat) : Int) := by rw [IntWalk.i64_in _ (by omega)]; rfl
      have hbp : (0 : Int) ≤ (p : Int) ∧ (p : Int) < (cn.length : Int) := ⟨by omega, hlt⟩
      obtain ⟨oid, ooff, owr, oe, ocs, rfl, g1, g2, hrows⟩ := Lls.fix hl10 (fun h => by rw [h] at hlt'; simp at hlt')
      obtain ⟨S, hS, hSl⟩ := hcnp p _ (List.getElem?_eq_getElem hlt')
      obtain ⟨rb, rc, r1, r2⟩ := hrows p _ (by rw [List.getElem?_eq_getElem hlt', hSl])
      have hbS := bits_nodes (h62 S hS.2.1)
      have g1t := (hA.get (Nat.le_refl _) g2).trans g1
      repeat (first
  | with_reducible first | refine st (by constructor) ?_ | apply c_region
  | (with_reducible apply k_block_on
     · decide)
  | ((with_reducible first | apply xOp | apply xDr | apply xIf); rfl; (simp only [Nat.reduceEqDiff, Nat.reduceAdd, ↓reduceIte, xBB, stG, undef, opA, val, opdA, opdO, plainN, omap, binA, intBinA, loadV, readA, storeV, writeA, fieldAddrA, indexAddrA, lenA, builtinA, newA, unA, packA, Value.cells, h12, k6, un30, sz35, ty35, hlt, hbp, g1t, r1, List.toList_toArray]; rfl); first | rfl | exact ⟨rfl, rfl, rfl⟩))
      ((with_reducible first | apply xCa | apply xCd); rfl; (simp only [Nat.reduceEqDiff, Nat.reduceAdd, ↓reduceIte, xBB, stB, opdA, opdO, plainN, omap, val, Value.cells]; exact ⟨rfl, rfl⟩); try rfl)
      apply call_fn
      refine (f23_spec (nodesL S 62) _ t (r2.keep hA) (by have := hnl S; omega) (hnin S)).use (by first | exact Nat.le_refl _ | (simp only [cond_true, cond_false]; omega) | omega | (dsimp only; omega)) (Nat.le_refl _) fun v t1 hv _ => ?_
      obtain ⟨rfl, rfl⟩ := hv
      rw [hbS]
      refine opt_of rfl ?_
      repeat (first
  | with_reducible first | refine st (by constructor) ?_ | apply c_region
  | (with_reducible apply k_block_on
     · decide)
  | ((with_reducible first | apply xOp | apply xDr | apply xIf); rfl; (simp only [Nat.reduceEqDiff, Nat.reduceAdd, ↓reduceIte, xBB, stG, undef, opA, val, opdA, opdO, plainN, omap, binA, intBinA, loadV, readA, storeV, writeA, fieldAddrA, indexAddrA, lenA, builtinA, newA, unA, packA, Value.cells]; rfl); first | rfl | exact ⟨rfl, rfl, rfl⟩))
      have c2 := k2; have c5 := k5; have c6 := k6; have c8 := k8; have c10 := k10
      clear k2 k5 k6 k8 k10
      refine loop_k (lk' := t1.nx) (s0 := t1) (fun m f u => ∃ q : Nat, q + m = cn.length ∧ f.get 15 = some (.int .i64 q)) cn.length (by omega) (Nat.le_refl _) ?_ (Ab.refl _ _) ?_
      · exact ⟨0, by omega, by simp only [Nat.reduceEqDiff, T.get_put, ↓reduceIte]; rfl⟩
      · rintro m2 f2 u ⟨q, hq, h15⟩ hA2 hF2
        (have k2 := hF2 2 (by rfl); simp only [Nat.reduceEqDiff, T.get_put, ↓reduceIte, c2, c5, c6, c8, c10, h12] at k2; have k5 := hF2 5 (by rfl); simp only [Nat.reduceEqDiff, T.get_put, ↓reduceIte, c2, c5, c6, c8, c10, h12] at k5; have k6 := hF2 6 (by rfl); simp only [Nat.reduceEqDiff, T.get_put, ↓reduceIte, c2, c5, c6, c8, c10, h12] at k6; have k8 := hF2 8 (by rfl); simp only [Nat.reduceEqDiff, T.get_put, ↓reduceIte, c2, c5, c6, c8, c10, h12] at k8; have k10 := hF2 10 (by rfl); simp only [Nat.reduceEqDiff, T.get_put, ↓reduceIte, c2, c5, c6, c8, c10, h12] at k10; have k12 := hF2 12 (by rfl); simp only [Nat.reduceEqDiff, T.get_put, ↓reduceIte, c2, c5, c6, c8, c10, h12] at k12; have k13 := hF2 13 (by rfl); simp only [Nat.reduceEqDiff, T.get_put, ↓reduceIte, c2, c5, c6, c8, c10, h12] at k13; have k14 := hF2 14 (by rfl); simp only [Nat.reduceEqDiff, T.get_put, ↓reduceIte, c2, c5, c6, c8, c10, h12] at k14)
        have hnu := hA2.nx
        have hAu := hA.trans (hA2.lower hnt (Nat.le_refl _))
        have hub := (hAu.get (Nat.le_refl _) (show s1.nx < s10.nx by omega)).trans h10b
        have hEu := hE.keep hAu
        by_cases hlt2 : (q : Int) < (cn.length : Int)
        · have hlt2' : q < cn.length := by omega
          have hw2 : IntKind.i64.wrap ((q : Int) + 1) = ((q + 1 : Nat) : Int) := by rw [IntWalk.i64_in _ (by omega)]; rfl
          have hbq : (0 : Int) ≤ (q : Int) ∧ (q : Int) < (cn.length : Int) := ⟨by omega, hlt2⟩
          obtain ⟨S', hS', hSl'⟩ := hcnp q _ (List.getElem?_eq_getElem hlt2')
          obtain ⟨rb2, rc2, r3, r4⟩ := hrows q _ (by rw [List.getElem?_eq_getElem hlt2', hSl'])
          have hbS' := bits_nodes (h62 S' hS'.2.1)
          have g1u := (hAu.get (Nat.le_refl _) g2).trans g1
          have hor := or_i64 (a := S) (b := S') (h63 S hS.2.1) (h63 S' hS'.2.1)
          have hand := and_i64 (a := S) (b := S') (h63 S hS.2.1) (h63 S' hS'.2.1)
          have ho62 : S ||| S' < 2 ^ 62 := h62 _ (Nat.or_lt_two_pow hS.2.1 hS'.2.1)
          have ha62 : S &&& S' < 2 ^ 62 := Nat.lt_of_le_of_lt Nat.and_le_left (h62 _ hS.2.1)
          repeat (first
  | with_reducible first | refine st (by constructor) ?_ | apply c_region
  | (with_reducible apply k_block_on
     · decide)
  | ((with_reducible first | apply xOp | apply xDr | apply xIf); rfl; (simp only [Nat.reduceEqDiff, Nat.reduceAdd, ↓reduceIte, xBB, stG, undef, opA, val, opdA, opdO, plainN, omap, binA, intBinA, loadV, readA, storeV, writeA, fieldAddrA, indexAddrA, lenA, builtinA, newA, unA, packA, Value.cells, h15, k6, un30, hlt2]; rfl); first | rfl | exact ⟨rfl, rfl, rfl⟩))
          refine c_draw [⟨false, [], none⟩, ⟨false, [], none⟩, ⟨false, [], none⟩, ⟨false, [], none⟩, ⟨false, [], none⟩, ⟨false, [0], none⟩, ⟨false, [0], none⟩, ⟨false, [], none⟩, ⟨true, [], none⟩, ⟨true, [], none⟩, ⟨true, [], none⟩, ⟨false, [], none⟩, ⟨false, [], none⟩, ⟨false, [], none⟩, ⟨false, [], none⟩, ⟨false, [], none⟩, ⟨false, [11], none⟩, ⟨false, [11], none⟩, ⟨false, [], none⟩, ⟨true, [], none⟩, ⟨true, [], none⟩, ⟨true, [], none⟩] (by kernel_rfl) ?_
          repeat (first
  | with_reducible first | refine st (by constructor) ?_ | apply c_region
  | (with_reducible apply k_block_on
     · decide)
  | ((with_reducible first | apply xOp | apply xDr | apply xIf); rfl; (simp only [Nat.reduceEqDiff, Nat.reduceAdd, ↓reduceIte, xBB, stG, undef, opA, val, opdA, opdO, plainN, omap, binA, intBinA, loadV, readA, storeV, writeA, fieldAddrA, indexAddrA, lenA, builtinA, newA, unA, packA, Value.cells, h15, k5, k6, k13, un30, sz35, ty35, hbq, g1u, r3, hub, ty28, hc2, List.toList_toArray]; rfl); first | rfl | exact ⟨rfl, rfl, rfl⟩))
          ((with_reducible apply xCs); rfl; (simp only [Nat.reduceEqDiff, Nat.reduceAdd, ↓reduceIte, xBB, stB, opdA, opdO, plainN, omap, val, Value.cells]; exact ⟨rfl, rfl⟩); rfl)
          apply call_fn
          refine (f23_spec (nodesL S' 62) _ u (r4.keep hAu) (by have := hnl S'; omega) (hnin S')).use (by first | exact Nat.le_refl _ | (simp only [cond_true, cond_false]; omega) | omega | (dsimp only; omega)) (Nat.le_refl _) fun v u1 hv _ => ?_
          obtain ⟨rfl, rfl⟩ := hv
          rw [hbS']
          refine ⟨rfl, ?_⟩
          refine opt_of rfl ?_
          repeat (first
  | with_reducible first | refine st (by constructor) ?_ | apply c_region
  | (with_reducible apply k_block_on
     · decide)
  | ((with_reducible first | apply xOp | apply xDr | apply xIf); rfl; (simp only [Nat.reduceEqDiff, Nat.reduceAdd, ↓reduceIte, xBB, stG, undef, opA, val, opdA, opdO, plainN, omap, binA, intBinA, loadV, readA, storeV, writeA, fieldAddrA, indexAddrA, lenA, builtinA, newA, unA, packA, Value.cells, hor]; rfl); first | rfl | exact ⟨rfl, rfl, rfl⟩))
          ((with_reducible first | apply xCa | apply xCd); rfl; (simp only [Nat.reduceEqDiff, Nat.reduceAdd, ↓reduceIte, xBB, stB, opdA, opdO, plainN, omap, val, Value.cells]; exact ⟨rfl, rfl⟩); try rfl)
          apply call_fn
          refine (f17_spec n _ _ (S ||| S') u1 hEu hg ho62).use (by first | exact Nat.le_refl _ | (simp only [cond_true, cond_false]; omega) | omega | (dsimp only; omega)) (Nat.le_refl _) fun v u2 hv hA3 => ?_
          subst hv
          rw [closedB_or hS.2.2.1 hS'.2.2.1]
          have hn3u := hA3.nx
          have hAu2 := hAu.trans (hA3.lower hAu.nx (Nat.le_refl _))
          have hub2 := (hAu2.get (Nat.le_refl _) (show s1.nx < s10.nx by omega)).trans h10b
          have g1u2 := (hAu2.get (Nat.le_refl _) g2).trans g1
          refine opt_of rfl ?_
          repeat (first
  | with_reducible first | refine st (by constructor) ?_ | apply c_region
  | (with_reducible apply k_block_on
     · decide)
  | ((with_reducible first | apply xOp | apply xDr | apply xIf); rfl; (simp only [Nat.reduceEqDiff, Nat.reduceAdd, ↓reduceIte, xBB, stG, undef, opA, val, opdA, opdO, plainN, omap, binA, intBinA, loadV, readA, storeV, writeA, fieldAddrA, indexAddrA, lenA, builtinA, newA, unA, packA, Value.cells, Bool.not_true, h15, k5, k6, k13, un30, sz35, ty35, hbq, g1u2, r3, hub2, ty28, hc2, List.toList_toArray]; rfl); first | rfl | exact ⟨rfl, rfl, rfl⟩))
          ((with_reducible apply xCs); rfl; (simp only [Nat.reduceEqDiff, Nat.reduceAdd, ↓reduceIte, xBB, stB, opdA, opdO, plainN, omap, val, Value.cells]; exact ⟨rfl, rfl⟩); rfl)
          apply call_fn
          refine (f23_spec (nodesL S' 62) _ u2 (r4.keep hAu2) (by have := hnl S'; omega) (hnin S')).use (by first | exact Nat.le_refl _ | (simp only [cond_true, cond_false]; omega) | omega | (dsimp only; omega)) (Nat.le_refl _) fun v u3 hv _ => ?_
          obtain ⟨rfl, rfl⟩ := hv
          rw [hbS']
          refine ⟨rfl, ?_⟩
          refine opt_of rfl ?_
          repeat (first
  | with_reducible first | refine st (by constructor) ?_ | apply c_region
  | (with_reducible apply k_block_on
     · decide)
  | ((with_reducible first | apply xOp | apply xDr | apply xIf); rfl; (simp only [Nat.reduceEqDiff, Nat.reduceAdd, ↓reduceIte, xBB, stG, undef, opA, val, opdA, opdO, plainN, omap, binA, intBinA, loadV, readA, storeV, writeA, fieldAddrA, indexAddrA, lenA, builtinA, newA, unA, packA, Value.cells, hand]; rfl); first | rfl | exact ⟨rfl, rfl, rfl⟩))
          ((with_reducible first | apply xCa | apply xCd); rfl; (simp only [Nat.reduceEqDiff, Nat.reduceAdd, ↓reduceIte, xBB, stB, opdA, opdO, plainN, omap, val, Value.cells]; exact ⟨rfl, rfl⟩); try rfl)
          apply call_fn
          refine (f17_spec n _ _ (S &&& S') u3 (hE.keep hAu2) hg ha62).use (by first | exact Nat.le_refl _ | (simp only [cond_true, cond_false]; omega) | omega | (dsimp only; omega)) (Nat.le_refl _) fun v u4 hv hA4' => ?_
          subst hv
          rw [closedB_and hS.2.2.1 hS'.2.2.1]
          refine opt_of rfl ?_
          repeat (first
  | with_reducible first | refine st (by constructor) ?_ | apply c_region
  | (with_reducible apply k_block_on
     · decide)
  | ((with_reducible first | apply xOp | apply xDr | apply xIf); rfl; (simp only [Nat.reduceEqDiff, Nat.reduceAdd, ↓reduceIte, xBB, stG, undef, opA, val, opdA, opdO, plainN, omap, binA, intBinA, loadV, readA, storeV, writeA, fieldAddrA, indexAddrA, lenA, builtinA, newA, unA, packA, Value.cells, Bool.not_true, h15, hw2]; rfl); first | rfl | exact ⟨rfl, rfl, rfl⟩))
          intro _ _
          exact k_loop_next (m' := m2 - 1) (by omega) ⟨q + 1, by omega, by simp only [Nat.reduceEqDiff, T.get_put, ↓reduceIte]⟩
        · repeat (first
  | with_reducible first | refine st (by constructor) ?_ | apply c_region
  | (with_reducible apply k_block_on
     · decide)
  | ((with_reducible first | apply xOp | apply xDr | apply xIf); rfl; (simp only [Nat.reduceEqDiff, Nat.reduceAdd, ↓reduceIte, xBB, stG, undef, opA, val, opdA, opdO, plainN, omap, binA, intBinA, loadV, readA, storeV, writeA, fieldAddrA, indexAddrA, lenA, builtinA, newA, unA, packA, Value.cells, h15, k6, un30, hlt2]; rfl); first | rfl | exact ⟨rfl, rfl, rfl⟩))
          intro _ _
          repeat (first
  | with_reducible first | refine st (by constructor) ?_ | apply c_region
  | (with_reducible apply k_block_on
     · decide)
  | ((with_reducible first | apply xOp | apply xDr | apply xIf); rfl; (simp only [Nat.reduceEqDiff, Nat.reduceAdd, ↓reduceIte, xBB, stG, undef, opA, val, opdA, opdO, plainN, omap, binA, intBinA, loadV, readA, storeV, writeA, fieldAddrA, indexAddrA, lenA, builtinA, newA, unA, packA, Value.cells, k14]; rfl); first | rfl | exact ⟨rfl, rfl, rfl⟩))
          have d2 := k2; have d5 := k5; have d6 := k6; have d8 := k8; have d10 := k10; have d12 := k12; have d13 := k13
          have b14 := k14
          clear k2 k5 k6 k8 k10 k12 k13 k14
          refine loop_k (lk' := u.nx) (s0 := u) (fun m f w => ∃ q : Nat, q + m = (minT n (netE n bs) n).length ∧ f.get 16 = some (.int .i64 q) ∧ f.get 14 = some (.bool (((minT n (netE n bs) n).take q).any (inB S)))) (minT n (netE n bs) n).length (by omega) (Nat.le_refl _) ?_ (Ab.refl _ _) ?_
          · exact ⟨0, by omega, by simp only [Nat.reduceEqDiff, T.get_put, ↓reduceIte]; rfl, by simp only [Nat.reduceEqDiff, T.get_put, ↓reduceIte]; exact b14⟩
          · rintro m3 f3 w ⟨q3, hq3, h16, h14⟩ hA5 hF3
            (have k2 := hF3 2 (by rfl); simp only [Nat.reduceEqDiff, T.get_put, ↓reduceIte, d2, d5, d6, d8, d10, d12, d13] at k2; have k5 := hF3 5 (by rfl); simp only [Nat.reduceEqDiff, T.get_put, ↓reduceIte, d2, d5, d6, d8, d10, d12, d13] at k5; have k6 := hF3 6 (by rfl); simp only [Nat.reduceEqDiff, T.get_put, ↓reduceIte, d2, d5, d6, d8, d10, d12, d13] at k6; have k8 := hF3 8 (by rfl); simp only [Nat.reduceEqDiff, T.get_put, ↓reduceIte, d2, d5, d6, d8, d10, d12, d13] at k8; have k10 := hF3 10 (by rfl); simp only [Nat.reduceEqDiff, T.get_put, ↓reduceIte, d2, d5, d6, d8, d10, d12, d13] at k10; have k12 := hF3 12 (by rfl); simp only [Nat.reduceEqDiff, T.get_put, ↓reduceIte, d2, d5, d6, d8, d10, d12, d13] at k12; have k13 := hF3 13 (by rfl); simp only [Nat.reduceEqDiff, T.get_put, ↓reduceIte, d2, d5, d6, d8, d10, d12, d13] at k13)
            have hnw := hA5.nx
            have hAw := hAu.trans (hA5.lower (by omega) (Nat.le_refl _))
            have hwb := (hAw.get (Nat.le_refl _) (show s1.nx < s10.nx by omega)).trans h10b
            by_cases hlt3 : (q3 : Int) < ((minT n (netE n bs) n).length : Int)
            · have hlt3' : q3 < (minT n (netE n bs) n).length := by omega
              have hw3 : IntKind.i64.wrap ((q3 : Int) + 1) = ((q3 + 1 : Nat) : Int) := by have := minT_len (n := n) (es := netE n bs) n; rw [IntWalk.i64_in _ (by omega)]; rfl
              have hbq3 : (0 : Int) ≤ (q3 : Int) ∧ (q3 : Int) < ((minT n (netE n bs) n).length : Int) := ⟨by omega, hlt3⟩
              obtain ⟨mid, moff, mwr, me, mcs, rfl, x1, x2, xrows⟩ := Lls.fix hm10 (fun h => by rw [h] at hlt3'; simp at hlt3')
              obtain ⟨Q, hQ⟩ : ∃ i, (minT n (netE n bs) n)[q3] = nodesL (compN n (netE n bs) i) 62 := by
                have := List.getElem_mem hlt3'
                unfold minT at this
                obtain ⟨i, _, h⟩ := List.mem_map.1 this
                exact ⟨i, h.symm⟩
              obtain ⟨rb3, rc3, r5, r6⟩ := xrows q3 _ (by rw [List.getElem?_eq_getElem hlt3', hQ])
              have hQlt := compN_lt (n := n) (es := netE n bs) (i := Q)
              have hbQ := bits_nodes (h62 _ hQlt)
              have hnext : ((minT n (netE n bs) n).take (q3 + 1)).any (inB S) = (((minT n (netE n bs) n).take q3).any (inB S) || (((compN n (netE n bs) Q &&& S : Nat) : Int) == ((compN n (netE n bs) Q : Nat) : Int))) := by
                rw [List.take_succ_eq_append_getElem hlt3', List.any_append, hQ]
                unfold inB
                simp [hbQ]
              generalize compN n (netE n bs) Q = C at *
              have x1w := (hAw.get (Nat.le_refl _) x2).trans x1
              have hand3 := and_i64 (a := C) (b := S) (h63 C hQlt) (h63 S hS.2.1)
              repeat (first
  | with_reducible first | refine st (by constructor) ?_ | apply c_region
  | (with_reducible apply k_block_on
     · decide)
  | ((with_reducible first | apply xOp | apply xDr | apply xIf); rfl; (simp only [Nat.reduceEqDiff, Nat.reduceAdd, ↓reduceIte, xBB, stG, undef, opA, val, opdA, opdO, plainN, omap, binA, intBinA, loadV, readA, storeV, writeA, fieldAddrA, indexAddrA, lenA, builtinA, newA, unA, packA, Value.cells, h16, k8, un30, hlt3]; rfl); first | rfl | exact ⟨rfl, rfl, rfl⟩))
              refine c_draw [⟨true, [], none⟩, ⟨true, [], none⟩, ⟨false, [], none⟩, ⟨false, [], none⟩, ⟨false, [], none⟩, ⟨false, [], none⟩, ⟨false, [], none⟩, ⟨false, [], none⟩, ⟨false, [], none⟩, ⟨false, [], none⟩, ⟨false, [], none⟩, ⟨false, [], none⟩, ⟨false, [5, 6], none⟩, ⟨true, [], none⟩, ⟨true, [], none⟩, ⟨true, [], none⟩, ⟨true, [], none⟩] (by kernel_rfl) ?_
              cases hany : ((minT n (netE n bs) n).take q3).any (inB S) with
              | true =>
                rw [hany] at h14
                rw [hany, Bool.true_or] at hnext
                repeat (first
  | with_reducible first | refine st (by constructor) ?_ | apply c_region
  | (with_reducible apply k_block_on
     · decide)
  | ((with_reducible first | apply xOp | apply xDr | apply xIf); rfl; (simp only [Nat.reduceEqDiff, Nat.reduceAdd, ↓reduceIte, xBB, stG, undef, opA, val, opdA, opdO, plainN, omap, binA, intBinA, loadV, readA, storeV, writeA, fieldAddrA, indexAddrA, lenA, builtinA, newA, unA, packA, Value.cells, h14, h16, hw3]; rfl); first | rfl | exact ⟨rfl, rfl, rfl⟩))
                intro _ _
                exact k_loop_next (m' := m3 - 1) (by omega) ⟨q3 + 1, by omega, by simp only [Nat.reduceEqDiff, T.get_put, ↓reduceIte], by simp only [Nat.reduceEqDiff, T.get_put, ↓reduceIte, hnext]⟩
              | false =>
                rw [hany] at h14
                rw [hany, Bool.false_or] at hnext
                repeat (first
  | with_reducible first | refine st (by constructor) ?_ | apply c_region
  | (with_reducible apply k_block_on
     · decide)
  | ((with_reducible first | apply xOp | apply xDr | apply xIf); rfl; (simp only [Nat.reduceEqDiff, Nat.reduceAdd, ↓reduceIte, xBB, stG, undef, opA, val, opdA, opdO, plainN, omap, binA, intBinA, loadV, readA, storeV, writeA, fieldAddrA, indexAddrA, lenA, builtinA, newA, unA, packA, Value.cells, h14, h16, k8, k13, un30, sz35, ty35, hbq3, x1w, r5, List.toList_toArray]; rfl); first | rfl | exact ⟨rfl, rfl, rfl⟩))
                ((with_reducible apply xCs); rfl; (simp only [Nat.reduceEqDiff, Nat.reduceAdd, ↓reduceIte, xBB, stB, opdA, opdO, plainN, omap, val, Value.cells]; exact ⟨rfl, rfl⟩); rfl)
                apply call_fn
                refine (f23_spec (nodesL C 62) _ w (r6.keep hAw) (by have := hnl C; omega) (hnin C)).use (by first | exact Nat.le_refl _ | (simp only [cond_true, cond_false]; omega) | omega | (dsimp only; omega)) (Nat.le_refl _) fun v w1 hv _ => ?_
                obtain ⟨rfl, rfl⟩ := hv
                rw [hbQ]
                refine ⟨rfl, ?_⟩
                refine opt_of rfl ?_
                repeat (first
  | with_reducible first | refine st (by constructor) ?_ | apply c_region
  | (with_reducible apply k_block_on
     · decide)
  | ((with_reducible first | apply xOp | apply xDr | apply xIf); rfl; (simp only [Nat.reduceEqDiff, Nat.reduceAdd, ↓reduceIte, xBB, stG, undef, opA, val, opdA, opdO, plainN, omap, binA, intBinA, loadV, readA, storeV, writeA, fieldAddrA, indexAddrA, lenA, builtinA, newA, unA, packA, Value.cells, h14, h16, k8, k13, un30, sz35, ty35, hbq3, x1w, r5, hand3, List.toList_toArray]; rfl); first | rfl | exact ⟨rfl, rfl, rfl⟩))
                ((with_reducible apply xCs); rfl; (simp only [Nat.reduceEqDiff, Nat.reduceAdd, ↓reduceIte, xBB, stB, opdA, opdO, plainN, omap, val, Value.cells]; exact ⟨rfl, rfl⟩); rfl)
                apply call_fn
                refine (f23_spec (nodesL C 62) _ w1 (r6.keep hAw) (by have := hnl C; omega) (hnin C)).use (by first | exact Nat.le_refl _ | (simp only [cond_true, cond_false]; omega) | omega | (dsimp only; omega)) (Nat.le_refl _) fun v w2 hv _ => ?_
                obtain ⟨rfl, rfl⟩ := hv
                rw [hbQ]
                refine ⟨rfl, ?_⟩
                refine opt_of rfl ?_
                repeat (first
  | with_reducible first | refine st (by constructor) ?_ | apply c_region
  | (with_reducible apply k_block_on
     · decide)
  | ((with_reducible first | apply xOp | apply xDr | apply xIf); rfl; (simp only [Nat.reduceEqDiff, Nat.reduceAdd, ↓reduceIte, xBB, stG, undef, opA, val, opdA, opdO, plainN, omap, binA, intBinA, loadV, readA, storeV, writeA, fieldAddrA, indexAddrA, lenA, builtinA, newA, unA, packA, Value.cells, h14, h16, hw3]; rfl); first | rfl | exact ⟨rfl, rfl, rfl⟩))
                intro _ _
                exact k_loop_next (m' := m3 - 1) (by omega) ⟨q3 + 1, by omega, by simp only [Nat.reduceEqDiff, T.get_put, ↓reduceIte], by simp only [Nat.reduceEqDiff, T.get_put, ↓reduceIte, hnext]⟩
            · have hqn : q3 = (minT n (netE n bs) n).length := by omega
              rw [hqn, List.take_length, min_in hg hn10 hS] at h14
              have g1w := (hAw.get (Nat.le_refl _) g2).trans g1
              repeat (first
  | with_reducible first | refine st (by constructor) ?_ | apply c_region
  | (with_reducible apply k_block_on
     · decide)
  | ((with_reducible first | apply xOp | apply xDr | apply xIf); rfl; (simp only [Nat.reduceEqDiff, Nat.reduceAdd, ↓reduceIte, xBB, stG, undef, opA, val, opdA, opdO, plainN, omap, binA, intBinA, loadV, readA, storeV, writeA, fieldAddrA, indexAddrA, lenA, builtinA, newA, unA, packA, Value.cells, h16, k8, un30, hlt3]; rfl); first | rfl | exact ⟨rfl, rfl, rfl⟩))
              intro _ _
              repeat (first
  | with_reducible first | refine st (by constructor) ?_ | apply c_region
  | (with_reducible apply k_block_on
     · decide)
  | ((with_reducible first | apply xOp | apply xDr | apply xIf); rfl; (simp only [Nat.reduceEqDiff, Nat.reduceAdd, ↓reduceIte, xBB, stG, undef, opA, val, opdA, opdO, plainN, omap, binA, intBinA, loadV, readA, storeV, writeA, fieldAddrA, indexAddrA, lenA, builtinA, newA, unA, packA, Value.cells]; rfl); first | rfl | exact ⟨rfl, rfl, rfl⟩))
              refine c_draw [⟨false, [], none⟩, ⟨false, [], none⟩, ⟨false, [], none⟩, ⟨false, [], none⟩, ⟨false, [0], none⟩, ⟨true, [], none⟩, ⟨true, [], none⟩, ⟨true, [], none⟩, ⟨true, [], none⟩, ⟨true, [], none⟩, ⟨true, [], none⟩] (by kernel_rfl) ?_
              repeat (first
  | with_reducible first | refine st (by constructor) ?_ | apply c_region
  | (with_reducible apply k_block_on
     · decide)
  | ((with_reducible first | apply xOp | apply xDr | apply xIf); rfl; (simp only [Nat.reduceEqDiff, Nat.reduceAdd, ↓reduceIte, xBB, stG, undef, opA, val, opdA, opdO, plainN, omap, binA, intBinA, loadV, readA, storeV, writeA, fieldAddrA, indexAddrA, lenA, builtinA, newA, unA, packA, Value.cells, k5, k6, k12, un30, sz35, ty35, hbp, g1w, r1, hwb, ty28, hc2, List.toList_toArray]; rfl); first | rfl | exact ⟨rfl, rfl, rfl⟩))
              ((with_reducible first | apply xCa | apply xCd); rfl; (simp only [Nat.reduceEqDiff, Nat.reduceAdd, ↓reduceIte, xBB, stB, opdA, opdO, plainN, omap, val, Value.cells]; exact ⟨rfl, rfl⟩); try rfl)
              apply call_fn
              refine (f21_spec n _ _ (nodesL S 62) _ w (hE.keep hAw) (r2.keep hAw) (hnl S)).use (by first | exact Nat.le_refl _ | (simp only [cond_true, cond_false]; omega) | omega | (dsimp only; omega)) (Nat.le_refl _) fun v w1 hv hA6 => ?_
              rcases hv with ⟨h, _⟩ | ⟨_, o6, lv6, r6', rfl, hown6', _, hQ6⟩
              · exact absurd (ready_nodes hc0 hS.2.1) h
              rw [hull_closed hg (by omega) hS.2.1 hS.2.2.1 hQ6] at hown6'
              obtain ⟨b6, c6', rfl⟩ := hown6'.shape
              have hn6' := hA6.nx
              have hAw1 := hAw.trans (hA6.lower hAw.nx (Nat.le_refl _))
              have g1w1 := (hAw1.get (Nat.le_refl _) g2).trans g1
              refine opt_of rfl ?_
              repeat (first
  | with_reducible first | refine st (by constructor) ?_
  | (with_reducible apply k_block_on
     · decide)
  | ((with_reducible first | apply xOp | apply xDr | apply xIf); rfl; (simp only [Nat.reduceEqDiff, Nat.reduceAdd, ↓reduceIte, xBB, stG, undef, opA, val, opdA, opdO, plainN, omap, binA, intBinA, loadV, readA, storeV, writeA, fieldAddrA, indexAddrA, lenA, builtinA, newA, unA, packA, Value.cells, List.toList_toArray, List.getElem?_cons_zero, List.getElem?_cons_succ]; rfl); first | rfl | exact ⟨rfl, rfl, rfl⟩))
              apply c_region
              repeat (first
  | with_reducible first | refine st (by constructor) ?_ | apply c_region
  | (with_reducible apply k_block_on
     · decide)
  | ((with_reducible first | apply xOp | apply xDr | apply xIf); rfl; (simp only [Nat.reduceEqDiff, Nat.reduceAdd, ↓reduceIte, xBB, stG, undef, opA, val, opdA, opdO, plainN, omap, binA, intBinA, loadV, readA, storeV, writeA, fieldAddrA, indexAddrA, lenA, builtinA, newA, unA, packA, Value.cells, h14, Bool.not_true, z0', k6, k12, un30, sz35, ty35, hbp, g1w1, r1, List.toList_toArray]; rfl); first | rfl | exact ⟨rfl, rfl, rfl⟩))
              ((with_reducible first | apply xCa | apply xCd); rfl; (simp only [Nat.reduceEqDiff, Nat.reduceAdd, ↓reduceIte, xBB, stB, opdA, opdO, plainN, omap, val, Value.cells]; exact ⟨rfl, rfl⟩); try rfl)
              apply call_fn
              refine (f15_spec (nodesL S 62) (nodesL S 62) _ _ w1 hown6'.sl (r2.keep hAw1) (by have := hnl S; omega)).use (by first | exact Nat.le_refl _ | (simp only [cond_true, cond_false]; omega) | omega | (dsimp only; omega)) (Nat.le_refl _) fun v w2 hv _ => ?_
              obtain ⟨rfl, rfl⟩ := hv
              rw [decide_eq_true (rfl : nodesL S 62 = nodesL S 62)]
              refine opt_of rfl ?_
              repeat (first
  | with_reducible first | refine st (by constructor) ?_ | apply c_region
  | (with_reducible apply k_block_on
     · decide)
  | ((with_reducible first | apply xOp | apply xDr | apply xIf); rfl; (simp only [Nat.reduceEqDiff, Nat.reduceAdd, ↓reduceIte, xBB, stG, undef, opA, val, opdA, opdO, plainN, omap, binA, intBinA, loadV, readA, storeV, writeA, fieldAddrA, indexAddrA, lenA, builtinA, newA, unA, packA, Value.cells, Bool.not_true, k12, hw]; rfl); first | rfl | exact ⟨rfl, rfl, rfl⟩))
              intro _ _
              exact k_loop_next (m' := m - 1) (by omega) ⟨p + 1, by omega, by simp only [Nat.reduceEqDiff, T.get_put, ↓reduceIte]⟩
    · repeat (first
  | with_reducible first | refine st (by constructor) ?_ | apply c_region
  | (with_reducible apply k_block_on
     · decide)
  | ((with_reducible first | apply xOp | apply xDr | apply xIf); rfl; (simp only [Nat.reduceEqDiff, Nat.reduceAdd, ↓reduceIte, xBB, stG, undef, opA, val, opdA, opdO, plainN, omap, binA, intBinA, loadV, readA, storeV, writeA, fieldAddrA, indexAddrA, lenA, builtinA, newA, unA, packA, Value.cells, h12, k6, un30, hlt]; rfl); first | rfl | exact ⟨rfl, rfl, rfl⟩))
      intro _ _
      repeat (first
  | with_reducible first | refine st (by constructor) ?_ | apply c_region
  | (with_reducible apply k_block_on
     · decide)
  | ((with_reducible first | apply xOp | apply xDr | apply xIf); rfl; (simp only [Nat.reduceEqDiff, Nat.reduceAdd, ↓reduceIte, xBB, stG, undef, opA, val, opdA, opdO, plainN, omap, binA, intBinA, loadV, readA, storeV, writeA, fieldAddrA, indexAddrA, lenA, builtinA, newA, unA, packA, Value.cells]; rfl); first | rfl | exact ⟨rfl, rfl, rfl⟩))
      have d2 := k2; have d5 := k5; have d10 := k10
      clear k2 k5 k6 k8 k10
      have hal := candU_len (netE n (bs.take k ++ [z])) 0 (-1) (2 ^ n - 2)
      have hap : ∀ (p : Nat) (l : List Int), (candU (netE n (bs.take k ++ [z])) 0 (-1) (2 ^ n - 2))[p]? = some l → ∃ S, isC n (netE n (bs.take k ++ [z])) 0 (-1) S ∧ l = nodesL S 62 := fun p l h => by
        obtain ⟨S, a1, a2, a3, a4⟩ := (candU_mem _).1 (List.mem_of_getElem? h)
        exact ⟨S, (okC_iff (by omega) (by decide) a1 a2).1 a3, a4⟩
      generalize hca : candU (netE n (bs.take k ++ [z])) 0 (-1) (2 ^ n - 2) = ca at *
      refine loop_k (lk' := t.nx) (s0 := t) (fun m f u => ∃ q : Nat, q + m = ca.length ∧ f.get 19 = some (.int .i64 q)) ca.length (by omega) (Nat.le_refl _) ?_ (Ab.refl _ _) ?_
      · exact ⟨0, by omega, by simp only [Nat.reduceEqDiff, T.get_put, ↓reduceIte]; rfl⟩
      · rintro m2 f2 u ⟨q, hq, h19⟩ hA2 hF2
        (have k2 := hF2 2 (by rfl); simp only [Nat.reduceEqDiff, T.get_put, ↓reduceIte, d2, d5, d10] at k2; have k5 := hF2 5 (by rfl); simp only [Nat.reduceEqDiff, T.get_put, ↓reduceIte, d2, d5, d10] at k5; have k10 := hF2 10 (by rfl); simp only [Nat.reduceEqDiff, T.get_put, ↓reduceIte, d2, d5, d10] at k10)
        have hnu := hA2.nx
        have hAu := hA.trans (hA2.lower hnt (Nat.le_refl _))
        have hub := (hAu.get (Nat.le_refl _) (show s1.nx < s10.nx by omega)).trans h10b
        have hux := (hAu.get (Nat.le_refl _) (show s.nx < s10.nx by omega)).trans h10x
        repeat (first
  | with_reducible first | refine st (by constructor) ?_ | apply c_region
  | (with_reducible apply k_block_on
     · decide)
  | ((with_reducible first | apply xOp | apply xDr | apply xIf); rfl; (simp only [Nat.reduceEqDiff, Nat.reduceAdd, ↓reduceIte, xBB, stG, undef, opA, val, opdA, opdO, plainN, omap, binA, intBinA, loadV, readA, storeV, writeA, fieldAddrA, indexAddrA, lenA, builtinA, newA, unA, packA, Value.cells]; rfl); first | rfl | exact ⟨rfl, rfl, rfl⟩))
        refine c_draw [⟨false, [], none⟩, ⟨true, [], none⟩, ⟨true, [], none⟩, ⟨true, [], none⟩, ⟨true, [], none⟩, ⟨false, [], none⟩, ⟨false, [], none⟩, ⟨false, [], none⟩, ⟨false, [], none⟩, ⟨false, [], none⟩, ⟨false, [5, 6, 8], none⟩, ⟨false, [5, 6, 8], none⟩, ⟨true, [], none⟩, ⟨true, [], none⟩] (by kernel_rfl) ?_
        by_cases hlt2 : (q : Int) < (ca.length : Int)
        · have hlt2' : q < ca.length := by omega
          have hf10 := f10_spec nb (bs.take k ++ [z]) _ u (hb10.keep hAu) hbs2 hnb
          rw [hk] at hf10
          repeat (first
  | with_reducible first | refine st (by constructor) ?_ | apply c_region
  | (with_reducible apply k_block_on
     · decide)
  | ((with_reducible first | apply xOp | apply xDr | apply xIf); rfl; (simp only [Nat.reduceEqDiff, Nat.reduceAdd, ↓reduceIte, xBB, stG, undef, opA, val, opdA, opdO, plainN, omap, binA, intBinA, loadV, readA, storeV, writeA, fieldAddrA, indexAddrA, lenA, builtinA, newA, unA, packA, Value.cells, h19, k10, un30, hlt2, k2, hux, ty24, hc24, List.toList_toArray]; rfl); first | rfl | exact ⟨rfl, rfl, rfl⟩))
          ((with_reducible first | apply xCa | apply xCd); rfl; (simp only [Nat.reduceEqDiff, Nat.reduceAdd, ↓reduceIte, xBB, stB, opdA, opdO, plainN, omap, val, Value.cells]; exact ⟨rfl, rfl⟩); try rfl)
          apply call_fn
          refine hf10.use (by first | exact Nat.le_refl _ | (simp only [cond_true, cond_false]; omega) | omega | (dsimp only; omega)) (Nat.le_refl _) fun v u1 hv hA3 => ?_
          obtain ⟨o3, ev3, rfl, hown3, hnew3⟩ := hv
          obtain ⟨eb3, ec3, rfl⟩ := hown3.shape
          have hn3' := hA3.nx
          have hAu1 := hAu.trans (hA3.lower hAu.nx (Nat.le_refl _))
          have hub1 := (hAu1.get (Nat.le_refl _) (show s1.nx < s10.nx by omega)).trans h10b
          have hle3 : ((netE n (bs.take k ++ [z])).map encE).length = (netE n (bs.take k ++ [z])).length := List.length_map _
          have hle0 : ((netE n bs).map encE).length = (netE n bs).length := List.length_map _
          have hw2 : IntKind.i64.wrap ((q : Int) + 1) = ((q + 1 : Nat) : Int) := by rw [IntWalk.i64_in _ (by omega)]; rfl
          have hd2 : ∀ x y : Value, cutL [x, y] 1 1 = some [y] := fun _ _ => rfl
          by_cases hgt : ((netE n (bs.take k ++ [z])).length : Int) > ((netE n bs).length : Int)
          · obtain ⟨aid, aoff, awr, ae, acs, rfl, y1, y2, yrows⟩ := Lls.fix ha10 (fun h => by rw [h] at hlt2'; simp at hlt2')
            obtain ⟨S, hS, hSl⟩ := hap q _ (List.getElem?_eq_getElem hlt2')
            obtain ⟨rb4, rc4, r7, r8⟩ := yrows q _ (by rw [List.getElem?_eq_getElem hlt2', hSl])
            have hbS := bits_nodes (h62 S hS.2.1)
            have hbq : (0 : Int) ≤ (q : Int) ∧ (q : Int) < (ca.length : Int) := ⟨by omega, hlt2⟩
            have y1u := (hAu1.get (Nat.le_refl _) y2).trans y1
            have hcls : closedB (netE n bs) S = true := by
              refine closedB_more (es' := netE n (bs.take k ++ [z])) ?_ hS.2.2.1
              rw [← hk39]
              refine more_edges hk8 ?_
              rw [hk39]; omega
            refine opt_of rfl ?_
            unfold vG
            repeat (first
  | with_reducible first | refine st (by constructor) ?_ | apply c_region
  | (with_reducible apply k_block_on
     · decide)
  | ((with_reducible first | apply xOp | apply xDr | apply xIf); rfl; (simp only [Nat.reduceEqDiff, Nat.reduceAdd, ↓reduceIte, xBB, stG, undef, opA, val, opdA, opdO, plainN, omap, binA, intBinA, loadV, readA, storeV, writeA, fieldAddrA, indexAddrA, lenA, builtinA, newA, unA, packA, Value.cells, fieldValA, partA, fd28_1, ty26, un26, hle3, k5, hd2, List.toList_toArray]; rfl); first | rfl | exact ⟨rfl, rfl, rfl⟩))
            (first
      | (with_reducible apply xLow (lo := u.nx)
         · rfl
         · (simp only [stB, Nat.reduceEqDiff, T.get_put, ↓reduceIte]; first | done | rfl)
         · rfl
         · rfl
         · (intro m hm hmm; simp only [List.mem_cons, List.not_mem_nil, or_false] at hm; first | (obtain rfl := hm; dsimp only; omega) | (rcases hm with rfl | rfl <;> first | omega | (dsimp only; omega) | (exfalso; revert hmm; decide)) | (rcases hm with rfl | rfl | rfl <;> first | omega | (dsimp only; omega) | (exfalso; revert hmm; decide)))
         · (intro sh hshn hshg; have l_hub1 := (hshg _ (by omega)).trans hub1; simp only [Nat.reduceEqDiff, opA, val, opdA, opdO, T.get_put, ↓reduceIte, Nat.add_assoc, Nat.reduceAdd, Nat.left_eq_add, Nat.add_eq_left, Nat.add_left_cancel_iff, Nat.add_zero, plainN, omap, Option.map_some, Option.bind_some, Nat.le_add_right, Nat.le_refl, binA, intBinA, loadV, readA, storeV, writeA, fieldAddrA, indexAddrA, lenA, builtinA, newA, unA, packA, if_true, and_self, and_true, true_and, Value.cells, Int.toNat_natCast, decide_true, decide_false, cond_true, cond_false, ty26, hd2, l_hub1]; rfl)
         · rfl))
            intro w1 w1n w1g
            (first
      | (with_reducible apply xLow (lo := u.nx)
         · rfl
         · (simp only [stB, Nat.reduceEqDiff, T.get_put, ↓reduceIte]; first | done | rfl)
         · rfl
         · rfl
         · (intro m hm hmm; simp only [List.mem_cons, List.not_mem_nil, or_false] at hm; first | (obtain rfl := hm; dsimp only; omega) | (rcases hm with rfl | rfl <;> first | omega | (dsimp only; omega) | (exfalso; revert hmm; decide)) | (rcases hm with rfl | rfl | rfl <;> first | omega | (dsimp only; omega) | (exfalso; revert hmm; decide)))
         · (intro sh hshn hshg; simp only [Nat.reduceEqDiff, opA, val, opdA, opdO, T.get_put, ↓reduceIte, Nat.add_assoc, Nat.reduceAdd, Nat.left_eq_add, Nat.add_eq_left, Nat.add_left_cancel_iff, Nat.add_zero, plainN, omap, Option.map_some, Option.bind_some, Nat.le_add_right, Nat.le_refl, binA, intBinA, loadV, readA, storeV, writeA, fieldAddrA, indexAddrA, lenA, builtinA, newA, unA, packA, if_true, and_self, and_true, true_and, Value.cells, Int.toNat_natCast, decide_true, decide_false, cond_true, cond_false, un26, hle0]; rfl)
         · rfl))
            intro w2 w2n w2g
            have w2g' : ∀ id, w2.hp.get id = u1.hp.get id := fun id => (w2g id).trans (w1g id)
            repeat (first
  | with_reducible first | refine st (by constructor) ?_ | apply c_region
  | (with_reducible apply k_block_on
     · decide)
  | ((with_reducible first | apply xOp | apply xDr | apply xIf); rfl; (simp only [Nat.reduceEqDiff, Nat.reduceAdd, ↓reduceIte, xBB, stG, undef, opA, val, opdA, opdO, plainN, omap, binA, intBinA, loadV, readA, storeV, writeA, fieldAddrA, indexAddrA, lenA, builtinA, newA, unA, packA, Value.cells, hgt, k5, h19, List.toList_toArray]; rfl); first | rfl | exact ⟨rfl, rfl, rfl⟩))
            refine c_draw [⟨false, [], none⟩, ⟨false, [], none⟩, ⟨false, [], none⟩, ⟨false, [], none⟩, ⟨false, [0], none⟩, ⟨false, [0], none⟩, ⟨true, [], none⟩, ⟨true, [], none⟩] (by kernel_rfl) ?_
            have y1v := (w2g' aid).trans y1u
            have hub2 := (w2g' s1.nx).trans hub1
            repeat (first
  | with_reducible first | refine st (by constructor) ?_ | apply c_region
  | (with_reducible apply k_block_on
     · decide)
  | ((with_reducible first | apply xOp | apply xDr | apply xIf); rfl; (simp only [Nat.reduceEqDiff, Nat.reduceAdd, ↓reduceIte, xBB, stG, undef, opA, val, opdA, opdO, plainN, omap, binA, intBinA, loadV, readA, storeV, writeA, fieldAddrA, indexAddrA, lenA, builtinA, newA, unA, packA, Value.cells, h19, k5, k10, un30, sz35, ty35, hbq, y1v, r7, hub2, ty28, hc2, List.toList_toArray]; rfl); first | rfl | exact ⟨rfl, rfl, rfl⟩))
            ((with_reducible apply xCs); rfl; (simp only [Nat.reduceEqDiff, Nat.reduceAdd, ↓reduceIte, xBB, stB, opdA, opdO, plainN, omap, val, Value.cells]; exact ⟨rfl, rfl⟩); rfl)
            apply call_fn
            refine (f23_spec (nodesL S 62) _ w2 ((r8.keep hAu1).same (by omega) fun id _ => w2g' id) (by have := hnl S; omega) (hnin S)).use (by first | exact Nat.le_refl _ | (simp only [cond_true, cond_false]; omega) | omega | (dsimp only; omega)) (Nat.le_refl _) fun v u2 hv _ => ?_
            obtain ⟨rfl, rfl⟩ := hv
            rw [hbS]
            refine ⟨rfl, ?_⟩
            refine opt_of rfl ?_
            repeat (first
  | with_reducible first | refine st (by constructor) ?_ | apply c_region
  | (with_reducible apply k_block_on
     · decide)
  | ((with_reducible first | apply xOp | apply xDr | apply xIf); rfl; (simp only [Nat.reduceEqDiff, Nat.reduceAdd, ↓reduceIte, xBB, stG, undef, opA, val, opdA, opdO, plainN, omap, binA, intBinA, loadV, readA, storeV, writeA, fieldAddrA, indexAddrA, lenA, builtinA, newA, unA, packA, Value.cells]; rfl); first | rfl | exact ⟨rfl, rfl, rfl⟩))
            ((with_reducible first | apply xCa | apply xCd); rfl; (simp only [Nat.reduceEqDiff, Nat.reduceAdd, ↓reduceIte, xBB, stB, opdA, opdO, plainN, omap, val, Value.cells]; exact ⟨rfl, rfl⟩); try rfl)
            apply call_fn
            refine (f17_spec n _ _ S u2 ((hE.keep hAu1).same (by omega) fun id _ => w2g' id) hg (h62 S hS.2.1)).use (by first | exact Nat.le_refl _ | (simp only [cond_true, cond_false]; omega) | omega | (dsimp only; omega)) (Nat.le_refl _) fun v u3 hv hA4' => ?_
            subst hv
            rw [hcls]
            refine opt_of rfl ?_
            repeat (first
  | with_reducible first | refine st (by constructor) ?_ | apply c_region
  | (with_reducible apply k_block_on
     · decide)
  | ((with_reducible first | apply xOp | apply xDr | apply xIf); rfl; (simp only [Nat.reduceEqDiff, Nat.reduceAdd, ↓reduceIte, xBB, stG, undef, opA, val, opdA, opdO, plainN, omap, binA, intBinA, loadV, readA, storeV, writeA, fieldAddrA, indexAddrA, lenA, builtinA, newA, unA, packA, Value.cells, Bool.not_true, h19, hw2]; rfl); first | rfl | exact ⟨rfl, rfl, rfl⟩))
            intro _ _
            exact k_loop_next (m' := m2 - 1) (by omega) ⟨q + 1, by omega, by simp only [Nat.reduceEqDiff, T.get_put, ↓reduceIte]⟩
          · refine opt_of rfl ?_
            unfold vG
            repeat (first
  | with_reducible first | refine st (by constructor) ?_ | apply c_region
  | (with_reducible apply k_block_on
     · decide)
  | ((with_reducible first | apply xOp | apply xDr | apply xIf); rfl; (simp only [Nat.reduceEqDiff, Nat.reduceAdd, ↓reduceIte, xBB, stG, undef, opA, val, opdA, opdO, plainN, omap, binA, intBinA, loadV, readA, storeV, writeA, fieldAddrA, indexAddrA, lenA, builtinA, newA, unA, packA, Value.cells, fieldValA, partA, fd28_1, ty26, un26, hle3, k5, hd2, List.toList_toArray]; rfl); first | rfl | exact ⟨rfl, rfl, rfl⟩))
            (first
      | (with_reducible apply xLow (lo := u.nx)
         · rfl
         · (simp only [stB, Nat.reduceEqDiff, T.get_put, ↓reduceIte]; first | done | rfl)
         · rfl
         · rfl
         · (intro m hm hmm; simp only [List.mem_cons, List.not_mem_nil, or_false] at hm; first | (obtain rfl := hm; dsimp only; omega) | (rcases hm with rfl | rfl <;> first | omega | (dsimp only; omega) | (exfalso; revert hmm; decide)) | (rcases hm with rfl | rfl | rfl <;> first | omega | (dsimp only; omega) | (exfalso; revert hmm; decide)))
         · (intro sh hshn hshg; have l_hub1 := (hshg _ (by omega)).trans hub1; simp only [Nat.reduceEqDiff, opA, val, opdA, opdO, T.get_put, ↓reduceIte, Nat.add_assoc, Nat.reduceAdd, Nat.left_eq_add, Nat.add_eq_left, Nat.add_left_cancel_iff, Nat.add_zero, plainN, omap, Option.map_some, Option.bind_some, Nat.le_add_right, Nat.le_refl, binA, intBinA, loadV, readA, storeV, writeA, fieldAddrA, indexAddrA, lenA, builtinA, newA, unA, packA, if_true, and_self, and_true, true_and, Value.cells, Int.toNat_natCast, decide_true, decide_false, cond_true, cond_false, ty26, hd2, l_hub1]; rfl)
         · rfl))
            intro w1 w1n w1g
            (first
      | (with_reducible apply xLow (lo := u.nx)
         · rfl
         · (simp only [stB, Nat.reduceEqDiff, T.get_put, ↓reduceIte]; first | done | rfl)
         · rfl
         · rfl
         · (intro m hm hmm; simp only [List.mem_cons, List.not_mem_nil, or_false] at hm; first | (obtain rfl := hm; dsimp only; omega) | (rcases hm with rfl | rfl <;> first | omega | (dsimp only; omega) | (exfalso; revert hmm; decide)) | (rcases hm with rfl | rfl | rfl <;> first | omega | (dsimp only; omega) | (exfalso; revert hmm; decide)))
         · (intro sh hshn hshg; simp only [Nat.reduceEqDiff, opA, val, opdA, opdO, T.get_put, ↓reduceIte, Nat.add_assoc, Nat.reduceAdd, Nat.left_eq_add, Nat.add_eq_left, Nat.add_left_cancel_iff, Nat.add_zero, plainN, omap, Option.map_some, Option.bind_some, Nat.le_add_right, Nat.le_refl, binA, intBinA, loadV, readA, storeV, writeA, fieldAddrA, indexAddrA, lenA, builtinA, newA, unA, packA, if_true, and_self, and_true, true_and, Value.cells, Int.toNat_natCast, decide_true, decide_false, cond_true, cond_false, un26, hle0]; rfl)
         · rfl))
            intro w2 w2n w2g
            have w2g' : ∀ id, w2.hp.get id = u1.hp.get id := fun id => (w2g id).trans (w1g id)
            repeat (first
  | with_reducible first | refine st (by constructor) ?_ | apply c_region
  | (with_reducible apply k_block_on
     · decide)
  | ((with_reducible first | apply xOp | apply xDr | apply xIf); rfl; (simp only [Nat.reduceEqDiff, Nat.reduceAdd, ↓reduceIte, xBB, stG, undef, opA, val, opdA, opdO, plainN, omap, binA, intBinA, loadV, readA, storeV, writeA, fieldAddrA, indexAddrA, lenA, builtinA, newA, unA, packA, Value.cells, hgt, k5, h19, List.toList_toArray]; rfl); first | rfl | exact ⟨rfl, rfl, rfl⟩))
            intro _ _
            repeat (first
  | with_reducible first | refine st (by constructor) ?_ | apply c_region
  | (with_reducible apply k_block_on
     · decide)
  | ((with_reducible first | apply xOp | apply xDr | apply xIf); rfl; (simp only [Nat.reduceEqDiff, Nat.reduceAdd, ↓reduceIte, xBB, stG, undef, opA, val, opdA, opdO, plainN, omap, binA, intBinA, loadV, readA, storeV, writeA, fieldAddrA, indexAddrA, lenA, builtinA, newA, unA, packA, Value.cells]; rfl); first | rfl | exact ⟨rfl, rfl, rfl⟩))
            intro _
            ((with_reducible first | apply ret_i | apply ret_n); (simp only [Nat.reduceEqDiff, Nat.reduceAdd, ↓reduceIte, xBB, resA, opdA, opdO, plainN, omap, val, loadV, readA, packA]; rfl))
            rfl
        · repeat (first
  | with_reducible first | refine st (by constructor) ?_ | apply c_region
  | (with_reducible apply k_block_on
     · decide)
  | ((with_reducible first | apply xOp | apply xDr | apply xIf); rfl; (simp only [Nat.reduceEqDiff, Nat.reduceAdd, ↓reduceIte, xBB, stG, undef, opA, val, opdA, opdO, plainN, omap, binA, intBinA, loadV, readA, storeV, writeA, fieldAddrA, indexAddrA, lenA, builtinA, newA, unA, packA, Value.cells, h19, k10, un30, hlt2]; rfl); first | rfl | exact ⟨rfl, rfl, rfl⟩))
          intro _ _
          repeat (first
  | with_reducible first | refine st (by constructor) ?_ | apply c_region
  | (with_reducible apply k_block_on
     · decide)
  | ((with_reducible first | apply xOp | apply xDr | apply xIf); rfl; (simp only [Nat.reduceEqDiff, Nat.reduceAdd, ↓reduceIte, xBB, stG, undef, opA, val, opdA, opdO, plainN, omap, binA, intBinA, loadV, readA, storeV, writeA, fieldAddrA, indexAddrA, lenA, builtinA, newA, unA, packA, Value.cells]; rfl); first | rfl | exact ⟨rfl, rfl, rfl⟩))
          intro _
          ((with_reducible first | apply ret_i | apply ret_n); (simp only [Nat.reduceEqDiff, Nat.reduceAdd, ↓reduceIte, xBB, resA, opdA, opdO, plainN, omap, val, loadV, readA, packA]; rfl))
          rfl
end Go.Ev
