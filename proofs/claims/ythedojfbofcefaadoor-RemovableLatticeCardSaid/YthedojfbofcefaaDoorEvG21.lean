import Derived.Test.YthedojfbofcefaaDoorEvG9
import Derived.Test.YthedojfbofcefaaDoorEvG1
/- The model: the graph of a net. -/
namespace Go.Ev
open Go Go.Proofs
set_option linter.unusedSimpArgs false
set_option linter.unusedVariables false
set_option maxRecDepth 100000
set_option maxHeartbeats 4000000
attribute [local irreducible] wpOps wpC wpD wpF wpLoop wpCall seqK blockK loopK retK T.put T.get T.setF

theorem build28 (k : Value) (h : k.cells = #[k]) : buildA Tryd.prog 28 [(0, k)] = some (.agg #[k, .slice none 0 0]) := by
  have h1 : fieldsA Tryd.prog 28 = some [{ name := "Nodes", type := 3, offset := 0, embedded := false, tag := "", pkgPath := "", byteOffset := 0 }, { name := "Edges", type := 26, offset := 1, embedded := false, tag := "", pkgPath := "", byteOffset := 8 }] := by kernel_rfl
  unfold fieldsA at h1
  split at h1
  · rename_i fs hfs
    simp only [Option.some.injEq] at h1
    unfold buildA
    simp only [zr28, Option.bind_some, hfs, h1, omap, sz3, sz26, Option.map_some]
    simp only [fillA, List.getElem?_cons_zero, Option.bind_some, h]
    rfl
  · cases h1
theorem build58 (a b : Int) : buildA Tryd.prog 58 [(0, .int .i64 a), (1, .int .i64 b)] = some (.agg #[.int .i64 a, .int .i64 b]) := by
  have h1 : fieldsA Tryd.prog 58 = some [{ name := "From", type := 3, offset := 0, embedded := false, tag := "", pkgPath := "", byteOffset := 0 }, { name := "To", type := 3, offset := 1, embedded := false, tag := "", pkgPath := "", byteOffset := 8 }] := by kernel_rfl
  unfold fieldsA at h1
  split at h1
  · rename_i fs hfs
    simp only [Option.some.injEq] at h1
    unfold buildA
    simp only [zr58, Option.bind_some, hfs, h1, omap, sz3, Option.map_some]
    simp only [fillA, List.getElem?_cons_zero, List.getElem?_cons_succ, Option.bind_some]
    rfl
  · cases h1

theorem Sl.same {s s' : HS} {size : Nat} {v : Value} {xs : List (List Value)} (h : Sl s size v xs) (hn : s.nx ≤ s'.nx) (hg : ∀ id, id < s.nx → s'.hp.get id = s.hp.get id) : Sl s' size v xs := by
  rcases h with ⟨rfl, rfl⟩ | ⟨id, off, cap, wr, e, cs, rfl, h2, h3, h4⟩
  · exact Or.inl ⟨rfl, rfl⟩
  · exact Or.inr ⟨id, off, cap, wr, e, cs, rfl, by rw [hg _ h3]; exact h2, Nat.lt_of_lt_of_le h3 hn, h4⟩

def encU (b : Nat) : List Value := [.int .u8 b]
/-- Does a net have the edge of a number? -/
def hitB (k : Nat) (bs : List Nat) (i : Nat) : Bool := (bs.take 40).any fun b => decide (b % 49 = i / k * 7 + i % k)
def edgeN (k i : Nat) : Int × Int := (((i / k : Nat) : Int), ((i % k : Nat) : Int))
def graphL (k : Nat) (bs : List Nat) (n : Nat) : List (Int × Int) := ((List.range n).filter (hitB k bs)).map (edgeN k)
theorem graphL_succ (k : Nat) (bs : List Nat) (n : Nat) : graphL k bs (n + 1) = graphL k bs n ++ (if hitB k bs n then [edgeN k n] else []) := by
  unfold graphL
  rw [List.range_succ, List.filter_append, List.map_append]
  cases h : hitB k bs n with
  | true => rw [List.filter_cons_of_pos h]; rfl
  | false => rw [List.filter_cons_of_neg (by simp [h])]; rfl
theorem graphL_len (k : Nat) (bs : List Nat) (n : Nat) : (graphL k bs n).length ≤ n := by
  unfold graphL
  rw [List.length_map]
  exact Nat.le_trans (List.length_filter_le _ _) (by simp)
/-- The edges of a net. -/
def netE (k : Nat) (bs : List Nat) : List (Int × Int) := graphL k bs (k * k)

theorem f10_spec [Sorts Tryd.prog] (nb : Nat) (bs : List Nat) (bv : Value) (s : HS) (hs : Sl s 1 bv (bs.map encU)) (hbs : ∀ b ∈ bs, b < 256) (hnb : nb < 256) :
    wpF Tryd.prog s.nx 10 [.agg #[.int .u8 nb, bv]] s (fun v s' => ∃ o ev, v = vG ((nb % 8 : Nat) : Int) ev ∧ Own s' 58 2 o ev ((netE (nb % 8) bs).map encE) ∧ newer s o) := by
  obtain ⟨b, c, rfl⟩ := hs.shape
  refine wpF_of Tryd.func10 rfl rfl rfl rfl (Nat.le_refl _) ?_
  simp only [paramsA]
  have hrem : (nb : Int).tmod 8 = ((nb % 8 : Nat) : Int) := by
    rw [Int.tmod_eq_emod_of_nonneg (by omega)]; rfl
  have h8 : ¬ (8 : Int) = 0 := by decide
  have hcv : IntKind.i64.wrap ((nb % 8 : Nat) : Int) = ((nb % 8 : Nat) : Int) := IntWalk.i64_in _ (by omega)
  have hk8 : nb % 8 < 8 := Nat.mod_lt _ (by decide)
  generalize hk : nb % 8 = k at *
  have hb28 := build28 (.int .i64 k) rfl
  repeat (first
  | with_reducible first | refine st (by constructor) ?_ | apply c_region
  | (with_reducible apply k_block_on
     · decide)
  | ((with_reducible first | apply xOp | apply xDr | apply xIf); rfl; (simp only [Nat.reduceEqDiff, Nat.reduceAdd, ↓reduceIte, xBB, stG, undef, opA, val, opdA, opdO, plainN, omap, binA, intBinA, loadV, readA, storeV, writeA, fieldAddrA, indexAddrA, lenA, builtinA, newA, unA, packA, Value.cells, ty24, fd24_0, fd24_1, ty5, hrem, h8, convA, un5, un3, hcv, hb28, zr28, sz28, ty28]; rfl); first | rfl | exact ⟨rfl, rfl, rfl⟩))
  generalize hs3 : ({ hp := (((s.hp.put s.nx (some (.cells true 24 [.int .u8 nb, .slice b (bs.map encU).length c]))).put (s.nx + 1) (some (.cells true 28 [.int .i64 0, .slice none 0 0]))).put (s.nx + 2) (some (.cells true 28 [.int .i64 0, .slice none 0 0]))).put (s.nx + 2) (some (.cells true 28 (putL [.int .i64 0, .slice none 0 0] 0 [.int .i64 k, .slice none 0 0]))), nx := s.nx + 3 } : HS) = s3
  have hn3 : s3.nx = s.nx + 3 := by rw [← hs3]
  have h3lo : ∀ id, id < s.nx → s3.hp.get id = s.hp.get id := fun id h => by
    rw [← hs3]; dsimp only; rw [T.get_put_ne _ _ _ (by omega), T.get_put_ne _ _ _ (by omega), T.get_put_ne _ _ _ (by omega), T.get_put_ne _ _ _ (by omega)]
  have h3a : s3.hp.get s.nx = some (.cells true 24 [.int .u8 nb, .slice b (bs.map encU).length c]) := by
    rw [← hs3]; dsimp only; rw [T.get_put_ne _ _ _ (by omega), T.get_put_ne _ _ _ (by omega), T.get_put_ne _ _ _ (by omega), T.get_put_eq]
  have h3b : s3.hp.get (s.nx + 1) = some (.cells true 28 [.int .i64 0, .slice none 0 0]) := by
    rw [← hs3]; dsimp only; rw [T.get_put_ne _ _ _ (by omega), T.get_put_ne _ _ _ (by omega), T.get_put_eq]
  have h3c : s3.hp.get (s.nx + 2) = some (.cells true 28 [.int .i64 k, .slice none 0 0]) := by rw [← hs3]; exact T.get_put_eq _ _ _
  refine loop_k (lk' := s.nx + 2) (s0 := s3) (fun m f t => ∃ i : Nat, i + m = k * k ∧ f.get 5 = some (.int .i64 i) ∧ ∃ o ev, t.hp.get (s.nx + 2) = some (.cells true 28 [.int .i64 k, ev]) ∧
    Own t 58 2 o ev ((graphL k bs i).map encE) ∧ ∀ id, o = some id → s.nx + 3 ≤ id) (k * k) (by omega) (by omega) ?_ (Ab.refl _ _) ?_
  · exact ⟨0, by omega, by simp only [Nat.reduceEqDiff, T.get_put, ↓reduceIte]; rfl, none, _, h3c, ⟨rfl, rfl⟩, fun id h => (by cases h)⟩
  · have hkk : k * k ≤ 49 := Nat.mul_le_mul (show k ≤ 7 by omega) (show k ≤ 7 by omega)
    have hwk : IntKind.i64.wrap ((k : Int) * (k : Int)) = ((k * k : Nat) : Int) := by rw [← Int.natCast_mul]; exact IntWalk.i64_in _ (by omega)
    rintro m f t ⟨i, hi, h5, o, ev, hbox, hown, ho⟩ hA hF
    (have k1 := hF 1 (by rfl); simp only [Nat.reduceEqDiff, T.get_put, ↓reduceIte] at k1; have k2 := hF 2 (by rfl); simp only [Nat.reduceEqDiff, T.get_put, ↓reduceIte] at k2; have k3 := hF 3 (by rfl); simp only [Nat.reduceEqDiff, T.get_put, ↓reduceIte] at k3; have k4 := hF 4 (by rfl); simp only [Nat.reduceEqDiff, T.get_put, ↓reduceIte] at k4)
    have hnt := hA.nx
    have hsl : Sl t 1 (.slice b (bs.map encU).length c) (bs.map encU) := hs.same (by omega) fun id h => by rw [hA.get (by omega) (by omega)]; exact h3lo id h
    have hta : t.hp.get s.nx = some (.cells true 24 [.int .u8 nb, .slice b (bs.map encU).length c]) := by rw [hA.get (by omega) (by omega)]; exact h3a
    by_cases hlt : (i : Int) < ((k * k : Nat) : Int)
    · have hlt' : i < k * k := by omega
      have hk0 : 0 < k := by rcases Nat.eq_zero_or_pos k with h | h; · subst h; omega
                             · exact h
      have hwi : IntKind.i64.wrap ((i : Int) + 1) = ((i + 1 : Nat) : Int) := by rw [IntWalk.i64_in _ (by omega)]; rfl
      repeat (first
  | with_reducible first | refine st (by constructor) ?_ | apply c_region
  | (with_reducible apply k_block_on
     · decide)
  | ((with_reducible first | apply xOp | apply xDr | apply xIf); rfl; (simp only [Nat.reduceEqDiff, Nat.reduceAdd, ↓reduceIte, xBB, stG, undef, opA, val, opdA, opdO, plainN, omap, binA, intBinA, loadV, readA, storeV, writeA, fieldAddrA, indexAddrA, lenA, builtinA, newA, unA, packA, Value.cells, h5, k3, hwk, hlt]; rfl); first | rfl | exact ⟨rfl, rfl, rfl⟩))
      have b1 := k1
      have b3 := k3
      have b4 := k4
      have b5 := h5
      refine loop_k (lk' := s.nx + 2) (s0 := t) (fun m f u => u = t ∧ ∃ j : Nat, j + m = bs.length ∧ f.get 6 = some (.int .i64 j) ∧ ((bs.take 40).drop j).any (fun b => decide (b % 49 = i / k * 7 + i % k)) = hitB k bs i) bs.length (Nat.le_refl _) (by omega) ?_ (Ab.refl _ _) ?_
      · exact ⟨rfl, 0, by omega, by simp only [Nat.reduceEqDiff, T.get_put, ↓reduceIte]; rfl, rfl⟩
      · clear k1 k3 k4
        rintro m2 f2 u ⟨rfl, j, hj, h6, hhit⟩ hA2 hF2
        have hF := hF2
        (have k1 := hF 1 (by rfl); simp only [Nat.reduceEqDiff, T.get_put, ↓reduceIte, b1, b3, b4, b5] at k1; have k3 := hF 3 (by rfl); simp only [Nat.reduceEqDiff, T.get_put, ↓reduceIte, b1, b3, b4, b5] at k3; have k4 := hF 4 (by rfl); simp only [Nat.reduceEqDiff, T.get_put, ↓reduceIte, b1, b3, b4, b5] at k4; have k5 := hF 5 (by rfl); simp only [Nat.reduceEqDiff, T.get_put, ↓reduceIte, b1, b3, b4, b5] at k5)
        clear hF hF2
        by_cases hjl : (j : Int) < ((bs.map encU).length : Int)
        · have hjl' : j < bs.length := by simp at hjl; omega
          by_cases hj40 : (j : Int) < 40
          · have hj40' : j < 40 := by omega
            have hjt : j < (bs.take 40).length := by rw [List.length_take]; omega
            have hbj : (bs.take 40)[j] = bs[j] := List.getElem_take
            have hdrop : (bs.take 40).drop j = bs[j] :: (bs.take 40).drop (j + 1) := by rw [List.drop_eq_getElem_cons hjt, hbj]
            rw [hdrop, List.any_cons] at hhit
            have hb256 := hbs bs[j] (List.getElem_mem hjl')
            obtain ⟨id, off, wr, e, cs, rfl, g1, g2, g3, g4⟩ := hsl.at (i := j) (x := encU bs[j]) (by simp [hjl'])
            have hb : (0 : Int) ≤ (j : Int) ∧ (j : Int) < ((bs.map encU).length : Int) := ⟨by omega, hjl⟩
            have hw : IntKind.i64.wrap ((j : Int) + 1) = ((j + 1 : Nat) : Int) := by rw [IntWalk.i64_in _ (by omega)]; rfl
            have hcb : IntKind.i64.wrap ((bs[j] : Nat) : Int) = ((bs[j] : Nat) : Int) := IntWalk.i64_in _ (by omega)
            have h49 : ¬ (49 : Int) = 0 := by decide
            have hm49 : ((bs[j] : Nat) : Int).tmod 49 = ((bs[j] % 49 : Nat) : Int) := by rw [Int.tmod_eq_emod_of_nonneg (by omega)]; rfl
            have hk0' : ¬ ((k : Int) = 0) := by omega
            have hik : i / k < 7 := by rw [Nat.div_lt_iff_lt_mul hk0]; exact Nat.lt_of_lt_of_le hlt' (Nat.mul_le_mul_right _ (by omega))
            have hik2 : i % k < k := Nat.mod_lt _ hk0
            have hdiv : IntKind.i64.wrap ((i : Int).tdiv (k : Int)) = ((i / k : Nat) : Int) := by
              rw [Int.tdiv_eq_ediv_of_nonneg (by omega), ← Int.natCast_ediv]; exact wrapN (Nat.lt_trans hik (by decide))
            have hmod : (i : Int).tmod (k : Int) = ((i % k : Nat) : Int) := by rw [Int.tmod_eq_emod_of_nonneg (by omega)]; exact (Int.natCast_emod _ _).symm
            have hm7 : IntKind.i64.wrap (((i / k : Nat) : Int) * 7) = ((i / k * 7 : Nat) : Int) := by
              show IntKind.i64.wrap (((i / k : Nat) : Int) * ((7 : Nat) : Int)) = _
              rw [← Int.natCast_mul]; exact wrapN (Nat.lt_trans (Nat.mul_lt_mul_of_pos_right hik (by decide)) (by decide))
            have hadd : IntKind.i64.wrap (((i / k * 7 : Nat) : Int) + ((i % k : Nat) : Int)) = ((i / k * 7 + i % k : Nat) : Int) := by
              rw [← Int.natCast_add]; exact wrapN (Nat.lt_trans (Nat.add_lt_add (Nat.mul_lt_mul_of_pos_right hik (show 0 < 7 by decide)) (Nat.lt_trans hik2 hk8)) (by decide))
            simp only [encU] at g3
            repeat (first
  | with_reducible first | refine st (by constructor) ?_ | apply c_region
  | (with_reducible apply k_block_on
     · decide)
  | ((with_reducible first | apply xOp | apply xDr | apply xIf); rfl; (simp only [Nat.reduceEqDiff, Nat.reduceAdd, ↓reduceIte, xBB, stG, undef, opA, val, opdA, opdO, plainN, omap, binA, intBinA, loadV, readA, storeV, writeA, fieldAddrA, indexAddrA, lenA, builtinA, newA, unA, packA, Value.cells, h6, k1, k3, k4, k5, fd24_1, ty22, hta, un22, hjl, hj40]; rfl); first | rfl | exact ⟨rfl, rfl, rfl⟩))
            refine c_draw [⟨true, [], none⟩, ⟨true, [], none⟩, ⟨false, [], none⟩, ⟨true, [], none⟩, ⟨true, [], none⟩, ⟨true, [], none⟩, ⟨true, [], none⟩, ⟨false, [], none⟩, ⟨false, [], none⟩, ⟨false, [], none⟩, ⟨false, [], none⟩, ⟨false, [], none⟩, ⟨false, [], none⟩, ⟨false, [], none⟩, ⟨false, [], none⟩, ⟨true, [], none⟩] (by kernel_rfl) ?_
            by_cases hit : bs[j] % 49 = i / k * 7 + i % k
            · have hbeq : (((bs[j] % 49 : Nat) : Int) == ((i / k * 7 + i % k : Nat) : Int)) = true := by rw [hit]; exact beq_self_eq_true _
              have hfound : hitB k bs i = true := by rw [← hhit, hit]; simp
              repeat (first
  | with_reducible first | refine st (by constructor) ?_ | apply c_region
  | (with_reducible apply k_block_on
     · decide)
  | ((with_reducible first | apply xOp | apply xDr | apply xIf); rfl; (simp only [Nat.reduceEqDiff, Nat.reduceAdd, ↓reduceIte, xBB, stG, undef, opA, val, opdA, opdO, plainN, omap, binA, intBinA, loadV, readA, storeV, writeA, fieldAddrA, indexAddrA, lenA, builtinA, newA, unA, packA, Value.cells, h6, k1, k3, k4, k5, fd24_1, ty22, hta, un22, sz5, hb, ty5, g1, g3, convA, un5, un3, hcb, h49, hm49, hk0', hdiv, hmod, hm7, hadd, hbeq]; rfl); first | rfl | exact ⟨rfl, rfl, rfl⟩))
              refine c_draw [⟨false, [], none⟩, ⟨false, [], none⟩, ⟨false, [], none⟩, ⟨false, [], none⟩, ⟨false, [], none⟩, ⟨false, [], none⟩, ⟨false, [], none⟩, ⟨false, [], none⟩, ⟨false, [], none⟩, ⟨false, [1], none⟩, ⟨true, [], none⟩, ⟨true, [], none⟩, ⟨true, [], none⟩] (by kernel_rfl) ?_
              have hb58 := build58 ((i / k : Nat) : Int) ((i % k : Nat) : Int)
              repeat (first
      | with_reducible first | apply ops_end | apply d_end | apply k_seq | apply k_seq_ret | apply k_seq_exit | apply k_block | apply k_block_ret | apply k_block_here | apply c_seq | apply c_block | apply c_region | apply c_skip | apply c_ret | apply c_exit | apply c_loop | apply k_loop_exit | apply k_loop_ret
      | (with_reducible apply k_block_on
         · decide)
      | ((first
          | (with_reducible apply ops_do
             · rfl)
          | (with_reducible apply d_same
             · rfl
             · rfl))
         · (simp only [Nat.reduceEqDiff, opA, val, opdA, opdO, T.get_put, ↓reduceIte, Nat.add_assoc, Nat.reduceAdd, Nat.left_eq_add, Nat.add_eq_left, Nat.add_left_cancel_iff, Nat.add_zero, plainN, omap, Option.map_some, Option.bind_some, Nat.le_add_right, Nat.le_refl, binA, intBinA, loadV, readA, storeV, writeA, fieldAddrA, indexAddrA, lenA, builtinA, newA, unA, packA, if_true, and_self, and_true, true_and, Value.cells, Int.toNat_natCast, decide_true, decide_false, cond_true, cond_false, k3, k4, k5, fd28_1, ty26, hbox, hk0', hdiv, hmod, hb58, buildSliceA, el26, sz58, zr58, zerosL, fillA]; rfl)
         · rfl
         try (· rfl))
      | ((first
          | (with_reducible apply d_do
             · rfl
             · rfl)
          | (with_reducible apply d_quiet
             · rfl
             · rfl
             · rfl))
         · (simp only [Nat.reduceEqDiff, opA, val, opdA, opdO, T.get_put, ↓reduceIte, Nat.add_assoc, Nat.reduceAdd, Nat.left_eq_add, Nat.add_eq_left, Nat.add_left_cancel_iff, Nat.add_zero, plainN, omap, Option.map_some, Option.bind_some, Nat.le_add_right, Nat.le_refl, binA, intBinA, loadV, readA, storeV, writeA, fieldAddrA, indexAddrA, lenA, builtinA, newA, unA, packA, if_true, and_self, and_true, true_and, Value.cells, Int.toNat_natCast, decide_true, decide_false, cond_true, cond_false, k3, k4, k5, fd28_1, ty26, hbox, hk0', hdiv, hmod, hb58, buildSliceA, el26, sz58, zr58, zerosL, fillA]; rfl)
         first
         | · rfl
         | (· (simp only [Nat.reduceEqDiff, loadBlk, opdA, T.get_put, ↓reduceIte, k3, k4, k5, fd28_1, ty26, hbox, hk0', hdiv, hmod, hb58, buildSliceA, el26, sz58, zr58, zerosL, fillA]; rfl)
            · rfl))
      | ((first
          | with_reducible apply ops_skipG
          | (with_reducible apply d_skip
             · rfl))
         · rfl
         · rfl
         · (simp only [Nat.reduceEqDiff, T.get_put, ↓reduceIte, k3, k4, k5, fd28_1, ty26, hbox, hk0', hdiv, hmod, hb58, buildSliceA, el26, sz58, zr58, zerosL, fillA]; rfl)
         · (simp only [decide_true, decide_false, k3, k4, k5, fd28_1, ty26, hbox, hk0', hdiv, hmod, hb58, buildSliceA, el26, sz58, zr58, zerosL, fillA, bt_tf, bt_ft, bt_tt, bt_ff]; done)
         · rfl)
      | ((first
          | with_reducible apply ops_doG
          | (with_reducible apply d_sameG
             · rfl))
         · rfl
         · rfl
         · (simp only [Nat.reduceEqDiff, T.get_put, ↓reduceIte, k3, k4, k5, fd28_1, ty26, hbox, hk0', hdiv, hmod, hb58, buildSliceA, el26, sz58, zr58, zerosL, fillA]; rfl)
         · (simp only [decide_true, decide_false, k3, k4, k5, fd28_1, ty26, hbox, hk0', hdiv, hmod, hb58, buildSliceA, el26, sz58, zr58, zerosL, fillA, bt_tf, bt_ft, bt_tt, bt_ff]; done)
         · (simp only [Nat.reduceEqDiff, opA, val, opdA, opdO, T.get_put, ↓reduceIte, Nat.add_assoc, Nat.reduceAdd, Nat.left_eq_add, Nat.add_eq_left, Nat.add_left_cancel_iff, Nat.add_zero, plainN, omap, Option.map_some, Option.bind_some, Nat.le_add_right, Nat.le_refl, binA, intBinA, loadV, readA, storeV, writeA, fieldAddrA, indexAddrA, lenA, builtinA, newA, unA, packA, if_true, and_self, and_true, true_and, Value.cells, Int.toNat_natCast, decide_true, decide_false, cond_true, cond_false, k3, k4, k5, fd28_1, ty26, hbox, hk0', hdiv, hmod, hb58, buildSliceA, el26, sz58, zr58, zerosL, fillA]; rfl)
         · rfl
         try (· rfl))
      | (with_reducible apply c_if
         · (simp only [Nat.reduceEqDiff, opdA, opdO, T.get_put, ↓reduceIte, Nat.add_assoc, Nat.reduceAdd, Nat.left_eq_add, Nat.add_eq_left, Nat.add_left_cancel_iff, Nat.add_zero, plainN, omap, Option.map_some, Option.bind_some, Nat.le_add_right, Nat.le_refl, decide_true, decide_false, k3, k4, k5, fd28_1, ty26, hbox, hk0', hdiv, hmod, hb58, buildSliceA, el26, sz58, zr58, zerosL, fillA]; rfl)
         with_reducible first | apply if_t | apply if_f))
              ((with_reducible first | apply ops_opt | apply xPd); (first | rfl | exact ⟨rfl, rfl⟩); (simp only [Nat.reduceEqDiff, Nat.reduceAdd, ↓reduceIte, xBB, opA, val, opdA, opdO, plainN, omap, binA, intBinA, loadV, readA, storeV, writeA, fieldAddrA, indexAddrA, lenA, builtinA, newA, unA, packA, Value.cells, un26]; rfl))
              have hown2 : Own { hp := u.hp.put u.nx (some (.cells true 58 (putL ([.int .i64 0, .int .i64 0] ++ []) (0 * 2) [.int .i64 ((i / k : Nat) : Int), .int .i64 ((i % k : Nat) : Int)]))), nx := u.nx + 1 } 58 2 o ev ((graphL k bs i).map encE) :=
                hown.same (Nat.le_succ _) fun id h => T.get_put_ne _ _ _ (by have := hown.lt h; omega)
              have hgl := graphL_len k bs i
              refine opt_ex (app_one (lk := s.nx + 2) (y := encE (edgeN k i)) el26 sz58 by58 zr58 rfl (by decide) hown2 (fun id h => by have := ho id h; omega) (T.get_put_eq _ _ _) rfl rfl (by simp; omega)) fun q hq => ?_
              obtain ⟨pv, s5⟩ := q
              obtain ⟨p1, p2, o', p3, p4⟩ := hq
              dsimp only at p1 p2 p3
              have hb5 : s5.hp.get (s.nx + 2) = some (.cells true 28 [.int .i64 k, ev]) := by
                rw [p2 _ (by omega) (fun h => by have := ho _ h; omega), T.get_put_ne _ _ _ (by omega)]; exact hbox
              obtain ⟨vb, vc, rfl⟩ := p3.shape
              have hl1 : ([Value.slice vb ((graphL k bs i).map encE ++ [encE (edgeN k i)]).length vc] : List Value).length = 1 := rfl
              have hone : ([Value.slice vb ((graphL k bs i).map encE ++ [encE (edgeN k i)]).length vc] : List Value).all Value.oneCell' = true := rfl
              have hl2 : 1 + 1 ≤ ([Value.int .i64 (k : Int), ev] : List Value).length := Nat.le_refl _
              have hlk : s.nx + 2 ≤ s.nx + 2 := Nat.le_refl _
              refine opt_of rfl ?_
              repeat (first
  | with_reducible first | refine st (by constructor) ?_ | apply c_region
  | (with_reducible apply k_block_on
     · decide)
  | ((with_reducible first | apply xOp | apply xDr | apply xIf); rfl; (simp only [Nat.reduceEqDiff, Nat.reduceAdd, ↓reduceIte, xBB, stG, undef, opA, val, opdA, opdO, plainN, omap, binA, intBinA, loadV, readA, storeV, writeA, fieldAddrA, indexAddrA, lenA, builtinA, newA, unA, packA, Value.cells, k4, fd28_1, sz26, hb5, hl1, hone, hl2, hlk, List.toList_toArray]; rfl); first | rfl | exact ⟨rfl, rfl, rfl⟩))
              intro _ _
              repeat (first
  | with_reducible first | refine st (by constructor) ?_ | apply c_region
  | (with_reducible apply k_block_on
     · decide)
  | ((with_reducible first | apply xOp | apply xDr | apply xIf); rfl; (simp only [Nat.reduceEqDiff, Nat.reduceAdd, ↓reduceIte, xBB, stG, undef, opA, val, opdA, opdO, plainN, omap, binA, intBinA, loadV, readA, storeV, writeA, fieldAddrA, indexAddrA, lenA, builtinA, newA, unA, packA, Value.cells, k5, hwi]; rfl); first | rfl | exact ⟨rfl, rfl, rfl⟩))
              intro _ _
              have ho' : ∀ id, o' = some id → s.nx + 3 ≤ id := fun id h => by
                rcases p4 with rfl | rfl
                · exact ho id h
                · cases h; show s.nx + 3 ≤ u.nx + 1; omega
              refine k_loop_next (m' := m - 1) (by omega) ⟨i + 1, by omega, by simp only [Nat.reduceEqDiff, T.get_put, ↓reduceIte], o', _, T.get_put_eq _ _ _, ?_, ho'⟩
              rw [graphL_succ, hfound, if_pos rfl, List.map_append]
              exact p3.same (Nat.le_refl _) fun id h => T.get_put_ne _ _ _ (by have := ho' id h; omega)
            · have hbeq : (((bs[j] % 49 : Nat) : Int) == ((i / k * 7 + i % k : Nat) : Int)) = false := by
                rw [beq_eq_false_iff_ne]; intro h; exact hit (by exact_mod_cast h)
              rw [decide_eq_false hit, Bool.false_or] at hhit
              repeat (first
  | with_reducible first | refine st (by constructor) ?_ | apply c_region
  | (with_reducible apply k_block_on
     · decide)
  | ((with_reducible first | apply xOp | apply xDr | apply xIf); rfl; (simp only [Nat.reduceEqDiff, Nat.reduceAdd, ↓reduceIte, xBB, stG, undef, opA, val, opdA, opdO, plainN, omap, binA, intBinA, loadV, readA, storeV, writeA, fieldAddrA, indexAddrA, lenA, builtinA, newA, unA, packA, Value.cells, h6, k1, k3, k4, k5, fd24_1, ty22, hta, un22, sz5, hb, ty5, g1, g3, convA, un5, un3, hcb, h49, hm49, hk0', hdiv, hmod, hm7, hadd, hbeq, hw]; rfl); first | rfl | exact ⟨rfl, rfl, rfl⟩))
              intro _ _
              exact k_loop_next (m' := m2 - 1) (by omega) ⟨rfl, j + 1, by omega, by simp only [Nat.reduceEqDiff, T.get_put, ↓reduceIte], hhit⟩
          · have hno : hitB k bs i = false := by rw [← hhit, List.drop_eq_nil_of_le (by rw [List.length_take]; omega)]; rfl
            repeat (first
  | with_reducible first | refine st (by constructor) ?_ | apply c_region
  | (with_reducible apply k_block_on
     · decide)
  | ((with_reducible first | apply xOp | apply xDr | apply xIf); rfl; (simp only [Nat.reduceEqDiff, Nat.reduceAdd, ↓reduceIte, xBB, stG, undef, opA, val, opdA, opdO, plainN, omap, binA, intBinA, loadV, readA, storeV, writeA, fieldAddrA, indexAddrA, lenA, builtinA, newA, unA, packA, Value.cells, h6, k1, fd24_1, ty22, hta, un22, hjl, hj40]; rfl); first | rfl | exact ⟨rfl, rfl, rfl⟩))
            intro _ _
            repeat (first
  | with_reducible first | refine st (by constructor) ?_ | apply c_region
  | (with_reducible apply k_block_on
     · decide)
  | ((with_reducible first | apply xOp | apply xDr | apply xIf); rfl; (simp only [Nat.reduceEqDiff, Nat.reduceAdd, ↓reduceIte, xBB, stG, undef, opA, val, opdA, opdO, plainN, omap, binA, intBinA, loadV, readA, storeV, writeA, fieldAddrA, indexAddrA, lenA, builtinA, newA, unA, packA, Value.cells, k5, hwi]; rfl); first | rfl | exact ⟨rfl, rfl, rfl⟩))
            intro _ _
            refine k_loop_next (m' := m - 1) (by omega) ⟨i + 1, by omega, by simp only [Nat.reduceEqDiff, T.get_put, ↓reduceIte], o, ev, hbox, ?_, ho⟩
            rw [graphL_succ, hno]; simpa using hown
        · have hno : hitB k bs i = false := by rw [← hhit, List.drop_eq_nil_of_le (by rw [List.length_take]; simp at hjl; omega)]; rfl
          repeat (first
  | with_reducible first | refine st (by constructor) ?_ | apply c_region
  | (with_reducible apply k_block_on
     · decide)
  | ((with_reducible first | apply xOp | apply xDr | apply xIf); rfl; (simp only [Nat.reduceEqDiff, Nat.reduceAdd, ↓reduceIte, xBB, stG, undef, opA, val, opdA, opdO, plainN, omap, binA, intBinA, loadV, readA, storeV, writeA, fieldAddrA, indexAddrA, lenA, builtinA, newA, unA, packA, Value.cells, h6, k1, fd24_1, ty22, hta, un22, hjl]; rfl); first | rfl | exact ⟨rfl, rfl, rfl⟩))
          intro _ _
          repeat (first
  | with_reducible first | refine st (by constructor) ?_ | apply c_region
  | (with_reducible apply k_block_on
     · decide)
  | ((with_reducible first | apply xOp | apply xDr | apply xIf); rfl; (simp only [Nat.reduceEqDiff, Nat.reduceAdd, ↓reduceIte, xBB, stG, undef, opA, val, opdA, opdO, plainN, omap, binA, intBinA, loadV, readA, storeV, writeA, fieldAddrA, indexAddrA, lenA, builtinA, newA, unA, packA, Value.cells, k5, hwi]; rfl); first | rfl | exact ⟨rfl, rfl, rfl⟩))
          intro _ _
          refine k_loop_next (m' := m - 1) (by omega) ⟨i + 1, by omega, by simp only [Nat.reduceEqDiff, T.get_put, ↓reduceIte], o, ev, hbox, ?_, ho⟩
          rw [graphL_succ, hno]; simpa using hown
    · have hik : i = k * k := by omega
      subst hik
      repeat (first
  | with_reducible first | refine st (by constructor) ?_ | apply c_region
  | (with_reducible apply k_block_on
     · decide)
  | ((with_reducible first | apply xOp | apply xDr | apply xIf); rfl; (simp only [Nat.reduceEqDiff, Nat.reduceAdd, ↓reduceIte, xBB, stG, undef, opA, val, opdA, opdO, plainN, omap, binA, intBinA, loadV, readA, storeV, writeA, fieldAddrA, indexAddrA, lenA, builtinA, newA, unA, packA, Value.cells, h5, k3, hwk, hlt]; rfl); first | rfl | exact ⟨rfl, rfl, rfl⟩))
      intro _ _
      have htb : t.hp.get (s.nx + 1) = some (.cells true 28 [.int .i64 0, .slice none 0 0]) := by rw [hA.get (by omega) (by omega)]; exact h3b
      obtain ⟨vb, vc, rfl⟩ := hown.shape
      have hl2 : ([Value.int .i64 (k : Int), .slice vb ((graphL k bs (k * k)).map encE).length vc] : List Value).length = 2 := rfl
      have hone : ([Value.int .i64 (k : Int), .slice vb ((graphL k bs (k * k)).map encE).length vc] : List Value).all Value.oneCell' = true := rfl
      have hlk : s.nx ≤ s.nx + 1 := Nat.le_succ _
      repeat (first
  | with_reducible first | refine st (by constructor) ?_ | apply c_region
  | (with_reducible apply k_block_on
     · decide)
  | ((with_reducible first | apply xOp | apply xDr | apply xIf); rfl; (simp only [Nat.reduceEqDiff, Nat.reduceAdd, ↓reduceIte, xBB, stG, undef, opA, val, opdA, opdO, plainN, omap, binA, intBinA, loadV, readA, storeV, writeA, fieldAddrA, indexAddrA, lenA, builtinA, newA, unA, packA, Value.cells, k4, k2, ty28, sz28, hbox, htb, cutL, hone, hlk, List.drop_zero, List.toList_toArray]; rfl); first | rfl | exact ⟨rfl, rfl, rfl⟩))
      intro _
      ((with_reducible first | apply ret_i | apply ret_n); (simp only [Nat.reduceEqDiff, Nat.reduceAdd, ↓reduceIte, xBB, resA, opdA, opdO, plainN, omap, val, loadV, readA, packA, ty28, cutL, k2]; rfl))
      refine ⟨o, _, rfl, ?_, fun id h => by have := ho id h; omega⟩
      exact hown.same (Nat.le_refl _) fun id h => T.get_put_ne _ _ _ (by have := ho id h; omega)
end Go.Ev

/- Plain laws: the graph of a net is one; the hull of the model is what is reached. -/
set_option linter.unusedSimpArgs false
set_option linter.unusedVariables false
namespace Go.Ev
open Go

/-! ### The graph of a net -/
theorem cmpI_lt {a b : Int} (h : a < b) : cmpI a b = -1 := by unfold cmpI; rw [if_pos h]
theorem cmpI_eq (a : Int) : cmpI a a = 0 := by unfold cmpI; rw [if_neg (by omega), if_neg (by omega)]

theorem ordE_edge {k i j : Nat} (hij : i < j) : ordE (edgeN k i) (edgeN k j) < 0 := by
  unfold ordE edgeN
  simp only
  have hle : i / k ≤ j / k := Nat.div_le_div_right (by omega)
  rcases Nat.lt_or_ge (i / k) (j / k) with h | h
  · rw [cmpI_lt (by exact_mod_cast h), orI, if_pos (by decide)]; decide
  · have he : i / k = j / k := by omega
    have hm : i % k < j % k := by
      have h1 := Nat.div_add_mod i k
      have h2 := Nat.div_add_mod j k
      rw [he] at h1
      omega
    rw [he, cmpI_eq, cmpI_lt (by exact_mod_cast hm)]
    decide

theorem incr_pair : ∀ {l : List (Int × Int)}, l.Pairwise (fun x y => ordE x y < 0) → incr l = true := by
  intro l
  induction l with
  | nil => intro _; rfl
  | cons x l ih =>
    intro h
    cases l with
    | nil => rfl
    | cons y l =>
      rw [incr, ih (List.Pairwise.tail h)]
      have := (List.pairwise_cons.1 h).1 y List.mem_cons_self
      simp [this]

theorem netE_good {k : Nat} (bs : List Nat) (hk : k < 8) : checkR k (netE k bs) = 0 := by
  unfold checkR
  have hlen := graphL_len k bs (k * k)
  have hmem : ∀ e ∈ netE k bs, outside (k : Int) e = false := fun e he => by
    unfold netE graphL at he
    simp only [List.mem_map, List.mem_filter, List.mem_range] at he
    obtain ⟨i, ⟨h1, _⟩, rfl⟩ := he
    have hk0 : 0 < k := by rcases Nat.eq_zero_or_pos k with h | h; · subst h; omega
                           · exact h
    have h2 : i / k < k := by rw [Nat.div_lt_iff_lt_mul hk0]; exact h1
    have h3 : i % k < k := Nat.mod_lt _ hk0
    unfold outside beyondB edgeN
    simp only [Bool.or_eq_false_iff, decide_eq_false_iff_not]
    refine ⟨⟨?_, ?_⟩, ?_, ?_⟩ <;> generalize i / k = a at * <;> generalize i % k = b at * <;> omega
  have hinc : incr (netE k bs) = true := by
    refine incr_pair ?_
    unfold netE graphL
    rw [List.pairwise_map]
    refine List.Pairwise.filter _ ?_
    exact List.Pairwise.imp (fun {a b} h => ordE_edge h) List.pairwise_lt_range
  rw [if_neg (by omega), if_neg, if_neg, hinc, if_pos rfl]
  · intro h
    obtain ⟨e, h1, h2⟩ := List.any_eq_true.1 h
    rw [hmem e h1] at h2; cases h2
  · rw [← Int.natCast_mul]
    unfold netE
    omega

/-! ### The hull -/
theorem hullStep_mono {S : Nat} {e : Int × Int} {j : Nat} (h : S.testBit j = true) : (hullStep S e).testBit j = true := by
  unfold hullStep
  split
  · rw [setBit, h]; rfl
  · exact h
theorem foldl_mono {es : List (Int × Int)} : ∀ {S : Nat} {j : Nat}, S.testBit j = true → (es.foldl hullStep S).testBit j = true := by
  induction es with
  | nil => intro S j h; exact h
  | cons e es ih => intro S j h; exact ih (hullStep_mono h)
theorem foldl_edge {es : List (Int × Int)} : ∀ {S : Nat} {e : Int × Int}, e ∈ es → S.testBit e.1.toNat = true → (es.foldl hullStep S).testBit e.2.toNat = true := by
  induction es with
  | nil => intro S e h; cases h
  | cons x es ih =>
    intro S e h hS
    rcases List.mem_cons.1 h with rfl | h
    · rw [List.foldl_cons]
      refine foldl_mono ?_
      unfold hullStep
      rw [if_pos hS, setBit]; simp
    · exact ih h (hullStep_mono hS)

theorem hullN_sound {n : Int} {es : List (Int × Int)} {a : Nat} (hg : GoodG n es) : ∀ (k j : Nat), (hullN es k a).testBit j = true → ∃ i : Nat, a.testBit i = true ∧ Rch es i j := by
  have step : ∀ (fs : List (Int × Int)), (∀ e ∈ fs, e ∈ es) → ∀ S : Nat, (∀ j : Nat, S.testBit j = true → ∃ i : Nat, a.testBit i = true ∧ Rch es i j) → ∀ j : Nat, (fs.foldl hullStep S).testBit j = true → ∃ i : Nat, a.testBit i = true ∧ Rch es i j := by
    intro fs
    induction fs with
    | nil => intro _ S hS j h; exact hS j h
    | cons e fs ih =>
      intro hm S hS j h
      refine ih (fun x hx => hm x (List.mem_cons_of_mem _ hx)) (hullStep S e) (fun j hj => ?_) j h
      unfold hullStep at hj
      split at hj
      · rename_i hb
        rw [setBit, Bool.or_eq_true] at hj
        rcases hj with hj | hj
        · exact hS j hj
        · have hj' : j = e.2.toNat := by simpa using hj
          obtain ⟨i, h1, h2⟩ := hS _ hb
          have he := hm e List.mem_cons_self
          obtain ⟨q1, q2, q3, q4⟩ := hg.ins e he
          refine ⟨i, h1, .step h2 ?_⟩
          rw [hj', Int.toNat_of_nonneg q1, Int.toNat_of_nonneg q3]; exact he
      · exact hS j hj
  intro k
  induction k with
  | zero => intro j h; exact ⟨j, h, .refl _⟩
  | succ k ih => exact step es (fun _ h => h) _ ih

def cardN (S : Nat) : Nat → Nat
  | 0 => 0
  | n + 1 => cardN S n + if S.testBit n then 1 else 0
theorem cardN_le (S n : Nat) : cardN S n ≤ n := by
  induction n with
  | zero => exact Nat.le_refl _
  | succ n ih => rw [cardN]; split <;> omega
theorem cardN_mono {S T : Nat} (h : ∀ j, S.testBit j = true → T.testBit j = true) : ∀ n, cardN S n ≤ cardN T n ∧ ((∃ j, j < n ∧ T.testBit j = true ∧ S.testBit j = false) → cardN S n < cardN T n) := by
  intro n
  induction n with
  | zero => exact ⟨Nat.le_refl _, fun ⟨j, h, _⟩ => by omega⟩
  | succ n ih =>
    obtain ⟨i1, i2⟩ := ih
    simp only [cardN]
    refine ⟨?_, fun ⟨j, hj, h1, h2⟩ => ?_⟩
    · cases hs : S.testBit n with
      | true => rw [h n hs]; simp; exact i1
      | false => simp; split <;> omega
    · by_cases hjn : j = n
      · subst hjn
        rw [h1, h2]; simp; omega
      · have := i2 ⟨j, by omega, h1, h2⟩
        cases hs : S.testBit n with
        | true => rw [h n hs]; simp; exact this
        | false => simp; split <;> omega

theorem lt_bit {S n j : Nat} (h : S < 2 ^ n) (hj : n ≤ j) : S.testBit j = false := Nat.testBit_lt_two_pow (Nat.lt_of_lt_of_le h (Nat.pow_le_pow_right (by decide) hj))

/-- As long as rounds change something, they add something. -/
theorem hullN_grow {n : Nat} {es : List (Int × Int)} {a : Nat} (ha : a < 2 ^ n) (he : ∀ e ∈ es, e.2.toNat < n) : ∀ k, hullN es (k + 1) a = hullN es k a ∨ k + 1 ≤ cardN (hullN es (k + 1) a) n := by
  intro k
  induction k with
  | zero =>
    by_cases h : hullN es 1 a = hullN es 0 a
    · exact Or.inl h
    · right
      have hm : ∀ j, (hullN es 0 a).testBit j = true → (hullN es 1 a).testBit j = true := fun j hj => foldl_mono hj
      have : ∃ j, j < n ∧ (hullN es 1 a).testBit j = true ∧ (hullN es 0 a).testBit j = false := by
        refine Classical.byContradiction fun hno => h (Nat.eq_of_testBit_eq fun j => ?_)
        cases h1 : (hullN es 0 a).testBit j with
        | true => exact hm j h1
        | false =>
          cases h2 : (hullN es 1 a).testBit j with
          | false => rfl
          | true =>
            exfalso; refine hno ⟨j, ?_, h2, h1⟩
            rcases Nat.lt_or_ge j n with h3 | h3
            · exact h3
            · rw [lt_bit (hullN_lt ha he 1) h3] at h2; cases h2
      have := (cardN_mono hm n).2 this
      show 1 ≤ cardN (hullN es 1 a) n
      omega
  | succ k ih =>
    by_cases h : hullN es (k + 2) a = hullN es (k + 1) a
    · exact Or.inl h
    · right
      have hm : ∀ j, (hullN es (k + 1) a).testBit j = true → (hullN es (k + 2) a).testBit j = true := fun j hj => foldl_mono hj
      have hex : ∃ j, j < n ∧ (hullN es (k + 2) a).testBit j = true ∧ (hullN es (k + 1) a).testBit j = false := by
        refine Classical.byContradiction fun hno => h (Nat.eq_of_testBit_eq fun j => ?_)
        cases h1 : (hullN es (k + 1) a).testBit j with
        | true => exact hm j h1
        | false =>
          cases h2 : (hullN es (k + 2) a).testBit j with
          | false => rfl
          | true =>
            exfalso; refine hno ⟨j, ?_, h2, h1⟩
            rcases Nat.lt_or_ge j n with h3 | h3
            · exact h3
            · rw [lt_bit (hullN_lt ha he (k + 2)) h3] at h2; cases h2
      have := (cardN_mono hm n).2 hex
      rcases ih with ih | ih
      · exfalso; apply h
        show hullRound es (hullN es (k + 1) a) = hullN es (k + 1) a
        rw [ih]; exact ih
      · show k + 1 + 1 ≤ cardN (hullN es (k + 2) a) n
        omega

theorem hullN_fix {n : Nat} {es : List (Int × Int)} {a : Nat} (ha : a < 2 ^ n) (he : ∀ e ∈ es, e.2.toNat < n) : hullRound es (hullN es n a) = hullN es n a := by
  rcases hullN_grow ha he n with h | h
  · exact h
  · have := cardN_le (hullN es (n + 1) a) n; omega

theorem hullN_base {es : List (Int × Int)} {a j : Nat} (h : a.testBit j = true) : ∀ k, (hullN es k a).testBit j = true := by
  intro k
  induction k with
  | zero => exact h
  | succ k ih => exact foldl_mono ih

theorem hull_bit {n : Nat} {es : List (Int × Int)} {a : Nat} (hg : GoodG n es) (ha : a < 2 ^ n) (j : Nat) : (hullN es n a).testBit j = true ↔ ∃ i : Nat, a.testBit i = true ∧ Rch es i j := by
  refine ⟨hullN_sound hg n j, fun ⟨i, h1, h2⟩ => ?_⟩
  have he : ∀ e ∈ es, e.2.toNat < n := fun e h => by have := hg.ins e h; omega
  have hfix := hullN_fix ha he
  have key : ∀ x y : Int, Rch es x y → 0 ≤ x → (hullN es n a).testBit x.toNat = true → (hullN es n a).testBit y.toNat = true := by
    intro x y h
    induction h with
    | refl => intro _ h; exact h
    | step _ e ih =>
      intro hx hb
      have := foldl_edge e (ih hx hb)
      rw [← hfix]; exact this
  have := key i j h2 (by omega) (by rw [Int.toNat_natCast]; exact hullN_base h1 n)
  rwa [Int.toNat_natCast] at this

/-! ### Lists of nodes -/
theorem listedL_eq : ∀ (l : List Bool) (k : Nat), listedL k l = ((List.range l.length).filter fun i => l[i]?.getD false).map fun i : Nat => ((k + i : Nat) : Int) := by
  intro l
  induction l with
  | nil => intro k; rfl
  | cons b l ih =>
    intro k
    have e : listedL ((k : Int) + 1) l = listedL ((k + 1 : Nat) : Int) l := rfl
    rw [listedL, e, ih (k + 1), List.length_cons, List.range_succ_eq_map, List.filter_cons, List.filter_map]
    have h2 : ((fun i => (b :: l)[i]?.getD false) ∘ Nat.succ) = fun i => l[i]?.getD false := by funext i; simp
    have h3 : ((fun i : Nat => ((k + i : Nat) : Int)) ∘ Nat.succ) = fun i : Nat => ((k + 1 + i : Nat) : Int) := by funext i; simp only [Function.comp]; congr 1; omega
    cases b with
    | true => simp [h2]; intro a _ _; omega
    | false => simp [h2]; intro a _ _; omega

theorem nodesL_ext {a n : Nat} {seen : List Bool} (hl : seen.length = n) (ha : a < 2 ^ n) (hn : n ≤ 62) (h : ∀ i : Nat, Mk seen i ↔ a.testBit i = true) : listedL 0 seen = nodesL a 62 := by
  have h0 : a >>> n = 0 := by rw [Nat.shiftRight_eq_div_pow]; exact Nat.div_eq_of_lt ha
  rw [nodesL_high h0 62 hn, show listedL 0 seen = listedL ((0 : Nat) : Int) seen from rfl, listedL_eq, hl]
  unfold nodesL
  have e1 : (List.range n).filter (fun i => seen[i]?.getD false) = (List.range n).filter fun i => a.testBit i := by
    refine List.filter_congr fun i hi => ?_
    have hi' := List.mem_range.1 hi
    have h2 := h i
    unfold Mk at h2
    rw [Int.toNat_natCast] at h2
    cases hb : a.testBit i with
    | true => rw [(h2.2 hb).2]; rfl
    | false =>
      cases hs : seen[i]? with
      | none => rfl
      | some b =>
        cases b with
        | false => rfl
        | true => have := h2.1 ⟨by omega, hs⟩; rw [hb] at this; cases this
  rw [e1]
  refine List.map_congr_left fun i _ => ?_
  rw [Nat.zero_add]

/-- What Reach lists is the model's hull. -/
theorem reach_hull {n : Nat} {es : List (Int × Int)} {l r : List Int} (hg : GoodG n es) (hn62 : n ≤ 62) (hl : ∀ x ∈ l, 0 ≤ x ∧ x < (n : Int)) (h : ReachedL n es l r) : r = nodesL (hullN es n (bitsN l)) 62 := by
  obtain ⟨seen, h1, h2, rfl⟩ := h
  have hb := bitsN_lt hl
  have hn := hg.hi
  refine nodesL_ext (n := n) (by omega) (hullN_lt hb (fun e he => by have := hg.ins e he; omega) n) hn62 fun i => ?_
  rw [h2, hull_bit hg hb]
  constructor
  · rintro ⟨f, h3, h4⟩
    have := hl f h3
    refine ⟨f.toNat, ?_, ?_⟩
    · rw [bitsN_bit]; exact decide_eq_true ⟨f, h3, rfl⟩
    · rwa [Int.toNat_of_nonneg this.1]
  · rintro ⟨i', h3, h4⟩
    rw [bitsN_bit, decide_eq_true_eq] at h3
    obtain ⟨f, h5, h6⟩ := h3
    have := hl f h5
    refine ⟨f, h5, ?_⟩
    rwa [show f = (i' : Int) by omega]
end Go.Ev

/- removable.of, graph.closure, graph.Closure, removable.hulls. -/
namespace Go.Ev
open Go Go.Proofs
set_option linter.unusedSimpArgs false
set_option linter.unusedVariables false
set_option maxRecDepth 100000
set_option maxHeartbeats 4000000
attribute [local irreducible] wpOps wpC wpD wpF wpLoop wpCall seqK blockK loopK retK T.put T.get T.setF

theorem f41_spec [Sorts Tryd.prog] (l : List Int) (lv : Value) (s : HS) (hl : Sl s 1 lv (l.map encI)) (hll : l.length < 1000000000) (hin : ∀ x ∈ l, 0 ≤ x ∧ x < 64) :
    wpF Tryd.prog s.nx 41 [lv] s (fun v s' => v = .int .u64 (bitsN l) ∧ s' = s) := by
  obtain ⟨b, c, rfl⟩ := hl.shape
  refine wpF_of Tryd.func41 rfl rfl rfl rfl (Nat.le_refl _) ?_
  simp only [paramsA]
  repeat (first
  | with_reducible first | refine st (by constructor) ?_ | apply c_region
  | (with_reducible apply k_block_on
     · decide)
  | ((with_reducible first | apply xOp | apply xDr | apply xIf); rfl; (simp only [Nat.reduceEqDiff, Nat.reduceAdd, ↓reduceIte, xBB, stG, undef, opA, val, opdA, opdO, plainN, omap, binA, intBinA, loadV, readA, storeV, writeA, fieldAddrA, indexAddrA, lenA, builtinA, newA, unA, packA, Value.cells, un35]; rfl); first | rfl | exact ⟨rfl, rfl, rfl⟩))
  refine loop_k (lk' := s.nx) (s0 := s) (fun m f t => t = s ∧ ∃ k : Nat, k + m = l.length ∧ f.get 8 = some (.int .i64 k) ∧ f.get 3 = some (.int .u64 (bitsN (l.take k)))) l.length (Nat.le_refl _) (Nat.le_refl _) ?_ (Ab.refl _ _) ?_
  · exact ⟨rfl, 0, by omega, by simp only [Nat.reduceEqDiff, T.get_put, ↓reduceIte]; rfl, by simp only [Nat.reduceEqDiff, T.get_put, ↓reduceIte]; rfl⟩
  · rintro m f t ⟨rfl, k, hk, h8, h3⟩ hA hF
    (have k6 := hF 6 (by rfl); simp only [Nat.reduceEqDiff, T.get_put, ↓reduceIte] at k6; have k7 := hF 7 (by rfl); simp only [Nat.reduceEqDiff, T.get_put, ↓reduceIte] at k7)
    by_cases hlt : (k : Int) < ((l.map encI).length : Int)
    · have hlt' : k < l.length := by simp at hlt; omega
      obtain ⟨id, off, wr, e, cs, rfl, g1, g2, g3, g4⟩ := hl.at (i := k) (x := encI l[k]) (by simp [hlt'])
      have hb : (0 : Int) ≤ (k : Int) ∧ (k : Int) < ((l.map encI).length : Int) := ⟨by omega, hlt⟩
      have hw : IntKind.i64.wrap ((k : Int) + 1) = ((k + 1 : Nat) : Int) := by rw [IntWalk.i64_in _ (by omega)]; rfl
      obtain ⟨q1, q2⟩ := hin l[k] (List.getElem_mem hlt')
      obtain ⟨i, hi⟩ : ∃ i : Nat, l[k] = (i : Int) := ⟨l[k].toNat, by omega⟩
      simp only [encI] at g3
      rw [hi] at g3
      have hsh := shl_u64 (k := i) (by omega)
      have hlt3 : bitsN (l.take k) < 2 ^ 64 := bitsN_lt fun x hx => hin x (List.mem_of_mem_take hx)
      have hor := or_u64 (a := bitsN (l.take k)) (b := 2 ^ i) hlt3 (pow_lt64 (by omega))
      repeat (first
  | with_reducible first | refine st (by constructor) ?_ | apply c_region
  | (with_reducible apply k_block_on
     · decide)
  | ((with_reducible first | apply xOp | apply xDr | apply xIf); rfl; (simp only [Nat.reduceEqDiff, Nat.reduceAdd, ↓reduceIte, xBB, stG, undef, opA, val, opdA, opdO, plainN, omap, binA, intBinA, loadV, readA, storeV, writeA, fieldAddrA, indexAddrA, lenA, builtinA, newA, unA, packA, Value.cells, h8, h3, k6, k7, un35, hlt, sz3, ty3, hb, g1, g3, hsh, hor, hw]; rfl); first | rfl | exact ⟨rfl, rfl, rfl⟩))
      intro _ _
      refine k_loop_next (m' := m - 1) (by omega) ⟨rfl, k + 1, by omega, by simp only [Nat.reduceEqDiff, T.get_put, ↓reduceIte], ?_⟩
      simp only [Nat.reduceEqDiff, T.get_put, ↓reduceIte]
      rw [List.take_succ_eq_append_getElem hlt', bitsN_snoc, hi, Int.toNat_natCast]
    · repeat (first
  | with_reducible first | refine st (by constructor) ?_ | apply c_region
  | (with_reducible apply k_block_on
     · decide)
  | ((with_reducible first | apply xOp | apply xDr | apply xIf); rfl; (simp only [Nat.reduceEqDiff, Nat.reduceAdd, ↓reduceIte, xBB, stG, undef, opA, val, opdA, opdO, plainN, omap, binA, intBinA, loadV, readA, storeV, writeA, fieldAddrA, indexAddrA, lenA, builtinA, newA, unA, packA, Value.cells, h8, k7, hlt]; rfl); first | rfl | exact ⟨rfl, rfl, rfl⟩))
      intro _ _
      repeat (first
  | with_reducible first | refine st (by constructor) ?_ | apply c_region
  | (with_reducible apply k_block_on
     · decide)
  | ((with_reducible first | apply xOp | apply xDr | apply xIf); rfl; (simp only [Nat.reduceEqDiff, Nat.reduceAdd, ↓reduceIte, xBB, stG, undef, opA, val, opdA, opdO, plainN, omap, binA, intBinA, loadV, readA, storeV, writeA, fieldAddrA, indexAddrA, lenA, builtinA, newA, unA, packA, Value.cells, h3]; rfl); first | rfl | exact ⟨rfl, rfl, rfl⟩))
      intro _
      ((with_reducible first | apply ret_i | apply ret_n); (simp only [Nat.reduceEqDiff, Nat.reduceAdd, ↓reduceIte, xBB, resA, opdA, opdO, plainN, omap, val, loadV, readA, packA]; rfl))
      refine ⟨?_, rfl⟩
      rw [List.take_of_length_le (by simp at hlt; omega)]; rfl

/-- Which nodes a node reaches, as marks. -/
def SeenOf (n : Int) (es : List (Int × Int)) (k : Nat) (seen : List Bool) : Prop := seen.length = n.toNat ∧ ∀ x, Mk seen x ↔ Rch es k x

theorem f62_spec [Sorts Tryd.prog] (n : Int) (es : List (Int × Int)) (ev : Value) (s : HS) (hs : Sl s 2 ev (es.map encE)) (hg : GoodG n es) :
    wpF Tryd.prog s.nx 62 [vG n ev] s (fun v s' => ∃ (ob : Nat) (vs : List Value), s.nx ≤ ob ∧ Own s' 95 1 (some ob) v (vs.map fun r => [r]) ∧ vs.length = n.toNat ∧
      ∀ (i : Nat) (r : Value), vs[i]? = some r → ∃ (o : Nat) (seen : List Bool), s.nx ≤ o ∧ Own s' 4 1 (some o) r (seen.map encB) ∧ SeenOf n es i seen) := by
  obtain ⟨b, c, rfl⟩ := hs.shape
  have hg0 := hg
  obtain ⟨hn0, hn1, hlen, hins⟩ := hg
  refine wpF_of Tryd.func62 rfl rfl rfl rfl (Nat.le_refl _) ?_
  simp only [paramsA, vG]
  have hmk : ∀ s : HS, makeSliceA Tryd.prog 100 (.int .i64 n) (.int .i64 n) s = some (.slice (some ⟨s.nx, 0, none⟩) n.toNat n.toNat, { hp := s.hp.put s.nx (some (.cells true 95 (zerosL [.slice none 0 0] n.toNat))), nx := s.nx + 1 }) := fun s => by
    unfold makeSliceA
    simp only [el100, sz95, by95, zr95, Option.bind_some]
    rw [if_pos ⟨rfl, by decide, by omega, Int.le_refl _, by omega, by omega⟩]
    rfl
  repeat (first
  | with_reducible first | refine st (by constructor) ?_ | apply c_region
  | (with_reducible apply k_block_on
     · decide)
  | ((with_reducible first | apply xOp | apply xDr | apply xIf); rfl; (simp only [Nat.reduceEqDiff, Nat.reduceAdd, ↓reduceIte, xBB, stG, undef, opA, val, opdA, opdO, plainN, omap, binA, intBinA, loadV, readA, storeV, writeA, fieldAddrA, indexAddrA, lenA, builtinA, newA, unA, packA, Value.cells, ty28, sz28, fd28_0, fd28_1, ty3, hmk, un100]; rfl); first | rfl | exact ⟨rfl, rfl, rfl⟩))
  have hA0 := Ab.new (lk := s.nx) s (.cells true 28 [.int .i64 n, .slice b (es.map encE).length c])
  have hA1 := Ab.new (lk := s.nx) { hp := s.hp.put s.nx (some (.cells true 28 [.int .i64 n, .slice b (es.map encE).length c])), nx := s.nx + 1 } (.cells true 95 (zerosL [.slice none 0 0] n.toNat))
  have hA01 := hA0.trans hA1
  refine loop_k (lk' := s.nx + 1) (s0 := ⟨_, s.nx + 2⟩) (fun m f t => ∃ k : Nat, k + m = n.toNat ∧ f.get 10 = some (.int .i64 k) ∧
    ∃ vs : List Value, Own t 95 1 (some (s.nx + 1)) (.slice (some ⟨s.nx + 1, 0, none⟩) n.toNat n.toNat) (vs.map fun r => [r]) ∧ vs.length = n.toNat ∧
      ∀ (i : Nat) (r : Value), i < k → vs[i]? = some r → ∃ (o : Nat) (seen : List Bool), s.nx + 2 ≤ o ∧ Own t 4 1 (some o) r (seen.map encB) ∧ SeenOf n es i seen) n.toNat (Nat.le_succ _) (by show s.nx + 1 ≤ s.nx + 2; omega) ?_ (Ab.refl _ _) ?_
  · refine ⟨0, by omega, by simp only [Nat.reduceEqDiff, T.get_put, ↓reduceIte]; rfl, List.replicate n.toNat (.slice none 0 0), ?_, by simp, fun i r h => by omega⟩
    refine Own.block (T.get_put_eq _ _ _) ?_ (Nat.lt_succ_self _) (by simp) (Or.inl rfl) (fun x hx => ?_) (by simp only [List.length_map, List.length_replicate]; unfold UNK; omega)
    · rw [zerosL_map, List.map_replicate]
    · rw [List.map_replicate] at hx; obtain rfl := (List.mem_replicate.1 hx).2; exact ⟨rfl, rfl⟩
  · rintro m f t ⟨k, hk, h10, vs, hob, hvl, hvs⟩ hA hF
    (have k1 := hF 1 (by rfl); simp only [Nat.reduceEqDiff, T.get_put, ↓reduceIte] at k1; have k3 := hF 3 (by rfl); simp only [Nat.reduceEqDiff, T.get_put, ↓reduceIte] at k3; have k9 := hF 9 (by rfl); simp only [Nat.reduceEqDiff, T.get_put, ↓reduceIte] at k9)
    have hnt : s.nx + 2 ≤ t.nx := hA.nx
    have hbox : t.hp.get s.nx = some (.cells true 28 [.int .i64 n, .slice b (es.map encE).length c]) := by
      rw [hA.get (by show s.nx + 1 ≤ s.nx + 2; omega) (Nat.lt_succ_self _)]
      show (T.put _ _ _).get s.nx = _
      rw [T.get_put_ne _ _ _ (by omega), T.get_put_eq]
    by_cases hlt : (k : Int) < (n.toNat : Int)
    · have hw : IntKind.i64.wrap ((k : Int) + 1) = ((k + 1 : Nat) : Int) := by rw [IntWalk.i64_in _ (by omega)]; rfl
      repeat (first
  | with_reducible first | refine st (by constructor) ?_ | apply c_region
  | (with_reducible apply k_block_on
     · decide)
  | ((with_reducible first | apply xOp | apply xDr | apply xIf); rfl; (simp only [Nat.reduceEqDiff, Nat.reduceAdd, ↓reduceIte, xBB, stG, undef, opA, val, opdA, opdO, plainN, omap, binA, intBinA, loadV, readA, storeV, writeA, fieldAddrA, indexAddrA, lenA, builtinA, newA, unA, packA, Value.cells, h10, k9, hlt, k3, k1, ty28, hbox, cutL, buildSliceA, el35, sz3, zr3, zerosL, fillA]; rfl); first | rfl | exact ⟨rfl, rfl, rfl⟩))
      generalize hst0 : ({ hp := t.hp.put t.nx (some (.cells true 3 (putL ([.int .i64 0] ++ []) (0 * 1) [.int .i64 k]))), nx := t.nx + 1 } : HS) = w
      have hwn : w.nx = t.nx + 1 := by rw [← hst0]
      have hwA : Ab t.nx t w := by rw [← hst0]; exact Ab.new _ _
      have hwy : w.hp.get t.nx = some (.cells true 3 [.int .i64 k]) := by rw [← hst0]; exact T.get_put_eq _ _ _
      have hwl : Sl w 1 (.slice (some ⟨t.nx, 0, none⟩) 1 1) ([(k : Int)].map encI) := Sl.block (post := []) hwy rfl (by omega) rfl (fun x hx => by simp at hx; rw [hx]; rfl)
      have hwE : Sl w 2 (.slice b (es.map encE).length c) (es.map encE) := (hs.keep ((hA01).trans (hA.lower (Nat.le_succ _) (by show s.nx + 1 ≤ s.nx + 2; omega)))).keep (hwA.lower (by omega) (Nat.le_refl _) |>.trans (Ab.refl _ _))
      ((with_reducible first | apply xCa | apply xCd); rfl; (simp only [Nat.reduceEqDiff, Nat.reduceAdd, ↓reduceIte, xBB, stB, opdA, opdO, plainN, omap, val, Value.cells]; exact ⟨rfl, rfl⟩); try rfl)
      apply call_fn
      refine (f59_spec n es _ [(k : Int)] _ w hwE hwl hg0 (by simp) (fun x hx => by simp at hx; omega)).use (by omega) (Nat.le_refl _) fun v u hv hA2 => ?_
      obtain ⟨o, seen, ho, hown, hsl, hmk2⟩ := hv
      obtain ⟨vb, vc, rfl⟩ := hown.shape
      have hnu := hA2.nx
      have hsame : ∀ id, id < t.nx → u.hp.get id = t.hp.get id := fun id h => by rw [hA2.get (Nat.le_refl _) (by omega), hwA.get (Nat.le_refl _) h]
      obtain ⟨off3, cap3, cs3, hh3, w1, w2, w3⟩ := hob.set (i := k) (x := [.slice vb (seen.map encB).length vc]) (by simp; omega) rfl rfl
      simp only [Value.slice.injEq, Option.some.injEq, Addr.mk.injEq] at hh3; obtain ⟨⟨_, rfl, _⟩, _, _⟩ := hh3
      rw [← hsame _ (by omega)] at w1
      have w2' : 0 + (k * 1 + 1) ≤ cs3.length := by rw [← Nat.add_assoc]; exact w2
      have hl1 : ([Value.slice vb (seen.map encB).length vc] : List Value).length = 1 := rfl
      have hone : ([Value.slice vb (seen.map encB).length vc] : List Value).all Value.oneCell' = true := rfl
      have hb2 : (0 : Int) ≤ (k : Int) ∧ (k : Int) < (n.toNat : Int) := by omega
      refine opt_of rfl ?_
      repeat (first
  | with_reducible first | refine st (by constructor) ?_ | apply c_region
  | (with_reducible apply k_block_on
     · decide)
  | ((with_reducible first | apply xOp | apply xDr | apply xIf); rfl; (simp only [Nat.reduceEqDiff, Nat.reduceAdd, ↓reduceIte, xBB, stG, undef, opA, val, opdA, opdO, plainN, omap, binA, intBinA, loadV, readA, storeV, writeA, fieldAddrA, indexAddrA, lenA, builtinA, newA, unA, packA, Value.cells, h10, un100, sz95, hb2, w1, w2', hl1, hone, List.toList_toArray, hw]; rfl); first | rfl | exact ⟨rfl, rfl, rfl⟩))
      intro _ _
      refine k_loop_next (m' := m - 1) (by omega) ⟨k + 1, by omega, by simp only [Nat.reduceEqDiff, T.get_put, ↓reduceIte], vs.set k (.slice vb (seen.map encB).length vc), ?_, by rw [List.length_set]; exact hvl, fun i r hi hr => ?_⟩
      · rw [List.map_set]
        refine w3 _ ?_ (T.get_put_eq _ _ _)
        show t.nx ≤ u.nx; omega
      · rw [List.getElem?_set] at hr
        by_cases hki : k = i
        · subst hki
          rw [if_pos rfl, if_pos (by omega)] at hr; cases hr
          refine ⟨o, seen, by omega, hown.same (Nat.le_refl _) fun id h => ?_, hsl, fun x => ?_⟩
          · cases h; exact T.get_put_ne _ _ _ (by omega)
          · rw [hmk2]; simp
        · rw [if_neg hki] at hr
          obtain ⟨o', seen', h1, h2, h3⟩ := hvs i r (by omega) hr
          refine ⟨o', seen', h1, h2.same (by show t.nx ≤ u.nx; omega) fun id h => ?_, h3⟩
          cases h
          show (T.put u.hp _ _).get _ = _
          rw [T.get_put_ne _ _ _ (by omega)]
          exact hsame _ (h2.lt rfl)
    · repeat (first
  | with_reducible first | refine st (by constructor) ?_ | apply c_region
  | (with_reducible apply k_block_on
     · decide)
  | ((with_reducible first | apply xOp | apply xDr | apply xIf); rfl; (simp only [Nat.reduceEqDiff, Nat.reduceAdd, ↓reduceIte, xBB, stG, undef, opA, val, opdA, opdO, plainN, omap, binA, intBinA, loadV, readA, storeV, writeA, fieldAddrA, indexAddrA, lenA, builtinA, newA, unA, packA, Value.cells, h10, k9, hlt]; rfl); first | rfl | exact ⟨rfl, rfl, rfl⟩))
      intro _ _
      repeat (first
  | with_reducible first | refine st (by constructor) ?_ | apply c_region
  | (with_reducible apply k_block_on
     · decide)
  | ((with_reducible first | apply xOp | apply xDr | apply xIf); rfl; (simp only [Nat.reduceEqDiff, Nat.reduceAdd, ↓reduceIte, xBB, stG, undef, opA, val, opdA, opdO, plainN, omap, binA, intBinA, loadV, readA, storeV, writeA, fieldAddrA, indexAddrA, lenA, builtinA, newA, unA, packA, Value.cells, k3]; rfl); first | rfl | exact ⟨rfl, rfl, rfl⟩))
      intro _
      ((with_reducible first | apply ret_i | apply ret_n); (simp only [Nat.reduceEqDiff, Nat.reduceAdd, ↓reduceIte, xBB, resA, opdA, opdO, plainN, omap, val, loadV, readA, packA]; rfl))
      exact ⟨s.nx + 1, vs, Nat.le_succ _, hob, hvl, fun i r hr => by
        have hi := (List.getElem?_eq_some_iff.1 hr).1
        obtain ⟨o, seen, h1, h2, h3⟩ := hvs i r (by omega) hr
        exact ⟨o, seen, by omega, h2, h3⟩⟩
end Go.Ev

/- Plain laws: the hull of a node, nodes that reach one another, and their lists. -/
set_option linter.unusedSimpArgs false
set_option linter.unusedVariables false
namespace Go.Ev
open Go

/-- The hull of a node. -/
def HN (n : Nat) (es : List (Int × Int)) (i : Nat) : Nat := hullN es n (2 ^ i)
theorem HN_lt {n : Nat} {es : List (Int × Int)} (hg : GoodG n es) {i : Nat} (hi : i < n) : HN n es i < 2 ^ n :=
  hullN_lt (Nat.pow_lt_pow_right (by decide) hi) (fun e he => by have := hg.ins e he; omega) n
theorem HN_bit {n : Nat} {es : List (Int × Int)} (hg : GoodG n es) {i : Nat} (hi : i < n) (j : Nat) : (HN n es i).testBit j = true ↔ Rch es i j := by
  unfold HN
  rw [hull_bit hg (Nat.pow_lt_pow_right (by decide) hi)]
  constructor
  · rintro ⟨k, h1, h2⟩
    have : i = k := by rw [Nat.testBit_two_pow] at h1; simpa using h1
    rw [this]; exact h2
  · intro h; exact ⟨i, by rw [Nat.testBit_two_pow]; simp, h⟩
theorem HN_self {n : Nat} {es : List (Int × Int)} (hg : GoodG n es) {i : Nat} (hi : i < n) : (HN n es i).testBit i = true := (HN_bit hg hi i).2 (.refl _)
theorem HN_trans {n : Nat} {es : List (Int × Int)} (hg : GoodG n es) {i j k : Nat} (hi : i < n) (hj : j < n) (h1 : (HN n es i).testBit j = true) (h2 : (HN n es j).testBit k = true) : (HN n es i).testBit k = true :=
  (HN_bit hg hi k).2 (((HN_bit hg hi j).1 h1).trans ((HN_bit hg hj k).1 h2))

/-- The marks of what a node reaches. -/
def seenH (n : Nat) (es : List (Int × Int)) (i : Nat) : List Bool := (List.range n).map fun j => (HN n es i).testBit j
theorem seen_eq {n : Nat} {es : List (Int × Int)} (hg : GoodG n es) {i : Nat} (hi : i < n) {seen : List Bool} (h : SeenOf n es i seen) : seen = seenH n es i := by
  obtain ⟨h1, h2⟩ := h
  have h1' : seen.length = n := by omega
  refine List.ext_getElem? fun j => ?_
  unfold seenH
  by_cases hj : j < n
  · rw [List.getElem?_map, List.getElem?_range hj, List.getElem?_eq_getElem (by omega), Option.map_some]
    have h3 := h2 j
    have h4 := HN_bit hg hi j
    unfold Mk at h3
    rw [Int.toNat_natCast, List.getElem?_eq_getElem (by omega)] at h3
    congr 1
    cases hs : seen[j] with
    | true => rw [hs] at h3; exact (h4.2 (h3.1 ⟨by omega, rfl⟩)).symm
    | false =>
      cases hb : (HN n es i).testBit j with
      | false => rfl
      | true => have := (h3.2 (h4.1 hb)).2; rw [hs] at this; cases this
  · rw [List.getElem?_eq_none (by omega), List.getElem?_eq_none (by simp; omega)]
theorem listed_seenH (n : Nat) (es : List (Int × Int)) (i : Nat) : listedL 0 (seenH n es i) = nodesL (HN n es i) n := by
  rw [show listedL 0 (seenH n es i) = listedL ((0 : Nat) : Int) (seenH n es i) from rfl, listedL_eq]
  unfold seenH nodesL
  rw [List.length_map, List.length_range]
  have e1 : (List.range n).filter (fun j => (((List.range n).map fun j => (HN n es i).testBit j)[j]?).getD false) = (List.range n).filter fun j => (HN n es i).testBit j := by
    refine List.filter_congr fun j hj => ?_
    rw [List.getElem?_map, List.getElem?_range (List.mem_range.1 hj)]; rfl
  rw [e1]
  refine List.map_congr_left fun j _ => ?_
  rw [Nat.zero_add]
theorem bits_nodesL {a n : Nat} (h : a < 2 ^ n) : bitsN (nodesL a n) = a := by
  refine Nat.eq_of_testBit_eq fun j => ?_
  rw [bitsN_bit]
  by_cases hj : a.testBit j = true
  · rw [hj, decide_eq_true_eq]
    refine ⟨(j : Int), mem_nodesL.2 ⟨by omega, ?_, by simpa using hj⟩, by simp⟩
    rcases Nat.lt_or_ge j n with h2 | h2
    · omega
    · rw [lt_bit h h2] at hj; cases hj
  · have : a.testBit j = false := by simpa using hj
    rw [this, decide_eq_false_iff_not]
    rintro ⟨x, h1, h2⟩
    obtain ⟨_, _, h3⟩ := mem_nodesL.1 h1
    rw [h2] at h3; exact hj h3

/-- Two nodes reach one another. -/
def mutB (n : Nat) (es : List (Int × Int)) (i j : Nat) : Bool := (HN n es i).testBit j && (HN n es j).testBit i
theorem mut_iff {n : Nat} {es : List (Int × Int)} {i j : Nat} : mutB n es i j = true ↔ (HN n es i).testBit j = true ∧ (HN n es j).testBit i = true := by unfold mutB; simp
theorem mut_symm {n : Nat} {es : List (Int × Int)} {i j : Nat} : mutB n es i j = mutB n es j i := by unfold mutB; rw [Bool.and_comm]
theorem mut_self {n : Nat} {es : List (Int × Int)} (hg : GoodG n es) {i : Nat} (hi : i < n) : mutB n es i i = true := mut_iff.2 ⟨HN_self hg hi, HN_self hg hi⟩
theorem mut_trans {n : Nat} {es : List (Int × Int)} (hg : GoodG n es) {i j k : Nat} (hi : i < n) (hj : j < n) (hk : k < n) (h1 : mutB n es i j = true) (h2 : mutB n es j k = true) : mutB n es i k = true := by
  rw [mut_iff] at *
  exact ⟨HN_trans hg hi hj h1.1 h2.1, HN_trans hg hk hj h2.2 h1.2⟩

/-- The nodes below a number that reach a node and are reached. -/
def compS (n : Nat) (es : List (Int × Int)) (i : Nat) : Nat → Nat
  | 0 => 0
  | k + 1 => if mutB n es i k then compS n es i k ||| 2 ^ k else compS n es i k
theorem compS_bit {n : Nat} {es : List (Int × Int)} {i : Nat} : ∀ k j, (compS n es i k).testBit j = (decide (j < k) && mutB n es i j)
  | 0, j => by simp [compS]
  | k + 1, j => by
    unfold compS
    have ih := compS_bit (n := n) (es := es) (i := i) k j
    have hd : decide (j < k + 1) = (decide (j < k) || decide (j = k)) := by
      by_cases h1 : j < k
      · simp [h1]; omega
      · by_cases h2 : j = k
        · simp [h2]
        · simp [h1, h2]; omega
    split
    · rename_i h
      rw [setBit, ih, hd]
      by_cases h2 : j = k
      · subst h2; simp [h]
      · simp [h2]
    · rename_i h
      rw [ih, hd]
      by_cases h2 : j = k
      · subst h2; simp [h]
      · simp [h2]
theorem compS_lt {n : Nat} {es : List (Int × Int)} {i : Nat} : ∀ k, compS n es i k < 2 ^ k
  | 0 => by simp [compS]
  | k + 1 => by
    have ih := compS_lt (n := n) (es := es) (i := i) k
    have h2 : compS n es i k < 2 ^ (k + 1) := Nat.lt_of_lt_of_le ih (Nat.pow_le_pow_right (by decide) (Nat.le_succ k))
    unfold compS
    split
    · exact setBit_lt h2 (Nat.lt_succ_self k)
    · exact h2
/-- The component of a node. -/
def compN (n : Nat) (es : List (Int × Int)) (i : Nat) : Nat := compS n es i n
theorem compN_bit {n : Nat} {es : List (Int × Int)} {i j : Nat} : (compN n es i).testBit j = (decide (j < n) && mutB n es i j) := compS_bit n j
theorem compN_lt {n : Nat} {es : List (Int × Int)} {i : Nat} : compN n es i < 2 ^ n := compS_lt n

/-- The first node of its component. -/
def isRep (n : Nat) (es : List (Int × Int)) (k : Nat) : Bool := (List.range k).all fun j => !mutB n es k j
theorem isRep_iff {n : Nat} {es : List (Int × Int)} {k : Nat} : isRep n es k = true ↔ ∀ j, j < k → mutB n es k j = false := by
  unfold isRep
  rw [List.all_eq_true]
  constructor
  · intro h j hj; have := h j (List.mem_range.2 hj); simpa using this
  · intro h j hj; simp [h j (List.mem_range.1 hj)]
def reps (n : Nat) (es : List (Int × Int)) (k : Nat) : List Nat := (List.range k).filter (isRep n es)
theorem reps_succ {n : Nat} {es : List (Int × Int)} (k : Nat) : reps n es (k + 1) = reps n es k ++ (if isRep n es k then [k] else []) := by
  unfold reps
  rw [List.range_succ, List.filter_append]
  cases h : isRep n es k with
  | true => rw [List.filter_cons_of_pos h]; rfl
  | false => rw [List.filter_cons_of_neg (by simp [h])]; rfl
theorem reps_len {n : Nat} {es : List (Int × Int)} (k : Nat) : (reps n es k).length ≤ k := Nat.le_trans (List.length_filter_le _ _) (by simp)
theorem mem_reps {n : Nat} {es : List (Int × Int)} {k r : Nat} : r ∈ reps n es k ↔ r < k ∧ isRep n es r = true := by unfold reps; rw [List.mem_filter, List.mem_range]
/-- Every node has a first one in its component. -/
theorem rep_ex {n : Nat} {es : List (Int × Int)} (hg : GoodG n es) {x : Nat} (hx : x < n) : ∃ r, r ≤ x ∧ isRep n es r = true ∧ mutB n es r x = true := by
  induction x using Nat.strongRecOn with
  | _ x ih =>
    by_cases h : isRep n es x = true
    · exact ⟨x, Nat.le_refl _, h, mut_self hg hx⟩
    · rw [isRep_iff] at h
      have : ∃ j, j < x ∧ mutB n es x j = true := Classical.byContradiction fun hno => h fun j hj => by
        cases hm : mutB n es x j with
        | false => rfl
        | true => exact absurd ⟨j, hj, hm⟩ hno
      obtain ⟨j, hj, hm⟩ := this
      obtain ⟨r, h1, h2, h3⟩ := ih j hj (by omega)
      refine ⟨r, by omega, h2, mut_trans hg (by omega) (by omega) hx h3 ?_⟩
      rw [mut_symm]; exact hm
theorem rep_uniq {n : Nat} {es : List (Int × Int)} (hg : GoodG n es) {x r r' : Nat} (hx : x < n) (hr : r < n) (hr' : r' < n) (h1 : isRep n es r = true) (h2 : mutB n es r x = true) (h3 : isRep n es r' = true) (h4 : mutB n es r' x = true) : r = r' := by
  have h5 : mutB n es r r' = true := mut_trans hg hr hx hr' h2 (by rw [mut_symm]; exact h4)
  rcases Nat.lt_trichotomy r r' with h | h | h
  · have := isRep_iff.1 h3 r h; rw [mut_symm, h5] at this; cases this
  · exact h
  · have := isRep_iff.1 h1 r' h; rw [h5] at this; cases this
end Go.Ev

/- The lowest bit of a set; how many bits it has. -/
set_option linter.unusedSimpArgs false
set_option linter.unusedVariables false
namespace Go.Ev
open Go

/-- k is the lowest bit of a. -/
def Low (a k : Nat) : Prop := a.testBit k = true ∧ (∀ i, i < k → a.testBit i = false) ∧ ∀ i, (a - 1).testBit i = if i < k then true else if i = k then false else a.testBit i
theorem low_ex : ∀ a : Nat, a ≠ 0 → ∃ k, Low a k := by
  intro a
  induction a using Nat.strongRecOn with
  | _ a ih =>
    intro h
    by_cases ho : a % 2 = 1
    · refine ⟨0, by rw [Nat.testBit_zero]; simp [ho], fun i hi => by omega, fun i => ?_⟩
      rw [if_neg (by omega)]
      cases i with
      | zero => rw [if_pos rfl, Nat.testBit_zero]; have : (a - 1) % 2 = 0 := by omega
                simp [this]
      | succ i => rw [if_neg (by omega), Nat.testBit_succ, Nat.testBit_succ, show (a - 1) / 2 = a / 2 by omega]
    · obtain ⟨k, h1, h2, h3⟩ := ih (a / 2) (by omega) (by omega)
      refine ⟨k + 1, by rw [Nat.testBit_succ]; exact h1, fun i hi => ?_, fun i => ?_⟩
      · cases i with
        | zero => rw [Nat.testBit_zero]; have : a % 2 = 0 := by omega
                  simp [this]
        | succ i => rw [Nat.testBit_succ]; exact h2 i (by omega)
      · cases i with
        | zero => rw [if_pos (by omega), Nat.testBit_zero]; have : (a - 1) % 2 = 1 := by omega
                  simp [this]
        | succ i => rw [Nat.testBit_succ, Nat.testBit_succ, show (a - 1) / 2 = a / 2 - 1 by omega, h3]; simp only [Nat.add_lt_add_iff_right, Nat.add_right_cancel_iff]
theorem Low.lt {a k n : Nat} (h : Low a k) (ha : a < 2 ^ n) : k < n := by
  rcases Nat.lt_or_ge k n with h1 | h1
  · exact h1
  · have := lt_bit ha h1
    rw [h.1] at this; cases this
theorem Low.ne {a k : Nat} (h : Low a k) : a ≠ 0 := by
  rintro rfl
  have := h.1
  rw [Nat.zero_testBit] at this; cases this
theorem Low.and_neg {a k : Nat} (h : Low a k) (ha : a < 2 ^ 64) : a &&& (2 ^ 64 - a) = 2 ^ k := by
  have hk := h.lt ha
  have h0 := h.ne
  refine Nat.eq_of_testBit_eq fun i => ?_
  rw [show 2 ^ 64 - a = 2 ^ 64 - ((a - 1) + 1) by omega, Nat.testBit_and, Nat.testBit_two_pow_sub_succ (by omega), h.2.2, Nat.testBit_two_pow]
  by_cases h1 : i < k
  · rw [h.2.1 i h1]; simp; omega
  · by_cases h2 : i = k
    · subst h2; rw [h.1]; simp [hk]
    · rw [if_neg h1, if_neg h2]
      cases a.testBit i <;> simp [Ne.symm h2]
theorem Low.and_pred {a k : Nat} (h : Low a k) (i : Nat) : (a &&& (a - 1)).testBit i = (a.testBit i && !decide (i = k)) := by
  rw [Nat.testBit_and, h.2.2]
  by_cases h1 : i < k
  · rw [h.2.1 i h1]; simp
  · by_cases h2 : i = k
    · subst h2; simp
    · rw [if_neg h1, if_neg h2]; simp [h2]
theorem and_le {a b : Nat} : a &&& b ≤ a := Nat.and_le_left
theorem Low.less {a k : Nat} (h : Low a k) : a &&& (a - 1) < a := by
  have h1 : a &&& (a - 1) ≤ a - 1 := Nat.and_le_right
  have := h.ne; omega
theorem Low.nodes {a k : Nat} (h : Low a k) : ∀ n, nodesL a n = (if k < n then (k : Int) :: nodesL (a &&& (a - 1)) n else []) ∧ (n ≤ k → nodesL (a &&& (a - 1)) n = []) := by
  intro n
  induction n with
  | zero => exact ⟨rfl, fun _ => rfl⟩
  | succ n ih =>
    obtain ⟨i1, i2⟩ := ih
    rw [nodesL_succ, nodesL_succ, i1, h.and_pred]
    by_cases h1 : k < n
    · rw [if_pos h1, if_pos (show k < n + 1 by omega)]
      have : decide (n = k) = false := decide_eq_false (by omega)
      rw [this]
      refine ⟨by simp, fun h => by omega⟩
    · rw [if_neg h1, i2 (by omega)]
      by_cases h2 : n = k
      · subst h2
        rw [h.1, if_pos (show n < n + 1 by omega)]
        refine ⟨by simp, fun h => by omega⟩
      · rw [if_neg (show ¬ k < n + 1 by omega), h.2.1 n (by omega)]
        refine ⟨by simp, fun _ => by simp⟩
theorem Low.nodes64 {a k : Nat} (h : Low a k) (ha : a < 2 ^ 64) : nodesL a 64 = (k : Int) :: nodesL (a &&& (a - 1)) 64 := by
  rw [(h.nodes 64).1, if_pos (h.lt ha)]
theorem nodesL_zero (n : Nat) : nodesL 0 n = [] := by
  unfold nodesL
  rw [List.map_eq_nil_iff, List.filter_eq_nil_iff]
  intro i _; rw [Nat.zero_testBit]; simp
theorem nodesL_inj {a b n : Nat} (ha : a < 2 ^ n) (hb : b < 2 ^ n) (h : nodesL a n = nodesL b n) : a = b := by
  have h1 := bits_nodesL ha
  rw [h, bits_nodesL hb] at h1
  exact h1.symm
theorem nodesL_card (a : Nat) : ∀ n, (nodesL a n).length = cardN a n := by
  intro n
  induction n with
  | zero => rfl
  | succ n ih => rw [nodesL_succ, List.length_append, ih, cardN]; cases a.testBit n <;> rfl
end Go.Ev

/- The examples of the chapter hold: evaluated by the kernel. -/
set_option linter.unusedSimpArgs false
set_option linter.unusedVariables false
namespace Go.Ev
open Go Go.Proofs
set_option maxRecDepth 100000

/-- The table of math/bits. -/
def tabL : List Int := [0, 1, 56, 2, 57, 49, 28, 3, 61, 58, 42, 50, 38, 29, 17, 4, 62, 47, 59, 36, 45, 43, 51, 22, 53, 39, 33, 30, 24, 18, 12, 5, 63, 55, 48, 27, 60, 41, 37, 16, 46, 35, 44, 21, 52, 32, 23, 11, 54, 26, 40, 15, 34, 20, 31, 10, 25, 14, 19, 9, 13, 8, 7, 6]
def tabB : AObj := .cells false 103 (tabL.map fun n => .int .u8 n)
/-- The memory of the program's variables. -/
def Glob (s : HS) : Prop := 0 < s.nx ∧ s.hp.get 0 = some tabB
theorem Glob.keep {s s' : HS} (h : Glob s) (a : Ab s.nx s s') : Glob s' := ⟨Nat.lt_of_lt_of_le h.1 a.nx, by rw [a.get (Nat.le_refl _) h.1]; exact h.2⟩

def isT (r : Option (Value × HS)) : Bool := match r with | some (.bool true, _) => true | _ => false
theorem isT_inv {r : Option (Value × HS)} (h : isT r = true) : ∃ s, r = some (.bool true, s) := by
  unfold isT at h
  split at h
  · exact ⟨_, rfl⟩
  · cases h
theorem globs : Tryd.prog.globals.size = 1 := by kernel_rfl
theorem low_glob {s : HS} (h : Glob s) : low Tryd.prog s = ⟨T.nil.put 0 (some tabB), 1⟩ := by
  unfold low
  rw [globs]
  show (⟨T.put .nil 0 (lowB s 0), 1⟩ : HS) = _
  have : lowB s 0 = some tabB := by unfold lowB; rw [h.2]; rfl
  rw [this]
theorem known_run : isT ((ev0 Tryd.prog 400).call 1 9 [] ⟨T.nil.put 0 (some tabB), 1⟩) = true := by kernel_rfl
theorem known_closed {s : HS} (h : Glob s) : ClosedB Tryd.prog 9 (low Tryd.prog s) true := by
  rw [low_glob h]
  obtain ⟨s, h⟩ := isT_inv known_run
  refine ⟨400, s, ?_⟩
  rw [globs]; exact h
end Go.Ev

/- bits.OnesCount64, set.size, bits.TrailingZeros64, set.nodes. -/
namespace Go.Ev
open Go Go.Proofs
set_option linter.unusedSimpArgs false
set_option linter.unusedVariables false
set_option maxRecDepth 100000
set_option maxHeartbeats 4000000
attribute [local irreducible] wpOps wpC wpD wpF wpLoop wpCall seqK blockK loopK retK T.put T.get T.setF

theorem add_u64 (a b : Nat) : IntKind.u64.wrap ((a : Int) + (b : Int)) = (((a + b) % 18446744073709551616 : Nat) : Int) := by
  have : IntKind.u64.wrap ((a : Int) + (b : Int)) = ((a : Int) + (b : Int)) % 18446744073709551616 := by simp [IntKind.wrap, IntKind.signed, IntKind.bits]
  rw [this]; omega
theorem mul_u64 (a b : Nat) : IntKind.u64.wrap ((a : Int) * (b : Int)) = ((a * b % 18446744073709551616 : Nat) : Int) := by
  have : IntKind.u64.wrap ((a : Int) * (b : Int)) = ((a : Int) * (b : Int)) % 18446744073709551616 := by simp [IntKind.wrap, IntKind.signed, IntKind.bits]
  rw [this, ← Int.natCast_mul]
  generalize a * b = c
  omega
theorem shr_lt64 {a k : Nat} (h : a < 18446744073709551616) : a >>> k < 18446744073709551616 := by
  rw [Nat.shiftRight_eq_div_pow]
  exact Nat.lt_of_le_of_lt (Nat.div_le_self _ _) h
theorem and_lt64 {a b : Nat} (h : a < 18446744073709551616) : a &&& b < 18446744073709551616 := Nat.lt_of_le_of_lt Nat.and_le_left h

/-- The steps of OnesCount64. -/
def ones1 (a : Nat) : Nat := (((a >>> 1) &&& 6148914691236517205) + (a &&& 6148914691236517205)) % 18446744073709551616
def ones2 (a : Nat) : Nat := (((a >>> 2) &&& 3689348814741910323) + (a &&& 3689348814741910323)) % 18446744073709551616
def ones3 (a : Nat) : Nat := (((a >>> 4) + a) % 18446744073709551616) &&& 1085102592571150095
def ones4 (k a : Nat) : Nat := (a + (a >>> k)) % 18446744073709551616
def onesI (a : Nat) : Int := IntKind.i64.wrap ((BitVec.ofInt IntKind.i64.bits (IntKind.i64.wrap ((ones4 32 (ones4 16 (ones4 8 (ones3 (ones2 (ones1 a))))) : Nat) : Int)) &&& BitVec.ofInt IntKind.i64.bits 127).toNat : Int)

theorem f63_spec [Sorts Tryd.prog] (a : Nat) (s : HS) (ha : a < 18446744073709551616) : wpF Tryd.prog s.nx 63 [.int .u64 a] s (fun v s' => v = .int .i64 (onesI a) ∧ s' = s) := by
  refine wpF_of Tryd.func63 rfl rfl rfl rfl (Nat.le_refl _) ?_
  simp only [paramsA]
  have a1 : shiftA .shr .u64 (a : Int) 1 = some (.int .u64 ((a >>> 1 : Nat) : Int)) := shr_u64 (k := 1) ha
  have a2 : IntKind.u64.wrap ((BitVec.ofInt IntKind.u64.bits ((a >>> 1 : Nat) : Int) &&& BitVec.ofInt IntKind.u64.bits 6148914691236517205).toNat : Int) = (((a >>> 1) &&& 6148914691236517205 : Nat) : Int) := and_u64 (b := 6148914691236517205) (shr_lt64 ha) (by decide)
  have a3 : IntKind.u64.wrap ((BitVec.ofInt IntKind.u64.bits (a : Int) &&& BitVec.ofInt IntKind.u64.bits 6148914691236517205).toNat : Int) = ((a &&& 6148914691236517205 : Nat) : Int) := and_u64 (b := 6148914691236517205) ha (by decide)
  have a4 : IntKind.u64.wrap ((((a >>> 1) &&& 6148914691236517205 : Nat) : Int) + ((a &&& 6148914691236517205 : Nat) : Int)) = ((ones1 a : Nat) : Int) := add_u64 _ _
  have h1 : ones1 a < 18446744073709551616 := Nat.mod_lt _ (by decide)
  unfold onesI
  generalize ones1 a = x1 at *
  have b1 : shiftA .shr .u64 (x1 : Int) 2 = some (.int .u64 ((x1 >>> 2 : Nat) : Int)) := shr_u64 (k := 2) h1
  have b2 : IntKind.u64.wrap ((BitVec.ofInt IntKind.u64.bits ((x1 >>> 2 : Nat) : Int) &&& BitVec.ofInt IntKind.u64.bits 3689348814741910323).toNat : Int) = (((x1 >>> 2) &&& 3689348814741910323 : Nat) : Int) := and_u64 (b := 3689348814741910323) (shr_lt64 h1) (by decide)
  have b3 : IntKind.u64.wrap ((BitVec.ofInt IntKind.u64.bits (x1 : Int) &&& BitVec.ofInt IntKind.u64.bits 3689348814741910323).toNat : Int) = ((x1 &&& 3689348814741910323 : Nat) : Int) := and_u64 (b := 3689348814741910323) h1 (by decide)
  have b4 : IntKind.u64.wrap ((((x1 >>> 2) &&& 3689348814741910323 : Nat) : Int) + ((x1 &&& 3689348814741910323 : Nat) : Int)) = ((ones2 x1 : Nat) : Int) := add_u64 _ _
  have h2 : ones2 x1 < 18446744073709551616 := Nat.mod_lt _ (by decide)
  generalize ones2 x1 = x2 at *
  have c1 : shiftA .shr .u64 (x2 : Int) 4 = some (.int .u64 ((x2 >>> 4 : Nat) : Int)) := shr_u64 (k := 4) h2
  have c2 : IntKind.u64.wrap (((x2 >>> 4 : Nat) : Int) + (x2 : Int)) = (((x2 >>> 4 + x2) % 18446744073709551616 : Nat) : Int) := add_u64 _ _
  have c3 : IntKind.u64.wrap ((BitVec.ofInt IntKind.u64.bits (((x2 >>> 4 + x2) % 18446744073709551616 : Nat) : Int) &&& BitVec.ofInt IntKind.u64.bits 1085102592571150095).toNat : Int) = ((ones3 x2 : Nat) : Int) := and_u64 (b := 1085102592571150095) (Nat.mod_lt _ (by decide)) (by decide)
  have h3 : ones3 x2 < 18446744073709551616 := and_lt64 (Nat.mod_lt _ (by decide))
  generalize ones3 x2 = x3 at *
  have d1 : shiftA .shr .u64 (x3 : Int) 8 = some (.int .u64 ((x3 >>> 8 : Nat) : Int)) := shr_u64 (k := 8) h3
  have d2 : IntKind.u64.wrap ((x3 : Int) + ((x3 >>> 8 : Nat) : Int)) = ((ones4 8 x3 : Nat) : Int) := add_u64 _ _
  have h4 : ones4 8 x3 < 18446744073709551616 := Nat.mod_lt _ (by decide)
  generalize ones4 8 x3 = x4 at *
  have e1 : shiftA .shr .u64 (x4 : Int) 16 = some (.int .u64 ((x4 >>> 16 : Nat) : Int)) := shr_u64 (k := 16) h4
  have e2 : IntKind.u64.wrap ((x4 : Int) + ((x4 >>> 16 : Nat) : Int)) = ((ones4 16 x4 : Nat) : Int) := add_u64 _ _
  have h5 : ones4 16 x4 < 18446744073709551616 := Nat.mod_lt _ (by decide)
  generalize ones4 16 x4 = x5 at *
  have g1 : shiftA .shr .u64 (x5 : Int) 32 = some (.int .u64 ((x5 >>> 32 : Nat) : Int)) := shr_u64 (k := 32) h5
  have g2 : IntKind.u64.wrap ((x5 : Int) + ((x5 >>> 32 : Nat) : Int)) = ((ones4 32 x5 : Nat) : Int) := add_u64 _ _
  generalize ones4 32 x5 = x6 at *
  repeat (first
  | with_reducible first | refine st (by constructor) ?_ | apply c_region
  | (with_reducible apply k_block_on
     · decide)
  | ((with_reducible first | apply xOp | apply xDr | apply xIf); rfl; (simp only [Nat.reduceEqDiff, Nat.reduceAdd, ↓reduceIte, xBB, stG, undef, opA, val, opdA, opdO, plainN, omap, binA, intBinA, loadV, readA, storeV, writeA, fieldAddrA, indexAddrA, lenA, builtinA, newA, unA, packA, Value.cells, a1, a2, a3, a4, b1, b2, b3, b4, c1, c2, c3, d1, d2, e1, e2, g1, g2, convA, un59, un3]; rfl); first | rfl | exact ⟨rfl, rfl, rfl⟩))
  intro _
  ((with_reducible first | apply ret_i | apply ret_n); (simp only [Nat.reduceEqDiff, Nat.reduceAdd, ↓reduceIte, xBB, resA, opdA, opdO, plainN, omap, val, loadV, readA, packA]; rfl))
  exact ⟨rfl, rfl⟩

theorem f45_spec [Sorts Tryd.prog] (a : Nat) (s : HS) (ha : a < 18446744073709551616) : wpF Tryd.prog s.nx 45 [.int .u64 a] s (fun v s' => v = .int .i64 (onesI a) ∧ s' = s) := by
  refine wpF_of Tryd.func45 rfl rfl rfl rfl (Nat.le_refl _) ?_
  simp only [paramsA]
  repeat (first
  | with_reducible first | refine st (by constructor) ?_ | apply c_region
  | (with_reducible apply k_block_on
     · decide)
  | ((with_reducible first | apply xOp | apply xDr | apply xIf); rfl; (simp only [Nat.reduceEqDiff, Nat.reduceAdd, ↓reduceIte, xBB, stG, undef, opA, val, opdA, opdO, plainN, omap, binA, intBinA, loadV, readA, storeV, writeA, fieldAddrA, indexAddrA, lenA, builtinA, newA, unA, packA, Value.cells]; rfl); first | rfl | exact ⟨rfl, rfl, rfl⟩))
  ((with_reducible first | apply xCa | apply xCd); rfl; (simp only [Nat.reduceEqDiff, Nat.reduceAdd, ↓reduceIte, xBB, stB, opdA, opdO, plainN, omap, val, Value.cells]; exact ⟨rfl, rfl⟩); try rfl)
  apply call_fn
  refine (f63_spec a s ha).mono fun v s' hv => ?_
  obtain ⟨rfl, rfl⟩ := hv
  refine opt_of rfl ?_
  repeat (first
  | with_reducible first | refine st (by constructor) ?_ | apply c_region
  | (with_reducible apply k_block_on
     · decide)
  | ((with_reducible first | apply xOp | apply xDr | apply xIf); rfl; (simp only [Nat.reduceEqDiff, Nat.reduceAdd, ↓reduceIte, xBB, stG, undef, opA, val, opdA, opdO, plainN, omap, binA, intBinA, loadV, readA, storeV, writeA, fieldAddrA, indexAddrA, lenA, builtinA, newA, unA, packA, Value.cells]; rfl); first | rfl | exact ⟨rfl, rfl, rfl⟩))
  intro _
  ((with_reducible first | apply ret_i | apply ret_n); (simp only [Nat.reduceEqDiff, Nat.reduceAdd, ↓reduceIte, xBB, resA, opdA, opdO, plainN, omap, val, loadV, readA, packA]; rfl))
  exact ⟨rfl, rfl⟩

theorem ones_small : ((List.range 1024).all fun a => onesI a == (cardN a 64 : Int)) = true := by kernel_rfl
theorem ones_eq {a : Nat} (h : a < 1024) : onesI a = (cardN a 64 : Int) := by
  have := List.all_eq_true.1 ones_small a (List.mem_range.2 h)
  simpa using this
theorem ones_pairs : ((List.range 64).all fun i => (List.range 64).all fun j => onesI (2 ^ i ||| 2 ^ j) == if i = j then 1 else 2) = true := by kernel_rfl
theorem ones_pair {i j : Nat} (hi : i < 64) (hj : j < 64) : onesI (2 ^ i ||| 2 ^ j) = if i = j then 1 else 2 := by
  have := List.all_eq_true.1 (List.all_eq_true.1 ones_pairs i (List.mem_range.2 hi)) j (List.mem_range.2 hj)
  simpa using this

theorem un103' : Tryd.prog.underlying 103 = some (.array 64 5) := by kernel_rfl
def tzI (k : Nat) : Nat := (2 ^ k * 285870213051353865 % 18446744073709551616) >>> 58
theorem tz_tab : ((List.range 64).all fun k => decide (tzI k < 64) && tabL[tzI k]? == some (k : Int)) = true := by kernel_rfl
theorem tz_at {k : Nat} (h : k < 64) : tzI k < 64 ∧ tabL[tzI k]? = some (k : Int) := by
  have := List.all_eq_true.1 tz_tab k (List.mem_range.2 h)
  simpa using this
theorem cutL_one {cs : List Value} {i : Nat} {v : Value} (h : cs[i]? = some v) : cutL cs i 1 = some [v] := by
  have hi := (List.getElem?_eq_some_iff.1 h).1
  unfold cutL
  rw [if_pos (by omega), List.drop_eq_getElem_cons hi, (List.getElem?_eq_some_iff.1 h).2]
  rfl

theorem f49_spec [Sorts Tryd.prog] (a k : Nat) (s : HS) (hgl : Glob s) (ha : a < 18446744073709551616) (hk : Low a k) : wpF Tryd.prog s.nx 49 [.int .u64 a] s (fun v s' => v = .int .i64 k ∧ s' = s) := by
  have h0 := hk.ne
  have hk64 := hk.lt (n := 64) ha
  have e0 : ((a : Int) == 0) = false := by simp; omega
  have e1 : IntKind.u64.wrap (0 - (a : Int)) = ((18446744073709551616 - a : Nat) : Int) := by
    have : IntKind.u64.wrap (0 - (a : Int)) = (0 - (a : Int)) % 18446744073709551616 := by simp [IntKind.wrap, IntKind.signed, IntKind.bits]
    rw [this]; omega
  have e2 : IntKind.u64.wrap ((BitVec.ofInt IntKind.u64.bits (a : Int) &&& BitVec.ofInt IntKind.u64.bits ((18446744073709551616 - a : Nat) : Int)).toNat : Int) = ((2 ^ k : Nat) : Int) := by
    rw [and_u64 ha (by omega)]
    exact congrArg _ (hk.and_neg ha)
  have e3 : IntKind.u64.wrap (((2 ^ k : Nat) : Int) * 285870213051353865) = ((2 ^ k * 285870213051353865 % 18446744073709551616 : Nat) : Int) := mul_u64 _ _
  have e4 : shiftA .shr .u64 ((2 ^ k * 285870213051353865 % 18446744073709551616 : Nat) : Int) 58 = some (.int .u64 ((tzI k : Nat) : Int)) := shr_u64 (k := 58) (Nat.mod_lt _ (by decide))
  obtain ⟨t1, t2⟩ := tz_at hk64
  generalize tzI k = q at *
  generalize 2 ^ k * 285870213051353865 % 18446744073709551616 = q2 at *
  generalize 2 ^ k = q1 at *
  have e5 : (0 : Int) ≤ (q : Int) ∧ (q : Int) < ((64 : Nat) : Int) := by omega
  have e6 : cutL (tabL.map fun n => Value.int .u8 n) (0 + q * 1) 1 = some [.int .u8 k] := by
    refine cutL_one ?_
    rw [Nat.zero_add, Nat.mul_one, List.getElem?_map, t2]; rfl
  have e7 : IntKind.i64.wrap (k : Int) = (k : Int) := IntWalk.i64_in _ (by omega)
  have hb := hgl.2
  unfold tabB at hb
  have hg0 : (0 < Tryd.prog.globals.size) = True := by rw [globs]; simp
  refine wpF_of Tryd.func49 rfl rfl rfl rfl (Nat.le_refl _) ?_
  simp only [paramsA]
  repeat (first
  | with_reducible first | refine st (by constructor) ?_ | apply c_region
  | (with_reducible apply k_block_on
     · decide)
  | ((with_reducible first | apply xOp | apply xDr | apply xIf); rfl; (simp only [Nat.reduceEqDiff, Nat.reduceAdd, ↓reduceIte, xBB, stG, undef, opA, val, opdA, opdO, plainN, omap, binA, intBinA, loadV, readA, storeV, writeA, fieldAddrA, indexAddrA, lenA, builtinA, newA, unA, packA, Value.cells, e0, e1, e2, e3, e4, hg0, un103', sz5, ty5, e5, e6, hb, convA, un5, un3, e7]; rfl); first | rfl | exact ⟨rfl, rfl, rfl⟩))
  intro _
  ((with_reducible first | apply ret_i | apply ret_n); (simp only [Nat.reduceEqDiff, Nat.reduceAdd, ↓reduceIte, xBB, resA, opdA, opdO, plainN, omap, val, loadV, readA, packA]; rfl))
  exact ⟨rfl, rfl⟩
end Go.Ev
