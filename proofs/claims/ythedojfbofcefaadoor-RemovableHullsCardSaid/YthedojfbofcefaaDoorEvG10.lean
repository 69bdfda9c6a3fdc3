/- The model: the graph of a net. -/
import Derived.Test.YthedojfbofcefaaDoorEvG9
namespace Go.Ev
open Go Go.Proofs
set_option linter.unusedSimpArgs false
set_option linter.unusedVariables false
set_option maxRecDepth 100000
set_option maxHeartbeats 4000000
attribute [local irreducible] wpOps wpC wpD wpF wpLoop wpCall seqK blockK loopK retK T.put T.get T.setF

theorem build28 (k : Value) (h : k.cells = #[k]) : buildA Tryd.prog 28 [(0, k)] = some (.agg #[k, .slice none 0 0]) := by
  have h1 : fieldsA Tryd.prog 28 = some [{ name := "Nodes", type := 3, offset := 0, embedded := false, tag := "", pkgPath := "", byteOffset := 0 }, { name := "Edges", type := 26, offset := 1, embedded := false, tag := "", pkgPath := "", byteOffset := 8 }] := by kernel_rfl
  unfold fieldsA at h1
  split at h1
  · rename_i fs hfs
    simp only [Option.some.injEq] at h1
    unfold buildA
    simp only [zr28, Option.bind_some, hfs, h1, omap, sz3, sz26, Option.map_some]
    simp only [fillA, List.getElem?_cons_zero, Option.bind_some, h]
    rfl
  · cases h1
theorem build58 (a b : Int) : buildA Tryd.prog 58 [(0, .int .i64 a), (1, .int .i64 b)] = some (.agg #[.int .i64 a, .int .i64 b]) := by
  have h1 : fieldsA Tryd.prog 58 = some [{ name := "From", type := 3, offset := 0, embedded := false, tag := "", pkgPath := "", byteOffset := 0 }, { name := "To", type := 3, offset := 1, embedded := false, tag := "", pkgPath := "", byteOffset := 8 }] := by kernel_rfl
  unfold fieldsA at h1
  split at h1
  · rename_i fs hfs
    simp only [Option.some.injEq] at h1
    unfold buildA
    simp only [zr58, Option.bind_some, hfs, h1, omap, sz3, Option.map_some]
    simp only [fillA, List.getElem?_cons_zero, List.getElem?_cons_succ, Option.bind_some]
    rfl
  · cases h1

theorem Sl.same {s s' : HS} {size : Nat} {v : Value} {xs : List (List Value)} (h : Sl s size v xs) (hn : s.nx ≤ s'.nx) (hg : ∀ id, id < s.nx → s'.hp.get id = s.hp.get id) : Sl s' size v xs := by
  rcases h with ⟨rfl, rfl⟩ | ⟨id, off, cap, wr, e, cs, rfl, h2, h3, h4⟩
  · exact Or.inl ⟨rfl, rfl⟩
  · exact Or.inr ⟨id, off, cap, wr, e, cs, rfl, by rw [hg _ h3]; exact h2, Nat.lt_of_lt_of_le h3 hn, h4⟩

def encU (b : Nat) : List Value := [.int .u8 b]
/-- Does a net have the edge of a number? -/
def hitB (k : Nat) (bs : List Nat) (i : Nat) : Bool := (bs.take 40).any fun b => decide (b % 49 = i / k * 7 + i % k)
def edgeN (k i : Nat) : Int × Int := (((i / k : Nat) : Int), ((i % k : Nat) : Int))
def graphL (k : Nat) (bs : List Nat) (n : Nat) : List (Int × Int) := ((List.range n).filter (hitB k bs)).map (edgeN k)
theorem graphL_succ (k : Nat) (bs : List Nat) (n : Nat) : graphL k bs (n + 1) = graphL k bs n ++ (if hitB k bs n then [edgeN k n] else []) := by
  unfold graphL
  rw [List.range_succ, List.filter_append, List.map_append]
  cases h : hitB k bs n with
  | true => rw [List.filter_cons_of_pos h]; rfl
  | false => rw [List.filter_cons_of_neg (by simp [h])]; rfl
theorem graphL_len (k : Nat) (bs : List Nat) (n : Nat) : (graphL k bs n).length ≤ n := by
  unfold graphL
  rw [List.length_map]
  exact Nat.le_trans (List.length_filter_le _ _) (by simp)
/-- The edges of a net. -/
def netE (k : Nat) (bs : List Nat) : List (Int × Int) := graphL k bs (k * k)

theorem f10_spec (nb : Nat) (bs : List Nat) (bv : Value) (s : HS) (hs : Sl s 1 bv (bs.map encU)) (hbs : ∀ b ∈ bs, b < 256) (hnb : nb < 256) :
    wpF Tryd.prog s.nx 10 [.agg #[.int .u8 nb, bv]] s (fun v s' => ∃ o ev, v = vG ((nb % 8 : Nat) : Int) ev ∧ Own s' 58 2 o ev ((netE (nb % 8) bs).map encE) ∧ newer s o) := by
  obtain ⟨b, c, rfl⟩ := hs.shape
  refine wpF_of Tryd.func10 rfl rfl rfl rfl (Nat.le_refl _) ?_
  simp only [paramsA]
  have hrem : (nb : Int).tmod 8 = ((nb % 8 : Nat) : Int) := by
    rw [Int.tmod_eq_emod_of_nonneg (by omega)]; rfl
  have h8 : ¬ (8 : Int) = 0 := by decide
  have hcv : IntKind.i64.wrap ((nb % 8 : Nat) : Int) = ((nb % 8 : Nat) : Int) := IntWalk.i64_in _ (by omega)
  have hk8 : nb % 8 < 8 := Nat.mod_lt _ (by decide)
  generalize hk : nb % 8 = k at *
  have hb28 := build28 (.int .i64 k) rfl
  repeat (first
      | with_reducible first | apply ops_end | apply d_end | apply k_seq | apply k_seq_ret | apply k_seq_exit | apply k_block | apply k_block_ret | apply k_block_here | apply c_seq | apply c_block | apply c_region | apply c_skip | apply c_ret | apply c_exit | apply c_loop | apply k_loop_exit | apply k_loop_ret
      | (with_reducible apply k_block_on
         · decide)
      | ((first
          | (with_reducible apply ops_do
             · rfl)
          | (with_reducible apply d_same
             · rfl
             · rfl))
         · (simp only [Nat.reduceEqDiff, opA, val, opdA, opdO, T.get_put, ↓reduceIte, Nat.add_assoc, Nat.reduceAdd, Nat.left_eq_add, Nat.add_eq_left, Nat.add_left_cancel_iff, Nat.add_zero, plainN, omap, Option.map_some, Option.bind_some, Nat.le_add_right, Nat.le_refl, binA, intBinA, loadV, readA, storeV, writeA, fieldAddrA, indexAddrA, lenA, builtinA, newA, unA, packA, if_true, and_self, and_true, true_and, Value.cells, Int.toNat_natCast, decide_true, decide_false, cond_true, cond_false, ty24, fd24_0, fd24_1, ty5, hrem, h8, convA, un5, un3, hcv, hb28, zr28, sz28, ty28]; rfl)
         · rfl
         try (· rfl))
      | ((first
          | (with_reducible apply d_do
             · rfl
             · rfl)
          | (with_reducible apply d_quiet
             · rfl
             · rfl
             · rfl))
         · (simp only [Nat.reduceEqDiff, opA, val, opdA, opdO, T.get_put, ↓reduceIte, Nat.add_assoc, Nat.reduceAdd, Nat.left_eq_add, Nat.add_eq_left, Nat.add_left_cancel_iff, Nat.add_zero, plainN, omap, Option.map_some, Option.bind_some, Nat.le_add_right, Nat.le_refl, binA, intBinA, loadV, readA, storeV, writeA, fieldAddrA, indexAddrA, lenA, builtinA, newA, unA, packA, if_true, and_self, and_true, true_and, Value.cells, Int.toNat_natCast, decide_true, decide_false, cond_true, cond_false, ty24, fd24_0, fd24_1, ty5, hrem, h8, convA, un5, un3, hcv, hb28, zr28, sz28, ty28]; rfl)
         first
         | · rfl
         | (· (simp only [Nat.reduceEqDiff, loadBlk, opdA, T.get_put, ↓reduceIte, ty24, fd24_0, fd24_1, ty5, hrem, h8, convA, un5, un3, hcv, hb28, zr28, sz28, ty28]; rfl)
            · rfl))
      | ((first
          | with_reducible apply ops_skipG
          | (with_reducible apply d_skip
             · rfl))
         · rfl
         · rfl
         · (simp only [Nat.reduceEqDiff, T.get_put, ↓reduceIte, ty24, fd24_0, fd24_1, ty5, hrem, h8, convA, un5, un3, hcv, hb28, zr28, sz28, ty28]; rfl)
         · (simp only [decide_true, decide_false, ty24, fd24_0, fd24_1, ty5, hrem, h8, convA, un5, un3, hcv, hb28, zr28, sz28, ty28, bt_tf, bt_ft, bt_tt, bt_ff]; done)
         · rfl)
      | ((first
          | with_reducible apply ops_doG
          | (with_reducible apply d_sameG
             · rfl))
         · rfl
         · rfl
         · (simp only [Nat.reduceEqDiff, T.get_put, ↓reduceIte, ty24, fd24_0, fd24_1, ty5, hrem, h8, convA, un5, un3, hcv, hb28, zr28, sz28, ty28]; rfl)
         · (simp only [decide_true, decide_false, ty24, fd24_0, fd24_1, ty5, hrem, h8, convA, un5, un3, hcv, hb28, zr28, sz28, ty28, bt_tf, bt_ft, bt_tt, bt_ff]; done)
         · (simp only [Nat.reduceEqDiff, opA, val, opdA, opdO, T.get_put, ↓reduceIte, Nat.add_assoc, Nat.reduceAdd, Nat.left_eq_add, Nat.add_eq_left, Nat.add_left_cancel_iff, Nat.add_zero, plainN, omap, Option.map_some, Option.bind_some, Nat.le_add_right, Nat.le_refl, binA, intBinA, loadV, readA, storeV, writeA, fieldAddrA, indexAddrA, lenA, builtinA, newA, unA, packA, if_true, and_self, and_true, true_and, Value.cells, Int.toNat_natCast, decide_true, decide_false, cond_true, cond_false, ty24, fd24_0, fd24_1, ty5, hrem, h8, convA, un5, un3, hcv, hb28, zr28, sz28, ty28]; rfl)
         · rfl
         try (· rfl))
      | (with_reducible apply c_if
         · (simp only [Nat.reduceEqDiff, opdA, opdO, T.get_put, ↓reduceIte, Nat.add_assoc, Nat.reduceAdd, Nat.left_eq_add, Nat.add_eq_left, Nat.add_left_cancel_iff, Nat.add_zero, plainN, omap, Option.map_some, Option.bind_some, Nat.le_add_right, Nat.le_refl, decide_true, decide_false, ty24, fd24_0, fd24_1, ty5, hrem, h8, convA, un5, un3, hcv, hb28, zr28, sz28, ty28]; rfl)
         with_reducible first | apply if_t | apply if_f))
  generalize hs3 : ({ hp := (((s.hp.put s.nx (some (.cells true 24 [.int .u8 nb, .slice b (bs.map encU).length c]))).put (s.nx + 1) (some (.cells true 28 [.int .i64 0, .slice none 0 0]))).put (s.nx + 2) (some (.cells true 28 [.int .i64 0, .slice none 0 0]))).put (s.nx + 2) (some (.cells true 28 (putL [.int .i64 0, .slice none 0 0] 0 [.int .i64 k, .slice none 0 0]))), nx := s.nx + 3 } : HS) = s3
  have hn3 : s3.nx = s.nx + 3 := by rw [← hs3]
  have h3lo : ∀ id, id < s.nx → s3.hp.get id = s.hp.get id := fun id h => by
    rw [← hs3]; dsimp only; rw [T.get_put_ne _ _ _ (by omega), T.get_put_ne _ _ _ (by omega), T.get_put_ne _ _ _ (by omega), T.get_put_ne _ _ _ (by omega)]
  have h3a : s3.hp.get s.nx = some (.cells true 24 [.int .u8 nb, .slice b (bs.map encU).length c]) := by
    rw [← hs3]; dsimp only; rw [T.get_put_ne _ _ _ (by omega), T.get_put_ne _ _ _ (by omega), T.get_put_ne _ _ _ (by omega), T.get_put_eq]
  have h3b : s3.hp.get (s.nx + 1) = some (.cells true 28 [.int .i64 0, .slice none 0 0]) := by
    rw [← hs3]; dsimp only; rw [T.get_put_ne _ _ _ (by omega), T.get_put_ne _ _ _ (by omega), T.get_put_eq]
  have h3c : s3.hp.get (s.nx + 2) = some (.cells true 28 [.int .i64 k, .slice none 0 0]) := by rw [← hs3]; exact T.get_put_eq _ _ _
  refine loop_k (lk' := s.nx + 2) (s0 := s3) (fun m f t => ∃ i : Nat, i + m = k * k ∧ f.get 5 = some (.int .i64 i) ∧ ∃ o ev, t.hp.get (s.nx + 2) = some (.cells true 28 [.int .i64 k, ev]) ∧
    Own t 58 2 o ev ((graphL k bs i).map encE) ∧ ∀ id, o = some id → s.nx + 3 ≤ id) (k * k) (by omega) (by omega) ?_ (Ab.refl _ _) ?_
  · exact ⟨0, by omega, by simp only [Nat.reduceEqDiff, T.get_put, ↓reduceIte]; rfl, none, _, h3c, ⟨rfl, rfl⟩, fun id h => (by cases h)⟩
  · have hkk : k * k ≤ 49 := Nat.mul_le_mul (show k ≤ 7 by omega) (show k ≤ 7 by omega)
    have hwk : IntKind.i64.wrap ((k : Int) * (k : Int)) = ((k * k : Nat) : Int) := by rw [← Int.natCast_mul]; exact IntWalk.i64_in _ (by omega)
    rintro m f t ⟨i, hi, h5, o, ev, hbox, hown, ho⟩ hA hF
    (have k1 := hF 1 (by rfl); simp only [Nat.reduceEqDiff, T.get_put, ↓reduceIte] at k1; have k2 := hF 2 (by rfl); simp only [Nat.reduceEqDiff, T.get_put, ↓reduceIte] at k2; have k3 := hF 3 (by rfl); simp only [Nat.reduceEqDiff, T.get_put, ↓reduceIte] at k3; have k4 := hF 4 (by rfl); simp only [Nat.reduceEqDiff, T.get_put, ↓reduceIte] at k4)
    have hnt := hA.nx
    have hsl : Sl t 1 (.slice b (bs.map encU).length c) (bs.map encU) := hs.same (by omega) fun id h => by rw [hA.get (by omega) (by omega)]; exact h3lo id h
    have hta : t.hp.get s.nx = some (.cells true 24 [.int .u8 nb, .slice b (bs.map encU).length c]) := by rw [hA.get (by omega) (by omega)]; exact h3a
    by_cases hlt : (i : Int) < ((k * k : Nat) : Int)
    · have hlt' : i < k * k := by omega
      have hk0 : 0 < k := by rcases Nat.eq_zero_or_pos k with h | h; · subst h; omega
                             · exact h
      have hwi : IntKind.i64.wrap ((i : Int) + 1) = ((i + 1 : Nat) : Int) := by rw [IntWalk.i64_in _ (by omega)]; rfl
      repeat (first
      | with_reducible first | apply ops_end | apply d_end | apply k_seq | apply k_seq_ret | apply k_seq_exit | apply k_block | apply k_block_ret | apply k_block_here | apply c_seq | apply c_block | apply c_region | apply c_skip | apply c_ret | apply c_exit | apply c_loop | apply k_loop_exit | apply k_loop_ret
      | (with_reducible apply k_block_on
         · decide)
      | ((first
          | (with_reducible apply ops_do
             · rfl)
          | (with_reducible apply d_same
             · rfl
             · rfl))
         · (simp only [Nat.reduceEqDiff, opA, val, opdA, opdO, T.get_put, ↓reduceIte, Nat.add_assoc, Nat.reduceAdd, Nat.left_eq_add, Nat.add_eq_left, Nat.add_left_cancel_iff, Nat.add_zero, plainN, omap, Option.map_some, Option.bind_some, Nat.le_add_right, Nat.le_refl, binA, intBinA, loadV, readA, storeV, writeA, fieldAddrA, indexAddrA, lenA, builtinA, newA, unA, packA, if_true, and_self, and_true, true_and, Value.cells, Int.toNat_natCast, decide_true, decide_false, cond_true, cond_false, h5, k3, hwk, hlt]; rfl)
         · rfl
         try (· rfl))
      | ((first
          | (with_reducible apply d_do
             · rfl
             · rfl)
          | (with_reducible apply d_quiet
             · rfl
             · rfl
             · rfl))
         · (simp only [Nat.reduceEqDiff, opA, val, opdA, opdO, T.get_put, ↓reduceIte, Nat.add_assoc, Nat.reduceAdd, Nat.left_eq_add, Nat.add_eq_left, Nat.add_left_cancel_iff, Nat.add_zero, plainN, omap, Option.map_some, Option.bind_some, Nat.le_add_right, Nat.le_refl, binA, intBinA, loadV, readA, storeV, writeA, fieldAddrA, indexAddrA, lenA, builtinA, newA, unA, packA, if_true, and_self, and_true, true_and, Value.cells, Int.toNat_natCast, decide_true, decide_false, cond_true, cond_false, h5, k3, hwk, hlt]; rfl)
         first
         | · rfl
         | (· (simp only [Nat.reduceEqDiff, loadBlk, opdA, T.get_put, ↓reduceIte, h5, k3, hwk, hlt]; rfl)
            · rfl))
      | ((first
          | with_reducible apply ops_skipG
          | (with_reducible apply d_skip
             · rfl))
         · rfl
         · rfl
         · (simp only [Nat.reduceEqDiff, T.get_put, ↓reduceIte, h5, k3, hwk, hlt]; rfl)
         · (simp only [decide_true, decide_false, h5, k3, hwk, hlt, bt_tf, bt_ft, bt_tt, bt_ff]; done)
         · rfl)
      | ((first
          | with_reducible apply ops_doG
          | (with_reducible apply d_sameG
             · rfl))
         · rfl
         · rfl
         · (simp only [Nat.reduceEqDiff, T.get_put, ↓reduceIte, h5, k3, hwk, hlt]; rfl)
         · (simp only [decide_true, decide_false, h5, k3, hwk, hlt, bt_tf, bt_ft, bt_tt, bt_ff]; done)
         · (simp only [Nat.reduceEqDiff, opA, val, opdA, opdO, T.get_put, ↓reduceIte, Nat.add_assoc, Nat.reduceAdd, Nat.left_eq_add, Nat.add_eq_left, Nat.add_left_cancel_iff, Nat.add_zero, plainN, omap, Option.map_some, Option.bind_some, Nat.le_add_right, Nat.le_refl, binA, intBinA, loadV, readA, storeV, writeA, fieldAddrA, indexAddrA, lenA, builtinA, newA, unA, packA, if_true, and_self, and_true, true_and, Value.cells, Int.toNat_natCast, decide_true, decide_false, cond_true, cond_false, h5, k3, hwk, hlt]; rfl)
         · rfl
         try (· rfl))
      | (with_reducible apply c_if
         · (simp only [Nat.reduceEqDiff, opdA, opdO, T.get_put, ↓reduceIte, Nat.add_assoc, Nat.reduceAdd, Nat.left_eq_add, Nat.add_eq_left, Nat.add_left_cancel_iff, Nat.add_zero, plainN, omap, Option.map_some, Option.bind_some, Nat.le_add_right, Nat.le_refl, decide_true, decide_false, h5, k3, hwk, hlt]; rfl)
         with_reducible first | apply if_t | apply if_f))
      have b1 := k1
      have b3 := k3
      have b4 := k4
      have b5 := h5
      refine loop_k (lk' := s.nx + 2) (s0 := t) (fun m f u => u = t ∧ ∃ j : Nat, j + m = bs.length ∧ f.get 6 = some (.int .i64 j) ∧ ((bs.take 40).drop j).any (fun b => decide (b % 49 = i / k * 7 + i % k)) = hitB k bs i) bs.length (Nat.le_refl _) (by omega) ?_ (Ab.refl _ _) ?_
      · exact ⟨rfl, 0, by omega, by simp only [Nat.reduceEqDiff, T.get_put, ↓reduceIte]; rfl, rfl⟩
      · clear k1 k3 k4
        rintro m2 f2 u ⟨rfl, j, hj, h6, hhit⟩ hA2 hF2
        have hF := hF2
        (have k1 := hF 1 (by rfl); simp only [Nat.reduceEqDiff, T.get_put, ↓reduceIte, b1, b3, b4, b5] at k1; have k3 := hF 3 (by rfl); simp only [Nat.reduceEqDiff, T.get_put, ↓reduceIte, b1, b3, b4, b5] at k3; have k4 := hF 4 (by rfl); simp only [Nat.reduceEqDiff, T.get_put, ↓reduceIte, b1, b3, b4, b5] at k4; have k5 := hF 5 (by rfl); simp only [Nat.reduceEqDiff, T.get_put, ↓reduceIte, b1, b3, b4, b5] at k5)
        clear hF hF2
        by_cases hjl : (j : Int) < ((bs.map encU).length : Int)
        · have hjl' : j < bs.length := by simp at hjl; omega
          by_cases hj40 : (j : Int) < 40
          · have hj40' : j < 40 := by omega
            have hjt : j < (bs.take 40).length := by rw [List.length_take]; omega
            have hbj : (bs.take 40)[j] = bs[j] := List.getElem_take
            have hdrop : (bs.take 40).drop j = bs[j] :: (bs.take 40).drop (j + 1) := by rw [List.drop_eq_getElem_cons hjt, hbj]
            rw [hdrop, List.any_cons] at hhit
            have hb256 := hbs bs[j] (List.getElem_mem hjl')
            obtain ⟨id, off, wr, e, cs, rfl, g1, g2, g3, g4⟩ := hsl.at (i := j) (x := encU bs[j]) (by simp [hjl'])
            have hb : (0 : Int) ≤ (j : Int) ∧ (j : Int) < ((bs.map encU).length : Int) := ⟨by omega, hjl⟩
            have hw : IntKind.i64.wrap ((j : Int) + 1) = ((j + 1 : Nat) : Int) := by rw [IntWalk.i64_in _ (by omega)]; rfl
            have hcb : IntKind.i64.wrap ((bs[j] : Nat) : Int) = ((bs[j] : Nat) : Int) := IntWalk.i64_in _ (by omega)
            have h49 : ¬ (49 : Int) = 0 := by decide
            have hm49 : ((bs[j] : Nat) : Int).tmod 49 = ((bs[j] % 49 : Nat) : Int) := by rw [Int.tmod_eq_emod_of_nonneg (by omega)]; rfl
            have hk0' : ¬ ((k : Int) = 0) := by omega
            have hik : i / k < 7 := by rw [Nat.div_lt_iff_lt_mul hk0]; exact Nat.lt_of_lt_of_le hlt' (Nat.mul_le_mul_right _ (by omega))
            have hik2 : i % k < k := Nat.mod_lt _ hk0
            have hdiv : IntKind.i64.wrap ((i : Int).tdiv (k : Int)) = ((i / k : Nat) : Int) := by
              rw [Int.tdiv_eq_ediv_of_nonneg (by omega), ← Int.natCast_ediv]; exact wrapN (Nat.lt_trans hik (by decide))
            have hmod : (i : Int).tmod (k : Int) = ((i % k : Nat) : Int) := by rw [Int.tmod_eq_emod_of_nonneg (by omega)]; exact (Int.natCast_emod _ _).symm
            have hm7 : IntKind.i64.wrap (((i / k : Nat) : Int) * 7) = ((i / k * 7 : Nat) : Int) := by
              show IntKind.i64.wrap (((i / k : Nat) : Int) * ((7 : Nat) : Int)) = _
              rw [← Int.natCast_mul]; exact wrapN (Nat.lt_trans (Nat.mul_lt_mul_of_pos_right hik (by decide)) (by decide))
            have hadd : IntKind.i64.wrap (((i / k * 7 : Nat) : Int) + ((i % k : Nat) : Int)) = ((i / k * 7 + i % k : Nat) : Int) := by
              rw [← Int.natCast_add]; exact wrapN (Nat.lt_trans (Nat.add_lt_add (Nat.mul_lt_mul_of_pos_right hik (show 0 < 7 by decide)) (Nat.lt_trans hik2 hk8)) (by decide))
            simp only [encU] at g3
            repeat (first
      | with_reducible first | apply ops_end | apply d_end | apply k_seq | apply k_seq_ret | apply k_seq_exit | apply k_block | apply k_block_ret | apply k_block_here | apply c_seq | apply c_block | apply c_region | apply c_skip | apply c_ret | apply c_exit | apply c_loop | apply k_loop_exit | apply k_loop_ret
      | (with_reducible apply k_block_on
         · decide)
      | ((first
          | (with_reducible apply ops_do
             · rfl)
          | (with_reducible apply d_same
             · rfl
             · rfl))
         · (simp only [Nat.reduceEqDiff, opA, val, opdA, opdO, T.get_put, ↓reduceIte, Nat.add_assoc, Nat.reduceAdd, Nat.left_eq_add, Nat.add_eq_left, Nat.add_left_cancel_iff, Nat.add_zero, plainN, omap, Option.map_some, Option.bind_some, Nat.le_add_right, Nat.le_refl, binA, intBinA, loadV, readA, storeV, writeA, fieldAddrA, indexAddrA, lenA, builtinA, newA, unA, packA, if_true, and_self, and_true, true_and, Value.cells, Int.toNat_natCast, decide_true, decide_false, cond_true, cond_false, h6, k1, k3, k4, k5, fd24_1, ty22, hta, un22, hjl, hj40]; rfl)
         · rfl
         try (· rfl))
      | ((first
          | (with_reducible apply d_do
             · rfl
             · rfl)
          | (with_reducible apply d_quiet
             · rfl
             · rfl
             · rfl))
         · (simp only [Nat.reduceEqDiff, opA, val, opdA, opdO, T.get_put, ↓reduceIte, Nat.add_assoc, Nat.reduceAdd, Nat.left_eq_add, Nat.add_eq_left, Nat.add_left_cancel_iff, Nat.add_zero, plainN, omap, Option.map_some, Option.bind_some, Nat.le_add_right, Nat.le_refl, binA, intBinA, loadV, readA, storeV, writeA, fieldAddrA, indexAddrA, lenA, builtinA, newA, unA, packA, if_true, and_self, and_true, true_and, Value.cells, Int.toNat_natCast, decide_true, decide_false, cond_true, cond_false, h6, k1, k3, k4, k5, fd24_1, ty22, hta, un22, hjl, hj40]; rfl)
         first
         | · rfl
         | (· (simp only [Nat.reduceEqDiff, loadBlk, opdA, T.get_put, ↓reduceIte, h6, k1, k3, k4, k5, fd24_1, ty22, hta, un22, hjl, hj40]; rfl)
            · rfl))
      | ((first
          | with_reducible apply ops_skipG
          | (with_reducible apply d_skip
             · rfl))
         · rfl
         · rfl
         · (simp only [Nat.reduceEqDiff, T.get_put, ↓reduceIte, h6, k1, k3, k4, k5, fd24_1, ty22, hta, un22, hjl, hj40]; rfl)
         · (simp only [decide_true, decide_false, h6, k1, k3, k4, k5, fd24_1, ty22, hta, un22, hjl, hj40, bt_tf, bt_ft, bt_tt, bt_ff]; done)
         · rfl)
      | ((first
          | with_reducible apply ops_doG
          | (with_reducible apply d_sameG
             · rfl))
         · rfl
         · rfl
         · (simp only [Nat.reduceEqDiff, T.get_put, ↓reduceIte, h6, k1, k3, k4, k5, fd24_1, ty22, hta, un22, hjl, hj40]; rfl)
         · (simp only [decide_true, decide_false, h6, k1, k3, k4, k5, fd24_1, ty22, hta, un22, hjl, hj40, bt_tf, bt_ft, bt_tt, bt_ff]; done)
         · (simp only [Nat.reduceEqDiff, opA, val, opdA, opdO, T.get_put, ↓reduceIte, Nat.add_assoc, Nat.reduceAdd, Nat.left_eq_add, Nat.add_eq_left, Nat.add_left_cancel_iff, Nat.add_zero, plainN, omap, Option.map_some, Option.bind_some, Nat.le_add_right, Nat.le_refl, binA, intBinA, loadV, readA, storeV, writeA, fieldAddrA, indexAddrA, lenA, builtinA, newA, unA, packA, if_true, and_self, and_true, true_and, Value.cells, Int.toNat_natCast, decide_true, decide_false, cond_true, cond_false, h6, k1, k3, k4, k5, fd24_1, ty22, hta, un22, hjl, hj40]; rfl)
         · rfl
         try (· rfl))
      | (with_reducible apply c_if
         · (simp only [Nat.reduceEqDiff, opdA, opdO, T.get_put, ↓reduceIte, Nat.add_assoc, Nat.reduceAdd, Nat.left_eq_add, Nat.add_eq_left, Nat.add_left_cancel_iff, Nat.add_zero, plainN, omap, Option.map_some, Option.bind_some, Nat.le_add_right, Nat.le_refl, decide_true, decide_false, h6, k1, k3, k4, k5, fd24_1, ty22, hta, un22, hjl, hj40]; rfl)
         with_reducible first | apply if_t | apply if_f))
            refine c_draw [⟨true, [], none⟩, ⟨true, [], none⟩, ⟨false, [], none⟩, ⟨true, [], none⟩, ⟨true, [], none⟩, ⟨true, [], none⟩, ⟨true, [], none⟩, ⟨false, [], none⟩, ⟨false, [], none⟩, ⟨false, [], none⟩, ⟨false, [], none⟩, ⟨false, [], none⟩, ⟨false, [], none⟩, ⟨false, [], none⟩, ⟨false, [], none⟩, ⟨true, [], none⟩] (by kernel_rfl) ?_
            by_cases hit : bs[j] % 49 = i / k * 7 + i % k
            · have hbeq : (((bs[j] % 49 : Nat) : Int) == ((i / k * 7 + i % k : Nat) : Int)) = true := by rw [hit]; exact beq_self_eq_true _
              have hfound : hitB k bs i = true := by rw [← hhit, hit]; simp
              repeat (first
      | with_reducible first | apply ops_end | apply d_end | apply k_seq | apply k_seq_ret | apply k_seq_exit | apply k_block | apply k_block_ret | apply k_block_here | apply c_seq | apply c_block | apply c_region | apply c_skip | apply c_ret | apply c_exit | apply c_loop | apply k_loop_exit | apply k_loop_ret
      | (with_reducible apply k_block_on
         · decide)
      | ((first
          | (with_reducible apply ops_do
             · rfl)
          | (with_reducible apply d_same
             · rfl
             · rfl))
         · (simp only [Nat.reduceEqDiff, opA, val, opdA, opdO, T.get_put, ↓reduceIte, Nat.add_assoc, Nat.reduceAdd, Nat.left_eq_add, Nat.add_eq_left, Nat.add_left_cancel_iff, Nat.add_zero, plainN, omap, Option.map_some, Option.bind_some, Nat.le_add_right, Nat.le_refl, binA, intBinA, loadV, readA, storeV, writeA, fieldAddrA, indexAddrA, lenA, builtinA, newA, unA, packA, if_true, and_self, and_true, true_and, Value.cells, Int.toNat_natCast, decide_true, decide_false, cond_true, cond_false, h6, k1, k3, k4, k5, fd24_1, ty22, hta, un22, sz5, hb, ty5, g1, g3, convA, un5, un3, hcb, h49, hm49, hk0', hdiv, hmod, hm7, hadd, hbeq]; rfl)
         · rfl
         try (· rfl))
      | ((first
          | (with_reducible apply d_do
             · rfl
             · rfl)
          | (with_reducible apply d_quiet
             · rfl
             · rfl
             · rfl))
         · (simp only [Nat.reduceEqDiff, opA, val, opdA, opdO, T.get_put, ↓reduceIte, Nat.add_assoc, Nat.reduceAdd, Nat.left_eq_add, Nat.add_eq_left, Nat.add_left_cancel_iff, Nat.add_zero, plainN, omap, Option.map_some, Option.bind_some, Nat.le_add_right, Nat.le_refl, binA, intBinA, loadV, readA, storeV, writeA, fieldAddrA, indexAddrA, lenA, builtinA, newA, unA, packA, if_true, and_self, and_true, true_and, Value.cells, Int.toNat_natCast, decide_true, decide_false, cond_true, cond_false, h6, k1, k3, k4, k5, fd24_1, ty22, hta, un22, sz5, hb, ty5, g1, g3, convA, un5, un3, hcb, h49, hm49, hk0', hdiv, hmod, hm7, hadd, hbeq]; rfl)
         first
         | · rfl
         | (· (simp only [Nat.reduceEqDiff, loadBlk, opdA, T.get_put, ↓reduceIte, h6, k1, k3, k4, k5, fd24_1, ty22, hta, un22, sz5, hb, ty5, g1, g3, convA, un5, un3, hcb, h49, hm49, hk0', hdiv, hmod, hm7, hadd, hbeq]; rfl)
            · rfl))
      | ((first
          | with_reducible apply ops_skipG
          | (with_reducible apply d_skip
             · rfl))
         · rfl
         · rfl
         · (simp only [Nat.reduceEqDiff, T.get_put, ↓reduceIte, h6, k1, k3, k4, k5, fd24_1, ty22, hta, un22, sz5, hb, ty5, g1, g3, convA, un5, un3, hcb, h49, hm49, hk0', hdiv, hmod, hm7, hadd, hbeq]; rfl)
         · (simp only [decide_true, decide_false, h6, k1, k3, k4, k5, fd24_1, ty22, hta, un22, sz5, hb, ty5, g1, g3, convA, un5, un3, hcb, h49, hm49, hk0', hdiv, hmod, hm7, hadd, hbeq, bt_tf, bt_ft, bt_tt, bt_ff]; done)
         · rfl)
      | ((first
          | with_reducible apply ops_doG
          | (with_reducible apply d_sameG
             · rfl))
         · rfl
         · rfl
         · (simp only [Nat.reduceEqDiff, T.get_put, ↓reduceIte, h6, k1, k3, k4, k5, fd24_1, ty22, hta, un22, sz5, hb, ty5, g1, g3, convA, un5, un3, hcb, h49, hm49, hk0', hdiv, hmod, hm7, hadd, hbeq]; rfl)
         · (simp only [decide_true, decide_false, h6, k1, k3, k4, k5, fd24_1, ty22, hta, un22, sz5, hb, ty5, g1, g3, convA, un5, un3, hcb, h49, hm49, hk0', hdiv, hmod, hm7, hadd, hbeq, bt_tf, bt_ft, bt_tt, bt_ff]; done)
         · (simp only [Nat.reduceEqDiff, opA, val, opdA, opdO, T.get_put, ↓reduceIte, Nat.add_assoc, Nat.reduceAdd, Nat.left_eq_add, Nat.add_eq_left, Nat.add_left_cancel_iff, Nat.add_zero, plainN, omap, Option.map_some, Option.bind_some, Nat.le_add_right, Nat.le_refl, binA, intBinA, loadV, readA, storeV, writeA, fieldAddrA, indexAddrA, lenA, builtinA, newA, unA, packA, if_true, and_self, and_true, true_and, Value.cells, Int.toNat_natCast, decide_true, decide_false, cond_true, cond_false, h6, k1, k3, k4, k5, fd24_1, ty22, hta, un22, sz5, hb, ty5, g1, g3, convA, un5, un3, hcb, h49, hm49, hk0', hdiv, hmod, hm7, hadd, hbeq]; rfl)
         · rfl
         try (· rfl))
      | (with_reducible apply c_if
         · (simp only [Nat.reduceEqDiff, opdA, opdO, T.get_put, ↓reduceIte, Nat.add_assoc, Nat.reduceAdd, Nat.left_eq_add, Nat.add_eq_left, Nat.add_left_cancel_iff, Nat.add_zero, plainN, omap, Option.map_some, Option.bind_some, Nat.le_add_right, Nat.le_refl, decide_true, decide_false, h6, k1, k3, k4, k5, fd24_1, ty22, hta, un22, sz5, hb, ty5, g1, g3, convA, un5, un3, hcb, h49, hm49, hk0', hdiv, hmod, hm7, hadd, hbeq]; rfl)
         with_reducible first | apply if_t | apply if_f))
              refine c_draw [⟨false, [], none⟩, ⟨false, [], none⟩, ⟨false, [], none⟩, ⟨false, [], none⟩, ⟨false, [], none⟩, ⟨false, [], none⟩, ⟨false, [], none⟩, ⟨false, [], none⟩, ⟨false, [], none⟩, ⟨false, [1], none⟩, ⟨true, [], none⟩, ⟨true, [], none⟩, ⟨true, [], none⟩] (by kernel_rfl) ?_
              have hb58 := build58 ((i / k : Nat) : Int) ((i % k : Nat) : Int)
              repeat (first
      | with_reducible first | apply ops_end | apply d_end | apply k_seq | apply k_seq_ret | apply k_seq_exit | apply k_block | apply k_block_ret | apply k_block_here | apply c_seq | apply c_block | apply c_region | apply c_skip | apply c_ret | apply c_exit | apply c_loop | apply k_loop_exit | apply k_loop_ret
      | (with_reducible apply k_block_on
         · decide)
      | ((first
          | (with_reducible apply ops_do
             · rfl)
          | (with_reducible apply d_same
             · rfl
             · rfl))
         · (simp only [Nat.reduceEqDiff, opA, val, opdA, opdO, T.get_put, ↓reduceIte, Nat.add_assoc, Nat.reduceAdd, Nat.left_eq_add, Nat.add_eq_left, Nat.add_left_cancel_iff, Nat.add_zero, plainN, omap, Option.map_some, Option.bind_some, Nat.le_add_right, Nat.le_refl, binA, intBinA, loadV, readA, storeV, writeA, fieldAddrA, indexAddrA, lenA, builtinA, newA, unA, packA, if_true, and_self, and_true, true_and, Value.cells, Int.toNat_natCast, decide_true, decide_false, cond_true, cond_false, k3, k4, k5, fd28_1, ty26, hbox, hk0', hdiv, hmod, hb58, buildSliceA, el26, sz58, zr58, zerosL, fillA]; rfl)
         · rfl
         try (· rfl))
      | ((first
          | (with_reducible apply d_do
             · rfl
             · rfl)
          | (with_reducible apply d_quiet
             · rfl
             · rfl
             · rfl))
         · (simp only [Nat.reduceEqDiff, opA, val, opdA, opdO, T.get_put, ↓reduceIte, Nat.add_assoc, Nat.reduceAdd, Nat.left_eq_add, Nat.add_eq_left, Nat.add_left_cancel_iff, Nat.add_zero, plainN, omap, Option.map_some, Option.bind_some, Nat.le_add_right, Nat.le_refl, binA, intBinA, loadV, readA, storeV, writeA, fieldAddrA, indexAddrA, lenA, builtinA, newA, unA, packA, if_true, and_self, and_true, true_and, Value.cells, Int.toNat_natCast, decide_true, decide_false, cond_true, cond_false, k3, k4, k5, fd28_1, ty26, hbox, hk0', hdiv, hmod, hb58, buildSliceA, el26, sz58, zr58, zerosL, fillA]; rfl)
         first
         | · rfl
         | (· (simp only [Nat.reduceEqDiff, loadBlk, opdA, T.get_put, ↓reduceIte, k3, k4, k5, fd28_1, ty26, hbox, hk0', hdiv, hmod, hb58, buildSliceA, el26, sz58, zr58, zerosL, fillA]; rfl)
            · rfl))
      | ((first
          | with_reducible apply ops_skipG
          | (with_reducible apply d_skip
             · rfl))
         · rfl
         · rfl
         · (simp only [Nat.reduceEqDiff, T.get_put, ↓reduceIte, k3, k4, k5, fd28_1, ty26, hbox, hk0', hdiv, hmod, hb58, buildSliceA, el26, sz58, zr58, zerosL, fillA]; rfl)
         · (simp only [decide_true, decide_false, k3, k4, k5, fd28_1, ty26, hbox, hk0', hdiv, hmod, hb58, buildSliceA, el26, sz58, zr58, zerosL, fillA, bt_tf, bt_ft, bt_tt, bt_ff]; done)
         · rfl)
      | ((first
          | with_reducible apply ops_doG
          | (with_reducible apply d_sameG
             · rfl))
         · rfl
         · rfl
         · (simp only [Nat.reduceEqDiff, T.get_put, ↓reduceIte, k3, k4, k5, fd28_1, ty26, hbox, hk0', hdiv, hmod, hb58, buildSliceA, el26, sz58, zr58, zerosL, fillA]; rfl)
         · (simp only [decide_true, decide_false, k3, k4, k5, fd28_1, ty26, hbox, hk0', hdiv, hmod, hb58, buildSliceA, el26, sz58, zr58, zerosL, fillA, bt_tf, bt_ft, bt_tt, bt_ff]; done)
         · (simp only [Nat.reduceEqDiff, opA, val, opdA, opdO, T.get_put, ↓reduceIte, Nat.add_assoc, Nat.reduceAdd, Nat.left_eq_add, Nat.add_eq_left, Nat.add_left_cancel_iff, Nat.add_zero, plainN, omap, Option.map_some, Option.bind_some, Nat.le_add_right, Nat.le_refl, binA, intBinA, loadV, readA, storeV, writeA, fieldAddrA, indexAddrA, lenA, builtinA, newA, unA, packA, if_true, and_self, and_true, true_and, Value.cells, Int.toNat_natCast, decide_true, decide_false, cond_true, cond_false, k3, k4, k5, fd28_1, ty26, hbox, hk0', hdiv, hmod, hb58, buildSliceA, el26, sz58, zr58, zerosL, fillA]; rfl)
         · rfl
         try (· rfl))
      | (with_reducible apply c_if
         · (simp only [Nat.reduceEqDiff, opdA, opdO, T.get_put, ↓reduceIte, Nat.add_assoc, Nat.reduceAdd, Nat.left_eq_add, Nat.add_eq_left, Nat.add_left_cancel_iff, Nat.add_zero, plainN, omap, Option.map_some, Option.bind_some, Nat.le_add_right, Nat.le_refl, decide_true, decide_false, k3, k4, k5, fd28_1, ty26, hbox, hk0', hdiv, hmod, hb58, buildSliceA, el26, sz58, zr58, zerosL, fillA]; rfl)
         with_reducible first | apply if_t | apply if_f))
              (first
      | (with_reducible apply ops_opt
         · rfl
         · (simp only [Nat.reduceEqDiff, opA, val, opdA, opdO, T.get_put, ↓reduceIte, Nat.add_assoc, Nat.reduceAdd, Nat.left_eq_add, Nat.add_eq_left, Nat.add_left_cancel_iff, Nat.add_zero, plainN, omap, Option.map_some, Option.bind_some, Nat.le_add_right, Nat.le_refl, binA, intBinA, loadV, readA, storeV, writeA, fieldAddrA, indexAddrA, lenA, builtinA, newA, unA, packA, if_true, and_self, and_true, true_and, Value.cells, Int.toNat_natCast, decide_true, decide_false, cond_true, cond_false, un26]; rfl))
      | (with_reducible apply d_opt
         · rfl
         · rfl
         · (simp only [Nat.reduceEqDiff, opA, val, opdA, opdO, T.get_put, ↓reduceIte, Nat.add_assoc, Nat.reduceAdd, Nat.left_eq_add, Nat.add_eq_left, Nat.add_left_cancel_iff, Nat.add_zero, plainN, omap, Option.map_some, Option.bind_some, Nat.le_add_right, Nat.le_refl, binA, intBinA, loadV, readA, storeV, writeA, fieldAddrA, indexAddrA, lenA, builtinA, newA, unA, packA, if_true, and_self, and_true, true_and, Value.cells, Int.toNat_natCast, decide_true, decide_false, cond_true, cond_false, un26]; rfl)))
              have hown2 : Own { hp := u.hp.put u.nx (some (.cells true 58 (putL ([.int .i64 0, .int .i64 0] ++ []) (0 * 2) [.int .i64 ((i / k : Nat) : Int), .int .i64 ((i % k : Nat) : Int)]))), nx := u.nx + 1 } 58 2 o ev ((graphL k bs i).map encE) :=
                hown.same (Nat.le_succ _) fun id h => T.get_put_ne _ _ _ (by have := hown.lt h; omega)
              have hgl := graphL_len k bs i
              refine opt_ex (app_one (lk := s.nx + 2) (y := encE (edgeN k i)) el26 sz58 by58 zr58 rfl (by decide) hown2 (fun id h => by have := ho id h; omega) (T.get_put_eq _ _ _) rfl rfl (by simp; omega)) fun q hq => ?_
              obtain ⟨pv, s5⟩ := q
              obtain ⟨p1, p2, o', p3, p4⟩ := hq
              dsimp only at p1 p2 p3
              have hb5 : s5.hp.get (s.nx + 2) = some (.cells true 28 [.int .i64 k, ev]) := by
                rw [p2 _ (by omega) (fun h => by have := ho _ h; omega), T.get_put_ne _ _ _ (by omega)]; exact hbox
              obtain ⟨vb, vc, rfl⟩ := p3.shape
              have hl1 : ([Value.slice vb ((graphL k bs i).map encE ++ [encE (edgeN k i)]).length vc] : List Value).length = 1 := rfl
              have hone : ([Value.slice vb ((graphL k bs i).map encE ++ [encE (edgeN k i)]).length vc] : List Value).all Value.oneCell' = true := rfl
              have hl2 : 1 + 1 ≤ ([Value.int .i64 (k : Int), ev] : List Value).length := Nat.le_refl _
              have hlk : s.nx + 2 ≤ s.nx + 2 := Nat.le_refl _
              refine opt_of rfl ?_
              repeat (first
      | with_reducible first | apply ops_end | apply d_end | apply k_seq | apply k_seq_ret | apply k_seq_exit | apply k_block | apply k_block_ret | apply k_block_here | apply c_seq | apply c_block | apply c_region | apply c_skip | apply c_ret | apply c_exit | apply c_loop | apply k_loop_exit | apply k_loop_ret
      | (with_reducible apply k_block_on
         · decide)
      | ((first
          | (with_reducible apply ops_do
             · rfl)
          | (with_reducible apply d_same
             · rfl
             · rfl))
         · (simp only [Nat.reduceEqDiff, opA, val, opdA, opdO, T.get_put, ↓reduceIte, Nat.add_assoc, Nat.reduceAdd, Nat.left_eq_add, Nat.add_eq_left, Nat.add_left_cancel_iff, Nat.add_zero, plainN, omap, Option.map_some, Option.bind_some, Nat.le_add_right, Nat.le_refl, binA, intBinA, loadV, readA, storeV, writeA, fieldAddrA, indexAddrA, lenA, builtinA, newA, unA, packA, if_true, and_self, and_true, true_and, Value.cells, Int.toNat_natCast, decide_true, decide_false, cond_true, cond_false, k4, fd28_1, sz26, hb5, hl1, hone, hl2, hlk, List.toList_toArray]; rfl)
         · rfl
         try (· rfl))
      | ((first
          | (with_reducible apply d_do
             · rfl
             · rfl)
          | (with_reducible apply d_quiet
             · rfl
             · rfl
             · rfl))
         · (simp only [Nat.reduceEqDiff, opA, val, opdA, opdO, T.get_put, ↓reduceIte, Nat.add_assoc, Nat.reduceAdd, Nat.left_eq_add, Nat.add_eq_left, Nat.add_left_cancel_iff, Nat.add_zero, plainN, omap, Option.map_some, Option.bind_some, Nat.le_add_right, Nat.le_refl, binA, intBinA, loadV, readA, storeV, writeA, fieldAddrA, indexAddrA, lenA, builtinA, newA, unA, packA, if_true, and_self, and_true, true_and, Value.cells, Int.toNat_natCast, decide_true, decide_false, cond_true, cond_false, k4, fd28_1, sz26, hb5, hl1, hone, hl2, hlk, List.toList_toArray]; rfl)
         first
         | · rfl
         | (· (simp only [Nat.reduceEqDiff, loadBlk, opdA, T.get_put, ↓reduceIte, k4, fd28_1, sz26, hb5, hl1, hone, hl2, hlk, List.toList_toArray]; rfl)
            · rfl))
      | ((first
          | with_reducible apply ops_skipG
          | (with_reducible apply d_skip
             · rfl))
         · rfl
         · rfl
         · (simp only [Nat.reduceEqDiff, T.get_put, ↓reduceIte, k4, fd28_1, sz26, hb5, hl1, hone, hl2, hlk, List.toList_toArray]; rfl)
         · (simp only [decide_true, decide_false, k4, fd28_1, sz26, hb5, hl1, hone, hl2, hlk, List.toList_toArray, bt_tf, bt_ft, bt_tt, bt_ff]; done)
         · rfl)
      | ((first
          | with_reducible apply ops_doG
          | (with_reducible apply d_sameG
             · rfl))
         · rfl
         · rfl
         · (simp only [Nat.reduceEqDiff, T.get_put, ↓reduceIte, k4, fd28_1, sz26, hb5, hl1, hone, hl2, hlk, List.toList_toArray]; rfl)
         · (simp only [decide_true, decide_false, k4, fd28_1, sz26, hb5, hl1, hone, hl2, hlk, List.toList_toArray, bt_tf, bt_ft, bt_tt, bt_ff]; done)
         · (simp only [Nat.reduceEqDiff, opA, val, opdA, opdO, T.get_put, ↓reduceIte, Nat.add_assoc, Nat.reduceAdd, Nat.left_eq_add, Nat.add_eq_left, Nat.add_left_cancel_iff, Nat.add_zero, plainN, omap, Option.map_some, Option.bind_some, Nat.le_add_right, Nat.le_refl, binA, intBinA, loadV, readA, storeV, writeA, fieldAddrA, indexAddrA, lenA, builtinA, newA, unA, packA, if_true, and_self, and_true, true_and, Value.cells, Int.toNat_natCast, decide_true, decide_false, cond_true, cond_false, k4, fd28_1, sz26, hb5, hl1, hone, hl2, hlk, List.toList_toArray]; rfl)
         · rfl
         try (· rfl))
      | (with_reducible apply c_if
         · (simp only [Nat.reduceEqDiff, opdA, opdO, T.get_put, ↓reduceIte, Nat.add_assoc, Nat.reduceAdd, Nat.left_eq_add, Nat.add_eq_left, Nat.add_left_cancel_iff, Nat.add_zero, plainN, omap, Option.map_some, Option.bind_some, Nat.le_add_right, Nat.le_refl, decide_true, decide_false, k4, fd28_1, sz26, hb5, hl1, hone, hl2, hlk, List.toList_toArray]; rfl)
         with_reducible first | apply if_t | apply if_f))
              intro _ _
              repeat (first
      | with_reducible first | apply ops_end | apply d_end | apply k_seq | apply k_seq_ret | apply k_seq_exit | apply k_block | apply k_block_ret | apply k_block_here | apply c_seq | apply c_block | apply c_region | apply c_skip | apply c_ret | apply c_exit | apply c_loop | apply k_loop_exit | apply k_loop_ret
      | (with_reducible apply k_block_on
         · decide)
      | ((first
          | (with_reducible apply ops_do
             · rfl)
          | (with_reducible apply d_same
             · rfl
             · rfl))
         · (simp only [Nat.reduceEqDiff, opA, val, opdA, opdO, T.get_put, ↓reduceIte, Nat.add_assoc, Nat.reduceAdd, Nat.left_eq_add, Nat.add_eq_left, Nat.add_left_cancel_iff, Nat.add_zero, plainN, omap, Option.map_some, Option.bind_some, Nat.le_add_right, Nat.le_refl, binA, intBinA, loadV, readA, storeV, writeA, fieldAddrA, indexAddrA, lenA, builtinA, newA, unA, packA, if_true, and_self, and_true, true_and, Value.cells, Int.toNat_natCast, decide_true, decide_false, cond_true, cond_false, k5, hwi]; rfl)
         · rfl
         try (· rfl))
      | ((first
          | (with_reducible apply d_do
             · rfl
             · rfl)
          | (with_reducible apply d_quiet
             · rfl
             · rfl
             · rfl))
         · (simp only [Nat.reduceEqDiff, opA, val, opdA, opdO, T.get_put, ↓reduceIte, Nat.add_assoc, Nat.reduceAdd, Nat.left_eq_add, Nat.add_eq_left, Nat.add_left_cancel_iff, Nat.add_zero, plainN, omap, Option.map_some, Option.bind_some, Nat.le_add_right, Nat.le_refl, binA, intBinA, loadV, readA, storeV, writeA, fieldAddrA, indexAddrA, lenA, builtinA, newA, unA, packA, if_true, and_self, and_true, true_and, Value.cells, Int.toNat_natCast, decide_true, decide_false, cond_true, cond_false, k5, hwi]; rfl)
         first
         | · rfl
         | (· (simp only [Nat.reduceEqDiff, loadBlk, opdA, T.get_put, ↓reduceIte, k5, hwi]; rfl)
            · rfl))
      | ((first
          | with_reducible apply ops_skipG
          | (with_reducible apply d_skip
             · rfl))
         · rfl
         · rfl
         · (simp only [Nat.reduceEqDiff, T.get_put, ↓reduceIte, k5, hwi]; rfl)
         · (simp only [decide_true, decide_false, k5, hwi, bt_tf, bt_ft, bt_tt, bt_ff]; done)
         · rfl)
      | ((first
          | with_reducible apply ops_doG
          | (with_reducible apply d_sameG
             · rfl))
         · rfl
         · rfl
         · (simp only [Nat.reduceEqDiff, T.get_put, ↓reduceIte, k5, hwi]; rfl)
         · (simp only [decide_true, decide_false, k5, hwi, bt_tf, bt_ft, bt_tt, bt_ff]; done)
         · (simp only [Nat.reduceEqDiff, opA, val, opdA, opdO, T.get_put, ↓reduceIte, Nat.add_assoc, Nat.reduceAdd, Nat.left_eq_add, Nat.add_eq_left, Nat.add_left_cancel_iff, Nat.add_zero, plainN, omap, Option.map_some, Option.bind_some, Nat.le_add_right, Nat.le_refl, binA, intBinA, loadV, readA, storeV, writeA, fieldAddrA, indexAddrA, lenA, builtinA, newA, unA, packA, if_true, and_self, and_true, true_and, Value.cells, Int.toNat_natCast, decide_true, decide_false, cond_true, cond_false, k5, hwi]; rfl)
         · rfl
         try (· rfl))
      | (with_reducible apply c_if
         · (simp only [Nat.reduceEqDiff, opdA, opdO, T.get_put, ↓reduceIte, Nat.add_assoc, Nat.reduceAdd, Nat.left_eq_add, Nat.add_eq_left, Nat.add_left_cancel_iff, Nat.add_zero, plainN, omap, Option.map_some, Option.bind_some, Nat.le_add_right, Nat.le_refl, decide_true, decide_false, k5, hwi]; rfl)
         with_reducible first | apply if_t | apply if_f))
              intro _ _
              have ho' : ∀ id, o' = some id → s.nx + 3 ≤ id := fun id h => by
                rcases p4 with rfl | rfl
                · exact ho id h
                · cases h; show s.nx + 3 ≤ u.nx + 1; omega
              refine k_loop_next (m' := m - 1) (by omega) ⟨i + 1, by omega, by simp only [Nat.reduceEqDiff, T.get_put, ↓reduceIte], o', _, T.get_put_eq _ _ _, ?_, ho'⟩
              rw [graphL_succ, hfound, if_pos rfl, List.map_append]
              exact p3.same (Nat.le_refl _) fun id h => T.get_put_ne _ _ _ (by have := ho' id h; omega)
            · have hbeq : (((bs[j] % 49 : Nat) : Int) == ((i / k * 7 + i % k : Nat) : Int)) = false := by
                rw [beq_eq_false_iff_ne]; intro h; exact hit (by exact_mod_cast h)
              rw [decide_eq_false hit, Bool.false_or] at hhit
              repeat (first
      | with_reducible first | apply ops_end | apply d_end | apply k_seq | apply k_seq_ret | apply k_seq_exit | apply k_block | apply k_block_ret | apply k_block_here | apply c_seq | apply c_block | apply c_region | apply c_skip | apply c_ret | apply c_exit | apply c_loop | apply k_loop_exit | apply k_loop_ret
      | (with_reducible apply k_block_on
         · decide)
      | ((first
          | (with_reducible apply ops_do
             · rfl)
          | (with_reducible apply d_same
             · rfl
             · rfl))
         · (simp only [Nat.reduceEqDiff, opA, val, opdA, opdO, T.get_put, ↓reduceIte, Nat.add_assoc, Nat.reduceAdd, Nat.left_eq_add, Nat.add_eq_left, Nat.add_left_cancel_iff, Nat.add_zero, plainN, omap, Option.map_some, Option.bind_some, Nat.le_add_right, Nat.le_refl, binA, intBinA, loadV, readA, storeV, writeA, fieldAddrA, indexAddrA, lenA, builtinA, newA, unA, packA, if_true, and_self, and_true, true_and, Value.cells, Int.toNat_natCast, decide_true, decide_false, cond_true, cond_false, h6, k1, k3, k4, k5, fd24_1, ty22, hta, un22, sz5, hb, ty5, g1, g3, convA, un5, un3, hcb, h49, hm49, hk0', hdiv, hmod, hm7, hadd, hbeq, hw]; rfl)
         · rfl
         try (· rfl))
      | ((first
          | (with_reducible apply d_do
             · rfl
             · rfl)
          | (with_reducible apply d_quiet
             · rfl
             · rfl
             · rfl))
         · (simp only [Nat.reduceEqDiff, opA, val, opdA, opdO, T.get_put, ↓reduceIte, Nat.add_assoc, Nat.reduceAdd, Nat.left_eq_add, Nat.add_eq_left, Nat.add_left_cancel_iff, Nat.add_zero, plainN, omap, Option.map_some, Option.bind_some, Nat.le_add_right, Nat.le_refl, binA, intBinA, loadV, readA, storeV, writeA, fieldAddrA, indexAddrA, lenA, builtinA, newA, unA, packA, if_true, and_self, and_true, true_and, Value.cells, Int.toNat_natCast, decide_true, decide_false, cond_true, cond_false, h6, k1, k3, k4, k5, fd24_1, ty22, hta, un22, sz5, hb, ty5, g1, g3, convA, un5, un3, hcb, h49, hm49, hk0', hdiv, hmod, hm7, hadd, hbeq, hw]; rfl)
         first
         | · rfl
         | (· (simp only [Nat.reduceEqDiff, loadBlk, opdA, T.get_put, ↓reduceIte, h6, k1, k3, k4, k5, fd24_1, ty22, hta, un22, sz5, hb, ty5, g1, g3, convA, un5, un3, hcb, h49, hm49, hk0', hdiv, hmod, hm7, hadd, hbeq, hw]; rfl)
            · rfl))
      | ((first
          | with_reducible apply ops_skipG
          | (with_reducible apply d_skip
             · rfl))
         · rfl
         · rfl
         · (simp only [Nat.reduceEqDiff, T.get_put, ↓reduceIte, h6, k1, k3, k4, k5, fd24_1, ty22, hta, un22, sz5, hb, ty5, g1, g3, convA, un5, un3, hcb, h49, hm49, hk0', hdiv, hmod, hm7, hadd, hbeq, hw]; rfl)
         · (simp only [decide_true, decide_false, h6, k1, k3, k4, k5, fd24_1, ty22, hta, un22, sz5, hb, ty5, g1, g3, convA, un5, un3, hcb, h49, hm49, hk0', hdiv, hmod, hm7, hadd, hbeq, hw, bt_tf, bt_ft, bt_tt, bt_ff]; done)
         · rfl)
      | ((first
          | with_reducible apply ops_doG
          | (with_reducible apply d_sameG
             · rfl))
         · rfl
         · rfl
         · (simp only [Nat.reduceEqDiff, T.get_put, ↓reduceIte, h6, k1, k3, k4, k5, fd24_1, ty22, hta, un22, sz5, hb, ty5, g1, g3, convA, un5, un3, hcb, h49, hm49, hk0', hdiv, hmod, hm7, hadd, hbeq, hw]; rfl)
         · (simp only [decide_true, decide_false, h6, k1, k3, k4, k5, fd24_1, ty22, hta, un22, sz5, hb, ty5, g1, g3, convA, un5, un3, hcb, h49, hm49, hk0', hdiv, hmod, hm7, hadd, hbeq, hw, bt_tf, bt_ft, bt_tt, bt_ff]; done)
         · (simp only [Nat.reduceEqDiff, opA, val, opdA, opdO, T.get_put, ↓reduceIte, Nat.add_assoc, Nat.reduceAdd, Nat.left_eq_add, Nat.add_eq_left, Nat.add_left_cancel_iff, Nat.add_zero, plainN, omap, Option.map_some, Option.bind_some, Nat.le_add_right, Nat.le_refl, binA, intBinA, loadV, readA, storeV, writeA, fieldAddrA, indexAddrA, lenA, builtinA, newA, unA, packA, if_true, and_self, and_true, true_and, Value.cells, Int.toNat_natCast, decide_true, decide_false, cond_true, cond_false, h6, k1, k3, k4, k5, fd24_1, ty22, hta, un22, sz5, hb, ty5, g1, g3, convA, un5, un3, hcb, h49, hm49, hk0', hdiv, hmod, hm7, hadd, hbeq, hw]; rfl)
         · rfl
         try (· rfl))
      | (with_reducible apply c_if
         · (simp only [Nat.reduceEqDiff, opdA, opdO, T.get_put, ↓reduceIte, Nat.add_assoc, Nat.reduceAdd, Nat.left_eq_add, Nat.add_eq_left, Nat.add_left_cancel_iff, Nat.add_zero, plainN, omap, Option.map_some, Option.bind_some, Nat.le_add_right, Nat.le_refl, decide_true, decide_false, h6, k1, k3, k4, k5, fd24_1, ty22, hta, un22, sz5, hb, ty5, g1, g3, convA, un5, un3, hcb, h49, hm49, hk0', hdiv, hmod, hm7, hadd, hbeq, hw]; rfl)
         with_reducible first | apply if_t | apply if_f))
              intro _ _
              exact k_loop_next (m' := m2 - 1) (by omega) ⟨rfl, j + 1, by omega, by simp only [Nat.reduceEqDiff, T.get_put, ↓reduceIte], hhit⟩
          · have hno : hitB k bs i = false := by rw [← hhit, List.drop_eq_nil_of_le (by rw [List.length_take]; omega)]; rfl
            repeat (first
      | with_reducible first | apply ops_end | apply d_end | apply k_seq | apply k_seq_ret | apply k_seq_exit | apply k_block | apply k_block_ret | apply k_block_here | apply c_seq | apply c_block | apply c_region | apply c_skip | apply c_ret | apply c_exit | apply c_loop | apply k_loop_exit | apply k_loop_ret
      | (with_reducible apply k_block_on
         · decide)
      | ((first
          | (with_reducible apply ops_do
             · rfl)
          | (with_reducible apply d_same
             · rfl
             · rfl))
         · (simp only [Nat.reduceEqDiff, opA, val, opdA, opdO, T.get_put, ↓reduceIte, Nat.add_assoc, Nat.reduceAdd, Nat.left_eq_add, Nat.add_eq_left, Nat.add_left_cancel_iff, Nat.add_zero, plainN, omap, Option.map_some, Option.bind_some, Nat.le_add_right, Nat.le_refl, binA, intBinA, loadV, readA, storeV, writeA, fieldAddrA, indexAddrA, lenA, builtinA, newA, unA, packA, if_true, and_self, and_true, true_and, Value.cells, Int.toNat_natCast, decide_true, decide_false, cond_true, cond_false, h6, k1, fd24_1, ty22, hta, un22, hjl, hj40]; rfl)
         · rfl
         try (· rfl))
      | ((first
          | (with_reducible apply d_do
             · rfl
             · rfl)
          | (with_reducible apply d_quiet
             · rfl
             · rfl
             · rfl))
         · (simp only [Nat.reduceEqDiff, opA, val, opdA, opdO, T.get_put, ↓reduceIte, Nat.add_assoc, Nat.reduceAdd, Nat.left_eq_add, Nat.add_eq_left, Nat.add_left_cancel_iff, Nat.add_zero, plainN, omap, Option.map_some, Option.bind_some, Nat.le_add_right, Nat.le_refl, binA, intBinA, loadV, readA, storeV, writeA, fieldAddrA, indexAddrA, lenA, builtinA, newA, unA, packA, if_true, and_self, and_true, true_and, Value.cells, Int.toNat_natCast, decide_true, decide_false, cond_true, cond_false, h6, k1, fd24_1, ty22, hta, un22, hjl, hj40]; rfl)
         first
         | · rfl
         | (· (simp only [Nat.reduceEqDiff, loadBlk, opdA, T.get_put, ↓reduceIte, h6, k1, fd24_1, ty22, hta, un22, hjl, hj40]; rfl)
            · rfl))
      | ((first
          | with_reducible apply ops_skipG
          | (with_reducible apply d_skip
             · rfl))
         · rfl
         · rfl
         · (simp only [Nat.reduceEqDiff, T.get_put, ↓reduceIte, h6, k1, fd24_1, ty22, hta, un22, hjl, hj40]; rfl)
         · (simp only [decide_true, decide_false, h6, k1, fd24_1, ty22, hta, un22, hjl, hj40, bt_tf, bt_ft, bt_tt, bt_ff]; done)
         · rfl)
      | ((first
          | with_reducible apply ops_doG
          | (with_reducible apply d_sameG
             · rfl))
         · rfl
         · rfl
         · (simp only [Nat.reduceEqDiff, T.get_put, ↓reduceIte, h6, k1, fd24_1, ty22, hta, un22, hjl, hj40]; rfl)
         · (simp only [decide_true, decide_false, h6, k1, fd24_1, ty22, hta, un22, hjl, hj40, bt_tf, bt_ft, bt_tt, bt_ff]; done)
         · (simp only [Nat.reduceEqDiff, opA, val, opdA, opdO, T.get_put, ↓reduceIte, Nat.add_assoc, Nat.reduceAdd, Nat.left_eq_add, Nat.add_eq_left, Nat.add_left_cancel_iff, Nat.add_zero, plainN, omap, Option.map_some, Option.bind_some, Nat.le_add_right, Nat.le_refl, binA, intBinA, loadV, readA, storeV, writeA, fieldAddrA, indexAddrA, lenA, builtinA, newA, unA, packA, if_true, and_self, and_true, true_and, Value.cells, Int.toNat_natCast, decide_true, decide_false, cond_true, cond_false, h6, k1, fd24_1, ty22, hta, un22, hjl, hj40]; rfl)
         · rfl
         try (· rfl))
      | (with_reducible apply c_if
         · (simp only [Nat.reduceEqDiff, opdA, opdO, T.get_put, ↓reduceIte, Nat.add_assoc, Nat.reduceAdd, Nat.left_eq_add, Nat.add_eq_left, Nat.add_left_cancel_iff, Nat.add_zero, plainN, omap, Option.map_some, Option.bind_some, Nat.le_add_right, Nat.le_refl, decide_true, decide_false, h6, k1, fd24_1, ty22, hta, un22, hjl, hj40]; rfl)
         with_reducible first | apply if_t | apply if_f))
            intro _ _
            repeat (first
      | with_reducible first | apply ops_end | apply d_end | apply k_seq | apply k_seq_ret | apply k_seq_exit | apply k_block | apply k_block_ret | apply k_block_here | apply c_seq | apply c_block | apply c_region | apply c_skip | apply c_ret | apply c_exit | apply c_loop | apply k_loop_exit | apply k_loop_ret
      | (with_reducible apply k_block_on
         · decide)
      | ((first
          | (with_reducible apply ops_do
             · rfl)
          | (with_reducible apply d_same
             · rfl
             · rfl))
         · (simp only [Nat.reduceEqDiff, opA, val, opdA, opdO, T.get_put, ↓reduceIte, Nat.add_assoc, Nat.reduceAdd, Nat.left_eq_add, Nat.add_eq_left, Nat.add_left_cancel_iff, Nat.add_zero, plainN, omap, Option.map_some, Option.bind_some, Nat.le_add_right, Nat.le_refl, binA, intBinA, loadV, readA, storeV, writeA, fieldAddrA, indexAddrA, lenA, builtinA, newA, unA, packA, if_true, and_self, and_true, true_and, Value.cells, Int.toNat_natCast, decide_true, decide_false, cond_true, cond_false, k5, hwi]; rfl)
         · rfl
         try (· rfl))
      | ((first
          | (with_reducible apply d_do
             · rfl
             · rfl)
          | (with_reducible apply d_quiet
             · rfl
             · rfl
             · rfl))
         · (simp only [Nat.reduceEqDiff, opA, val, opdA, opdO, T.get_put, ↓reduceIte, Nat.add_assoc, Nat.reduceAdd, Nat.left_eq_add, Nat.add_eq_left, Nat.add_left_cancel_iff, Nat.add_zero, plainN, omap, Option.map_some, Option.bind_some, Nat.le_add_right, Nat.le_refl, binA, intBinA, loadV, readA, storeV, writeA, fieldAddrA, indexAddrA, lenA, builtinA, newA, unA, packA, if_true, and_self, and_true, true_and, Value.cells, Int.toNat_natCast, decide_true, decide_false, cond_true, cond_false, k5, hwi]; rfl)
         first
         | · rfl
         | (· (simp only [Nat.reduceEqDiff, loadBlk, opdA, T.get_put, ↓reduceIte, k5, hwi]; rfl)
            · rfl))
      | ((first
          | with_reducible apply ops_skipG
          | (with_reducible apply d_skip
             · rfl))
         · rfl
         · rfl
         · (simp only [Nat.reduceEqDiff, T.get_put, ↓reduceIte, k5, hwi]; rfl)
         · (simp only [decide_true, decide_false, k5, hwi, bt_tf, bt_ft, bt_tt, bt_ff]; done)
         · rfl)
      | ((first
          | with_reducible apply ops_doG
          | (with_reducible apply d_sameG
             · rfl))
         · rfl
         · rfl
         · (simp only [Nat.reduceEqDiff, T.get_put, ↓reduceIte, k5, hwi]; rfl)
         · (simp only [decide_true, decide_false, k5, hwi, bt_tf, bt_ft, bt_tt, bt_ff]; done)
         · (simp only [Nat.reduceEqDiff, opA, val, opdA, opdO, T.get_put, ↓reduceIte, Nat.add_assoc, Nat.reduceAdd, Nat.left_eq_add, Nat.add_eq_left, Nat.add_left_cancel_iff, Nat.add_zero, plainN, omap, Option.map_some, Option.bind_some, Nat.le_add_right, Nat.le_refl, binA, intBinA, loadV, readA, storeV, writeA, fieldAddrA, indexAddrA, lenA, builtinA, newA, unA, packA, if_true, and_self, and_true, true_and, Value.cells, Int.toNat_natCast, decide_true, decide_false, cond_true, cond_false, k5, hwi]; rfl)
         · rfl
         try (· rfl))
      | (with_reducible apply c_if
         · (simp only [Nat.reduceEqDiff, opdA, opdO, T.get_put, ↓reduceIte, Nat.add_assoc, Nat.reduceAdd, Nat.left_eq_add, Nat.add_eq_left, Nat.add_left_cancel_iff, Nat.add_zero, plainN, omap, Option.map_some, Option.bind_some, Nat.le_add_right, Nat.le_refl, decide_true, decide_false, k5, hwi]; rfl)
         with_reducible first | apply if_t | apply if_f))
            intro _ _
            refine k_loop_next (m' := m - 1) (by omega) ⟨i + 1, by omega, by simp only [Nat.reduceEqDiff, T.get_put, ↓reduceIte], o, ev, hbox, ?_, ho⟩
            rw [graphL_succ, hno]; simpa using hown
        · have hno : hitB k bs i = false := by rw [← hhit, List.drop_eq_nil_of_le (by rw [List.length_take]; simp at hjl; omega)]; rfl
          repeat (first
      | with_reducible first | apply ops_end | apply d_end | apply k_seq | apply k_seq_ret | apply k_seq_exit | apply k_block | apply k_block_ret | apply k_block_here | apply c_seq | apply c_block | apply c_region | apply c_skip | apply c_ret | apply c_exit | apply c_loop | apply k_loop_exit | apply k_loop_ret
      | (with_reducible apply k_block_on
         · decide)
      | ((first
          | (with_reducible apply ops_do
             · rfl)
          | (with_reducible apply d_same
             · rfl
             · rfl))
         · (simp only [Nat.reduceEqDiff, opA, val, opdA, opdO, T.get_put, ↓reduceIte, Nat.add_assoc, Nat.reduceAdd, Nat.left_eq_add, Nat.add_eq_left, Nat.add_left_cancel_iff, Nat.add_zero, plainN, omap, Option.map_some, Option.bind_some, Nat.le_add_right, Nat.le_refl, binA, intBinA, loadV, readA, storeV, writeA, fieldAddrA, indexAddrA, lenA, builtinA, newA, unA, packA, if_true, and_self, and_true, true_and, Value.cells, Int.toNat_natCast, decide_true, decide_false, cond_true, cond_false, h6, k1, fd24_1, ty22, hta, un22, hjl]; rfl)
         · rfl
         try (· rfl))
      | ((first
          | (with_reducible apply d_do
             · rfl
             · rfl)
          | (with_reducible apply d_quiet
             · rfl
             · rfl
             · rfl))
         · (simp only [Nat.reduceEqDiff, opA, val, opdA, opdO, T.get_put, ↓reduceIte, Nat.add_assoc, Nat.reduceAdd, Nat.left_eq_add, Nat.add_eq_left, Nat.add_left_cancel_iff, Nat.add_zero, plainN, omap, Option.map_some, Option.bind_some, Nat.le_add_right, Nat.le_refl, binA, intBinA, loadV, readA, storeV, writeA, fieldAddrA, indexAddrA, lenA, builtinA, newA, unA, packA, if_true, and_self, and_true, true_and, Value.cells, Int.toNat_natCast, decide_true, decide_false, cond_true, cond_false, h6, k1, fd24_1, ty22, hta, un22, hjl]; rfl)
         first
         | · rfl
         | (· (simp only [Nat.reduceEqDiff, loadBlk, opdA, T.get_put, ↓reduceIte, h6, k1, fd24_1, ty22, hta, un22, hjl]; rfl)
            · rfl))
      | ((first
          | with_reducible apply ops_skipG
          | (with_reducible apply d_skip
             · rfl))
         · rfl
         · rfl
         · (simp only [Nat.reduceEqDiff, T.get_put, ↓reduceIte, h6, k1, fd24_1, ty22, hta, un22, hjl]; rfl)
         · (simp only [decide_true, decide_false, h6, k1, fd24_1, ty22, hta, un22, hjl, bt_tf, bt_ft, bt_tt, bt_ff]; done)
         · rfl)
      | ((first
          | with_reducible apply ops_doG
          | (with_reducible apply d_sameG
             · rfl))
         · rfl
         · rfl
         · (simp only [Nat.reduceEqDiff, T.get_put, ↓reduceIte, h6, k1, fd24_1, ty22, hta, un22, hjl]; rfl)
         · (simp only [decide_true, decide_false, h6, k1, fd24_1, ty22, hta, un22, hjl, bt_tf, bt_ft, bt_tt, bt_ff]; done)
         · (simp only [Nat.reduceEqDiff, opA, val, opdA, opdO, T.get_put, ↓reduceIte, Nat.add_assoc, Nat.reduceAdd, Nat.left_eq_add, Nat.add_eq_left, Nat.add_left_cancel_iff, Nat.add_zero, plainN, omap, Option.map_some, Option.bind_some, Nat.le_add_right, Nat.le_refl, binA, intBinA, loadV, readA, storeV, writeA, fieldAddrA, indexAddrA, lenA, builtinA, newA, unA, packA, if_true, and_self, and_true, true_and, Value.cells, Int.toNat_natCast, decide_true, decide_false, cond_true, cond_false, h6, k1, fd24_1, ty22, hta, un22, hjl]; rfl)
         · rfl
         try (· rfl))
      | (with_reducible apply c_if
         · (simp only [Nat.reduceEqDiff, opdA, opdO, T.get_put, ↓reduceIte, Nat.add_assoc, Nat.reduceAdd, Nat.left_eq_add, Nat.add_eq_left, Nat.add_left_cancel_iff, Nat.add_zero, plainN, omap, Option.map_some, Option.bind_some, Nat.le_add_right, Nat.le_refl, decide_true, decide_false, h6, k1, fd24_1, ty22, hta, un22, hjl]; rfl)
         with_reducible first | apply if_t | apply if_f))
          intro _ _
          repeat (first
      | with_reducible first | apply ops_end | apply d_end | apply k_seq | apply k_seq_ret | apply k_seq_exit | apply k_block | apply k_block_ret | apply k_block_here | apply c_seq | apply c_block | apply c_region | apply c_skip | apply c_ret | apply c_exit | apply c_loop | apply k_loop_exit | apply k_loop_ret
      | (with_reducible apply k_block_on
         · decide)
      | ((first
          | (with_reducible apply ops_do
             · rfl)
          | (with_reducible apply d_same
             · rfl
             · rfl))
         · (simp only [Nat.reduceEqDiff, opA, val, opdA, opdO, T.get_put, ↓reduceIte, Nat.add_assoc, Nat.reduceAdd, Nat.left_eq_add, Nat.add_eq_left, Nat.add_left_cancel_iff, Nat.add_zero, plainN, omap, Option.map_some, Option.bind_some, Nat.le_add_right, Nat.le_refl, binA, intBinA, loadV, readA, storeV, writeA, fieldAddrA, indexAddrA, lenA, builtinA, newA, unA, packA, if_true, and_self, and_true, true_and, Value.cells, Int.toNat_natCast, decide_true, decide_false, cond_true, cond_false, k5, hwi]; rfl)
         · rfl
         try (· rfl))
      | ((first
          | (with_reducible apply d_do
             · rfl
             · rfl)
          | (with_reducible apply d_quiet
             · rfl
             · rfl
             · rfl))
         · (simp only [Nat.reduceEqDiff, opA, val, opdA, opdO, T.get_put, ↓reduceIte, Nat.add_assoc, Nat.reduceAdd, Nat.left_eq_add, Nat.add_eq_left, Nat.add_left_cancel_iff, Nat.add_zero, plainN, omap, Option.map_some, Option.bind_some, Nat.le_add_right, Nat.le_refl, binA, intBinA, loadV, readA, storeV, writeA, fieldAddrA, indexAddrA, lenA, builtinA, newA, unA, packA, if_true, and_self, and_true, true_and, Value.cells, Int.toNat_natCast, decide_true, decide_false, cond_true, cond_false, k5, hwi]; rfl)
         first
         | · rfl
         | (· (simp only [Nat.reduceEqDiff, loadBlk, opdA, T.get_put, ↓reduceIte, k5, hwi]; rfl)
            · rfl))
      | ((first
          | with_reducible apply ops_skipG
          | (with_reducible apply d_skip
             · rfl))
         · rfl
         · rfl
         · (simp only [Nat.reduceEqDiff, T.get_put, ↓reduceIte, k5, hwi]; rfl)
         · (simp only [decide_true, decide_false, k5, hwi, bt_tf, bt_ft, bt_tt, bt_ff]; done)
         · rfl)
      | ((first
          | with_reducible apply ops_doG
          | (with_reducible apply d_sameG
             · rfl))
         · rfl
         · rfl
         · (simp only [Nat.reduceEqDiff, T.get_put, ↓reduceIte, k5, hwi]; rfl)
         · (simp only [decide_true, decide_false, k5, hwi, bt_tf, bt_ft, bt_tt, bt_ff]; done)
         · (simp only [Nat.reduceEqDiff, opA, val, opdA, opdO, T.get_put, ↓reduceIte, Nat.add_assoc, Nat.reduceAdd, Nat.left_eq_add, Nat.add_eq_left, Nat.add_left_cancel_iff, Nat.add_zero, plainN, omap, Option.map_some, Option.bind_some, Nat.le_add_right, Nat.le_refl, binA, intBinA, loadV, readA, storeV, writeA, fieldAddrA, indexAddrA, lenA, builtinA, newA, unA, packA, if_true, and_self, and_true, true_and, Value.cells, Int.toNat_natCast, decide_true, decide_false, cond_true, cond_false, k5, hwi]; rfl)
         · rfl
         try (· rfl))
      | (with_reducible apply c_if
         · (simp only [Nat.reduceEqDiff, opdA, opdO, T.get_put, ↓reduceIte, Nat.add_assoc, Nat.reduceAdd, Nat.left_eq_add, Nat.add_eq_left, Nat.add_left_cancel_iff, Nat.add_zero, plainN, omap, Option.map_some, Option.bind_some, Nat.le_add_right, Nat.le_refl, decide_true, decide_false, k5, hwi]; rfl)
         with_reducible first | apply if_t | apply if_f))
          intro _ _
          refine k_loop_next (m' := m - 1) (by omega) ⟨i + 1, by omega, by simp only [Nat.reduceEqDiff, T.get_put, ↓reduceIte], o, ev, hbox, ?_, ho⟩
          rw [graphL_succ, hno]; simpa using hown
    · have hik : i = k * k := by omega
      subst hik
      repeat (first
      | with_reducible first | apply ops_end | apply d_end | apply k_seq | apply k_seq_ret | apply k_seq_exit | apply k_block | apply k_block_ret | apply k_block_here | apply c_seq | apply c_block | apply c_region | apply c_skip | apply c_ret | apply c_exit | apply c_loop | apply k_loop_exit | apply k_loop_ret
      | (with_reducible apply k_block_on
         · decide)
      | ((first
          | (with_reducible apply ops_do
             · rfl)
          | (with_reducible apply d_same
             · rfl
             · rfl))
         · (simp only [Nat.reduceEqDiff, opA, val, opdA, opdO, T.get_put, ↓reduceIte, Nat.add_assoc, Nat.reduceAdd, Nat.left_eq_add, Nat.add_eq_left, Nat.add_left_cancel_iff, Nat.add_zero, plainN, omap, Option.map_some, Option.bind_some, Nat.le_add_right, Nat.le_refl, binA, intBinA, loadV, readA, storeV, writeA, fieldAddrA, indexAddrA, lenA, builtinA, newA, unA, packA, if_true, and_self, and_true, true_and, Value.cells, Int.toNat_natCast, decide_true, decide_false, cond_true, cond_false, h5, k3, hwk, hlt]; rfl)
         · rfl
         try (· rfl))
      | ((first
          | (with_reducible apply d_do
             · rfl
             · rfl)
          | (with_reducible apply d_quiet
             · rfl
             · rfl
             · rfl))
         · (simp only [Nat.reduceEqDiff, opA, val, opdA, opdO, T.get_put, ↓reduceIte, Nat.add_assoc, Nat.reduceAdd, Nat.left_eq_add, Nat.add_eq_left, Nat.add_left_cancel_iff, Nat.add_zero, plainN, omap, Option.map_some, Option.bind_some, Nat.le_add_right, Nat.le_refl, binA, intBinA, loadV, readA, storeV, writeA, fieldAddrA, indexAddrA, lenA, builtinA, newA, unA, packA, if_true, and_self, and_true, true_and, Value.cells, Int.toNat_natCast, decide_true, decide_false, cond_true, cond_false, h5, k3, hwk, hlt]; rfl)
         first
         | · rfl
         | (· (simp only [Nat.reduceEqDiff, loadBlk, opdA, T.get_put, ↓reduceIte, h5, k3, hwk, hlt]; rfl)
            · rfl))
      | ((first
          | with_reducible apply ops_skipG
          | (with_reducible apply d_skip
             · rfl))
         · rfl
         · rfl
         · (simp only [Nat.reduceEqDiff, T.get_put, ↓reduceIte, h5, k3, hwk, hlt]; rfl)
         · (simp only [decide_true, decide_false, h5, k3, hwk, hlt, bt_tf, bt_ft, bt_tt, bt_ff]; done)
         · rfl)
      | ((first
          | with_reducible apply ops_doG
          | (with_reducible apply d_sameG
             · rfl))
         · rfl
         · rfl
         · (simp only [Nat.reduceEqDiff, T.get_put, ↓reduceIte, h5, k3, hwk, hlt]; rfl)
         · (simp only [decide_true, decide_false, h5, k3, hwk, hlt, bt_tf, bt_ft, bt_tt, bt_ff]; done)
         · (simp only [Nat.reduceEqDiff, opA, val, opdA, opdO, T.get_put, ↓reduceIte, Nat.add_assoc, Nat.reduceAdd, Nat.left_eq_add, Nat.add_eq_left, Nat.add_left_cancel_iff, Nat.add_zero, plainN, omap, Option.map_some, Option.bind_some, Nat.le_add_right, Nat.le_refl, binA, intBinA, loadV, readA, storeV, writeA, fieldAddrA, indexAddrA, lenA, builtinA, newA, unA, packA, if_true, and_self, and_true, true_and, Value.cells, Int.toNat_natCast, decide_true, decide_false, cond_true, cond_false, h5, k3, hwk, hlt]; rfl)
         · rfl
         try (· rfl))
      | (with_reducible apply c_if
         · (simp only [Nat.reduceEqDiff, opdA, opdO, T.get_put, ↓reduceIte, Nat.add_assoc, Nat.reduceAdd, Nat.left_eq_add, Nat.add_eq_left, Nat.add_left_cancel_iff, Nat.add_zero, plainN, omap, Option.map_some, Option.bind_some, Nat.le_add_right, Nat.le_refl, decide_true, decide_false, h5, k3, hwk, hlt]; rfl)
         with_reducible first | apply if_t | apply if_f))
      intro _ _
      have htb : t.hp.get (s.nx + 1) = some (.cells true 28 [.int .i64 0, .slice none 0 0]) := by rw [hA.get (by omega) (by omega)]; exact h3b
      obtain ⟨vb, vc, rfl⟩ := hown.shape
      have hl2 : ([Value.int .i64 (k : Int), .slice vb ((graphL k bs (k * k)).map encE).length vc] : List Value).length = 2 := rfl
      have hone : ([Value.int .i64 (k : Int), .slice vb ((graphL k bs (k * k)).map encE).length vc] : List Value).all Value.oneCell' = true := rfl
      have hlk : s.nx ≤ s.nx + 1 := Nat.le_succ _
      repeat (first
      | with_reducible first | apply ops_end | apply d_end | apply k_seq | apply k_seq_ret | apply k_seq_exit | apply k_block | apply k_block_ret | apply k_block_here | apply c_seq | apply c_block | apply c_region | apply c_skip | apply c_ret | apply c_exit | apply c_loop | apply k_loop_exit | apply k_loop_ret
      | (with_reducible apply k_block_on
         · decide)
      | ((first
          | (with_reducible apply ops_do
             · rfl)
          | (with_reducible apply d_same
             · rfl
             · rfl))
         · (simp only [Nat.reduceEqDiff, opA, val, opdA, opdO, T.get_put, ↓reduceIte, Nat.add_assoc, Nat.reduceAdd, Nat.left_eq_add, Nat.add_eq_left, Nat.add_left_cancel_iff, Nat.add_zero, plainN, omap, Option.map_some, Option.bind_some, Nat.le_add_right, Nat.le_refl, binA, intBinA, loadV, readA, storeV, writeA, fieldAddrA, indexAddrA, lenA, builtinA, newA, unA, packA, if_true, and_self, and_true, true_and, Value.cells, Int.toNat_natCast, decide_true, decide_false, cond_true, cond_false, k4, k2, ty28, sz28, hbox, htb, cutL, hone, hlk, List.drop_zero, List.toList_toArray]; rfl)
         · rfl
         try (· rfl))
      | ((first
          | (with_reducible apply d_do
             · rfl
             · rfl)
          | (with_reducible apply d_quiet
             · rfl
             · rfl
             · rfl))
         · (simp only [Nat.reduceEqDiff, opA, val, opdA, opdO, T.get_put, ↓reduceIte, Nat.add_assoc, Nat.reduceAdd, Nat.left_eq_add, Nat.add_eq_left, Nat.add_left_cancel_iff, Nat.add_zero, plainN, omap, Option.map_some, Option.bind_some, Nat.le_add_right, Nat.le_refl, binA, intBinA, loadV, readA, storeV, writeA, fieldAddrA, indexAddrA, lenA, builtinA, newA, unA, packA, if_true, and_self, and_true, true_and, Value.cells, Int.toNat_natCast, decide_true, decide_false, cond_true, cond_false, k4, k2, ty28, sz28, hbox, htb, cutL, hone, hlk, List.drop_zero, List.toList_toArray]; rfl)
         first
         | · rfl
         | (· (simp only [Nat.reduceEqDiff, loadBlk, opdA, T.get_put, ↓reduceIte, k4, k2, ty28, sz28, hbox, htb, cutL, hone, hlk, List.drop_zero, List.toList_toArray]; rfl)
            · rfl))
      | ((first
          | with_reducible apply ops_skipG
          | (with_reducible apply d_skip
             · rfl))
         · rfl
         · rfl
         · (simp only [Nat.reduceEqDiff, T.get_put, ↓reduceIte, k4, k2, ty28, sz28, hbox, htb, cutL, hone, hlk, List.drop_zero, List.toList_toArray]; rfl)
         · (simp only [decide_true, decide_false, k4, k2, ty28, sz28, hbox, htb, cutL, hone, hlk, List.drop_zero, List.toList_toArray, bt_tf, bt_ft, bt_tt, bt_ff]; done)
         · rfl)
      | ((first
          | with_reducible apply ops_doG
          | (with_reducible apply d_sameG
             · rfl))
         · rfl
         · rfl
         · (simp only [Nat.reduceEqDiff, T.get_put, ↓reduceIte, k4, k2, ty28, sz28, hbox, htb, cutL, hone, hlk, List.drop_zero, List.toList_toArray]; rfl)
         · (simp only [decide_true, decide_false, k4, k2, ty28, sz28, hbox, htb, cutL, hone, hlk, List.drop_zero, List.toList_toArray, bt_tf, bt_ft, bt_tt, bt_ff]; done)
         · (simp only [Nat.reduceEqDiff, opA, val, opdA, opdO, T.get_put, ↓reduceIte, Nat.add_assoc, Nat.reduceAdd, Nat.left_eq_add, Nat.add_eq_left, Nat.add_left_cancel_iff, Nat.add_zero, plainN, omap, Option.map_some, Option.bind_some, Nat.le_add_right, Nat.le_refl, binA, intBinA, loadV, readA, storeV, writeA, fieldAddrA, indexAddrA, lenA, builtinA, newA, unA, packA, if_true, and_self, and_true, true_and, Value.cells, Int.toNat_natCast, decide_true, decide_false, cond_true, cond_false, k4, k2, ty28, sz28, hbox, htb, cutL, hone, hlk, List.drop_zero, List.toList_toArray]; rfl)
         · rfl
         try (· rfl))
      | (with_reducible apply c_if
         · (simp only [Nat.reduceEqDiff, opdA, opdO, T.get_put, ↓reduceIte, Nat.add_assoc, Nat.reduceAdd, Nat.left_eq_add, Nat.add_eq_left, Nat.add_left_cancel_iff, Nat.add_zero, plainN, omap, Option.map_some, Option.bind_some, Nat.le_add_right, Nat.le_refl, decide_true, decide_false, k4, k2, ty28, sz28, hbox, htb, cutL, hone, hlk, List.drop_zero, List.toList_toArray]; rfl)
         with_reducible first | apply if_t | apply if_f))
      intro _
      (first
      | (with_reducible apply ret_i
         · (simp only [Nat.reduceEqDiff, omap, resA, opdA, opdO, T.get_put, ↓reduceIte, Nat.add_assoc, Nat.reduceAdd, Nat.left_eq_add, Nat.add_eq_left, Nat.add_left_cancel_iff, Nat.add_zero, plainN, omap, Option.map_some, Option.bind_some, Nat.le_add_right, Nat.le_refl, loadV, readA, packA, ty28, cutL, k2]; rfl))
      | (with_reducible apply ret_n
         · (simp only [Nat.reduceEqDiff, omap, resA, opdA, opdO, T.get_put, ↓reduceIte, Nat.add_assoc, Nat.reduceAdd, Nat.left_eq_add, Nat.add_eq_left, Nat.add_left_cancel_iff, Nat.add_zero, plainN, omap, Option.map_some, Option.bind_some, Nat.le_add_right, Nat.le_refl, loadV, readA, packA, ty28, cutL, k2]; rfl)))
      refine ⟨o, _, rfl, ?_, fun id h => by have := ho id h; omega⟩
      exact hown.same (Nat.le_refl _) fun id h => T.get_put_ne _ _ _ (by have := ho id h; omega)
end Go.Ev
