import Derived.Test.YthedojfbofcefaaDoorEvLaw1
import Derived.Test.YthedojfbofcefaaDoorEvG1
/- removable.of, graph.closure, graph.Closure, removable.hulls. -/
namespace Go.Ev
open Go Go.Proofs
set_option linter.unusedSimpArgs false
set_option linter.unusedVariables false
set_option maxRecDepth 100000
set_option maxHeartbeats 4000000
attribute [local irreducible] wpOps wpC wpD wpF wpLoop wpCall seqK blockK loopK retK T.put T.get T.setF

theorem f41_spec [Sorts Tryd.prog] (l : List Int) (lv : Value) (s : HS) (hl : Sl s 1 lv (l.map encI)) (hll : l.length < 1000000000) (hin : ∀ x ∈ l, 0 ≤ x ∧ x < 64) :
    wpF Tryd.prog s.nx 41 [lv] s (fun v s' => v = .int .u64 (bitsN l) ∧ s' = s) := by
  obtain ⟨b, c, rfl⟩ := hl.shape
  refine wpF_of Tryd.func41 rfl rfl rfl rfl (Nat.le_refl _) ?_
  simp only [paramsA]
  repeat (first
  | with_reducible first | apply ops_end | apply d_end | apply k_seq | apply k_seq_ret | apply k_seq_exit | apply k_block | apply k_block_ret | apply k_block_here | apply c_seq | apply c_block | apply c_region | apply c_skip | apply c_ret | apply c_exit | apply c_loop | apply k_loop_exit | apply k_loop_ret | apply if_t | apply if_f
  | (with_reducible apply k_block_on
     · decide)
  | ((with_reducible first | apply xOp | apply xDr | apply xIf); rfl; (simp only [Nat.reduceEqDiff, Nat.reduceAdd, ↓reduceIte, xBB, stG, opA, val, opdA, opdO, plainN, omap, binA, intBinA, loadV, readA, storeV, writeA, fieldAddrA, indexAddrA, lenA, builtinA, newA, unA, packA, Value.cells, un35]; rfl); first | rfl | exact ⟨rfl, rfl, rfl⟩))
  refine loop_k (lk' := s.nx) (s0 := s) (fun m f t => t = s ∧ ∃ k : Nat, k + m = l.length ∧ f.get 8 = some (.int .i64 k) ∧ f.get 3 = some (.int .u64 (bitsN (l.take k)))) l.length (Nat.le_refl _) (Nat.le_refl _) ?_ (Ab.refl _ _) ?_
  · exact ⟨rfl, 0, by omega, by simp only [Nat.reduceEqDiff, T.get_put, ↓reduceIte]; rfl, by simp only [Nat.reduceEqDiff, T.get_put, ↓reduceIte]; rfl⟩
  · rintro m f t ⟨rfl, k, hk, h8, h3⟩ hA hF
    (have k6 := hF 6 (by rfl); simp only [Nat.reduceEqDiff, T.get_put, ↓reduceIte] at k6; have k7 := hF 7 (by rfl); simp only [Nat.reduceEqDiff, T.get_put, ↓reduceIte] at k7)
    by_cases hlt : (k : Int) < ((l.map encI).length : Int)
    · have hlt' : k < l.length := by simp at hlt; omega
      obtain ⟨id, off, wr, e, cs, rfl, g1, g2, g3, g4⟩ := hl.at (i := k) (x := encI l[k]) (by simp [hlt'])
      have hb : (0 : Int) ≤ (k : Int) ∧ (k : Int) < ((l.map encI).length : Int) := ⟨by omega, hlt⟩
      have hw : IntKind.i64.wrap ((k : Int) + 1) = ((k + 1 : Nat) : Int) := by rw [IntWalk.i64_in _ (by omega)]; rfl
      obtain ⟨q1, q2⟩ := hin l[k] (List.getElem_mem hlt')
      obtain ⟨i, hi⟩ : ∃ i : Nat, l[k] = (i : Int) := ⟨l[k].toNat, by omega⟩
      simp only [encI] at g3
      rw [hi] at g3
      have hsh := shl_u64 (k := i) (by omega)
      have hlt3 : bitsN (l.take k) < 2 ^ 64 := bitsN_lt fun x hx => hin x (List.mem_of_mem_take hx)
      have hor := or_u64 (a := bitsN (l.take k)) (b := 2 ^ i) hlt3 (pow_lt64 (by omega))
      repeat (first
  | with_reducible first | apply ops_end | apply d_end | apply k_seq | apply k_seq_ret | apply k_seq_exit | apply k_block | apply k_block_ret | apply k_block_here | apply c_seq | apply c_block | apply c_region | apply c_skip | apply c_ret | apply c_exit | apply c_loop | apply k_loop_exit | apply k_loop_ret | apply if_t | apply if_f
  | (with_reducible apply k_block_on
     · decide)
  | ((with_reducible first | apply xOp | apply xDr | apply xIf); rfl; (simp only [Nat.reduceEqDiff, Nat.reduceAdd, ↓reduceIte, xBB, stG, opA, val, opdA, opdO, plainN, omap, binA, intBinA, loadV, readA, storeV, writeA, fieldAddrA, indexAddrA, lenA, builtinA, newA, unA, packA, Value.cells, h8, h3, k6, k7, un35, hlt, sz3, ty3, hb, g1, g3, hsh, hor, hw]; rfl); first | rfl | exact ⟨rfl, rfl, rfl⟩))
      intro _ _
      refine k_loop_next (m' := m - 1) (by omega) ⟨rfl, k + 1, by omega, by simp only [Nat.reduceEqDiff, T.get_put, ↓reduceIte], ?_⟩
      simp only [Nat.reduceEqDiff, T.get_put, ↓reduceIte]
      rw [List.take_succ_eq_append_getElem hlt', bitsN_snoc, hi, Int.toNat_natCast]
    · repeat (first
  | with_reducible first | apply ops_end | apply d_end | apply k_seq | apply k_seq_ret | apply k_seq_exit | apply k_block | apply k_block_ret | apply k_block_here | apply c_seq | apply c_block | apply c_region | apply c_skip | apply c_ret | apply c_exit | apply c_loop | apply k_loop_exit | apply k_loop_ret | apply if_t | apply if_f
  | (with_reducible apply k_block_on
     · decide)
  | ((with_reducible first | apply xOp | apply xDr | apply xIf); rfl; (simp only [Nat.reduceEqDiff, Nat.reduceAdd, ↓reduceIte, xBB, stG, opA, val, opdA, opdO, plainN, omap, binA, intBinA, loadV, readA, storeV, writeA, fieldAddrA, indexAddrA, lenA, builtinA, newA, unA, packA, Value.cells, h8, k7, hlt]; rfl); first | rfl | exact ⟨rfl, rfl, rfl⟩))
      intro _ _
      repeat (first
  | with_reducible first | apply ops_end | apply d_end | apply k_seq | apply k_seq_ret | apply k_seq_exit | apply k_block | apply k_block_ret | apply k_block_here | apply c_seq | apply c_block | apply c_region | apply c_skip | apply c_ret | apply c_exit | apply c_loop | apply k_loop_exit | apply k_loop_ret | apply if_t | apply if_f
  | (with_reducible apply k_block_on
     · decide)
  | ((with_reducible first | apply xOp | apply xDr | apply xIf); rfl; (simp only [Nat.reduceEqDiff, Nat.reduceAdd, ↓reduceIte, xBB, stG, opA, val, opdA, opdO, plainN, omap, binA, intBinA, loadV, readA, storeV, writeA, fieldAddrA, indexAddrA, lenA, builtinA, newA, unA, packA, Value.cells, h3]; rfl); first | rfl | exact ⟨rfl, rfl, rfl⟩))
      intro _
      ((with_reducible first | apply ret_i | apply ret_n); (simp only [Nat.reduceEqDiff, Nat.reduceAdd, ↓reduceIte, xBB, resA, opdA, opdO, plainN, omap, val, loadV, readA, packA]; rfl))
      refine ⟨?_, rfl⟩
      rw [List.take_of_length_le (by simp at hlt; omega)]; rfl

/-- Which nodes a node reaches, as marks. -/
def SeenOf (n : Int) (es : List (Int × Int)) (k : Nat) (seen : List Bool) : Prop := seen.length = n.toNat ∧ ∀ x, Mk seen x ↔ Rch es k x

theorem f62_spec [Sorts Tryd.prog] (n : Int) (es : List (Int × Int)) (ev : Value) (s : HS) (hs : Sl s 2 ev (es.map encE)) (hg : GoodG n es) :
    wpF Tryd.prog s.nx 62 [vG n ev] s (fun v s' => ∃ (ob : Nat) (vs : List Value), s.nx ≤ ob ∧ Own s' 95 1 (some ob) v (vs.map fun r => [r]) ∧ vs.length = n.toNat ∧
      ∀ (i : Nat) (r : Value), vs[i]? = some r → ∃ (o : Nat) (seen : List Bool), s.nx ≤ o ∧ Own s' 4 1 (some o) r (seen.map encB) ∧ SeenOf n es i seen) := by
  obtain ⟨b, c, rfl⟩ := hs.shape
  have hg0 := hg
  obtain ⟨hn0, hn1, hlen, hins⟩ := hg
  refine wpF_of Tryd.func62 rfl rfl rfl rfl (Nat.le_refl _) ?_
  simp only [paramsA, vG]
  have hmk : ∀ s : HS, makeSliceA Tryd.prog 100 (.int .i64 n) (.int .i64 n) s = some (.slice (some ⟨s.nx, 0, none⟩) n.toNat n.toNat, { hp := s.hp.put s.nx (some (.cells true 95 (zerosL [.slice none 0 0] n.toNat))), nx := s.nx + 1 }) := fun s => by
    unfold makeSliceA
    simp only [el100, sz95, by95, zr95, Option.bind_some]
    rw [if_pos ⟨rfl, by decide, by omega, Int.le_refl _, by omega, by omega⟩]
    rfl
  repeat (first
  | with_reducible first | apply ops_end | apply d_end | apply k_seq | apply k_seq_ret | apply k_seq_exit | apply k_block | apply k_block_ret | apply k_block_here | apply c_seq | apply c_block | apply c_region | apply c_skip | apply c_ret | apply c_exit | apply c_loop | apply k_loop_exit | apply k_loop_ret | apply if_t | apply if_f
  | (with_reducible apply k_block_on
     · decide)
  | ((with_reducible first | apply xOp | apply xDr | apply xIf); rfl; (simp only [Nat.reduceEqDiff, Nat.reduceAdd, ↓reduceIte, xBB, stG, opA, val, opdA, opdO, plainN, omap, binA, intBinA, loadV, readA, storeV, writeA, fieldAddrA, indexAddrA, lenA, builtinA, newA, unA, packA, Value.cells, ty28, sz28, fd28_0, fd28_1, ty3, hmk, un100]; rfl); first | rfl | exact ⟨rfl, rfl, rfl⟩))
  have hA0 := Ab.new (lk := s.nx) s (.cells true 28 [.int .i64 n, .slice b (es.map encE).length c])
  have hA1 := Ab.new (lk := s.nx) { hp := s.hp.put s.nx (some (.cells true 28 [.int .i64 n, .slice b (es.map encE).length c])), nx := s.nx + 1 } (.cells true 95 (zerosL [.slice none 0 0] n.toNat))
  have hA01 := hA0.trans hA1
  refine loop_k (lk' := s.nx + 1) (s0 := ⟨_, s.nx + 2⟩) (fun m f t => ∃ k : Nat, k + m = n.toNat ∧ f.get 10 = some (.int .i64 k) ∧
    ∃ vs : List Value, Own t 95 1 (some (s.nx + 1)) (.slice (some ⟨s.nx + 1, 0, none⟩) n.toNat n.toNat) (vs.map fun r => [r]) ∧ vs.length = n.toNat ∧
      ∀ (i : Nat) (r : Value), i < k → vs[i]? = some r → ∃ (o : Nat) (seen : List Bool), s.nx + 2 ≤ o ∧ Own t 4 1 (some o) r (seen.map encB) ∧ SeenOf n es i seen) n.toNat (Nat.le_succ _) (by show s.nx + 1 ≤ s.nx + 2; omega) ?_ (Ab.refl _ _) ?_
  · refine ⟨0, by omega, by simp only [Nat.reduceEqDiff, T.get_put, ↓reduceIte]; rfl, List.replicate n.toNat (.slice none 0 0), ?_, by simp, fun i r h => by omega⟩
    refine Own.block (T.get_put_eq _ _ _) ?_ (Nat.lt_succ_self _) (by simp) (Or.inl rfl) (fun x hx => ?_) (by simp only [List.length_map, List.length_replicate]; unfold UNK; omega)
    · rw [zerosL_map, List.map_replicate]
    · rw [List.map_replicate] at hx; obtain rfl := (List.mem_replicate.1 hx).2; exact ⟨rfl, rfl⟩
  · rintro m f t ⟨k, hk, h10, vs, hob, hvl, hvs⟩ hA hF
    (have k1 := hF 1 (by rfl); simp only [Nat.reduceEqDiff, T.get_put, ↓reduceIte] at k1; have k3 := hF 3 (by rfl); simp only [Nat.reduceEqDiff, T.get_put, ↓reduceIte] at k3; have k9 := hF 9 (by rfl); simp only [Nat.reduceEqDiff, T.get_put, ↓reduceIte] at k9)
    have hnt : s.nx + 2 ≤ t.nx := hA.nx
    have hbox : t.hp.get s.nx = some (.cells true 28 [.int .i64 n, .slice b (es.map encE).length c]) := by
      rw [hA.get (by show s.nx + 1 ≤ s.nx + 2; omega) (Nat.lt_succ_self _)]
      show (T.put _ _ _).get s.nx = _
      rw [T.get_put_ne _ _ _ (by omega), T.get_put_eq]
    by_cases hlt : (k : Int) < (n.toNat : Int)
    · have hw : IntKind.i64.wrap ((k : Int) + 1) = ((k + 1 : Nat) : Int) := by rw [IntWalk.i64_in _ (by omega)]; rfl
      repeat (first
  | with_reducible first | apply ops_end | apply d_end | apply k_seq | apply k_seq_ret | apply k_seq_exit | apply k_block | apply k_block_ret | apply k_block_here | apply c_seq | apply c_block | apply c_region | apply c_skip | apply c_ret | apply c_exit | apply c_loop | apply k_loop_exit | apply k_loop_ret | apply if_t | apply if_f
  | (with_reducible apply k_block_on
     · decide)
  | ((with_reducible first | apply xOp | apply xDr | apply xIf); rfl; (simp only [Nat.reduceEqDiff, Nat.reduceAdd, ↓reduceIte, xBB, stG, opA, val, opdA, opdO, plainN, omap, binA, intBinA, loadV, readA, storeV, writeA, fieldAddrA, indexAddrA, lenA, builtinA, newA, unA, packA, Value.cells, h10, k9, hlt, k3, k1, ty28, hbox, cutL, buildSliceA, el35, sz3, zr3, zerosL, fillA]; rfl); first | rfl | exact ⟨rfl, rfl, rfl⟩))
      generalize hst0 : ({ hp := t.hp.put t.nx (some (.cells true 3 (putL ([.int .i64 0] ++ []) (0 * 1) [.int .i64 k]))), nx := t.nx + 1 } : HS) = w
      have hwn : w.nx = t.nx + 1 := by rw [← hst0]
      have hwA : Ab t.nx t w := by rw [← hst0]; exact Ab.new _ _
      have hwy : w.hp.get t.nx = some (.cells true 3 [.int .i64 k]) := by rw [← hst0]; exact T.get_put_eq _ _ _
      have hwl : Sl w 1 (.slice (some ⟨t.nx, 0, none⟩) 1 1) ([(k : Int)].map encI) := Sl.block (post := []) hwy rfl (by omega) rfl (fun x hx => by simp at hx; rw [hx]; rfl)
      have hwE : Sl w 2 (.slice b (es.map encE).length c) (es.map encE) := (hs.keep ((hA01).trans (hA.lower (Nat.le_succ _) (by show s.nx + 1 ≤ s.nx + 2; omega)))).keep (hwA.lower (by omega) (Nat.le_refl _) |>.trans (Ab.refl _ _))
      ((with_reducible first | apply xCa | apply xCd); rfl; (simp only [Nat.reduceEqDiff, Nat.reduceAdd, ↓reduceIte, xBB, stB, opdA, opdO, plainN, omap, val, Value.cells]; exact ⟨rfl, rfl⟩); try rfl)
      apply call_fn
      refine (f59_spec n es _ [(k : Int)] _ w hwE hwl hg0 (by simp) (fun x hx => by simp at hx; omega)).use (by omega) (Nat.le_refl _) fun v u hv hA2 => ?_
      obtain ⟨o, seen, ho, hown, hsl, hmk2⟩ := hv
      obtain ⟨vb, vc, rfl⟩ := hown.shape
      have hnu := hA2.nx
      have hsame : ∀ id, id < t.nx → u.hp.get id = t.hp.get id := fun id h => by rw [hA2.get (Nat.le_refl _) (by omega), hwA.get (Nat.le_refl _) h]
      obtain ⟨off3, cap3, cs3, hh3, w1, w2, w3⟩ := hob.set (i := k) (x := [.slice vb (seen.map encB).length vc]) (by simp; omega) rfl rfl
      simp only [Value.slice.injEq, Option.some.injEq, Addr.mk.injEq] at hh3; obtain ⟨⟨_, rfl, _⟩, _, _⟩ := hh3
      rw [← hsame _ (by omega)] at w1
      have w2' : 0 + (k * 1 + 1) ≤ cs3.length := by rw [← Nat.add_assoc]; exact w2
      have hl1 : ([Value.slice vb (seen.map encB).length vc] : List Value).length = 1 := rfl
      have hone : ([Value.slice vb (seen.map encB).length vc] : List Value).all Value.oneCell' = true := rfl
      have hb2 : (0 : Int) ≤ (k : Int) ∧ (k : Int) < (n.toNat : Int) := by omega
      refine opt_of rfl ?_
      repeat (first
  | with_reducible first | apply ops_end | apply d_end | apply k_seq | apply k_seq_ret | apply k_seq_exit | apply k_block | apply k_block_ret | apply k_block_here | apply c_seq | apply c_block | apply c_region | apply c_skip | apply c_ret | apply c_exit | apply c_loop | apply k_loop_exit | apply k_loop_ret | apply if_t | apply if_f
  | (with_reducible apply k_block_on
     · decide)
  | ((with_reducible first | apply xOp | apply xDr | apply xIf); rfl; (simp only [Nat.reduceEqDiff, Nat.reduceAdd, ↓reduceIte, xBB, stG, opA, val, opdA, opdO, plainN, omap, binA, intBinA, loadV, readA, storeV, writeA, fieldAddrA, indexAddrA, lenA, builtinA, newA, unA, packA, Value.cells, h10, un100, sz95, hb2, w1, w2', hl1, hone, List.toList_toArray, hw]; rfl); first | rfl | exact ⟨rfl, rfl, rfl⟩))
      intro _ _
      refine k_loop_next (m' := m - 1) (by omega) ⟨k + 1, by omega, by simp only [Nat.reduceEqDiff, T.get_put, ↓reduceIte], vs.set k (.slice vb (seen.map encB).length vc), ?_, by rw [List.length_set]; exact hvl, fun i r hi hr => ?_⟩
      · rw [List.map_set]
        refine w3 _ ?_ (T.get_put_eq _ _ _)
        show t.nx ≤ u.nx; omega
      · rw [List.getElem?_set] at hr
        by_cases hki : k = i
        · subst hki
          rw [if_pos rfl, if_pos (by omega)] at hr; cases hr
          refine ⟨o, seen, by omega, hown.same (Nat.le_refl _) fun id h => ?_, hsl, fun x => ?_⟩
          · cases h; exact T.get_put_ne _ _ _ (by omega)
          · rw [hmk2]; simp
        · rw [if_neg hki] at hr
          obtain ⟨o', seen', h1, h2, h3⟩ := hvs i r (by omega) hr
          refine ⟨o', seen', h1, h2.same (by show t.nx ≤ u.nx; omega) fun id h => ?_, h3⟩
          cases h
          show (T.put u.hp _ _).get _ = _
          rw [T.get_put_ne _ _ _ (by omega)]
          exact hsame _ (h2.lt rfl)
    · repeat (first
  | with_reducible first | apply ops_end | apply d_end | apply k_seq | apply k_seq_ret | apply k_seq_exit | apply k_block | apply k_block_ret | apply k_block_here | apply c_seq | apply c_block | apply c_region | apply c_skip | apply c_ret | apply c_exit | apply c_loop | apply k_loop_exit | apply k_loop_ret | apply if_t | apply if_f
  | (with_reducible apply k_block_on
     · decide)
  | ((with_reducible first | apply xOp | apply xDr | apply xIf); rfl; (simp only [Nat.reduceEqDiff, Nat.reduceAdd, ↓reduceIte, xBB, stG, opA, val, opdA, opdO, plainN, omap, binA, intBinA, loadV, readA, storeV, writeA, fieldAddrA, indexAddrA, lenA, builtinA, newA, unA, packA, Value.cells, h10, k9, hlt]; rfl); first | rfl | exact ⟨rfl, rfl, rfl⟩))
      intro _ _
      repeat (first
  | with_reducible first | apply ops_end | apply d_end | apply k_seq | apply k_seq_ret | apply k_seq_exit | apply k_block | apply k_block_ret | apply k_block_here | apply c_seq | apply c_block | apply c_region | apply c_skip | apply c_ret | apply c_exit | apply c_loop | apply k_loop_exit | apply k_loop_ret | apply if_t | apply if_f
  | (with_reducible apply k_block_on
     · decide)
  | ((with_reducible first | apply xOp | apply xDr | apply xIf); rfl; (simp only [Nat.reduceEqDiff, Nat.reduceAdd, ↓reduceIte, xBB, stG, opA, val, opdA, opdO, plainN, omap, binA, intBinA, loadV, readA, storeV, writeA, fieldAddrA, indexAddrA, lenA, builtinA, newA, unA, packA, Value.cells, k3]; rfl); first | rfl | exact ⟨rfl, rfl, rfl⟩))
      intro _
      ((with_reducible first | apply ret_i | apply ret_n); (simp only [Nat.reduceEqDiff, Nat.reduceAdd, ↓reduceIte, xBB, resA, opdA, opdO, plainN, omap, val, loadV, readA, packA]; rfl))
      exact ⟨s.nx + 1, vs, Nat.le_succ _, hob, hvl, fun i r hr => by
        have hi := (List.getElem?_eq_some_iff.1 hr).1
        obtain ⟨o, seen, h1, h2, h3⟩ := hvs i r (by omega) hr
        exact ⟨o, seen, by omega, h2, h3⟩⟩
end Go.Ev

/- Plain laws: the hull of a node, nodes that reach one another, and their lists. -/
set_option linter.unusedSimpArgs false
set_option linter.unusedVariables false
namespace Go.Ev
open Go

/-- The hull of a node. -/
def HN (n : Nat) (es : List (Int × Int)) (i : Nat) : Nat := hullN es n (2 ^ i)
theorem HN_lt {n : Nat} {es : List (Int × Int)} (hg : GoodG n es) {i : Nat} (hi : i < n) : HN n es i < 2 ^ n :=
  hullN_lt (Nat.pow_lt_pow_right (by decide) hi) (fun e he => by have := hg.ins e he; omega) n
theorem HN_bit {n : Nat} {es : List (Int × Int)} (hg : GoodG n es) {i : Nat} (hi : i < n) (j : Nat) : (HN n es i).testBit j = true ↔ Rch es i j := by
  unfold HN
  rw [hull_bit hg (Nat.pow_lt_pow_right (by decide) hi)]
  constructor
  · rintro ⟨k, h1, h2⟩
    have : i = k := by rw [Nat.testBit_two_pow] at h1; simpa using h1
    rw [this]; exact h2
  · intro h; exact ⟨i, by rw [Nat.testBit_two_pow]; simp, h⟩
theorem HN_self {n : Nat} {es : List (Int × Int)} (hg : GoodG n es) {i : Nat} (hi : i < n) : (HN n es i).testBit i = true := (HN_bit hg hi i).2 (.refl _)
theorem HN_trans {n : Nat} {es : List (Int × Int)} (hg : GoodG n es) {i j k : Nat} (hi : i < n) (hj : j < n) (h1 : (HN n es i).testBit j = true) (h2 : (HN n es j).testBit k = true) : (HN n es i).testBit k = true :=
  (HN_bit hg hi k).2 (((HN_bit hg hi j).1 h1).trans ((HN_bit hg hj k).1 h2))

/-- The marks of what a node reaches. -/
def seenH (n : Nat) (es : List (Int × Int)) (i : Nat) : List Bool := (List.range n).map fun j => (HN n es i).testBit j
theorem seen_eq {n : Nat} {es : List (Int × Int)} (hg : GoodG n es) {i : Nat} (hi : i < n) {seen : List Bool} (h : SeenOf n es i seen) : seen = seenH n es i := by
  obtain ⟨h1, h2⟩ := h
  have h1' : seen.length = n := by omega
  refine List.ext_getElem? fun j => ?_
  unfold seenH
  by_cases hj : j < n
  · rw [List.getElem?_map, List.getElem?_range hj, List.getElem?_eq_getElem (by omega), Option.map_some]
    have h3 := h2 j
    have h4 := HN_bit hg hi j
    unfold Mk at h3
    rw [Int.toNat_natCast, List.getElem?_eq_getElem (by omega)] at h3
    congr 1
    cases hs : seen[j] with
    | true => rw [hs] at h3; exact (h4.2 (h3.1 ⟨by omega, rfl⟩)).symm
    | false =>
      cases hb : (HN n es i).testBit j with
      | false => rfl
      | true => have := (h3.2 (h4.1 hb)).2; rw [hs] at this; cases this
  · rw [List.getElem?_eq_none (by omega), List.getElem?_eq_none (by simp; omega)]
theorem listed_seenH (n : Nat) (es : List (Int × Int)) (i : Nat) : listedL 0 (seenH n es i) = nodesL (HN n es i) n := by
  rw [show listedL 0 (seenH n es i) = listedL ((0 : Nat) : Int) (seenH n es i) from rfl, listedL_eq]
  unfold seenH nodesL
  rw [List.length_map, List.length_range]
  have e1 : (List.range n).filter (fun j => (((List.range n).map fun j => (HN n es i).testBit j)[j]?).getD false) = (List.range n).filter fun j => (HN n es i).testBit j := by
    refine List.filter_congr fun j hj => ?_
    rw [List.getElem?_map, List.getElem?_range (List.mem_range.1 hj)]; rfl
  rw [e1]
  refine List.map_congr_left fun j _ => ?_
  rw [Nat.zero_add]
theorem bits_nodesL {a n : Nat} (h : a < 2 ^ n) : bitsN (nodesL a n) = a := by
  refine Nat.eq_of_testBit_eq fun j => ?_
  rw [bitsN_bit]
  by_cases hj : a.testBit j = true
  · rw [hj, decide_eq_true_eq]
    refine ⟨(j : Int), mem_nodesL.2 ⟨by omega, ?_, by simpa using hj⟩, by simp⟩
    rcases Nat.lt_or_ge j n with h2 | h2
    · omega
    · rw [lt_bit h h2] at hj; cases hj
  · have : a.testBit j = false := by simpa using hj
    rw [this, decide_eq_false_iff_not]
    rintro ⟨x, h1, h2⟩
    obtain ⟨_, _, h3⟩ := mem_nodesL.1 h1
    rw [h2] at h3; exact hj h3

/-- Two nodes reach one another. -/
def mutB (n : Nat) (es : List (Int × Int)) (i j : Nat) : Bool := (HN n es i).testBit j && (HN n es j).testBit i
theorem mut_iff {n : Nat} {es : List (Int × Int)} {i j : Nat} : mutB n es i j = true ↔ (HN n es i).testBit j = true ∧ (HN n es j).testBit i = true := by unfold mutB; simp
theorem mut_symm {n : Nat} {es : List (Int × Int)} {i j : Nat} : mutB n es i j = mutB n es j i := by unfold mutB; rw [Bool.and_comm]
theorem mut_self {n : Nat} {es : List (Int × Int)} (hg : GoodG n es) {i : Nat} (hi : i < n) : mutB n es i i = true := mut_iff.2 ⟨HN_self hg hi, HN_self hg hi⟩
theorem mut_trans {n : Nat} {es : List (Int × Int)} (hg : GoodG n es) {i j k : Nat} (hi : i < n) (hj : j < n) (hk : k < n) (h1 : mutB n es i j = true) (h2 : mutB n es j k = true) : mutB n es i k = true := by
  rw [mut_iff] at *
  exact ⟨HN_trans hg hi hj h1.1 h2.1, HN_trans hg hk hj h2.2 h1.2⟩

/-- The nodes below a number that reach a node and are reached. -/
def compS (n : Nat) (es : List (Int × Int)) (i : Nat) : Nat → Nat
  | 0 => 0
  | k + 1 => if mutB n es i k then compS n es i k ||| 2 ^ k else compS n es i k
theorem compS_bit {n : Nat} {es : List (Int × Int)} {i : Nat} : ∀ k j, (compS n es i k).testBit j = (decide (j < k) && mutB n es i j)
  | 0, j => by simp [compS]
  | k + 1, j => by
    unfold compS
    have ih := compS_bit (n := n) (es := es) (i := i) k j
    have hd : decide (j < k + 1) = (decide (j < k) || decide (j = k)) := by
      by_cases h1 : j < k
      · simp [h1]; omega
      · by_cases h2 : j = k
        · simp [h2]
        · simp [h1, h2]; omega
    split
    · rename_i h
      rw [setBit, ih, hd]
      by_cases h2 : j = k
      · subst h2; simp [h]
      · simp [h2]
    · rename_i h
      rw [ih, hd]
      by_cases h2 : j = k
      · subst h2; simp [h]
      · simp [h2]
theorem compS_lt {n : Nat} {es : List (Int × Int)} {i : Nat} : ∀ k, compS n es i k < 2 ^ k
  | 0 => by simp [compS]
  | k + 1 => by
    have ih := compS_lt (n := n) (es := es) (i := i) k
    have h2 : compS n es i k < 2 ^ (k + 1) := Nat.lt_of_lt_of_le ih (Nat.pow_le_pow_right (by decide) (Nat.le_succ k))
    unfold compS
    split
    · exact setBit_lt h2 (Nat.lt_succ_self k)
    · exact h2
/-- The component of a node. -/
def compN (n : Nat) (es : List (Int × Int)) (i : Nat) : Nat := compS n es i n
theorem compN_bit {n : Nat} {es : List (Int × Int)} {i j : Nat} : (compN n es i).testBit j = (decide (j < n) && mutB n es i j) := compS_bit n j
theorem compN_lt {n : Nat} {es : List (Int × Int)} {i : Nat} : compN n es i < 2 ^ n := compS_lt n

/-- The first node of its component. -/
def isRep (n : Nat) (es : List (Int × Int)) (k : Nat) : Bool := (List.range k).all fun j => !mutB n es k j
theorem isRep_iff {n : Nat} {es : List (Int × Int)} {k : Nat} : isRep n es k = true ↔ ∀ j, j < k → mutB n es k j = false := by
  unfold isRep
  rw [List.all_eq_true]
  constructor
  · intro h j hj; have := h j (List.mem_range.2 hj); simpa using this
  · intro h j hj; simp [h j (List.mem_range.1 hj)]
def reps (n : Nat) (es : List (Int × Int)) (k : Nat) : List Nat := (List.range k).filter (isRep n es)
theorem reps_succ {n : Nat} {es : List (Int × Int)} (k : Nat) : reps n es (k + 1) = reps n es k ++ (if isRep n es k then [k] else []) := by
  unfold reps
  rw [List.range_succ, List.filter_append]
  cases h : isRep n es k with
  | true => rw [List.filter_cons_of_pos h]; rfl
  | false => rw [List.filter_cons_of_neg (by simp [h])]; rfl
theorem reps_len {n : Nat} {es : List (Int × Int)} (k : Nat) : (reps n es k).length ≤ k := Nat.le_trans (List.length_filter_le _ _) (by simp)
theorem mem_reps {n : Nat} {es : List (Int × Int)} {k r : Nat} : r ∈ reps n es k ↔ r < k ∧ isRep n es r = true := by unfold reps; rw [List.mem_filter, List.mem_range]
/-- Every node has a first one in its component. -/
theorem rep_ex {n : Nat} {es : List (Int × Int)} (hg : GoodG n es) {x : Nat} (hx : x < n) : ∃ r, r ≤ x ∧ isRep n es r = true ∧ mutB n es r x = true := by
  induction x using Nat.strongRecOn with
  | _ x ih =>
    by_cases h : isRep n es x = true
    · exact ⟨x, Nat.le_refl _, h, mut_self hg hx⟩
    · rw [isRep_iff] at h
      have : ∃ j, j < x ∧ mutB n es x j = true := Classical.byContradiction fun hno => h fun j hj => by
        cases hm : mutB n es x j with
        | false => rfl
        | true => exact absurd ⟨j, hj, hm⟩ hno
      obtain ⟨j, hj, hm⟩ := this
      obtain ⟨r, h1, h2, h3⟩ := ih j hj (by omega)
      refine ⟨r, by omega, h2, mut_trans hg (by omega) (by omega) hx h3 ?_⟩
      rw [mut_symm]; exact hm
theorem rep_uniq {n : Nat} {es : List (Int × Int)} (hg : GoodG n es) {x r r' : Nat} (hx : x < n) (hr : r < n) (hr' : r' < n) (h1 : isRep n es r = true) (h2 : mutB n es r x = true) (h3 : isRep n es r' = true) (h4 : mutB n es r' x = true) : r = r' := by
  have h5 : mutB n es r r' = true := mut_trans hg hr hx hr' h2 (by rw [mut_symm]; exact h4)
  rcases Nat.lt_trichotomy r r' with h | h | h
  · have := isRep_iff.1 h3 r h; rw [mut_symm, h5] at this; cases this
  · exact h
  · have := isRep_iff.1 h1 r' h; rw [h5] at this; cases this
end Go.Ev

/- The lowest bit of a set; how many bits it has. -/
set_option linter.unusedSimpArgs false
set_option linter.unusedVariables false
namespace Go.Ev
open Go

/-- k is the lowest bit of a. -/
def Low (a k : Nat) : Prop := a.testBit k = true ∧ (∀ i, i < k → a.testBit i = false) ∧ ∀ i, (a - 1).testBit i = if i < k then true else if i = k then false else a.testBit i
theorem low_ex : ∀ a : Nat, a ≠ 0 → ∃ k, Low a k := by
  intro a
  induction a using Nat.strongRecOn with
  | _ a ih =>
    intro h
    by_cases ho : a % 2 = 1
    · refine ⟨0, by rw [Nat.testBit_zero]; simp [ho], fun i hi => by omega, fun i => ?_⟩
      rw [if_neg (by omega)]
      cases i with
      | zero => rw [if_pos rfl, Nat.testBit_zero]; have : (a - 1) % 2 = 0 := by omega
                simp [this]
      | succ i => rw [if_neg (by omega), Nat.testBit_succ, Nat.testBit_succ, show (a - 1) / 2 = a / 2 by omega]
    · obtain ⟨k, h1, h2, h3⟩ := ih (a / 2) (by omega) (by omega)
      refine ⟨k + 1, by rw [Nat.testBit_succ]; exact h1, fun i hi => ?_, fun i => ?_⟩
      · cases i with
        | zero => rw [Nat.testBit_zero]; have : a % 2 = 0 := by omega
                  simp [this]
        | succ i => rw [Nat.testBit_succ]; exact h2 i (by omega)
      · cases i with
        | zero => rw [if_pos (by omega), Nat.testBit_zero]; have : (a - 1) % 2 = 1 := by omega
                  simp [this]
        | succ i => rw [Nat.testBit_succ, Nat.testBit_succ, show (a - 1) / 2 = a / 2 - 1 by omega, h3]; simp only [Nat.add_lt_add_iff_right, Nat.add_right_cancel_iff]
theorem Low.lt {a k n : Nat} (h : Low a k) (ha : a < 2 ^ n) : k < n := by
  rcases Nat.lt_or_ge k n with h1 | h1
  · exact h1
  · have := lt_bit ha h1
    rw [h.1] at this; cases this
theorem Low.ne {a k : Nat} (h : Low a k) : a ≠ 0 := by
  rintro rfl
  have := h.1
  rw [Nat.zero_testBit] at this; cases this
theorem Low.and_neg {a k : Nat} (h : Low a k) (ha : a < 2 ^ 64) : a &&& (2 ^ 64 - a) = 2 ^ k := by
  have hk := h.lt ha
  have h0 := h.ne
  refine Nat.eq_of_testBit_eq fun i => ?_
  rw [show 2 ^ 64 - a = 2 ^ 64 - ((a - 1) + 1) by omega, Nat.testBit_and, Nat.testBit_two_pow_sub_succ (by omega), h.2.2, Nat.testBit_two_pow]
  by_cases h1 : i < k
  · rw [h.2.1 i h1]; simp; omega
  · by_cases h2 : i = k
    · subst h2; rw [h.1]; simp [hk]
    · rw [if_neg h1, if_neg h2]
      cases a.testBit i <;> simp [Ne.symm h2]
theorem Low.and_pred {a k : Nat} (h : Low a k) (i : Nat) : (a &&& (a - 1)).testBit i = (a.testBit i && !decide (i = k)) := by
  rw [Nat.testBit_and, h.2.2]
  by_cases h1 : i < k
  · rw [h.2.1 i h1]; simp
  · by_cases h2 : i = k
    · subst h2; simp
    · rw [if_neg h1, if_neg h2]; simp [h2]
theorem and_le {a b : Nat} : a &&& b ≤ a := Nat.and_le_left
theorem Low.less {a k : Nat} (h : Low a k) : a &&& (a - 1) < a := by
  have h1 : a &&& (a - 1) ≤ a - 1 := Nat.and_le_right
  have := h.ne; omega
theorem Low.nodes {a k : Nat} (h : Low a k) : ∀ n, nodesL a n = (if k < n then (k : Int) :: nodesL (a &&& (a - 1)) n else []) ∧ (n ≤ k → nodesL (a &&& (a - 1)) n = []) := by
  intro n
  induction n with
  | zero => exact ⟨rfl, fun _ => rfl⟩
  | succ n ih =>
    obtain ⟨i1, i2⟩ := ih
    rw [nodesL_succ, nodesL_succ, i1, h.and_pred]
    by_cases h1 : k < n
    · rw [if_pos h1, if_pos (show k < n + 1 by omega)]
      have : decide (n = k) = false := decide_eq_false (by omega)
      rw [this]
      refine ⟨by simp, fun h => by omega⟩
    · rw [if_neg h1, i2 (by omega)]
      by_cases h2 : n = k
      · subst h2
        rw [h.1, if_pos (show n < n + 1 by omega)]
        refine ⟨by simp, fun h => by omega⟩
      · rw [if_neg (show ¬ k < n + 1 by omega), h.2.1 n (by omega)]
        refine ⟨by simp, fun _ => by simp⟩
theorem Low.nodes64 {a k : Nat} (h : Low a k) (ha : a < 2 ^ 64) : nodesL a 64 = (k : Int) :: nodesL (a &&& (a - 1)) 64 := by
  rw [(h.nodes 64).1, if_pos (h.lt ha)]
theorem nodesL_zero (n : Nat) : nodesL 0 n = [] := by
  unfold nodesL
  rw [List.map_eq_nil_iff, List.filter_eq_nil_iff]
  intro i _; rw [Nat.zero_testBit]; simp
theorem nodesL_inj {a b n : Nat} (ha : a < 2 ^ n) (hb : b < 2 ^ n) (h : nodesL a n = nodesL b n) : a = b := by
  have h1 := bits_nodesL ha
  rw [h, bits_nodesL hb] at h1
  exact h1.symm
theorem nodesL_card (a : Nat) : ∀ n, (nodesL a n).length = cardN a n := by
  intro n
  induction n with
  | zero => rfl
  | succ n ih => rw [nodesL_succ, List.length_append, ih, cardN]; cases a.testBit n <;> rfl
end Go.Ev

/- The examples of the chapter hold: evaluated by the kernel. -/
set_option linter.unusedSimpArgs false
set_option linter.unusedVariables false
namespace Go.Ev
open Go Go.Proofs
set_option maxRecDepth 100000

/-- The table of math/bits. -/
def tabL : List Int := [0, 1, 56, 2, 57, 49, 28, 3, 61, 58, 42, 50, 38, 29, 17, 4, 62, 47, 59, 36, 45, 43, 51, 22, 53, 39, 33, 30, 24, 18, 12, 5, 63, 55, 48, 27, 60, 41, 37, 16, 46, 35, 44, 21, 52, 32, 23, 11, 54, 26, 40, 15, 34, 20, 31, 10, 25, 14, 19, 9, 13, 8, 7, 6]
def tabB : AObj := .cells false 103 (tabL.map fun n => .int .u8 n)
/-- The memory of the program's variables. -/
def Glob (s : HS) : Prop := 0 < s.nx ∧ s.hp.get 0 = some tabB
theorem Glob.keep {s s' : HS} (h : Glob s) (a : Ab s.nx s s') : Glob s' := ⟨Nat.lt_of_lt_of_le h.1 a.nx, by rw [a.get (Nat.le_refl _) h.1]; exact h.2⟩

def isT (r : Option (Value × HS)) : Bool := match r with | some (.bool true, _) => true | _ => false
theorem isT_inv {r : Option (Value × HS)} (h : isT r = true) : ∃ s, r = some (.bool true, s) := by
  unfold isT at h
  split at h
  · exact ⟨_, rfl⟩
  · cases h
theorem globs : Tryd.prog.globals.size = 1 := by kernel_rfl
theorem low_glob {s : HS} (h : Glob s) : low Tryd.prog s = ⟨T.nil.put 0 (some tabB), 1⟩ := by
  unfold low
  rw [globs]
  show (⟨T.put .nil 0 (lowB s 0), 1⟩ : HS) = _
  have : lowB s 0 = some tabB := by unfold lowB; rw [h.2]; rfl
  rw [this]
theorem known_run : isT ((ev0 Tryd.prog 400).call 1 9 [] ⟨T.nil.put 0 (some tabB), 1⟩) = true := by kernel_rfl
theorem known_closed {s : HS} (h : Glob s) : ClosedB Tryd.prog 9 (low Tryd.prog s) true := by
  rw [low_glob h]
  obtain ⟨s, h⟩ := isT_inv known_run
  refine ⟨400, s, ?_⟩
  rw [globs]; exact h
end Go.Ev

/- bits.OnesCount64, set.size, bits.TrailingZeros64, set.nodes. -/
namespace Go.Ev
open Go Go.Proofs
set_option linter.unusedSimpArgs false
set_option linter.unusedVariables false
set_option maxRecDepth 100000
set_option maxHeartbeats 4000000
attribute [local irreducible] wpOps wpC wpD wpF wpLoop wpCall seqK blockK loopK retK T.put T.get T.setF

theorem add_u64 (a b : Nat) : IntKind.u64.wrap ((a : Int) + (b : Int)) = (((a + b) % 18446744073709551616 : Nat) : Int) := by
  have : IntKind.u64.wrap ((a : Int) + (b : Int)) = ((a : Int) + (b : Int)) % 18446744073709551616 := by simp [IntKind.wrap, IntKind.signed, IntKind.bits]
  rw [this]; omega
theorem mul_u64 (a b : Nat) : IntKind.u64.wrap ((a : Int) * (b : Int)) = ((a * b % 18446744073709551616 : Nat) : Int) := by
  have : IntKind.u64.wrap ((a : Int) * (b : Int)) = ((a : Int) * (b : Int)) % 18446744073709551616 := by simp [IntKind.wrap, IntKind.signed, IntKind.bits]
  rw [this, ← Int.natCast_mul]
  generalize a * b = c
  omega
theorem shr_lt64 {a k : Nat} (h : a < 18446744073709551616) : a >>> k < 18446744073709551616 := by
  rw [Nat.shiftRight_eq_div_pow]
  exact Nat.lt_of_le_of_lt (Nat.div_le_self _ _) h
theorem and_lt64 {a b : Nat} (h : a < 18446744073709551616) : a &&& b < 18446744073709551616 := Nat.lt_of_le_of_lt Nat.and_le_left h

/-- The steps of OnesCount64. -/
def ones1 (a : Nat) : Nat := (((a >>> 1) &&& 6148914691236517205) + (a &&& 6148914691236517205)) % 18446744073709551616
def ones2 (a : Nat) : Nat := (((a >>> 2) &&& 3689348814741910323) + (a &&& 3689348814741910323)) % 18446744073709551616
def ones3 (a : Nat) : Nat := (((a >>> 4) + a) % 18446744073709551616) &&& 1085102592571150095
def ones4 (k a : Nat) : Nat := (a + (a >>> k)) % 18446744073709551616
def onesI (a : Nat) : Int := IntKind.i64.wrap ((BitVec.ofInt IntKind.i64.bits (IntKind.i64.wrap ((ones4 32 (ones4 16 (ones4 8 (ones3 (ones2 (ones1 a))))) : Nat) : Int)) &&& BitVec.ofInt IntKind.i64.bits 127).toNat : Int)

theorem f63_spec [Sorts Tryd.prog] (a : Nat) (s : HS) (ha : a < 18446744073709551616) : wpF Tryd.prog s.nx 63 [.int .u64 a] s (fun v s' => v = .int .i64 (onesI a) ∧ s' = s) := by
  refine wpF_of Tryd.func63 rfl rfl rfl rfl (Nat.le_refl _) ?_
  simp only [paramsA]
  have a1 : shiftA .shr .u64 (a : Int) 1 = some (.int .u64 ((a >>> 1 : Nat) : Int)) := shr_u64 (k := 1) ha
  have a2 : IntKind.u64.wrap ((BitVec.ofInt IntKind.u64.bits ((a >>> 1 : Nat) : Int) &&& BitVec.ofInt IntKind.u64.bits 6148914691236517205).toNat : Int) = (((a >>> 1) &&& 6148914691236517205 : Nat) : Int) := and_u64 (b := 6148914691236517205) (shr_lt64 ha) (by decide)
  have a3 : IntKind.u64.wrap ((BitVec.ofInt IntKind.u64.bits (a : Int) &&& BitVec.ofInt IntKind.u64.bits 6148914691236517205).toNat : Int) = ((a &&& 6148914691236517205 : Nat) : Int) := and_u64 (b := 6148914691236517205) ha (by decide)
  have a4 : IntKind.u64.wrap ((((a >>> 1) &&& 6148914691236517205 : Nat) : Int) + ((a &&& 6148914691236517205 : Nat) : Int)) = ((ones1 a : Nat) : Int) := add_u64 _ _
  have h1 : ones1 a < 18446744073709551616 := Nat.mod_lt _ (by decide)
  unfold onesI
  generalize ones1 a = x1 at *
  have b1 : shiftA .shr .u64 (x1 : Int) 2 = some (.int .u64 ((x1 >>> 2 : Nat) : Int)) := shr_u64 (k := 2) h1
  have b2 : IntKind.u64.wrap ((BitVec.ofInt IntKind.u64.bits ((x1 >>> 2 : Nat) : Int) &&& BitVec.ofInt IntKind.u64.bits 3689348814741910323).toNat : Int) = (((x1 >>> 2) &&& 3689348814741910323 : Nat) : Int) := and_u64 (b := 3689348814741910323) (shr_lt64 h1) (by decide)
  have b3 : IntKind.u64.wrap ((BitVec.ofInt IntKind.u64.bits (x1 : Int) &&& BitVec.ofInt IntKind.u64.bits 3689348814741910323).toNat : Int) = ((x1 &&& 3689348814741910323 : Nat) : Int) := and_u64 (b := 3689348814741910323) h1 (by decide)
  have b4 : IntKind.u64.wrap ((((x1 >>> 2) &&& 3689348814741910323 : Nat) : Int) + ((x1 &&& 3689348814741910323 : Nat) : Int)) = ((ones2 x1 : Nat) : Int) := add_u64 _ _
  have h2 : ones2 x1 < 18446744073709551616 := Nat.mod_lt _ (by decide)
  generalize ones2 x1 = x2 at *
  have c1 : shiftA .shr .u64 (x2 : Int) 4 = some (.int .u64 ((x2 >>> 4 : Nat) : Int)) := shr_u64 (k := 4) h2
  have c2 : IntKind.u64.wrap (((x2 >>> 4 : Nat) : Int) + (x2 : Int)) = (((x2 >>> 4 + x2) % 18446744073709551616 : Nat) : Int) := add_u64 _ _
  have c3 : IntKind.u64.wrap ((BitVec.ofInt IntKind.u64.bits (((x2 >>> 4 + x2) % 18446744073709551616 : Nat) : Int) &&& BitVec.ofInt IntKind.u64.bits 1085102592571150095).toNat : Int) = ((ones3 x2 : Nat) : Int) := and_u64 (b := 1085102592571150095) (Nat.mod_lt _ (by decide)) (by decide)
  have h3 : ones3 x2 < 18446744073709551616 := and_lt64 (Nat.mod_lt _ (by decide))
  generalize ones3 x2 = x3 at *
  have d1 : shiftA .shr .u64 (x3 : Int) 8 = some (.int .u64 ((x3 >>> 8 : Nat) : Int)) := shr_u64 (k := 8) h3
  have d2 : IntKind.u64.wrap ((x3 : Int) + ((x3 >>> 8 : Nat) : Int)) = ((ones4 8 x3 : Nat) : Int) := add_u64 _ _
  have h4 : ones4 8 x3 < 18446744073709551616 := Nat.mod_lt _ (by decide)
  generalize ones4 8 x3 = x4 at *
  have e1 : shiftA .shr .u64 (x4 : Int) 16 = some (.int .u64 ((x4 >>> 16 : Nat) : Int)) := shr_u64 (k := 16) h4
  have e2 : IntKind.u64.wrap ((x4 : Int) + ((x4 >>> 16 : Nat) : Int)) = ((ones4 16 x4 : Nat) : Int) := add_u64 _ _
  have h5 : ones4 16 x4 < 18446744073709551616 := Nat.mod_lt _ (by decide)
  generalize ones4 16 x4 = x5 at *
  have g1 : shiftA .shr .u64 (x5 : Int) 32 = some (.int .u64 ((x5 >>> 32 : Nat) : Int)) := shr_u64 (k := 32) h5
  have g2 : IntKind.u64.wrap ((x5 : Int) + ((x5 >>> 32 : Nat) : Int)) = ((ones4 32 x5 : Nat) : Int) := add_u64 _ _
  generalize ones4 32 x5 = x6 at *
  repeat (first
  | with_reducible first | apply ops_end | apply d_end | apply k_seq | apply k_seq_ret | apply k_seq_exit | apply k_block | apply k_block_ret | apply k_block_here | apply c_seq | apply c_block | apply c_region | apply c_skip | apply c_ret | apply c_exit | apply c_loop | apply k_loop_exit | apply k_loop_ret | apply if_t | apply if_f
  | (with_reducible apply k_block_on
     · decide)
  | ((with_reducible first | apply xOp | apply xDr | apply xIf); rfl; (simp only [Nat.reduceEqDiff, Nat.reduceAdd, ↓reduceIte, xBB, stG, opA, val, opdA, opdO, plainN, omap, binA, intBinA, loadV, readA, storeV, writeA, fieldAddrA, indexAddrA, lenA, builtinA, newA, unA, packA, Value.cells, a1, a2, a3, a4, b1, b2, b3, b4, c1, c2, c3, d1, d2, e1, e2, g1, g2, convA, un59, un3]; rfl); first | rfl | exact ⟨rfl, rfl, rfl⟩))
  intro _
  ((with_reducible first | apply ret_i | apply ret_n); (simp only [Nat.reduceEqDiff, Nat.reduceAdd, ↓reduceIte, xBB, resA, opdA, opdO, plainN, omap, val, loadV, readA, packA]; rfl))
  exact ⟨rfl, rfl⟩

theorem f45_spec [Sorts Tryd.prog] (a : Nat) (s : HS) (ha : a < 18446744073709551616) : wpF Tryd.prog s.nx 45 [.int .u64 a] s (fun v s' => v = .int .i64 (onesI a) ∧ s' = s) := by
  refine wpF_of Tryd.func45 rfl rfl rfl rfl (Nat.le_refl _) ?_
  simp only [paramsA]
  repeat (first
  | with_reducible first | apply ops_end | apply d_end | apply k_seq | apply k_seq_ret | apply k_seq_exit | apply k_block | apply k_block_ret | apply k_block_here | apply c_seq | apply c_block | apply c_region | apply c_skip | apply c_ret | apply c_exit | apply c_loop | apply k_loop_exit | apply k_loop_ret | apply if_t | apply if_f
  | (with_reducible apply k_block_on
     · decide)
  | ((with_reducible first | apply xOp | apply xDr | apply xIf); rfl; (simp only [Nat.reduceEqDiff, Nat.reduceAdd, ↓reduceIte, xBB, stG, opA, val, opdA, opdO, plainN, omap, binA, intBinA, loadV, readA, storeV, writeA, fieldAddrA, indexAddrA, lenA, builtinA, newA, unA, packA, Value.cells]; rfl); first | rfl | exact ⟨rfl, rfl, rfl⟩))
  ((with_reducible first | apply xCa | apply xCd); rfl; (simp only [Nat.reduceEqDiff, Nat.reduceAdd, ↓reduceIte, xBB, stB, opdA, opdO, plainN, omap, val, Value.cells]; exact ⟨rfl, rfl⟩); try rfl)
  apply call_fn
  refine (f63_spec a s ha).mono fun v s' hv => ?_
  obtain ⟨rfl, rfl⟩ := hv
  refine opt_of rfl ?_
  repeat (first
  | with_reducible first | apply ops_end | apply d_end | apply k_seq | apply k_seq_ret | apply k_seq_exit | apply k_block | apply k_block_ret | apply k_block_here | apply c_seq | apply c_block | apply c_region | apply c_skip | apply c_ret | apply c_exit | apply c_loop | apply k_loop_exit | apply k_loop_ret | apply if_t | apply if_f
  | (with_reducible apply k_block_on
     · decide)
  | ((with_reducible first | apply xOp | apply xDr | apply xIf); rfl; (simp only [Nat.reduceEqDiff, Nat.reduceAdd, ↓reduceIte, xBB, stG, opA, val, opdA, opdO, plainN, omap, binA, intBinA, loadV, readA, storeV, writeA, fieldAddrA, indexAddrA, lenA, builtinA, newA, unA, packA, Value.cells]; rfl); first | rfl | exact ⟨rfl, rfl, rfl⟩))
  intro _
  ((with_reducible first | apply ret_i | apply ret_n); (simp only [Nat.reduceEqDiff, Nat.reduceAdd, ↓reduceIte, xBB, resA, opdA, opdO, plainN, omap, val, loadV, readA, packA]; rfl))
  exact ⟨rfl, rfl⟩

theorem ones_small : ((List.range 1024).all fun a => onesI a == (cardN a 64 : Int)) = true := by kernel_rfl
theorem ones_eq {a : Nat} (h : a < 1024) : onesI a = (cardN a 64 : Int) := by
  have := List.all_eq_true.1 ones_small a (List.mem_range.2 h)
  simpa using this
theorem ones_pairs : ((List.range 64).all fun i => (List.range 64).all fun j => onesI (2 ^ i ||| 2 ^ j) == if i = j then 1 else 2) = true := by kernel_rfl
theorem ones_pair {i j : Nat} (hi : i < 64) (hj : j < 64) : onesI (2 ^ i ||| 2 ^ j) = if i = j then 1 else 2 := by
  have := List.all_eq_true.1 (List.all_eq_true.1 ones_pairs i (List.mem_range.2 hi)) j (List.mem_range.2 hj)
  simpa using this

theorem un103' : Tryd.prog.underlying 103 = some (.array 64 5) := by kernel_rfl
def tzI (k : Nat) : Nat := (2 ^ k * 285870213051353865 % 18446744073709551616) >>> 58
theorem tz_tab : ((List.range 64).all fun k => decide (tzI k < 64) && tabL[tzI k]? == some (k : Int)) = true := by kernel_rfl
theorem tz_at {k : Nat} (h : k < 64) : tzI k < 64 ∧ tabL[tzI k]? = some (k : Int) := by
  have := List.all_eq_true.1 tz_tab k (List.mem_range.2 h)
  simpa using this
theorem cutL_one {cs : List Value} {i : Nat} {v : Value} (h : cs[i]? = some v) : cutL cs i 1 = some [v] := by
  have hi := (List.getElem?_eq_some_iff.1 h).1
  unfold cutL
  rw [if_pos (by omega), List.drop_eq_getElem_cons hi, (List.getElem?_eq_some_iff.1 h).2]
  rfl

theorem f49_spec [Sorts Tryd.prog] (a k : Nat) (s : HS) (hgl : Glob s) (ha : a < 18446744073709551616) (hk : Low a k) : wpF Tryd.prog s.nx 49 [.int .u64 a] s (fun v s' => v = .int .i64 k ∧ s' = s) := by
  have h0 := hk.ne
  have hk64 := hk.lt (n := 64) ha
  have e0 : ((a : Int) == 0) = false := by simp; omega
  have e1 : IntKind.u64.wrap (0 - (a : Int)) = ((18446744073709551616 - a : Nat) : Int) := by
    have : IntKind.u64.wrap (0 - (a : Int)) = (0 - (a : Int)) % 18446744073709551616 := by simp [IntKind.wrap, IntKind.signed, IntKind.bits]
    rw [this]; omega
  have e2 : IntKind.u64.wrap ((BitVec.ofInt IntKind.u64.bits (a : Int) &&& BitVec.ofInt IntKind.u64.bits ((18446744073709551616 - a : Nat) : Int)).toNat : Int) = ((2 ^ k : Nat) : Int) := by
    rw [and_u64 ha (by omega)]
    exact congrArg _ (hk.and_neg ha)
  have e3 : IntKind.u64.wrap (((2 ^ k : Nat) : Int) * 285870213051353865) = ((2 ^ k * 285870213051353865 % 18446744073709551616 : Nat) : Int) := mul_u64 _ _
  have e4 : shiftA .shr .u64 ((2 ^ k * 285870213051353865 % 18446744073709551616 : Nat) : Int) 58 = some (.int .u64 ((tzI k : Nat) : Int)) := shr_u64 (k := 58) (Nat.mod_lt _ (by decide))
  obtain ⟨t1, t2⟩ := tz_at hk64
  generalize tzI k = q at *
  generalize 2 ^ k * 285870213051353865 % 18446744073709551616 = q2 at *
  generalize 2 ^ k = q1 at *
  have e5 : (0 : Int) ≤ (q : Int) ∧ (q : Int) < ((64 : Nat) : Int) := by omega
  have e6 : cutL (tabL.map fun n => Value.int .u8 n) (0 + q * 1) 1 = some [.int .u8 k] := by
    refine cutL_one ?_
    rw [Nat.zero_add, Nat.mul_one, List.getElem?_map, t2]; rfl
  have e7 : IntKind.i64.wrap (k : Int) = (k : Int) := IntWalk.i64_in _ (by omega)
  have hb := hgl.2
  unfold tabB at hb
  have hg0 : (0 < Tryd.prog.globals.size) = True := by rw [globs]; simp
  refine wpF_of Tryd.func49 rfl rfl rfl rfl (Nat.le_refl _) ?_
  simp only [paramsA]
  repeat (first
  | with_reducible first | apply ops_end | apply d_end | apply k_seq | apply k_seq_ret | apply k_seq_exit | apply k_block | apply k_block_ret | apply k_block_here | apply c_seq | apply c_block | apply c_region | apply c_skip | apply c_ret | apply c_exit | apply c_loop | apply k_loop_exit | apply k_loop_ret | apply if_t | apply if_f
  | (with_reducible apply k_block_on
     · decide)
  | ((with_reducible first | apply xOp | apply xDr | apply xIf); rfl; (simp only [Nat.reduceEqDiff, Nat.reduceAdd, ↓reduceIte, xBB, stG, opA, val, opdA, opdO, plainN, omap, binA, intBinA, loadV, readA, storeV, writeA, fieldAddrA, indexAddrA, lenA, builtinA, newA, unA, packA, Value.cells, e0, e1, e2, e3, e4, hg0, un103', sz5, ty5, e5, e6, hb, convA, un5, un3, e7]; rfl); first | rfl | exact ⟨rfl, rfl, rfl⟩))
  intro _
  ((with_reducible first | apply ret_i | apply ret_n); (simp only [Nat.reduceEqDiff, Nat.reduceAdd, ↓reduceIte, xBB, resA, opdA, opdO, plainN, omap, val, loadV, readA, packA]; rfl))
  exact ⟨rfl, rfl⟩
end Go.Ev

/- set.nodes, slices.Compare, removable.compare, limits.allows. -/
namespace Go.Ev
open Go Go.Proofs
set_option linter.unusedSimpArgs false
set_option linter.unusedVariables false
set_option maxRecDepth 100000
set_option maxHeartbeats 4000000
attribute [local irreducible] wpOps wpC wpD wpF wpLoop wpCall seqK blockK loopK retK T.put T.get T.setF

theorem f34_spec [Sorts Tryd.prog] (a : Nat) (s : HS) (hgl : Glob s) (ha : a < 18446744073709551616) : wpF Tryd.prog s.nx 34 [.int .u64 a] s (fun v s' => ∃ o, Own s' 3 1 o v ((nodesL a 64).map encI) ∧ newer s o) := by
  refine wpF_of Tryd.func34 rfl rfl rfl rfl (Nat.le_refl _) ?_
  simp only [paramsA]
  repeat (first
  | with_reducible first | apply ops_end | apply d_end | apply k_seq | apply k_seq_ret | apply k_seq_exit | apply k_block | apply k_block_ret | apply k_block_here | apply c_seq | apply c_block | apply c_region | apply c_skip | apply c_ret | apply c_exit | apply c_loop | apply k_loop_exit | apply k_loop_ret | apply if_t | apply if_f
  | (with_reducible apply k_block_on
     · decide)
  | ((with_reducible first | apply xOp | apply xDr | apply xIf); rfl; (simp only [Nat.reduceEqDiff, Nat.reduceAdd, ↓reduceIte, xBB, stG, opA, val, opdA, opdO, plainN, omap, binA, intBinA, loadV, readA, storeV, writeA, fieldAddrA, indexAddrA, lenA, builtinA, newA, unA, packA, Value.cells]; rfl); first | rfl | exact ⟨rfl, rfl, rfl⟩))
  refine loop_k (lk' := s.nx) (s0 := s) (fun m f t => m < 18446744073709551616 ∧ f.get 0 = some (.int .u64 m) ∧ ∃ (o : Option Nat) (v : Value) (xs : List Int), f.get 3 = some v ∧ Own t 3 1 o v (xs.map encI) ∧ newer s o ∧ nodesL a 64 = xs ++ nodesL m 64) a (Nat.le_refl _) (Nat.le_refl _) ?_ (Ab.refl _ _) ?_
  · exact ⟨ha, by simp only [Nat.reduceEqDiff, T.get_put, ↓reduceIte], none, .slice none 0 0, [], by simp only [Nat.reduceEqDiff, T.get_put, ↓reduceIte], ⟨rfl, rfl⟩, fun _ h => (by cases h), rfl⟩
  · rintro m f t ⟨hm, h0, o, v, xs, h3, hown, hnew, hxs⟩ hA hF
    by_cases hz : m = 0
    · subst hz
      have e0 : (((0 : Nat) : Int) != 0) = false := rfl
      repeat (first
  | with_reducible first | apply ops_end | apply d_end | apply k_seq | apply k_seq_ret | apply k_seq_exit | apply k_block | apply k_block_ret | apply k_block_here | apply c_seq | apply c_block | apply c_region | apply c_skip | apply c_ret | apply c_exit | apply c_loop | apply k_loop_exit | apply k_loop_ret | apply if_t | apply if_f
  | (with_reducible apply k_block_on
     · decide)
  | ((with_reducible first | apply xOp | apply xDr | apply xIf); rfl; (simp only [Nat.reduceEqDiff, Nat.reduceAdd, ↓reduceIte, xBB, stG, opA, val, opdA, opdO, plainN, omap, binA, intBinA, loadV, readA, storeV, writeA, fieldAddrA, indexAddrA, lenA, builtinA, newA, unA, packA, Value.cells, h0, e0]; rfl); first | rfl | exact ⟨rfl, rfl, rfl⟩))
      intro _ _
      repeat (first
  | with_reducible first | apply ops_end | apply d_end | apply k_seq | apply k_seq_ret | apply k_seq_exit | apply k_block | apply k_block_ret | apply k_block_here | apply c_seq | apply c_block | apply c_region | apply c_skip | apply c_ret | apply c_exit | apply c_loop | apply k_loop_exit | apply k_loop_ret | apply if_t | apply if_f
  | (with_reducible apply k_block_on
     · decide)
  | ((with_reducible first | apply xOp | apply xDr | apply xIf); rfl; (simp only [Nat.reduceEqDiff, Nat.reduceAdd, ↓reduceIte, xBB, stG, opA, val, opdA, opdO, plainN, omap, binA, intBinA, loadV, readA, storeV, writeA, fieldAddrA, indexAddrA, lenA, builtinA, newA, unA, packA, Value.cells, h3]; rfl); first | rfl | exact ⟨rfl, rfl, rfl⟩))
      intro _
      ((with_reducible first | apply ret_i | apply ret_n); (simp only [Nat.reduceEqDiff, Nat.reduceAdd, ↓reduceIte, xBB, resA, opdA, opdO, plainN, omap, val, loadV, readA, packA]; rfl))
      rw [nodesL_zero, List.append_nil] at hxs
      exact ⟨o, by rw [hxs]; exact hown, hnew⟩
    · have e0 : ((m : Int) != 0) = true := by simp; exact hz
      obtain ⟨k, hk⟩ := low_ex m hz
      have hk64 := hk.lt (n := 64) hm
      have e1 : IntKind.u64.wrap ((m : Int) - 1) = ((m - 1 : Nat) : Int) := by
        have : IntKind.u64.wrap ((m : Int) - 1) = ((m : Int) - 1) % 18446744073709551616 := by simp [IntKind.wrap, IntKind.signed, IntKind.bits]
        rw [this]; omega
      have e2 := and_u64 (a := m) (b := m - 1) hm (by omega)
      repeat (first
  | with_reducible first | apply ops_end | apply d_end | apply k_seq | apply k_seq_ret | apply k_seq_exit | apply k_block | apply k_block_ret | apply k_block_here | apply c_seq | apply c_block | apply c_region | apply c_skip | apply c_ret | apply c_exit | apply c_loop | apply k_loop_exit | apply k_loop_ret | apply if_t | apply if_f
  | (with_reducible apply k_block_on
     · decide)
  | ((with_reducible first | apply xOp | apply xDr | apply xIf); rfl; (simp only [Nat.reduceEqDiff, Nat.reduceAdd, ↓reduceIte, xBB, stG, opA, val, opdA, opdO, plainN, omap, binA, intBinA, loadV, readA, storeV, writeA, fieldAddrA, indexAddrA, lenA, builtinA, newA, unA, packA, Value.cells, h0, e0, h3]; rfl); first | rfl | exact ⟨rfl, rfl, rfl⟩))
      ((with_reducible first | apply xCa | apply xCd); rfl; (simp only [Nat.reduceEqDiff, Nat.reduceAdd, ↓reduceIte, xBB, stB, opdA, opdO, plainN, omap, val, Value.cells]; exact ⟨rfl, rfl⟩); try rfl)
      apply call_fn
      refine (f49_spec m k t (hgl.keep hA) hm hk).use hA.nx (Nat.le_refl _) fun v' t' hv hA2 => ?_
      obtain ⟨rfl, rfl⟩ := hv
      refine opt_of rfl ?_
      repeat (first
  | with_reducible first | apply ops_end | apply d_end | apply k_seq | apply k_seq_ret | apply k_seq_exit | apply k_block | apply k_block_ret | apply k_block_here | apply c_seq | apply c_block | apply c_region | apply c_skip | apply c_ret | apply c_exit | apply c_loop | apply k_loop_exit | apply k_loop_ret | apply if_t | apply if_f
  | (with_reducible apply k_block_on
     · decide)
  | ((with_reducible first | apply xOp | apply xDr | apply xIf); rfl; (simp only [Nat.reduceEqDiff, Nat.reduceAdd, ↓reduceIte, xBB, stG, opA, val, opdA, opdO, plainN, omap, binA, intBinA, loadV, readA, storeV, writeA, fieldAddrA, indexAddrA, lenA, builtinA, newA, unA, packA, Value.cells, buildSliceA, el35, sz3, zr3, zerosL, fillA]; rfl); first | rfl | exact ⟨rfl, rfl, rfl⟩))
      ((with_reducible first | apply ops_opt | apply xPd); (first | rfl | exact ⟨rfl, rfl⟩); (simp only [Nat.reduceEqDiff, Nat.reduceAdd, ↓reduceIte, xBB, opA, val, opdA, opdO, plainN, omap, binA, intBinA, loadV, readA, storeV, writeA, fieldAddrA, indexAddrA, lenA, builtinA, newA, unA, packA, Value.cells, un35, h3]; rfl))
      have hown2 : Own { hp := t'.hp.put t'.nx (some (.cells true 3 [.int .i64 k])), nx := t'.nx + 1 } 3 1 o v (xs.map encI) :=
        hown.same (Nat.le_succ _) fun id h => T.get_put_ne _ _ _ (by have := hown.lt h; omega)
      have hlen : xs.length ≤ 64 := by
        have h1 := nodesL_len a 64
        rw [hxs, List.length_append] at h1; omega
      refine opt_ex (app_one (lk := s.nx) (y := [.int .i64 k]) el35 sz3 by3 zr3 rfl (by decide) hown2 hnew (T.get_put_eq _ _ _) rfl rfl (by simp; omega)) fun q hq => ?_
      obtain ⟨v', s1⟩ := q
      obtain ⟨q1, q2, o', q3, q4⟩ := hq
      refine opt_of rfl ?_
      repeat (first
  | with_reducible first | apply ops_end | apply d_end | apply k_seq | apply k_seq_ret | apply k_seq_exit | apply k_block | apply k_block_ret | apply k_block_here | apply c_seq | apply c_block | apply c_region | apply c_skip | apply c_ret | apply c_exit | apply c_loop | apply k_loop_exit | apply k_loop_ret | apply if_t | apply if_f
  | (with_reducible apply k_block_on
     · decide)
  | ((with_reducible first | apply xOp | apply xDr | apply xIf); rfl; (simp only [Nat.reduceEqDiff, Nat.reduceAdd, ↓reduceIte, xBB, stG, opA, val, opdA, opdO, plainN, omap, binA, intBinA, loadV, readA, storeV, writeA, fieldAddrA, indexAddrA, lenA, builtinA, newA, unA, packA, Value.cells, h0, e1, e2]; rfl); first | rfl | exact ⟨rfl, rfl, rfl⟩))
      intro _ _
      refine k_loop_next (m' := m &&& (m - 1)) hk.less ⟨Nat.lt_of_lt_of_le hk.less (Nat.le_of_lt hm), by simp only [Nat.reduceEqDiff, T.get_put, ↓reduceIte], o', v', xs ++ [(k : Int)], by simp only [Nat.reduceEqDiff, T.get_put, ↓reduceIte], ?_, fun id h => ?_, ?_⟩
      · rw [List.map_append]; exact q3
      · rcases q4 with rfl | rfl
        · exact hnew id h
        · cases h; have := hA.nx; show s.nx ≤ t'.nx + 1; omega
      · rw [hxs, hk.nodes64 hm, List.append_assoc]; rfl

/-- slices.Compare. -/
def cmpL : List Int → List Int → Int
  | [], [] => 0
  | [], _ :: _ => -1
  | _ :: _, [] => 1
  | x :: xs, y :: ys => if cmpI x y ≠ 0 then cmpI x y else cmpL xs ys

theorem f48_spec [Sorts Tryd.prog] (a b : List Int) (av bv : Value) (s : HS) (ha : Sl s 1 av (a.map encI)) (hb : Sl s 1 bv (b.map encI)) (hla : a.length < 1000000000) (hlb : b.length < 1000000000) :
    wpF Tryd.prog s.nx 48 [av, bv] s (fun v s' => v = .int .i64 (cmpL a b) ∧ s' = s) := by
  obtain ⟨p1, c1, rfl⟩ := ha.shape
  obtain ⟨p2, c2, rfl⟩ := hb.shape
  simp only [List.length_map] at ha hb ⊢
  refine wpF_of Tryd.func48 rfl rfl rfl rfl (Nat.le_refl _) ?_
  simp only [paramsA]
  repeat (first
  | with_reducible first | apply ops_end | apply d_end | apply k_seq | apply k_seq_ret | apply k_seq_exit | apply k_block | apply k_block_ret | apply k_block_here | apply c_seq | apply c_block | apply c_region | apply c_skip | apply c_ret | apply c_exit | apply c_loop | apply k_loop_exit | apply k_loop_ret | apply if_t | apply if_f
  | (with_reducible apply k_block_on
     · decide)
  | ((with_reducible first | apply xOp | apply xDr | apply xIf); rfl; (simp only [Nat.reduceEqDiff, Nat.reduceAdd, ↓reduceIte, xBB, stG, opA, val, opdA, opdO, plainN, omap, binA, intBinA, loadV, readA, storeV, writeA, fieldAddrA, indexAddrA, lenA, builtinA, newA, unA, packA, Value.cells, un35]; rfl); first | rfl | exact ⟨rfl, rfl, rfl⟩))
  refine loop_k (lk' := s.nx) (s0 := s) (fun m f t => t = s ∧ ∃ k : Nat, k + m = a.length ∧ f.get 11 = some (.int .i64 k) ∧ cmpL a b = cmpL (a.drop k) (b.drop k) ∧ k ≤ b.length) a.length (Nat.le_refl _) (Nat.le_refl _) ?_ (Ab.refl _ _) ?_
  · exact ⟨rfl, 0, by omega, by simp only [Nat.reduceEqDiff, T.get_put, ↓reduceIte]; rfl, rfl, Nat.zero_le _⟩
  · rintro m f t ⟨rfl, k, hk, h11, hc, hkb⟩ hA hF
    (have k0 := hF 0 (by rfl); simp only [Nat.reduceEqDiff, T.get_put, ↓reduceIte] at k0; have k1 := hF 1 (by rfl); simp only [Nat.reduceEqDiff, T.get_put, ↓reduceIte] at k1; have k9 := hF 9 (by rfl); simp only [Nat.reduceEqDiff, T.get_put, ↓reduceIte] at k9; have k10 := hF 10 (by rfl); simp only [Nat.reduceEqDiff, T.get_put, ↓reduceIte] at k10)
    by_cases hlt : (k : Int) < (a.length : Int)
    · have hlt' : k < a.length := by omega
      have hw : IntKind.i64.wrap ((k : Int) + 1) = ((k + 1 : Nat) : Int) := by rw [IntWalk.i64_in _ (by omega)]; rfl
      have hba : (0 : Int) ≤ (k : Int) ∧ (k : Int) < (a.length : Int) := by omega
      have ha' := ha
      have hb' := hb
      rw [show a.length = (a.map encI).length by simp] at ha'
      rw [show b.length = (b.map encI).length by simp] at hb'
      obtain ⟨id, off, wr, e, cs, rfl, g1, g2, g3, g4⟩ := ha'.at (i := k) (x := encI a[k]) (by simp [hlt'])
      simp only [encI] at g3
      rw [List.drop_eq_getElem_cons hlt'] at hc
      by_cases hge : (k : Int) ≥ (b.length : Int)
      · repeat (first
  | with_reducible first | apply ops_end | apply d_end | apply k_seq | apply k_seq_ret | apply k_seq_exit | apply k_block | apply k_block_ret | apply k_block_here | apply c_seq | apply c_block | apply c_region | apply c_skip | apply c_ret | apply c_exit | apply c_loop | apply k_loop_exit | apply k_loop_ret | apply if_t | apply if_f
  | (with_reducible apply k_block_on
     · decide)
  | ((with_reducible first | apply xOp | apply xDr | apply xIf); rfl; (simp only [Nat.reduceEqDiff, Nat.reduceAdd, ↓reduceIte, xBB, stG, opA, val, opdA, opdO, plainN, omap, binA, intBinA, loadV, readA, storeV, writeA, fieldAddrA, indexAddrA, lenA, builtinA, newA, unA, packA, Value.cells, h11, k0, k1, k9, k10, hlt, un35, sz3, ty3, hba, g1, g3, hge]; rfl); first | rfl | exact ⟨rfl, rfl, rfl⟩))
        intro _ _
        repeat (first
  | with_reducible first | apply ops_end | apply d_end | apply k_seq | apply k_seq_ret | apply k_seq_exit | apply k_block | apply k_block_ret | apply k_block_here | apply c_seq | apply c_block | apply c_region | apply c_skip | apply c_ret | apply c_exit | apply c_loop | apply k_loop_exit | apply k_loop_ret | apply if_t | apply if_f
  | (with_reducible apply k_block_on
     · decide)
  | ((with_reducible first | apply xOp | apply xDr | apply xIf); rfl; (simp only [Nat.reduceEqDiff, Nat.reduceAdd, ↓reduceIte, xBB, stG, opA, val, opdA, opdO, plainN, omap, binA, intBinA, loadV, readA, storeV, writeA, fieldAddrA, indexAddrA, lenA, builtinA, newA, unA, packA, Value.cells]; rfl); first | rfl | exact ⟨rfl, rfl, rfl⟩))
        intro _
        ((with_reducible first | apply ret_i | apply ret_n); (simp only [Nat.reduceEqDiff, Nat.reduceAdd, ↓reduceIte, xBB, resA, opdA, opdO, plainN, omap, val, loadV, readA, packA]; rfl))
        have : k = b.length := by omega
        subst this
        rw [List.drop_length] at hc
        exact ⟨by rw [hc]; rfl, rfl⟩
      · have hltb : k < b.length := by omega
        have hbb : (0 : Int) ≤ (k : Int) ∧ (k : Int) < (b.length : Int) := by omega
        obtain ⟨id2, off2, wr2, e2, cs2, rfl, r1, r2, r3, r4⟩ := hb'.at (i := k) (x := encI b[k]) (by simp [hltb])
        simp only [encI] at r3
        rw [List.drop_eq_getElem_cons hltb] at hc
        repeat (first
  | with_reducible first | apply ops_end | apply d_end | apply k_seq | apply k_seq_ret | apply k_seq_exit | apply k_block | apply k_block_ret | apply k_block_here | apply c_seq | apply c_block | apply c_region | apply c_skip | apply c_ret | apply c_exit | apply c_loop | apply k_loop_exit | apply k_loop_ret | apply if_t | apply if_f
  | (with_reducible apply k_block_on
     · decide)
  | ((with_reducible first | apply xOp | apply xDr | apply xIf); rfl; (simp only [Nat.reduceEqDiff, Nat.reduceAdd, ↓reduceIte, xBB, stG, opA, val, opdA, opdO, plainN, omap, binA, intBinA, loadV, readA, storeV, writeA, fieldAddrA, indexAddrA, lenA, builtinA, newA, unA, packA, Value.cells, h11, k0, k1, k9, k10, hlt, un35, sz3, ty3, hba, hbb, g1, g3, hge, r1, r3]; rfl); first | rfl | exact ⟨rfl, rfl, rfl⟩))
        ((with_reducible first | apply xCa | apply xCd); rfl; (simp only [Nat.reduceEqDiff, Nat.reduceAdd, ↓reduceIte, xBB, stB, opdA, opdO, plainN, omap, val, Value.cells]; exact ⟨rfl, rfl⟩); try rfl)
        apply call_fn
        refine (f47_spec a[k] b[k] t).mono fun v t' hv => ?_
        obtain ⟨rfl, rfl⟩ := hv
        refine opt_of rfl ?_
        by_cases hne : cmpI a[k] b[k] = 0
        · have e0 : (cmpI a[k] b[k] != 0) = false := by simp [hne]
          repeat (first
  | with_reducible first | apply ops_end | apply d_end | apply k_seq | apply k_seq_ret | apply k_seq_exit | apply k_block | apply k_block_ret | apply k_block_here | apply c_seq | apply c_block | apply c_region | apply c_skip | apply c_ret | apply c_exit | apply c_loop | apply k_loop_exit | apply k_loop_ret | apply if_t | apply if_f
  | (with_reducible apply k_block_on
     · decide)
  | ((with_reducible first | apply xOp | apply xDr | apply xIf); rfl; (simp only [Nat.reduceEqDiff, Nat.reduceAdd, ↓reduceIte, xBB, stG, opA, val, opdA, opdO, plainN, omap, binA, intBinA, loadV, readA, storeV, writeA, fieldAddrA, indexAddrA, lenA, builtinA, newA, unA, packA, Value.cells, e0, h11, hw]; rfl); first | rfl | exact ⟨rfl, rfl, rfl⟩))
          intro _ _
          refine k_loop_next (m' := m - 1) (by omega) ⟨rfl, k + 1, by omega, by simp only [Nat.reduceEqDiff, T.get_put, ↓reduceIte], ?_, by omega⟩
          rw [hc, cmpL, if_neg (by simpa using hne)]
        · have e0 : (cmpI a[k] b[k] != 0) = true := by simp [hne]
          repeat (first
  | with_reducible first | apply ops_end | apply d_end | apply k_seq | apply k_seq_ret | apply k_seq_exit | apply k_block | apply k_block_ret | apply k_block_here | apply c_seq | apply c_block | apply c_region | apply c_skip | apply c_ret | apply c_exit | apply c_loop | apply k_loop_exit | apply k_loop_ret | apply if_t | apply if_f
  | (with_reducible apply k_block_on
     · decide)
  | ((with_reducible first | apply xOp | apply xDr | apply xIf); rfl; (simp only [Nat.reduceEqDiff, Nat.reduceAdd, ↓reduceIte, xBB, stG, opA, val, opdA, opdO, plainN, omap, binA, intBinA, loadV, readA, storeV, writeA, fieldAddrA, indexAddrA, lenA, builtinA, newA, unA, packA, Value.cells, e0]; rfl); first | rfl | exact ⟨rfl, rfl, rfl⟩))
          intro _ _
          repeat (first
  | with_reducible first | apply ops_end | apply d_end | apply k_seq | apply k_seq_ret | apply k_seq_exit | apply k_block | apply k_block_ret | apply k_block_here | apply c_seq | apply c_block | apply c_region | apply c_skip | apply c_ret | apply c_exit | apply c_loop | apply k_loop_exit | apply k_loop_ret | apply if_t | apply if_f
  | (with_reducible apply k_block_on
     · decide)
  | ((with_reducible first | apply xOp | apply xDr | apply xIf); rfl; (simp only [Nat.reduceEqDiff, Nat.reduceAdd, ↓reduceIte, xBB, stG, opA, val, opdA, opdO, plainN, omap, binA, intBinA, loadV, readA, storeV, writeA, fieldAddrA, indexAddrA, lenA, builtinA, newA, unA, packA, Value.cells]; rfl); first | rfl | exact ⟨rfl, rfl, rfl⟩))
          intro _
          ((with_reducible first | apply ret_i | apply ret_n); (simp only [Nat.reduceEqDiff, Nat.reduceAdd, ↓reduceIte, xBB, resA, opdA, opdO, plainN, omap, val, loadV, readA, packA]; rfl))
          exact ⟨by rw [hc, cmpL, if_pos hne]; rfl, rfl⟩
    · have hkn : k = a.length := by omega
      subst hkn
      rw [List.drop_length] at hc
      by_cases hl : (a.length : Int) < (b.length : Int)
      · repeat (first
  | with_reducible first | apply ops_end | apply d_end | apply k_seq | apply k_seq_ret | apply k_seq_exit | apply k_block | apply k_block_ret | apply k_block_here | apply c_seq | apply c_block | apply c_region | apply c_skip | apply c_ret | apply c_exit | apply c_loop | apply k_loop_exit | apply k_loop_ret | apply if_t | apply if_f
  | (with_reducible apply k_block_on
     · decide)
  | ((with_reducible first | apply xOp | apply xDr | apply xIf); rfl; (simp only [Nat.reduceEqDiff, Nat.reduceAdd, ↓reduceIte, xBB, stG, opA, val, opdA, opdO, plainN, omap, binA, intBinA, loadV, readA, storeV, writeA, fieldAddrA, indexAddrA, lenA, builtinA, newA, unA, packA, Value.cells, h11, k0, k1, k9, k10, hlt, un35, hl]; rfl); first | rfl | exact ⟨rfl, rfl, rfl⟩))
        intro _ _
        repeat (first
  | with_reducible first | apply ops_end | apply d_end | apply k_seq | apply k_seq_ret | apply k_seq_exit | apply k_block | apply k_block_ret | apply k_block_here | apply c_seq | apply c_block | apply c_region | apply c_skip | apply c_ret | apply c_exit | apply c_loop | apply k_loop_exit | apply k_loop_ret | apply if_t | apply if_f
  | (with_reducible apply k_block_on
     · decide)
  | ((with_reducible first | apply xOp | apply xDr | apply xIf); rfl; (simp only [Nat.reduceEqDiff, Nat.reduceAdd, ↓reduceIte, xBB, stG, opA, val, opdA, opdO, plainN, omap, binA, intBinA, loadV, readA, storeV, writeA, fieldAddrA, indexAddrA, lenA, builtinA, newA, unA, packA, Value.cells, k0, k1, un35, hl]; rfl); first | rfl | exact ⟨rfl, rfl, rfl⟩))
        intro _
        ((with_reducible first | apply ret_i | apply ret_n); (simp only [Nat.reduceEqDiff, Nat.reduceAdd, ↓reduceIte, xBB, resA, opdA, opdO, plainN, omap, val, loadV, readA, packA]; rfl))
        rw [List.drop_eq_getElem_cons (by omega)] at hc
        exact ⟨by rw [hc]; rfl, rfl⟩
      · repeat (first
  | with_reducible first | apply ops_end | apply d_end | apply k_seq | apply k_seq_ret | apply k_seq_exit | apply k_block | apply k_block_ret | apply k_block_here | apply c_seq | apply c_block | apply c_region | apply c_skip | apply c_ret | apply c_exit | apply c_loop | apply k_loop_exit | apply k_loop_ret | apply if_t | apply if_f
  | (with_reducible apply k_block_on
     · decide)
  | ((with_reducible first | apply xOp | apply xDr | apply xIf); rfl; (simp only [Nat.reduceEqDiff, Nat.reduceAdd, ↓reduceIte, xBB, stG, opA, val, opdA, opdO, plainN, omap, binA, intBinA, loadV, readA, storeV, writeA, fieldAddrA, indexAddrA, lenA, builtinA, newA, unA, packA, Value.cells, h11, k0, k1, k9, k10, hlt, un35, hl]; rfl); first | rfl | exact ⟨rfl, rfl, rfl⟩))
        intro _ _
        repeat (first
  | with_reducible first | apply ops_end | apply d_end | apply k_seq | apply k_seq_ret | apply k_seq_exit | apply k_block | apply k_block_ret | apply k_block_here | apply c_seq | apply c_block | apply c_region | apply c_skip | apply c_ret | apply c_exit | apply c_loop | apply k_loop_exit | apply k_loop_ret | apply if_t | apply if_f
  | (with_reducible apply k_block_on
     · decide)
  | ((with_reducible first | apply xOp | apply xDr | apply xIf); rfl; (simp only [Nat.reduceEqDiff, Nat.reduceAdd, ↓reduceIte, xBB, stG, opA, val, opdA, opdO, plainN, omap, binA, intBinA, loadV, readA, storeV, writeA, fieldAddrA, indexAddrA, lenA, builtinA, newA, unA, packA, Value.cells, k0, k1, un35, hl]; rfl); first | rfl | exact ⟨rfl, rfl, rfl⟩))
        intro _
        ((with_reducible first | apply ret_i | apply ret_n); (simp only [Nat.reduceEqDiff, Nat.reduceAdd, ↓reduceIte, xBB, resA, opdA, opdO, plainN, omap, val, loadV, readA, packA]; rfl))
        rw [List.drop_eq_nil_of_le (by omega)] at hc
        exact ⟨by rw [hc]; rfl, rfl⟩

/-- removable.compare. -/
def cmpS (a b : Nat) : Int := orI [cmpI (onesI a) (onesI b), cmpL (nodesL a 64) (nodesL b 64)]

theorem f33_spec [Sorts Tryd.prog] (a b : Nat) (s : HS) (hgl : Glob s) (ha : a < 18446744073709551616) (hb : b < 18446744073709551616) : wpF Tryd.prog s.nx 33 [.int .u64 a, .int .u64 b] s (fun v s' => v = .int .i64 (cmpS a b)) := by
  refine wpF_of Tryd.func33 rfl rfl rfl rfl (Nat.le_refl _) ?_
  simp only [paramsA]
  repeat (first
  | with_reducible first | apply ops_end | apply d_end | apply k_seq | apply k_seq_ret | apply k_seq_exit | apply k_block | apply k_block_ret | apply k_block_here | apply c_seq | apply c_block | apply c_region | apply c_skip | apply c_ret | apply c_exit | apply c_loop | apply k_loop_exit | apply k_loop_ret | apply if_t | apply if_f
  | (with_reducible apply k_block_on
     · decide)
  | ((with_reducible first | apply xOp | apply xDr | apply xIf); rfl; (simp only [Nat.reduceEqDiff, Nat.reduceAdd, ↓reduceIte, xBB, stG, opA, val, opdA, opdO, plainN, omap, binA, intBinA, loadV, readA, storeV, writeA, fieldAddrA, indexAddrA, lenA, builtinA, newA, unA, packA, Value.cells]; rfl); first | rfl | exact ⟨rfl, rfl, rfl⟩))
  ((with_reducible first | apply xCa | apply xCd); rfl; (simp only [Nat.reduceEqDiff, Nat.reduceAdd, ↓reduceIte, xBB, stB, opdA, opdO, plainN, omap, val, Value.cells]; exact ⟨rfl, rfl⟩); try rfl)
  apply call_fn
  refine (f45_spec a s ha).mono fun v s1 hv => ?_
  obtain ⟨rfl, rfl⟩ := hv
  refine opt_of rfl ?_
  repeat (first
  | with_reducible first | apply ops_end | apply d_end | apply k_seq | apply k_seq_ret | apply k_seq_exit | apply k_block | apply k_block_ret | apply k_block_here | apply c_seq | apply c_block | apply c_region | apply c_skip | apply c_ret | apply c_exit | apply c_loop | apply k_loop_exit | apply k_loop_ret | apply if_t | apply if_f
  | (with_reducible apply k_block_on
     · decide)
  | ((with_reducible first | apply xOp | apply xDr | apply xIf); rfl; (simp only [Nat.reduceEqDiff, Nat.reduceAdd, ↓reduceIte, xBB, stG, opA, val, opdA, opdO, plainN, omap, binA, intBinA, loadV, readA, storeV, writeA, fieldAddrA, indexAddrA, lenA, builtinA, newA, unA, packA, Value.cells]; rfl); first | rfl | exact ⟨rfl, rfl, rfl⟩))
  ((with_reducible first | apply xCa | apply xCd); rfl; (simp only [Nat.reduceEqDiff, Nat.reduceAdd, ↓reduceIte, xBB, stB, opdA, opdO, plainN, omap, val, Value.cells]; exact ⟨rfl, rfl⟩); try rfl)
  apply call_fn
  refine (f45_spec b s1 hb).mono fun v s2 hv => ?_
  obtain ⟨rfl, rfl⟩ := hv
  refine opt_of rfl ?_
  repeat (first
  | with_reducible first | apply ops_end | apply d_end | apply k_seq | apply k_seq_ret | apply k_seq_exit | apply k_block | apply k_block_ret | apply k_block_here | apply c_seq | apply c_block | apply c_region | apply c_skip | apply c_ret | apply c_exit | apply c_loop | apply k_loop_exit | apply k_loop_ret | apply if_t | apply if_f
  | (with_reducible apply k_block_on
     · decide)
  | ((with_reducible first | apply xOp | apply xDr | apply xIf); rfl; (simp only [Nat.reduceEqDiff, Nat.reduceAdd, ↓reduceIte, xBB, stG, opA, val, opdA, opdO, plainN, omap, binA, intBinA, loadV, readA, storeV, writeA, fieldAddrA, indexAddrA, lenA, builtinA, newA, unA, packA, Value.cells]; rfl); first | rfl | exact ⟨rfl, rfl, rfl⟩))
  ((with_reducible first | apply xCa | apply xCd); rfl; (simp only [Nat.reduceEqDiff, Nat.reduceAdd, ↓reduceIte, xBB, stB, opdA, opdO, plainN, omap, val, Value.cells]; exact ⟨rfl, rfl⟩); try rfl)
  apply call_fn
  refine (f47_spec _ _ s2).mono fun v s3 hv => ?_
  obtain ⟨rfl, rfl⟩ := hv
  refine opt_of rfl ?_
  repeat (first
  | with_reducible first | apply ops_end | apply d_end | apply k_seq | apply k_seq_ret | apply k_seq_exit | apply k_block | apply k_block_ret | apply k_block_here | apply c_seq | apply c_block | apply c_region | apply c_skip | apply c_ret | apply c_exit | apply c_loop | apply k_loop_exit | apply k_loop_ret | apply if_t | apply if_f
  | (with_reducible apply k_block_on
     · decide)
  | ((with_reducible first | apply xOp | apply xDr | apply xIf); rfl; (simp only [Nat.reduceEqDiff, Nat.reduceAdd, ↓reduceIte, xBB, stG, opA, val, opdA, opdO, plainN, omap, binA, intBinA, loadV, readA, storeV, writeA, fieldAddrA, indexAddrA, lenA, builtinA, newA, unA, packA, Value.cells]; rfl); first | rfl | exact ⟨rfl, rfl, rfl⟩))
  ((with_reducible first | apply xCa | apply xCd); rfl; (simp only [Nat.reduceEqDiff, Nat.reduceAdd, ↓reduceIte, xBB, stB, opdA, opdO, plainN, omap, val, Value.cells]; exact ⟨rfl, rfl⟩); try rfl)
  apply call_fn
  refine (f34_spec a s3 hgl ha).use (Nat.le_refl _) (Nat.le_refl _) fun v s4 hv hA4 => ?_
  obtain ⟨o1, ho1, hn1⟩ := hv
  refine opt_of rfl ?_
  repeat (first
  | with_reducible first | apply ops_end | apply d_end | apply k_seq | apply k_seq_ret | apply k_seq_exit | apply k_block | apply k_block_ret | apply k_block_here | apply c_seq | apply c_block | apply c_region | apply c_skip | apply c_ret | apply c_exit | apply c_loop | apply k_loop_exit | apply k_loop_ret | apply if_t | apply if_f
  | (with_reducible apply k_block_on
     · decide)
  | ((with_reducible first | apply xOp | apply xDr | apply xIf); rfl; (simp only [Nat.reduceEqDiff, Nat.reduceAdd, ↓reduceIte, xBB, stG, opA, val, opdA, opdO, plainN, omap, binA, intBinA, loadV, readA, storeV, writeA, fieldAddrA, indexAddrA, lenA, builtinA, newA, unA, packA, Value.cells]; rfl); first | rfl | exact ⟨rfl, rfl, rfl⟩))
  ((with_reducible first | apply xCa | apply xCd); rfl; (simp only [Nat.reduceEqDiff, Nat.reduceAdd, ↓reduceIte, xBB, stB, opdA, opdO, plainN, omap, val, Value.cells]; exact ⟨rfl, rfl⟩); try rfl)
  apply call_fn
  refine (f34_spec b s4 (hgl.keep hA4) hb).use hA4.nx (Nat.le_refl _) fun w s5 hv hA5 => ?_
  obtain ⟨o2, ho2, hn2⟩ := hv
  have l1 := nodesL_len a 64
  have l2 := nodesL_len b 64
  refine opt_of rfl ?_
  repeat (first
  | with_reducible first | apply ops_end | apply d_end | apply k_seq | apply k_seq_ret | apply k_seq_exit | apply k_block | apply k_block_ret | apply k_block_here | apply c_seq | apply c_block | apply c_region | apply c_skip | apply c_ret | apply c_exit | apply c_loop | apply k_loop_exit | apply k_loop_ret | apply if_t | apply if_f
  | (with_reducible apply k_block_on
     · decide)
  | ((with_reducible first | apply xOp | apply xDr | apply xIf); rfl; (simp only [Nat.reduceEqDiff, Nat.reduceAdd, ↓reduceIte, xBB, stG, opA, val, opdA, opdO, plainN, omap, binA, intBinA, loadV, readA, storeV, writeA, fieldAddrA, indexAddrA, lenA, builtinA, newA, unA, packA, Value.cells]; rfl); first | rfl | exact ⟨rfl, rfl, rfl⟩))
  ((with_reducible first | apply xCa | apply xCd); rfl; (simp only [Nat.reduceEqDiff, Nat.reduceAdd, ↓reduceIte, xBB, stB, opdA, opdO, plainN, omap, val, Value.cells]; exact ⟨rfl, rfl⟩); try rfl)
  apply call_fn
  refine (f48_spec _ _ _ _ s5 (ho1.sl.keep hA5) ho2.sl (by omega) (by omega)).use (Nat.le_trans hA4.nx hA5.nx) (Nat.le_refl _) fun u s6 hv _ => ?_
  obtain ⟨rfl, rfl⟩ := hv
  refine opt_of rfl ?_
  repeat (first
  | with_reducible first | apply ops_end | apply d_end | apply k_seq | apply k_seq_ret | apply k_seq_exit | apply k_block | apply k_block_ret | apply k_block_here | apply c_seq | apply c_block | apply c_region | apply c_skip | apply c_ret | apply c_exit | apply c_loop | apply k_loop_exit | apply k_loop_ret | apply if_t | apply if_f
  | (with_reducible apply k_block_on
     · decide)
  | ((with_reducible first | apply xOp | apply xDr | apply xIf); rfl; (simp only [Nat.reduceEqDiff, Nat.reduceAdd, ↓reduceIte, xBB, stG, opA, val, opdA, opdO, plainN, omap, binA, intBinA, loadV, readA, storeV, writeA, fieldAddrA, indexAddrA, lenA, builtinA, newA, unA, packA, Value.cells, buildSliceA, el35, sz3, zr3, zerosL, fillA, putL]; rfl); first | rfl | exact ⟨rfl, rfl, rfl⟩))
  ((with_reducible first | apply xCa | apply xCd); rfl; (simp only [Nat.reduceEqDiff, Nat.reduceAdd, ↓reduceIte, xBB, stB, opdA, opdO, plainN, omap, val, Value.cells]; exact ⟨rfl, rfl⟩); try rfl)
  apply call_fn
  refine (f46_spec [cmpI (onesI a) (onesI b), cmpL (nodesL a 64) (nodesL b 64)] _ _ ?_ (by simp)).use ?_ (Nat.le_refl _) fun v s7 hv _ => ?_
  · exact Sl.block (post := []) (T.get_put_eq _ _ _) rfl (Nat.lt_succ_self _) rfl (Sl.map fun _ => rfl)
  · have h1 := hA4.nx
    have h2 := hA5.nx
    show s3.nx ≤ s6.nx + 1; omega
  obtain ⟨rfl, rfl⟩ := hv
  refine opt_of rfl ?_
  repeat (first
  | with_reducible first | apply ops_end | apply d_end | apply k_seq | apply k_seq_ret | apply k_seq_exit | apply k_block | apply k_block_ret | apply k_block_here | apply c_seq | apply c_block | apply c_region | apply c_skip | apply c_ret | apply c_exit | apply c_loop | apply k_loop_exit | apply k_loop_ret | apply if_t | apply if_f
  | (with_reducible apply k_block_on
     · decide)
  | ((with_reducible first | apply xOp | apply xDr | apply xIf); rfl; (simp only [Nat.reduceEqDiff, Nat.reduceAdd, ↓reduceIte, xBB, stG, opA, val, opdA, opdO, plainN, omap, binA, intBinA, loadV, readA, storeV, writeA, fieldAddrA, indexAddrA, lenA, builtinA, newA, unA, packA, Value.cells]; rfl); first | rfl | exact ⟨rfl, rfl, rfl⟩))
  intro _
  ((with_reducible first | apply ret_i | apply ret_n); (simp only [Nat.reduceEqDiff, Nat.reduceAdd, ↓reduceIte, xBB, resA, opdA, opdO, plainN, omap, val, loadV, readA, packA]; rfl))
  rfl

theorem f43_spec [Sorts Tryd.prog] (a b : Nat) (s : HS) (hgl : Glob s) (ha : a < 18446744073709551616) (hb : b < 18446744073709551616) : wpF Tryd.prog s.nx 43 [.int .u64 a, .int .u64 b] s (fun v s' => v = .int .i64 (cmpS a b)) := by
  refine wpF_of Tryd.func43 rfl rfl rfl rfl (Nat.le_refl _) ?_
  simp only [paramsA]
  repeat (first
  | with_reducible first | apply ops_end | apply d_end | apply k_seq | apply k_seq_ret | apply k_seq_exit | apply k_block | apply k_block_ret | apply k_block_here | apply c_seq | apply c_block | apply c_region | apply c_skip | apply c_ret | apply c_exit | apply c_loop | apply k_loop_exit | apply k_loop_ret | apply if_t | apply if_f
  | (with_reducible apply k_block_on
     · decide)
  | ((with_reducible first | apply xOp | apply xDr | apply xIf); rfl; (simp only [Nat.reduceEqDiff, Nat.reduceAdd, ↓reduceIte, xBB, stG, opA, val, opdA, opdO, plainN, omap, binA, intBinA, loadV, readA, storeV, writeA, fieldAddrA, indexAddrA, lenA, builtinA, newA, unA, packA, Value.cells]; rfl); first | rfl | exact ⟨rfl, rfl, rfl⟩))
  ((with_reducible first | apply xCa | apply xCd); rfl; (simp only [Nat.reduceEqDiff, Nat.reduceAdd, ↓reduceIte, xBB, stB, opdA, opdO, plainN, omap, val, Value.cells]; exact ⟨rfl, rfl⟩); try rfl)
  apply call_fn
  refine (f33_spec a b s hgl ha hb).use (Nat.le_refl _) (Nat.le_refl _) fun v s1 hv _ => ?_
  subst hv
  refine opt_of rfl ?_
  repeat (first
  | with_reducible first | apply ops_end | apply d_end | apply k_seq | apply k_seq_ret | apply k_seq_exit | apply k_block | apply k_block_ret | apply k_block_here | apply c_seq | apply c_block | apply c_region | apply c_skip | apply c_ret | apply c_exit | apply c_loop | apply k_loop_exit | apply k_loop_ret | apply if_t | apply if_f
  | (with_reducible apply k_block_on
     · decide)
  | ((with_reducible first | apply xOp | apply xDr | apply xIf); rfl; (simp only [Nat.reduceEqDiff, Nat.reduceAdd, ↓reduceIte, xBB, stG, opA, val, opdA, opdO, plainN, omap, binA, intBinA, loadV, readA, storeV, writeA, fieldAddrA, indexAddrA, lenA, builtinA, newA, unA, packA, Value.cells]; rfl); first | rfl | exact ⟨rfl, rfl, rfl⟩))
  intro _
  ((with_reducible first | apply ret_i | apply ret_n); (simp only [Nat.reduceEqDiff, Nat.reduceAdd, ↓reduceIte, xBB, resA, opdA, opdO, plainN, omap, val, loadV, readA, packA]; rfl))
  rfl
end Go.Ev
