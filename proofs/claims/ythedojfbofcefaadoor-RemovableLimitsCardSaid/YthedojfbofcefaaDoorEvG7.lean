import Derived.Test.YthedojfbofcefaaDoorEvG4
/- graph.next. -/
namespace Go.Ev
open Go Go.Proofs
set_option linter.unusedSimpArgs false
set_option linter.unusedVariables false
set_option maxRecDepth 100000
set_option maxHeartbeats 4000000
attribute [local irreducible] wpOps wpC wpD wpF wpLoop wpCall seqK blockK loopK retK T.put T.get T.setF

/-- A list of numbers in a block of its own. -/
structure Row where
  o : Option Nat
  v : Value
  xs : List Int

def RowsOK (t : HS) (lo ob : Nat) (rs : List Row) : Prop :=
  (∀ r ∈ rs, Own t 3 1 r.o r.v (r.xs.map encI) ∧ ∀ id, r.o = some id → lo ≤ id ∧ id ≠ ob) ∧
  ∀ (i j : Nat) (ri rj : Row), rs[i]? = some ri → rs[j]? = some rj → i ≠ j → ∀ id, ri.o = some id → rj.o ≠ some id

theorem RowsOK.set {t u : HS} {lo ob i : Nat} {rs : List Row} {r r' : Row} (h : RowsOK t lo ob rs) (hi : rs[i]? = some r) (hn : t.nx ≤ u.nx) (hlo : lo ≤ t.nx) (hob : ob < t.nx)
    (hsame : ∀ id, id < t.nx → r.o ≠ some id → id ≠ ob → u.hp.get id = t.hp.get id) (hown : Own u 3 1 r'.o r'.v (r'.xs.map encI)) (ho : ∀ id, r'.o = some id → r.o = some id ∨ t.nx ≤ id) : RowsOK u lo ob (rs.set i r') := by
  have hil : i < rs.length := (List.getElem?_eq_some_iff.1 hi).1
  have key : ∀ j rj, (rs.set i r')[j]? = some rj → (j = i ∧ rj = r') ∨ (j ≠ i ∧ rs[j]? = some rj) := fun j rj hj => by
    rw [List.getElem?_set] at hj
    by_cases hji : i = j
    · rw [if_pos hji, if_pos hil] at hj; cases hj; exact Or.inl ⟨hji.symm, rfl⟩
    · rw [if_neg hji] at hj; exact Or.inr ⟨fun e => hji e.symm, hj⟩
  refine ⟨fun q hq => ?_, fun a b ra rb ha hb hab id h1 h2 => ?_⟩
  · obtain ⟨j, hj⟩ := List.getElem?_of_mem hq
    rcases key j q hj with ⟨rfl, rfl⟩ | ⟨hne, hj'⟩
    · refine ⟨hown, fun id h1 => ?_⟩
      rcases ho id h1 with h2 | h2
      · exact (h.1 r (List.mem_of_getElem? hi)).2 id h2
      · exact ⟨by omega, by omega⟩
    · obtain ⟨g1, g2⟩ := h.1 q (List.mem_of_getElem? hj')
      exact ⟨g1.same hn fun id h1 => hsame id (g1.lt h1) (fun e => h.2 i j r q hi hj' (fun e => hne e.symm) id e h1) (g2 id h1).2, g2⟩
  · rcases key a ra ha with ⟨rfl, rfl⟩ | ⟨ha1, ha2⟩ <;> rcases key b rb hb with ⟨rfl, rfl⟩ | ⟨hb1, hb2⟩
    · exact hab rfl
    · rcases ho id h1 with h3 | h3
      · exact h.2 _ _ r rb hi hb2 hab id h3 h2
      · have := (h.1 rb (List.mem_of_getElem? hb2)).1.lt h2; omega
    · rcases ho id h2 with h3 | h3
      · exact h.2 _ _ ra r ha2 hi hab id h1 h3
      · have := (h.1 ra (List.mem_of_getElem? ha2)).1.lt h1; omega
    · exact h.2 _ _ ra rb ha2 hb2 hab id h1 h2

/-- A graph in which the edges join its nodes. -/
structure GoodG (n : Int) (es : List (Int × Int)) : Prop where
  lo : 0 ≤ n
  hi : n ≤ 64
  len : es.length ≤ 4096
  ins : ∀ e ∈ es, 0 ≤ e.1 ∧ e.1 < n ∧ 0 ≤ e.2 ∧ e.2 < n

/-- Where edges lead from a node, in their order. -/
def succL (es : List (Int × Int)) (k : Int) : List Int := (es.filter fun e => decide (e.1 = k)).map (·.2)

theorem succL_take {es : List (Int × Int)} {k : Nat} (hk : k < es.length) (i : Int) : succL (es.take (k + 1)) i = if es[k].1 = i then succL (es.take k) i ++ [es[k].2] else succL (es.take k) i := by
  unfold succL
  rw [List.take_succ_eq_append_getElem hk, List.filter_append, List.map_append]
  by_cases h : es[k].1 = i
  · rw [if_pos h, List.filter_cons_of_pos (by simpa using h)]; rfl
  · rw [if_neg h, List.filter_cons_of_neg (by simpa using h)]; simp

theorem zerosL_map (z : Value) (n : Nat) : zerosL [z] n = ((List.replicate n [z]).flatten : List Value) := by
  induction n with
  | zero => rfl
  | succ n ih => rw [zerosL, ih, List.replicate_succ, List.flatten_cons]

theorem f69_spec [Sorts Tryd.prog] (n : Int) (es : List (Int × Int)) (ev : Value) (s : HS) (hs : Sl s 2 ev (es.map encE)) (hg : GoodG n es) :
    wpF Tryd.prog s.nx 69 [vG n ev] s (fun v s' => ∃ (ob : Nat) (rs : List Row), s.nx ≤ ob ∧ Own s' 35 1 (some ob) v (rs.map fun r => [r.v]) ∧ RowsOK s' s.nx ob rs ∧ rs.length = n.toNat ∧ ∀ (i : Nat) (r : Row), rs[i]? = some r → r.xs = succL es i) := by
  obtain ⟨b, c, rfl⟩ := hs.shape
  obtain ⟨hn0, hn1, hlen, hins⟩ := hg
  refine wpF_of Tryd.func69 rfl rfl rfl rfl (Nat.le_refl _) ?_
  simp only [paramsA, vG]
  have hA0 := Ab.new (lk := s.nx) s (.cells true 28 [.int .i64 n, .slice b (es.map encE).length c])
  have hmk : makeSliceA Tryd.prog 30 (.int .i64 n) (.int .i64 n) { hp := s.hp.put s.nx (some (.cells true 28 [.int .i64 n, .slice b (es.map encE).length c])), nx := s.nx + 1 } =
      some (.slice (some ⟨s.nx + 1, 0, none⟩) n.toNat n.toNat, { hp := (s.hp.put s.nx (some (.cells true 28 [.int .i64 n, .slice b (es.map encE).length c]))).put (s.nx + 1) (some (.cells true 35 (zerosL [.slice none 0 0] n.toNat))), nx := s.nx + 1 + 1 }) := by
    unfold makeSliceA
    simp only [el30, sz35, by35, zr35, Option.bind_some]
    rw [if_pos ⟨rfl, by decide, by omega, Int.le_refl _, by omega, by omega⟩]
    rfl
  repeat (first
  | with_reducible first | apply ops_end | apply d_end | apply k_seq | apply k_seq_ret | apply k_seq_exit | apply k_block | apply k_block_ret | apply k_block_here | apply c_seq | apply c_block | apply c_region | apply c_skip | apply c_ret | apply c_exit | apply c_loop | apply k_loop_exit | apply k_loop_ret | apply if_t | apply if_f
  | (with_reducible apply k_block_on
     · decide)
  | ((with_reducible first | apply xOp | apply xDr | apply xIf); rfl; (simp only [Nat.reduceEqDiff, Nat.reduceAdd, ↓reduceIte, xBB, stG, opA, val, opdA, opdO, plainN, omap, binA, intBinA, loadV, readA, storeV, writeA, fieldAddrA, indexAddrA, lenA, builtinA, newA, unA, packA, Value.cells, ty28, sz28, fd28_0, fd28_1, ty3, ty26, un26, hmk]; rfl); first | rfl | exact ⟨rfl, rfl, rfl⟩))
  have hA1 := Ab.new (lk := s.nx) { hp := s.hp.put s.nx (some (.cells true 28 [.int .i64 n, .slice b (es.map encE).length c])), nx := s.nx + 1 } (.cells true 35 (zerosL [.slice none 0 0] n.toNat))
  refine loop_k (lk' := s.nx) (s0 := ⟨_, s.nx + 2⟩) (fun m f t => ∃ k : Nat, k + m = es.length ∧ f.get 12 = some (.int .i64 k) ∧
    ∃ rs : List Row, Own t 35 1 (some (s.nx + 1)) (.slice (some ⟨s.nx + 1, 0, none⟩) n.toNat n.toNat) (rs.map fun r => [r.v]) ∧ RowsOK t s.nx (s.nx + 1) rs ∧ rs.length = n.toNat ∧
      ∀ (i : Nat) (r : Row), rs[i]? = some r → r.xs = succL (es.take k) i) es.length (Nat.le_refl _) (by show s.nx ≤ s.nx + 2; omega) ?_ (Ab.refl _ _) ?_
  · refine ⟨0, by omega, by simp only [Nat.reduceEqDiff, T.get_put, ↓reduceIte]; rfl, List.replicate n.toNat ⟨none, .slice none 0 0, []⟩, ?_, ⟨fun r hr => ?_, fun i j ri rj h1 h2 _ id h3 => ?_⟩, by simp, fun i r hr => ?_⟩
    · refine Own.block (T.get_put_eq _ _ _) ?_ (Nat.lt_succ_self _) (by simp) (Or.inl rfl) (fun x hx => ?_) (by simp only [List.length_map, List.length_replicate]; unfold UNK; omega)
      · rw [zerosL_map, List.map_replicate]
      · rw [List.map_replicate] at hx; obtain rfl := (List.mem_replicate.1 hx).2; exact ⟨rfl, rfl⟩
    · obtain rfl := (List.mem_replicate.1 hr).2; exact ⟨⟨rfl, rfl⟩, fun id h => by cases h⟩
    · obtain rfl := (List.mem_replicate.1 (List.mem_of_getElem? h1)).2; cases h3
    · obtain rfl := (List.mem_replicate.1 (List.mem_of_getElem? hr)).2; rfl
  · rintro m f t ⟨k, hk, h12, rs, hob, hrows, hrl, hxs⟩ hA hF
    (have k3 := hF 3 (by rfl); simp only [Nat.reduceEqDiff, T.get_put, ↓reduceIte] at k3; have k10 := hF 10 (by rfl); simp only [Nat.reduceEqDiff, T.get_put, ↓reduceIte] at k10; have k11 := hF 11 (by rfl); simp only [Nat.reduceEqDiff, T.get_put, ↓reduceIte] at k11)
    by_cases hlt : (k : Int) < ((es.map encE).length : Int)
    · have hlt' : k < es.length := by simp at hlt; omega
      have hs2 := hs.keep ((hA0.trans hA1).trans hA)
      obtain ⟨id, off, wr, e, cs, rfl, g1, g2, g3, g4⟩ := hs2.at (i := k) (x := encE es[k]) (by simp [hlt'])
      have hb : (0 : Int) ≤ (k : Int) ∧ (k : Int) < ((es.map encE).length : Int) := ⟨by omega, hlt⟩
      simp only [encE] at g3
      obtain ⟨q1, q2, q3, q4⟩ := hins es[k] (List.getElem_mem hlt')
      obtain ⟨i, hi⟩ : ∃ i : Nat, es[k].1 = (i : Int) := ⟨es[k].1.toNat, by omega⟩
      rw [hi] at g3
      have hir : i < rs.length := by omega
      have hri : rs[i]? = some rs[i] := List.getElem?_eq_getElem hir
      have hb2 : (0 : Int) ≤ (i : Int) ∧ (i : Int) < (n.toNat : Int) := by omega
      obtain ⟨_, _, wr2, e2, cs2, hh, o1, o2, o3, o4⟩ := hob.sl.at (i := i) (x := [rs[i].v]) (by simp [hir])
      simp only [Option.some.injEq, Addr.mk.injEq] at hh; obtain ⟨rfl, rfl, _⟩ := hh
      have hne1 : ¬ id = t.nx := by omega
      have hne2 : ¬ s.nx + 1 = t.nx := by omega
      have hle : s.nx ≤ t.nx := by omega
      repeat (first
  | with_reducible first | apply ops_end | apply d_end | apply k_seq | apply k_seq_ret | apply k_seq_exit | apply k_block | apply k_block_ret | apply k_block_here | apply c_seq | apply c_block | apply c_region | apply c_skip | apply c_ret | apply c_exit | apply c_loop | apply k_loop_exit | apply k_loop_ret | apply if_t | apply if_f
  | (with_reducible apply k_block_on
     · decide)
  | ((with_reducible first | apply xOp | apply xDr | apply xIf); rfl; (simp only [Nat.reduceEqDiff, Nat.reduceAdd, ↓reduceIte, xBB, stG, opA, val, opdA, opdO, plainN, omap, binA, intBinA, loadV, readA, storeV, writeA, fieldAddrA, indexAddrA, lenA, builtinA, newA, unA, packA, Value.cells, h12, k11, k10, hlt, un26, sz58, ty58, zr58, hb, g1, g3, hne1, hne2, hle]; rfl); first | rfl | exact ⟨rfl, rfl, rfl⟩))
      refine c_draw [⟨false, [], none⟩, ⟨false, [], none⟩, ⟨false, [], some [2]⟩, ⟨false, [], none⟩, ⟨false, [], none⟩, ⟨false, [], none⟩, ⟨false, [], none⟩, ⟨false, [], none⟩, ⟨false, [], none⟩, ⟨false, [5, 7], none⟩, ⟨false, [5, 7], none⟩, ⟨true, [2], none⟩, ⟨true, [], none⟩, ⟨true, [], none⟩] (by kernel_rfl) ?_
      repeat (first
      | with_reducible first | apply ops_end | apply d_end | apply k_seq | apply k_seq_ret | apply k_seq_exit | apply k_block | apply k_block_ret | apply k_block_here | apply c_seq | apply c_block | apply c_region | apply c_skip | apply c_ret | apply c_exit | apply c_loop | apply k_loop_exit | apply k_loop_ret
      | (with_reducible apply k_block_on
         · decide)
      | ((first
          | (with_reducible apply ops_do
             · rfl)
          | (with_reducible apply d_same
             · rfl
             · rfl))
         · (simp only [Nat.reduceEqDiff, opA, val, opdA, opdO, T.get_put, ↓reduceIte, Nat.add_assoc, Nat.reduceAdd, Nat.left_eq_add, Nat.add_eq_left, Nat.add_left_cancel_iff, Nat.add_zero, plainN, omap, Option.map_some, Option.bind_some, Nat.le_add_right, Nat.le_refl, binA, intBinA, loadV, readA, storeV, writeA, fieldAddrA, indexAddrA, lenA, builtinA, newA, unA, packA, if_true, and_self, and_true, true_and, Value.cells, Int.toNat_natCast, decide_true, decide_false, cond_true, cond_false, k3, fd58_0, fd58_1, ty3, un30, sz35, ty35, hb2, o1, hne2, o3, buildSliceA, el35, sz3, zr3, zerosL, fillA, putL]; rfl)
         · rfl
         try (· rfl))
      | ((first
          | (with_reducible apply d_do
             · rfl
             · rfl)
          | (with_reducible apply d_quiet
             · rfl
             · rfl
             · rfl))
         · (simp only [Nat.reduceEqDiff, opA, val, opdA, opdO, T.get_put, ↓reduceIte, Nat.add_assoc, Nat.reduceAdd, Nat.left_eq_add, Nat.add_eq_left, Nat.add_left_cancel_iff, Nat.add_zero, plainN, omap, Option.map_some, Option.bind_some, Nat.le_add_right, Nat.le_refl, binA, intBinA, loadV, readA, storeV, writeA, fieldAddrA, indexAddrA, lenA, builtinA, newA, unA, packA, if_true, and_self, and_true, true_and, Value.cells, Int.toNat_natCast, decide_true, decide_false, cond_true, cond_false, k3, fd58_0, fd58_1, ty3, un30, sz35, ty35, hb2, o1, hne2, o3, buildSliceA, el35, sz3, zr3, zerosL, fillA, putL]; rfl)
         first
         | · rfl
         | (· (simp only [Nat.reduceEqDiff, loadBlk, opdA, T.get_put, ↓reduceIte, k3, fd58_0, fd58_1, ty3, un30, sz35, ty35, hb2, o1, hne2, o3, buildSliceA, el35, sz3, zr3, zerosL, fillA, putL]; rfl)
            · rfl))
      | ((first
          | with_reducible apply ops_skipG
          | (with_reducible apply d_skip
             · rfl))
         · rfl
         · rfl
         · (simp only [Nat.reduceEqDiff, T.get_put, ↓reduceIte, k3, fd58_0, fd58_1, ty3, un30, sz35, ty35, hb2, o1, hne2, o3, buildSliceA, el35, sz3, zr3, zerosL, fillA, putL]; rfl)
         · (simp only [decide_true, decide_false, k3, fd58_0, fd58_1, ty3, un30, sz35, ty35, hb2, o1, hne2, o3, buildSliceA, el35, sz3, zr3, zerosL, fillA, putL, bt_tf, bt_ft, bt_tt, bt_ff]; done)
         · rfl)
      | ((first
          | with_reducible apply ops_doG
          | (with_reducible apply d_sameG
             · rfl))
         · rfl
         · rfl
         · (simp only [Nat.reduceEqDiff, T.get_put, ↓reduceIte, k3, fd58_0, fd58_1, ty3, un30, sz35, ty35, hb2, o1, hne2, o3, buildSliceA, el35, sz3, zr3, zerosL, fillA, putL]; rfl)
         · (simp only [decide_true, decide_false, k3, fd58_0, fd58_1, ty3, un30, sz35, ty35, hb2, o1, hne2, o3, buildSliceA, el35, sz3, zr3, zerosL, fillA, putL, bt_tf, bt_ft, bt_tt, bt_ff]; done)
         · (simp only [Nat.reduceEqDiff, opA, val, opdA, opdO, T.get_put, ↓reduceIte, Nat.add_assoc, Nat.reduceAdd, Nat.left_eq_add, Nat.add_eq_left, Nat.add_left_cancel_iff, Nat.add_zero, plainN, omap, Option.map_some, Option.bind_some, Nat.le_add_right, Nat.le_refl, binA, intBinA, loadV, readA, storeV, writeA, fieldAddrA, indexAddrA, lenA, builtinA, newA, unA, packA, if_true, and_self, and_true, true_and, Value.cells, Int.toNat_natCast, decide_true, decide_false, cond_true, cond_false, k3, fd58_0, fd58_1, ty3, un30, sz35, ty35, hb2, o1, hne2, o3, buildSliceA, el35, sz3, zr3, zerosL, fillA, putL]; rfl)
         · rfl
         try (· rfl))
      | (with_reducible apply c_if
         · (simp only [Nat.reduceEqDiff, opdA, opdO, T.get_put, ↓reduceIte, Nat.add_assoc, Nat.reduceAdd, Nat.left_eq_add, Nat.add_eq_left, Nat.add_left_cancel_iff, Nat.add_zero, plainN, omap, Option.map_some, Option.bind_some, Nat.le_add_right, Nat.le_refl, decide_true, decide_false, k3, fd58_0, fd58_1, ty3, un30, sz35, ty35, hb2, o1, hne2, o3, buildSliceA, el35, sz3, zr3, zerosL, fillA, putL]; rfl)
         with_reducible first | apply if_t | apply if_f))
      obtain ⟨hrow, hrlo⟩ := hrows.1 rs[i] (List.getElem_mem hir)
      have hxi := hxs i rs[i] hri
      have hxl : rs[i].xs.length ≤ es.length := by
        rw [hxi]; unfold succL
        rw [List.length_map]
        exact Nat.le_trans (List.length_filter_le _ _) (by rw [List.length_take]; omega)
      refine d_hid rfl rfl rfl fun sh hshn hshg => ⟨_, by simp only [Nat.reduceEqDiff, opA, val, opdA, opdO, T.get_put, ↓reduceIte, Nat.add_assoc, Nat.reduceAdd, Nat.left_eq_add, Nat.add_eq_left, Nat.add_left_cancel_iff, Nat.add_zero, plainN, omap, Option.map_some, Option.bind_some, Nat.le_add_right, Nat.le_refl, binA, intBinA, loadV, readA, storeV, writeA, fieldAddrA, indexAddrA, lenA, builtinA, newA, unA, packA, if_true, and_self, and_true, true_and, Value.cells, Int.toNat_natCast, decide_true, decide_false, cond_true, cond_false, un35]; rfl, ?_⟩
      have hrow2 : Own sh 3 1 rs[i].o rs[i].v (rs[i].xs.map encI) := hrow.same (by rw [hshn]; show t.nx ≤ t.nx + 2; omega) fun id h => by
        have := hrow.lt h
        rw [hshg, if_neg (by omega)]
        simp only [T.get_put]
        rw [if_neg (by omega), if_neg (by omega), if_neg (by omega)]
      have hy : sh.hp.get (t.nx + 1) = some (.cells true 3 [.int .i64 es[k].2]) := by
        rw [hshg, if_neg (by omega)]
        simp only [T.get_put, ↓reduceIte]; rfl
      refine opt_ex (app_one (lk := s.nx) (y := [.int .i64 es[k].2]) el35 sz3 by3 zr3 rfl (by decide) hrow2 (fun id h => (hrlo id h).1) hy rfl rfl (by simp; omega)) fun q hq => ?_
      obtain ⟨v', s5⟩ := q
      obtain ⟨p1, p2, o', p3, p4⟩ := hq
      dsimp only at p1 p2 p3
      intro s6 h6n h6g
      dsimp only at h6n h6g
      rw [hshn] at p1 p2
      dsimp only at p1 p2
      -- what is ars it was
      have hsame : ∀ id, id < t.nx → rs[i].o ≠ some id → s6.hp.get id = t.hp.get id := fun id h1 h2 => by
        rw [h6g, if_neg (by omega), p2 id (by omega) h2, hshg, if_neg (by omega)]
        simp only [T.get_put]
        rw [if_neg (by omega), if_neg (by omega), if_neg (by omega)]
      have hobs : s6.hp.get (s.nx + 1) = t.hp.get (s.nx + 1) := hsame _ o2 fun h => (hrlo _ h).2 rfl
      obtain ⟨off3, cap3, cs3, hh3, w1, w2, w3⟩ := hob.set (i := i) (x := [v']) (by simp [hir]) rfl (by
        obtain ⟨_, _, hv'⟩ := p3.shape
        rw [hv']; rfl)
      simp only [Value.slice.injEq, Option.some.injEq, Addr.mk.injEq] at hh3; obtain ⟨⟨_, rfl, _⟩, _, _⟩ := hh3
      obtain ⟨vb, vc, rfl⟩ := p3.shape
      rw [← hobs] at w1
      have hle3 : s.nx ≤ s.nx + 1 := Nat.le_succ _
      have hone : ([Value.slice vb (rs[i].xs.map encI ++ [[Value.int .i64 es[k].2]]).length vc] : List Value).all Value.oneCell' = true := rfl
      have hw : IntKind.i64.wrap ((k : Int) + 1) = ((k + 1 : Nat) : Int) := by rw [IntWalk.i64_in _ (by omega)]; rfl
      have hl1 : ([Value.slice vb (rs[i].xs.map encI ++ [[Value.int .i64 es[k].2]]).length vc] : List Value).length = 1 := rfl
      have w2' : 0 + (i * 1 + 1) ≤ cs3.length := by rw [← Nat.add_assoc]; exact w2
      refine opt_of rfl ?_
      repeat (first
  | with_reducible first | apply ops_end | apply d_end | apply k_seq | apply k_seq_ret | apply k_seq_exit | apply k_block | apply k_block_ret | apply k_block_here | apply c_seq | apply c_block | apply c_region | apply c_skip | apply c_ret | apply c_exit | apply c_loop | apply k_loop_exit | apply k_loop_ret | apply if_t | apply if_f
  | (with_reducible apply k_block_on
     · decide)
  | ((with_reducible first | apply xOp | apply xDr | apply xIf); rfl; (simp only [Nat.reduceEqDiff, Nat.reduceAdd, ↓reduceIte, xBB, stG, opA, val, opdA, opdO, plainN, omap, binA, intBinA, loadV, readA, storeV, writeA, fieldAddrA, indexAddrA, lenA, builtinA, newA, unA, packA, Value.cells, k3, un30, sz35, ty35, hb2, w1, hl1, w2', hle3, hone, List.toList_toArray, h12, hw]; rfl); first | rfl | exact ⟨rfl, rfl, rfl⟩))
      intro _ _
      refine k_loop_next (m' := m - 1) (by omega) ⟨k + 1, by omega, by simp only [Nat.reduceEqDiff, T.get_put, ↓reduceIte], rs.set i ⟨o', .slice vb (rs[i].xs.map encI ++ [[Value.int .i64 es[k].2]]).length vc, rs[i].xs ++ [es[k].2]⟩, ?_, ?_, by simp [hrl], ?_⟩
      · rw [List.map_set]
        refine w3 _ ?_ (T.get_put_eq _ _ _)
        show t.nx ≤ s6.nx; omega
      · refine hrows.set hri (by show t.nx ≤ s6.nx; omega) hle o2 (fun id h1 h2 h3 => ?_) ?_ (fun id h => ?_)
        · show (T.put s6.hp _ _).get id = _
          rw [T.get_put_ne _ _ _ h3]
          exact hsame id h1 h2
        · refine (?_ : Own _ 3 1 o' _ ((rs[i].xs ++ [es[k].2]).map encI))
          rw [List.map_append]
          refine p3.same (by show s5.nx ≤ s6.nx; omega) fun id h => ?_
          have hlt2 := p3.lt h
          have hno : id ≠ s.nx + 1 ∧ id ≠ t.nx := by
            rcases p4 with rfl | rfl
            · have := hrow.lt h; exact ⟨(hrlo id h).2, by omega⟩
            · cases h; rw [hshn]; dsimp only; omega
          show (T.put s6.hp _ _).get id = _
          rw [T.get_put_ne _ _ _ hno.1, h6g, if_neg hno.2]
        · rcases p4 with rfl | rfl
          · exact Or.inl h
          · cases h; rw [hshn]; exact Or.inr (Nat.le_add_right _ _)
      · intro j r hr
        rw [succL_take hlt', hi]
        rw [List.getElem?_set] at hr
        by_cases hij : i = j
        · subst hij
          rw [if_pos rfl, if_pos hir] at hr; cases hr
          rw [if_pos rfl, ← hxi]
        · rw [if_neg hij] at hr
          rw [if_neg (by omega)]
          exact hxs j r hr
    · have hke : es.take k = es := List.take_of_length_le (by simp at hlt; omega)
      rw [hke] at hxs
      repeat (first
  | with_reducible first | apply ops_end | apply d_end | apply k_seq | apply k_seq_ret | apply k_seq_exit | apply k_block | apply k_block_ret | apply k_block_here | apply c_seq | apply c_block | apply c_region | apply c_skip | apply c_ret | apply c_exit | apply c_loop | apply k_loop_exit | apply k_loop_ret | apply if_t | apply if_f
  | (with_reducible apply k_block_on
     · decide)
  | ((with_reducible first | apply xOp | apply xDr | apply xIf); rfl; (simp only [Nat.reduceEqDiff, Nat.reduceAdd, ↓reduceIte, xBB, stG, opA, val, opdA, opdO, plainN, omap, binA, intBinA, loadV, readA, storeV, writeA, fieldAddrA, indexAddrA, lenA, builtinA, newA, unA, packA, Value.cells, h12, k11, hlt]; rfl); first | rfl | exact ⟨rfl, rfl, rfl⟩))
      intro _ _
      repeat (first
  | with_reducible first | apply ops_end | apply d_end | apply k_seq | apply k_seq_ret | apply k_seq_exit | apply k_block | apply k_block_ret | apply k_block_here | apply c_seq | apply c_block | apply c_region | apply c_skip | apply c_ret | apply c_exit | apply c_loop | apply k_loop_exit | apply k_loop_ret | apply if_t | apply if_f
  | (with_reducible apply k_block_on
     · decide)
  | ((with_reducible first | apply xOp | apply xDr | apply xIf); rfl; (simp only [Nat.reduceEqDiff, Nat.reduceAdd, ↓reduceIte, xBB, stG, opA, val, opdA, opdO, plainN, omap, binA, intBinA, loadV, readA, storeV, writeA, fieldAddrA, indexAddrA, lenA, builtinA, newA, unA, packA, Value.cells, k3]; rfl); first | rfl | exact ⟨rfl, rfl, rfl⟩))
      intro _
      ((with_reducible first | apply ret_i | apply ret_n); (simp only [Nat.reduceEqDiff, Nat.reduceAdd, ↓reduceIte, xBB, resA, opdA, opdO, plainN, omap, val, loadV, readA, packA]; rfl))
      exact ⟨s.nx + 1, rs, Nat.le_succ _, hob, hrows, hrl, hxs⟩
end Go.Ev

/- The plain law of graph.reach: a breadth-first search marks what is reached. -/
set_option linter.unusedSimpArgs false
set_option linter.unusedVariables false
namespace Go.Ev
open Go

/-- Edges lead from a to b. -/
inductive Rch (es : List (Int × Int)) : Int → Int → Prop
  | refl (a : Int) : Rch es a a
  | step {a b c : Int} (h : Rch es a b) (e : (b, c) ∈ es) : Rch es a c

theorem Rch.trans {es : List (Int × Int)} {a b c : Int} (h : Rch es a b) (k : Rch es b c) : Rch es a c := by
  induction k with
  | refl => exact h
  | step _ e ih => exact .step ih e

theorem Rch.inside {n : Int} {es : List (Int × Int)} (hg : GoodG n es) {a b : Int} (h : Rch es a b) (ha : 0 ≤ a ∧ a < n) : 0 ≤ b ∧ b < n := by
  induction h with
  | refl => exact ha
  | step _ e _ => exact ⟨(hg.ins _ e).2.2.1, (hg.ins _ e).2.2.2⟩

theorem mem_succL {es : List (Int × Int)} {k y : Int} : y ∈ succL es k ↔ (k, y) ∈ es := by
  unfold succL
  simp only [List.mem_map, List.mem_filter, decide_eq_true_eq]
  constructor
  · rintro ⟨⟨a, b⟩, ⟨h1, h2⟩, h3⟩; subst h2 h3; exact h1
  · intro h; exact ⟨(k, y), ⟨h, rfl⟩, rfl⟩

/-- The node x is marked. -/
def Mk (seen : List Bool) (x : Int) : Prop := 0 ≤ x ∧ seen[x.toNat]? = some true

theorem Mk.set {seen : List Bool} {i : Nat} (hi : i < seen.length) {x : Int} : Mk (seen.set i true) x ↔ Mk seen x ∨ x = (i : Int) := by
  unfold Mk
  rw [List.getElem?_set]
  by_cases h : i = x.toNat
  · rw [if_pos h, if_pos hi]
    constructor
    · rintro ⟨h1, _⟩; exact Or.inr (by omega)
    · rintro (h1 | h1)
      · exact ⟨h1.1, rfl⟩
      · exact ⟨by omega, rfl⟩
  · rw [if_neg h]
    constructor
    · exact Or.inl
    · rintro (h1 | h1)
      · exact h1
      · omega

theorem count_set : ∀ {seen : List Bool} {i : Nat}, seen[i]? = some false → (seen.set i true).count false + 1 = seen.count false := by
  intro seen
  induction seen with
  | nil => intro i h; simp at h
  | cons b l ih =>
    intro i h
    cases i with
    | zero =>
      simp only [List.getElem?_cons_zero, Option.some.injEq] at h; subst h
      simp
    | succ i =>
      simp only [List.getElem?_cons_succ] at h
      have := ih h
      rw [List.set_cons_succ, List.count_cons, List.count_cons]
      omega

/-- What holds while a search goes on: K are the nodes in hand. -/
structure Bfs (n : Int) (es : List (Int × Int)) (from_ : List Int) (queue : List Int) (seen : List Bool) (K : Int → Prop) : Prop where
  len : seen.length = n.toNat
  que : ∀ x ∈ queue, 0 ≤ x ∧ x < n ∧ Mk seen x
  frm : ∀ x ∈ from_, Mk seen x
  rch : ∀ x, Mk seen x → ∃ f ∈ from_, Rch es f x
  clo : ∀ x, Mk seen x → x ∈ queue ∨ K x ∨ ∀ y ∈ succL es x, Mk seen y

theorem Bfs.pop {n : Int} {es : List (Int × Int)} {from_ queue : List Int} {seen : List Bool} {k : Int} (h : Bfs n es from_ (k :: queue) seen fun _ => False) : Bfs n es from_ queue seen fun x => x = k where
  len := h.len
  que := fun x hx => h.que x (List.mem_cons_of_mem _ hx)
  frm := h.frm
  rch := h.rch
  clo := fun x hx => by
    rcases h.clo x hx with h1 | h1 | h1
    · rcases List.mem_cons.1 h1 with h2 | h2
      · exact Or.inr (Or.inl h2)
      · exact Or.inl h2
    · cases h1
    · exact Or.inr (Or.inr h1)

theorem Bfs.mark {n : Int} {es : List (Int × Int)} {from_ queue : List Int} {seen : List Bool} {k : Int} {i : Nat} (h : Bfs n es from_ queue seen fun x => x = k) (hk : Mk seen k) (hi : i < seen.length) (he : (k, (i : Int)) ∈ es) :
    Bfs n es from_ (queue ++ [(i : Int)]) (seen.set i true) fun x => x = k where
  len := by rw [List.length_set]; exact h.len
  que := fun x hx => by
    rcases List.mem_append.1 hx with h1 | h1
    · obtain ⟨a, b, c⟩ := h.que x h1; exact ⟨a, b, (Mk.set hi).2 (Or.inl c)⟩
    · obtain rfl := List.mem_singleton.1 h1
      have := h.len
      exact ⟨by omega, by omega, (Mk.set hi).2 (Or.inr rfl)⟩
  frm := fun x hx => (Mk.set hi).2 (Or.inl (h.frm x hx))
  rch := fun x hx => by
    rcases (Mk.set hi).1 hx with h1 | h1
    · exact h.rch x h1
    · obtain ⟨f, h2, h3⟩ := h.rch k hk
      exact ⟨f, h2, by rw [h1]; exact .step h3 he⟩
  clo := fun x hx => by
    rcases (Mk.set hi).1 hx with h1 | h1
    · rcases h.clo x h1 with h2 | h2 | h2
      · exact Or.inl (List.mem_append_left _ h2)
      · exact Or.inr (Or.inl h2)
      · exact Or.inr (Or.inr fun y hy => (Mk.set hi).2 (Or.inl (h2 y hy)))
    · exact Or.inl (List.mem_append_right _ (by rw [h1]; exact List.mem_singleton.2 rfl))

theorem Bfs.done1 {n : Int} {es : List (Int × Int)} {from_ queue : List Int} {seen : List Bool} {k : Int} (h : Bfs n es from_ queue seen fun x => x = k) (hk : ∀ y ∈ succL es k, Mk seen y) : Bfs n es from_ queue seen fun _ => False where
  len := h.len
  que := h.que
  frm := h.frm
  rch := h.rch
  clo := fun x hx => by
    rcases h.clo x hx with h1 | h1 | h1
    · exact Or.inl h1
    · exact Or.inr (Or.inr (by rw [h1]; exact hk))
    · exact Or.inr (Or.inr h1)

theorem Bfs.all {n : Int} {es : List (Int × Int)} {from_ : List Int} {seen : List Bool} (h : Bfs n es from_ [] seen fun _ => False) (x : Int) : Mk seen x ↔ ∃ f ∈ from_, Rch es f x := by
  refine ⟨h.rch x, ?_⟩
  rintro ⟨f, hf, hr⟩
  induction hr with
  | refl => exact h.frm _ hf
  | step _ e ih =>
    rcases h.clo _ ih with h1 | h1 | h1
    · cases h1
    · cases h1
    · exact h1 _ (mem_succL.2 e)
end Go.Ev

/- graph.reach. -/
namespace Go.Ev
open Go Go.Proofs
set_option linter.unusedSimpArgs false
set_option linter.unusedVariables false
set_option maxRecDepth 100000
set_option maxHeartbeats 4000000
attribute [local irreducible] wpOps wpC wpD wpF wpLoop wpCall seqK blockK loopK retK T.put T.get T.setF

theorem f59_spec [Sorts Tryd.prog] (n : Int) (es : List (Int × Int)) (ev : Value) (l : List Int) (lv : Value) (s : HS) (hs : Sl s 2 ev (es.map encE)) (hl : Sl s 1 lv (l.map encI)) (hg : GoodG n es) (hll : l.length < 1000000) (hin : ∀ x ∈ l, 0 ≤ x ∧ x < n) :
    wpF Tryd.prog s.nx 59 [vG n ev, lv] s (fun v s' => ∃ (o : Nat) (seen : List Bool), s.nx ≤ o ∧ Own s' 4 1 (some o) v (seen.map encB) ∧ seen.length = n.toNat ∧ ∀ x, Mk seen x ↔ ∃ f ∈ l, Rch es f x) := by
  obtain ⟨b, c, rfl⟩ := hl.shape
  refine wpF_of Tryd.func59 rfl rfl rfl rfl (Nat.le_refl _) ?_
  simp only [paramsA, vG]
  repeat (first
  | with_reducible first | apply ops_end | apply d_end | apply k_seq | apply k_seq_ret | apply k_seq_exit | apply k_block | apply k_block_ret | apply k_block_here | apply c_seq | apply c_block | apply c_region | apply c_skip | apply c_ret | apply c_exit | apply c_loop | apply k_loop_exit | apply k_loop_ret | apply if_t | apply if_f
  | (with_reducible apply k_block_on
     · decide)
  | ((with_reducible first | apply xOp | apply xDr | apply xIf); rfl; (simp only [Nat.reduceEqDiff, Nat.reduceAdd, ↓reduceIte, xBB, stG, opA, val, opdA, opdO, plainN, omap, binA, intBinA, loadV, readA, storeV, writeA, fieldAddrA, indexAddrA, lenA, builtinA, newA, unA, packA, Value.cells]; rfl); first | rfl | exact ⟨rfl, rfl, rfl⟩))
  have hA0 := Ab.new (lk := s.nx) s (.cells true 28 [.int .i64 n, ev])
  refine c_draw [⟨false, [], none⟩, ⟨false, [], none⟩, ⟨false, [], none⟩, ⟨false, [0, 1], none⟩, ⟨false, [0, 1], none⟩, ⟨false, [], none⟩, ⟨true, [], none⟩] (by kernel_rfl) ?_
  repeat (first
  | with_reducible first | apply ops_end | apply d_end | apply k_seq | apply k_seq_ret | apply k_seq_exit | apply k_block | apply k_block_ret | apply k_block_here | apply c_seq | apply c_block | apply c_region | apply c_skip | apply c_ret | apply c_exit | apply c_loop | apply k_loop_exit | apply k_loop_ret | apply if_t | apply if_f
  | (with_reducible apply k_block_on
     · decide)
  | ((with_reducible first | apply xOp | apply xDr | apply xIf); rfl; (simp only [Nat.reduceEqDiff, Nat.reduceAdd, ↓reduceIte, xBB, stG, opA, val, opdA, opdO, plainN, omap, binA, intBinA, loadV, readA, storeV, writeA, fieldAddrA, indexAddrA, lenA, builtinA, newA, unA, packA, Value.cells, ty28]; rfl); first | rfl | exact ⟨rfl, rfl, rfl⟩))
  ((with_reducible first | apply xCa | apply xCd); rfl; (simp only [Nat.reduceEqDiff, Nat.reduceAdd, ↓reduceIte, xBB, stB, opdA, opdO, plainN, omap, val, Value.cells]; exact ⟨rfl, rfl⟩); try rfl)
  apply call_fn
  refine (f69_spec n es ev _ (hs.keep hA0) hg).use (by first | exact Nat.le_refl _ | (simp only [cond_true, cond_false]; omega) | omega | (dsimp only; omega)) (by first | exact Nat.le_refl _ | (simp only [cond_true, cond_false]; omega) | omega | (dsimp only; omega)) fun v s1 hv hA1 => ?_
  obtain ⟨ob, rs, hob0, hob, hrows, hrl, hxs⟩ := hv
  dsimp only at hob0
  have hn1 := hA1.nx
  dsimp only at hn1
  have hbox := hA1.get (Nat.le_refl _) (Nat.lt_succ_self s.nx)
  rw [T.get_put_eq] at hbox
  refine opt_of rfl ?_
  repeat (first
  | with_reducible first | apply ops_end | apply d_end | apply k_seq | apply k_seq_ret | apply k_seq_exit | apply k_block | apply k_block_ret | apply k_block_here | apply c_seq | apply c_block | apply c_region | apply c_skip | apply c_ret | apply c_exit | apply c_loop | apply k_loop_exit | apply k_loop_ret | apply if_t | apply if_f
  | (with_reducible apply k_block_on
     · decide)
  | ((with_reducible first | apply xOp | apply xDr | apply xIf); rfl; (simp only [Nat.reduceEqDiff, Nat.reduceAdd, ↓reduceIte, xBB, stG, opA, val, opdA, opdO, plainN, omap, binA, intBinA, loadV, readA, storeV, writeA, fieldAddrA, indexAddrA, lenA, builtinA, newA, unA, packA, Value.cells, fd28_0]; rfl); first | rfl | exact ⟨rfl, rfl, rfl⟩))
  (first
      | (with_reducible apply d_lowS (lo := s.nx + 1)
         · rfl
         · rfl
         · rfl
         · (intro m hm hmm; simp only [List.mem_cons, List.not_mem_nil, or_false] at hm; first | (obtain rfl := hm; dsimp only; omega) | (rcases hm with rfl | rfl <;> first | omega | (dsimp only; omega) | (exfalso; revert hmm; decide)) | (rcases hm with rfl | rfl | rfl <;> first | omega | (dsimp only; omega) | (exfalso; revert hmm; decide)))
         · (intro sh hshn hshg; have l_hbox := (hshg _ (by omega)).trans hbox; simp only [Nat.reduceEqDiff, opA, val, opdA, opdO, T.get_put, ↓reduceIte, Nat.add_assoc, Nat.reduceAdd, Nat.left_eq_add, Nat.add_eq_left, Nat.add_left_cancel_iff, Nat.add_zero, plainN, omap, Option.map_some, Option.bind_some, Nat.le_add_right, Nat.le_refl, binA, intBinA, loadV, readA, storeV, writeA, fieldAddrA, indexAddrA, lenA, builtinA, newA, unA, packA, if_true, and_self, and_true, true_and, Value.cells, Int.toNat_natCast, decide_true, decide_false, cond_true, cond_false, ty3, l_hbox]; rfl)
         · rfl))
  intro s2 h2n h2g
  have hA2 : Ab s1.nx s1 s2 := Ab.ofEq h2n h2g
  have hmk : ∀ s : HS, makeSliceA Tryd.prog 95 (.int .i64 n) (.int .i64 n) s = some (.slice (some ⟨s.nx, 0, none⟩) n.toNat n.toNat, { hp := s.hp.put s.nx (some (.cells true 4 (zerosL [.bool false] n.toNat))), nx := s.nx + 1 }) := fun s => by
    obtain ⟨_, _, _, _⟩ := hg
    unfold makeSliceA
    simp only [el95, sz4, by4, zr4, Option.bind_some]
    rw [if_pos ⟨rfl, by decide, by omega, Int.le_refl _, by omega, by omega⟩]
    rfl
  refine d_low (lo := 0) rfl rfl rfl (by (intro m hm hmm; simp only [List.mem_cons, List.not_mem_nil, or_false] at hm; first | (obtain rfl := hm; dsimp only; omega) | (rcases hm with rfl | rfl <;> first | omega | (dsimp only; omega) | (exfalso; revert hmm; decide)) | (rcases hm with rfl | rfl | rfl <;> first | omega | (dsimp only; omega) | (exfalso; revert hmm; decide)))) fun sh hshn hshg => ?_
  refine ⟨_, by (simp only [Nat.reduceEqDiff, opA, val, opdA, opdO, T.get_put, ↓reduceIte, Nat.add_assoc, Nat.reduceAdd, Nat.left_eq_add, Nat.add_eq_left, Nat.add_left_cancel_iff, Nat.add_zero, plainN, omap, Option.map_some, Option.bind_some, Nat.le_add_right, Nat.le_refl, binA, intBinA, loadV, readA, storeV, writeA, fieldAddrA, indexAddrA, lenA, builtinA, newA, unA, packA, if_true, and_self, and_true, true_and, Value.cells, Int.toNat_natCast, decide_true, decide_false, cond_true, cond_false, hmk]; rfl), ?_⟩
  refine opt_of rfl ?_
  intro s3 hA3 h3n h3g
  dsimp only at h3n h3g
  have hseen3 : s3.hp.get s1.nx = some (.cells true 4 (zerosL [.bool false] n.toNat)) := by
    rw [h3g _ (by omega), T.get_put, if_pos (by omega)]
  have hA13 : Ab s1.nx s1 s3 := hA2.trans (hA3.lower (by omega) (by omega))
  have hA03 : Ab s.nx s s3 := hA0.trans ((hA1.lower (Nat.le_succ _) (Nat.le_refl _)).trans (hA13.lower (by omega) (Nat.le_refl _)))
  refine opt_of rfl ?_
  repeat (first
  | with_reducible first | apply ops_end | apply d_end | apply k_seq | apply k_seq_ret | apply k_seq_exit | apply k_block | apply k_block_ret | apply k_block_here | apply c_seq | apply c_block | apply c_region | apply c_skip | apply c_ret | apply c_exit | apply c_loop | apply k_loop_exit | apply k_loop_ret | apply if_t | apply if_f
  | (with_reducible apply k_block_on
     · decide)
  | ((with_reducible first | apply xOp | apply xDr | apply xIf); rfl; (simp only [Nat.reduceEqDiff, Nat.reduceAdd, ↓reduceIte, xBB, stG, opA, val, opdA, opdO, plainN, omap, binA, intBinA, loadV, readA, storeV, writeA, fieldAddrA, indexAddrA, lenA, builtinA, newA, unA, packA, Value.cells]; rfl); first | rfl | exact ⟨rfl, rfl, rfl⟩))
  ((with_reducible first | apply xCa | apply xCd); rfl; (simp only [Nat.reduceEqDiff, Nat.reduceAdd, ↓reduceIte, xBB, stB, opdA, opdO, plainN, omap, val, Value.cells]; exact ⟨rfl, rfl⟩); try rfl)
  apply call_fn
  refine (f70_spec l _ s3 (hl.keep hA03) (by omega)).use hA03.nx (Nat.le_refl _) fun v4 s4 hv hA4 => ?_
  obtain ⟨oq, hoq, hnq⟩ := hv
  obtain ⟨qb, qc, rfl⟩ := hoq.shape
  have hn4 := hA4.nx
  have hseen4 : s4.hp.get s1.nx = some (.cells true 4 (zerosL [.bool false] n.toNat)) := by rw [hA4.get (Nat.le_refl _) (by omega)]; exact hseen3
  have hA14 : Ab s1.nx s1 s4 := hA13.trans (hA4.lower (by omega) (by omega))
  have hnq' : ∀ id, oq = some id → s1.nx < id := fun id h => by have := hnq id h; omega
  have hos : Own s4 4 1 (some s1.nx) (.slice (some ⟨s1.nx, 0, none⟩) n.toNat n.toNat) ((List.replicate n.toNat false).map encB) := by
    refine Own.block hseen4 ?_ (by omega) (by simp) (Or.inl rfl) (fun x hx => ?_) (by simp only [List.length_map, List.length_replicate]; have := hg.hi; unfold UNK; omega)
    · rw [zerosL_map, List.map_replicate]; rfl
    · obtain ⟨y, _, rfl⟩ := List.mem_map.1 hx; exact ⟨rfl, rfl⟩
  refine opt_of rfl ?_
  repeat (first
  | with_reducible first | apply ops_end | apply d_end | apply k_seq | apply k_seq_ret | apply k_seq_exit | apply k_block | apply k_block_ret | apply k_block_here | apply c_seq | apply c_block | apply c_region | apply c_skip | apply c_ret | apply c_exit | apply c_loop | apply k_loop_exit | apply k_loop_ret | apply if_t | apply if_f
  | (with_reducible apply k_block_on
     · decide)
  | ((with_reducible first | apply xOp | apply xDr | apply xIf); rfl; (simp only [Nat.reduceEqDiff, Nat.reduceAdd, ↓reduceIte, xBB, stG, opA, val, opdA, opdO, plainN, omap, binA, intBinA, loadV, readA, storeV, writeA, fieldAddrA, indexAddrA, lenA, builtinA, newA, unA, packA, Value.cells, un35]; rfl); first | rfl | exact ⟨rfl, rfl, rfl⟩))
  refine loop_k (lk' := s1.nx) (s0 := s4) (fun m f t => ∃ k : Nat, k + m = l.length ∧ f.get 22 = some (.int .i64 k) ∧ Own t 3 1 oq (.slice qb (l.map encI).length qc) (l.map encI) ∧
    ∃ seen : List Bool, Own t 4 1 (some s1.nx) (.slice (some ⟨s1.nx, 0, none⟩) n.toNat n.toNat) (seen.map encB) ∧ seen.length = n.toNat ∧ ∀ x, Mk seen x ↔ x ∈ l.take k) l.length (by omega) (by omega) ?_ (Ab.refl _ _) ?_
  · refine ⟨0, by omega, by simp only [Nat.reduceEqDiff, T.get_put, ↓reduceIte]; rfl, hoq, _, hos, by simp, fun x => ⟨fun h => ?_, fun h => by simp at h⟩⟩
    obtain ⟨_, h2⟩ := h
    rw [List.getElem?_replicate] at h2
    split at h2 <;> cases h2
  · rintro m f t ⟨k, hk, h22, hqt, seen, hst, hsl, hmk2⟩ hA hF
    (have k20 := hF 20 (by rfl); simp only [Nat.reduceEqDiff, T.get_put, ↓reduceIte, hshn, h2n] at k20; have k21 := hF 21 (by rfl); simp only [Nat.reduceEqDiff, T.get_put, ↓reduceIte, hshn, h2n] at k21; have k6 := hF 6 (by rfl); simp only [Nat.reduceEqDiff, T.get_put, ↓reduceIte, hshn, h2n] at k6)
    by_cases hlt : (k : Int) < ((l.map encI).length : Int)
    · have hlt' : k < l.length := by simp at hlt; omega
      obtain ⟨id, off, wr, e, cs, rfl, g1, g2, g3, g4⟩ := hqt.sl.at (i := k) (x := encI l[k]) (by simp [hlt'])
      have hb : (0 : Int) ≤ (k : Int) ∧ (k : Int) < ((l.map encI).length : Int) := ⟨by omega, hlt⟩
      have hw : IntKind.i64.wrap ((k : Int) + 1) = ((k + 1 : Nat) : Int) := by rw [IntWalk.i64_in _ (by omega)]; rfl
      simp only [encI] at g3
      obtain ⟨p1, p2⟩ := hin l[k] (List.getElem_mem hlt')
      obtain ⟨i, hi⟩ : ∃ i : Nat, l[k] = (i : Int) := ⟨l[k].toNat, by omega⟩
      rw [hi] at g3
      have hb2 : (0 : Int) ≤ (i : Int) ∧ (i : Int) < (n.toNat : Int) := by omega
      have his : i < seen.length := by omega
      obtain ⟨off3, cap3, cs3, hh3, w1, w2, w3⟩ := hst.set (i := i) (x := [.bool true]) (by simpa using his) rfl rfl
      simp only [Value.slice.injEq, Option.some.injEq, Addr.mk.injEq] at hh3; obtain ⟨⟨_, rfl, _⟩, _, _⟩ := hh3
      have w2' : 0 + (i * 1 + 1) ≤ cs3.length := by rw [← Nat.add_assoc]; exact w2
      have hl1 : ([Value.bool true] : List Value).length = 1 := rfl
      have hone : ([Value.bool true] : List Value).all Value.oneCell' = true := rfl
      have hlk : s1.nx ≤ s1.nx := Nat.le_refl _
      repeat (first
  | with_reducible first | apply ops_end | apply d_end | apply k_seq | apply k_seq_ret | apply k_seq_exit | apply k_block | apply k_block_ret | apply k_block_here | apply c_seq | apply c_block | apply c_region | apply c_skip | apply c_ret | apply c_exit | apply c_loop | apply k_loop_exit | apply k_loop_ret | apply if_t | apply if_f
  | (with_reducible apply k_block_on
     · decide)
  | ((with_reducible first | apply xOp | apply xDr | apply xIf); rfl; (simp only [Nat.reduceEqDiff, Nat.reduceAdd, ↓reduceIte, xBB, stG, opA, val, opdA, opdO, plainN, omap, binA, intBinA, loadV, readA, storeV, writeA, fieldAddrA, indexAddrA, lenA, builtinA, newA, unA, packA, Value.cells, h22, k21, k20, k6, hlt, un35, sz3, ty3, hb, g1, g3, un95, sz4, ty4, hb2, w1, w2', hl1, hone, hlk, hw]; rfl); first | rfl | exact ⟨rfl, rfl, rfl⟩))
      intro _ _
      have hsame : ∀ j o, j ≠ s1.nx → (T.put t.hp s1.nx o).get j = t.hp.get j := fun j o h => T.get_put_ne _ _ _ h
      refine k_loop_next (m' := m - 1) (by omega) ⟨k + 1, by omega, by simp only [Nat.reduceEqDiff, T.get_put, ↓reduceIte], hqt.same (Nat.le_refl _) fun id h => hsame _ _ (by have := hnq' id h; omega),
        seen.set i true, ?_, by rw [List.length_set]; exact hsl, fun x => ?_⟩
      · rw [List.map_set]
        exact w3 _ (Nat.le_refl _) (T.get_put_eq _ _ _)
      · rw [Mk.set his, hmk2, List.take_succ_eq_append_getElem hlt', List.mem_append, List.mem_singleton, hi]
    · repeat (first
  | with_reducible first | apply ops_end | apply d_end | apply k_seq | apply k_seq_ret | apply k_seq_exit | apply k_block | apply k_block_ret | apply k_block_here | apply c_seq | apply c_block | apply c_region | apply c_skip | apply c_ret | apply c_exit | apply c_loop | apply k_loop_exit | apply k_loop_ret | apply if_t | apply if_f
  | (with_reducible apply k_block_on
     · decide)
  | ((with_reducible first | apply xOp | apply xDr | apply xIf); rfl; (simp only [Nat.reduceEqDiff, Nat.reduceAdd, ↓reduceIte, xBB, stG, opA, val, opdA, opdO, plainN, omap, binA, intBinA, loadV, readA, storeV, writeA, fieldAddrA, indexAddrA, lenA, builtinA, newA, unA, packA, Value.cells, h22, k21, hlt]; rfl); first | rfl | exact ⟨rfl, rfl, rfl⟩))
      intro _ _
      have hke : l.take k = l := List.take_of_length_le (by simp at hlt; omega)
      rw [hke] at hmk2
      have hbfs : Bfs n es l l seen fun _ => False := ⟨hsl, fun x hx => ⟨(hin x hx).1, (hin x hx).2, (hmk2 x).2 hx⟩, fun x hx => (hmk2 x).2 hx, fun x hx => ⟨x, (hmk2 x).1 hx, .refl x⟩, fun x hx => Or.inl ((hmk2 x).1 hx)⟩
      repeat (first
  | with_reducible first | apply ops_end | apply d_end | apply k_seq | apply k_seq_ret | apply k_seq_exit | apply k_block | apply k_block_ret | apply k_block_here | apply c_seq | apply c_block | apply c_region | apply c_skip | apply c_ret | apply c_exit | apply c_loop | apply k_loop_exit | apply k_loop_ret | apply if_t | apply if_f
  | (with_reducible apply k_block_on
     · decide)
  | ((with_reducible first | apply xOp | apply xDr | apply xIf); rfl; (simp only [Nat.reduceEqDiff, Nat.reduceAdd, ↓reduceIte, xBB, stG, opA, val, opdA, opdO, plainN, omap, binA, intBinA, loadV, readA, storeV, writeA, fieldAddrA, indexAddrA, lenA, builtinA, newA, unA, packA, Value.cells]; rfl); first | rfl | exact ⟨rfl, rfl, rfl⟩))
      have hA1t : Ab s1.nx s1 t := hA14.trans hA
      clear hmk2 hke hlt h22 hk
      refine loop_k (lk' := s1.nx) (s0 := t) (fun m f u => ∃ (q : List Int) (seen : List Bool) (oq : Option Nat) (qv : Value), m = 2 * seen.count false + q.length ∧ m ≤ 1000200 ∧ f.get 7 = some qv ∧ Own u 3 1 oq qv (q.map encI) ∧ (∀ id, oq = some id → s1.nx < id) ∧
        Own u 4 1 (some s1.nx) (.slice (some ⟨s1.nx, 0, none⟩) n.toNat n.toNat) (seen.map encB) ∧ Bfs n es l q seen fun _ => False) (2 * seen.count false + l.length) (by omega) hA1t.nx ?_ (Ab.refl _ _) ?_
      · have k7 := hF 7 (by rfl)
        simp only [Nat.reduceEqDiff, T.get_put, ↓reduceIte] at k7
        exact ⟨l, seen, oq, _, rfl, by have := List.count_le_length (a := false) (l := seen); have := hg.hi; omega, by simp only [Nat.reduceEqDiff, T.get_put, ↓reduceIte, k7], hqt, hnq', hst, hbfs⟩
      · have k5 := hF 5 (by rfl)
        simp only [Nat.reduceEqDiff, T.get_put, ↓reduceIte] at k5
        have b5 := k5
        have b6 := k6
        clear hbfs hst hqt hoq hnq hnq' hos hseen4 hseen3 hA hF k20 k21 k5 k6 hsl
        rintro m f u ⟨q, seen, oq, qv, hm, hmb, h7, hq, hnq, hst, hbf⟩ hA hF
        (have k5 := hF 5 (by rfl); simp only [Nat.reduceEqDiff, T.get_put, ↓reduceIte, b5, b6] at k5; have k6 := hF 6 (by rfl); simp only [Nat.reduceEqDiff, T.get_put, ↓reduceIte, b5, b6] at k6)
        have hA1u : Ab s1.nx s1 u := hA1t.trans hA
        cases q with
        | nil =>
          obtain ⟨qb, qc, rfl⟩ := hq.shape
          have h0 : ¬ (((([] : List Int).map encI).length : Nat) : Int) > 0 := by simp
          repeat (first
  | with_reducible first | apply ops_end | apply d_end | apply k_seq | apply k_seq_ret | apply k_seq_exit | apply k_block | apply k_block_ret | apply k_block_here | apply c_seq | apply c_block | apply c_region | apply c_skip | apply c_ret | apply c_exit | apply c_loop | apply k_loop_exit | apply k_loop_ret | apply if_t | apply if_f
  | (with_reducible apply k_block_on
     · decide)
  | ((with_reducible first | apply xOp | apply xDr | apply xIf); rfl; (simp only [Nat.reduceEqDiff, Nat.reduceAdd, ↓reduceIte, xBB, stG, opA, val, opdA, opdO, plainN, omap, binA, intBinA, loadV, readA, storeV, writeA, fieldAddrA, indexAddrA, lenA, builtinA, newA, unA, packA, Value.cells, h7, un35, h0]; rfl); first | rfl | exact ⟨rfl, rfl, rfl⟩))
          intro _ _
          repeat (first
  | with_reducible first | apply ops_end | apply d_end | apply k_seq | apply k_seq_ret | apply k_seq_exit | apply k_block | apply k_block_ret | apply k_block_here | apply c_seq | apply c_block | apply c_region | apply c_skip | apply c_ret | apply c_exit | apply c_loop | apply k_loop_exit | apply k_loop_ret | apply if_t | apply if_f
  | (with_reducible apply k_block_on
     · decide)
  | ((with_reducible first | apply xOp | apply xDr | apply xIf); rfl; (simp only [Nat.reduceEqDiff, Nat.reduceAdd, ↓reduceIte, xBB, stG, opA, val, opdA, opdO, plainN, omap, binA, intBinA, loadV, readA, storeV, writeA, fieldAddrA, indexAddrA, lenA, builtinA, newA, unA, packA, Value.cells, k6]; rfl); first | rfl | exact ⟨rfl, rfl, rfl⟩))
          intro _
          ((with_reducible first | apply ret_i | apply ret_n); (simp only [Nat.reduceEqDiff, Nat.reduceAdd, ↓reduceIte, xBB, resA, opdA, opdO, plainN, omap, val, loadV, readA, packA]; rfl))
          exact ⟨s1.nx, seen, by omega, hst, hbf.len, fun x => hbf.all x⟩
        | cons k q =>
          cases oq with
          | none => obtain ⟨h1, _⟩ := hq; simp at h1
          | some oid =>
            obtain ⟨hk0, hkn, hkm⟩ := hbf.que k List.mem_cons_self
            obtain ⟨v', hsl, hq'⟩ := Own.tail un35 sz3 hq
            obtain ⟨qb, qc, rfl⟩ := hq.shape
            obtain ⟨id, off, wr, e, cs, rfl, g1, g2, g3, g4⟩ := hq.sl.at (i := 0) (x := encI k) (by simp)
            rw [Nat.zero_mul, Nat.add_zero] at g3
            obtain ⟨kn, hkk⟩ : ∃ kn : Nat, k = (kn : Int) := ⟨k.toNat, by omega⟩
            subst hkk
            simp only [encI] at g3
            have h0 : ((((((kn : Int) :: q) : List Int).map encI).length : Nat) : Int) > 0 := by simp
            have hb0 : (0 : Int) ≤ 0 ∧ (0 : Int) < ((((((kn : Int) :: q) : List Int).map encI).length : Nat) : Int) := ⟨Int.le_refl _, h0⟩
            have hkr : kn < rs.length := by omega
            have hrk : rs[kn]? = some rs[kn] := List.getElem?_eq_getElem hkr
            have hobu := hob.keep hA1u
            obtain ⟨vb, vc, rfl⟩ := hob.shape
            obtain ⟨oid2, off2, wr2, e2, cs2, rfl, o1, o2, o3, o4⟩ := hobu.sl.at (i := kn) (x := [rs[kn].v]) (by simp [hkr])
            have hbk : (0 : Int) ≤ (kn : Int) ∧ (kn : Int) < (((rs.map fun r => [r.v]).length : Nat) : Int) := by simp; omega
            have hrow := (hrows.1 rs[kn] (List.getElem_mem hkr)).1.sl
            rw [hxs kn rs[kn] hrk] at hrow
            obtain ⟨rb, rc, hrv⟩ := hrow.shape
            rw [hrv] at o3 hrow
            repeat (first
  | with_reducible first | apply ops_end | apply d_end | apply k_seq | apply k_seq_ret | apply k_seq_exit | apply k_block | apply k_block_ret | apply k_block_here | apply c_seq | apply c_block | apply c_region | apply c_skip | apply c_ret | apply c_exit | apply c_loop | apply k_loop_exit | apply k_loop_ret | apply if_t | apply if_f
  | (with_reducible apply k_block_on
     · decide)
  | ((with_reducible first | apply xOp | apply xDr | apply xIf); rfl; (simp only [Nat.reduceEqDiff, Nat.reduceAdd, ↓reduceIte, xBB, stG, opA, val, opdA, opdO, plainN, omap, binA, intBinA, loadV, readA, storeV, writeA, fieldAddrA, indexAddrA, lenA, builtinA, newA, unA, packA, Value.cells, h7, un35, h0, hb0, sz35, sz3, ty3, g1, g3, hsl, Int.toNat_zero, Nat.zero_mul, k5, un30, hbk, o1, o3, ty35]; rfl); first | rfl | exact ⟨rfl, rfl, rfl⟩))
            have c6 := k6
            have hm1 : 2 * seen.count false + q.length < m := by rw [hm, List.length_cons]; omega
            have hbp := hbf.pop
            refine loop_k (lk' := s1.nx) (s0 := u) (fun m2 f u => ∃ j : Nat, j + m2 = (succL es kn).length ∧ f.get 43 = some (.int .i64 j) ∧
              ∃ (q : List Int) (seen : List Bool) (oq : Option Nat) (qv : Value), 2 * seen.count false + q.length < m ∧ f.get 7 = some qv ∧ Own u 3 1 oq qv (q.map encI) ∧ (∀ id, oq = some id → s1.nx < id) ∧
              Own u 4 1 (some s1.nx) (.slice (some ⟨s1.nx, 0, none⟩) n.toNat n.toNat) (seen.map encB) ∧ Bfs n es l q seen (fun x => x = (kn : Int)) ∧ Mk seen kn ∧ ∀ y ∈ (succL es kn).take j, Mk seen y)
              (succL es kn).length (Nat.le_refl _) hA1u.nx ?_ (Ab.refl _ _) ?_
            · exact ⟨0, by omega, by simp only [Nat.reduceEqDiff, T.get_put, ↓reduceIte]; rfl, q, seen, some oid, v', hm1, by simp only [Nat.reduceEqDiff, T.get_put, ↓reduceIte], hq', hnq, hst, hbp, hkm, fun y hy => by simp at hy⟩
            · clear hbf hst hq hnq hq' hsl hm1 hbp hkm g1 g2 g3 g4 hb0 h0 o1 o2 o3 h7 k6 k5 hobu hm
              rintro m2 f2 w ⟨j, hj, h43, q, seen, oq, qv, hm, h7, hq, hnq, hst, hbf, hkm, hdone⟩ hA2 hF
              (have k41 := hF 41 (by rfl); simp only [Nat.reduceEqDiff, T.get_put, ↓reduceIte, c6] at k41; have k42 := hF 42 (by rfl); simp only [Nat.reduceEqDiff, T.get_put, ↓reduceIte, c6] at k42; have k6 := hF 6 (by rfl); simp only [Nat.reduceEqDiff, T.get_put, ↓reduceIte, c6] at k6)
              clear hF
              by_cases hlt : (j : Int) < (((succL es kn).map encI).length : Int)
              · have hlt' : j < (succL es kn).length := by simp at hlt; omega
                have hrw := hrow.keep (hA1u.trans hA2)
                obtain ⟨id, off, wr, e, cs, rfl, g1, g2, g3, g4⟩ := hrw.at (i := j) (x := encI (succL es kn)[j]) (by simp [hlt'])
                have hb : (0 : Int) ≤ (j : Int) ∧ (j : Int) < (((succL es kn).map encI).length : Int) := ⟨by omega, hlt⟩
                have hjl : (succL es kn).length ≤ es.length := by unfold succL; rw [List.length_map]; exact List.length_filter_le _ _
                have hjw := hg.len
                have hw : IntKind.i64.wrap ((j : Int) + 1) = ((j + 1 : Nat) : Int) := by rw [IntWalk.i64_in _ (by omega)]; rfl
                simp only [encI] at g3
                have hedge : ((kn : Int), (succL es kn)[j]) ∈ es := mem_succL.1 (List.getElem_mem hlt')
                obtain ⟨_, _, p1, p2⟩ := hg.ins _ hedge
                dsimp only at p1 p2
                obtain ⟨i, hi⟩ : ∃ i : Nat, (succL es kn)[j] = (i : Int) := ⟨(succL es kn)[j].toNat, by omega⟩
                rw [hi] at g3 hedge
                have hsl := hbf.len
                have his : i < seen.length := by omega
                have hb2 : (0 : Int) ≤ (i : Int) ∧ (i : Int) < (n.toNat : Int) := by omega
                obtain ⟨_, _, wr2, e2, cs3, hh, o1, o2, o3, _⟩ := hst.sl.at (i := i) (x := encB seen[i]) (by simp [his])
                simp only [Option.some.injEq, Addr.mk.injEq] at hh; obtain ⟨rfl, rfl, _⟩ := hh
                simp only [encB] at o3
                have htake : ∀ {sn : List Bool}, (∀ y ∈ (succL es kn).take j, Mk sn y) → Mk sn i → ∀ y ∈ (succL es kn).take (j + 1), Mk sn y := fun h1 h2 y hy => by
                  rw [List.take_succ_eq_append_getElem hlt', List.mem_append, List.mem_singleton] at hy
                  rcases hy with hy | hy
                  · exact h1 y hy
                  · rw [hy, hi]; exact h2
                by_cases hsi : seen[i] = true
                · repeat (first
  | with_reducible first | apply ops_end | apply d_end | apply k_seq | apply k_seq_ret | apply k_seq_exit | apply k_block | apply k_block_ret | apply k_block_here | apply c_seq | apply c_block | apply c_region | apply c_skip | apply c_ret | apply c_exit | apply c_loop | apply k_loop_exit | apply k_loop_ret | apply if_t | apply if_f
  | (with_reducible apply k_block_on
     · decide)
  | ((with_reducible first | apply xOp | apply xDr | apply xIf); rfl; (simp only [Nat.reduceEqDiff, Nat.reduceAdd, ↓reduceIte, xBB, stG, opA, val, opdA, opdO, plainN, omap, binA, intBinA, loadV, readA, storeV, writeA, fieldAddrA, indexAddrA, lenA, builtinA, newA, unA, packA, Value.cells, h43, k42, k41, k6, hlt, un35, sz3, ty3, hb, g1, g3, un95, sz4, ty4, hb2, o1, o3, hsi, Bool.not_true, hw]; rfl); first | rfl | exact ⟨rfl, rfl, rfl⟩))
                  intro _ _
                  refine k_loop_next (m' := m2 - 1) (by omega) ⟨j + 1, by omega, by simp only [Nat.reduceEqDiff, T.get_put, ↓reduceIte], q, seen, oq, qv, hm, by simp only [Nat.reduceEqDiff, T.get_put, ↓reduceIte, h7], hq, hnq, hst, hbf, hkm, htake hdone ?_⟩
                  exact ⟨by omega, by rw [Int.toNat_natCast, List.getElem?_eq_getElem his, hsi]⟩
                · simp only [Bool.not_eq_true] at hsi
                  obtain ⟨off3, cap3, cs4, hh3, w1, w2, w3⟩ := hst.set (i := i) (x := [.bool true]) (by simpa using his) rfl rfl
                  simp only [Value.slice.injEq, Option.some.injEq, Addr.mk.injEq] at hh3; obtain ⟨⟨_, rfl, _⟩, _, _⟩ := hh3
                  rw [o1] at w1; cases w1
                  have w2' : 0 + (i * 1 + 1) ≤ cs3.length := by rw [← Nat.add_assoc]; exact w2
                  have hl1 : ([Value.bool true] : List Value).length = 1 := rfl
                  have hone : ([Value.bool true] : List Value).all Value.oneCell' = true := rfl
                  have hlk : s1.nx ≤ s1.nx := Nat.le_refl _
                  repeat (first
  | with_reducible first | apply ops_end | apply d_end | apply k_seq | apply k_seq_ret | apply k_seq_exit | apply k_block | apply k_block_ret | apply k_block_here | apply c_seq | apply c_block | apply c_region | apply c_skip | apply c_ret | apply c_exit | apply c_loop | apply k_loop_exit | apply k_loop_ret | apply if_t | apply if_f
  | (with_reducible apply k_block_on
     · decide)
  | ((with_reducible first | apply xOp | apply xDr | apply xIf); rfl; (simp only [Nat.reduceEqDiff, Nat.reduceAdd, ↓reduceIte, xBB, stG, opA, val, opdA, opdO, plainN, omap, binA, intBinA, loadV, readA, storeV, writeA, fieldAddrA, indexAddrA, lenA, builtinA, newA, unA, packA, Value.cells, h43, k42, k41, k6, hlt, un35, sz3, ty3, hb, g1, g3, un95, sz4, ty4, hb2, o1, o3, hsi, Bool.not_false, w2', hl1, hone, hlk, h7, buildSliceA, el35, zr3, zerosL, fillA]; rfl); first | rfl | exact ⟨rfl, rfl, rfl⟩))
                  have hwn := hst.lt rfl
                  generalize hst0 : ({ hp := (w.hp.put s1.nx (some (.cells true 4 (putL cs3 (0 + i * 1) [.bool true])))).put w.nx (some (.cells true 3 (putL ([.int .i64 0] ++ []) (0 * 1) [.int .i64 i]))), nx := w.nx + 1 } : HS) = w2s
                  have hw2n : w2s.nx = w.nx + 1 := by rw [← hst0]
                  have hw2o : ∀ id, id ≠ s1.nx → id < w.nx → w2s.hp.get id = w.hp.get id := fun id h1 h2 => by
                    rw [← hst0]; dsimp only; rw [T.get_put_ne _ _ _ (by omega), T.get_put_ne _ _ _ h1]
                  have hw2s : w2s.hp.get s1.nx = some (.cells true 4 (putL cs3 (0 + i * 1) [.bool true])) := by rw [← hst0]; dsimp only; rw [T.get_put_ne _ _ _ (by omega), T.get_put_eq]
                  have hw2y : w2s.hp.get w.nx = some (.cells true 3 [.int .i64 i]) := by rw [← hst0]; exact T.get_put_eq _ _ _
                  have hql : q.length ≤ 1000200 := by omega
                  ((with_reducible first | apply ops_opt | apply xPd); (first | rfl | exact ⟨rfl, rfl⟩); (simp only [Nat.reduceEqDiff, Nat.reduceAdd, ↓reduceIte, xBB, opA, val, opdA, opdO, plainN, omap, binA, intBinA, loadV, readA, storeV, writeA, fieldAddrA, indexAddrA, lenA, builtinA, newA, unA, packA, Value.cells, un35, h7]; rfl))
                  have hq2 : Own w2s 3 1 oq qv (q.map encI) := hq.same (by omega) fun id h => hw2o id (by have := hnq id h; omega) (hq.lt h)
                  refine opt_ex (app_one (lk := s1.nx) (y := [.int .i64 i]) el35 sz3 by3 zr3 rfl (by decide) hq2 (fun id h => by have := hnq id h; omega) hw2y rfl rfl (by simp; omega)) fun p hp => ?_
                  obtain ⟨pv, s5⟩ := p
                  obtain ⟨p1, p2, o', p3, p4⟩ := hp
                  dsimp only at p1 p2 p3
                  refine opt_of rfl ?_
                  repeat (first
  | with_reducible first | apply ops_end | apply d_end | apply k_seq | apply k_seq_ret | apply k_seq_exit | apply k_block | apply k_block_ret | apply k_block_here | apply c_seq | apply c_block | apply c_region | apply c_skip | apply c_ret | apply c_exit | apply c_loop | apply k_loop_exit | apply k_loop_ret | apply if_t | apply if_f
  | (with_reducible apply k_block_on
     · decide)
  | ((with_reducible first | apply xOp | apply xDr | apply xIf); rfl; (simp only [Nat.reduceEqDiff, Nat.reduceAdd, ↓reduceIte, xBB, stG, opA, val, opdA, opdO, plainN, omap, binA, intBinA, loadV, readA, storeV, writeA, fieldAddrA, indexAddrA, lenA, builtinA, newA, unA, packA, Value.cells, h43, hw]; rfl); first | rfl | exact ⟨rfl, rfl, rfl⟩))
                  intro _ _
                  have hcs := count_set (seen := seen) (i := i) (by rw [List.getElem?_eq_getElem his, hsi])
                  refine k_loop_next (m' := m2 - 1) (by omega) ⟨j + 1, by omega, by simp only [Nat.reduceEqDiff, T.get_put, ↓reduceIte], q ++ [(i : Int)], seen.set i true, o', pv, by simp; omega, by simp only [Nat.reduceEqDiff, T.get_put, ↓reduceIte],
                    by rw [List.map_append]; exact p3, fun id h => ?_, ?_, hbf.mark hkm his hedge, (Mk.set his).2 (Or.inl hkm), htake (fun y hy => (Mk.set his).2 (Or.inl (hdone y hy))) ((Mk.set his).2 (Or.inr rfl))⟩
                  · rcases p4 with rfl | rfl
                    · exact hnq id h
                    · cases h; omega
                  · rw [List.map_set]
                    refine w3 _ (by omega) ?_
                    rw [p2 s1.nx (by omega) (fun h => by have := hnq _ h; omega)]
                    exact hw2s
              · repeat (first
  | with_reducible first | apply ops_end | apply d_end | apply k_seq | apply k_seq_ret | apply k_seq_exit | apply k_block | apply k_block_ret | apply k_block_here | apply c_seq | apply c_block | apply c_region | apply c_skip | apply c_ret | apply c_exit | apply c_loop | apply k_loop_exit | apply k_loop_ret | apply if_t | apply if_f
  | (with_reducible apply k_block_on
     · decide)
  | ((with_reducible first | apply xOp | apply xDr | apply xIf); rfl; (simp only [Nat.reduceEqDiff, Nat.reduceAdd, ↓reduceIte, xBB, stG, opA, val, opdA, opdO, plainN, omap, binA, intBinA, loadV, readA, storeV, writeA, fieldAddrA, indexAddrA, lenA, builtinA, newA, unA, packA, Value.cells, h43, k42, hlt]; rfl); first | rfl | exact ⟨rfl, rfl, rfl⟩))
                intro _ _
                repeat (first
  | with_reducible first | apply ops_end | apply d_end | apply k_seq | apply k_seq_ret | apply k_seq_exit | apply k_block | apply k_block_ret | apply k_block_here | apply c_seq | apply c_block | apply c_region | apply c_skip | apply c_ret | apply c_exit | apply c_loop | apply k_loop_exit | apply k_loop_ret | apply if_t | apply if_f
  | (with_reducible apply k_block_on
     · decide)
  | ((with_reducible first | apply xOp | apply xDr | apply xIf); rfl; (simp only [Nat.reduceEqDiff, Nat.reduceAdd, ↓reduceIte, xBB, stG, opA, val, opdA, opdO, plainN, omap, binA, intBinA, loadV, readA, storeV, writeA, fieldAddrA, indexAddrA, lenA, builtinA, newA, unA, packA, Value.cells]; rfl); first | rfl | exact ⟨rfl, rfl, rfl⟩))
                intro _ _
                have hall : (succL es kn).take j = succL es kn := List.take_of_length_le (by simp at hlt; omega)
                rw [hall] at hdone
                exact k_loop_next (m' := 2 * seen.count false + q.length) hm ⟨q, seen, oq, qv, rfl, by omega, by simp only [Nat.reduceEqDiff, T.get_put, ↓reduceIte, h7], hq, hnq, hst, hbf.done1 hdone⟩
end Go.Ev

/- graph.Reach, removable.Hull. -/
namespace Go.Ev
open Go Go.Proofs
set_option linter.unusedSimpArgs false
set_option linter.unusedVariables false
set_option maxRecDepth 100000
set_option maxHeartbeats 4000000
attribute [local irreducible] wpOps wpC wpD wpF wpLoop wpCall seqK blockK loopK retK T.put T.get T.setF

/-- The nodes that are reached, in order. -/
def ReachedL (n : Int) (es : List (Int × Int)) (l : List Int) (r : List Int) : Prop :=
  ∃ seen : List Bool, seen.length = n.toNat ∧ (∀ x, Mk seen x ↔ ∃ f ∈ l, Rch es f x) ∧ r = listedL 0 seen

theorem good_of {n : Int} {es : List (Int × Int)} (h : checkR n es = 0) : GoodG n es := by
  unfold checkR at h
  split at h
  · cases h
  · split at h
    · cases h
    · split at h
      · cases h
      · rename_i h1 h2 h3
        have hnn : n * n ≤ 4096 := by
          have := Int.mul_le_mul (show n ≤ 64 by omega) (show n ≤ 64 by omega) (show 0 ≤ n by omega) (show (0 : Int) ≤ 64 by omega); omega
        refine ⟨by omega, by omega, by omega, fun e he => ?_⟩
        have h4 : ¬ outside n e = true := fun h5 => h3 (List.any_eq_true.2 ⟨e, he, h5⟩)
        unfold outside beyondB at h4
        simp only [Bool.or_eq_true, decide_eq_true_eq] at h4
        omega

theorem ready_of {n : Int} {es : List (Int × Int)} {l : List Int} (h : readyR n es l = 0) : checkR n es = 0 ∧ ∀ x ∈ l, 0 ≤ x ∧ x < n := by
  unfold readyR at h
  split at h
  · rename_i h1; exact absurd h h1
  · rename_i h1
    split at h
    · cases h
    · rename_i h2
      refine ⟨by simpa using h1, fun x hx => ?_⟩
      have h4 : ¬ beyondB n x = true := fun h5 => h2 (List.any_eq_true.2 ⟨x, hx, h5⟩)
      unfold beyondB at h4
      simp only [Bool.or_eq_true, decide_eq_true_eq] at h4
      omega

/-- A list of numbers and an error: the list of an error is nil. -/
def LstE (s s' : HS) (v : Value) (c : Int) (Q : List Int → Prop) : Prop :=
  (c ≠ 0 ∧ v = .tuple #[.slice none 0 0, .int .i64 c]) ∨ (c = 0 ∧ ∃ o lv r, v = .tuple #[lv, .int .i64 0] ∧ Own s' 3 1 o lv (r.map encI) ∧ newer s o ∧ Q r)

theorem f39_spec [Sorts Tryd.prog] (n : Int) (es : List (Int × Int)) (ev : Value) (l : List Int) (lv : Value) (s : HS) (hs : Sl s 2 ev (es.map encE)) (hl : Sl s 1 lv (l.map encI)) (hll : l.length < 1000000) :
    wpF Tryd.prog s.nx 39 [vG n ev, lv] s (fun v s' => LstE s s' v (readyR n es l) (ReachedL n es l)) := by
  obtain ⟨b, c, rfl⟩ := hl.shape
  refine wpF_of Tryd.func39 rfl rfl rfl rfl (Nat.le_refl _) ?_
  simp only [paramsA, vG]
  repeat (first
  | with_reducible first | apply ops_end | apply d_end | apply k_seq | apply k_seq_ret | apply k_seq_exit | apply k_block | apply k_block_ret | apply k_block_here | apply c_seq | apply c_block | apply c_region | apply c_skip | apply c_ret | apply c_exit | apply c_loop | apply k_loop_exit | apply k_loop_ret | apply if_t | apply if_f
  | (with_reducible apply k_block_on
     · decide)
  | ((with_reducible first | apply xOp | apply xDr | apply xIf); rfl; (simp only [Nat.reduceEqDiff, Nat.reduceAdd, ↓reduceIte, xBB, stG, opA, val, opdA, opdO, plainN, omap, binA, intBinA, loadV, readA, storeV, writeA, fieldAddrA, indexAddrA, lenA, builtinA, newA, unA, packA, Value.cells, ty28, sz28, cutL]; rfl); first | rfl | exact ⟨rfl, rfl, rfl⟩))
  have hA0 := Ab.new (lk := s.nx) s (.cells true 28 [.int .i64 n, ev])
  ((with_reducible first | apply xCa | apply xCd); rfl; (simp only [Nat.reduceEqDiff, Nat.reduceAdd, ↓reduceIte, xBB, stB, opdA, opdO, plainN, omap, val, Value.cells]; exact ⟨rfl, rfl⟩); try rfl)
  apply call_fn
  refine (f57_spec n es ev l _ _ (hs.keep hA0) (hl.keep hA0) (by omega)).use (by first | exact Nat.le_refl _ | (simp only [cond_true, cond_false]; omega) | omega | (dsimp only; omega)) (by first | exact Nat.le_refl _ | (simp only [cond_true, cond_false]; omega) | omega | (dsimp only; omega)) fun v s1 hv hA1 => ?_
  subst hv
  refine opt_of rfl ?_
  have hbox := hA1.get (Nat.le_refl _) (Nat.lt_succ_self s.nx)
  rw [T.get_put_eq] at hbox
  have hA2 := hA0.trans (hA1.lower (Nat.le_succ _) (Nat.le_refl _))
  by_cases hc : readyR n es l = 0
  · obtain ⟨hc1, hc2⟩ := ready_of hc
    have hc' : (readyR n es l != 0) = false := by simp [hc]
    repeat (first
  | with_reducible first | apply ops_end | apply d_end | apply k_seq | apply k_seq_ret | apply k_seq_exit | apply k_block | apply k_block_ret | apply k_block_here | apply c_seq | apply c_block | apply c_region | apply c_skip | apply c_ret | apply c_exit | apply c_loop | apply k_loop_exit | apply k_loop_ret | apply if_t | apply if_f
  | (with_reducible apply k_block_on
     · decide)
  | ((with_reducible first | apply xOp | apply xDr | apply xIf); rfl; (simp only [Nat.reduceEqDiff, Nat.reduceAdd, ↓reduceIte, xBB, stG, opA, val, opdA, opdO, plainN, omap, binA, intBinA, loadV, readA, storeV, writeA, fieldAddrA, indexAddrA, lenA, builtinA, newA, unA, packA, Value.cells, hc', ty28, hbox]; rfl); first | rfl | exact ⟨rfl, rfl, rfl⟩))
    ((with_reducible first | apply xCa | apply xCd); rfl; (simp only [Nat.reduceEqDiff, Nat.reduceAdd, ↓reduceIte, xBB, stB, opdA, opdO, plainN, omap, val, Value.cells]; exact ⟨rfl, rfl⟩); try rfl)
    apply call_fn
    refine (f59_spec n es ev l _ _ (hs.keep hA2) (hl.keep hA2) (good_of hc1) hll hc2).use hA2.nx (Nat.le_refl _) fun v s2 hv hA3 => ?_
    obtain ⟨o, seen, h1, h2, h3, h4⟩ := hv
    refine opt_of rfl ?_
    ((with_reducible first | apply xCa | apply xCd); rfl; (simp only [Nat.reduceEqDiff, Nat.reduceAdd, ↓reduceIte, xBB, stB, opdA, opdO, plainN, omap, val, Value.cells]; exact ⟨rfl, rfl⟩); try rfl)
    apply call_fn
    have hA4 := hA2.trans (hA3.lower hA2.nx (Nat.le_refl _))
    have hgood := good_of hc1
    have hgn := hgood.hi
    refine (f58_spec seen v s2 h2.sl (by omega)).use hA4.nx (Nat.le_refl _) fun v s3 hv hA5 => ?_
    obtain ⟨o2, h5, h6⟩ := hv
    refine opt_of rfl ?_
    repeat (first
  | with_reducible first | apply ops_end | apply d_end | apply k_seq | apply k_seq_ret | apply k_seq_exit | apply k_block | apply k_block_ret | apply k_block_here | apply c_seq | apply c_block | apply c_region | apply c_skip | apply c_ret | apply c_exit | apply c_loop | apply k_loop_exit | apply k_loop_ret | apply if_t | apply if_f
  | (with_reducible apply k_block_on
     · decide)
  | ((with_reducible first | apply xOp | apply xDr | apply xIf); rfl; (simp only [Nat.reduceEqDiff, Nat.reduceAdd, ↓reduceIte, xBB, stG, opA, val, opdA, opdO, plainN, omap, binA, intBinA, loadV, readA, storeV, writeA, fieldAddrA, indexAddrA, lenA, builtinA, newA, unA, packA, Value.cells]; rfl); first | rfl | exact ⟨rfl, rfl, rfl⟩))
    intro _
    ((with_reducible first | apply ret_i | apply ret_n); (simp only [Nat.reduceEqDiff, Nat.reduceAdd, ↓reduceIte, xBB, resA, opdA, opdO, plainN, omap, val, loadV, readA, packA]; rfl))
    exact Or.inr ⟨hc, o2, _, _, rfl, h5, fun id h => Nat.le_trans hA4.nx (h6 id h), seen, h3, h4, rfl⟩
  · have hc' : (readyR n es l != 0) = true := by simp [hc]
    repeat (first
  | with_reducible first | apply ops_end | apply d_end | apply k_seq | apply k_seq_ret | apply k_seq_exit | apply k_block | apply k_block_ret | apply k_block_here | apply c_seq | apply c_block | apply c_region | apply c_skip | apply c_ret | apply c_exit | apply c_loop | apply k_loop_exit | apply k_loop_ret | apply if_t | apply if_f
  | (with_reducible apply k_block_on
     · decide)
  | ((with_reducible first | apply xOp | apply xDr | apply xIf); rfl; (simp only [Nat.reduceEqDiff, Nat.reduceAdd, ↓reduceIte, xBB, stG, opA, val, opdA, opdO, plainN, omap, binA, intBinA, loadV, readA, storeV, writeA, fieldAddrA, indexAddrA, lenA, builtinA, newA, unA, packA, Value.cells, hc']; rfl); first | rfl | exact ⟨rfl, rfl, rfl⟩))
    intro _
    ((with_reducible first | apply ret_i | apply ret_n); (simp only [Nat.reduceEqDiff, Nat.reduceAdd, ↓reduceIte, xBB, resA, opdA, opdO, plainN, omap, val, loadV, readA, packA]; rfl))
    exact Or.inl ⟨hc, rfl⟩

theorem f21_spec [Sorts Tryd.prog] (n : Int) (es : List (Int × Int)) (ev : Value) (l : List Int) (lv : Value) (s : HS) (hs : Sl s 2 ev (es.map encE)) (hl : Sl s 1 lv (l.map encI)) (hll : l.length < 1000000) :
    wpF Tryd.prog s.nx 21 [vG n ev, lv] s (fun v s' => LstE s s' v (readyR n es l) (ReachedL n es l)) := by
  obtain ⟨b, c, rfl⟩ := hl.shape
  refine wpF_of Tryd.func21 rfl rfl rfl rfl (Nat.le_refl _) ?_
  simp only [paramsA, vG]
  repeat (first
  | with_reducible first | apply ops_end | apply d_end | apply k_seq | apply k_seq_ret | apply k_seq_exit | apply k_block | apply k_block_ret | apply k_block_here | apply c_seq | apply c_block | apply c_region | apply c_skip | apply c_ret | apply c_exit | apply c_loop | apply k_loop_exit | apply k_loop_ret | apply if_t | apply if_f
  | (with_reducible apply k_block_on
     · decide)
  | ((with_reducible first | apply xOp | apply xDr | apply xIf); rfl; (simp only [Nat.reduceEqDiff, Nat.reduceAdd, ↓reduceIte, xBB, stG, opA, val, opdA, opdO, plainN, omap, binA, intBinA, loadV, readA, storeV, writeA, fieldAddrA, indexAddrA, lenA, builtinA, newA, unA, packA, Value.cells, ty28, sz28, cutL]; rfl); first | rfl | exact ⟨rfl, rfl, rfl⟩))
  have hA0 := Ab.new (lk := s.nx) s (.cells true 28 [.int .i64 n, ev])
  ((with_reducible first | apply xCa | apply xCd); rfl; (simp only [Nat.reduceEqDiff, Nat.reduceAdd, ↓reduceIte, xBB, stB, opdA, opdO, plainN, omap, val, Value.cells]; exact ⟨rfl, rfl⟩); try rfl)
  apply call_fn
  refine (f39_spec n es ev l _ _ (hs.keep hA0) (hl.keep hA0) hll).use (by first | exact Nat.le_refl _ | (simp only [cond_true, cond_false]; omega) | omega | (dsimp only; omega)) (by first | exact Nat.le_refl _ | (simp only [cond_true, cond_false]; omega) | omega | (dsimp only; omega)) fun v s1 hv hA1 => ?_
  rcases hv with ⟨h1, rfl⟩ | ⟨h1, o, lv2, r, rfl, h2, h3, h4⟩
  · refine opt_of rfl ?_
    repeat (first
  | with_reducible first | apply ops_end | apply d_end | apply k_seq | apply k_seq_ret | apply k_seq_exit | apply k_block | apply k_block_ret | apply k_block_here | apply c_seq | apply c_block | apply c_region | apply c_skip | apply c_ret | apply c_exit | apply c_loop | apply k_loop_exit | apply k_loop_ret | apply if_t | apply if_f
  | (with_reducible apply k_block_on
     · decide)
  | ((with_reducible first | apply xOp | apply xDr | apply xIf); rfl; (simp only [Nat.reduceEqDiff, Nat.reduceAdd, ↓reduceIte, xBB, stG, opA, val, opdA, opdO, plainN, omap, binA, intBinA, loadV, readA, storeV, writeA, fieldAddrA, indexAddrA, lenA, builtinA, newA, unA, packA, Value.cells, List.getElem?_cons_zero, List.getElem?_cons_succ]; rfl); first | rfl | exact ⟨rfl, rfl, rfl⟩))
    intro _
    ((with_reducible first | apply ret_i | apply ret_n); (simp only [Nat.reduceEqDiff, Nat.reduceAdd, ↓reduceIte, xBB, resA, opdA, opdO, plainN, omap, val, loadV, readA, packA]; rfl))
    exact Or.inl ⟨h1, rfl⟩
  · refine opt_of rfl ?_
    repeat (first
  | with_reducible first | apply ops_end | apply d_end | apply k_seq | apply k_seq_ret | apply k_seq_exit | apply k_block | apply k_block_ret | apply k_block_here | apply c_seq | apply c_block | apply c_region | apply c_skip | apply c_ret | apply c_exit | apply c_loop | apply k_loop_exit | apply k_loop_ret | apply if_t | apply if_f
  | (with_reducible apply k_block_on
     · decide)
  | ((with_reducible first | apply xOp | apply xDr | apply xIf); rfl; (simp only [Nat.reduceEqDiff, Nat.reduceAdd, ↓reduceIte, xBB, stG, opA, val, opdA, opdO, plainN, omap, binA, intBinA, loadV, readA, storeV, writeA, fieldAddrA, indexAddrA, lenA, builtinA, newA, unA, packA, Value.cells, List.getElem?_cons_zero, List.getElem?_cons_succ]; rfl); first | rfl | exact ⟨rfl, rfl, rfl⟩))
    intro _
    ((with_reducible first | apply ret_i | apply ret_n); (simp only [Nat.reduceEqDiff, Nat.reduceAdd, ↓reduceIte, xBB, resA, opdA, opdO, plainN, omap, val, loadV, readA, packA]; rfl))
    exact Or.inr ⟨h1, o, lv2, r, rfl, h2, fun id h => Nat.le_trans (Nat.le_succ _) (h3 id h), h4⟩
end Go.Ev
