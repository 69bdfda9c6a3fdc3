/- graph.next. -/
import Derived.Test.YthedojfbofcefaaDoorEvG4
namespace Go.Ev
open Go Go.Proofs
set_option linter.unusedSimpArgs false
set_option linter.unusedVariables false
set_option maxRecDepth 100000
set_option maxHeartbeats 4000000
attribute [local irreducible] wpOps wpC wpD wpF wpLoop wpCall seqK blockK loopK retK T.put T.get T.setF

/-- A list of numbers in a block of its own. -/
structure Row where
  o : Option Nat
  v : Value
  xs : List Int

def RowsOK (t : HS) (lo ob : Nat) (rs : List Row) : Prop :=
  (∀ r ∈ rs, Own t 3 1 r.o r.v (r.xs.map encI) ∧ ∀ id, r.o = some id → lo ≤ id ∧ id ≠ ob) ∧
  ∀ (i j : Nat) (ri rj : Row), rs[i]? = some ri → rs[j]? = some rj → i ≠ j → ∀ id, ri.o = some id → rj.o ≠ some id

theorem RowsOK.set {t u : HS} {lo ob i : Nat} {rs : List Row} {r r' : Row} (h : RowsOK t lo ob rs) (hi : rs[i]? = some r) (hn : t.nx ≤ u.nx) (hlo : lo ≤ t.nx) (hob : ob < t.nx)
    (hsame : ∀ id, id < t.nx → r.o ≠ some id → id ≠ ob → u.hp.get id = t.hp.get id) (hown : Own u 3 1 r'.o r'.v (r'.xs.map encI)) (ho : ∀ id, r'.o = some id → r.o = some id ∨ t.nx ≤ id) : RowsOK u lo ob (rs.set i r') := by
  have hil : i < rs.length := (List.getElem?_eq_some_iff.1 hi).1
  have key : ∀ j rj, (rs.set i r')[j]? = some rj → (j = i ∧ rj = r') ∨ (j ≠ i ∧ rs[j]? = some rj) := fun j rj hj => by
    rw [List.getElem?_set] at hj
    by_cases hji : i = j
    · rw [if_pos hji, if_pos hil] at hj; cases hj; exact Or.inl ⟨hji.symm, rfl⟩
    · rw [if_neg hji] at hj; exact Or.inr ⟨fun e => hji e.symm, hj⟩
  refine ⟨fun q hq => ?_, fun a b ra rb ha hb hab id h1 h2 => ?_⟩
  · obtain ⟨j, hj⟩ := List.getElem?_of_mem hq
    rcases key j q hj with ⟨rfl, rfl⟩ | ⟨hne, hj'⟩
    · refine ⟨hown, fun id h1 => ?_⟩
      rcases ho id h1 with h2 | h2
      · exact (h.1 r (List.mem_of_getElem? hi)).2 id h2
      · exact ⟨by omega, by omega⟩
    · obtain ⟨g1, g2⟩ := h.1 q (List.mem_of_getElem? hj')
      exact ⟨g1.same hn fun id h1 => hsame id (g1.lt h1) (fun e => h.2 i j r q hi hj' (fun e => hne e.symm) id e h1) (g2 id h1).2, g2⟩
  · rcases key a ra ha with ⟨rfl, rfl⟩ | ⟨ha1, ha2⟩ <;> rcases key b rb hb with ⟨rfl, rfl⟩ | ⟨hb1, hb2⟩
    · exact hab rfl
    · rcases ho id h1 with h3 | h3
      · exact h.2 _ _ r rb hi hb2 hab id h3 h2
      · have := (h.1 rb (List.mem_of_getElem? hb2)).1.lt h2; omega
    · rcases ho id h2 with h3 | h3
      · exact h.2 _ _ ra r ha2 hi hab id h1 h3
      · have := (h.1 ra (List.mem_of_getElem? ha2)).1.lt h1; omega
    · exact h.2 _ _ ra rb ha2 hb2 hab id h1 h2

/-- A graph in which the edges join its nodes. -/
structure GoodG (n : Int) (es : List (Int × Int)) : Prop where
  lo : 0 ≤ n
  hi : n ≤ 64
  len : es.length ≤ 4096
  ins : ∀ e ∈ es, 0 ≤ e.1 ∧ e.1 < n ∧ 0 ≤ e.2 ∧ e.2 < n

/-- Where edges lead from a node, in their order. -/
def succL (es : List (Int × Int)) (k : Int) : List Int := (es.filter fun e => decide (e.1 = k)).map (·.2)

theorem succL_take {es : List (Int × Int)} {k : Nat} (hk : k < es.length) (i : Int) : succL (es.take (k + 1)) i = if es[k].1 = i then succL (es.take k) i ++ [es[k].2] else succL (es.take k) i := by
  unfold succL
  rw [List.take_succ_eq_append_getElem hk, List.filter_append, List.map_append]
  by_cases h : es[k].1 = i
  · rw [if_pos h, List.filter_cons_of_pos (by simpa using h)]; rfl
  · rw [if_neg h, List.filter_cons_of_neg (by simpa using h)]; simp

theorem zerosL_map (z : Value) (n : Nat) : zerosL [z] n = ((List.replicate n [z]).flatten : List Value) := by
  induction n with
  | zero => rfl
  | succ n ih => rw [zerosL, ih, List.replicate_succ, List.flatten_cons]

theorem f69_spec (n : Int) (es : List (Int × Int)) (ev : Value) (s : HS) (hs : Sl s 2 ev (es.map encE)) (hg : GoodG n es) :
    wpF Tryd.prog s.nx 69 [vG n ev] s (fun v s' => ∃ (ob : Nat) (rs : List Row), s.nx ≤ ob ∧ Own s' 35 1 (some ob) v (rs.map fun r => [r.v]) ∧ RowsOK s' s.nx ob rs ∧ rs.length = n.toNat ∧ ∀ (i : Nat) (r : Row), rs[i]? = some r → r.xs = succL es i) := by
  obtain ⟨b, c, rfl⟩ := hs.shape
  obtain ⟨hn0, hn1, hlen, hins⟩ := hg
  refine wpF_of Tryd.func69 rfl rfl rfl rfl (Nat.le_refl _) ?_
  simp only [paramsA, vG]
  have hA0 := Ab.new (lk := s.nx) s (.cells true 28 [.int .i64 n, .slice b (es.map encE).length c])
  have hmk : makeSliceA Tryd.prog 30 (.int .i64 n) (.int .i64 n) { hp := s.hp.put s.nx (some (.cells true 28 [.int .i64 n, .slice b (es.map encE).length c])), nx := s.nx + 1 } =
      some (.slice (some ⟨s.nx + 1, 0, none⟩) n.toNat n.toNat, { hp := (s.hp.put s.nx (some (.cells true 28 [.int .i64 n, .slice b (es.map encE).length c]))).put (s.nx + 1) (some (.cells true 35 (zerosL [.slice none 0 0] n.toNat))), nx := s.nx + 1 + 1 }) := by
    unfold makeSliceA
    simp only [el30, sz35, by35, zr35, Option.bind_some]
    rw [if_pos ⟨rfl, by decide, by omega, Int.le_refl _, by omega, by omega⟩]
    rfl
  repeat (first
      | with_reducible first | apply ops_end | apply d_end | apply k_seq | apply k_seq_ret | apply k_seq_exit | apply k_block | apply k_block_ret | apply k_block_here | apply c_seq | apply c_block | apply c_region | apply c_skip | apply c_ret | apply c_exit | apply c_loop | apply k_loop_exit | apply k_loop_ret
      | (with_reducible apply k_block_on
         · decide)
      | ((first
          | (with_reducible apply ops_do
             · rfl)
          | (with_reducible apply d_same
             · rfl
             · rfl))
         · (simp only [Nat.reduceEqDiff, opA, val, opdA, opdO, T.get_put, ↓reduceIte, Nat.add_assoc, Nat.reduceAdd, Nat.left_eq_add, Nat.add_eq_left, Nat.add_left_cancel_iff, Nat.add_zero, plainN, omap, Option.map_some, Option.bind_some, Nat.le_add_right, Nat.le_refl, binA, intBinA, loadV, readA, storeV, writeA, fieldAddrA, indexAddrA, lenA, builtinA, newA, unA, packA, if_true, and_self, and_true, true_and, Value.cells, Int.toNat_natCast, decide_true, decide_false, cond_true, cond_false, ty28, sz28, fd28_0, fd28_1, ty3, ty26, un26, hmk]; rfl)
         · rfl
         try (· rfl))
      | ((first
          | (with_reducible apply d_do
             · rfl
             · rfl)
          | (with_reducible apply d_quiet
             · rfl
             · rfl
             · rfl))
         · (simp only [Nat.reduceEqDiff, opA, val, opdA, opdO, T.get_put, ↓reduceIte, Nat.add_assoc, Nat.reduceAdd, Nat.left_eq_add, Nat.add_eq_left, Nat.add_left_cancel_iff, Nat.add_zero, plainN, omap, Option.map_some, Option.bind_some, Nat.le_add_right, Nat.le_refl, binA, intBinA, loadV, readA, storeV, writeA, fieldAddrA, indexAddrA, lenA, builtinA, newA, unA, packA, if_true, and_self, and_true, true_and, Value.cells, Int.toNat_natCast, decide_true, decide_false, cond_true, cond_false, ty28, sz28, fd28_0, fd28_1, ty3, ty26, un26, hmk]; rfl)
         first
         | · rfl
         | (· (simp only [Nat.reduceEqDiff, loadBlk, opdA, T.get_put, ↓reduceIte, ty28, sz28, fd28_0, fd28_1, ty3, ty26, un26, hmk]; rfl)
            · rfl))
      | ((first
          | with_reducible apply ops_skipG
          | (with_reducible apply d_skip
             · rfl))
         · rfl
         · rfl
         · (simp only [Nat.reduceEqDiff, T.get_put, ↓reduceIte, ty28, sz28, fd28_0, fd28_1, ty3, ty26, un26, hmk]; rfl)
         · (simp only [decide_true, decide_false, ty28, sz28, fd28_0, fd28_1, ty3, ty26, un26, hmk, bt_tf, bt_ft, bt_tt, bt_ff]; done)
         · rfl)
      | ((first
          | with_reducible apply ops_doG
          | (with_reducible apply d_sameG
             · rfl))
         · rfl
         · rfl
         · (simp only [Nat.reduceEqDiff, T.get_put, ↓reduceIte, ty28, sz28, fd28_0, fd28_1, ty3, ty26, un26, hmk]; rfl)
         · (simp only [decide_true, decide_false, ty28, sz28, fd28_0, fd28_1, ty3, ty26, un26, hmk, bt_tf, bt_ft, bt_tt, bt_ff]; done)
         · (simp only [Nat.reduceEqDiff, opA, val, opdA, opdO, T.get_put, ↓reduceIte, Nat.add_assoc, Nat.reduceAdd, Nat.left_eq_add, Nat.add_eq_left, Nat.add_left_cancel_iff, Nat.add_zero, plainN, omap, Option.map_some, Option.bind_some, Nat.le_add_right, Nat.le_refl, binA, intBinA, loadV, readA, storeV, writeA, fieldAddrA, indexAddrA, lenA, builtinA, newA, unA, packA, if_true, and_self, and_true, true_and, Value.cells, Int.toNat_natCast, decide_true, decide_false, cond_true, cond_false, ty28, sz28, fd28_0, fd28_1, ty3, ty26, un26, hmk]; rfl)
         · rfl
         try (· rfl))
      | (with_reducible apply c_if
         · (simp only [Nat.reduceEqDiff, opdA, opdO, T.get_put, ↓reduceIte, Nat.add_assoc, Nat.reduceAdd, Nat.left_eq_add, Nat.add_eq_left, Nat.add_left_cancel_iff, Nat.add_zero, plainN, omap, Option.map_some, Option.bind_some, Nat.le_add_right, Nat.le_refl, decide_true, decide_false, ty28, sz28, fd28_0, fd28_1, ty3, ty26, un26, hmk]; rfl)
         with_reducible first | apply if_t | apply if_f))
  have hA1 := Ab.new (lk := s.nx) { hp := s.hp.put s.nx (some (.cells true 28 [.int .i64 n, .slice b (es.map encE).length c])), nx := s.nx + 1 } (.cells true 35 (zerosL [.slice none 0 0] n.toNat))
  refine loop_k (lk' := s.nx) (s0 := ⟨_, s.nx + 2⟩) (fun m f t => ∃ k : Nat, k + m = es.length ∧ f.get 12 = some (.int .i64 k) ∧
    ∃ rs : List Row, Own t 35 1 (some (s.nx + 1)) (.slice (some ⟨s.nx + 1, 0, none⟩) n.toNat n.toNat) (rs.map fun r => [r.v]) ∧ RowsOK t s.nx (s.nx + 1) rs ∧ rs.length = n.toNat ∧
      ∀ (i : Nat) (r : Row), rs[i]? = some r → r.xs = succL (es.take k) i) es.length (Nat.le_refl _) (by show s.nx ≤ s.nx + 2; omega) ?_ (Ab.refl _ _) ?_
  · refine ⟨0, by omega, by simp only [Nat.reduceEqDiff, T.get_put, ↓reduceIte]; rfl, List.replicate n.toNat ⟨none, .slice none 0 0, []⟩, ?_, ⟨fun r hr => ?_, fun i j ri rj h1 h2 _ id h3 => ?_⟩, by simp, fun i r hr => ?_⟩
    · refine Own.block (T.get_put_eq _ _ _) ?_ (Nat.lt_succ_self _) (by simp) (Or.inl rfl) (fun x hx => ?_) (by simp only [List.length_map, List.length_replicate]; unfold UNK; omega)
      · rw [zerosL_map, List.map_replicate]
      · rw [List.map_replicate] at hx; obtain rfl := (List.mem_replicate.1 hx).2; exact ⟨rfl, rfl⟩
    · obtain rfl := (List.mem_replicate.1 hr).2; exact ⟨⟨rfl, rfl⟩, fun id h => by cases h⟩
    · obtain rfl := (List.mem_replicate.1 (List.mem_of_getElem? h1)).2; cases h3
    · obtain rfl := (List.mem_replicate.1 (List.mem_of_getElem? hr)).2; rfl
  · rintro m f t ⟨k, hk, h12, rs, hob, hrows, hrl, hxs⟩ hA hF
    (have k3 := hF 3 (by rfl); simp only [Nat.reduceEqDiff, T.get_put, ↓reduceIte] at k3; have k10 := hF 10 (by rfl); simp only [Nat.reduceEqDiff, T.get_put, ↓reduceIte] at k10; have k11 := hF 11 (by rfl); simp only [Nat.reduceEqDiff, T.get_put, ↓reduceIte] at k11)
    by_cases hlt : (k : Int) < ((es.map encE).length : Int)
    · have hlt' : k < es.length := by simp at hlt; omega
      have hs2 := hs.keep ((hA0.trans hA1).trans hA)
      obtain ⟨id, off, wr, e, cs, rfl, g1, g2, g3, g4⟩ := hs2.at (i := k) (x := encE es[k]) (by simp [hlt'])
      have hb : (0 : Int) ≤ (k : Int) ∧ (k : Int) < ((es.map encE).length : Int) := ⟨by omega, hlt⟩
      simp only [encE] at g3
      obtain ⟨q1, q2, q3, q4⟩ := hins es[k] (List.getElem_mem hlt')
      obtain ⟨i, hi⟩ : ∃ i : Nat, es[k].1 = (i : Int) := ⟨es[k].1.toNat, by omega⟩
      rw [hi] at g3
      have hir : i < rs.length := by omega
      have hri : rs[i]? = some rs[i] := List.getElem?_eq_getElem hir
      have hb2 : (0 : Int) ≤ (i : Int) ∧ (i : Int) < (n.toNat : Int) := by omega
      obtain ⟨_, _, wr2, e2, cs2, hh, o1, o2, o3, o4⟩ := hob.sl.at (i := i) (x := [rs[i].v]) (by simp [hir])
      simp only [Option.some.injEq, Addr.mk.injEq] at hh; obtain ⟨rfl, rfl, _⟩ := hh
      have hne1 : ¬ id = t.nx := by omega
      have hne2 : ¬ s.nx + 1 = t.nx := by omega
      have hle : s.nx ≤ t.nx := by omega
      repeat (first
      | with_reducible first | apply ops_end | apply d_end | apply k_seq | apply k_seq_ret | apply k_seq_exit | apply k_block | apply k_block_ret | apply k_block_here | apply c_seq | apply c_block | apply c_region | apply c_skip | apply c_ret | apply c_exit | apply c_loop | apply k_loop_exit | apply k_loop_ret
      | (with_reducible apply k_block_on
         · decide)
      | ((first
          | (with_reducible apply ops_do
             · rfl)
          | (with_reducible apply d_same
             · rfl
             · rfl))
         · (simp only [Nat.reduceEqDiff, opA, val, opdA, opdO, T.get_put, ↓reduceIte, Nat.add_assoc, Nat.reduceAdd, Nat.left_eq_add, Nat.add_eq_left, Nat.add_left_cancel_iff, Nat.add_zero, plainN, omap, Option.map_some, Option.bind_some, Nat.le_add_right, Nat.le_refl, binA, intBinA, loadV, readA, storeV, writeA, fieldAddrA, indexAddrA, lenA, builtinA, newA, unA, packA, if_true, and_self, and_true, true_and, Value.cells, Int.toNat_natCast, decide_true, decide_false, cond_true, cond_false, h12, k11, k10, hlt, un26, sz58, ty58, zr58, hb, g1, g3, hne1, hne2, hle]; rfl)
         · rfl
         try (· rfl))
      | ((first
          | (with_reducible apply d_do
             · rfl
             · rfl)
          | (with_reducible apply d_quiet
             · rfl
             · rfl
             · rfl))
         · (simp only [Nat.reduceEqDiff, opA, val, opdA, opdO, T.get_put, ↓reduceIte, Nat.add_assoc, Nat.reduceAdd, Nat.left_eq_add, Nat.add_eq_left, Nat.add_left_cancel_iff, Nat.add_zero, plainN, omap, Option.map_some, Option.bind_some, Nat.le_add_right, Nat.le_refl, binA, intBinA, loadV, readA, storeV, writeA, fieldAddrA, indexAddrA, lenA, builtinA, newA, unA, packA, if_true, and_self, and_true, true_and, Value.cells, Int.toNat_natCast, decide_true, decide_false, cond_true, cond_false, h12, k11, k10, hlt, un26, sz58, ty58, zr58, hb, g1, g3, hne1, hne2, hle]; rfl)
         first
         | · rfl
         | (· (simp only [Nat.reduceEqDiff, loadBlk, opdA, T.get_put, ↓reduceIte, h12, k11, k10, hlt, un26, sz58, ty58, zr58, hb, g1, g3, hne1, hne2, hle]; rfl)
            · rfl))
      | ((first
          | with_reducible apply ops_skipG
          | (with_reducible apply d_skip
             · rfl))
         · rfl
         · rfl
         · (simp only [Nat.reduceEqDiff, T.get_put, ↓reduceIte, h12, k11, k10, hlt, un26, sz58, ty58, zr58, hb, g1, g3, hne1, hne2, hle]; rfl)
         · (simp only [decide_true, decide_false, h12, k11, k10, hlt, un26, sz58, ty58, zr58, hb, g1, g3, hne1, hne2, hle, bt_tf, bt_ft, bt_tt, bt_ff]; done)
         · rfl)
      | ((first
          | with_reducible apply ops_doG
          | (with_reducible apply d_sameG
             · rfl))
         · rfl
         · rfl
         · (simp only [Nat.reduceEqDiff, T.get_put, ↓reduceIte, h12, k11, k10, hlt, un26, sz58, ty58, zr58, hb, g1, g3, hne1, hne2, hle]; rfl)
         · (simp only [decide_true, decide_false, h12, k11, k10, hlt, un26, sz58, ty58, zr58, hb, g1, g3, hne1, hne2, hle, bt_tf, bt_ft, bt_tt, bt_ff]; done)
         · (simp only [Nat.reduceEqDiff, opA, val, opdA, opdO, T.get_put, ↓reduceIte, Nat.add_assoc, Nat.reduceAdd, Nat.left_eq_add, Nat.add_eq_left, Nat.add_left_cancel_iff, Nat.add_zero, plainN, omap, Option.map_some, Option.bind_some, Nat.le_add_right, Nat.le_refl, binA, intBinA, loadV, readA, storeV, writeA, fieldAddrA, indexAddrA, lenA, builtinA, newA, unA, packA, if_true, and_self, and_true, true_and, Value.cells, Int.toNat_natCast, decide_true, decide_false, cond_true, cond_false, h12, k11, k10, hlt, un26, sz58, ty58, zr58, hb, g1, g3, hne1, hne2, hle]; rfl)
         · rfl
         try (· rfl))
      | (with_reducible apply c_if
         · (simp only [Nat.reduceEqDiff, opdA, opdO, T.get_put, ↓reduceIte, Nat.add_assoc, Nat.reduceAdd, Nat.left_eq_add, Nat.add_eq_left, Nat.add_left_cancel_iff, Nat.add_zero, plainN, omap, Option.map_some, Option.bind_some, Nat.le_add_right, Nat.le_refl, decide_true, decide_false, h12, k11, k10, hlt, un26, sz58, ty58, zr58, hb, g1, g3, hne1, hne2, hle]; rfl)
         with_reducible first | apply if_t | apply if_f))
      refine c_draw [⟨false, [], none⟩, ⟨false, [], none⟩, ⟨false, [], some [2]⟩, ⟨false, [], none⟩, ⟨false, [], none⟩, ⟨false, [], none⟩, ⟨false, [], none⟩, ⟨false, [], none⟩, ⟨false, [], none⟩, ⟨false, [5, 7], none⟩, ⟨false, [5, 7], none⟩, ⟨true, [2], none⟩, ⟨true, [], none⟩, ⟨true, [], none⟩] (by kernel_rfl) ?_
      repeat (first
      | with_reducible first | apply ops_end | apply d_end | apply k_seq | apply k_seq_ret | apply k_seq_exit | apply k_block | apply k_block_ret | apply k_block_here | apply c_seq | apply c_block | apply c_region | apply c_skip | apply c_ret | apply c_exit | apply c_loop | apply k_loop_exit | apply k_loop_ret
      | (with_reducible apply k_block_on
         · decide)
      | ((first
          | (with_reducible apply ops_do
             · rfl)
          | (with_reducible apply d_same
             · rfl
             · rfl))
         · (simp only [Nat.reduceEqDiff, opA, val, opdA, opdO, T.get_put, ↓reduceIte, Nat.add_assoc, Nat.reduceAdd, Nat.left_eq_add, Nat.add_eq_left, Nat.add_left_cancel_iff, Nat.add_zero, plainN, omap, Option.map_some, Option.bind_some, Nat.le_add_right, Nat.le_refl, binA, intBinA, loadV, readA, storeV, writeA, fieldAddrA, indexAddrA, lenA, builtinA, newA, unA, packA, if_true, and_self, and_true, true_and, Value.cells, Int.toNat_natCast, decide_true, decide_false, cond_true, cond_false, k3, fd58_0, fd58_1, ty3, un30, sz35, ty35, hb2, o1, hne2, o3, buildSliceA, el35, sz3, zr3, zerosL, fillA, putL]; rfl)
         · rfl
         try (· rfl))
      | ((first
          | (with_reducible apply d_do
             · rfl
             · rfl)
          | (with_reducible apply d_quiet
             · rfl
             · rfl
             · rfl))
         · (simp only [Nat.reduceEqDiff, opA, val, opdA, opdO, T.get_put, ↓reduceIte, Nat.add_assoc, Nat.reduceAdd, Nat.left_eq_add, Nat.add_eq_left, Nat.add_left_cancel_iff, Nat.add_zero, plainN, omap, Option.map_some, Option.bind_some, Nat.le_add_right, Nat.le_refl, binA, intBinA, loadV, readA, storeV, writeA, fieldAddrA, indexAddrA, lenA, builtinA, newA, unA, packA, if_true, and_self, and_true, true_and, Value.cells, Int.toNat_natCast, decide_true, decide_false, cond_true, cond_false, k3, fd58_0, fd58_1, ty3, un30, sz35, ty35, hb2, o1, hne2, o3, buildSliceA, el35, sz3, zr3, zerosL, fillA, putL]; rfl)
         first
         | · rfl
         | (· (simp only [Nat.reduceEqDiff, loadBlk, opdA, T.get_put, ↓reduceIte, k3, fd58_0, fd58_1, ty3, un30, sz35, ty35, hb2, o1, hne2, o3, buildSliceA, el35, sz3, zr3, zerosL, fillA, putL]; rfl)
            · rfl))
      | ((first
          | with_reducible apply ops_skipG
          | (with_reducible apply d_skip
             · rfl))
         · rfl
         · rfl
         · (simp only [Nat.reduceEqDiff, T.get_put, ↓reduceIte, k3, fd58_0, fd58_1, ty3, un30, sz35, ty35, hb2, o1, hne2, o3, buildSliceA, el35, sz3, zr3, zerosL, fillA, putL]; rfl)
         · (simp only [decide_true, decide_false, k3, fd58_0, fd58_1, ty3, un30, sz35, ty35, hb2, o1, hne2, o3, buildSliceA, el35, sz3, zr3, zerosL, fillA, putL, bt_tf, bt_ft, bt_tt, bt_ff]; done)
         · rfl)
      | ((first
          | with_reducible apply ops_doG
          | (with_reducible apply d_sameG
             · rfl))
         · rfl
         · rfl
         · (simp only [Nat.reduceEqDiff, T.get_put, ↓reduceIte, k3, fd58_0, fd58_1, ty3, un30, sz35, ty35, hb2, o1, hne2, o3, buildSliceA, el35, sz3, zr3, zerosL, fillA, putL]; rfl)
         · (simp only [decide_true, decide_false, k3, fd58_0, fd58_1, ty3, un30, sz35, ty35, hb2, o1, hne2, o3, buildSliceA, el35, sz3, zr3, zerosL, fillA, putL, bt_tf, bt_ft, bt_tt, bt_ff]; done)
         · (simp only [Nat.reduceEqDiff, opA, val, opdA, opdO, T.get_put, ↓reduceIte, Nat.add_assoc, Nat.reduceAdd, Nat.left_eq_add, Nat.add_eq_left, Nat.add_left_cancel_iff, Nat.add_zero, plainN, omap, Option.map_some, Option.bind_some, Nat.le_add_right, Nat.le_refl, binA, intBinA, loadV, readA, storeV, writeA, fieldAddrA, indexAddrA, lenA, builtinA, newA, unA, packA, if_true, and_self, and_true, true_and, Value.cells, Int.toNat_natCast, decide_true, decide_false, cond_true, cond_false, k3, fd58_0, fd58_1, ty3, un30, sz35, ty35, hb2, o1, hne2, o3, buildSliceA, el35, sz3, zr3, zerosL, fillA, putL]; rfl)
         · rfl
         try (· rfl))
      | (with_reducible apply c_if
         · (simp only [Nat.reduceEqDiff, opdA, opdO, T.get_put, ↓reduceIte, Nat.add_assoc, Nat.reduceAdd, Nat.left_eq_add, Nat.add_eq_left, Nat.add_left_cancel_iff, Nat.add_zero, plainN, omap, Option.map_some, Option.bind_some, Nat.le_add_right, Nat.le_refl, decide_true, decide_false, k3, fd58_0, fd58_1, ty3, un30, sz35, ty35, hb2, o1, hne2, o3, buildSliceA, el35, sz3, zr3, zerosL, fillA, putL]; rfl)
         with_reducible first | apply if_t | apply if_f))
      obtain ⟨hrow, hrlo⟩ := hrows.1 rs[i] (List.getElem_mem hir)
      have hxi := hxs i rs[i] hri
      have hxl : rs[i].xs.length ≤ es.length := by
        rw [hxi]; unfold succL
        rw [List.length_map]
        exact Nat.le_trans (List.length_filter_le _ _) (by rw [List.length_take]; omega)
      refine d_hid rfl rfl rfl fun sh hshn hshg => ⟨_, by simp only [Nat.reduceEqDiff, opA, val, opdA, opdO, T.get_put, ↓reduceIte, Nat.add_assoc, Nat.reduceAdd, Nat.left_eq_add, Nat.add_eq_left, Nat.add_left_cancel_iff, Nat.add_zero, plainN, omap, Option.map_some, Option.bind_some, Nat.le_add_right, Nat.le_refl, binA, intBinA, loadV, readA, storeV, writeA, fieldAddrA, indexAddrA, lenA, builtinA, newA, unA, packA, if_true, and_self, and_true, true_and, Value.cells, Int.toNat_natCast, decide_true, decide_false, cond_true, cond_false, un35]; rfl, ?_⟩
      have hrow2 : Own sh 3 1 rs[i].o rs[i].v (rs[i].xs.map encI) := hrow.same (by rw [hshn]; show t.nx ≤ t.nx + 2; omega) fun id h => by
        have := hrow.lt h
        rw [hshg, if_neg (by omega)]
        simp only [T.get_put]
        rw [if_neg (by omega), if_neg (by omega), if_neg (by omega)]
      have hy : sh.hp.get (t.nx + 1) = some (.cells true 3 [.int .i64 es[k].2]) := by
        rw [hshg, if_neg (by omega)]
        simp only [T.get_put, ↓reduceIte]; rfl
      refine opt_ex (app_one (lk := s.nx) (y := [.int .i64 es[k].2]) el35 sz3 by3 zr3 rfl (by decide) hrow2 (fun id h => (hrlo id h).1) hy rfl rfl (by simp; omega)) fun q hq => ?_
      obtain ⟨v', s5⟩ := q
      obtain ⟨p1, p2, o', p3, p4⟩ := hq
      dsimp only at p1 p2 p3
      intro s6 h6n h6g
      dsimp only at h6n h6g
      rw [hshn] at p1 p2
      dsimp only at p1 p2
      -- what is as it was
      have hsame : ∀ id, id < t.nx → rs[i].o ≠ some id → s6.hp.get id = t.hp.get id := fun id h1 h2 => by
        rw [h6g, if_neg (by omega), p2 id (by omega) h2, hshg, if_neg (by omega)]
        simp only [T.get_put]
        rw [if_neg (by omega), if_neg (by omega), if_neg (by omega)]
      have hobs : s6.hp.get (s.nx + 1) = t.hp.get (s.nx + 1) := hsame _ o2 fun h => (hrlo _ h).2 rfl
      obtain ⟨off3, cap3, cs3, hh3, w1, w2, w3⟩ := hob.set (i := i) (x := [v']) (by simp [hir]) rfl (by
        obtain ⟨_, _, hv'⟩ := p3.shape
        rw [hv']; rfl)
      simp only [Value.slice.injEq, Option.some.injEq, Addr.mk.injEq] at hh3; obtain ⟨⟨_, rfl, _⟩, _, _⟩ := hh3
      obtain ⟨vb, vc, rfl⟩ := p3.shape
      rw [← hobs] at w1
      have hle3 : s.nx ≤ s.nx + 1 := Nat.le_succ _
      have hone : ([Value.slice vb (rs[i].xs.map encI ++ [[Value.int .i64 es[k].2]]).length vc] : List Value).all Value.oneCell' = true := rfl
      have hw : IntKind.i64.wrap ((k : Int) + 1) = ((k + 1 : Nat) : Int) := by rw [IntWalk.i64_in _ (by omega)]; rfl
      have hl1 : ([Value.slice vb (rs[i].xs.map encI ++ [[Value.int .i64 es[k].2]]).length vc] : List Value).length = 1 := rfl
      have w2' : 0 + (i * 1 + 1) ≤ cs3.length := by rw [← Nat.add_assoc]; exact w2
      refine opt_of rfl ?_
      repeat (first
      | with_reducible first | apply ops_end | apply d_end | apply k_seq | apply k_seq_ret | apply k_seq_exit | apply k_block | apply k_block_ret | apply k_block_here | apply c_seq | apply c_block | apply c_region | apply c_skip | apply c_ret | apply c_exit | apply c_loop | apply k_loop_exit | apply k_loop_ret
      | (with_reducible apply k_block_on
         · decide)
      | ((first
          | (with_reducible apply ops_do
             · rfl)
          | (with_reducible apply d_same
             · rfl
             · rfl))
         · (simp only [Nat.reduceEqDiff, opA, val, opdA, opdO, T.get_put, ↓reduceIte, Nat.add_assoc, Nat.reduceAdd, Nat.left_eq_add, Nat.add_eq_left, Nat.add_left_cancel_iff, Nat.add_zero, plainN, omap, Option.map_some, Option.bind_some, Nat.le_add_right, Nat.le_refl, binA, intBinA, loadV, readA, storeV, writeA, fieldAddrA, indexAddrA, lenA, builtinA, newA, unA, packA, if_true, and_self, and_true, true_and, Value.cells, Int.toNat_natCast, decide_true, decide_false, cond_true, cond_false, k3, un30, sz35, ty35, hb2, w1, hl1, w2', hle3, hone, List.toList_toArray, h12, hw]; rfl)
         · rfl
         try (· rfl))
      | ((first
          | (with_reducible apply d_do
             · rfl
             · rfl)
          | (with_reducible apply d_quiet
             · rfl
             · rfl
             · rfl))
         · (simp only [Nat.reduceEqDiff, opA, val, opdA, opdO, T.get_put, ↓reduceIte, Nat.add_assoc, Nat.reduceAdd, Nat.left_eq_add, Nat.add_eq_left, Nat.add_left_cancel_iff, Nat.add_zero, plainN, omap, Option.map_some, Option.bind_some, Nat.le_add_right, Nat.le_refl, binA, intBinA, loadV, readA, storeV, writeA, fieldAddrA, indexAddrA, lenA, builtinA, newA, unA, packA, if_true, and_self, and_true, true_and, Value.cells, Int.toNat_natCast, decide_true, decide_false, cond_true, cond_false, k3, un30, sz35, ty35, hb2, w1, hl1, w2', hle3, hone, List.toList_toArray, h12, hw]; rfl)
         first
         | · rfl
         | (· (simp only [Nat.reduceEqDiff, loadBlk, opdA, T.get_put, ↓reduceIte, k3, un30, sz35, ty35, hb2, w1, hl1, w2', hle3, hone, List.toList_toArray, h12, hw]; rfl)
            · rfl))
      | ((first
          | with_reducible apply ops_skipG
          | (with_reducible apply d_skip
             · rfl))
         · rfl
         · rfl
         · (simp only [Nat.reduceEqDiff, T.get_put, ↓reduceIte, k3, un30, sz35, ty35, hb2, w1, hl1, w2', hle3, hone, List.toList_toArray, h12, hw]; rfl)
         · (simp only [decide_true, decide_false, k3, un30, sz35, ty35, hb2, w1, hl1, w2', hle3, hone, List.toList_toArray, h12, hw, bt_tf, bt_ft, bt_tt, bt_ff]; done)
         · rfl)
      | ((first
          | with_reducible apply ops_doG
          | (with_reducible apply d_sameG
             · rfl))
         · rfl
         · rfl
         · (simp only [Nat.reduceEqDiff, T.get_put, ↓reduceIte, k3, un30, sz35, ty35, hb2, w1, hl1, w2', hle3, hone, List.toList_toArray, h12, hw]; rfl)
         · (simp only [decide_true, decide_false, k3, un30, sz35, ty35, hb2, w1, hl1, w2', hle3, hone, List.toList_toArray, h12, hw, bt_tf, bt_ft, bt_tt, bt_ff]; done)
         · (simp only [Nat.reduceEqDiff, opA, val, opdA, opdO, T.get_put, ↓reduceIte, Nat.add_assoc, Nat.reduceAdd, Nat.left_eq_add, Nat.add_eq_left, Nat.add_left_cancel_iff, Nat.add_zero, plainN, omap, Option.map_some, Option.bind_some, Nat.le_add_right, Nat.le_refl, binA, intBinA, loadV, readA, storeV, writeA, fieldAddrA, indexAddrA, lenA, builtinA, newA, unA, packA, if_true, and_self, and_true, true_and, Value.cells, Int.toNat_natCast, decide_true, decide_false, cond_true, cond_false, k3, un30, sz35, ty35, hb2, w1, hl1, w2', hle3, hone, List.toList_toArray, h12, hw]; rfl)
         · rfl
         try (· rfl))
      | (with_reducible apply c_if
         · (simp only [Nat.reduceEqDiff, opdA, opdO, T.get_put, ↓reduceIte, Nat.add_assoc, Nat.reduceAdd, Nat.left_eq_add, Nat.add_eq_left, Nat.add_left_cancel_iff, Nat.add_zero, plainN, omap, Option.map_some, Option.bind_some, Nat.le_add_right, Nat.le_refl, decide_true, decide_false, k3, un30, sz35, ty35, hb2, w1, hl1, w2', hle3, hone, List.toList_toArray, h12, hw]; rfl)
         with_reducible first | apply if_t | apply if_f))
      intro _ _
      refine k_loop_next (m' := m - 1) (by omega) ⟨k + 1, by omega, by simp only [Nat.reduceEqDiff, T.get_put, ↓reduceIte], rs.set i ⟨o', .slice vb (rs[i].xs.map encI ++ [[Value.int .i64 es[k].2]]).length vc, rs[i].xs ++ [es[k].2]⟩, ?_, ?_, by simp [hrl], ?_⟩
      · rw [List.map_set]
        refine w3 _ ?_ (T.get_put_eq _ _ _)
        show t.nx ≤ s6.nx; omega
      · refine hrows.set hri (by show t.nx ≤ s6.nx; omega) hle o2 (fun id h1 h2 h3 => ?_) ?_ (fun id h => ?_)
        · show (T.put s6.hp _ _).get id = _
          rw [T.get_put_ne _ _ _ h3]
          exact hsame id h1 h2
        · refine (?_ : Own _ 3 1 o' _ ((rs[i].xs ++ [es[k].2]).map encI))
          rw [List.map_append]
          refine p3.same (by show s5.nx ≤ s6.nx; omega) fun id h => ?_
          have hlt2 := p3.lt h
          have hno : id ≠ s.nx + 1 ∧ id ≠ t.nx := by
            rcases p4 with rfl | rfl
            · have := hrow.lt h; exact ⟨(hrlo id h).2, by omega⟩
            · cases h; rw [hshn]; dsimp only; omega
          show (T.put s6.hp _ _).get id = _
          rw [T.get_put_ne _ _ _ hno.1, h6g, if_neg hno.2]
        · rcases p4 with rfl | rfl
          · exact Or.inl h
          · cases h; rw [hshn]; exact Or.inr (Nat.le_add_right _ _)
      · intro j r hr
        rw [succL_take hlt', hi]
        rw [List.getElem?_set] at hr
        by_cases hij : i = j
        · subst hij
          rw [if_pos rfl, if_pos hir] at hr; cases hr
          rw [if_pos rfl, ← hxi]
        · rw [if_neg hij] at hr
          rw [if_neg (by omega)]
          exact hxs j r hr
    · have hke : es.take k = es := List.take_of_length_le (by simp at hlt; omega)
      rw [hke] at hxs
      repeat (first
      | with_reducible first | apply ops_end | apply d_end | apply k_seq | apply k_seq_ret | apply k_seq_exit | apply k_block | apply k_block_ret | apply k_block_here | apply c_seq | apply c_block | apply c_region | apply c_skip | apply c_ret | apply c_exit | apply c_loop | apply k_loop_exit | apply k_loop_ret
      | (with_reducible apply k_block_on
         · decide)
      | ((first
          | (with_reducible apply ops_do
             · rfl)
          | (with_reducible apply d_same
             · rfl
             · rfl))
         · (simp only [Nat.reduceEqDiff, opA, val, opdA, opdO, T.get_put, ↓reduceIte, Nat.add_assoc, Nat.reduceAdd, Nat.left_eq_add, Nat.add_eq_left, Nat.add_left_cancel_iff, Nat.add_zero, plainN, omap, Option.map_some, Option.bind_some, Nat.le_add_right, Nat.le_refl, binA, intBinA, loadV, readA, storeV, writeA, fieldAddrA, indexAddrA, lenA, builtinA, newA, unA, packA, if_true, and_self, and_true, true_and, Value.cells, Int.toNat_natCast, decide_true, decide_false, cond_true, cond_false, h12, k11, hlt]; rfl)
         · rfl
         try (· rfl))
      | ((first
          | (with_reducible apply d_do
             · rfl
             · rfl)
          | (with_reducible apply d_quiet
             · rfl
             · rfl
             · rfl))
         · (simp only [Nat.reduceEqDiff, opA, val, opdA, opdO, T.get_put, ↓reduceIte, Nat.add_assoc, Nat.reduceAdd, Nat.left_eq_add, Nat.add_eq_left, Nat.add_left_cancel_iff, Nat.add_zero, plainN, omap, Option.map_some, Option.bind_some, Nat.le_add_right, Nat.le_refl, binA, intBinA, loadV, readA, storeV, writeA, fieldAddrA, indexAddrA, lenA, builtinA, newA, unA, packA, if_true, and_self, and_true, true_and, Value.cells, Int.toNat_natCast, decide_true, decide_false, cond_true, cond_false, h12, k11, hlt]; rfl)
         first
         | · rfl
         | (· (simp only [Nat.reduceEqDiff, loadBlk, opdA, T.get_put, ↓reduceIte, h12, k11, hlt]; rfl)
            · rfl))
      | ((first
          | with_reducible apply ops_skipG
          | (with_reducible apply d_skip
             · rfl))
         · rfl
         · rfl
         · (simp only [Nat.reduceEqDiff, T.get_put, ↓reduceIte, h12, k11, hlt]; rfl)
         · (simp only [decide_true, decide_false, h12, k11, hlt, bt_tf, bt_ft, bt_tt, bt_ff]; done)
         · rfl)
      | ((first
          | with_reducible apply ops_doG
          | (with_reducible apply d_sameG
             · rfl))
         · rfl
         · rfl
         · (simp only [Nat.reduceEqDiff, T.get_put, ↓reduceIte, h12, k11, hlt]; rfl)
         · (simp only [decide_true, decide_false, h12, k11, hlt, bt_tf, bt_ft, bt_tt, bt_ff]; done)
         · (simp only [Nat.reduceEqDiff, opA, val, opdA, opdO, T.get_put, ↓reduceIte, Nat.add_assoc, Nat.reduceAdd, Nat.left_eq_add, Nat.add_eq_left, Nat.add_left_cancel_iff, Nat.add_zero, plainN, omap, Option.map_some, Option.bind_some, Nat.le_add_right, Nat.le_refl, binA, intBinA, loadV, readA, storeV, writeA, fieldAddrA, indexAddrA, lenA, builtinA, newA, unA, packA, if_true, and_self, and_true, true_and, Value.cells, Int.toNat_natCast, decide_true, decide_false, cond_true, cond_false, h12, k11, hlt]; rfl)
         · rfl
         try (· rfl))
      | (with_reducible apply c_if
         · (simp only [Nat.reduceEqDiff, opdA, opdO, T.get_put, ↓reduceIte, Nat.add_assoc, Nat.reduceAdd, Nat.left_eq_add, Nat.add_eq_left, Nat.add_left_cancel_iff, Nat.add_zero, plainN, omap, Option.map_some, Option.bind_some, Nat.le_add_right, Nat.le_refl, decide_true, decide_false, h12, k11, hlt]; rfl)
         with_reducible first | apply if_t | apply if_f))
      intro _ _
      repeat (first
      | with_reducible first | apply ops_end | apply d_end | apply k_seq | apply k_seq_ret | apply k_seq_exit | apply k_block | apply k_block_ret | apply k_block_here | apply c_seq | apply c_block | apply c_region | apply c_skip | apply c_ret | apply c_exit | apply c_loop | apply k_loop_exit | apply k_loop_ret
      | (with_reducible apply k_block_on
         · decide)
      | ((first
          | (with_reducible apply ops_do
             · rfl)
          | (with_reducible apply d_same
             · rfl
             · rfl))
         · (simp only [Nat.reduceEqDiff, opA, val, opdA, opdO, T.get_put, ↓reduceIte, Nat.add_assoc, Nat.reduceAdd, Nat.left_eq_add, Nat.add_eq_left, Nat.add_left_cancel_iff, Nat.add_zero, plainN, omap, Option.map_some, Option.bind_some, Nat.le_add_right, Nat.le_refl, binA, intBinA, loadV, readA, storeV, writeA, fieldAddrA, indexAddrA, lenA, builtinA, newA, unA, packA, if_true, and_self, and_true, true_and, Value.cells, Int.toNat_natCast, decide_true, decide_false, cond_true, cond_false, k3]; rfl)
         · rfl
         try (· rfl))
      | ((first
          | (with_reducible apply d_do
             · rfl
             · rfl)
          | (with_reducible apply d_quiet
             · rfl
             · rfl
             · rfl))
         · (simp only [Nat.reduceEqDiff, opA, val, opdA, opdO, T.get_put, ↓reduceIte, Nat.add_assoc, Nat.reduceAdd, Nat.left_eq_add, Nat.add_eq_left, Nat.add_left_cancel_iff, Nat.add_zero, plainN, omap, Option.map_some, Option.bind_some, Nat.le_add_right, Nat.le_refl, binA, intBinA, loadV, readA, storeV, writeA, fieldAddrA, indexAddrA, lenA, builtinA, newA, unA, packA, if_true, and_self, and_true, true_and, Value.cells, Int.toNat_natCast, decide_true, decide_false, cond_true, cond_false, k3]; rfl)
         first
         | · rfl
         | (· (simp only [Nat.reduceEqDiff, loadBlk, opdA, T.get_put, ↓reduceIte, k3]; rfl)
            · rfl))
      | ((first
          | with_reducible apply ops_skipG
          | (with_reducible apply d_skip
             · rfl))
         · rfl
         · rfl
         · (simp only [Nat.reduceEqDiff, T.get_put, ↓reduceIte, k3]; rfl)
         · (simp only [decide_true, decide_false, k3, bt_tf, bt_ft, bt_tt, bt_ff]; done)
         · rfl)
      | ((first
          | with_reducible apply ops_doG
          | (with_reducible apply d_sameG
             · rfl))
         · rfl
         · rfl
         · (simp only [Nat.reduceEqDiff, T.get_put, ↓reduceIte, k3]; rfl)
         · (simp only [decide_true, decide_false, k3, bt_tf, bt_ft, bt_tt, bt_ff]; done)
         · (simp only [Nat.reduceEqDiff, opA, val, opdA, opdO, T.get_put, ↓reduceIte, Nat.add_assoc, Nat.reduceAdd, Nat.left_eq_add, Nat.add_eq_left, Nat.add_left_cancel_iff, Nat.add_zero, plainN, omap, Option.map_some, Option.bind_some, Nat.le_add_right, Nat.le_refl, binA, intBinA, loadV, readA, storeV, writeA, fieldAddrA, indexAddrA, lenA, builtinA, newA, unA, packA, if_true, and_self, and_true, true_and, Value.cells, Int.toNat_natCast, decide_true, decide_false, cond_true, cond_false, k3]; rfl)
         · rfl
         try (· rfl))
      | (with_reducible apply c_if
         · (simp only [Nat.reduceEqDiff, opdA, opdO, T.get_put, ↓reduceIte, Nat.add_assoc, Nat.reduceAdd, Nat.left_eq_add, Nat.add_eq_left, Nat.add_left_cancel_iff, Nat.add_zero, plainN, omap, Option.map_some, Option.bind_some, Nat.le_add_right, Nat.le_refl, decide_true, decide_false, k3]; rfl)
         with_reducible first | apply if_t | apply if_f))
      intro _
      (first
      | (with_reducible apply ret_i
         · (simp only [Nat.reduceEqDiff, omap, resA, opdA, opdO, T.get_put, ↓reduceIte, Nat.add_assoc, Nat.reduceAdd, Nat.left_eq_add, Nat.add_eq_left, Nat.add_left_cancel_iff, Nat.add_zero, plainN, omap, Option.map_some, Option.bind_some, Nat.le_add_right, Nat.le_refl, loadV, readA, packA]; rfl))
      | (with_reducible apply ret_n
         · (simp only [Nat.reduceEqDiff, omap, resA, opdA, opdO, T.get_put, ↓reduceIte, Nat.add_assoc, Nat.reduceAdd, Nat.left_eq_add, Nat.add_eq_left, Nat.add_left_cancel_iff, Nat.add_zero, plainN, omap, Option.map_some, Option.bind_some, Nat.le_add_right, Nat.le_refl, loadV, readA, packA]; rfl)))
      exact ⟨s.nx + 1, rs, Nat.le_succ _, hob, hrows, hrl, hxs⟩
end Go.Ev
