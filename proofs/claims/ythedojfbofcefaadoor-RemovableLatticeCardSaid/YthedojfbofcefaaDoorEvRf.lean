import Derived.Test.YthedojfbofcefaaDoorEvG18
import Derived.Test.YthedojfbofcefaaDoorEvReg
/- The model: before, candidates. -/
namespace Go.Ev
open Go Go.Proofs
set_option linter.unusedSimpArgs false
set_option linter.unusedVariables false
set_option maxRecDepth 100000
set_option maxHeartbeats 4000000
attribute [local irreducible] wpOps wpC wpD wpF wpLoop wpCall seqK blockK loopK retK T.put T.get T.setF

def ltL : List Int → List Int → Bool
  | x :: xs, y :: ys => if x ≠ y then decide (x < y) else ltL xs ys
  | _, _ => false
def beforeB (a b : List Int) : Bool := if a.length ≠ b.length then decide (a.length < b.length) else ltL a b

theorem f27_spec [Sorts Tryd.prog] (a b : List Int) (av bv : Value) (s : HS) (ha : Sl s 1 av (a.map encI)) (hb : Sl s 1 bv (b.map encI)) (hl : a.length < 1000000000) :
    wpF Tryd.prog s.nx 27 [av, bv] s (fun v s' => v = .bool (beforeB a b) ∧ s' = s) := by
  obtain ⟨p1, c1, rfl⟩ := ha.shape
  obtain ⟨p2, c2, rfl⟩ := hb.shape
  simp only [List.length_map] at ha hb ⊢
  refine wpF_of Tryd.func27 rfl rfl rfl rfl (Nat.le_refl _) ?_
  simp only [paramsA]
  unfold beforeB
  by_cases hne : a.length = b.length
  · have e0 : ((a.length : Int) != (b.length : Int)) = false := by simp [hne]
    rw [if_neg (by simpa using hne)]
    repeat (first
  | with_reducible first | refine st (by constructor) ?_ | apply c_region
  | (with_reducible apply k_block_on
     · decide)
  | ((with_reducible first | apply xOp | apply xDr | apply xIf); rfl; (simp only [Nat.reduceEqDiff, Nat.reduceAdd, ↓reduceIte, xBB, stG, undef, opA, val, opdA, opdO, plainN, omap, binA, intBinA, loadV, readA, storeV, writeA, fieldAddrA, indexAddrA, lenA, builtinA, newA, unA, packA, Value.cells, un35, e0]; rfl); first | rfl | exact ⟨rfl, rfl, rfl⟩))
    refine loop_k (lk' := s.nx) (s0 := s) (fun m f t => t = s ∧ ∃ k : Nat, k + m = a.length ∧ f.get 5 = some (.int .i64 k) ∧ ltL a b = ltL (a.drop k) (b.drop k)) a.length (Nat.le_refl _) (Nat.le_refl _) ?_ (Ab.refl _ _) ?_
    · exact ⟨rfl, 0, by omega, by simp only [Nat.reduceEqDiff, T.get_put, ↓reduceIte]; rfl, rfl⟩
    · rintro m f t ⟨rfl, k, hk, h5, hc⟩ hA hF
      (have k0 := hF 0 (by rfl); simp only [Nat.reduceEqDiff, T.get_put, ↓reduceIte] at k0; have k1 := hF 1 (by rfl); simp only [Nat.reduceEqDiff, T.get_put, ↓reduceIte] at k1)
      by_cases hlt : (k : Int) < (a.length : Int)
      · have hlt' : k < a.length := by omega
        have hltb : k < b.length := by omega
        have hw : IntKind.i64.wrap ((k : Int) + 1) = ((k + 1 : Nat) : Int) := by rw [IntWalk.i64_in _ (by omega)]; rfl
        have hba : (0 : Int) ≤ (k : Int) ∧ (k : Int) < (a.length : Int) := by omega
        have hbb : (0 : Int) ≤ (k : Int) ∧ (k : Int) < (b.length : Int) := by omega
        have ha' := ha
        have hb' := hb
        rw [show a.length = (a.map encI).length by simp] at ha'
        rw [show b.length = (b.map encI).length by simp] at hb'
        obtain ⟨id, off, wr, e, cs, rfl, g1, g2, g3, g4⟩ := ha'.at (i := k) (x := encI a[k]) (by simp [hlt'])
        obtain ⟨id2, off2, wr2, e2, cs2, rfl, r1, r2, r3, r4⟩ := hb'.at (i := k) (x := encI b[k]) (by simp [hltb])
        simp only [encI] at g3 r3
        rw [List.drop_eq_getElem_cons hlt', List.drop_eq_getElem_cons hltb] at hc
        repeat (first
  | with_reducible first | refine st (by constructor) ?_ | apply c_region
  | (with_reducible apply k_block_on
     · decide)
  | ((with_reducible first | apply xOp | apply xDr | apply xIf); rfl; (simp only [Nat.reduceEqDiff, Nat.reduceAdd, ↓reduceIte, xBB, stG, undef, opA, val, opdA, opdO, plainN, omap, binA, intBinA, loadV, readA, storeV, writeA, fieldAddrA, indexAddrA, lenA, builtinA, newA, unA, packA, Value.cells, h5, k0, un35, hlt]; rfl); first | rfl | exact ⟨rfl, rfl, rfl⟩))
        refine c_draw [⟨false, [], none⟩, ⟨false, [], none⟩, ⟨false, [], none⟩, ⟨false, [], none⟩, ⟨false, [], none⟩, ⟨false, [], none⟩, ⟨false, [], none⟩, ⟨false, [3], none⟩, ⟨true, [], none⟩] (by kernel_rfl) ?_
        by_cases hne2 : a[k] = b[k]
        · have e1 : (a[k] != b[k]) = false := by simp [hne2]
          rw [ltL, if_neg (by simpa using hne2)] at hc
          repeat (first
  | with_reducible first | refine st (by constructor) ?_ | apply c_region
  | (with_reducible apply k_block_on
     · decide)
  | ((with_reducible first | apply xOp | apply xDr | apply xIf); rfl; (simp only [Nat.reduceEqDiff, Nat.reduceAdd, ↓reduceIte, xBB, stG, undef, opA, val, opdA, opdO, plainN, omap, binA, intBinA, loadV, readA, storeV, writeA, fieldAddrA, indexAddrA, lenA, builtinA, newA, unA, packA, Value.cells, h5, k0, k1, un35, sz3, ty3, hba, hbb, g1, g3, r1, r3, e1, hw]; rfl); first | rfl | exact ⟨rfl, rfl, rfl⟩))
          intro _ _
          exact k_loop_next (m' := m - 1) (by omega) ⟨rfl, k + 1, by omega, by simp only [Nat.reduceEqDiff, T.get_put, ↓reduceIte], hc⟩
        · have e1 : (a[k] != b[k]) = true := by simp [hne2]
          rw [ltL, if_pos hne2] at hc
          repeat (first
  | with_reducible first | refine st (by constructor) ?_ | apply c_region
  | (with_reducible apply k_block_on
     · decide)
  | ((with_reducible first | apply xOp | apply xDr | apply xIf); rfl; (simp only [Nat.reduceEqDiff, Nat.reduceAdd, ↓reduceIte, xBB, stG, undef, opA, val, opdA, opdO, plainN, omap, binA, intBinA, loadV, readA, storeV, writeA, fieldAddrA, indexAddrA, lenA, builtinA, newA, unA, packA, Value.cells, h5, k0, k1, un35, sz3, ty3, hba, hbb, g1, g3, r1, r3, e1]; rfl); first | rfl | exact ⟨rfl, rfl, rfl⟩))
          refine c_draw [⟨false, [], none⟩, ⟨false, [], none⟩, ⟨false, [], none⟩, ⟨false, [], none⟩, ⟨false, [], none⟩, ⟨false, [], none⟩, ⟨false, [], none⟩, ⟨false, [3], none⟩, ⟨true, [], none⟩, ⟨true, [], none⟩] (by kernel_rfl) ?_
          repeat (first
  | with_reducible first | refine st (by constructor) ?_ | apply c_region
  | (with_reducible apply k_block_on
     · decide)
  | ((with_reducible first | apply xOp | apply xDr | apply xIf); rfl; (simp only [Nat.reduceEqDiff, Nat.reduceAdd, ↓reduceIte, xBB, stG, undef, opA, val, opdA, opdO, plainN, omap, binA, intBinA, loadV, readA, storeV, writeA, fieldAddrA, indexAddrA, lenA, builtinA, newA, unA, packA, Value.cells, h5, k0, k1, un35, sz3, ty3, hba, hbb, g1, g3, r1, r3]; rfl); first | rfl | exact ⟨rfl, rfl, rfl⟩))
          intro _ _
          repeat (first
  | with_reducible first | refine st (by constructor) ?_ | apply c_region
  | (with_reducible apply k_block_on
     · decide)
  | ((with_reducible first | apply xOp | apply xDr | apply xIf); rfl; (simp only [Nat.reduceEqDiff, Nat.reduceAdd, ↓reduceIte, xBB, stG, undef, opA, val, opdA, opdO, plainN, omap, binA, intBinA, loadV, readA, storeV, writeA, fieldAddrA, indexAddrA, lenA, builtinA, newA, unA, packA, Value.cells]; rfl); first | rfl | exact ⟨rfl, rfl, rfl⟩))
          intro _
          ((with_reducible first | apply ret_i | apply ret_n); (simp only [Nat.reduceEqDiff, Nat.reduceAdd, ↓reduceIte, xBB, resA, opdA, opdO, plainN, omap, val, loadV, readA, packA]; rfl))
          exact ⟨by rw [hc]; rfl, rfl⟩
      · have hkn : k = a.length := by omega
        have hc' : ltL a b = false := by
          rw [hc, hkn, List.drop_length]
          cases b.drop a.length <;> rfl
        · repeat (first
  | with_reducible first | refine st (by constructor) ?_ | apply c_region
  | (with_reducible apply k_block_on
     · decide)
  | ((with_reducible first | apply xOp | apply xDr | apply xIf); rfl; (simp only [Nat.reduceEqDiff, Nat.reduceAdd, ↓reduceIte, xBB, stG, undef, opA, val, opdA, opdO, plainN, omap, binA, intBinA, loadV, readA, storeV, writeA, fieldAddrA, indexAddrA, lenA, builtinA, newA, unA, packA, Value.cells, h5, k0, un35, hlt]; rfl); first | rfl | exact ⟨rfl, rfl, rfl⟩))
          intro _ _
          repeat (first
  | with_reducible first | refine st (by constructor) ?_ | apply c_region
  | (with_reducible apply k_block_on
     · decide)
  | ((with_reducible first | apply xOp | apply xDr | apply xIf); rfl; (simp only [Nat.reduceEqDiff, Nat.reduceAdd, ↓reduceIte, xBB, stG, undef, opA, val, opdA, opdO, plainN, omap, binA, intBinA, loadV, readA, storeV, writeA, fieldAddrA, indexAddrA, lenA, builtinA, newA, unA, packA, Value.cells]; rfl); first | rfl | exact ⟨rfl, rfl, rfl⟩))
          intro _
          ((with_reducible first | apply ret_i | apply ret_n); (simp only [Nat.reduceEqDiff, Nat.reduceAdd, ↓reduceIte, xBB, resA, opdA, opdO, plainN, omap, val, loadV, readA, packA]; rfl))
          exact ⟨by rw [hc']; rfl, rfl⟩
  · have e0 : ((a.length : Int) != (b.length : Int)) = true := by simp; omega
    rw [if_pos hne]
    repeat (first
  | with_reducible first | refine st (by constructor) ?_ | apply c_region
  | (with_reducible apply k_block_on
     · decide)
  | ((with_reducible first | apply xOp | apply xDr | apply xIf); rfl; (simp only [Nat.reduceEqDiff, Nat.reduceAdd, ↓reduceIte, xBB, stG, undef, opA, val, opdA, opdO, plainN, omap, binA, intBinA, loadV, readA, storeV, writeA, fieldAddrA, indexAddrA, lenA, builtinA, newA, unA, packA, Value.cells, un35, e0]; rfl); first | rfl | exact ⟨rfl, rfl, rfl⟩))
    intro _
    ((with_reducible first | apply ret_i | apply ret_n); (simp only [Nat.reduceEqDiff, Nat.reduceAdd, ↓reduceIte, xBB, resA, opdA, opdO, plainN, omap, val, loadV, readA, packA]; rfl))
    refine ⟨?_, rfl⟩
    show Value.bool (decide ((a.length : Int) < (b.length : Int))) = _
    congr 1
    simp

/-- Where a set belongs: from the end. -/
def posB (l : List Int) (out : List (List Int)) : Nat → Nat
  | 0 => 0
  | k + 1 => if beforeB l (out.getD k []) then posB l out k else k + 1
theorem posB_le (l : List Int) (out : List (List Int)) : ∀ k, posB l out k ≤ k
  | 0 => Nat.le_refl _
  | k + 1 => by unfold posB; split; exact Nat.le_succ_of_le (posB_le l out k); exact Nat.le_refl _
def insB (l : List Int) (out : List (List Int)) : List (List Int) := out.take (posB l out out.length) ++ l :: out.drop (posB l out out.length)
theorem insB_len (l : List Int) (out : List (List Int)) : (insB l out).length = out.length + 1 := by
  unfold insB
  have := posB_le l out out.length
  simp only [List.length_append, List.length_take, List.length_cons, List.length_drop]
  omega
/-- A candidate of the model. -/
def okC (es : List (Int × Int)) (most wo : Int) (S : Nat) : Bool := closedB es S && !(decide (most > 0) && decide (((nodesL S 62).length : Int) > most)) && !(decide (wo ≥ 0) && S.testBit wo.toNat)
/-- The candidates up to a number. -/
def candU (es : List (Int × Int)) (most wo : Int) : Nat → List (List Int)
  | 0 => []
  | k + 1 => if okC es most wo (k + 1) then insB (nodesL (k + 1) 62) (candU es most wo k) else candU es most wo k
theorem candU_len (es : List (Int × Int)) (most wo : Int) : ∀ k, (candU es most wo k).length ≤ k
  | 0 => Nat.le_refl _
  | k + 1 => by
    unfold candU
    have := candU_len es most wo k
    split
    · rw [insB_len]; omega
    · omega

theorem sub_one' {n : Nat} (h : n < 62) : IntKind.i64.wrap ((((2 ^ n : Nat)) : Int) - 1) = ((2 ^ n - 1 : Nat) : Int) := by
  have h1 : 0 < 2 ^ n := Nat.pow_pos (by decide)
  have h2 : 2 ^ n < 2 ^ 62 := Nat.pow_lt_pow_right (by decide) h
  generalize 2 ^ n = x at *
  rw [show (x : Int) - 1 = ((x - 1 : Nat) : Int) by omega]
  exact wrapN (by omega)

theorem Bld.ins {t w : HS} {o : Option Nat} {v r : Value} {vs : List Value} {ls : List (List Int)} {l : List Int} {k z : Nat} (h1 : Own t 35 1 o v (vs.map fun r => [r])) (h2 : vs.length = ls.length)
    (h3 : ∀ (i : Nat) (r : Value) (l : List Int), vs[i]? = some r → ls[i]? = some l → SlB t (fun id => o = some id ∨ False) r (l.map encI)) (hr : Sl t 1 r (l.map encI)) (hk : k ≤ vs.length) (hz : t.nx ≤ z) (hzw : z < w.nx) (hu : vs.length < 1000000000)
    (hw : ∀ id, id < t.nx → w.hp.get id = t.hp.get id) (hc : w.hp.get z = some (.cells true 35 (((vs.take k).map fun r => [r]).flatten ++ (r :: ((vs.drop k).map fun r => [r]).flatten)))) :
    Bld w (fun _ => False) (some z) (.slice (some ⟨z, 0, none⟩) (vs.length + 1) (UNK + (vs.length + 1))) (ls.take k ++ l :: ls.drop k) := by
  have hlen : (vs.take k ++ r :: vs.drop k).length = vs.length + 1 := by
    simp only [List.length_append, List.length_take, List.length_cons, List.length_drop]; omega
  have hone : ∀ (r : Value) (l : List Int), Sl t 1 r (l.map encI) → cell1 [r] = true := fun r l h => by
    obtain ⟨b, c, h⟩ := h.shape
    rw [h]; rfl
  have hall : ∀ x ∈ (vs.take k ++ r :: vs.drop k), ∃ (j : Nat) (l : List Int), Sl t 1 x (l.map encI) := fun x hx => by
    have hv : ∀ x ∈ vs, ∃ (j : Nat) (l : List Int), Sl t 1 x (l.map encI) := fun x hx => by
      obtain ⟨i, hi⟩ := List.getElem?_of_mem hx
      have hil := (List.getElem?_eq_some_iff.1 hi).1
      exact ⟨0, _, (h3 i x _ hi (List.getElem?_eq_getElem (by omega))).sl⟩
    rcases List.mem_append.1 hx with h | h
    · exact hv x (List.mem_of_mem_take h)
    · rcases List.mem_cons.1 h with rfl | h
      · exact ⟨0, l, hr⟩
      · exact hv x (List.mem_of_mem_drop h)
  have hold : ∀ (x : Value) (l : List Int), Sl t 1 x (l.map encI) → SlB w (fun id => some z = some id ∨ False) x (l.map encI) := fun x l h => by
    refine (SlB.of_sl (bad := fun id => t.nx ≤ id) h (fun id h => h)).same (s' := w) (by omega) (fun id h1 _ => hw id h1) fun id h => ?_
    rcases h with h | h
    · cases h; exact Or.inl hz
    · cases h
  refine ⟨fun id _ h => h, vs.take k ++ r :: vs.drop k, ?_, ?_, fun i x l' hx hl' => ?_⟩
  · refine Own.block hc ?_ hzw (by rw [List.length_map, hlen]) (Or.inr rfl) (fun x hx => ?_) (by rw [List.length_map, hlen]; unfold UNK; omega)
    · rw [List.map_append, List.map_cons, List.flatten_append, List.flatten_cons]; rfl
    · obtain ⟨y, hy, rfl⟩ := List.mem_map.1 hx
      obtain ⟨j, l, h⟩ := hall y hy
      exact ⟨rfl, hone y l h⟩
  · rw [hlen]
    simp only [List.length_append, List.length_take, List.length_cons, List.length_drop]; omega
  · refine hold x l' ?_
    rw [List.getElem?_append] at hx hl'
    rw [List.length_take, Nat.min_eq_left hk] at hx
    rw [List.length_take, Nat.min_eq_left (by omega)] at hl'
    split at hx
    · rename_i hik
      rw [if_pos hik] at hl'
      rw [List.getElem?_take_of_lt hik] at hx hl'
      exact (h3 i x l' hx hl').sl
    · rename_i hik
      rw [if_neg hik] at hl'
      cases hj : i - k with
      | zero => rw [hj] at hx hl'; cases hx; cases hl'; exact hr
      | succ j =>
        rw [hj, List.getElem?_cons_succ, List.getElem?_drop] at hx hl'
        exact (h3 _ x l' hx hl').sl

theorem f11_spec [Sorts Tryd.prog] (n : Nat) (es : List (Int × Int)) (ev : Value) (most wo : Int) (s : HS) (hs : Sl s 2 ev (es.map encE)) (hg : GoodG n es) (hn : n < 20) :
    wpF Tryd.prog s.nx 11 [vG n ev, .int .i64 most, .int .i64 wo] s (fun v s' => Lls s' v (candU es most wo (2 ^ n - 2))) := by
  refine wpF_of Tryd.func11 rfl rfl rfl rfl (Nat.le_refl _) ?_
  simp only [paramsA, vG]
  repeat (first
  | with_reducible first | refine st (by constructor) ?_ | apply c_region
  | (with_reducible apply k_block_on
     · decide)
  | ((with_reducible first | apply xOp | apply xDr | apply xIf); rfl; (simp only [Nat.reduceEqDiff, Nat.reduceAdd, ↓reduceIte, xBB, stG, undef, opA, val, opdA, opdO, plainN, omap, binA, intBinA, loadV, readA, storeV, writeA, fieldAddrA, indexAddrA, lenA, builtinA, newA, unA, packA, Value.cells, sz28]; rfl); first | rfl | exact ⟨rfl, rfl, rfl⟩))
  have hA0 := Ab.new (lk := s.nx) s (.cells true 28 [.int .i64 n, ev])
  have hp20 : 2 ^ n < 2 ^ 20 := Nat.pow_lt_pow_right (by decide) hn
  have hp0 : 0 < 2 ^ n := Nat.pow_pos (by decide)
  have hshl := shl_i64 (k := n) (by omega)
  have hsub := sub_one' (n := n) (by omega)
  have hc1 : cutL [Value.int .i64 (n : Int), ev] 0 1 = some [Value.int .i64 n] := rfl
  have hc2 : cutL [Value.int .i64 (n : Int), ev] 0 2 = some [.int .i64 n, ev] := rfl
  generalize hst0 : ({ hp := s.hp.put s.nx (some (.cells true 28 [.int .i64 n, ev])), nx := s.nx + 1 } : HS) = s1 at *
  have hn1 : s1.nx = s.nx + 1 := by rw [← hst0]
  have hbox : s1.hp.get s.nx = some (.cells true 28 [.int .i64 n, ev]) := by rw [← hst0]; exact T.get_put_eq _ _ _
  refine loop_k (lk' := s1.nx) (s0 := s1) (fun m f t => ∃ k : Nat, k + m = 2 ^ n ∧ k ≤ 2 ^ n - 2 ∧ f.get 8 = some (.int .i64 ((k + 1 : Nat))) ∧ ∃ (o : Option Nat) (v : Value), f.get 7 = some v ∧ Bld t (fun _ => False) o v (candU es most wo k) ∧ newer s1 o ∧ (o = none ∨ candU es most wo k ≠ [])) (2 ^ n) (by omega) (Nat.le_refl _) ?_ (Ab.refl _ _) ?_
  · exact ⟨0, by omega, by omega, by simp only [Nat.reduceEqDiff, T.get_put, ↓reduceIte]; rfl, none, _, by simp only [Nat.reduceEqDiff, T.get_put, ↓reduceIte], Bld.nil, fun _ h => (by cases h), Or.inl rfl⟩
  · rintro m f t ⟨k, hk, hk2, h8, o, v, h7, hB, hnew, hne⟩ hA hF
    (have k1 := hF 1 (by rfl); simp only [Nat.reduceEqDiff, T.get_put, ↓reduceIte] at k1; have k2 := hF 2 (by rfl); simp only [Nat.reduceEqDiff, T.get_put, ↓reduceIte] at k2; have k3 := hF 3 (by rfl); simp only [Nat.reduceEqDiff, T.get_put, ↓reduceIte] at k3)
    have hnt := hA.nx
    have htb := (hA.get (Nat.le_refl _) (by omega)).trans hbox
    by_cases hlt : (((k + 1 : Nat)) : Int) < ((2 ^ n - 1 : Nat) : Int)
    · have hw : IntKind.i64.wrap ((((k + 1 : Nat)) : Int) + 1) = ((k + 1 + 1 : Nat) : Int) := wrapN (x := k + 1 + 1) (by omega)
      have hk62 : k + 1 < 2 ^ 62 := Nat.lt_of_lt_of_le (show k + 1 < 2 ^ 20 by omega) (by decide)
      have hk63 : k + 1 < 2 ^ 63 := Nat.lt_of_lt_of_le (show k + 1 < 2 ^ 20 by omega) (by decide)
      have hcu : candU es most wo (k + 1) = if okC es most wo (k + 1) then insB (nodesL (k + 1) 62) (candU es most wo k) else candU es most wo k := rfl
      have hcl := candU_len es most wo k
      repeat (first
  | with_reducible first | refine st (by constructor) ?_ | apply c_region
  | (with_reducible apply k_block_on
     · decide)
  | ((with_reducible first | apply xOp | apply xDr | apply xIf); rfl; (simp only [Nat.reduceEqDiff, Nat.reduceAdd, ↓reduceIte, xBB, stG, undef, opA, val, opdA, opdO, plainN, omap, binA, intBinA, loadV, readA, storeV, writeA, fieldAddrA, indexAddrA, lenA, builtinA, newA, unA, packA, Value.cells, h8, k3, fd28_0, ty3, htb, hc1, hshl, hsub, hlt]; rfl); first | rfl | exact ⟨rfl, rfl, rfl⟩))
      ((with_reducible first | apply xCa | apply xCd); rfl; (simp only [Nat.reduceEqDiff, Nat.reduceAdd, ↓reduceIte, xBB, stB, opdA, opdO, plainN, omap, val, Value.cells]; exact ⟨rfl, rfl⟩); try rfl)
      apply call_fn
      refine (f18_spec (k + 1) t hk62).use hnt (Nat.le_refl _) fun r t1 hv hA1 => ?_
      obtain ⟨o1, hrow, hrn⟩ := hv
      have hnt1 := hA1.nx
      have htb1 := (hA1.get (Nat.le_refl _) (by omega)).trans htb
      obtain ⟨rb, rc, rfl⟩ := hrow.shape
      have hsE : Sl t1 2 ev (es.map encE) := ((hs.keep hA0).keep hA).keep hA1
      have hB1 : Bld t1 (fun _ => False) o v (candU es most wo k) := hB.same hA1.nx (fun id h _ => hA1.get (Nat.le_refl _) h) fun id h => Or.inl h
      have hbk : ∀ id, o = some id → id < t1.nx := fun id h => hB1.lt h
      refine opt_of rfl ?_
      repeat (first
  | with_reducible first | refine st (by constructor) ?_
  | (with_reducible apply k_block_on
     · decide)
  | ((with_reducible first | apply xOp | apply xDr | apply xIf); rfl; (simp only [Nat.reduceEqDiff, Nat.reduceAdd, ↓reduceIte, xBB, stG, undef, opA, val, opdA, opdO, plainN, omap, binA, intBinA, loadV, readA, storeV, writeA, fieldAddrA, indexAddrA, lenA, builtinA, newA, unA, packA, Value.cells]; rfl); first | rfl | exact ⟨rfl, rfl, rfl⟩))
      have hlr := nodesL_len (k + 1) 62
      have hlm : ((nodesL (k + 1) 62).map encI).length = (nodesL (k + 1) 62).length := List.length_map _
      refine c_regionK (fun f' t' => Ab t1.nx t1 t' ∧ f'.get 45 = some (.bool (!okC es most wo (k + 1)))) ?_ ?_
      · repeat (first
  | with_reducible first | refine st (by constructor) ?_ | apply c_region
  | (with_reducible apply k_block_on
     · decide)
  | ((with_reducible first | apply xOp | apply xDr | apply xIf); rfl; (simp only [Nat.reduceEqDiff, Nat.reduceAdd, ↓reduceIte, xBB, stG, undef, opA, val, opdA, opdO, plainN, omap, binA, intBinA, loadV, readA, storeV, writeA, fieldAddrA, indexAddrA, lenA, builtinA, newA, unA, packA, Value.cells, h8, k1, k2, k3, ty28, htb1, hc2, List.toList_toArray]; rfl); first | rfl | exact ⟨rfl, rfl, rfl⟩))
        ((with_reducible first | apply xCa | apply xCd); rfl; (simp only [Nat.reduceEqDiff, Nat.reduceAdd, ↓reduceIte, xBB, stB, opdA, opdO, plainN, omap, val, Value.cells]; exact ⟨rfl, rfl⟩); try rfl)
        apply call_fn
        refine (f17_spec n es ev (k + 1) t1 hsE hg hk62).use (by omega) (Nat.le_refl _) fun v2 t2 hv hA2 => ?_
        subst hv
        unfold okC
        refine opt_of rfl ?_
        cases hcl' : closedB es (k + 1) with
        | false =>
          repeat (first
  | with_reducible first | refine st (by constructor) ?_ | apply c_region
  | (with_reducible apply k_block_on
     · decide)
  | ((with_reducible first | apply xOp | apply xDr | apply xIf); rfl; (simp only [Nat.reduceEqDiff, Nat.reduceAdd, ↓reduceIte, xBB, stG, undef, opA, val, opdA, opdO, plainN, omap, binA, intBinA, loadV, readA, storeV, writeA, fieldAddrA, indexAddrA, lenA, builtinA, newA, unA, packA, Value.cells, Bool.not_false]; rfl); first | rfl | exact ⟨rfl, rfl, rfl⟩))
          exact ⟨hA2, by simp only [Nat.reduceEqDiff, T.get_put, ↓reduceIte]; rfl⟩
        | true =>
          have hwo : ∃ r : Bool, (decide (wo ≥ 0) && (k + 1).testBit wo.toNat) = r ∧ ((¬ wo ≥ 0 ∧ r = false) ∨ (wo ≥ 0 ∧ ∃ x y : Int, shiftA .shr .i64 ((k + 1 : Nat) : Int) wo = some (.int .i64 x) ∧ IntKind.i64.wrap ((BitVec.ofInt IntKind.i64.bits x &&& BitVec.ofInt IntKind.i64.bits 1).toNat : Int) = y ∧ (y == 1) = r)) := by
            by_cases h5 : wo ≥ 0
            · obtain ⟨q, rfl⟩ : ∃ q : Nat, wo = (q : Int) := ⟨wo.toNat, by omega⟩
              exact ⟨(k + 1).testBit q, by rw [decide_eq_true h5]; simp, Or.inr ⟨h5, _, _, shr_i64 hk63, and_one (shr_lt hk63), bit_eq (k + 1) q⟩⟩
            · exact ⟨false, by rw [decide_eq_false h5]; rfl, Or.inl ⟨h5, rfl⟩⟩
          obtain ⟨r, hr, hr2⟩ := hwo
          rw [hr]
          by_cases hm : most > 0
          · rw [decide_eq_true hm]
            by_cases hlen : ((nodesL (k + 1) 62).length : Int) > most
            · rw [decide_eq_true hlen]
              repeat (first
  | with_reducible first | refine st (by constructor) ?_ | apply c_region
  | (with_reducible apply k_block_on
     · decide)
  | ((with_reducible first | apply xOp | apply xDr | apply xIf); rfl; (simp only [Nat.reduceEqDiff, Nat.reduceAdd, ↓reduceIte, xBB, stG, undef, opA, val, opdA, opdO, plainN, omap, binA, intBinA, loadV, readA, storeV, writeA, fieldAddrA, indexAddrA, lenA, builtinA, newA, unA, packA, Value.cells, Bool.not_true, k1, hm, un35, hlm, hlen]; rfl); first | rfl | exact ⟨rfl, rfl, rfl⟩))
              exact ⟨hA2, by simp only [Nat.reduceEqDiff, T.get_put, ↓reduceIte]; rfl⟩
            · rw [decide_eq_false hlen]
              rcases hr2 with ⟨h5, rfl⟩ | ⟨h5, x, y, e5, e6, e7⟩
              · repeat (first
  | with_reducible first | refine st (by constructor) ?_ | apply c_region
  | (with_reducible apply k_block_on
     · decide)
  | ((with_reducible first | apply xOp | apply xDr | apply xIf); rfl; (simp only [Nat.reduceEqDiff, Nat.reduceAdd, ↓reduceIte, xBB, stG, undef, opA, val, opdA, opdO, plainN, omap, binA, intBinA, loadV, readA, storeV, writeA, fieldAddrA, indexAddrA, lenA, builtinA, newA, unA, packA, Value.cells, Bool.not_true, k1, k2, h8, hm, un35, hlm, hlen, h5]; rfl); first | rfl | exact ⟨rfl, rfl, rfl⟩))
                exact ⟨hA2, by simp only [Nat.reduceEqDiff, T.get_put, ↓reduceIte]; rfl⟩
              · repeat (first
  | with_reducible first | refine st (by constructor) ?_ | apply c_region
  | (with_reducible apply k_block_on
     · decide)
  | ((with_reducible first | apply xOp | apply xDr | apply xIf); rfl; (simp only [Nat.reduceEqDiff, Nat.reduceAdd, ↓reduceIte, xBB, stG, undef, opA, val, opdA, opdO, plainN, omap, binA, intBinA, loadV, readA, storeV, writeA, fieldAddrA, indexAddrA, lenA, builtinA, newA, unA, packA, Value.cells, Bool.not_true, k1, k2, h8, hm, un35, hlm, hlen, h5, e5, e6, e7]; rfl); first | rfl | exact ⟨rfl, rfl, rfl⟩))
                exact ⟨hA2, by simp only [Nat.reduceEqDiff, T.get_put, ↓reduceIte]; cases r <;> rfl⟩
          · rw [decide_eq_false hm]
            rcases hr2 with ⟨h5, rfl⟩ | ⟨h5, x, y, e5, e6, e7⟩
            · repeat (first
  | with_reducible first | refine st (by constructor) ?_ | apply c_region
  | (with_reducible apply k_block_on
     · decide)
  | ((with_reducible first | apply xOp | apply xDr | apply xIf); rfl; (simp only [Nat.reduceEqDiff, Nat.reduceAdd, ↓reduceIte, xBB, stG, undef, opA, val, opdA, opdO, plainN, omap, binA, intBinA, loadV, readA, storeV, writeA, fieldAddrA, indexAddrA, lenA, builtinA, newA, unA, packA, Value.cells, Bool.not_true, k1, k2, h8, hm, h5]; rfl); first | rfl | exact ⟨rfl, rfl, rfl⟩))
              exact ⟨hA2, by simp only [Nat.reduceEqDiff, T.get_put, ↓reduceIte]; rfl⟩
            · repeat (first
  | with_reducible first | refine st (by constructor) ?_ | apply c_region
  | (with_reducible apply k_block_on
     · decide)
  | ((with_reducible first | apply xOp | apply xDr | apply xIf); rfl; (simp only [Nat.reduceEqDiff, Nat.reduceAdd, ↓reduceIte, xBB, stG, undef, opA, val, opdA, opdO, plainN, omap, binA, intBinA, loadV, readA, storeV, writeA, fieldAddrA, indexAddrA, lenA, builtinA, newA, unA, packA, Value.cells, Bool.not_true, k1, k2, h8, hm, h5, e5, e6, e7]; rfl); first | rfl | exact ⟨rfl, rfl, rfl⟩))
              exact ⟨hA2, by simp only [Nat.reduceEqDiff, T.get_put, ↓reduceIte]; cases r <;> rfl⟩
      · rintro f2 t2 ⟨hA2, h45⟩ hF2
        (have r7 := hF2 7 (by rfl); simp only [Nat.reduceEqDiff, T.get_put, ↓reduceIte, h7, h8] at r7; have r8 := hF2 8 (by rfl); simp only [Nat.reduceEqDiff, T.get_put, ↓reduceIte, h7, h8] at r8; have r9 := hF2 9 (by rfl); simp only [Nat.reduceEqDiff, T.get_put, ↓reduceIte, h7, h8] at r9)
        have hnt2 := hA2.nx
        have hB2 : Bld t2 (fun _ => False) o v (candU es most wo k) := hB1.same hnt2 (fun id h _ => hA2.get (Nat.le_refl _) h) fun id h => Or.inl h
        cases hok : okC es most wo (k + 1) with
        | false =>
          rw [hok] at h45 hcu
          rw [if_neg (by simp)] at hcu
          repeat (first
  | with_reducible first | refine st (by constructor) ?_ | apply c_region
  | (with_reducible apply k_block_on
     · decide)
  | ((with_reducible first | apply xOp | apply xDr | apply xIf); rfl; (simp only [Nat.reduceEqDiff, Nat.reduceAdd, ↓reduceIte, xBB, stG, undef, opA, val, opdA, opdO, plainN, omap, binA, intBinA, loadV, readA, storeV, writeA, fieldAddrA, indexAddrA, lenA, builtinA, newA, unA, packA, Value.cells, h45, Bool.not_false, r8, hw]; rfl); first | rfl | exact ⟨rfl, rfl, rfl⟩))
          intro _ _
          refine k_loop_next (m' := m - 1) (by omega) ⟨k + 1, by omega, by omega, by simp only [Nat.reduceEqDiff, T.get_put, ↓reduceIte], o, v, by simp only [Nat.reduceEqDiff, T.get_put, ↓reduceIte]; exact r7, by rw [hcu]; exact hB2, hnew, by rw [hcu]; exact hne⟩
        | true =>
          rw [hok] at h45 hcu
          rw [if_pos rfl] at hcu
          obtain ⟨vb, vc, rfl⟩ := hB2.shape
          have r10 : f2.get 9 = some (.slice rb ((nodesL (k + 1) 62).map encI).length rc) := r9
          generalize hl : nodesL (k + 1) 62 = l at *
          generalize hout : candU es most wo k = out at *
          have hpos := posB_le l out out.length
          have hrow2 : Sl t2 1 (.slice rb (l.map encI).length rc) (l.map encI) := (hrow.keep hA2).sl
          repeat (first
  | with_reducible first | refine st (by constructor) ?_ | apply c_region
  | (with_reducible apply k_block_on
     · decide)
  | ((with_reducible first | apply xOp | apply xDr | apply xIf); rfl; (simp only [Nat.reduceEqDiff, Nat.reduceAdd, ↓reduceIte, xBB, stG, undef, opA, val, opdA, opdO, plainN, omap, binA, intBinA, loadV, readA, storeV, writeA, fieldAddrA, indexAddrA, lenA, builtinA, newA, unA, packA, Value.cells, h45, Bool.not_true, r7, un30]; rfl); first | rfl | exact ⟨rfl, rfl, rfl⟩))
          refine wpLoop_mono (K := fun g f t => g = .exit 2 ∧ t = t2 ∧ f.get 10 = some (.int .i64 ((posB l out out.length : Nat) : Int)) ∧ f.get 7 = some (.slice vb out.length vc) ∧ f.get 8 = f2.get 8 ∧ f.get 9 = f2.get 9) ?_ ?_
          · refine loop_k (lk' := t2.nx) (s0 := t2) (fun m f t => t = t2 ∧ f.get 10 = some (.int .i64 (m : Int)) ∧ m ≤ out.length ∧ posB l out out.length = posB l out m) out.length (by omega) (Nat.le_refl _) ?_ (Ab.refl _ _) ?_
            · exact ⟨rfl, by simp only [Nat.reduceEqDiff, T.get_put, ↓reduceIte], Nat.le_refl _, rfl⟩
            · rintro m2 f3 t3 ⟨rfl, h10, hm2, hpo⟩ hA3 hF3
              (have q7 := hF3 7 (by rfl); simp only [Nat.reduceEqDiff, T.get_put, ↓reduceIte, r7] at q7; have q8 := hF3 8 (by rfl); simp only [Nat.reduceEqDiff, T.get_put, ↓reduceIte, r7] at q8; have q9 := hF3 9 (by rfl); simp only [Nat.reduceEqDiff, T.get_put, ↓reduceIte, r7] at q9)
              cases m2 with
              | zero =>
                have hgt : ¬ (((0 : Nat) : Int) > 0) := by omega
                repeat (first
  | with_reducible first | refine st (by constructor) ?_ | apply c_region
  | (with_reducible apply k_block_on
     · decide)
  | ((with_reducible first | apply xOp | apply xDr | apply xIf); rfl; (simp only [Nat.reduceEqDiff, Nat.reduceAdd, ↓reduceIte, xBB, stG, undef, opA, val, opdA, opdO, plainN, omap, binA, intBinA, loadV, readA, storeV, writeA, fieldAddrA, indexAddrA, lenA, builtinA, newA, unA, packA, Value.cells, h10, hgt]; rfl); first | rfl | exact ⟨rfl, rfl, rfl⟩))
                intro _ _
                refine k_loop_exit ⟨rfl, rfl, ?_, ?_, ?_, ?_⟩ <;> simp only [Nat.reduceEqDiff, T.get_put, ↓reduceIte]
                · rw [h10, hpo]; rfl
                · exact q7
                · exact q8
                · exact q9
              | succ j =>
                have hgt : (((j + 1 : Nat)) : Int) > 0 := by omega
                have hw1 : IntKind.i64.wrap (((j + 1 : Nat) : Int) - 1) = (j : Int) := by rw [show (((j + 1 : Nat) : Int) - 1) = (j : Int) by omega]; exact wrapN (by omega)
                have hb0 : (0 : Int) ≤ (j : Int) ∧ (j : Int) < (out.length : Int) := by omega
                obtain ⟨id, off, wr, e, cs, lb, lc, rfl, g1, g2, g3, g4⟩ := hB2.lls.at (i := j) (List.getElem?_eq_getElem (by omega))
                have hgd : out.getD j [] = out[j] := by rw [List.getD_eq_getElem?_getD, List.getElem?_eq_getElem (by omega)]; rfl
                have hl62 : l.length < 1000000000 := by omega
                rw [posB, hgd] at hpo
                repeat (first
  | with_reducible first | refine st (by constructor) ?_ | apply c_region
  | (with_reducible apply k_block_on
     · decide)
  | ((with_reducible first | apply xOp | apply xDr | apply xIf); rfl; (simp only [Nat.reduceEqDiff, Nat.reduceAdd, ↓reduceIte, xBB, stG, undef, opA, val, opdA, opdO, plainN, omap, binA, intBinA, loadV, readA, storeV, writeA, fieldAddrA, indexAddrA, lenA, builtinA, newA, unA, packA, Value.cells, h10, hgt, q9, r10, q7, hw1, un30, sz35, ty35, hb0, g1, g3]; rfl); first | rfl | exact ⟨rfl, rfl, rfl⟩))
                ((with_reducible first | apply xCa | apply xCd); rfl; (simp only [Nat.reduceEqDiff, Nat.reduceAdd, ↓reduceIte, xBB, stB, opdA, opdO, plainN, omap, val, Value.cells]; exact ⟨rfl, rfl⟩); try rfl)
                apply call_fn
                refine (f27_spec l out[j] _ _ t3 hrow2 g4 hl62).mono fun v t4 hv => ?_
                obtain ⟨rfl, rfl⟩ := hv
                refine opt_of rfl ?_
                cases hbf : beforeB l out[j] with
                | true =>
                  rw [hbf, if_pos rfl] at hpo
                  repeat (first
  | with_reducible first | refine st (by constructor) ?_ | apply c_region
  | (with_reducible apply k_block_on
     · decide)
  | ((with_reducible first | apply xOp | apply xDr | apply xIf); rfl; (simp only [Nat.reduceEqDiff, Nat.reduceAdd, ↓reduceIte, xBB, stG, undef, opA, val, opdA, opdO, plainN, omap, binA, intBinA, loadV, readA, storeV, writeA, fieldAddrA, indexAddrA, lenA, builtinA, newA, unA, packA, Value.cells, h10, hw1]; rfl); first | rfl | exact ⟨rfl, rfl, rfl⟩))
                  intro _ _
                  exact k_loop_next (m' := j) (by omega) ⟨rfl, by simp only [Nat.reduceEqDiff, T.get_put, ↓reduceIte], by omega, hpo⟩
                | false =>
                  rw [hbf, if_neg (by simp)] at hpo
                  repeat (first
  | with_reducible first | refine st (by constructor) ?_ | apply c_region
  | (with_reducible apply k_block_on
     · decide)
  | ((with_reducible first | apply xOp | apply xDr | apply xIf); rfl; (simp only [Nat.reduceEqDiff, Nat.reduceAdd, ↓reduceIte, xBB, stG, undef, opA, val, opdA, opdO, plainN, omap, binA, intBinA, loadV, readA, storeV, writeA, fieldAddrA, indexAddrA, lenA, builtinA, newA, unA, packA, Value.cells, h10]; rfl); first | rfl | exact ⟨rfl, rfl, rfl⟩))
                  intro _ _
                  refine k_loop_exit ⟨rfl, rfl, ?_, ?_, ?_, ?_⟩ <;> simp only [Nat.reduceEqDiff, T.get_put, ↓reduceIte]
                  · rw [h10, hpo]
                  · exact q7
                  · exact q8
                  · exact q9
          · rintro g f3 t3 ⟨rfl, rfl, p10, p7, p8, p9⟩
            rw [r8] at p8
            rw [r10] at p9
            have hins : insB l out = out.take (posB l out out.length) ++ l :: out.drop (posB l out out.length) := rfl
            generalize posB l out out.length = p at *
            obtain ⟨hav, vs, hO, hvl, hrows⟩ := hB2
            have hvm : (vs.map fun r => [r]).length = out.length := by rw [List.length_map, hvl]
            have hne2 : o = none ∨ (vs.map fun r => [r]) ≠ [] := by
              rcases hne with h | h
              · exact Or.inl h
              · refine Or.inr fun h2 => h (List.eq_nil_of_length_eq_zero ?_)
                rw [← hvm, h2]; rfl
            obtain ⟨hb, hh1, hh2, hh3⟩ := hO.head un30 sz35 (k := p) (by omega) hne2
            obtain ⟨rv, hr1, hr2, hr3⟩ := hO.rest un30 sz35 (k := p) (by omega)
            rw [hvm] at hr2 hr3
            have hh := hh1 t3
            repeat (first
  | with_reducible first | refine st (by constructor) ?_ | apply c_region
  | (with_reducible apply k_block_on
     · decide)
  | ((with_reducible first | apply xOp | apply xDr | apply xIf); rfl; (simp only [Nat.reduceEqDiff, Nat.reduceAdd, ↓reduceIte, xBB, stG, undef, opA, val, opdA, opdO, plainN, omap, binA, intBinA, loadV, readA, storeV, writeA, fieldAddrA, indexAddrA, lenA, builtinA, newA, unA, packA, Value.cells]; rfl); first | rfl | exact ⟨rfl, rfl, rfl⟩))
            refine c_draw [⟨false, [], none⟩, ⟨false, [], none⟩, ⟨false, [], none⟩, ⟨false, [], none⟩, ⟨false, [], none⟩, ⟨false, [3], none⟩, ⟨false, [], none⟩, ⟨false, [], none⟩, ⟨false, [3, 5], none⟩, ⟨false, [3], none⟩, ⟨true, [], none⟩, ⟨true, [], none⟩] (by kernel_rfl) ?_
            repeat (first
  | with_reducible first | refine st (by constructor) ?_ | apply c_region
  | (with_reducible apply k_block_on
     · decide)
  | ((with_reducible first | apply xOp | apply xDr | apply xIf); rfl; (simp only [Nat.reduceEqDiff, Nat.reduceAdd, ↓reduceIte, xBB, stG, undef, opA, val, opdA, opdO, plainN, omap, binA, intBinA, loadV, readA, storeV, writeA, fieldAddrA, indexAddrA, lenA, builtinA, newA, unA, packA, Value.cells, p7, p9, p10, hh]; rfl); first | rfl | exact ⟨rfl, rfl, rfl⟩))
            ((with_reducible first | apply ops_opt | apply xPd); (first | rfl | exact ⟨rfl, rfl⟩); (simp only [Nat.reduceEqDiff, Nat.reduceAdd, ↓reduceIte, xBB, opA, val, opdA, opdO, plainN, omap, binA, intBinA, loadV, readA, storeV, writeA, fieldAddrA, indexAddrA, lenA, builtinA, newA, unA, packA, Value.cells, buildSliceA, el30, sz35, zr35, zerosL, fillA]; rfl))
            refine opt_of rfl ?_
            refine opt_of rfl ?_
            repeat (first
  | with_reducible first | refine st (by constructor) ?_ | apply c_region
  | (with_reducible apply k_block_on
     · decide)
  | ((with_reducible first | apply xOp | apply xDr | apply xIf); rfl; (simp only [Nat.reduceEqDiff, Nat.reduceAdd, ↓reduceIte, xBB, stG, undef, opA, val, opdA, opdO, plainN, omap, binA, intBinA, loadV, readA, storeV, writeA, fieldAddrA, indexAddrA, lenA, builtinA, newA, unA, packA, Value.cells, p7, p10]; rfl); first | rfl | exact ⟨rfl, rfl, rfl⟩))
            generalize hst1 : ({ hp := t3.hp.put t3.nx (some (.cells true 35 (putL ([.slice none 0 0] ++ []) (0 * 1) [.slice rb (l.map encI).length rc]))), nx := t3.nx + 1 } : HS) = w1
            have hwn : w1.nx = t3.nx + 1 := by rw [← hst1]
            have hwo : ∀ id, id < t3.nx → w1.hp.get id = t3.hp.get id := fun id h => by rw [← hst1]; exact T.get_put_ne _ _ _ (by omega)
            have hwy : w1.hp.get t3.nx = some (.cells true 35 [.slice rb (l.map encI).length rc]) := by rw [← hst1]; exact T.get_put_eq _ _ _
            have hoid : ∀ id, o = some id → id < t3.nx := fun id h => by subst h; exact hO.lt rfl
            refine d_lowS (lo := t3.nx) (v := rv) rfl rfl rfl (by (intro m hm hmm; simp only [List.mem_cons, List.not_mem_nil, or_false] at hm; first | (obtain rfl := hm; dsimp only; omega) | (rcases hm with rfl | rfl <;> first | omega | (dsimp only; omega) | (exfalso; revert hmm; decide)) | (rcases hm with rfl | rfl | rfl <;> first | omega | (dsimp only; omega) | (exfalso; revert hmm; decide)))) (fun sh hshn hshg => ?_) rfl fun w2 h2n h2g => ?_
            · have := hr1 sh fun id h => (hshg id (hoid id h)).trans (hwo id (hoid id h))
              simp only [Nat.reduceEqDiff, opA, opdA, opdO, T.get_put, ↓reduceIte, Option.bind_some, Option.map_some, p7, p10, val, this]
            have h2o : ∀ id, id < t3.nx → w2.hp.get id = t3.hp.get id := fun id h => (h2g id).trans (hwo id h)
            have h2y := (h2g t3.nx).trans hwy
            have happ : ∃ yv w3, appendA Tryd.prog w2.nx 30 (.slice (some ⟨t3.nx, 0, none⟩) 1 1) rv w2 = some (yv, w3) ∧ lenV yv = some (1 + (out.length - p)) ∧ firstA w3.hp 1 (1 + (out.length - p)) yv = some ([Value.slice rb (l.map encI).length rc] ++ ((vs.map fun r => [r]).drop p).flatten) ∧ w2.nx ≤ w3.nx ∧ ∀ id, id < w2.nx → w3.hp.get id = w2.hp.get id := by
              by_cases hd : (vs.map fun r => [r]).drop p = []
              · have h0 : out.length - p = 0 := by
                  have := congrArg List.length hd
                  rw [List.length_drop, hvm] at this; simpa using this
                refine ⟨_, w2, app_none el30 sz35 by35 zr35 rfl (by decide) (by unfold UNK; omega) (Nat.le_refl _) (by rw [hr2, h0]) (by decide), by rw [h0]; rfl, ?_, Nat.le_refl _, fun _ _ => rfl⟩
                rw [h0, hd]
                show readA w2.hp _ _ = _
                rw [read_block h2y]; rfl
              · have h0 : out.length - p ≠ 0 := fun h => hd (List.eq_nil_of_length_eq_zero (by rw [List.length_drop, hvm]; exact h))
                refine ⟨_, _, app_full (old := [.slice rb (l.map encI).length rc]) el30 sz35 by35 zr35 rfl (by decide) (by unfold UNK; omega) (fun h => by cases h) (fun _ => ?_) hr2 h0 (hr3 w2 (fun id h => h2o id (hoid id h)) hd) (by omega), rfl, ?_, Nat.le_succ _, fun id h => T.get_put_ne _ _ _ (by omega)⟩
                · show readA w2.hp _ _ = _
                  rw [read_block h2y]; rfl
                · show readA (T.put _ _ _) _ _ = _
                  unfold readA
                  simp only [T.get_put_eq]
                  refine cut_all (post := []) (by simp) (Nat.zero_le _) ?_
                  rw [List.length_append, flat_len (size := 1) (fun x hx => by obtain ⟨y, _, rfl⟩ := List.mem_map.1 (List.mem_of_mem_drop hx); rfl), List.length_drop, hvm]
                  simp
            obtain ⟨yv, w3, ha1, ha2, ha3, ha4, ha5⟩ := happ
            ((with_reducible first | apply ops_opt | apply xPd); (first | rfl | exact ⟨rfl, rfl⟩); (simp only [Nat.reduceEqDiff, Nat.reduceAdd, ↓reduceIte, xBB, opA, val, opdA, opdO, plainN, omap, binA, intBinA, loadV, readA, storeV, writeA, fieldAddrA, indexAddrA, lenA, builtinA, newA, unA, packA, Value.cells, un30, ha1]; rfl))
            refine opt_of rfl ?_
            refine opt_of rfl ?_
            have h3o : ∀ id, id < t3.nx → w3.hp.get id = t3.hp.get id := fun id h => (ha5 id (by omega)).trans (h2o id h)
            have ha6 : appendA Tryd.prog s1.nx 30 (.slice hb p p) yv w3 = _ := app_full (old := ((vs.map fun r => [r]).take p).flatten) el30 sz35 by35 zr35 rfl (by decide) (by unfold UNK; omega) (fun h => ⟨hh2 h, by rw [hh2 h]; rfl⟩) (fun h => hh3 w3 (fun id h => h3o id (hoid id h)) h) ha2 (by omega) ha3 (by omega)
            ((with_reducible first | apply ops_opt | apply xPd); (first | rfl | exact ⟨rfl, rfl⟩); (simp only [Nat.reduceEqDiff, Nat.reduceAdd, ↓reduceIte, xBB, opA, val, opdA, opdO, plainN, omap, binA, intBinA, loadV, readA, storeV, writeA, fieldAddrA, indexAddrA, lenA, builtinA, newA, unA, packA, Value.cells, un30, ha6]; rfl))
            refine opt_of rfl ?_
            refine opt_of rfl ?_
            repeat (first
  | with_reducible first | refine st (by constructor) ?_ | apply c_region
  | (with_reducible apply k_block_on
     · decide)
  | ((with_reducible first | apply xOp | apply xDr | apply xIf); rfl; (simp only [Nat.reduceEqDiff, Nat.reduceAdd, ↓reduceIte, xBB, stG, undef, opA, val, opdA, opdO, plainN, omap, binA, intBinA, loadV, readA, storeV, writeA, fieldAddrA, indexAddrA, lenA, builtinA, newA, unA, packA, Value.cells, p8, hw]; rfl); first | rfl | exact ⟨rfl, rfl, rfl⟩))
            intro _ _
            have hB3 := Bld.ins (w := { hp := w3.hp.put w3.nx (some (.cells true 35 (((vs.map fun r => [r]).take p).flatten ++ ([.slice rb (l.map encI).length rc] ++ ((vs.map fun r => [r]).drop p).flatten)))), nx := w3.nx + 1 }) (z := w3.nx) (k := p) hO hvl hrows hrow2 (by omega) (by omega) (Nat.lt_succ_self _) (by omega) (fun id h => (T.get_put_ne _ _ _ (by omega)).trans (h3o id h)) (by rw [T.get_put_eq, List.map_take, List.map_drop]; rfl)
            rw [← hins, ← hcu] at hB3
            refine k_loop_next (m' := m - 1) (by omega) ⟨k + 1, by omega, by omega, by simp only [Nat.reduceEqDiff, T.get_put, ↓reduceIte], some w3.nx, _, by simp only [Nat.reduceEqDiff, T.get_put, ↓reduceIte]; rfl, ?_, fun id h => by cases h; omega, Or.inr ?_⟩
            · rw [show p + (1 + (out.length - p)) = vs.length + 1 by omega]; exact hB3
            · rw [hcu, hins]; simp
    · have hkn : k = 2 ^ n - 2 := by omega
      repeat (first
  | with_reducible first | refine st (by constructor) ?_ | apply c_region
  | (with_reducible apply k_block_on
     · decide)
  | ((with_reducible first | apply xOp | apply xDr | apply xIf); rfl; (simp only [Nat.reduceEqDiff, Nat.reduceAdd, ↓reduceIte, xBB, stG, undef, opA, val, opdA, opdO, plainN, omap, binA, intBinA, loadV, readA, storeV, writeA, fieldAddrA, indexAddrA, lenA, builtinA, newA, unA, packA, Value.cells, h8, k3, fd28_0, ty3, htb, hc1, hshl, hsub, hlt]; rfl); first | rfl | exact ⟨rfl, rfl, rfl⟩))
      intro _ _
      repeat (first
  | with_reducible first | refine st (by constructor) ?_ | apply c_region
  | (with_reducible apply k_block_on
     · decide)
  | ((with_reducible first | apply xOp | apply xDr | apply xIf); rfl; (simp only [Nat.reduceEqDiff, Nat.reduceAdd, ↓reduceIte, xBB, stG, undef, opA, val, opdA, opdO, plainN, omap, binA, intBinA, loadV, readA, storeV, writeA, fieldAddrA, indexAddrA, lenA, builtinA, newA, unA, packA, Value.cells, h7]; rfl); first | rfl | exact ⟨rfl, rfl, rfl⟩))
      intro _
      ((with_reducible first | apply ret_i | apply ret_n); (simp only [Nat.reduceEqDiff, Nat.reduceAdd, ↓reduceIte, xBB, resA, opdA, opdO, plainN, omap, val, loadV, readA, packA]; rfl))
      rw [← hkn]; exact hB.lls
end Go.Ev

/- Plain laws: restricted candidates and hulls; the model's candidates. -/
set_option linter.unusedSimpArgs false
set_option linter.unusedVariables false
namespace Go.Ev
open Go

theorem cardN_high {a n : Nat} (h : a < 2 ^ n) : ∀ m, n ≤ m → cardN a m = cardN a n := by
  intro m
  induction m with
  | zero => intro hm; obtain rfl : n = 0 := by omega
            rfl
  | succ m ih =>
    intro hm
    by_cases hnm : n = m + 1
    · rw [hnm]
    · rw [cardN, lt_bit h (show n ≤ m by omega), ih (by omega)]; rfl
theorem card_pos {a i : Nat} (h : a.testBit i = true) : ∀ n, i < n → 0 < cardN a n := by
  intro n
  induction n with
  | zero => intro h; omega
  | succ n ih =>
    intro hi
    rw [cardN]
    by_cases hin : i = n
    · subst hin; rw [h]; simp
    · have := ih (by omega); omega
theorem card_full {n : Nat} : cardN (2 ^ n - 1) n = n := by
  have key : ∀ k, k ≤ n → cardN (2 ^ n - 1) k = k := by
    intro k
    induction k with
    | zero => intro _; rfl
    | succ k ih =>
      intro hk
      rw [cardN, ih (by omega), Nat.testBit_two_pow_sub_one, if_pos (by simp; omega)]
  exact key n (Nat.le_refl _)
theorem card_all {a n : Nat} (h : a < 2 ^ n) (hc : cardN a n = n) : a = 2 ^ n - 1 := by
  have key : ∀ k, cardN a k = k → ∀ j, j < k → a.testBit j = true := by
    intro k
    induction k with
    | zero => intro _ j hj; omega
    | succ k ih =>
      intro hk j hj
      have hle := cardN_le a k
      rw [cardN] at hk
      by_cases hb : a.testBit k = true
      · rw [if_pos hb] at hk
        by_cases hjk : j = k
        · rw [hjk]; exact hb
        · exact ih (by omega) j (by omega)
      · rw [if_neg hb] at hk; omega
  refine Nat.eq_of_testBit_eq fun j => ?_
  rw [Nat.testBit_two_pow_sub_one]
  by_cases hj : j < n
  · rw [key n hc j hj]; simp [hj]
  · rw [lt_bit h (by omega)]; simp [hj]
theorem card_sub {a b n : Nat} (h : ∀ j, a.testBit j = true → b.testBit j = true) : cardN a n ≤ cardN b n := (cardN_mono h n).1
theorem ne_zero_bit {a : Nat} (h : a ≠ 0) : ∃ i, a.testBit i = true := by
  obtain ⟨k, hk⟩ := low_ex a h
  exact ⟨k, hk.1⟩
theorem testBit_lt {a n j : Nat} (h : a < 2 ^ n) (hb : a.testBit j = true) : j < n := by
  rcases Nat.lt_or_ge j n with h1 | h1
  · exact h1
  · rw [lt_bit h h1] at hb; cases hb

/-- Is a set a restricted candidate? -/
def isC (n : Nat) (es : List (Int × Int)) (most wo : Int) (S : Nat) : Prop := S ≠ 0 ∧ S < 2 ^ n ∧ closedB es S = true ∧ S ≠ 2 ^ n - 1 ∧ (most = 0 ∨ (cardN S n : Int) ≤ most) ∧ (wo < 0 ∨ S.testBit wo.toNat = false)

theorem HN_closed {n : Nat} {es : List (Int × Int)} (hg : GoodG n es) {i : Nat} (hi : i < n) : closedB es (HN n es i) = true :=
  closedB_of_hull hg fun x y hx h1 h2 => HN_trans hg hi hx h1 h2
theorem HN_ne {n : Nat} {es : List (Int × Int)} (hg : GoodG n es) {i : Nat} (hi : i < n) : HN n es i ≠ 0 := fun h => by
  have := HN_self hg hi
  rw [h, Nat.zero_testBit] at this; cases this

/-- What allows says of a set of few nodes. -/
theorem allow_iff {n : Nat} {most wo : Int} {a : Nat} (hn : n ≤ 10) (ha : a < 2 ^ n) (hm : 0 ≤ most) : allowB (2 ^ n - 1) most wo a = true ↔ a ≠ 2 ^ n - 1 ∧ (most = 0 ∨ (cardN a n : Int) ≤ most) ∧ (wo < 0 ∨ a.testBit wo.toNat = false) := by
  have h10 : a < 1024 := Nat.lt_of_lt_of_le ha (Nat.pow_le_pow_right (by decide) hn)
  unfold allowB
  rw [ones_eq h10, cardN_high ha 64 (by omega)]
  simp only [Bool.and_eq_true, Bool.or_eq_true, decide_eq_true_eq, Bool.not_eq_true', and_assoc]

theorem isC_iff {n : Nat} {es : List (Int × Int)} {most wo : Int} {S : Nat} (hn : n ≤ 10) (hm : 0 ≤ most) : isC n es most wo S ↔ S ≠ 0 ∧ S < 2 ^ n ∧ closedB es S = true ∧ allowB (2 ^ n - 1) most wo S = true := by
  unfold isC
  constructor
  · rintro ⟨h1, h2, h3, h4⟩; exact ⟨h1, h2, h3, (allow_iff hn h2 hm).2 h4⟩
  · rintro ⟨h1, h2, h3, h4⟩; exact ⟨h1, h2, h3, (allow_iff hn h2 hm).1 h4⟩
theorem okC_iff {n : Nat} {es : List (Int × Int)} {most wo : Int} {S : Nat} (hn : n ≤ 62) (hm : 0 ≤ most) (h1 : 1 ≤ S) (h2 : S ≤ 2 ^ n - 2) : okC es most wo S = true ↔ isC n es most wo S := by
  have hp : 0 < 2 ^ n := Nat.pow_pos (by decide)
  have hlt : S < 2 ^ n := by omega
  have hlen : (nodesL S 62).length = cardN S n := by rw [nodesL_card, cardN_high hlt 62 hn]
  unfold okC isC
  rw [hlen]
  simp only [Bool.and_eq_true, Bool.not_eq_true', Bool.and_eq_false_iff, decide_eq_false_iff_not, and_assoc]
  constructor
  · rintro ⟨a, b, c⟩
    refine ⟨by omega, hlt, a, by omega, by omega, ?_⟩
    rcases c with c | c
    · exact Or.inl (by omega)
    · exact Or.inr c
  · rintro ⟨_, _, a, _, b, c⟩
    refine ⟨a, by omega, ?_⟩
    rcases c with c | c
    · exact Or.inl (by omega)
    · exact Or.inr c

/-- A candidate holds the hull of each of its nodes, which is one too. -/
theorem isC_hull {n : Nat} {es : List (Int × Int)} (hg : GoodG n es) {most wo : Int} {S i : Nat} (h : isC n es most wo S) (hi : S.testBit i = true) : i < n ∧ isC n es most wo (HN n es i) := by
  obtain ⟨h1, h2, h3, h4, h5, h6⟩ := h
  have hin := testBit_lt h2 hi
  have hsub : ∀ j, (HN n es i).testBit j = true → S.testBit j = true := fun j hj => closedB_hull hg h3 hin hi hj
  refine ⟨hin, HN_ne hg hin, HN_lt hg hin, HN_closed hg hin, fun e => h4 ?_, ?_, ?_⟩
  · refine card_all h2 ?_
    have a := card_sub (n := n) hsub
    rw [e, card_full] at a
    have b := cardN_le S n
    omega
  · rcases h5 with h5 | h5
    · exact Or.inl h5
    · have a := card_sub (n := n) hsub
      exact Or.inr (by omega)
  · rcases h6 with h6 | h6
    · exact Or.inl h6
    · refine Or.inr ?_
      cases hb : (HN n es i).testBit wo.toNat with
      | false => rfl
      | true => rw [hsub _ hb] at h6; cases h6

/-- Which sets the model's candidates are. -/
theorem candU_mem {es : List (Int × Int)} {most wo : Int} {l : List Int} : ∀ k, l ∈ candU es most wo k ↔ ∃ S, 1 ≤ S ∧ S ≤ k ∧ okC es most wo S = true ∧ l = nodesL S 62 := by
  have hins : ∀ (x : List Int) (out : List (List Int)), l ∈ insB x out ↔ l = x ∨ l ∈ out := fun x out => by
    unfold insB
    rw [List.mem_append, List.mem_cons]
    constructor
    · rintro (h | h | h)
      · exact Or.inr (List.mem_of_mem_take h)
      · exact Or.inl h
      · exact Or.inr (List.mem_of_mem_drop h)
    · rintro (h | h)
      · exact Or.inr (Or.inl h)
      · rw [← List.take_append_drop (posB x out out.length) out] at h
        rcases List.mem_append.1 h with h | h
        · exact Or.inl h
        · exact Or.inr (Or.inr h)
  intro k
  induction k with
  | zero =>
    constructor
    · intro h; cases h
    · rintro ⟨S, h1, h2, _⟩; omega
  | succ k ih =>
    unfold candU
    split
    · rename_i hok
      rw [hins, ih]
      constructor
      · rintro (h | ⟨S, h1, h2, h3⟩)
        · exact ⟨k + 1, by omega, Nat.le_refl _, hok, h⟩
        · exact ⟨S, h1, by omega, h3⟩
      · rintro ⟨S, h1, h2, h3, h4⟩
        by_cases hs : S = k + 1
        · subst hs; exact Or.inl h4
        · exact Or.inr ⟨S, h1, by omega, h3, h4⟩
    · rename_i hok
      rw [ih]
      constructor
      · rintro ⟨S, h1, h2, h3⟩; exact ⟨S, h1, by omega, h3⟩
      · rintro ⟨S, h1, h2, h3, h4⟩
        by_cases hs : S = k + 1
        · subst hs; exact absurd h3 hok
        · exact ⟨S, h1, by omega, h3, h4⟩

theorem cand_none {n : Nat} {es : List (Int × Int)} (hg : GoodG n es) {most wo : Int} (hn : n ≤ 62) (hm : 0 ≤ most) : candU es most wo (2 ^ n - 2) = [] ↔ ∀ i, i < n → ¬ isC n es most wo (HN n es i) := by
  have hp : 0 < 2 ^ n := Nat.pow_pos (by decide)
  constructor
  · intro h i hi hc
    have h1 : 1 ≤ HN n es i := by have := hc.1; omega
    have h2 : HN n es i ≤ 2 ^ n - 2 := by have := hc.2.1; have := hc.2.2.2.1; omega
    have := (candU_mem (2 ^ n - 2)).2 ⟨HN n es i, h1, h2, (okC_iff hn hm h1 h2).2 hc, rfl⟩
    rw [h] at this; cases this
  · intro h
    refine List.eq_nil_iff_forall_not_mem.2 fun l hl => ?_
    obtain ⟨S, h1, h2, h3, _⟩ := (candU_mem _).1 hl
    have hc := (okC_iff hn hm h1 h2).1 h3
    obtain ⟨i, hi⟩ := ne_zero_bit hc.1
    obtain ⟨a, b⟩ := isC_hull hg hc hi
    exact h i a b

theorem least_found {all : Nat} {most wo : Int} {hs : List Nat} : (leastL all most wo hs).2 = hs.any (allowB all most wo) := by
  have key : ∀ (l : List Nat) (r : Nat × Bool), (l.foldl (leastStep all most wo) r).2 = (r.2 || l.any (allowB all most wo)) := by
    intro l
    induction l with
    | nil => intro r; simp
    | cons x l ih =>
      intro r
      rw [List.foldl_cons, ih, List.any_cons]
      unfold leastStep
      cases ha : allowB all most wo x <;> cases hr : r.2 <;> simp [hr]
      split <;> simp [hr]
  unfold leastL
  rw [key]; rfl

/-- Held, in both ways of the law. -/
def goodI (n : Nat) (es : List (Int × Int)) (lim wo : Int) (i : Nat) : Bool := decide ((i : Int) = wo) || decide (((nodesL (HN n es i) 62).length : Int) > lim) || (decide (wo ≥ 0) && (HN n es i).testBit wo.toNat)
def limI (n : Nat) (k : Int) : Int := if k > 0 then (if k < (n : Int) - 1 then k else (n : Int) - 1) else (n : Int) - 1
theorem good_iff {n : Nat} {es : List (Int × Int)} (hg : GoodG n es) (hn : n ≤ 62) {most wo : Int} (hm : 0 ≤ most) {i : Nat} (hi : i < n) : goodI n es (limI n most) wo i = false ↔ isC n es most wo (HN n es i) := by
  have hlt := HN_lt hg hi
  have hlen : (nodesL (HN n es i) 62).length = cardN (HN n es i) n := by rw [nodesL_card, cardN_high hlt 62 hn]
  have hself := HN_self hg hi
  have hcle := cardN_le (HN n es i) n
  have hfull : HN n es i ≠ 2 ^ n - 1 ↔ cardN (HN n es i) n ≠ n := ⟨fun h e => h (card_all hlt e), fun h e => h (by rw [e]; exact card_full)⟩
  unfold goodI isC
  rw [hlen, hfull]
  simp only [Bool.or_eq_false_iff, decide_eq_false_iff_not, Bool.and_eq_false_iff]
  have hl : ∀ c : Nat, c ≤ n → (¬ ((c : Int) > limI n most) ↔ c ≠ n ∧ (most = 0 ∨ (c : Int) ≤ most)) := fun c hc => by
    unfold limI
    split
    · split <;> omega
    · omega
  rw [hl _ hcle]
  constructor
  · rintro ⟨⟨h1, h2, h3⟩, h4⟩
    refine ⟨HN_ne hg hi, hlt, HN_closed hg hi, h2, h3, ?_⟩
    rcases h4 with h4 | h4
    · exact Or.inl (by omega)
    · exact Or.inr h4
  · rintro ⟨_, _, _, h2, h3, h4⟩
    refine ⟨⟨fun e => ?_, h2, h3⟩, ?_⟩
    · rw [← e, Int.toNat_natCast, hself] at h4
      rcases h4 with h4 | h4
      · omega
      · cases h4
    · rcases h4 with h4 | h4
      · exact Or.inl (by omega)
      · exact Or.inr h4

theorem held_law {n : Nat} {es : List (Int × Int)} (hg : GoodG n es) (hn : n ≤ 10) {most wo : Int} (hm : 0 ≤ most) :
    (!(leastL (2 ^ n - 1) most wo (HNs n es)).2) = (List.range n).all (goodI n es (limI n most) wo) ∧ (!(leastL (2 ^ n - 1) most wo (HNs n es)).2) = decide (candU es most wo (2 ^ n - 2) = []) := by
  have hn62 : n ≤ 62 := by omega
  have h1 : (leastL (2 ^ n - 1) most wo (HNs n es)).2 = true ↔ ∃ i, i < n ∧ isC n es most wo (HN n es i) := by
    rw [least_found, List.any_eq_true]
    unfold HNs
    constructor
    · rintro ⟨x, hx, ha⟩
      obtain ⟨i, hi, rfl⟩ := List.mem_map.1 hx
      have hi' := List.mem_range.1 hi
      exact ⟨i, hi', (isC_iff hn hm).2 ⟨HN_ne hg hi', HN_lt hg hi', HN_closed hg hi', ha⟩⟩
    · rintro ⟨i, hi, hc⟩
      exact ⟨_, List.mem_map.2 ⟨i, List.mem_range.2 hi, rfl⟩, ((isC_iff hn hm).1 hc).2.2.2⟩
  cases hf : (leastL (2 ^ n - 1) most wo (HNs n es)).2 with
  | true =>
    obtain ⟨i, hi, hc⟩ := h1.1 hf
    refine ⟨?_, ?_⟩
    · have hgi := (good_iff hg hn62 hm hi).2 hc
      symm
      rw [Bool.not_true, List.all_eq_false]
      exact ⟨i, List.mem_range.2 hi, by rw [hgi]; simp⟩
    · rw [decide_eq_false fun h => (cand_none hg hn62 hm).1 h i hi hc]; rfl
  | false =>
    have hno : ∀ i, i < n → ¬ isC n es most wo (HN n es i) := fun i hi hc => by
      have := h1.2 ⟨i, hi, hc⟩
      rw [hf] at this; cases this
    refine ⟨?_, ?_⟩
    · symm
      rw [Bool.not_false, List.all_eq_true]
      intro i hi
      have hi' := List.mem_range.1 hi
      cases hgi : goodI n es (limI n most) wo i with
      | true => rfl
      | false => exact absurd ((good_iff hg hn62 hm hi').1 hgi) (hno i hi')
    · rw [decide_eq_true ((cand_none hg hn62 hm).2 hno)]; rfl
end Go.Ev

/- Sets that are made of parts: a queue finds each once. -/
set_option linter.unusedSimpArgs false
set_option linter.unusedVariables false
namespace Go.Ev
open Go

/-- What is made of parts, one after the other, as long as it is allowed. -/
inductive Gn (hs : List Nat) (al : Nat → Bool) : Nat → Prop
  | zero : Gn hs al 0
  | step {s h : Nat} : Gn hs al s → h ∈ hs → al (s ||| h) = true → Gn hs al (s ||| h)

def DoneK (hs : List Nat) (al : Nat → Bool) (ys : List Nat) (s k : Nat) : Prop := ∀ i h, i < k → hs[i]? = some h → s ||| h = s ∨ al (s ||| h) = false ∨ (s ||| h) ∈ ys
theorem DoneK.more {hs : List Nat} {al : Nat → Bool} {ys ys' : List Nat} {s k : Nat} (h : DoneK hs al ys s k) (hy : ∀ y ∈ ys, y ∈ ys') : DoneK hs al ys' s k := fun i x hi hx => by
  rcases h i x hi hx with a | a | a
  · exact Or.inl a
  · exact Or.inr (Or.inl a)
  · exact Or.inr (Or.inr (hy _ a))
theorem DoneK.succ {hs : List Nat} {al : Nat → Bool} {ys : List Nat} {s k x : Nat} (h : DoneK hs al ys s k) (hk : hs[k]? = some x) (hx : s ||| x = s ∨ al (s ||| x) = false ∨ (s ||| x) ∈ ys) : DoneK hs al ys s (k + 1) := fun i y hi hy => by
  by_cases hik : i = k
  · subst hik; rw [hk] at hy; cases hy; exact hx
  · exact h i y (by omega) hy

/-- What has been found (ys), what waits; cur is at work, as far as the part k. -/
structure BQ (hs : List Nat) (al : Nat → Bool) (queue ys : List Nat) (cur : Option (Nat × Nat)) : Prop where
  nodup : ys.Nodup
  gen : ∀ y ∈ ys, Gn hs al y ∧ al y = true ∧ y ≠ 0
  que : ∀ q ∈ queue, q = 0 ∨ q ∈ ys
  cur0 : ∀ s k, cur = some (s, k) → s = 0 ∨ s ∈ ys
  done : ∀ s, (s = 0 ∨ s ∈ ys) → s ∈ queue ∨ (∃ k, cur = some (s, k) ∧ DoneK hs al ys s k) ∨ DoneK hs al ys s hs.length

variable {hs : List Nat} {al : Nat → Bool} {queue ys : List Nat}
theorem BQ.start : BQ hs al [0] [] none where
  nodup := List.nodup_nil
  gen := fun y h => by cases h
  que := fun q h => by simp at h; exact Or.inl h
  cur0 := fun s k h => by cases h
  done := fun s h => by
    rcases h with rfl | h
    · exact Or.inl (by simp)
    · cases h
theorem BQ.pop {s : Nat} (h : BQ hs al (s :: queue) ys none) : BQ hs al queue ys (some (s, 0)) where
  nodup := h.nodup
  gen := h.gen
  que := fun q hq => h.que q (List.mem_cons_of_mem _ hq)
  cur0 := fun s' k e => by cases e; exact h.que _ List.mem_cons_self
  done := fun x hx => by
    rcases h.done x hx with a | ⟨k, a, _⟩ | a
    · rcases List.mem_cons.1 a with rfl | a
      · exact Or.inr (Or.inl ⟨0, rfl, fun i h hi => by omega⟩)
      · exact Or.inl a
    · cases a
    · exact Or.inr (Or.inr a)
theorem BQ.curDone {s k : Nat} (h : BQ hs al queue ys (some (s, k))) : s ∈ queue ∨ DoneK hs al ys s k ∨ DoneK hs al ys s hs.length := by
  rcases h.done s (h.cur0 s k rfl) with a | ⟨k', a, b⟩ | a
  · exact Or.inl a
  · cases a; exact Or.inr (Or.inl b)
  · exact Or.inr (Or.inr a)
theorem BQ.skip {s k x : Nat} (h : BQ hs al queue ys (some (s, k))) (hk : hs[k]? = some x) (hx : s ||| x = s ∨ al (s ||| x) = false ∨ (s ||| x) ∈ ys) : BQ hs al queue ys (some (s, k + 1)) where
  nodup := h.nodup
  gen := h.gen
  que := h.que
  cur0 := fun s' k' e => by cases e; exact h.cur0 s k rfl
  done := fun y hy => by
    rcases h.done y hy with a | ⟨k', a, b⟩ | a
    · exact Or.inl a
    · cases a; exact Or.inr (Or.inl ⟨k + 1, rfl, b.succ hk hx⟩)
    · exact Or.inr (Or.inr a)
theorem BQ.found {s k x : Nat} (h : BQ hs al queue ys (some (s, k))) (hk : hs[k]? = some x) (h1 : s ||| x ≠ s) (h2 : al (s ||| x) = true) (h3 : (s ||| x) ∉ ys) : (ys ++ [s ||| x]).Nodup ∧ ∀ y ∈ ys ++ [s ||| x], Gn hs al y ∧ al y = true ∧ y ≠ 0 := by
  refine ⟨?_, fun y hy => ?_⟩
  · rw [List.nodup_append]
    refine ⟨h.nodup, by simp, fun a ha b hb => ?_⟩
    simp at hb; subst hb; rintro rfl; exact h3 ha
  · rcases List.mem_append.1 hy with a | a
    · exact h.gen y a
    · simp at a; subst a
      refine ⟨.step ?_ (List.mem_of_getElem? hk) h2, h2, fun e => h1 ?_⟩
      · rcases h.cur0 s k rfl with rfl | a
        · exact .zero
        · exact (h.gen s a).1
      · have hs0 : s = 0 := by
          refine Nat.eq_of_testBit_eq fun j => ?_
          have := congrArg (fun z => Nat.testBit z j) e
          simp only [Nat.testBit_or, Nat.zero_testBit, Bool.or_eq_false_iff] at this
          rw [this.1, Nat.zero_testBit]
        rw [e, hs0]
theorem BQ.add {s k x : Nat} (h : BQ hs al queue ys (some (s, k))) (hk : hs[k]? = some x) (h1 : s ||| x ≠ s) (h2 : al (s ||| x) = true) (h3 : (s ||| x) ∉ ys) : BQ hs al (queue ++ [s ||| x]) (ys ++ [s ||| x]) (some (s, k + 1)) where
  nodup := (h.found hk h1 h2 h3).1
  gen := (h.found hk h1 h2 h3).2
  que := fun q hq => by
    rcases List.mem_append.1 hq with a | a
    · rcases h.que q a with b | b
      · exact Or.inl b
      · exact Or.inr (List.mem_append_left _ b)
    · exact Or.inr (List.mem_append_right _ a)
  cur0 := fun s' k' e => by
    cases e
    rcases h.cur0 s k rfl with b | b
    · exact Or.inl b
    · exact Or.inr (List.mem_append_left _ b)
  done := fun y hy => by
    have hm : ∀ y ∈ ys, y ∈ ys ++ [s ||| x] := fun y hy => List.mem_append_left _ hy
    have hcase : (y = 0 ∨ y ∈ ys) ∨ y = s ||| x := by
      rcases hy with a | a
      · exact Or.inl (Or.inl a)
      · rcases List.mem_append.1 a with a | a
        · exact Or.inl (Or.inr a)
        · simp at a; exact Or.inr a
    rcases hcase with a | rfl
    · rcases h.done y a with b | ⟨k', b, c⟩ | b
      · exact Or.inl (List.mem_append_left _ b)
      · cases b
        exact Or.inr (Or.inl ⟨k + 1, rfl, (c.more hm).succ hk (Or.inr (Or.inr (List.mem_append_right _ (by simp))))⟩)
      · exact Or.inr (Or.inr (b.more hm))
    · exact Or.inl (List.mem_append_right _ (by simp))
theorem BQ.next {s : Nat} (h : BQ hs al queue ys (some (s, hs.length))) : BQ hs al queue ys none where
  nodup := h.nodup
  gen := h.gen
  que := h.que
  cur0 := fun s' k' e => by cases e
  done := fun y hy => by
    rcases h.done y hy with a | ⟨k', a, b⟩ | a
    · exact Or.inl a
    · cases a; exact Or.inr (Or.inr b)
    · exact Or.inr (Or.inr a)
/-- In the end all have been found. -/
theorem BQ.all (h : BQ hs al [] ys none) {S : Nat} (hS : Gn hs al S) : S = 0 ∨ S ∈ ys := by
  induction hS with
  | zero => exact Or.inl rfl
  | step hs' hh ha ih =>
    rename_i s x
    obtain ⟨i, hi⟩ := List.getElem?_of_mem hh
    rcases h.done s ih with a | ⟨k, a, _⟩ | a
    · cases a
    · cases a
    · rcases a i x (List.getElem?_eq_some_iff.1 hi).1 hi with b | b | b
      · rw [b]; exact ih
      · rw [ha] at b; cases b
      · exact Or.inr b

/-- Found sets are few if all are below a number. -/
theorem nodup_len : ∀ {b : Nat} {l : List Nat}, l.Nodup → (∀ x ∈ l, x < b) → l.length ≤ b := by
  intro b
  induction b with
  | zero =>
    intro l _ hb
    cases l with
    | nil => exact Nat.le_refl _
    | cons x l => have := hb x List.mem_cons_self; omega
  | succ b ih =>
    intro l hn hb
    by_cases hm : b ∈ l
    · have h1 := filter_out (p := fun _ => true) hn hm rfl
      rw [List.filter_eq_self.2 (fun _ _ => rfl)] at h1
      have h2 := ih (l := l.filter fun x => true && !(x == b)) (List.Pairwise.filter _ hn) fun x hx => by
        obtain ⟨h3, h4⟩ := List.mem_filter.1 hx
        have h5 : x ≠ b := by simpa using h4
        have := hb x h3; omega
      omega
    · have := ih hn fun x hx => by
        have h1 := hb x hx
        have h2 : x ≠ b := fun e => hm (by rw [← e]; exact hx)
        omega
      omega
theorem Gn.lt {n S : Nat} (hb : ∀ h ∈ hs, h < 2 ^ n) (h : Gn hs al S) : S < 2 ^ n := by
  induction h with
  | zero => exact Nat.pow_pos (by decide)
  | step _ hh _ ih => exact Nat.or_lt_two_pow ih (hb _ hh)
end Go.Ev

/- Ranges over a function: the rounds. -/
set_option linter.unusedSimpArgs false
set_option linter.unusedVariables false
namespace Go.Ev
open Go
variable {P : Program} [Sorts P] {lk sz : Nat}

/-- A loop at work, and as it is left. -/
def lpBusy (L : ALoop) : ALoop := { L with state := .busy }
def lpEnd (L : ALoop) (st : LoopState) (pe : Option Code) : ALoop := { L with state := st, pending := pe }
theorem wpRound_of {l : Nat} {args : List Value} {s : HS} {K : Value → HS → Prop} {L : ALoop} {fr : Fr} {a b : Code} (hl : lk ≤ l) (hL : s.hp.get l = some (.loop L)) (hsz : L.sz = sz) (ha : L.assign = a) (hb : L.body = b) (hn : args.length = L.params.toList.length) (hp : parA L.fr L.sz (L.params.toList.zip args) = some fr)
    (h : wpC P lk sz a fr s fun g fr1 s1 => g = .normal ∧ ∃ L1, s1.hp.get l = some (.loop L1) ∧ L1.state = .ready ∧
      wpC P lk sz b fr1 { s1 with hp := s1.hp.put l (some (.loop (lpBusy L1))) } fun sig _ s2 => ∃ L2, s2.hp.get l = some (.loop L2) ∧ match sig with
        | .normal => K (.bool true) { s2 with hp := s2.hp.put l (some (.loop (lpEnd L2 .ready none))) }
        | .ret => K (.bool false) { s2 with hp := s2.hp.put l (some (.loop (lpEnd L2 .done (some .ret)))) }
        | .exit id => K (.bool false) { s2 with hp := s2.hp.put l (some (.loop (lpEnd L2 .done (some (.exit id))))) }) : wpRound P lk l args s K := by
  subst hsz ha hb
  obtain ⟨n, g, fr1, s1, h1, rfl, L1, h2, h3, h4⟩ := wpC_ok h
  obtain ⟨m, sig, fr2, s2, h5, L2, h6, h7⟩ := wpC_ok h4
  have a1 := codeA_le (ev_le P (le_max (n := n) (m := m)).1) (Nat.le_refl lk) h1
  have a2 := codeA_le (ev_le P (le_max (n := n) (m := m)).2) (Nat.le_refl lk) h5
  have key : ∀ v s', (match sig with
      | .normal => some (Value.bool true, { s2 with hp := s2.hp.put l (some (.loop (lpEnd L2 .ready none))) })
      | .ret => some (Value.bool false, { s2 with hp := s2.hp.put l (some (.loop (lpEnd L2 .done (some .ret)))) })
      | .exit id => some (Value.bool false, { s2 with hp := s2.hp.put l (some (.loop (lpEnd L2 .done (some (.exit id))))) }) : Option (Value × HS)) = some (v, s') → (ev P (max n m + 1)).round lk l args s = some (v, s') := by
    intro v s' hv
    show roundFA P (ev P (max n m)) lk l args s = _
    unfold roundFA
    rw [if_neg (by simpa using hl)]
    simp only [loopAt, hL, Option.bind_some]
    rw [if_neg (by simpa using hn), hp]
    simp only [Option.bind_some]
    rw [a1]
    simp only [Option.bind_some, h2, h3]
    have a2' := a2
    unfold lpBusy at a2'
    rw [a2']
    simp only [Option.bind_some, h6]
    exact hv
  cases sig with
  | normal => exact ⟨_, _, _, key _ _ rfl, h7⟩
  | ret => exact ⟨_, _, _, key _ _ rfl, h7⟩
  | exit id => exact ⟨_, _, _, key _ _ rfl, h7⟩

/-- A call that leaves all blocks alone, inside a run that leaves fewer alone. -/
theorem wpCall_low {lk' : Nat} {f : Value} {args : List Value} {s : HS} {K : Value → HS → Prop} (h : wpCall P lk' f args s K) (hl : lk ≤ lk') (hs : lk' ≤ s.nx) : wpCall P lk f args s fun v s' => K v s' ∧ Ab lk' s s' := by
  unfold wpCall at *
  split at h
  · exact wpF.use h hl hs fun v s' hk ha => ⟨hk, ha⟩
  · obtain ⟨h1, h2, n, v, s', h3, h4⟩ := h
    exact ⟨h1, h2, n, v, s', (ev_le P (Nat.le_refl n)).round hl h3, h4, (ev_ab P n).round hs h3⟩
  · cases h

theorem wpRound_mono {l : Nat} {args : List Value} {s : HS} {K K' : Value → HS → Prop} (h : wpRound P lk l args s K) (hk : ∀ v s', K v s' → K' v s') : wpRound P lk l args s K' := by
  obtain ⟨n, v, s', h1, h2⟩ := h
  exact ⟨n, v, s', h1, hk v s' h2⟩

theorem call_first {g : FuncId} {fi ca : Array Value} {args : List Value} {s : HS} {K : Value → HS → Prop} (h : wpF P lk g (fi.toList ++ args ++ ca.toList) s K) : wpCall P lk (.func (.func g) fi ca) args s K := h
theorem call_yield {l : Nat} {args : List Value} {s : HS} {K : Value → HS → Prop} (h : wpRound P lk l args s K) : wpCall P lk (.func (.yield l) #[] #[]) args s K := ⟨rfl, rfl, h⟩

/-- What is asked of the loop around a function that hands on numbers: after the numbers ys it is in a state of J, which hangs on the blocks Cs alone. -/
structure Cons (P : Program) [Sorts P] (lk l : Nat) (enc : Nat → Value) (ok : Nat → Prop) (J : List Nat → (Nat → Prop) → HS → Prop) (Stop : List Nat → HS → Prop) : Prop where
  round : ∀ {ys Cs s x}, ok x → x ∉ ys → J ys Cs s → wpRound P lk l [enc x] s fun v s' => (v = .bool true ∧ ∃ Cs', J (ys ++ [x]) Cs' s' ∧ s.nx ≤ s'.nx ∧ (∀ id, Cs' id → Cs id ∨ s.nx ≤ id) ∧ ∀ id, id < s.nx → ¬ Cs id → s'.hp.get id = s.hp.get id) ∨
    (v = .bool false ∧ Stop (ys ++ [x]) s')
  same : ∀ {ys Cs s s'}, J ys Cs s → s.nx ≤ s'.nx → (∀ id, Cs id → s'.hp.get id = s.hp.get id) → J ys Cs s'
  lt : ∀ {ys Cs s id}, J ys Cs s → Cs id → id < s.nx
  len : ∀ {ys Cs s}, J ys Cs s → ys.length ≤ 2000

/-- The range: the function is called with the loop's block, and what it leaves is read off that. -/
theorem c_range {g : FuncId} {fi ca : List Value} {f : Operand} {ps : Array Tmp} {assign body : Code} {fr : Fr} {s : HS} {C : Sig → Fr → HS → Prop} (hf : opdA P.globals.size fr f = some (.func (.func g) fi.toArray ca.toArray))
    (h : ∀ L : ALoop, L.fr = fr → L.sz = sz → L.params = ps → L.assign = assign → L.body = body → L.state = .ready → L.pending = none →
      wpF P lk g (fi ++ [Value.func (Fn.yield s.nx) #[] #[]] ++ ca) { hp := s.hp.put s.nx (some (.loop L)), nx := s.nx + 1 } fun _ s2 => opt (rfEnd fr s.nx s2) fun r => C r.1 r.2.1 r.2.2) : wpC P lk sz (.rangeFunc f ps assign body) fr s C := by
  show opt (opdA P.globals.size fr f) _
  refine opt_of hf ?_
  simpa using h { fr, sz, params := ps, assign, body, state := .ready, pending := none } rfl rfl rfl rfl rfl rfl rfl
theorem rf_normal {fr : Fr} {l : Nat} {t : HS} {L : ALoop} (h : t.hp.get l = some (.loop L)) (h1 : L.state = .ready) (h2 : L.pending = none) : rfEnd fr l t = some (.normal, fr, { t with hp := t.hp.put l none }) := by
  unfold rfEnd
  simp only [h, h1, h2]
theorem rf_ret {fr : Fr} {l : Nat} {t : HS} {L : ALoop} (h : t.hp.get l = some (.loop L)) (h1 : L.state = .done) (h2 : L.pending = some .ret) : rfEnd fr l t = some (.ret, fr, { t with hp := t.hp.put l none }) := by
  unfold rfEnd
  simp only [h, h1, h2]
theorem rf_exit {fr : Fr} {l id : Nat} {t : HS} {L : ALoop} (h : t.hp.get l = some (.loop L)) (h1 : L.state = .done) (h2 : L.pending = some (.exit id)) : rfEnd fr l t = some (.exit id, fr, { t with hp := t.hp.put l none }) := by
  unfold rfEnd
  simp only [h, h1, h2]
theorem loop_back {L : ALoop} (h1 : L.state = .ready) (h2 : L.pending = none) : lpEnd (lpBusy L) .ready none = L := by
  obtain ⟨fr, sz, ps, a, b, st, pe⟩ := L
  simp only at h1 h2
  subst h1 h2
  rfl
theorem own_get {s : HS} {e : TypeId} {size id : Nat} {v : Value} {xs : List (List Value)} (h : Own s e size (some id) v xs) : ∃ cs, s.hp.get id = some (.cells true e cs) := by
  obtain ⟨_, _, _, _, _, cs, _, _, h, _⟩ := h
  exact ⟨cs, h⟩
end Go.Ev
