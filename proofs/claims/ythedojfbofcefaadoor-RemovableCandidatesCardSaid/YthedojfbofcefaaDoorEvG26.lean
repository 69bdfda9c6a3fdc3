import Derived.Test.YthedojfbofcefaaDoorEvG43
import Derived.Test.YthedojfbofcefaaDoorEvG18
import Derived.Test.YthedojfbofcefaaDoorEvG40
import Derived.Test.YthedojfbofcefaaDoorEvRf
import Derived.Test.YthedojfbofcefaaDoorEvG21
/- graph.Sinks. -/
namespace Go.Ev
open Go Go.Proofs
set_option linter.unusedSimpArgs false
set_option linter.unusedVariables false
set_option maxRecDepth 100000
set_option maxHeartbeats 4000000
attribute [local irreducible] wpOps wpC wpD wpF wpLoop wpCall seqK blockK loopK retK T.put T.get T.setF

theorem rep_at {n : Nat} {es : List (Int × Int)} {r : Nat} (h1 : r < n) (h2 : isRep n es r = true) : (reps n es n)[(reps n es r).length]? = some r := by
  have hp : reps n es (r + 1) <+: reps n es n := by
    unfold reps
    refine List.IsPrefix.filter _ ?_
    have h3 : List.range ((r + 1) + (n - (r + 1))) = _ := List.range_add
    rw [show (r + 1) + (n - (r + 1)) = n by omega] at h3
    rw [h3]
    exact List.prefix_append _ _
  obtain ⟨q, hq⟩ := hp
  rw [← hq, reps_succ, h2]
  simp
theorem rep_len {n : Nat} {es : List (Int × Int)} {k r : Nat} (h : (reps n es n)[k]? = some r) : r < n ∧ isRep n es r = true ∧ (reps n es r).length = k := by
  obtain ⟨h1, h2⟩ := mem_reps.1 (List.mem_of_getElem? h)
  refine ⟨h1, h2, ?_⟩
  have h3 := rep_at h1 h2
  have hnd : (reps n es n).Nodup := by unfold reps; exact List.Pairwise.filter _ List.nodup_range
  obtain ⟨a, b⟩ := List.getElem?_eq_some_iff.1 h
  obtain ⟨a', b'⟩ := List.getElem?_eq_some_iff.1 h3
  rcases Nat.lt_trichotomy (reps n es r).length k with h4 | h4 | h4
  · exact absurd (b'.trans b.symm) (List.pairwise_iff_getElem.1 hnd _ _ a' a h4)
  · exact h4
  · exact absurd (b.trans b'.symm) (List.pairwise_iff_getElem.1 hnd _ _ a a' h4)

/-- An edge out of the k-th component. -/
theorem link_out {n : Nat} {es : List (Int × Int)} (hg : GoodG n es) {k r : Nat} (h : (reps n es n)[k]? = some r) {cs : List (Int × Int)} (hcs : ∀ c, c ∈ cs ↔ LinkC n es es c) : cs.any (fun e => e.1 == (k : Int)) = !closedB es (compN n es r) := by
  obtain ⟨h1, h2, h3⟩ := rep_len h
  have hbit : ∀ x, (compN n es r).testBit x = true ↔ x < n ∧ mutB n es r x = true := fun x => by rw [compN_bit]; simp
  cases hc : closedB es (compN n es r) with
  | true =>
    rw [Bool.not_true, List.any_eq_false]
    intro c hc'
    obtain ⟨e, he, ⟨r1, a1, a2, a3, a4⟩, h5, h6⟩ := (hcs c).1 hc'
    obtain ⟨q1, q2, q3, q4⟩ := hg.ins e he
    simp only [beq_iff_eq]
    intro hk
    have : r1 = r := by
      have := rep_at a1 a2
      rw [show (reps n es r1).length = k by omega, h] at this
      exact (Option.some.inj this).symm
    subst this
    have h7 := closedB_iff.1 hc e he ((hbit _).2 ⟨by omega, a3⟩)
    have h8 := (hbit _).1 h7
    exact h6 (a4.trans (of_uniq hg (by omega) ⟨r1, a1, a2, h8.2, rfl⟩ h5))
  | false =>
    rw [Bool.not_false, List.any_eq_true]
    have : ∃ e ∈ es, (compN n es r).testBit e.1.toNat = true ∧ (compN n es r).testBit e.2.toNat = false := by
      unfold closedB at hc
      rw [List.all_eq_false] at hc
      obtain ⟨e, he, h4⟩ := hc
      refine ⟨e, he, ?_⟩
      cases h5 : (compN n es r).testBit e.1.toNat <;> cases h6 : (compN n es r).testBit e.2.toNat <;> simp [h5, h6] at h4
      exact ⟨rfl, rfl⟩
    obtain ⟨e, he, h4, h5⟩ := this
    obtain ⟨q1, q2, q3, q4⟩ := hg.ins e he
    obtain ⟨r', g1, g2, g3⟩ := rep_ex hg (x := e.2.toNat) (by omega)
    refine ⟨((k : Int), ((reps n es r').length : Int)), (hcs _).2 ⟨e, he, ⟨r, h1, h2, ((hbit _).1 h4).2, by rw [h3]⟩, ⟨r', by omega, g2, g3, rfl⟩, ?_⟩, by simp⟩
    dsimp only
    intro hk
    have h6 := rep_at (by omega) g2 (es := es) (n := n)
    rw [show (reps n es r').length = k by omega, h] at h6
    cases h6
    rw [(hbit _).2 ⟨by omega, g3⟩] at h5; cases h5

/-- The closed components of some. -/
def sinkL (n : Nat) (es : List (Int × Int)) (l : List Nat) : List (List Int) := (l.filter fun r => closedB es (compN n es r)).map fun r => nodesL (compN n es r) n
theorem sinkL_succ {n : Nat} {es : List (Int × Int)} {k r : Nat} (h : (reps n es n)[k]? = some r) : sinkL n es ((reps n es n).take (k + 1)) = sinkL n es ((reps n es n).take k) ++ (if closedB es (compN n es r) then [nodesL (compN n es r) n] else []) := by
  obtain ⟨a, b⟩ := List.getElem?_eq_some_iff.1 h
  unfold sinkL
  rw [List.take_succ_eq_append_getElem a, b, List.filter_append, List.map_append]
  cases hcb : closedB es (compN n es r) with
  | true => rw [List.filter_cons_of_pos (p := fun r => closedB es (compN n es r)) hcb]; rfl
  | false => rw [List.filter_cons_of_neg (p := fun r => closedB es (compN n es r)) (by simp [hcb])]; rfl
theorem sinkL_len {n : Nat} {es : List (Int × Int)} (l : List Nat) : (sinkL n es l).length ≤ l.length := by unfold sinkL; rw [List.length_map]; exact List.length_filter_le _ _

theorem f35_spec (n : Nat) (es : List (Int × Int)) (ev : Value) (s : HS) (hgl : Glob s) (hs : Sl s 2 ev (es.map encE)) :
    wpF Tryd.prog s.nx 35 [vG n ev] s (fun v s' => (checkR n es ≠ 0 ∧ v = .tuple #[.slice none 0 0, .int .i64 (checkR n es)]) ∨ (checkR n es = 0 ∧ ∃ lv : Value, v = .tuple #[lv, .int .i64 0] ∧ Lls s' lv (sinkL n es (reps n es n)))) := by
  refine wpF_of Tryd.func35 rfl rfl rfl rfl (Nat.le_refl _) ?_
  simp only [paramsA, vG]
  have hc2 : cutL [Value.int .i64 (n : Int), ev] 0 2 = some [.int .i64 n, ev] := rfl
  repeat (first
  | with_reducible first | refine st (by constructor) ?_ | apply c_region
  | (with_reducible apply k_block_on
     · decide)
  | ((with_reducible first | apply xOp | apply xDr | apply xIf); rfl; (simp only [Nat.reduceEqDiff, Nat.reduceAdd, ↓reduceIte, xBB, stG, undef, opA, val, opdA, opdO, plainN, omap, binA, intBinA, loadV, readA, storeV, writeA, fieldAddrA, indexAddrA, lenA, builtinA, newA, unA, packA, Value.cells, sz28, ty28, hc2, List.toList_toArray]; rfl); first | rfl | exact ⟨rfl, rfl, rfl⟩))
  have hA0 := Ab.new (lk := s.nx) s (.cells true 28 [.int .i64 n, ev])
  ((with_reducible first | apply xCa | apply xCd); rfl; (simp only [Nat.reduceEqDiff, Nat.reduceAdd, ↓reduceIte, xBB, stB, opdA, opdO, plainN, omap, val, Value.cells]; exact ⟨rfl, rfl⟩); try rfl)
  apply call_fn
  refine (f36_spec n es ev _ (hs.keep hA0)).use (by first | exact Nat.le_refl _ | (simp only [cond_true, cond_false]; omega) | omega | (dsimp only; omega)) (by first | exact Nat.le_refl _ | (simp only [cond_true, cond_false]; omega) | omega | (dsimp only; omega)) fun v s1 hv hA1 => ?_
  subst hv
  have hn1 := hA1.nx
  dsimp only at hn1
  have hb0 := hA1.get (Nat.le_refl _) (Nat.lt_succ_self s.nx)
  rw [T.get_put_eq] at hb0
  have hA01 := hA0.trans (hA1.lower (Nat.le_succ _) (Nat.le_refl _))
  refine opt_of rfl ?_
  by_cases hc : checkR n es = 0
  · have e0 : (checkR n es != 0) = false := by simp [hc]
    have hg := good_of hc
    have hn64 : n ≤ 64 := by have := hg.hi; omega
    have hs1 := hs.keep hA01
    have hgl1 : Glob s1 := hgl.keep hA01
    repeat (first
  | with_reducible first | refine st (by constructor) ?_ | apply c_region
  | (with_reducible apply k_block_on
     · decide)
  | ((with_reducible first | apply xOp | apply xDr | apply xIf); rfl; (simp only [Nat.reduceEqDiff, Nat.reduceAdd, ↓reduceIte, xBB, stG, undef, opA, val, opdA, opdO, plainN, omap, binA, intBinA, loadV, readA, storeV, writeA, fieldAddrA, indexAddrA, lenA, builtinA, newA, unA, packA, Value.cells, e0, hb0, ty28, hc2, List.toList_toArray]; rfl); first | rfl | exact ⟨rfl, rfl, rfl⟩))
    ((with_reducible first | apply xCa | apply xCd); rfl; (simp only [Nat.reduceEqDiff, Nat.reduceAdd, ↓reduceIte, xBB, stB, opdA, opdO, plainN, omap, val, Value.cells]; exact ⟨rfl, rfl⟩); try rfl)
    apply call_fn
    refine (f50_spec n es ev s1 hs1 hg).use (by first | exact Nat.le_refl _ | (simp only [cond_true, cond_false]; omega) | omega | (dsimp only; omega)) (by omega) fun v s2 hv hA2 => ?_
    obtain ⟨ov, fv, L, rfl, hlls, hfs, hOK⟩ := hv
    have hn2 := hA2.nx
    have hb2 := (hA2.get (Nat.le_refl _) (by omega)).trans hb0
    have hs2 := hs1.keep hA2
    have hgl2 := hgl1.keep hA2
    obtain ⟨ob, oc, rfl⟩ := hlls.shape
    have hcl := compsL_len n es n
    have hrl := reps_len (n := n) (es := es) n
    refine opt_of rfl ?_
    repeat (first
  | with_reducible first | refine st (by constructor) ?_ | apply c_region
  | (with_reducible apply k_block_on
     · decide)
  | ((with_reducible first | apply xOp | apply xDr | apply xIf); rfl; (simp only [Nat.reduceEqDiff, Nat.reduceAdd, ↓reduceIte, xBB, stG, undef, opA, val, opdA, opdO, plainN, omap, binA, intBinA, loadV, readA, storeV, writeA, fieldAddrA, indexAddrA, lenA, builtinA, newA, unA, packA, Value.cells, hb2, ty28, hc2, List.toList_toArray, List.getElem?_cons_zero, List.getElem?_cons_succ]; rfl); first | rfl | exact ⟨rfl, rfl, rfl⟩))
    ((with_reducible first | apply xCa | apply xCd); rfl; (simp only [Nat.reduceEqDiff, Nat.reduceAdd, ↓reduceIte, xBB, stB, opdA, opdO, plainN, omap, val, Value.cells]; exact ⟨rfl, rfl⟩); try rfl)
    apply call_fn
    refine (f51_spec n es ev s2 hgl2 hs2 hg).use (by first | exact Nat.le_refl _ | (simp only [cond_true, cond_false]; omega) | omega | (dsimp only; omega)) (by omega) fun v s3 hv hA3 => ?_
    obtain ⟨m, ev', fv', cs, rfl, hcs, hcl', hmem⟩ := hv
    have hn3 := hA3.nx
    have hlls3 := hlls.keep hA3
    obtain ⟨eb, ec, rfl⟩ := hcs.shape
    have hone : ∀ (a : Int) (b : Option Addr) (x y : Nat), ([Value.int .i64 a, .slice b x y] : List Value).all Value.oneCell' = true := fun _ _ _ _ => rfl
    have hput : ∀ (a : Int) (b : Option Addr) (x y : Nat), putL [Value.int .i64 0, .slice none 0 0] 0 [.int .i64 a, .slice b x y] = [.int .i64 a, .slice b x y] := fun _ _ _ _ => rfl
    have hl3 : s.nx ≤ s3.nx := by omega
    refine opt_of rfl ?_
    unfold vG
    repeat (first
  | with_reducible first | refine st (by constructor) ?_ | apply c_region
  | (with_reducible apply k_block_on
     · decide)
  | ((with_reducible first | apply xOp | apply xDr | apply xIf); rfl; (simp only [Nat.reduceEqDiff, Nat.reduceAdd, ↓reduceIte, xBB, stG, undef, opA, val, opdA, opdO, plainN, omap, binA, intBinA, loadV, readA, storeV, writeA, fieldAddrA, indexAddrA, lenA, builtinA, newA, unA, packA, Value.cells, zr28, sz28, hl3, hone, hput, List.toList_toArray, List.getElem?_cons_zero, List.getElem?_cons_succ, un30]; rfl); first | rfl | exact ⟨rfl, rfl, rfl⟩))
    generalize hst0 : ({ hp := (s3.hp.put s3.nx (some (.cells true 28 [.int .i64 0, .slice none 0 0]))).put s3.nx (some (.cells true 28 [.int .i64 m, .slice eb (cs.map encE).length ec])), nx := s3.nx + 1 } : HS) = w
    have hwn : w.nx = s3.nx + 1 := by rw [← hst0]
    have hwo : ∀ id, id < s3.nx → w.hp.get id = s3.hp.get id := fun id h => by rw [← hst0]; dsimp only; rw [T.get_put_ne _ _ _ (by omega), T.get_put_ne _ _ _ (by omega)]
    have hwb : w.hp.get s3.nx = some (.cells true 28 [.int .i64 m, .slice eb (cs.map encE).length ec]) := by rw [← hst0]; exact T.get_put_eq _ _ _
    clear hst0
    have hllsw : Lls w _ _ := hlls3.same (by omega) hwo
    have hcsw : Sl w 2 _ _ := hcs.same (by omega) hwo
    have hd1 : cutL [Value.int .i64 m, .slice eb (cs.map encE).length ec] 1 1 = some [.slice eb (cs.map encE).length ec] := rfl
    refine loop_k (lk' := w.nx) (s0 := w) (fun mm f t => ∃ k : Nat, k + mm = (compsL n es n).length ∧ f.get 28 = some (.int .i64 k) ∧ ∃ (o : Option Nat) (v : Value), f.get 9 = some v ∧ Bld t (fun _ => False) o v (sinkL n es ((reps n es n).take k)) ∧ newer w o) (compsL n es n).length (by omega) (Nat.le_refl _) ?_ (Ab.refl _ _) ?_
    · exact ⟨0, by omega, by simp only [Nat.reduceEqDiff, T.get_put, ↓reduceIte]; rfl, none, .slice none 0 0, by simp only [Nat.reduceEqDiff, T.get_put, ↓reduceIte], Bld.nil, fun _ h => (by cases h)⟩
    · rintro mm f t ⟨k, hk, h28, o, v, h9, hB, hnew⟩ hA hF
      (have k1 := hF 1 (by rfl); simp only [Nat.reduceEqDiff, T.get_put, ↓reduceIte] at k1; have k2 := hF 2 (by rfl); simp only [Nat.reduceEqDiff, T.get_put, ↓reduceIte] at k2; have k3 := hF 3 (by rfl); simp only [Nat.reduceEqDiff, T.get_put, ↓reduceIte] at k3; have k5 := hF 5 (by rfl); simp only [Nat.reduceEqDiff, T.get_put, ↓reduceIte] at k5; have k7 := hF 7 (by rfl); simp only [Nat.reduceEqDiff, T.get_put, ↓reduceIte] at k7; have k27 := hF 27 (by rfl); simp only [Nat.reduceEqDiff, T.get_put, ↓reduceIte] at k27)
      have hnt := hA.nx
      by_cases hlt : (k : Int) < ((compsL n es n).length : Int)
      · have hlt' : k < (reps n es n).length := by omega
        obtain ⟨r, hr⟩ : ∃ r, (reps n es n)[k]? = some r := ⟨_, List.getElem?_eq_getElem hlt'⟩
        have hw : IntKind.i64.wrap ((k : Int) + 1) = ((k + 1 : Nat) : Int) := by rw [IntWalk.i64_in _ (by omega)]; rfl
        have hci : (compsL n es n)[k]? = some (nodesL (compN n es r) n) := by unfold compsL; rw [List.getElem?_map, hr]; rfl
        have hlo : w.nx ≤ t.nx := by omega
        have o1 : ([Value.int .i64 (k : Int)] : List Value).all Value.oneCell' = true := rfl
        have p1 : putL [Value.int .i64 0] 0 [.int .i64 (k : Int)] = [.int .i64 k] := rfl
        have htw := (hA.get (Nat.le_refl _) (show s3.nx < w.nx by omega)).trans hwb
        have hne1 : ¬ s3.nx = t.nx := by omega
        have hlo2 : s.nx ≤ t.nx := by omega
        repeat (first
  | with_reducible first | refine st (by constructor) ?_ | apply c_region
  | (with_reducible apply k_block_on
     · decide)
  | ((with_reducible first | apply xOp | apply xDr | apply xIf); rfl; (simp only [Nat.reduceEqDiff, Nat.reduceAdd, ↓reduceIte, xBB, stG, undef, opA, val, opdA, opdO, plainN, omap, binA, intBinA, loadV, readA, storeV, writeA, fieldAddrA, indexAddrA, lenA, builtinA, newA, unA, packA, Value.cells, h28, k27, hlt, zr3, sz3, hlo, o1, p1, List.toList_toArray]; rfl); first | rfl | exact ⟨rfl, rfl, rfl⟩))
        dsimp only
        generalize hst1 : ({ hp := (t.hp.put t.nx (some (.cells true 3 [.int .i64 0]))).put t.nx (some (.cells true 3 [.int .i64 k])), nx := t.nx + 1 } : HS) = t1
        have h1n : t1.nx = t.nx + 1 := by rw [← hst1]
        have h1o : ∀ id, id < t.nx → t1.hp.get id = t.hp.get id := fun id h => by rw [← hst1]; dsimp only; rw [T.get_put_ne _ _ _ (by omega), T.get_put_ne _ _ _ (by omega)]
        have h1b : t1.hp.get t.nx = some (.cells true 3 [.int .i64 k]) := by rw [← hst1]; exact T.get_put_eq _ _ _
        clear hst1
        have htw1 := (h1o s3.nx (by omega)).trans htw
        repeat (first
  | with_reducible first | refine st (by constructor) ?_ | apply c_region
  | (with_reducible apply k_block_on
     · decide)
  | ((with_reducible first | apply xOp | apply xDr | apply xIf); rfl; (simp only [Nat.reduceEqDiff, Nat.reduceAdd, ↓reduceIte, xBB, stG, undef, opA, val, opdA, opdO, plainN, omap, binA, intBinA, loadV, readA, storeV, writeA, fieldAddrA, indexAddrA, lenA, builtinA, newA, unA, packA, Value.cells, k7, fd28_1, ty26, htw1, hd1]; rfl); first | rfl | exact ⟨rfl, rfl, rfl⟩))
        ((with_reducible first | apply xCa | apply xCd); rfl; (simp only [Nat.reduceEqDiff, Nat.reduceAdd, ↓reduceIte, xBB, stB, opdA, opdO, plainN, omap, val, Value.cells]; exact ⟨rfl, rfl⟩); try rfl)
        apply call_fn
        refine (f52_spec cs (fun e => e.1 == (k : Int)) _ _ t1 ((hcsw.keep hA).same (by omega) h1o) (by omega) ⟨53, _, rfl, fun e u hu => ?_⟩).use (by first | exact Nat.le_refl _ | (simp only [cond_true, cond_false]; omega) | omega | (dsimp only; omega)) (by omega) fun v u hv hAu => ?_
        · exact f53_spec e t.nx true 3 k u ((hu.get (Nat.le_refl _) (by omega)).trans h1b) (by have := hu.nx; omega)
        · subst hv
          rw [link_out hg hr hmem]
          have hun := hAu.nx
          have hub := (hAu.get (Nat.le_refl _) (show t.nx < t1.nx by omega)).trans h1b
          have hB1 : Bld u (fun _ => False) o v _ := hB.same (by omega) (fun id h _ => (hAu.get (Nat.le_refl _) (by omega)).trans (h1o id h)) fun id h => Or.inl h
          have hsucc := sinkL_succ hr
          refine opt_of rfl ?_
          cases hcb : closedB es (compN n es r) with
          | false =>
            rw [hcb] at hsucc
            repeat (first
  | with_reducible first | refine st (by constructor) ?_ | apply c_region
  | (with_reducible apply k_block_on
     · decide)
  | ((with_reducible first | apply xOp | apply xDr | apply xIf); rfl; (simp only [Nat.reduceEqDiff, Nat.reduceAdd, ↓reduceIte, xBB, stG, undef, opA, val, opdA, opdO, plainN, omap, binA, intBinA, loadV, readA, storeV, writeA, fieldAddrA, indexAddrA, lenA, builtinA, newA, unA, packA, Value.cells, h28, hw, Bool.not_false, Bool.not_true]; rfl); first | rfl | exact ⟨rfl, rfl, rfl⟩))
            intro _ _
            refine k_loop_next (m' := mm - 1) (by omega) ⟨k + 1, by omega, by simp only [Nat.reduceEqDiff, T.get_put, ↓reduceIte], o, v, by simp only [Nat.reduceEqDiff, T.get_put, ↓reduceIte]; exact h9, ?_, hnew⟩
            rw [hsucc]; simpa using hB1
          | true =>
            rw [hcb, if_pos rfl] at hsucc
            obtain ⟨id, off, wr, e, cc, rb, rc, rfl, g1, g2, g3, g4⟩ := hllsw.at hci
            have hwu : ∀ id, id < w.nx → u.hp.get id = w.hp.get id := fun id h => (hAu.get (Nat.le_refl _) (by omega)).trans ((h1o id (by omega)).trans (hA.get (Nat.le_refl _) h))
            rw [← hwu id g2] at g1
            have hbk : (0 : Int) ≤ (k : Int) ∧ (k : Int) < ((compsL n es n).length : Int) := ⟨by omega, hlt⟩
            have hc1 : ∀ x : Value, cutL [x] 0 1 = some [x] := fun _ => rfl
            have hkl := sinkL_len (n := n) (es := es) ((reps n es n).take k)
            have hkl2 : ((reps n es n).take k).length ≤ k := by rw [List.length_take]; omega
            repeat (first
  | with_reducible first | refine st (by constructor) ?_ | apply c_region
  | (with_reducible apply k_block_on
     · decide)
  | ((with_reducible first | apply xOp | apply xDr | apply xIf); rfl; (simp only [Nat.reduceEqDiff, Nat.reduceAdd, ↓reduceIte, xBB, stG, undef, opA, val, opdA, opdO, plainN, omap, binA, intBinA, loadV, readA, storeV, writeA, fieldAddrA, indexAddrA, lenA, builtinA, newA, unA, packA, Value.cells, Bool.not_false, Bool.not_true, h28, hw, h9, k5, hub, ty3, hc1, un30, sz35, hbk, g1, g3, ty35, List.toList_toArray, buildSliceA, el30, zr35, zerosL, fillA]; rfl); first | rfl | exact ⟨rfl, rfl, rfl⟩))
            ((with_reducible first | apply ops_opt | apply xPd); (first | rfl | exact ⟨rfl, rfl⟩); (simp only [Nat.reduceEqDiff, Nat.reduceAdd, ↓reduceIte, xBB, opA, val, opdA, opdO, plainN, omap, binA, intBinA, loadV, readA, storeV, writeA, fieldAddrA, indexAddrA, lenA, builtinA, newA, unA, packA, Value.cells, un30, un35]; rfl))
            generalize hst2 : ({ hp := u.hp.put u.nx (some (.cells true 35 (putL ([.slice none 0 0] ++ []) (0 * 1) [.slice rb ((nodesL (compN n es r) n).map encI).length rc]))), nx := u.nx + 1 } : HS) = x
            have hxn : x.nx = u.nx + 1 := by rw [← hst2]
            have hxo : ∀ id, id < u.nx → x.hp.get id = u.hp.get id := fun id h => by rw [← hst2]; exact T.get_put_ne _ _ _ (by omega)
            have hxy : x.hp.get u.nx = some (.cells true 35 [.slice rb ((nodesL (compN n es r) n).map encI).length rc]) := by rw [← hst2]; exact T.get_put_eq _ _ _
            clear hst2
            have hB4 : Bld x (fun _ => False) o _ _ := hB1.same (by omega) (fun id h _ => hxo id h) fun id h => Or.inl h
            refine opt_ex (app_bld (lk := w.nx) (l := nodesL (compN n es r) n) hB4 (fun id h => hnew id h) hxy ?_ (by omega) (fun h => h)) fun qq hq => ?_
            · exact (SlB.of_sl g4 (bad := fun id => o = some id ∨ False) fun id h => hnew id (h.resolve_right fun h => h)).same (by omega) (fun id h _ => (hxo id (by omega)).trans (hwu id h)) fun id h => Or.inl h
            obtain ⟨qv, s5⟩ := qq
            obtain ⟨v1, v2, o', v3, v4⟩ := hq
            dsimp only at v1 v2 v3
            refine opt_of rfl ?_
            repeat (first
  | with_reducible first | refine st (by constructor) ?_ | apply c_region
  | (with_reducible apply k_block_on
     · decide)
  | ((with_reducible first | apply xOp | apply xDr | apply xIf); rfl; (simp only [Nat.reduceEqDiff, Nat.reduceAdd, ↓reduceIte, xBB, stG, undef, opA, val, opdA, opdO, plainN, omap, binA, intBinA, loadV, readA, storeV, writeA, fieldAddrA, indexAddrA, lenA, builtinA, newA, unA, packA, Value.cells, h28, hw]; rfl); first | rfl | exact ⟨rfl, rfl, rfl⟩))
            intro _ _
            refine k_loop_next (m' := mm - 1) (by omega) ⟨k + 1, by omega, by simp only [Nat.reduceEqDiff, T.get_put, ↓reduceIte], o', qv, by simp only [Nat.reduceEqDiff, T.get_put, ↓reduceIte], ?_, fun id h => ?_⟩
            · rw [hsucc]; exact v3
            · rcases v4 with rfl | rfl
              · exact hnew id h
              · cases h; omega
      · have hkn : k = (reps n es n).length := by omega
        rw [hkn, List.take_length] at hB
        repeat (first
  | with_reducible first | refine st (by constructor) ?_ | apply c_region
  | (with_reducible apply k_block_on
     · decide)
  | ((with_reducible first | apply xOp | apply xDr | apply xIf); rfl; (simp only [Nat.reduceEqDiff, Nat.reduceAdd, ↓reduceIte, xBB, stG, undef, opA, val, opdA, opdO, plainN, omap, binA, intBinA, loadV, readA, storeV, writeA, fieldAddrA, indexAddrA, lenA, builtinA, newA, unA, packA, Value.cells, h28, k27, hlt]; rfl); first | rfl | exact ⟨rfl, rfl, rfl⟩))
        intro _ _
        repeat (first
  | with_reducible first | refine st (by constructor) ?_ | apply c_region
  | (with_reducible apply k_block_on
     · decide)
  | ((with_reducible first | apply xOp | apply xDr | apply xIf); rfl; (simp only [Nat.reduceEqDiff, Nat.reduceAdd, ↓reduceIte, xBB, stG, undef, opA, val, opdA, opdO, plainN, omap, binA, intBinA, loadV, readA, storeV, writeA, fieldAddrA, indexAddrA, lenA, builtinA, newA, unA, packA, Value.cells, h9]; rfl); first | rfl | exact ⟨rfl, rfl, rfl⟩))
        intro _
        ((with_reducible first | apply ret_i | apply ret_n); (simp only [Nat.reduceEqDiff, Nat.reduceAdd, ↓reduceIte, xBB, resA, opdA, opdO, plainN, omap, val, loadV, readA, packA]; rfl))
        exact Or.inr ⟨hc, v, rfl, hB.lls⟩
  · have e0 : (checkR n es != 0) = true := by simp [hc]
    repeat (first
  | with_reducible first | refine st (by constructor) ?_ | apply c_region
  | (with_reducible apply k_block_on
     · decide)
  | ((with_reducible first | apply xOp | apply xDr | apply xIf); rfl; (simp only [Nat.reduceEqDiff, Nat.reduceAdd, ↓reduceIte, xBB, stG, undef, opA, val, opdA, opdO, plainN, omap, binA, intBinA, loadV, readA, storeV, writeA, fieldAddrA, indexAddrA, lenA, builtinA, newA, unA, packA, Value.cells, e0]; rfl); first | rfl | exact ⟨rfl, rfl, rfl⟩))
    intro _
    ((with_reducible first | apply ret_i | apply ret_n); (simp only [Nat.reduceEqDiff, Nat.reduceAdd, ↓reduceIte, xBB, resA, opdA, opdO, plainN, omap, val, loadV, readA, packA]; rfl))
    exact Or.inl ⟨hc, rfl⟩
end Go.Ev

/- removable.Minimal. -/
namespace Go.Ev
open Go Go.Proofs
set_option linter.unusedSimpArgs false
set_option linter.unusedVariables false
set_option maxRecDepth 100000
set_option maxHeartbeats 4000000
attribute [local irreducible] wpOps wpC wpD wpF wpLoop wpCall seqK blockK loopK retK T.put T.get T.setF

/-- The minimal candidates as the code finds them. -/
def minL (n : Nat) (es : List (Int × Int)) : List (List Int) := if (sinkL n es (reps n es n)).length = 1 ∧ ((sinkL n es (reps n es n)).getD 0 []).length = n then [] else sinkL n es (reps n es n)

theorem f19_spec (n : Nat) (es : List (Int × Int)) (ev : Value) (s : HS) (hgl : Glob s) (hs : Sl s 2 ev (es.map encE)) :
    wpF Tryd.prog s.nx 19 [vG n ev] s (fun v s' => (checkR n es ≠ 0 ∧ v = .tuple #[.slice none 0 0, .int .i64 (checkR n es)]) ∨ (checkR n es = 0 ∧ ∃ lv : Value, v = .tuple #[lv, .int .i64 0] ∧ Lls s' lv (minL n es))) := by
  refine wpF_of Tryd.func19 rfl rfl rfl rfl (Nat.le_refl _) ?_
  simp only [paramsA, vG]
  have hc2 : cutL [Value.int .i64 (n : Int), ev] 0 2 = some [.int .i64 n, ev] := rfl
  have hc1 : cutL [Value.int .i64 (n : Int), ev] 0 1 = some [.int .i64 n] := rfl
  repeat (first
  | with_reducible first | refine st (by constructor) ?_ | apply c_region
  | (with_reducible apply k_block_on
     · decide)
  | ((with_reducible first | apply xOp | apply xDr | apply xIf); rfl; (simp only [Nat.reduceEqDiff, Nat.reduceAdd, ↓reduceIte, xBB, stG, undef, opA, val, opdA, opdO, plainN, omap, binA, intBinA, loadV, readA, storeV, writeA, fieldAddrA, indexAddrA, lenA, builtinA, newA, unA, packA, Value.cells, sz28, ty28, hc2, List.toList_toArray]; rfl); first | rfl | exact ⟨rfl, rfl, rfl⟩))
  have hA0 := Ab.new (lk := s.nx) s (.cells true 28 [.int .i64 n, ev])
  ((with_reducible first | apply xCa | apply xCd); rfl; (simp only [Nat.reduceEqDiff, Nat.reduceAdd, ↓reduceIte, xBB, stB, opdA, opdO, plainN, omap, val, Value.cells]; exact ⟨rfl, rfl⟩); try rfl)
  apply call_fn
  refine (f35_spec n es ev _ (hgl.keep hA0) (hs.keep hA0)).use (by first | exact Nat.le_refl _ | (simp only [cond_true, cond_false]; omega) | omega | (dsimp only; omega)) (by first | exact Nat.le_refl _ | (simp only [cond_true, cond_false]; omega) | omega | (dsimp only; omega)) fun v s1 hv hA1 => ?_
  have hn1 := hA1.nx
  dsimp only at hn1
  have hb0 := hA1.get (Nat.le_refl _) (Nat.lt_succ_self s.nx)
  rw [T.get_put_eq] at hb0
  rcases hv with ⟨hc, rfl⟩ | ⟨hc, lv, rfl, hl⟩
  · have e0 : (checkR n es != 0) = true := by simp [hc]
    refine opt_of rfl ?_
    repeat (first
  | with_reducible first | refine st (by constructor) ?_
  | (with_reducible apply k_block_on
     · decide)
  | ((with_reducible first | apply xOp | apply xDr | apply xIf); rfl; (simp only [Nat.reduceEqDiff, Nat.reduceAdd, ↓reduceIte, xBB, stG, undef, opA, val, opdA, opdO, plainN, omap, binA, intBinA, loadV, readA, storeV, writeA, fieldAddrA, indexAddrA, lenA, builtinA, newA, unA, packA, Value.cells, List.toList_toArray, List.getElem?_cons_zero, List.getElem?_cons_succ]; rfl); first | rfl | exact ⟨rfl, rfl, rfl⟩))
    refine c_draw [⟨true, [], none⟩, ⟨true, [], none⟩, ⟨true, [], none⟩, ⟨true, [], none⟩, ⟨true, [], none⟩, ⟨true, [], none⟩, ⟨true, [], none⟩, ⟨false, [], none⟩, ⟨false, [], none⟩, ⟨false, [], none⟩, ⟨false, [], none⟩, ⟨false, [], none⟩, ⟨false, [9, 10], none⟩, ⟨true, [], none⟩, ⟨true, [], none⟩, ⟨true, [], none⟩] (by kernel_rfl) ?_
    repeat (first
  | with_reducible first | refine st (by constructor) ?_ | apply c_region
  | (with_reducible apply k_block_on
     · decide)
  | ((with_reducible first | apply xOp | apply xDr | apply xIf); rfl; (simp only [Nat.reduceEqDiff, Nat.reduceAdd, ↓reduceIte, xBB, stG, undef, opA, val, opdA, opdO, plainN, omap, binA, intBinA, loadV, readA, storeV, writeA, fieldAddrA, indexAddrA, lenA, builtinA, newA, unA, packA, Value.cells, e0]; rfl); first | rfl | exact ⟨rfl, rfl, rfl⟩))
    intro _
    ((with_reducible first | apply ret_i | apply ret_n); (simp only [Nat.reduceEqDiff, Nat.reduceAdd, ↓reduceIte, xBB, resA, opdA, opdO, plainN, omap, val, loadV, readA, packA]; rfl))
    exact Or.inl ⟨hc, rfl⟩
  · obtain ⟨b, c, rfl⟩ := hl.shape
    refine opt_of rfl ?_
    repeat (first
  | with_reducible first | refine st (by constructor) ?_
  | (with_reducible apply k_block_on
     · decide)
  | ((with_reducible first | apply xOp | apply xDr | apply xIf); rfl; (simp only [Nat.reduceEqDiff, Nat.reduceAdd, ↓reduceIte, xBB, stG, undef, opA, val, opdA, opdO, plainN, omap, binA, intBinA, loadV, readA, storeV, writeA, fieldAddrA, indexAddrA, lenA, builtinA, newA, unA, packA, Value.cells, List.toList_toArray, List.getElem?_cons_zero, List.getElem?_cons_succ]; rfl); first | rfl | exact ⟨rfl, rfl, rfl⟩))
    refine c_draw [⟨true, [], none⟩, ⟨true, [], none⟩, ⟨true, [], none⟩, ⟨true, [], none⟩, ⟨true, [], none⟩, ⟨true, [], none⟩, ⟨true, [], none⟩, ⟨false, [], none⟩, ⟨false, [], none⟩, ⟨false, [], none⟩, ⟨false, [], none⟩, ⟨false, [], none⟩, ⟨false, [9, 10], none⟩, ⟨true, [], none⟩, ⟨true, [], none⟩, ⟨true, [], none⟩] (by kernel_rfl) ?_
    by_cases h1 : (sinkL n es (reps n es n)).length = 1
    · have e1 : (((sinkL n es (reps n es n)).length : Int) == 1) = true := by rw [h1]; rfl
      have h00 : (sinkL n es (reps n es n))[0]? = some ((sinkL n es (reps n es n)).getD 0 []) := by rw [List.getD_eq_getElem?_getD, List.getElem?_eq_getElem (by omega)]; rfl
      obtain ⟨id, off, wr, e, cs, rb, rc, rfl, g1, g2, g3, g4⟩ := hl.at h00
      have g3' : cutL cs (off + Int.toNat 0 * 1) 1 = some [Value.slice rb (((sinkL n es (reps n es n)).getD 0 []).map encI).length rc] := g3
      have hlm : (((sinkL n es (reps n es n)).getD 0 []).map encI).length = ((sinkL n es (reps n es n)).getD 0 []).length := List.length_map _
      have hb : (0 : Int) ≤ 0 ∧ (0 : Int) < ((sinkL n es (reps n es n)).length : Int) := by omega
      have hml : minL n es = if ((sinkL n es (reps n es n)).getD 0 []).length = n then [] else sinkL n es (reps n es n) := by unfold minL; simp [h1]
      by_cases h2 : ((sinkL n es (reps n es n)).getD 0 []).length = n
      · have e2 : ((((sinkL n es (reps n es n)).getD 0 []).length : Int) == (n : Int)) = true := by rw [h2]; simp
        rw [if_pos h2] at hml
        repeat (first
  | with_reducible first | refine st (by constructor) ?_ | apply c_region
  | (with_reducible apply k_block_on
     · decide)
  | ((with_reducible first | apply xOp | apply xDr | apply xIf); rfl; (simp only [Nat.reduceEqDiff, Nat.reduceAdd, ↓reduceIte, xBB, stG, undef, opA, val, opdA, opdO, plainN, omap, binA, intBinA, loadV, readA, storeV, writeA, fieldAddrA, indexAddrA, lenA, builtinA, newA, unA, packA, Value.cells, e1, e2, un30, un35, hb, g1, g3', sz35, ty35, hb0, fd28_0, ty3, hc1, hlm, List.toList_toArray]; rfl); first | rfl | exact ⟨rfl, rfl, rfl⟩))
        intro _
        ((with_reducible first | apply ret_i | apply ret_n); (simp only [Nat.reduceEqDiff, Nat.reduceAdd, ↓reduceIte, xBB, resA, opdA, opdO, plainN, omap, val, loadV, readA, packA]; rfl))
        exact Or.inr ⟨hc, _, rfl, by rw [hml]; exact ⟨[], Or.inl ⟨rfl, rfl⟩, rfl, fun i r l h => by simp at h⟩⟩
      · have e2 : ((((sinkL n es (reps n es n)).getD 0 []).length : Int) == (n : Int)) = false := by rw [beq_eq_false_iff_ne]; omega
        rw [if_neg h2] at hml
        repeat (first
  | with_reducible first | refine st (by constructor) ?_ | apply c_region
  | (with_reducible apply k_block_on
     · decide)
  | ((with_reducible first | apply xOp | apply xDr | apply xIf); rfl; (simp only [Nat.reduceEqDiff, Nat.reduceAdd, ↓reduceIte, xBB, stG, undef, opA, val, opdA, opdO, plainN, omap, binA, intBinA, loadV, readA, storeV, writeA, fieldAddrA, indexAddrA, lenA, builtinA, newA, unA, packA, Value.cells, e1, e2, un30, un35, hb, g1, g3', sz35, ty35, hb0, fd28_0, ty3, hc1, hlm, List.toList_toArray]; rfl); first | rfl | exact ⟨rfl, rfl, rfl⟩))
        intro _
        ((with_reducible first | apply ret_i | apply ret_n); (simp only [Nat.reduceEqDiff, Nat.reduceAdd, ↓reduceIte, xBB, resA, opdA, opdO, plainN, omap, val, loadV, readA, packA]; rfl))
        exact Or.inr ⟨hc, _, rfl, by rw [hml]; exact hl⟩
    · have e1 : (((sinkL n es (reps n es n)).length : Int) == 1) = false := by simp; omega
      have hml : minL n es = sinkL n es (reps n es n) := by unfold minL; rw [if_neg fun h => h1 h.1]
      repeat (first
  | with_reducible first | refine st (by constructor) ?_ | apply c_region
  | (with_reducible apply k_block_on
     · decide)
  | ((with_reducible first | apply xOp | apply xDr | apply xIf); rfl; (simp only [Nat.reduceEqDiff, Nat.reduceAdd, ↓reduceIte, xBB, stG, undef, opA, val, opdA, opdO, plainN, omap, binA, intBinA, loadV, readA, storeV, writeA, fieldAddrA, indexAddrA, lenA, builtinA, newA, unA, packA, Value.cells, e1, un30]; rfl); first | rfl | exact ⟨rfl, rfl, rfl⟩))
      intro _
      ((with_reducible first | apply ret_i | apply ret_n); (simp only [Nat.reduceEqDiff, Nat.reduceAdd, ↓reduceIte, xBB, resA, opdA, opdO, plainN, omap, val, loadV, readA, packA]; rfl))
      exact Or.inr ⟨hc, _, rfl, by rw [hml]; exact hl⟩
end Go.Ev

/- Plain laws: the least candidate, their number, the minimal ones. -/
set_option linter.unusedSimpArgs false
set_option linter.unusedVariables false
namespace Go.Ev
open Go Go.Proofs Go.Sort

theorem cmpS_ord {a b : Nat} (ha : a < 1024) (hb : b < 1024) : cmpS a b = ordL (nodesL a 64) (nodesL b 64) := by
  unfold cmpS ordL
  rw [ones_eq ha, ones_eq hb, ← nodesL_card, ← nodesL_card]

/-- The least of those that are allowed. -/
theorem least_min {all : Nat} {most wo : Int} : ∀ {hs : List Nat}, (∀ h ∈ hs, h < 1024) → (leastL all most wo hs).2 = true → (leastL all most wo hs).1 ∈ hs ∧ allowB all most wo (leastL all most wo hs).1 = true ∧ ∀ h ∈ hs, allowB all most wo h = true → ¬ cmpS h (leastL all most wo hs).1 < 0 := by
  have key : ∀ (l : List Nat) (r : Nat × Bool) (pre : List Nat), (∀ h ∈ pre ++ l, h < 1024) →
      ((r.2 = true → r.1 ∈ pre ∧ allowB all most wo r.1 = true ∧ ∀ h ∈ pre, allowB all most wo h = true → ¬ cmpS h r.1 < 0) ∧ (r.2 = false → ∀ h ∈ pre, allowB all most wo h = false)) →
      ((l.foldl (leastStep all most wo) r).2 = true → (l.foldl (leastStep all most wo) r).1 ∈ pre ++ l ∧ allowB all most wo (l.foldl (leastStep all most wo) r).1 = true ∧ ∀ h ∈ pre ++ l, allowB all most wo h = true → ¬ cmpS h (l.foldl (leastStep all most wo) r).1 < 0) := by
    intro l
    induction l with
    | nil => intro r pre _ h hr; rw [List.append_nil]; exact h.1 hr
    | cons x l ih =>
      intro r pre hlt hinv
      rw [List.foldl_cons, show pre ++ x :: l = (pre ++ [x]) ++ l by simp]
      refine ih _ _ (by simpa using hlt) ?_
      obtain ⟨hi1, hi2⟩ := hinv
      have hx := hlt x (by simp)
      have hself : ¬ cmpS x x < 0 := by rw [cmpS_ord hx hx, ordL_O.self]; decide
      have hmem : ∀ h, h ∈ pre ++ [x] ↔ h ∈ pre ∨ h = x := fun h => by simp
      unfold leastStep
      cases ha : allowB all most wo x with
      | false =>
        rw [Bool.false_and, if_neg (by decide)]
        refine ⟨fun hr => ?_, fun hr h hh => ?_⟩
        · obtain ⟨a, b, c⟩ := hi1 hr
          refine ⟨(hmem _).2 (Or.inl a), b, fun h hh h1 => ?_⟩
          rcases (hmem _).1 hh with hh | rfl
          · exact c h hh h1
          · rw [ha] at h1; cases h1
        · rcases (hmem _).1 hh with hh | rfl
          · exact hi2 hr h hh
          · exact ha
      | true =>
        rw [Bool.true_and]
        cases hr : r.2 with
        | false =>
          rw [if_pos (by simp)]
          refine ⟨fun _ => ⟨(hmem _).2 (Or.inr rfl), ha, fun h hh h1 => ?_⟩, fun h => by cases h⟩
          rcases (hmem _).1 hh with hh | rfl
          · rw [hi2 hr h hh] at h1; cases h1
          · exact hself
        | true =>
          obtain ⟨a, b, c⟩ := hi1 hr
          have hr1 := hlt r.1 (List.mem_append_left _ a)
          by_cases hlt0 : cmpS x r.1 < 0
          · rw [if_pos (by simp [hlt0])]
            refine ⟨fun _ => ⟨(hmem _).2 (Or.inr rfl), ha, fun h hh h1 => ?_⟩, fun h => by cases h⟩
            rcases (hmem _).1 hh with hh | rfl
            · intro h2
              have h3 := hlt h (List.mem_append_left _ hh)
              refine c h hh h1 ?_
              rw [cmpS_ord h3 hx] at h2
              rw [cmpS_ord hx hr1] at hlt0
              rw [cmpS_ord h3 hr1]
              exact ordL_O.trans _ _ _ h2 hlt0
            · exact hself
          · rw [if_neg (by simp [hlt0])]
            refine ⟨fun _ => ⟨(hmem _).2 (Or.inl a), b, fun h hh h1 => ?_⟩, fun h => by rw [hr] at h; cases h⟩
            rcases (hmem _).1 hh with hh | rfl
            · exact c h hh h1
            · exact hlt0
  intro hs hlt hr
  have := key hs (0, false) [] (by simpa using hlt) ⟨fun h => (by cases h), fun _ h hh => (by cases hh)⟩ hr
  unfold leastL
  simpa using this

theorem nodes64' {n S : Nat} (hn : n ≤ 62) (hS : S < 2 ^ n) : nodesL S 64 = nodesL S 62 := by
  have h6 : S >>> n = 0 := by rw [Nat.shiftRight_eq_div_pow]; exact Nat.div_eq_of_lt hS
  rw [nodesL_high h6 64 (by omega), nodesL_high h6 62 (by omega)]

/-- Least is the first candidate. -/
theorem least_law {n : Nat} {es : List (Int × Int)} (hg : GoodG n es) {most wo : Int} (hn : n ≤ 10) (hm : 0 ≤ most) :
    ((leastL (2 ^ n - 1) most wo (HNs n es)).2 = true → (candU es most wo (2 ^ n - 2))[0]? = some (nodesL (leastL (2 ^ n - 1) most wo (HNs n es)).1 64)) ∧
    ((leastL (2 ^ n - 1) most wo (HNs n es)).2 = false → candU es most wo (2 ^ n - 2) = [] ∧ nodesL (leastL (2 ^ n - 1) most wo (HNs n es)).1 64 = []) := by
  have hpow := pow_small hn
  have hlt : ∀ h ∈ HNs n es, h < 1024 := fun h hh => by have := HNs_lt hg h hh; omega
  have hheld := (held_law hg hn (wo := wo) hm)
  have h2 := hheld.2
  refine ⟨fun hf => ?_, fun hf => ?_⟩
  · rw [hf] at h2
    have hne : candU es most wo (2 ^ n - 2) ≠ [] := fun e => by rw [decide_eq_true e] at h2; cases h2
    obtain ⟨m1, m2, m3⟩ := least_min hlt hf
    obtain ⟨i, hi, hx⟩ := List.mem_map.1 m1
    have hi' := List.mem_range.1 hi
    generalize (leastL (2 ^ n - 1) most wo (HNs n es)).1 = x at *
    subst hx
    have hcx : isC n es most wo (HN n es i) := (isC_iff hn hm).2 ⟨HN_ne hg hi', HN_lt hg hi', HN_closed hg hi', m2⟩
    have hsort := candU_sorted (es := es) (most := most) (wo := wo) (2 ^ n - 2) (by omega)
    have hin : ∀ S, isC n es most wo S → nodesL S 64 ∈ candU es most wo (2 ^ n - 2) := fun S hS => by
      obtain ⟨a, b⟩ := isC_lt hS
      exact (candU_mem _).2 ⟨S, a, b, (okC_iff (by omega) hm a b).2 hS, nodes64' (by omega) hS.2.1⟩
    cases hcl : candU es most wo (2 ^ n - 2) with
    | nil => exact absurd hcl hne
    | cons l0 ls =>
      rw [hcl] at hsort hin
      obtain ⟨p1, p2⟩ := List.pairwise_cons.1 hsort
      have hmin : ∀ l ∈ l0 :: ls, l ≠ l0 → Bef l0 l := fun l hl hne => by
        rcases List.mem_cons.1 hl with e | hl
        · exact absurd e hne
        · exact p1 l hl
      obtain ⟨S0, s1, s2, s3, s4⟩ := (candU_mem (l := l0) (2 ^ n - 2)).1 (by rw [hcl]; exact List.mem_cons_self)
      have hc0 := (okC_iff (by omega) hm s1 s2).1 s3
      rw [← nodes64' (by omega) hc0.2.1] at s4
      show some l0 = _
      congr 1
      rcases Classical.em (nodesL (HN n es i) 64 = l0) with e | e
      · exact e.symm
      · exfalso
        have hb := hmin _ (hin _ hcx) e
        obtain ⟨j, hj⟩ := ne_zero_bit hc0.1
        obtain ⟨hjn, hcj⟩ := isC_hull hg hc0 hj
        have hle := card_sub (n := n) (fun k hk => closedB_hull hg hc0.2.2.1 hjn hj hk : ∀ k, (HN n es j).testBit k = true → S0.testBit k = true)
        have hlen : ∀ S, S < 2 ^ n → (nodesL S 64).length = cardN S n := fun S hS => by rw [nodesL_card, cardN_high hS 64 (by omega)]
        have hS0 : nodesL (HN n es j) 64 = l0 := by
          rcases Classical.em (nodesL (HN n es j) 64 = l0) with e2 | e2
          · exact e2
          · exfalso
            have hb2 := hmin _ (hin _ hcj) e2
            have hne2 : HN n es j ≠ S0 := fun e3 => e2 (by rw [e3]; exact s4.symm)
            have hex : ∃ k, k < n ∧ S0.testBit k = true ∧ (HN n es j).testBit k = false := by
              apply Classical.byContradiction
              intro hno
              refine hne2 (Nat.eq_of_testBit_eq fun k => ?_)
              cases hb3 : S0.testBit k with
              | false =>
                cases hb4 : (HN n es j).testBit k with
                | false => rfl
                | true => have := closedB_hull hg hc0.2.2.1 hjn hj hb4; rw [hb3] at this; cases this
              | true =>
                cases hb4 : (HN n es j).testBit k with
                | true => rfl
                | false => exact absurd ⟨k, testBit_lt hc0.2.1 hb3, hb3, hb4⟩ hno
            have hlt2 := (cardN_mono (fun k hk => closedB_hull hg hc0.2.2.1 hjn hj hk : ∀ k, (HN n es j).testBit k = true → S0.testBit k = true) n).2 hex
            refine hb2.asymm (bef_len ?_)
            rw [s4, hlen _ hc0.2.1, hlen _ (HN_lt hg hjn)]
            exact hlt2
        have h5 := m3 (HN n es j) (List.mem_map.2 ⟨j, List.mem_range.2 hjn, rfl⟩) ((isC_iff hn hm).1 hcj).2.2.2
        rw [cmpS_ord (by have := HN_lt hg hjn; omega) (by have := HN_lt hg hi'; omega), hS0] at h5
        exact h5 hb
  · rw [hf] at h2
    refine ⟨by simpa using h2.symm, ?_⟩
    have key : ∀ (l : List Nat) (r : Nat × Bool), (l.foldl (leastStep (2 ^ n - 1) most wo) r).2 = false → (l.foldl (leastStep (2 ^ n - 1) most wo) r).1 = r.1 := by
      intro l
      induction l with
      | nil => intro r _; rfl
      | cons x l ih =>
        intro r h
        rw [List.foldl_cons] at h ⊢
        rw [ih _ h]
        have hmono : ∀ (l : List Nat) (r : Nat × Bool), r.2 = true → (l.foldl (leastStep (2 ^ n - 1) most wo) r).2 = true := by
          intro l
          induction l with
          | nil => intro r h; exact h
          | cons x l ih => intro r h; rw [List.foldl_cons]; refine ih _ ?_; unfold leastStep; split; rfl; exact h
        by_cases hc : (allowB (2 ^ n - 1) most wo x && (!r.2 || decide (cmpS x r.1 < 0))) = true
        · have he : leastStep (2 ^ n - 1) most wo r x = (x, true) := if_pos hc
          rw [he, hmono l (x, true) rfl] at h; cases h
        · rw [show leastStep (2 ^ n - 1) most wo r x = r from if_neg hc]
    have := key (HNs n es) (0, false) hf
    unfold leastL
    rw [this]
    exact nodesL_zero 64

/-! ### Their number -/
theorem candU_count (es : List (Int × Int)) (most wo : Int) : ∀ k, (candU es most wo k).length = ((List.range k).filter fun S => okC es most wo (S + 1)).length
  | 0 => rfl
  | k + 1 => by
    rw [List.range_succ, List.filter_append, List.length_append, ← candU_count es most wo k]
    rw [show candU es most wo (k + 1) = if okC es most wo (k + 1) then insB (nodesL (k + 1) 62) (candU es most wo k) else candU es most wo k from rfl]
    split
    · rename_i h; rw [insB_len, List.filter_cons_of_pos (p := fun S => okC es most wo (S + 1)) h]; rfl
    · rename_i h; rw [List.filter_cons_of_neg (p := fun S => okC es most wo (S + 1)) h]; rfl
theorem count_law {n : Nat} {es : List (Int × Int)} (hg : GoodG n es) (hn : n ≤ 9) {ys : List Nat} (hF : Found (HNs n es) (fun _ => true) ys) : ys.length ≤ 1023 ∧ ((∀ S, Gn (HNs n es) (fun _ => true) S → S = 0 ∨ S ∈ ys) → 1 + ys.length = if n = 0 then 1 else (candU es 0 (-1) (2 ^ n - 2)).length + 2) := by
  have hpow : 2 ^ n ≤ 512 := Nat.le_trans (Nat.pow_le_pow_right (by decide) hn) (by decide)
  have hp : 0 < 2 ^ n := Nat.pow_pos (by decide)
  have hb : ∀ y ∈ ys, y ≠ 0 ∧ y < 2 ^ n ∧ closedB es y = true := fun y hy => by
    obtain ⟨h1, h2, h3⟩ := hF.2 y hy
    exact ⟨h3, h1.lt (HNs_lt hg), h1.closed hg⟩
  have hle := most_len (B := 2 ^ n - 1) hF.1 fun y hy => by have := hb y hy; omega
  refine ⟨by omega, fun hall => ?_⟩
  by_cases h0 : n = 0
  · subst h0
    rw [if_pos rfl]; omega
  · rw [if_neg h0, candU_count]
    have hfull : closedB es (2 ^ n - 1) = true := by
      rw [closedB_iff]
      intro e he _
      obtain ⟨q1, q2, q3, q4⟩ := hg.ins e he
      rw [Nat.testBit_two_pow_sub_one]; simp; omega
    have h1n : 2 ≤ 2 ^ n := by
      have : 2 ^ 1 ≤ 2 ^ n := Nat.pow_le_pow_right (by decide) (by omega)
      omega
    have hmemZ : ∀ x, x ∈ (2 ^ n - 1) :: ((List.range (2 ^ n - 2)).filter fun S => okC es 0 (-1) (S + 1)).map (· + 1) ↔ x ≠ 0 ∧ x < 2 ^ n ∧ closedB es x = true := fun x => by
      rw [List.mem_cons, List.mem_map]
      have hok : ∀ S, okC es 0 (-1) S = closedB es S := fun S => by unfold okC; simp
      constructor
      · rintro (rfl | ⟨S, hS, rfl⟩)
        · exact ⟨by omega, by omega, hfull⟩
        · obtain ⟨h2, h3⟩ := List.mem_filter.1 hS
          have := List.mem_range.1 h2
          rw [hok] at h3
          exact ⟨by omega, by omega, h3⟩
      · rintro ⟨h2, h3, h4⟩
        by_cases h5 : x = 2 ^ n - 1
        · exact Or.inl h5
        · exact Or.inr ⟨x - 1, List.mem_filter.2 ⟨List.mem_range.2 (by omega), by show okC es 0 (-1) (x - 1 + 1) = true; rw [hok, show x - 1 + 1 = x by omega]; exact h4⟩, by show x - 1 + 1 = x; omega⟩
    have hndZ : ((2 ^ n - 1) :: ((List.range (2 ^ n - 2)).filter fun S => okC es 0 (-1) (S + 1)).map (· + 1)).Nodup := by
      refine List.nodup_cons.2 ⟨fun h => ?_, ?_⟩
      · obtain ⟨S, hS, e⟩ := List.mem_map.1 h
        have := List.mem_range.1 (List.mem_filter.1 hS).1
        omega
      · refine List.pairwise_map.2 (List.Pairwise.imp (fun {a b} h e => h (by omega)) (List.Pairwise.filter _ List.nodup_range))
    have h6 := sub_len hndZ (ys := ys) fun x hx => by
      obtain ⟨h2, h3, h4⟩ := (hmemZ x).1 hx
      exact (hall x (gn_of hg h3 h4 fun _ _ _ => rfl)).resolve_left h2
    have h7 := sub_len hF.1 (ys := (2 ^ n - 1) :: ((List.range (2 ^ n - 2)).filter fun S => okC es 0 (-1) (S + 1)).map (· + 1)) fun x hx => (hmemZ x).2 (hb x hx)
    rw [List.length_cons, List.length_map] at h6 h7
    omega
end Go.Ev

/- Plain laws: the minimal candidates. -/
set_option linter.unusedSimpArgs false
set_option linter.unusedVariables false
namespace Go.Ev
open Go

/-- Is the i-th node's component a minimal candidate, told by its first node? -/
def minB (n : Nat) (es : List (Int × Int)) (i : Nat) : Bool := closedB es (compN n es i) && decide (compN n es i ≠ 2 ^ n - 1) && isRep n es i
def minT (n : Nat) (es : List (Int × Int)) (k : Nat) : List (List Int) := ((List.range k).filter (minB n es)).map fun i => nodesL (compN n es i) 62
theorem minT_succ {n : Nat} {es : List (Int × Int)} (k : Nat) : minT n es (k + 1) = minT n es k ++ (if minB n es k then [nodesL (compN n es k) 62] else []) := by
  unfold minT
  rw [List.range_succ, List.filter_append, List.map_append]
  cases h : minB n es k with
  | true => rw [List.filter_cons_of_pos h]; rfl
  | false => rw [List.filter_cons_of_neg (by simp [h])]; rfl
theorem minT_len {n : Nat} {es : List (Int × Int)} (k : Nat) : (minT n es k).length ≤ k := by
  unfold minT
  rw [List.length_map]
  exact Nat.le_trans (List.length_filter_le _ _) (by rw [List.length_range]; exact Nat.le_refl _)

theorem first_of {a r : Nat} (hb : a.testBit r = true) (h0 : ∀ j, j < r → a.testBit j = false) : ∀ n, r < n → (nodesL a n)[0]? = some (r : Int) := by
  have hnil : ∀ m, m ≤ r → nodesL a m = [] := by
    intro m
    induction m with
    | zero => intro _; rfl
    | succ m ih => intro h; rw [nodesL_succ, ih (by omega), h0 m (by omega)]; rfl
  intro n
  induction n with
  | zero => intro h; omega
  | succ n ih =>
    intro h
    rw [nodesL_succ]
    by_cases hrn : r = n
    · subst hrn; rw [hnil r (Nat.le_refl _), hb]; rfl
    · have := ih (by omega)
      rw [List.getElem?_append_left (List.getElem?_eq_some_iff.1 this).1]; exact this
/-- The first node of a node's component. -/
theorem comp_first {n : Nat} {es : List (Int × Int)} (hg : GoodG n es) (hn : n ≤ 62) {i : Nat} (hi : i < n) : ∃ r : Nat, (nodesL (compN n es i) 62)[0]? = some (r : Int) ∧ (r = i ↔ isRep n es i = true) := by
  obtain ⟨r, h1, h2, h3⟩ := rep_ex hg hi
  have hbit : ∀ x, (compN n es i).testBit x = true ↔ x < n ∧ mutB n es i x = true := fun x => by rw [compN_bit]; simp
  refine ⟨r, first_of ((hbit r).2 ⟨by omega, by rw [mut_symm]; exact h3⟩) (fun j hj => ?_) 62 (by omega), ?_⟩
  · cases hb : (compN n es i).testBit j with
    | false => rfl
    | true =>
      obtain ⟨h4, h5⟩ := (hbit j).1 hb
      have h6 := mut_trans hg (show r < n by omega) hi h4 h3 h5
      rw [isRep_iff.1 h2 j hj] at h6; cases h6
  · constructor
    · rintro rfl; exact h2
    · intro h
      exact rep_uniq hg hi (by omega) hi h2 h3 h (mut_self hg hi)

theorem comp_full {n : Nat} {es : List (Int × Int)} {r : Nat} (h : compN n es r = 2 ^ n - 1) {x : Nat} (hx : x < n) : mutB n es r x = true := by
  have h1 : (compN n es r).testBit x = true := by rw [h, Nat.testBit_two_pow_sub_one]; simp [hx]
  rw [compN_bit] at h1
  simp only [Bool.and_eq_true] at h1
  exact h1.2
/-- Minimal is what the law says. -/
theorem min_law {n : Nat} {es : List (Int × Int)} (hg : GoodG n es) (hn : n ≤ 10) : minL n es = minT n es n := by
  have hlen : ∀ i, (nodesL (compN n es i) n).length = cardN (compN n es i) n := fun i => nodesL_card _ _
  have h62 : ∀ i, nodesL (compN n es i) 62 = nodesL (compN n es i) n := fun i => nodesL_high (by rw [Nat.shiftRight_eq_div_pow]; exact Nat.div_eq_of_lt compN_lt) 62 (by omega)
  have hmem : ∀ r, r ∈ (reps n es n).filter (fun r => closedB es (compN n es r)) ↔ (r < n ∧ isRep n es r = true) ∧ closedB es (compN n es r) = true := fun r => by rw [List.mem_filter, mem_reps]
  by_cases hex : ∃ r, r < n ∧ compN n es r = 2 ^ n - 1
  · obtain ⟨r0, hr0, hf⟩ := hex
    have hall : ∀ x y, x < n → y < n → mutB n es x y = true := fun x y hx hy => mut_trans hg hx hr0 hy (by rw [mut_symm]; exact comp_full hf hx) (comp_full hf hy)
    have hcf : ∀ x, x < n → compN n es x = 2 ^ n - 1 := fun x hx => Nat.eq_of_testBit_eq fun j => by
      rw [compN_bit, Nat.testBit_two_pow_sub_one]
      by_cases hj : j < n
      · rw [hall x j hx hj]; simp
      · simp [hj]
    have hrep : ∀ x, x < n → (isRep n es x = true ↔ x = 0) := fun x hx => by
      rw [isRep_iff]
      constructor
      · intro h
        rcases Nat.eq_zero_or_pos x with h0 | h0
        · exact h0
        · have := h 0 h0; rw [hall x 0 hx (by omega)] at this; cases this
      · rintro rfl j hj; omega
    have hnil : minT n es n = [] := by
      unfold minT
      rw [List.map_eq_nil_iff, List.filter_eq_nil_iff]
      intro x hx
      unfold minB
      rw [hcf x (List.mem_range.1 hx)]
      simp
    have hcl : closedB es (2 ^ n - 1) = true := by
      rw [closedB_iff]
      intro e he _
      obtain ⟨q1, q2, q3, q4⟩ := hg.ins e he
      rw [Nat.testBit_two_pow_sub_one]; simp; omega
    have hone : (reps n es n).filter (fun r => closedB es (compN n es r)) = [0] := by
      have hs : ((reps n es n).filter fun r => closedB es (compN n es r)).Pairwise (fun a b => a < b) := List.Pairwise.filter _ (List.Pairwise.filter _ List.pairwise_lt_range)
      cases hl : (reps n es n).filter (fun r => closedB es (compN n es r)) with
      | nil => have := (hmem 0).2 ⟨⟨by omega, (hrep 0 (by omega)).2 rfl⟩, by rw [hcf 0 (by omega)]; exact hcl⟩; rw [hl] at this; cases this
      | cons a l =>
        have hz : ∀ x ∈ a :: l, x = 0 := fun x hx => by
          rw [← hl] at hx
          obtain ⟨⟨h1, h2⟩, _⟩ := (hmem x).1 hx
          exact (hrep x h1).1 h2
        rw [hl] at hs
        cases l with
        | nil => rw [hz a List.mem_cons_self]
        | cons b l =>
          have h1 := (List.pairwise_cons.1 hs).1 b List.mem_cons_self
          rw [hz a List.mem_cons_self, hz b (List.mem_cons_of_mem _ List.mem_cons_self)] at h1
          omega
    rw [hnil]
    unfold minL sinkL
    rw [hone, if_pos]
    refine ⟨rfl, ?_⟩
    show (nodesL (compN n es 0) n).length = n
    rw [hlen, hcf 0 (by omega), card_full]
  · have hno : ∀ r, r < n → compN n es r ≠ 2 ^ n - 1 := fun r hr e => hex ⟨r, hr, e⟩
    have hsame : sinkL n es (reps n es n) = minT n es n := by
      unfold sinkL minT reps
      rw [List.filter_filter]
      have : (List.range n).filter (fun a => closedB es (compN n es a) && isRep n es a) = (List.range n).filter (minB n es) := by
        refine List.filter_congr fun x hx => ?_
        unfold minB
        rw [decide_eq_true (hno x (List.mem_range.1 hx)), Bool.and_true]
      rw [this]
      exact List.map_congr_left fun r _ => (h62 r).symm
    unfold minL
    rw [hsame]
    split
    · rename_i hc
      obtain ⟨h1, h2⟩ := hc
      exfalso
      cases hl : (List.range n).filter (minB n es) with
      | nil => unfold minT at h1; rw [hl] at h1; cases h1
      | cons r l =>
        have hr : r ∈ (List.range n).filter (minB n es) := by rw [hl]; exact List.mem_cons_self
        have hrn := List.mem_range.1 (List.mem_filter.1 hr).1
        unfold minT at h2
        rw [hl] at h2
        have h3 : (nodesL (compN n es r) 62).length = n := h2
        rw [h62, hlen] at h3
        exact hno r hrn (card_all compN_lt h3)
    · rfl
end Go.Ev

/- sameSets. -/
namespace Go.Ev
open Go Go.Proofs
set_option linter.unusedSimpArgs false
set_option linter.unusedVariables false
set_option maxRecDepth 100000
set_option maxHeartbeats 4000000
attribute [local irreducible] wpOps wpC wpD wpF wpLoop wpCall seqK blockK loopK retK T.put T.get T.setF

theorem f14_spec [Sorts Tryd.prog] (ls : List (List Int)) (av bv : Value) (s : HS) (ha : Lls s av ls) (hb : Lls s bv ls) (hl : ls.length < 1000000000) (hll : ∀ l ∈ ls, l.length < 1000000000) :
    wpF Tryd.prog s.nx 14 [av, bv] s (fun v s' => v = .bool true) := by
  obtain ⟨p1, c1, rfl⟩ := ha.shape
  obtain ⟨p2, c2, rfl⟩ := hb.shape
  refine wpF_of Tryd.func14 rfl rfl rfl rfl (Nat.le_refl _) ?_
  simp only [paramsA]
  have hne : ((ls.length : Int) != (ls.length : Int)) = false := by simp
  repeat (first
  | with_reducible first | refine st (by constructor) ?_ | apply c_region
  | (with_reducible apply k_block_on
     · decide)
  | ((with_reducible first | apply xOp | apply xDr | apply xIf); rfl; (simp only [Nat.reduceEqDiff, Nat.reduceAdd, ↓reduceIte, xBB, stG, undef, opA, val, opdA, opdO, plainN, omap, binA, intBinA, loadV, readA, storeV, writeA, fieldAddrA, indexAddrA, lenA, builtinA, newA, unA, packA, Value.cells, un30, hne]; rfl); first | rfl | exact ⟨rfl, rfl, rfl⟩))
  refine loop_k (lk' := s.nx) (s0 := s) (fun m f t => t = s ∧ ∃ k : Nat, k + m = ls.length ∧ f.get 5 = some (.int .i64 k)) ls.length (Nat.le_refl _) (Nat.le_refl _) ?_ (Ab.refl _ _) ?_
  · exact ⟨rfl, 0, by omega, by simp only [Nat.reduceEqDiff, T.get_put, ↓reduceIte]; rfl⟩
  · rintro m f t ⟨rfl, k, hk, h5⟩ hA hF
    (have k0 := hF 0 (by rfl); simp only [Nat.reduceEqDiff, T.get_put, ↓reduceIte] at k0; have k1 := hF 1 (by rfl); simp only [Nat.reduceEqDiff, T.get_put, ↓reduceIte] at k1)
    by_cases hlt : (k : Int) < (ls.length : Int)
    · have hlt' : k < ls.length := by omega
      have hw : IntKind.i64.wrap ((k : Int) + 1) = ((k + 1 : Nat) : Int) := by rw [IntWalk.i64_in _ (by omega)]; rfl
      have hb0 : (0 : Int) ≤ (k : Int) ∧ (k : Int) < (ls.length : Int) := by omega
      obtain ⟨id, off, wr, e, cs, rb, rc, rfl, g1, g2, g3, g4⟩ := ha.at (List.getElem?_eq_getElem hlt')
      obtain ⟨id2, off2, wr2, e2, cs2, rb2, rc2, rfl, b1, b2, b3, b4⟩ := hb.at (List.getElem?_eq_getElem hlt')
      repeat (first
  | with_reducible first | refine st (by constructor) ?_ | apply c_region
  | (with_reducible apply k_block_on
     · decide)
  | ((with_reducible first | apply xOp | apply xDr | apply xIf); rfl; (simp only [Nat.reduceEqDiff, Nat.reduceAdd, ↓reduceIte, xBB, stG, undef, opA, val, opdA, opdO, plainN, omap, binA, intBinA, loadV, readA, storeV, writeA, fieldAddrA, indexAddrA, lenA, builtinA, newA, unA, packA, Value.cells, h5, k0, un30, hlt]; rfl); first | rfl | exact ⟨rfl, rfl, rfl⟩))
      refine c_draw [⟨false, [], none⟩, ⟨false, [], none⟩, ⟨false, [], none⟩, ⟨false, [], none⟩, ⟨false, [], none⟩, ⟨false, [], none⟩, ⟨false, [], none⟩, ⟨false, [3], none⟩, ⟨true, [], none⟩, ⟨true, [], none⟩] (by kernel_rfl) ?_
      repeat (first
  | with_reducible first | refine st (by constructor) ?_ | apply c_region
  | (with_reducible apply k_block_on
     · decide)
  | ((with_reducible first | apply xOp | apply xDr | apply xIf); rfl; (simp only [Nat.reduceEqDiff, Nat.reduceAdd, ↓reduceIte, xBB, stG, undef, opA, val, opdA, opdO, plainN, omap, binA, intBinA, loadV, readA, storeV, writeA, fieldAddrA, indexAddrA, lenA, builtinA, newA, unA, packA, Value.cells, h5, k0, k1, un30, sz35, ty35, hb0, g1, g3, b1, b3]; rfl); first | rfl | exact ⟨rfl, rfl, rfl⟩))
      ((with_reducible first | apply xCa | apply xCd); rfl; (simp only [Nat.reduceEqDiff, Nat.reduceAdd, ↓reduceIte, xBB, stB, opdA, opdO, plainN, omap, val, Value.cells]; exact ⟨rfl, rfl⟩); try rfl)
      apply call_fn
      refine (f15_spec ls[k] ls[k] _ _ t g4 b4 (hll _ (List.getElem_mem hlt'))).use (by first | exact Nat.le_refl _ | (simp only [cond_true, cond_false]; omega) | omega | (dsimp only; omega)) (by first | exact Nat.le_refl _ | (simp only [cond_true, cond_false]; omega) | omega | (dsimp only; omega)) fun v t1 hv _ => ?_
      obtain ⟨rfl, rfl⟩ := hv
      rw [decide_eq_true (rfl : ls[k] = ls[k])]
      refine opt_of rfl ?_
      repeat (first
  | with_reducible first | refine st (by constructor) ?_ | apply c_region
  | (with_reducible apply k_block_on
     · decide)
  | ((with_reducible first | apply xOp | apply xDr | apply xIf); rfl; (simp only [Nat.reduceEqDiff, Nat.reduceAdd, ↓reduceIte, xBB, stG, undef, opA, val, opdA, opdO, plainN, omap, binA, intBinA, loadV, readA, storeV, writeA, fieldAddrA, indexAddrA, lenA, builtinA, newA, unA, packA, Value.cells, Bool.not_true, h5, hw]; rfl); first | rfl | exact ⟨rfl, rfl, rfl⟩))
      intro _ _
      exact k_loop_next (m' := m - 1) (by omega) ⟨rfl, k + 1, by omega, by simp only [Nat.reduceEqDiff, T.get_put, ↓reduceIte]⟩
    · repeat (first
  | with_reducible first | refine st (by constructor) ?_ | apply c_region
  | (with_reducible apply k_block_on
     · decide)
  | ((with_reducible first | apply xOp | apply xDr | apply xIf); rfl; (simp only [Nat.reduceEqDiff, Nat.reduceAdd, ↓reduceIte, xBB, stG, undef, opA, val, opdA, opdO, plainN, omap, binA, intBinA, loadV, readA, storeV, writeA, fieldAddrA, indexAddrA, lenA, builtinA, newA, unA, packA, Value.cells, h5, k0, un30, hlt]; rfl); first | rfl | exact ⟨rfl, rfl, rfl⟩))
      intro _ _
      repeat (first
  | with_reducible first | refine st (by constructor) ?_ | apply c_region
  | (with_reducible apply k_block_on
     · decide)
  | ((with_reducible first | apply xOp | apply xDr | apply xIf); rfl; (simp only [Nat.reduceEqDiff, Nat.reduceAdd, ↓reduceIte, xBB, stG, undef, opA, val, opdA, opdO, plainN, omap, binA, intBinA, loadV, readA, storeV, writeA, fieldAddrA, indexAddrA, lenA, builtinA, newA, unA, packA, Value.cells]; rfl); first | rfl | exact ⟨rfl, rfl, rfl⟩))
      intro _
      ((with_reducible first | apply ret_i | apply ret_n); (simp only [Nat.reduceEqDiff, Nat.reduceAdd, ↓reduceIte, xBB, resA, opdA, opdO, plainN, omap, val, loadV, readA, packA]; rfl))
      rfl
end Go.Ev

/- The law RemovableHeld. -/
namespace Go.Ev
open Go Go.Proofs
set_option linter.unusedSimpArgs false
set_option linter.unusedVariables false
set_option maxRecDepth 100000
set_option maxHeartbeats 4000000
attribute [local irreducible] wpOps wpC wpD wpF wpLoop wpCall seqK blockK loopK retK T.put T.get T.setF

theorem tmodN (a b : Nat) : (a : Int).tmod (b : Int) = ((a % b : Nat) : Int) := by
  rw [Int.tmod_eq_emod_of_nonneg (by omega)]; rfl

theorem f6_spec [Sorts Tryd.prog] (nb mst wth : Nat) (bs : List Nat) (bv : Value) (s : HS) (hgl : Glob s) (hs : Sl s 1 bv (bs.map encU)) (hbs : ∀ b ∈ bs, b < 256) (hnb : nb < 256) (hmst : mst < 256) (hwth : wth < 256) :
    wpF Tryd.prog s.nx 6 [.agg #[.int .u8 nb, bv], .int .u8 mst, .int .u8 wth] s (fun v s' => v = .bool true) := by
  obtain ⟨b, c, rfl⟩ := hs.shape
  refine wpF_of Tryd.func6 rfl rfl rfl rfl (Nat.le_refl _) ?_
  simp only [paramsA]
  repeat (first
  | with_reducible first | refine st (by constructor) ?_ | apply c_region
  | (with_reducible apply k_block_on
     · decide)
  | ((with_reducible first | apply xOp | apply xDr | apply xIf); rfl; (simp only [Nat.reduceEqDiff, Nat.reduceAdd, ↓reduceIte, xBB, stG, undef, opA, val, opdA, opdO, plainN, omap, binA, intBinA, loadV, readA, storeV, writeA, fieldAddrA, indexAddrA, lenA, builtinA, newA, unA, packA, Value.cells]; rfl); first | rfl | exact ⟨rfl, rfl, rfl⟩))
  have hA0 := Ab.new (lk := s.nx) s (.cells true 24 [.int .u8 nb, .slice b (bs.map encU).length c])
  ((with_reducible first | apply xCa | apply xCd); rfl; (simp only [Nat.reduceEqDiff, Nat.reduceAdd, ↓reduceIte, xBB, stB, opdA, opdO, plainN, omap, val, Value.cells]; exact ⟨rfl, rfl⟩); try rfl)
  apply call_fn
  refine wpF_closed (known_closed (hgl.keep hA0)) ?_
  refine opt_of rfl ?_
  repeat (first
  | with_reducible first | refine st (by constructor) ?_ | apply c_region
  | (with_reducible apply k_block_on
     · decide)
  | ((with_reducible first | apply xOp | apply xDr | apply xIf); rfl; (simp only [Nat.reduceEqDiff, Nat.reduceAdd, ↓reduceIte, xBB, stG, undef, opA, val, opdA, opdO, plainN, omap, binA, intBinA, loadV, readA, storeV, writeA, fieldAddrA, indexAddrA, lenA, builtinA, newA, unA, packA, Value.cells, Bool.not_true, ty24, cutL]; rfl); first | rfl | exact ⟨rfl, rfl, rfl⟩))
  ((with_reducible first | apply xCa | apply xCd); rfl; (simp only [Nat.reduceEqDiff, Nat.reduceAdd, ↓reduceIte, xBB, stB, opdA, opdO, plainN, omap, val, Value.cells]; exact ⟨rfl, rfl⟩); try rfl)
  apply call_fn
  refine (f10_spec nb bs _ _ (hs.keep hA0) hbs hnb).use (by first | exact Nat.le_refl _ | (simp only [cond_true, cond_false]; omega) | omega | (dsimp only; omega)) (by first | exact Nat.le_refl _ | (simp only [cond_true, cond_false]; omega) | omega | (dsimp only; omega)) fun v s1 hv hA1 => ?_
  obtain ⟨o, ev, rfl, hown, hnew⟩ := hv
  have hk8 : nb % 8 < 8 := Nat.mod_lt _ (by decide)
  generalize hk : nb % 8 = n at *
  have hc0 := netE_good bs hk8
  have hg := good_of hc0
  generalize hes : netE n bs = es at *
  have hA2 := hA0.trans (hA1.lower (Nat.le_succ _) (Nat.le_refl _))
  obtain ⟨eb, ec, rfl⟩ := hown.shape
  have hle1 : s.nx ≤ s1.nx := hA2.nx
  have hout : ([Value.int .i64 (n : Int), .slice eb (es.map encE).length ec] : List Value).all Value.oneCell' = true := rfl
  refine opt_of rfl ?_
  unfold vG
  repeat (first
  | with_reducible first | refine st (by constructor) ?_ | apply c_region
  | (with_reducible apply k_block_on
     · decide)
  | ((with_reducible first | apply xOp | apply xDr | apply xIf); rfl; (simp only [Nat.reduceEqDiff, Nat.reduceAdd, ↓reduceIte, xBB, stG, undef, opA, val, opdA, opdO, plainN, omap, binA, intBinA, loadV, readA, storeV, writeA, fieldAddrA, indexAddrA, lenA, builtinA, newA, unA, packA, Value.cells, zr28, sz28, ty28, hle1, hout, List.toList_toArray]; rfl); first | rfl | exact ⟨rfl, rfl, rfl⟩))
  dsimp only
  generalize hs2 : ({ hp := (s1.hp.put s1.nx (some (.cells true 28 [.int .i64 0, .slice none 0 0]))).put s1.nx (some (.cells true 28 (putL [.int .i64 0, .slice none 0 0] 0 [.int .i64 (n : Int), .slice eb (es.map encE).length ec]))), nx := s1.nx + 1 } : HS) = s2
  have hn2 : s2.nx = s1.nx + 1 := by rw [← hs2]
  have h2lo : ∀ id, id < s1.nx → s2.hp.get id = s1.hp.get id := fun id h => by rw [← hs2]; dsimp only; rw [T.get_put_ne _ _ _ (by omega), T.get_put_ne _ _ _ (by omega)]
  have h2b : s2.hp.get s1.nx = some (.cells true 28 [.int .i64 (n : Int), .slice eb (es.map encE).length ec]) := by rw [← hs2]; exact T.get_put_eq _ _ _
  have hsE : Sl s2 2 (.slice eb (es.map encE).length ec) (es.map encE) := hown.sl.same (by omega) h2lo
  have hgl2 : Glob s2 := by
    have h1 : Glob s1 := hgl.keep hA2
    exact ⟨by have := h1.1; omega, by rw [h2lo 0 h1.1]; exact h1.2⟩
  have hc2 : cutL [Value.int .i64 (n : Int), .slice eb (es.map encE).length ec] 0 2 = some [Value.int .i64 n, .slice eb (es.map encE).length ec] := rfl
  have hc3 : cutL [Value.int .i64 (n : Int), .slice eb (es.map encE).length ec] 0 1 = some [Value.int .i64 n] := rfl
  have hk1 : mst % 8 < 8 := Nat.mod_lt _ (by decide)
  have hx1 : wth % (n + 1) < n + 1 := Nat.mod_lt _ (by omega)
  have e1 : (mst : Int).tmod 8 = ((mst % 8 : Nat) : Int) := tmodN mst 8
  have e2 : IntKind.i64.wrap ((mst % 8 : Nat) : Int) = ((mst % 8 : Nat) : Int) := IntWalk.i64_in _ (by omega)
  have e3 : IntKind.i64.wrap (wth : Int) = (wth : Int) := IntWalk.i64_in _ (by omega)
  have e4 : IntKind.i64.wrap ((n : Int) + 1) = ((n + 1 : Nat) : Int) := by rw [IntWalk.i64_in _ (by omega)]; rfl
  have e5 : (wth : Int).tmod ((n + 1 : Nat) : Int) = ((wth % (n + 1) : Nat) : Int) := tmodN wth (n + 1)
  have e6 : IntKind.i64.wrap (((wth % (n + 1) : Nat) : Int) - 1) = ((wth % (n + 1) : Nat) : Int) - 1 := IntWalk.i64_in _ (by omega)
  have e7 : ¬ (8 : Int) = 0 := by decide
  have e8 : ¬ ((n + 1 : Nat) : Int) = 0 := by omega
  have e9 : IntKind.i64.wrap ((n : Int) - 1) = (n : Int) - 1 := IntWalk.i64_in _ (by omega)
  have hx0 : ((wth % (n + 1) : Nat) : Int) - 1 < (n : Int) ∧ -1 ≤ ((wth % (n + 1) : Nat) : Int) - 1 := by omega
  generalize hmo : mst % 8 = k at *
  repeat (first
  | with_reducible first | refine st (by constructor) ?_ | apply c_region
  | (with_reducible apply k_block_on
     · decide)
  | ((with_reducible first | apply xOp | apply xDr | apply xIf); rfl; (simp only [Nat.reduceEqDiff, Nat.reduceAdd, ↓reduceIte, xBB, stG, undef, opA, val, opdA, opdO, plainN, omap, binA, intBinA, loadV, readA, storeV, writeA, fieldAddrA, indexAddrA, lenA, builtinA, newA, unA, packA, Value.cells]; rfl); first | rfl | exact ⟨rfl, rfl, rfl⟩))
  refine c_draw [⟨false, [], none⟩, ⟨false, [], none⟩, ⟨false, [], none⟩, ⟨false, [], none⟩, ⟨false, [], none⟩, ⟨true, [], none⟩, ⟨true, [], none⟩, ⟨true, [], none⟩, ⟨true, [], none⟩, ⟨true, [], none⟩, ⟨false, [], none⟩, ⟨true, [], none⟩] (by kernel_rfl) ?_
  repeat (first
  | with_reducible first | refine st (by constructor) ?_ | apply c_region
  | (with_reducible apply k_block_on
     · decide)
  | ((with_reducible first | apply xOp | apply xDr | apply xIf); rfl; (simp only [Nat.reduceEqDiff, Nat.reduceAdd, ↓reduceIte, xBB, stG, undef, opA, val, opdA, opdO, plainN, omap, binA, intBinA, loadV, readA, storeV, writeA, fieldAddrA, indexAddrA, lenA, builtinA, newA, unA, packA, Value.cells, e1, e2, e3, e4, e5, e6, e7, e8, convA, un5, un3, h2b, fd28_0, ty3, hc3, ty28, hc2, List.toList_toArray]; rfl); first | rfl | exact ⟨rfl, rfl, rfl⟩))
  generalize hx : ((wth % (n + 1) : Nat) : Int) - 1 = x at *
  ((with_reducible first | apply xCa | apply xCd); rfl; (simp only [Nat.reduceEqDiff, Nat.reduceAdd, ↓reduceIte, xBB, stB, opdA, opdO, plainN, omap, val, Value.cells]; exact ⟨rfl, rfl⟩); try rfl)
  apply call_fn
  refine (f24_spec n es _ k x s2 hgl2 hsE).use (by first | exact Nat.le_refl _ | (simp only [cond_true, cond_false]; omega) | omega | (dsimp only; omega)) (Nat.le_refl _) fun v s3 hv hA3 => ?_
  have hR : restR n es k x = 0 := by
    unfold restR
    rw [if_neg (by simpa using hc0), if_neg (by omega)]
  rw [hR, decide_eq_true (show (0 : Int) = 0 from rfl), Bool.true_and] at hv
  subst hv
  have hn3 := hA3.nx
  have h3b := (hA3.get (Nat.le_refl _) (by omega)).trans h2b
  have hsE3 := hsE.keep hA3
  obtain ⟨l1, l2⟩ := held_law hg (by omega) (most := (k : Int)) (wo := x) (by omega)
  generalize hheld : (!(leastL (2 ^ n - 1) (k : Int) x (HNs n es)).2) = held at *
  refine opt_of rfl ?_
  repeat (first
  | with_reducible first | refine st (by constructor) ?_
  | (with_reducible apply k_block_on
     · decide)
  | ((with_reducible first | apply xOp | apply xDr | apply xIf); rfl; (simp only [Nat.reduceEqDiff, Nat.reduceAdd, ↓reduceIte, xBB, stG, undef, opA, val, opdA, opdO, plainN, omap, binA, intBinA, loadV, readA, storeV, writeA, fieldAddrA, indexAddrA, lenA, builtinA, newA, unA, packA, Value.cells, List.getElem?_cons_zero, List.getElem?_cons_succ, List.toList_toArray]; rfl); first | rfl | exact ⟨rfl, rfl, rfl⟩))
  refine c_region ?_
  repeat (first
  | with_reducible first | refine st (by constructor) ?_
  | (with_reducible apply k_block_on
     · decide)
  | ((with_reducible first | apply xOp | apply xDr | apply xIf); rfl; (simp only [Nat.reduceEqDiff, Nat.reduceAdd, ↓reduceIte, xBB, stG, undef, opA, val, opdA, opdO, plainN, omap, binA, intBinA, loadV, readA, storeV, writeA, fieldAddrA, indexAddrA, lenA, builtinA, newA, unA, packA, Value.cells, h3b, fd28_0, ty3, hc3, e9]; rfl); first | rfl | exact ⟨rfl, rfl, rfl⟩))
  refine c_mid (fun g f t => g = .normal ∧ t = s3 ∧ f.get 12 = some (.int .i64 (limI n k))) ?_ ?_
  · unfold limI
    by_cases hkp : ((k : Nat) : Int) > 0
    · rw [if_pos hkp]
      repeat (first
  | with_reducible first | refine st (by constructor) ?_ | apply c_region
  | (with_reducible apply k_block_on
     · decide)
  | ((with_reducible first | apply xOp | apply xDr | apply xIf); rfl; (simp only [Nat.reduceEqDiff, Nat.reduceAdd, ↓reduceIte, xBB, stG, undef, opA, val, opdA, opdO, plainN, omap, binA, intBinA, loadV, readA, storeV, writeA, fieldAddrA, indexAddrA, lenA, builtinA, newA, unA, packA, Value.cells, hkp]; rfl); first | rfl | exact ⟨rfl, rfl, rfl⟩))
      refine ⟨rfl, rfl, ?_⟩
      simp only [Nat.reduceEqDiff, T.get_put, ↓reduceIte]
    · rw [if_neg hkp]
      repeat (first
  | with_reducible first | refine st (by constructor) ?_ | apply c_region
  | (with_reducible apply k_block_on
     · decide)
  | ((with_reducible first | apply xOp | apply xDr | apply xIf); rfl; (simp only [Nat.reduceEqDiff, Nat.reduceAdd, ↓reduceIte, xBB, stG, undef, opA, val, opdA, opdO, plainN, omap, binA, intBinA, loadV, readA, storeV, writeA, fieldAddrA, indexAddrA, lenA, builtinA, newA, unA, packA, Value.cells, hkp]; rfl); first | rfl | exact ⟨rfl, rfl, rfl⟩))
      exact ⟨rfl, rfl, by simp only [Nat.reduceEqDiff, T.get_put, ↓reduceIte]⟩
  · rintro g f t ⟨rfl, rfl, h12⟩ hF0
    (have q7 := hF0 7 (by rfl); simp only [Nat.reduceEqDiff, T.get_put, ↓reduceIte] at q7; have q8 := hF0 8 (by rfl); simp only [Nat.reduceEqDiff, T.get_put, ↓reduceIte] at q8; have q9 := hF0 9 (by rfl); simp only [Nat.reduceEqDiff, T.get_put, ↓reduceIte] at q9; have q10 := hF0 10 (by rfl); simp only [Nat.reduceEqDiff, T.get_put, ↓reduceIte] at q10; have q11 := hF0 11 (by rfl); simp only [Nat.reduceEqDiff, T.get_put, ↓reduceIte] at q11)
    repeat (first
  | with_reducible first | refine st (by constructor) ?_ | apply c_region
  | (with_reducible apply k_block_on
     · decide)
  | ((with_reducible first | apply xOp | apply xDr | apply xIf); rfl; (simp only [Nat.reduceEqDiff, Nat.reduceAdd, ↓reduceIte, xBB, stG, undef, opA, val, opdA, opdO, plainN, omap, binA, intBinA, loadV, readA, storeV, writeA, fieldAddrA, indexAddrA, lenA, builtinA, newA, unA, packA, Value.cells]; rfl); first | rfl | exact ⟨rfl, rfl, rfl⟩))
    refine loop_k (lk' := t.nx) (s0 := t) (fun m f t' => ∃ i : Nat, i + m = n ∧ f.get 14 = some (.int .i64 i) ∧ f.get 13 = some (.bool ((List.range i).all (goodI n es (limI n k) x)))) n (by omega) (Nat.le_refl _) ?_ (Ab.refl _ _) ?_
    · exact ⟨0, by omega, by simp only [Nat.reduceEqDiff, T.get_put, ↓reduceIte]; rfl, by simp only [Nat.reduceEqDiff, T.get_put, ↓reduceIte]; rfl⟩
    · rintro m f1 t1 ⟨i, hi, h14, h13⟩ hA4 hF1
      (have r7 := hF1 7 (by rfl); simp only [Nat.reduceEqDiff, T.get_put, ↓reduceIte, q7, q8, q9, q10, q11, h12] at r7; have r8 := hF1 8 (by rfl); simp only [Nat.reduceEqDiff, T.get_put, ↓reduceIte, q7, q8, q9, q10, q11, h12] at r8; have r9 := hF1 9 (by rfl); simp only [Nat.reduceEqDiff, T.get_put, ↓reduceIte, q7, q8, q9, q10, q11, h12] at r9; have r10 := hF1 10 (by rfl); simp only [Nat.reduceEqDiff, T.get_put, ↓reduceIte, q7, q8, q9, q10, q11, h12] at r10; have r11 := hF1 11 (by rfl); simp only [Nat.reduceEqDiff, T.get_put, ↓reduceIte, q7, q8, q9, q10, q11, h12] at r11; have r12 := hF1 12 (by rfl); simp only [Nat.reduceEqDiff, T.get_put, ↓reduceIte, q7, q8, q9, q10, q11, h12] at r12)
      have hn4 := hA4.nx
      have h4b := (hA4.get (Nat.le_refl _) (by omega)).trans h3b
      by_cases hlt : (i : Int) < (n : Int)
      · have hlt' : i < n := by omega
        have hw : IntKind.i64.wrap ((i : Int) + 1) = ((i + 1 : Nat) : Int) := by rw [IntWalk.i64_in _ (by omega)]; rfl
        have hshl := shl_i64 (k := i) (by omega)
        have hp62 : 2 ^ i < 2 ^ 62 := Nat.pow_lt_pow_right (by decide) (by omega)
        repeat (first
  | with_reducible first | refine st (by constructor) ?_ | apply c_region
  | (with_reducible apply k_block_on
     · decide)
  | ((with_reducible first | apply xOp | apply xDr | apply xIf); rfl; (simp only [Nat.reduceEqDiff, Nat.reduceAdd, ↓reduceIte, xBB, stG, undef, opA, val, opdA, opdO, plainN, omap, binA, intBinA, loadV, readA, storeV, writeA, fieldAddrA, indexAddrA, lenA, builtinA, newA, unA, packA, Value.cells, h14, r7, fd28_0, ty3, h4b, hc3, hlt]; rfl); first | rfl | exact ⟨rfl, rfl, rfl⟩))
        refine c_draw [⟨true, [], none⟩, ⟨false, [], none⟩, ⟨false, [], none⟩, ⟨true, [], none⟩, ⟨true, [], none⟩] (by kernel_rfl) ?_
        repeat (first
  | with_reducible first | refine st (by constructor) ?_ | apply c_region
  | (with_reducible apply k_block_on
     · decide)
  | ((with_reducible first | apply xOp | apply xDr | apply xIf); rfl; (simp only [Nat.reduceEqDiff, Nat.reduceAdd, ↓reduceIte, xBB, stG, undef, opA, val, opdA, opdO, plainN, omap, binA, intBinA, loadV, readA, storeV, writeA, fieldAddrA, indexAddrA, lenA, builtinA, newA, unA, packA, Value.cells, h14, r7, ty28, h4b, hc2, hshl, List.toList_toArray]; rfl); first | rfl | exact ⟨rfl, rfl, rfl⟩))
        ((with_reducible first | apply xCa | apply xCd); rfl; (simp only [Nat.reduceEqDiff, Nat.reduceAdd, ↓reduceIte, xBB, stB, opdA, opdO, plainN, omap, val, Value.cells]; exact ⟨rfl, rfl⟩); try rfl)
        apply call_fn
        refine (f22_spec n es _ (2 ^ i) t1 (hsE3.keep hA4) hg (by omega) hp62).use (by first | exact Nat.le_refl _ | (simp only [cond_true, cond_false]; omega) | omega | (dsimp only; omega)) (Nat.le_refl _) fun v t2 hv hA5 => ?_
        rw [Int.toNat_natCast] at hv
        change v = Value.int .i64 ((HN n es i : Nat) : Int) at hv
        subst hv
        have hn5 := hA5.nx
        have hH := HN_lt hg hlt'
        have hH62 : HN n es i < 2 ^ 62 := Nat.lt_of_lt_of_le hH (Nat.pow_le_pow_right (by decide) (by omega))
        have hH63 : HN n es i < 2 ^ 63 := Nat.lt_trans hH62 (by decide)
        have hall : (List.range (i + 1)).all (goodI n es (limI n k) x) = ((List.range i).all (goodI n es (limI n k) x) && goodI n es (limI n k) x i) := by
          rw [List.range_succ, List.all_append]; simp
        refine opt_of rfl ?_
        repeat (first
  | with_reducible first | refine st (by constructor) ?_
  | (with_reducible apply k_block_on
     · decide)
  | ((with_reducible first | apply xOp | apply xDr | apply xIf); rfl; (simp only [Nat.reduceEqDiff, Nat.reduceAdd, ↓reduceIte, xBB, stG, undef, opA, val, opdA, opdO, plainN, omap, binA, intBinA, loadV, readA, storeV, writeA, fieldAddrA, indexAddrA, lenA, builtinA, newA, unA, packA, Value.cells]; rfl); first | rfl | exact ⟨rfl, rfl, rfl⟩))
        refine c_regionK (fun f' t' => Ab t2.nx t2 t' ∧ f'.get 13 = some (.bool ((List.range (i + 1)).all (goodI n es (limI n k) x)))) ?_ ?_
        · rw [hall]
          cases hc13 : (List.range i).all (goodI n es (limI n k) x) with
          | false =>
            rw [hc13] at h13
            repeat (first
  | with_reducible first | refine st (by constructor) ?_ | apply c_region
  | (with_reducible apply k_block_on
     · decide)
  | ((with_reducible first | apply xOp | apply xDr | apply xIf); rfl; (simp only [Nat.reduceEqDiff, Nat.reduceAdd, ↓reduceIte, xBB, stG, undef, opA, val, opdA, opdO, plainN, omap, binA, intBinA, loadV, readA, storeV, writeA, fieldAddrA, indexAddrA, lenA, builtinA, newA, unA, packA, Value.cells, h13]; rfl); first | rfl | exact ⟨rfl, rfl, rfl⟩))
            exact ⟨Ab.refl _ _, by simp only [Nat.reduceEqDiff, T.get_put, ↓reduceIte]; rfl⟩
          | true =>
            rw [hc13] at h13
            rw [Bool.true_and]
            unfold goodI
            by_cases hix : ((i : Nat) : Int) = x
            · have ei : (((i : Nat) : Int) == x) = true := by simp [hix]
              rw [decide_eq_true hix]
              repeat (first
  | with_reducible first | refine st (by constructor) ?_ | apply c_region
  | (with_reducible apply k_block_on
     · decide)
  | ((with_reducible first | apply xOp | apply xDr | apply xIf); rfl; (simp only [Nat.reduceEqDiff, Nat.reduceAdd, ↓reduceIte, xBB, stG, undef, opA, val, opdA, opdO, plainN, omap, binA, intBinA, loadV, readA, storeV, writeA, fieldAddrA, indexAddrA, lenA, builtinA, newA, unA, packA, Value.cells, h13, h14, r9, ei]; rfl); first | rfl | exact ⟨rfl, rfl, rfl⟩))
              exact ⟨Ab.refl _ _, by simp only [Nat.reduceEqDiff, T.get_put, ↓reduceIte]; rfl⟩
            · have ei : (((i : Nat) : Int) == x) = false := by simp [hix]
              rw [decide_eq_false hix]
              repeat (first
  | with_reducible first | refine st (by constructor) ?_ | apply c_region
  | (with_reducible apply k_block_on
     · decide)
  | ((with_reducible first | apply xOp | apply xDr | apply xIf); rfl; (simp only [Nat.reduceEqDiff, Nat.reduceAdd, ↓reduceIte, xBB, stG, undef, opA, val, opdA, opdO, plainN, omap, binA, intBinA, loadV, readA, storeV, writeA, fieldAddrA, indexAddrA, lenA, builtinA, newA, unA, packA, Value.cells, h13, h14, r9, ei]; rfl); first | rfl | exact ⟨rfl, rfl, rfl⟩))
              ((with_reducible first | apply xCa | apply xCd); rfl; (simp only [Nat.reduceEqDiff, Nat.reduceAdd, ↓reduceIte, xBB, stB, opdA, opdO, plainN, omap, val, Value.cells]; exact ⟨rfl, rfl⟩); try rfl)
              apply call_fn
              refine (f18_spec (HN n es i) t2 hH62).use (by omega) (Nat.le_refl _) fun v t3 hv hA6 => ?_
              obtain ⟨o6, hown6, _⟩ := hv
              obtain ⟨vb, vc, rfl⟩ := hown6.shape
              have hlm : ((nodesL (HN n es i) 62).map encI).length = (nodesL (HN n es i) 62).length := List.length_map _
              refine opt_of rfl ?_
              by_cases hlen : ((nodesL (HN n es i) 62).length : Int) > limI n k
              · rw [decide_eq_true hlen]
                repeat (first
  | with_reducible first | refine st (by constructor) ?_ | apply c_region
  | (with_reducible apply k_block_on
     · decide)
  | ((with_reducible first | apply xOp | apply xDr | apply xIf); rfl; (simp only [Nat.reduceEqDiff, Nat.reduceAdd, ↓reduceIte, xBB, stG, undef, opA, val, opdA, opdO, plainN, omap, binA, intBinA, loadV, readA, storeV, writeA, fieldAddrA, indexAddrA, lenA, builtinA, newA, unA, packA, Value.cells, un35, hlm, r12, hlen]; rfl); first | rfl | exact ⟨rfl, rfl, rfl⟩))
                exact ⟨hA6, by simp only [Nat.reduceEqDiff, T.get_put, ↓reduceIte]; rfl⟩
              · rw [decide_eq_false hlen]
                by_cases h5 : x ≥ 0
                · obtain ⟨j, rfl⟩ : ∃ j : Nat, x = (j : Int) := ⟨x.toNat, by omega⟩
                  have hsh := shr_i64 (a := HN n es i) (k := j) hH63
                  have hand := and_one (a := HN n es i >>> j) (shr_lt hH63)
                  have hbit := bit_eq (HN n es i) j
                  rw [decide_eq_true h5]
                  repeat (first
  | with_reducible first | refine st (by constructor) ?_ | apply c_region
  | (with_reducible apply k_block_on
     · decide)
  | ((with_reducible first | apply xOp | apply xDr | apply xIf); rfl; (simp only [Nat.reduceEqDiff, Nat.reduceAdd, ↓reduceIte, xBB, stG, undef, opA, val, opdA, opdO, plainN, omap, binA, intBinA, loadV, readA, storeV, writeA, fieldAddrA, indexAddrA, lenA, builtinA, newA, unA, packA, Value.cells, un35, hlm, r12, r9, hlen, h5, hsh, hand, hbit]; rfl); first | rfl | exact ⟨rfl, rfl, rfl⟩))
                  exact ⟨hA6, by simp only [Nat.reduceEqDiff, T.get_put, ↓reduceIte]; rfl⟩
                · rw [decide_eq_false h5]
                  repeat (first
  | with_reducible first | refine st (by constructor) ?_ | apply c_region
  | (with_reducible apply k_block_on
     · decide)
  | ((with_reducible first | apply xOp | apply xDr | apply xIf); rfl; (simp only [Nat.reduceEqDiff, Nat.reduceAdd, ↓reduceIte, xBB, stG, undef, opA, val, opdA, opdO, plainN, omap, binA, intBinA, loadV, readA, storeV, writeA, fieldAddrA, indexAddrA, lenA, builtinA, newA, unA, packA, Value.cells, un35, hlm, r12, r9, hlen, h5]; rfl); first | rfl | exact ⟨rfl, rfl, rfl⟩))
                  exact ⟨hA6, by simp only [Nat.reduceEqDiff, T.get_put, ↓reduceIte]; rfl⟩
        · rintro f2 t3 ⟨hA6, p13⟩ hF2
          (have p14 := hF2 14 (by rfl); simp only [Nat.reduceEqDiff, T.get_put, ↓reduceIte, h14] at p14)
          repeat (first
  | with_reducible first | refine st (by constructor) ?_ | apply c_region
  | (with_reducible apply k_block_on
     · decide)
  | ((with_reducible first | apply xOp | apply xDr | apply xIf); rfl; (simp only [Nat.reduceEqDiff, Nat.reduceAdd, ↓reduceIte, xBB, stG, undef, opA, val, opdA, opdO, plainN, omap, binA, intBinA, loadV, readA, storeV, writeA, fieldAddrA, indexAddrA, lenA, builtinA, newA, unA, packA, Value.cells, p14, hw]; rfl); first | rfl | exact ⟨rfl, rfl, rfl⟩))
          intro _ _
          exact k_loop_next (m' := m - 1) (by omega) ⟨i + 1, by omega, by simp only [Nat.reduceEqDiff, T.get_put, ↓reduceIte], by simp only [Nat.reduceEqDiff, T.get_put, ↓reduceIte]; exact p13⟩
      · have hin : i = n := by omega
        rw [hin, ← l1] at h13
        have e10 : (held == held) = true := by simp
        repeat (first
  | with_reducible first | refine st (by constructor) ?_ | apply c_region
  | (with_reducible apply k_block_on
     · decide)
  | ((with_reducible first | apply xOp | apply xDr | apply xIf); rfl; (simp only [Nat.reduceEqDiff, Nat.reduceAdd, ↓reduceIte, xBB, stG, undef, opA, val, opdA, opdO, plainN, omap, binA, intBinA, loadV, readA, storeV, writeA, fieldAddrA, indexAddrA, lenA, builtinA, newA, unA, packA, Value.cells, h14, r7, fd28_0, ty3, h4b, hc3, hlt]; rfl); first | rfl | exact ⟨rfl, rfl, rfl⟩))
        intro _ _
        have g1 : ∀ a b : Bool, eqGuardA Tryd.prog 4 (.bool a) (.bool b) = true := fun _ _ => rfl
        have g2 : ∀ a b : Bool, eqA Tryd.prog 10000 4 (.bool a) (.bool b) = some (a == b) := fun a b => by
          unfold eqA
          rw [un4]
        cases held with
        | false =>
          repeat (first
  | with_reducible first | refine st (by constructor) ?_ | apply c_region
  | (with_reducible apply k_block_on
     · decide)
  | ((with_reducible first | apply xOp | apply xDr | apply xIf); rfl; (simp only [Nat.reduceEqDiff, Nat.reduceAdd, ↓reduceIte, xBB, stG, undef, opA, val, opdA, opdO, plainN, omap, binA, intBinA, loadV, readA, storeV, writeA, fieldAddrA, indexAddrA, lenA, builtinA, newA, unA, packA, Value.cells, h13, r10, r8, r9, r7, e10, g1, g2, ty28, h4b, hc2, List.toList_toArray]; rfl); first | rfl | exact ⟨rfl, rfl, rfl⟩))
          ((with_reducible first | apply xCa | apply xCd); rfl; (simp only [Nat.reduceEqDiff, Nat.reduceAdd, ↓reduceIte, xBB, stB, opdA, opdO, plainN, omap, val, Value.cells]; exact ⟨rfl, rfl⟩); try rfl)
          apply call_fn
          refine (f11_spec n es _ k x t1 (hsE3.keep hA4) hg (by omega)).use (by first | exact Nat.le_refl _ | (simp only [cond_true, cond_false]; omega) | omega | (dsimp only; omega)) (Nat.le_refl _) fun v t2 hv hA5 => ?_
          obtain ⟨vb, vc, rfl⟩ := hv.shape
          have hne : candU es k x (2 ^ n - 2) ≠ [] := fun h => by rw [decide_eq_true h] at l2; cases l2
          have e11 : ((((candU es k x (2 ^ n - 2)).length : Nat) : Int) == 0) = false := by simpa using hne
          refine opt_of rfl ?_
          repeat (first
  | with_reducible first | refine st (by constructor) ?_ | apply c_region
  | (with_reducible apply k_block_on
     · decide)
  | ((with_reducible first | apply xOp | apply xDr | apply xIf); rfl; (simp only [Nat.reduceEqDiff, Nat.reduceAdd, ↓reduceIte, xBB, stG, undef, opA, val, opdA, opdO, plainN, omap, binA, intBinA, loadV, readA, storeV, writeA, fieldAddrA, indexAddrA, lenA, builtinA, newA, unA, packA, Value.cells, un30, e11, r10, g1, g2, e10, r11, beq_self_eq_true]; rfl); first | rfl | exact ⟨rfl, rfl, rfl⟩))
          intro _
          ((with_reducible first | apply ret_i | apply ret_n); (simp only [Nat.reduceEqDiff, Nat.reduceAdd, ↓reduceIte, xBB, resA, opdA, opdO, plainN, omap, val, loadV, readA, packA]; rfl))
          rfl
        | true =>
          repeat (first
  | with_reducible first | refine st (by constructor) ?_ | apply c_region
  | (with_reducible apply k_block_on
     · decide)
  | ((with_reducible first | apply xOp | apply xDr | apply xIf); rfl; (simp only [Nat.reduceEqDiff, Nat.reduceAdd, ↓reduceIte, xBB, stG, undef, opA, val, opdA, opdO, plainN, omap, binA, intBinA, loadV, readA, storeV, writeA, fieldAddrA, indexAddrA, lenA, builtinA, newA, unA, packA, Value.cells, h13, r10, r8, r9, r7, e10, g1, g2, ty28, h4b, hc2, List.toList_toArray]; rfl); first | rfl | exact ⟨rfl, rfl, rfl⟩))
          ((with_reducible first | apply xCa | apply xCd); rfl; (simp only [Nat.reduceEqDiff, Nat.reduceAdd, ↓reduceIte, xBB, stB, opdA, opdO, plainN, omap, val, Value.cells]; exact ⟨rfl, rfl⟩); try rfl)
          apply call_fn
          refine (f11_spec n es _ k x t1 (hsE3.keep hA4) hg (by omega)).use (by first | exact Nat.le_refl _ | (simp only [cond_true, cond_false]; omega) | omega | (dsimp only; omega)) (Nat.le_refl _) fun v t2 hv hA5 => ?_
          obtain ⟨vb, vc, rfl⟩ := hv.shape
          have hne : candU es k x (2 ^ n - 2) = [] := Classical.byContradiction fun h => by rw [decide_eq_false h] at l2; cases l2
          have e11 : ((((candU es k x (2 ^ n - 2)).length : Nat) : Int) == 0) = true := by rw [hne]; rfl
          refine opt_of rfl ?_
          repeat (first
  | with_reducible first | refine st (by constructor) ?_ | apply c_region
  | (with_reducible apply k_block_on
     · decide)
  | ((with_reducible first | apply xOp | apply xDr | apply xIf); rfl; (simp only [Nat.reduceEqDiff, Nat.reduceAdd, ↓reduceIte, xBB, stG, undef, opA, val, opdA, opdO, plainN, omap, binA, intBinA, loadV, readA, storeV, writeA, fieldAddrA, indexAddrA, lenA, builtinA, newA, unA, packA, Value.cells, un30, e11, r10, g1, g2, e10, r11, beq_self_eq_true]; rfl); first | rfl | exact ⟨rfl, rfl, rfl⟩))
          intro _
          ((with_reducible first | apply ret_i | apply ret_n); (simp only [Nat.reduceEqDiff, Nat.reduceAdd, ↓reduceIte, xBB, resA, opdA, opdO, plainN, omap, val, loadV, readA, packA]; rfl))
          rfl
end Go.Ev
