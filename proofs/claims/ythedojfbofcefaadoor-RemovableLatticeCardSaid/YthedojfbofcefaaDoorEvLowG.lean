import Derived.Test.YthedojfbofcefaaDoorEvG43
import Derived.Test.YthedojfbofcefaaDoorEvG18
import Derived.Test.YthedojfbofcefaaDoorEvG40
import Derived.Test.YthedojfbofcefaaDoorEvRf
import Derived.Test.YthedojfbofcefaaDoorEvG1
/- graph.Sinks. -/
namespace Go.Ev
open Go Go.Proofs
set_option linter.unusedSimpArgs false
set_option linter.unusedVariables false
set_option maxRecDepth 100000
set_option maxHeartbeats 4000000
attribute [local irreducible] wpOps wpC wpD wpF wpLoop wpCall seqK blockK loopK retK T.put T.get T.setF

theorem rep_at {n : Nat} {es : List (Int × Int)} {r : Nat} (h1 : r < n) (h2 : isRep n es r = true) : (reps n es n)[(reps n es r).length]? = some r := by
  have hp : reps n es (r + 1) <+: reps n es n := by
    unfold reps
    refine List.IsPrefix.filter _ ?_
    have h3 : List.range ((r + 1) + (n - (r + 1))) = _ := List.range_add
    rw [show (r + 1) + (n - (r + 1)) = n by omega] at h3
    rw [h3]
    exact List.prefix_append _ _
  obtain ⟨q, hq⟩ := hp
  rw [← hq, reps_succ, h2]
  simp
theorem rep_len {n : Nat} {es : List (Int × Int)} {k r : Nat} (h : (reps n es n)[k]? = some r) : r < n ∧ isRep n es r = true ∧ (reps n es r).length = k := by
  obtain ⟨h1, h2⟩ := mem_reps.1 (List.mem_of_getElem? h)
  refine ⟨h1, h2, ?_⟩
  have h3 := rep_at h1 h2
  have hnd : (reps n es n).Nodup := by unfold reps; exact List.Pairwise.filter _ List.nodup_range
  obtain ⟨a, b⟩ := List.getElem?_eq_some_iff.1 h
  obtain ⟨a', b'⟩ := List.getElem?_eq_some_iff.1 h3
  rcases Nat.lt_trichotomy (reps n es r).length k with h4 | h4 | h4
  · exact absurd (b'.trans b.symm) (List.pairwise_iff_getElem.1 hnd _ _ a' a h4)
  · exact h4
  · exact absurd (b.trans b'.symm) (List.pairwise_iff_getElem.1 hnd _ _ a a' h4)

/-- An edge out of the k-th component. -/
theorem link_out {n : Nat} {es : List (Int × Int)} (hg : GoodG n es) {k r : Nat} (h : (reps n es n)[k]? = some r) {cs : List (Int × Int)} (hcs : ∀ c, c ∈ cs ↔ LinkC n es es c) : cs.any (fun e => e.1 == (k : Int)) = !closedB es (compN n es r) := by
  obtain ⟨h1, h2, h3⟩ := rep_len h
  have hbit : ∀ x, (compN n es r).testBit x = true ↔ x < n ∧ mutB n es r x = true := fun x => by rw [compN_bit]; simp
  cases hc : closedB es (compN n es r) with
  | true =>
    rw [Bool.not_true, List.any_eq_false]
    intro c hc'
    obtain ⟨e, he, ⟨r1, a1, a2, a3, a4⟩, h5, h6⟩ := (hcs c).1 hc'
    obtain ⟨q1, q2, q3, q4⟩ := hg.ins e he
    simp only [beq_iff_eq]
    intro hk
    have : r1 = r := by
      have := rep_at a1 a2
      rw [show (reps n es r1).length = k by omega, h] at this
      exact (Option.some.inj this).symm
    subst this
    have h7 := closedB_iff.1 hc e he ((hbit _).2 ⟨by omega, a3⟩)
    have h8 := (hbit _).1 h7
    exact h6 (a4.trans (of_uniq hg (by omega) ⟨r1, a1, a2, h8.2, rfl⟩ h5))
  | false =>
    rw [Bool.not_false, List.any_eq_true]
    have : ∃ e ∈ es, (compN n es r).testBit e.1.toNat = true ∧ (compN n es r).testBit e.2.toNat = false := by
      unfold closedB at hc
      rw [List.all_eq_false] at hc
      obtain ⟨e, he, h4⟩ := hc
      refine ⟨e, he, ?_⟩
      cases h5 : (compN n es r).testBit e.1.toNat <;> cases h6 : (compN n es r).testBit e.2.toNat <;> simp [h5, h6] at h4
      exact ⟨rfl, rfl⟩
    obtain ⟨e, he, h4, h5⟩ := this
    obtain ⟨q1, q2, q3, q4⟩ := hg.ins e he
    obtain ⟨r', g1, g2, g3⟩ := rep_ex hg (x := e.2.toNat) (by omega)
    refine ⟨((k : Int), ((reps n es r').length : Int)), (hcs _).2 ⟨e, he, ⟨r, h1, h2, ((hbit _).1 h4).2, by rw [h3]⟩, ⟨r', by omega, g2, g3, rfl⟩, ?_⟩, by simp⟩
    dsimp only
    intro hk
    have h6 := rep_at (by omega) g2 (es := es) (n := n)
    rw [show (reps n es r').length = k by omega, h] at h6
    cases h6
    rw [(hbit _).2 ⟨by omega, g3⟩] at h5; cases h5

/-- The closed components of some. -/
def sinkL (n : Nat) (es : List (Int × Int)) (l : List Nat) : List (List Int) := (l.filter fun r => closedB es (compN n es r)).map fun r => nodesL (compN n es r) n
theorem sinkL_succ {n : Nat} {es : List (Int × Int)} {k r : Nat} (h : (reps n es n)[k]? = some r) : sinkL n es ((reps n es n).take (k + 1)) = sinkL n es ((reps n es n).take k) ++ (if closedB es (compN n es r) then [nodesL (compN n es r) n] else []) := by
  obtain ⟨a, b⟩ := List.getElem?_eq_some_iff.1 h
  unfold sinkL
  rw [List.take_succ_eq_append_getElem a, b, List.filter_append, List.map_append]
  cases hcb : closedB es (compN n es r) with
  | true => rw [List.filter_cons_of_pos (p := fun r => closedB es (compN n es r)) hcb]; rfl
  | false => rw [List.filter_cons_of_neg (p := fun r => closedB es (compN n es r)) (by simp [hcb])]; rfl
theorem sinkL_len {n : Nat} {es : List (Int × Int)} (l : List Nat) : (sinkL n es l).length ≤ l.length := by unfold sinkL; rw [List.length_map]; exact List.length_filter_le _ _

theorem f35_spec (n : Nat) (es : List (Int × Int)) (ev : Value) (s : HS) (hgl : Glob s) (hs : Sl s 2 ev (es.map encE)) :
    wpF Tryd.prog s.nx 35 [vG n ev] s (fun v s' => (checkR n es ≠ 0 ∧ v = .tuple #[.slice none 0 0, .int .i64 (checkR n es)]) ∨ (checkR n es = 0 ∧ ∃ lv : Value, v = .tuple #[lv, .int .i64 0] ∧ LlsN s s' lv (sinkL n es (reps n es n)))) := by
  refine wpF_of Tryd.func35 rfl rfl rfl rfl (Nat.le_refl _) ?_
  simp only [paramsA, vG]
  have hc2 : cutL [Value.int .i64 (n : Int), ev] 0 2 = some [.int .i64 n, ev] := rfl
  repeat (first
  | with_reducible first | refine st (by constructor) ?_ | apply c_region
  | (with_reducible apply k_block_on
     · decide)
  | ((with_reducible first | apply xOp | apply xDr | apply xIf); rfl; (simp only [Nat.reduceEqDiff, Nat.reduceAdd, ↓reduceIte, xBB, stG, undef, opA, val, opdA, opdO, plainN, omap, binA, intBinA, loadV, readA, storeV, writeA, fieldAddrA, indexAddrA, lenA, builtinA, newA, unA, packA, Value.cells, sz28, ty28, hc2, List.toList_toArray]; rfl); first | rfl | exact ⟨rfl, rfl, rfl⟩))
  have hA0 := Ab.new (lk := s.nx) s (.cells true 28 [.int .i64 n, ev])
  ((with_reducible first | apply xCa | apply xCd); rfl; (simp only [Nat.reduceEqDiff, Nat.reduceAdd, ↓reduceIte, xBB, stB, opdA, opdO, plainN, omap, val, Value.cells]; exact ⟨rfl, rfl⟩); try rfl)
  apply call_fn
  refine (f36_spec n es ev _ (hs.keep hA0)).use (by first | exact Nat.le_refl _ | (simp only [cond_true, cond_false]; omega) | omega | (dsimp only; omega)) (by first | exact Nat.le_refl _ | (simp only [cond_true, cond_false]; omega) | omega | (dsimp only; omega)) fun v s1 hv hA1 => ?_
  subst hv
  have hn1 := hA1.nx
  dsimp only at hn1
  have hb0 := hA1.get (Nat.le_refl _) (Nat.lt_succ_self s.nx)
  rw [T.get_put_eq] at hb0
  have hA01 := hA0.trans (hA1.lower (Nat.le_succ _) (Nat.le_refl _))
  refine opt_of rfl ?_
  by_cases hc : checkR n es = 0
  · have e0 : (checkR n es != 0) = false := by simp [hc]
    have hg := good_of hc
    have hn64 : n ≤ 64 := by have := hg.hi; omega
    have hs1 := hs.keep hA01
    have hgl1 : Glob s1 := hgl.keep hA01
    repeat (first
  | with_reducible first | refine st (by constructor) ?_ | apply c_region
  | (with_reducible apply k_block_on
     · decide)
  | ((with_reducible first | apply xOp | apply xDr | apply xIf); rfl; (simp only [Nat.reduceEqDiff, Nat.reduceAdd, ↓reduceIte, xBB, stG, undef, opA, val, opdA, opdO, plainN, omap, binA, intBinA, loadV, readA, storeV, writeA, fieldAddrA, indexAddrA, lenA, builtinA, newA, unA, packA, Value.cells, e0, hb0, ty28, hc2, List.toList_toArray]; rfl); first | rfl | exact ⟨rfl, rfl, rfl⟩))
    ((with_reducible first | apply xCa | apply xCd); rfl; (simp only [Nat.reduceEqDiff, Nat.reduceAdd, ↓reduceIte, xBB, stB, opdA, opdO, plainN, omap, val, Value.cells]; exact ⟨rfl, rfl⟩); try rfl)
    apply call_fn
    refine (f50_spec n es ev s1 hs1 hg).use (by first | exact Nat.le_refl _ | (simp only [cond_true, cond_false]; omega) | omega | (dsimp only; omega)) (by omega) fun v s2 hv hA2 => ?_
    obtain ⟨ov, fv, L, rfl, hlls, hfs, hOK⟩ := hv
    have hn2 := hA2.nx
    have hb2 := (hA2.get (Nat.le_refl _) (by omega)).trans hb0
    have hs2 := hs1.keep hA2
    have hgl2 := hgl1.keep hA2
    obtain ⟨ob, oc, rfl⟩ := hlls.shape
    have hcl := compsL_len n es n
    have hrl := reps_len (n := n) (es := es) n
    refine opt_of rfl ?_
    repeat (first
  | with_reducible first | refine st (by constructor) ?_ | apply c_region
  | (with_reducible apply k_block_on
     · decide)
  | ((with_reducible first | apply xOp | apply xDr | apply xIf); rfl; (simp only [Nat.reduceEqDiff, Nat.reduceAdd, ↓reduceIte, xBB, stG, undef, opA, val, opdA, opdO, plainN, omap, binA, intBinA, loadV, readA, storeV, writeA, fieldAddrA, indexAddrA, lenA, builtinA, newA, unA, packA, Value.cells, hb2, ty28, hc2, List.toList_toArray, List.getElem?_cons_zero, List.getElem?_cons_succ]; rfl); first | rfl | exact ⟨rfl, rfl, rfl⟩))
    ((with_reducible first | apply xCa | apply xCd); rfl; (simp only [Nat.reduceEqDiff, Nat.reduceAdd, ↓reduceIte, xBB, stB, opdA, opdO, plainN, omap, val, Value.cells]; exact ⟨rfl, rfl⟩); try rfl)
    apply call_fn
    refine (f51_spec n es ev s2 hgl2 hs2 hg).use (by first | exact Nat.le_refl _ | (simp only [cond_true, cond_false]; omega) | omega | (dsimp only; omega)) (by omega) fun v s3 hv hA3 => ?_
    obtain ⟨m, ev', fv', cs, rfl, hcs, hcl', hmem⟩ := hv
    have hn3 := hA3.nx
    have hlls3 := hlls.keep hA3
    obtain ⟨eb, ec, rfl⟩ := hcs.shape
    have hone : ∀ (a : Int) (b : Option Addr) (x y : Nat), ([Value.int .i64 a, .slice b x y] : List Value).all Value.oneCell' = true := fun _ _ _ _ => rfl
    have hput : ∀ (a : Int) (b : Option Addr) (x y : Nat), putL [Value.int .i64 0, .slice none 0 0] 0 [.int .i64 a, .slice b x y] = [.int .i64 a, .slice b x y] := fun _ _ _ _ => rfl
    have hl3 : s.nx ≤ s3.nx := by omega
    refine opt_of rfl ?_
    unfold vG
    repeat (first
  | with_reducible first | refine st (by constructor) ?_ | apply c_region
  | (with_reducible apply k_block_on
     · decide)
  | ((with_reducible first | apply xOp | apply xDr | apply xIf); rfl; (simp only [Nat.reduceEqDiff, Nat.reduceAdd, ↓reduceIte, xBB, stG, undef, opA, val, opdA, opdO, plainN, omap, binA, intBinA, loadV, readA, storeV, writeA, fieldAddrA, indexAddrA, lenA, builtinA, newA, unA, packA, Value.cells, zr28, sz28, hl3, hone, hput, List.toList_toArray, List.getElem?_cons_zero, List.getElem?_cons_succ, un30]; rfl); first | rfl | exact ⟨rfl, rfl, rfl⟩))
    generalize hst0 : ({ hp := (s3.hp.put s3.nx (some (.cells true 28 [.int .i64 0, .slice none 0 0]))).put s3.nx (some (.cells true 28 [.int .i64 m, .slice eb (cs.map encE).length ec])), nx := s3.nx + 1 } : HS) = w
    have hwn : w.nx = s3.nx + 1 := by rw [← hst0]
    have hwo : ∀ id, id < s3.nx → w.hp.get id = s3.hp.get id := fun id h => by rw [← hst0]; dsimp only; rw [T.get_put_ne _ _ _ (by omega), T.get_put_ne _ _ _ (by omega)]
    have hwb : w.hp.get s3.nx = some (.cells true 28 [.int .i64 m, .slice eb (cs.map encE).length ec]) := by rw [← hst0]; exact T.get_put_eq _ _ _
    clear hst0
    have hllsw : LlsN s1 w _ _ := hlls3.off (by omega) fun id _ h => hwo id h
    have hcsw : Sl w 2 _ _ := hcs.same (by omega) hwo
    have hd1 : cutL [Value.int .i64 m, .slice eb (cs.map encE).length ec] 1 1 = some [.slice eb (cs.map encE).length ec] := rfl
    refine loop_k (lk' := w.nx) (s0 := w) (fun mm f t => ∃ k : Nat, k + mm = (compsL n es n).length ∧ f.get 28 = some (.int .i64 k) ∧ ∃ (o : Option Nat) (v : Value), f.get 9 = some v ∧ Bld t (fun id => id < s.nx) o v (sinkL n es ((reps n es n).take k)) ∧ newer w o) (compsL n es n).length (by omega) (Nat.le_refl _) ?_ (Ab.refl _ _) ?_
    · exact ⟨0, by omega, by simp only [Nat.reduceEqDiff, T.get_put, ↓reduceIte]; rfl, none, .slice none 0 0, by simp only [Nat.reduceEqDiff, T.get_put, ↓reduceIte], Bld.nil, fun _ h => (by cases h)⟩
    · rintro mm f t ⟨k, hk, h28, o, v, h9, hB, hnew⟩ hA hF
      (have k1 := hF 1 (by rfl); simp only [Nat.reduceEqDiff, T.get_put, ↓reduceIte] at k1; have k2 := hF 2 (by rfl); simp only [Nat.reduceEqDiff, T.get_put, ↓reduceIte] at k2; have k3 := hF 3 (by rfl); simp only [Nat.reduceEqDiff, T.get_put, ↓reduceIte] at k3; have k5 := hF 5 (by rfl); simp only [Nat.reduceEqDiff, T.get_put, ↓reduceIte] at k5; have k7 := hF 7 (by rfl); simp only [Nat.reduceEqDiff, T.get_put, ↓reduceIte] at k7; have k27 := hF 27 (by rfl); simp only [Nat.reduceEqDiff, T.get_put, ↓reduceIte] at k27)
      have hnt := hA.nx
      by_cases hlt : (k : Int) < ((compsL n es n).length : Int)
      · have hlt' : k < (reps n es n).length := by omega
        obtain ⟨r, hr⟩ : ∃ r, (reps n es n)[k]? = some r := ⟨_, List.getElem?_eq_getElem hlt'⟩
        have hw : IntKind.i64.wrap ((k : Int) + 1) = ((k + 1 : Nat) : Int) := by rw [IntWalk.i64_in _ (by omega)]; rfl
        have hci : (compsL n es n)[k]? = some (nodesL (compN n es r) n) := by unfold compsL; rw [List.getElem?_map, hr]; rfl
        have hlo : w.nx ≤ t.nx := by omega
        have o1 : ([Value.int .i64 (k : Int)] : List Value).all Value.oneCell' = true := rfl
        have p1 : putL [Value.int .i64 0] 0 [.int .i64 (k : Int)] = [.int .i64 k] := rfl
        have htw := (hA.get (Nat.le_refl _) (show s3.nx < w.nx by omega)).trans hwb
        have hne1 : ¬ s3.nx = t.nx := by omega
        have hlo2 : s.nx ≤ t.nx := by omega
        repeat (first
  | with_reducible first | refine st (by constructor) ?_ | apply c_region
  | (with_reducible apply k_block_on
     · decide)
  | ((with_reducible first | apply xOp | apply xDr | apply xIf); rfl; (simp only [Nat.reduceEqDiff, Nat.reduceAdd, ↓reduceIte, xBB, stG, undef, opA, val, opdA, opdO, plainN, omap, binA, intBinA, loadV, readA, storeV, writeA, fieldAddrA, indexAddrA, lenA, builtinA, newA, unA, packA, Value.cells, h28, k27, hlt, zr3, sz3, hlo, o1, p1, List.toList_toArray]; rfl); first | rfl | exact ⟨rfl, rfl, rfl⟩))
        dsimp only
        generalize hst1 : ({ hp := (t.hp.put t.nx (some (.cells true 3 [.int .i64 0]))).put t.nx (some (.cells true 3 [.int .i64 k])), nx := t.nx + 1 } : HS) = t1
        have h1n : t1.nx = t.nx + 1 := by rw [← hst1]
        have h1o : ∀ id, id < t.nx → t1.hp.get id = t.hp.get id := fun id h => by rw [← hst1]; dsimp only; rw [T.get_put_ne _ _ _ (by omega), T.get_put_ne _ _ _ (by omega)]
        have h1b : t1.hp.get t.nx = some (.cells true 3 [.int .i64 k]) := by rw [← hst1]; exact T.get_put_eq _ _ _
        clear hst1
        have htw1 := (h1o s3.nx (by omega)).trans htw
        repeat (first
  | with_reducible first | refine st (by constructor) ?_ | apply c_region
  | (with_reducible apply k_block_on
     · decide)
  | ((with_reducible first | apply xOp | apply xDr | apply xIf); rfl; (simp only [Nat.reduceEqDiff, Nat.reduceAdd, ↓reduceIte, xBB, stG, undef, opA, val, opdA, opdO, plainN, omap, binA, intBinA, loadV, readA, storeV, writeA, fieldAddrA, indexAddrA, lenA, builtinA, newA, unA, packA, Value.cells, k7, fd28_1, ty26, htw1, hd1]; rfl); first | rfl | exact ⟨rfl, rfl, rfl⟩))
        ((with_reducible first | apply xCa | apply xCd); rfl; (simp only [Nat.reduceEqDiff, Nat.reduceAdd, ↓reduceIte, xBB, stB, opdA, opdO, plainN, omap, val, Value.cells]; exact ⟨rfl, rfl⟩); try rfl)
        apply call_fn
        refine (f52_spec cs (fun e => e.1 == (k : Int)) _ _ t1 ((hcsw.keep hA).same (by omega) h1o) (by omega) ⟨53, _, rfl, fun e u hu => ?_⟩).use (by first | exact Nat.le_refl _ | (simp only [cond_true, cond_false]; omega) | omega | (dsimp only; omega)) (by omega) fun v u hv hAu => ?_
        · exact f53_spec e t.nx true 3 k u ((hu.get (Nat.le_refl _) (by omega)).trans h1b) (by have := hu.nx; omega)
        · subst hv
          rw [link_out hg hr hmem]
          have hun := hAu.nx
          have hub := (hAu.get (Nat.le_refl _) (show t.nx < t1.nx by omega)).trans h1b
          have hB1 : Bld u (fun id => id < s.nx) o v _ := hB.same (by omega) (fun id h _ => (hAu.get (Nat.le_refl _) (by omega)).trans (h1o id h)) fun id h => Or.inl h
          have hsucc := sinkL_succ hr
          refine opt_of rfl ?_
          cases hcb : closedB es (compN n es r) with
          | false =>
            rw [hcb] at hsucc
            repeat (first
  | with_reducible first | refine st (by constructor) ?_ | apply c_region
  | (with_reducible apply k_block_on
     · decide)
  | ((with_reducible first | apply xOp | apply xDr | apply xIf); rfl; (simp only [Nat.reduceEqDiff, Nat.reduceAdd, ↓reduceIte, xBB, stG, undef, opA, val, opdA, opdO, plainN, omap, binA, intBinA, loadV, readA, storeV, writeA, fieldAddrA, indexAddrA, lenA, builtinA, newA, unA, packA, Value.cells, h28, hw, Bool.not_false, Bool.not_true]; rfl); first | rfl | exact ⟨rfl, rfl, rfl⟩))
            intro _ _
            refine k_loop_next (m' := mm - 1) (by omega) ⟨k + 1, by omega, by simp only [Nat.reduceEqDiff, T.get_put, ↓reduceIte], o, v, by simp only [Nat.reduceEqDiff, T.get_put, ↓reduceIte]; exact h9, ?_, hnew⟩
            rw [hsucc]; simpa using hB1
          | true =>
            rw [hcb, if_pos rfl] at hsucc
            obtain ⟨id, off, wr, e, cc, rb, rc, rfl, g1, g2, g3, g4⟩ := hllsw.at hci
            have hwu : ∀ id, id < w.nx → u.hp.get id = w.hp.get id := fun id h => (hAu.get (Nat.le_refl _) (by omega)).trans ((h1o id (by omega)).trans (hA.get (Nat.le_refl _) h))
            rw [← hwu id g2] at g1
            have hbk : (0 : Int) ≤ (k : Int) ∧ (k : Int) < ((compsL n es n).length : Int) := ⟨by omega, hlt⟩
            have hc1 : ∀ x : Value, cutL [x] 0 1 = some [x] := fun _ => rfl
            have hkl := sinkL_len (n := n) (es := es) ((reps n es n).take k)
            have hkl2 : ((reps n es n).take k).length ≤ k := by rw [List.length_take]; omega
            repeat (first
  | with_reducible first | refine st (by constructor) ?_ | apply c_region
  | (with_reducible apply k_block_on
     · decide)
  | ((with_reducible first | apply xOp | apply xDr | apply xIf); rfl; (simp only [Nat.reduceEqDiff, Nat.reduceAdd, ↓reduceIte, xBB, stG, undef, opA, val, opdA, opdO, plainN, omap, binA, intBinA, loadV, readA, storeV, writeA, fieldAddrA, indexAddrA, lenA, builtinA, newA, unA, packA, Value.cells, Bool.not_false, Bool.not_true, h28, hw, h9, k5, hub, ty3, hc1, un30, sz35, hbk, g1, g3, ty35, List.toList_toArray, buildSliceA, el30, zr35, zerosL, fillA]; rfl); first | rfl | exact ⟨rfl, rfl, rfl⟩))
            ((with_reducible first | apply ops_opt | apply xPd); (first | rfl | exact ⟨rfl, rfl⟩); (simp only [Nat.reduceEqDiff, Nat.reduceAdd, ↓reduceIte, xBB, opA, val, opdA, opdO, plainN, omap, binA, intBinA, loadV, readA, storeV, writeA, fieldAddrA, indexAddrA, lenA, builtinA, newA, unA, packA, Value.cells, un30, un35]; rfl))
            generalize hst2 : ({ hp := u.hp.put u.nx (some (.cells true 35 (putL ([.slice none 0 0] ++ []) (0 * 1) [.slice rb ((nodesL (compN n es r) n).map encI).length rc]))), nx := u.nx + 1 } : HS) = x
            have hxn : x.nx = u.nx + 1 := by rw [← hst2]
            have hxo : ∀ id, id < u.nx → x.hp.get id = u.hp.get id := fun id h => by rw [← hst2]; exact T.get_put_ne _ _ _ (by omega)
            have hxy : x.hp.get u.nx = some (.cells true 35 [.slice rb ((nodesL (compN n es r) n).map encI).length rc]) := by rw [← hst2]; exact T.get_put_eq _ _ _
            clear hst2
            have hB4 : Bld x (fun id => id < s.nx) o _ _ := hB1.same (by omega) (fun id h _ => hxo id h) fun id h => Or.inl h
            refine opt_ex (app_bld (lk := w.nx) (l := nodesL (compN n es r) n) hB4 (fun id h => hnew id h) hxy ?_ (by omega) (by omega)) fun qq hq => ?_
            · refine g4.same (by omega) (fun id h _ => (hxo id (by omega)).trans (hwu id h)) fun id h => ?_
              rcases h with h | h
              · exact Or.inr (hnew id h)
              · exact Or.inl (by omega)
            obtain ⟨qv, s5⟩ := qq
            obtain ⟨v1, v2, o', v3, v4⟩ := hq
            dsimp only at v1 v2 v3
            refine opt_of rfl ?_
            repeat (first
  | with_reducible first | refine st (by constructor) ?_ | apply c_region
  | (with_reducible apply k_block_on
     · decide)
  | ((with_reducible first | apply xOp | apply xDr | apply xIf); rfl; (simp only [Nat.reduceEqDiff, Nat.reduceAdd, ↓reduceIte, xBB, stG, undef, opA, val, opdA, opdO, plainN, omap, binA, intBinA, loadV, readA, storeV, writeA, fieldAddrA, indexAddrA, lenA, builtinA, newA, unA, packA, Value.cells, h28, hw]; rfl); first | rfl | exact ⟨rfl, rfl, rfl⟩))
            intro _ _
            refine k_loop_next (m' := mm - 1) (by omega) ⟨k + 1, by omega, by simp only [Nat.reduceEqDiff, T.get_put, ↓reduceIte], o', qv, by simp only [Nat.reduceEqDiff, T.get_put, ↓reduceIte], ?_, fun id h => ?_⟩
            · rw [hsucc]; exact v3
            · rcases v4 with rfl | rfl
              · exact hnew id h
              · cases h; omega
      · have hkn : k = (reps n es n).length := by omega
        rw [hkn, List.take_length] at hB
        repeat (first
  | with_reducible first | refine st (by constructor) ?_ | apply c_region
  | (with_reducible apply k_block_on
     · decide)
  | ((with_reducible first | apply xOp | apply xDr | apply xIf); rfl; (simp only [Nat.reduceEqDiff, Nat.reduceAdd, ↓reduceIte, xBB, stG, undef, opA, val, opdA, opdO, plainN, omap, binA, intBinA, loadV, readA, storeV, writeA, fieldAddrA, indexAddrA, lenA, builtinA, newA, unA, packA, Value.cells, h28, k27, hlt]; rfl); first | rfl | exact ⟨rfl, rfl, rfl⟩))
        intro _ _
        repeat (first
  | with_reducible first | refine st (by constructor) ?_ | apply c_region
  | (with_reducible apply k_block_on
     · decide)
  | ((with_reducible first | apply xOp | apply xDr | apply xIf); rfl; (simp only [Nat.reduceEqDiff, Nat.reduceAdd, ↓reduceIte, xBB, stG, undef, opA, val, opdA, opdO, plainN, omap, binA, intBinA, loadV, readA, storeV, writeA, fieldAddrA, indexAddrA, lenA, builtinA, newA, unA, packA, Value.cells, h9]; rfl); first | rfl | exact ⟨rfl, rfl, rfl⟩))
        intro _
        ((with_reducible first | apply ret_i | apply ret_n); (simp only [Nat.reduceEqDiff, Nat.reduceAdd, ↓reduceIte, xBB, resA, opdA, opdO, plainN, omap, val, loadV, readA, packA]; rfl))
        exact Or.inr ⟨hc, v, rfl, o, hB⟩
  · have e0 : (checkR n es != 0) = true := by simp [hc]
    repeat (first
  | with_reducible first | refine st (by constructor) ?_ | apply c_region
  | (with_reducible apply k_block_on
     · decide)
  | ((with_reducible first | apply xOp | apply xDr | apply xIf); rfl; (simp only [Nat.reduceEqDiff, Nat.reduceAdd, ↓reduceIte, xBB, stG, undef, opA, val, opdA, opdO, plainN, omap, binA, intBinA, loadV, readA, storeV, writeA, fieldAddrA, indexAddrA, lenA, builtinA, newA, unA, packA, Value.cells, e0]; rfl); first | rfl | exact ⟨rfl, rfl, rfl⟩))
    intro _
    ((with_reducible first | apply ret_i | apply ret_n); (simp only [Nat.reduceEqDiff, Nat.reduceAdd, ↓reduceIte, xBB, resA, opdA, opdO, plainN, omap, val, loadV, readA, packA]; rfl))
    exact Or.inl ⟨hc, rfl⟩
end Go.Ev

/- removable.Minimal. -/
namespace Go.Ev
open Go Go.Proofs
set_option linter.unusedSimpArgs false
set_option linter.unusedVariables false
set_option maxRecDepth 100000
set_option maxHeartbeats 4000000
attribute [local irreducible] wpOps wpC wpD wpF wpLoop wpCall seqK blockK loopK retK T.put T.get T.setF

/-- The minimal candidates as the code finds them. -/
def minL (n : Nat) (es : List (Int × Int)) : List (List Int) := if (sinkL n es (reps n es n)).length = 1 ∧ ((sinkL n es (reps n es n)).getD 0 []).length = n then [] else sinkL n es (reps n es n)

theorem f19_spec (n : Nat) (es : List (Int × Int)) (ev : Value) (s : HS) (hgl : Glob s) (hs : Sl s 2 ev (es.map encE)) :
    wpF Tryd.prog s.nx 19 [vG n ev] s (fun v s' => (checkR n es ≠ 0 ∧ v = .tuple #[.slice none 0 0, .int .i64 (checkR n es)]) ∨ (checkR n es = 0 ∧ ∃ lv : Value, v = .tuple #[lv, .int .i64 0] ∧ LlsN s s' lv (minL n es))) := by
  refine wpF_of Tryd.func19 rfl rfl rfl rfl (Nat.le_refl _) ?_
  simp only [paramsA, vG]
  have hc2 : cutL [Value.int .i64 (n : Int), ev] 0 2 = some [.int .i64 n, ev] := rfl
  have hc1 : cutL [Value.int .i64 (n : Int), ev] 0 1 = some [.int .i64 n] := rfl
  repeat (first
  | with_reducible first | refine st (by constructor) ?_ | apply c_region
  | (with_reducible apply k_block_on
     · decide)
  | ((with_reducible first | apply xOp | apply xDr | apply xIf); rfl; (simp only [Nat.reduceEqDiff, Nat.reduceAdd, ↓reduceIte, xBB, stG, undef, opA, val, opdA, opdO, plainN, omap, binA, intBinA, loadV, readA, storeV, writeA, fieldAddrA, indexAddrA, lenA, builtinA, newA, unA, packA, Value.cells, sz28, ty28, hc2, List.toList_toArray]; rfl); first | rfl | exact ⟨rfl, rfl, rfl⟩))
  have hA0 := Ab.new (lk := s.nx) s (.cells true 28 [.int .i64 n, ev])
  ((with_reducible first | apply xCa | apply xCd); rfl; (simp only [Nat.reduceEqDiff, Nat.reduceAdd, ↓reduceIte, xBB, stB, opdA, opdO, plainN, omap, val, Value.cells]; exact ⟨rfl, rfl⟩); try rfl)
  apply call_fn
  refine (f35_spec n es ev _ (hgl.keep hA0) (hs.keep hA0)).use (by first | exact Nat.le_refl _ | (simp only [cond_true, cond_false]; omega) | omega | (dsimp only; omega)) (by first | exact Nat.le_refl _ | (simp only [cond_true, cond_false]; omega) | omega | (dsimp only; omega)) fun v s1 hv hA1 => ?_
  have hn1 := hA1.nx
  dsimp only at hn1
  have hb0 := hA1.get (Nat.le_refl _) (Nat.lt_succ_self s.nx)
  rw [T.get_put_eq] at hb0
  rcases hv with ⟨hc, rfl⟩ | ⟨hc, lv, rfl, hl⟩
  · have e0 : (checkR n es != 0) = true := by simp [hc]
    refine opt_of rfl ?_
    repeat (first
  | with_reducible first | refine st (by constructor) ?_
  | (with_reducible apply k_block_on
     · decide)
  | ((with_reducible first | apply xOp | apply xDr | apply xIf); rfl; (simp only [Nat.reduceEqDiff, Nat.reduceAdd, ↓reduceIte, xBB, stG, undef, opA, val, opdA, opdO, plainN, omap, binA, intBinA, loadV, readA, storeV, writeA, fieldAddrA, indexAddrA, lenA, builtinA, newA, unA, packA, Value.cells, List.toList_toArray, List.getElem?_cons_zero, List.getElem?_cons_succ]; rfl); first | rfl | exact ⟨rfl, rfl, rfl⟩))
    refine c_draw [⟨true, [], none⟩, ⟨true, [], none⟩, ⟨true, [], none⟩, ⟨true, [], none⟩, ⟨true, [], none⟩, ⟨true, [], none⟩, ⟨true, [], none⟩, ⟨false, [], none⟩, ⟨false, [], none⟩, ⟨false, [], none⟩, ⟨false, [], none⟩, ⟨false, [], none⟩, ⟨false, [9, 10], none⟩, ⟨true, [], none⟩, ⟨true, [], none⟩, ⟨true, [], none⟩] (by kernel_rfl) ?_
    repeat (first
  | with_reducible first | refine st (by constructor) ?_ | apply c_region
  | (with_reducible apply k_block_on
     · decide)
  | ((with_reducible first | apply xOp | apply xDr | apply xIf); rfl; (simp only [Nat.reduceEqDiff, Nat.reduceAdd, ↓reduceIte, xBB, stG, undef, opA, val, opdA, opdO, plainN, omap, binA, intBinA, loadV, readA, storeV, writeA, fieldAddrA, indexAddrA, lenA, builtinA, newA, unA, packA, Value.cells, e0]; rfl); first | rfl | exact ⟨rfl, rfl, rfl⟩))
    intro _
    ((with_reducible first | apply ret_i | apply ret_n); (simp only [Nat.reduceEqDiff, Nat.reduceAdd, ↓reduceIte, xBB, resA, opdA, opdO, plainN, omap, val, loadV, readA, packA]; rfl))
    exact Or.inl ⟨hc, rfl⟩
  · obtain ⟨b, c, rfl⟩ := hl.shape
    refine opt_of rfl ?_
    repeat (first
  | with_reducible first | refine st (by constructor) ?_
  | (with_reducible apply k_block_on
     · decide)
  | ((with_reducible first | apply xOp | apply xDr | apply xIf); rfl; (simp only [Nat.reduceEqDiff, Nat.reduceAdd, ↓reduceIte, xBB, stG, undef, opA, val, opdA, opdO, plainN, omap, binA, intBinA, loadV, readA, storeV, writeA, fieldAddrA, indexAddrA, lenA, builtinA, newA, unA, packA, Value.cells, List.toList_toArray, List.getElem?_cons_zero, List.getElem?_cons_succ]; rfl); first | rfl | exact ⟨rfl, rfl, rfl⟩))
    refine c_draw [⟨true, [], none⟩, ⟨true, [], none⟩, ⟨true, [], none⟩, ⟨true, [], none⟩, ⟨true, [], none⟩, ⟨true, [], none⟩, ⟨true, [], none⟩, ⟨false, [], none⟩, ⟨false, [], none⟩, ⟨false, [], none⟩, ⟨false, [], none⟩, ⟨false, [], none⟩, ⟨false, [9, 10], none⟩, ⟨true, [], none⟩, ⟨true, [], none⟩, ⟨true, [], none⟩] (by kernel_rfl) ?_
    by_cases h1 : (sinkL n es (reps n es n)).length = 1
    · have e1 : (((sinkL n es (reps n es n)).length : Int) == 1) = true := by rw [h1]; rfl
      have h00 : (sinkL n es (reps n es n))[0]? = some ((sinkL n es (reps n es n)).getD 0 []) := by rw [List.getD_eq_getElem?_getD, List.getElem?_eq_getElem (by omega)]; rfl
      obtain ⟨id, off, wr, e, cs, rb, rc, rfl, g1, g2, g3, g4⟩ := hl.at h00
      have g3' : cutL cs (off + Int.toNat 0 * 1) 1 = some [Value.slice rb (((sinkL n es (reps n es n)).getD 0 []).map encI).length rc] := g3
      have hlm : (((sinkL n es (reps n es n)).getD 0 []).map encI).length = ((sinkL n es (reps n es n)).getD 0 []).length := List.length_map _
      have hb : (0 : Int) ≤ 0 ∧ (0 : Int) < ((sinkL n es (reps n es n)).length : Int) := by omega
      have hml : minL n es = if ((sinkL n es (reps n es n)).getD 0 []).length = n then [] else sinkL n es (reps n es n) := by unfold minL; simp [h1]
      by_cases h2 : ((sinkL n es (reps n es n)).getD 0 []).length = n
      · have e2 : ((((sinkL n es (reps n es n)).getD 0 []).length : Int) == (n : Int)) = true := by rw [h2]; simp
        rw [if_pos h2] at hml
        repeat (first
  | with_reducible first | refine st (by constructor) ?_ | apply c_region
  | (with_reducible apply k_block_on
     · decide)
  | ((with_reducible first | apply xOp | apply xDr | apply xIf); rfl; (simp only [Nat.reduceEqDiff, Nat.reduceAdd, ↓reduceIte, xBB, stG, undef, opA, val, opdA, opdO, plainN, omap, binA, intBinA, loadV, readA, storeV, writeA, fieldAddrA, indexAddrA, lenA, builtinA, newA, unA, packA, Value.cells, e1, e2, un30, un35, hb, g1, g3', sz35, ty35, hb0, fd28_0, ty3, hc1, hlm, List.toList_toArray]; rfl); first | rfl | exact ⟨rfl, rfl, rfl⟩))
        intro _
        ((with_reducible first | apply ret_i | apply ret_n); (simp only [Nat.reduceEqDiff, Nat.reduceAdd, ↓reduceIte, xBB, resA, opdA, opdO, plainN, omap, val, loadV, readA, packA]; rfl))
        exact Or.inr ⟨hc, _, rfl, by rw [hml]; exact ⟨none, Bld.nil⟩⟩
      · have e2 : ((((sinkL n es (reps n es n)).getD 0 []).length : Int) == (n : Int)) = false := by rw [beq_eq_false_iff_ne]; omega
        rw [if_neg h2] at hml
        repeat (first
  | with_reducible first | refine st (by constructor) ?_ | apply c_region
  | (with_reducible apply k_block_on
     · decide)
  | ((with_reducible first | apply xOp | apply xDr | apply xIf); rfl; (simp only [Nat.reduceEqDiff, Nat.reduceAdd, ↓reduceIte, xBB, stG, undef, opA, val, opdA, opdO, plainN, omap, binA, intBinA, loadV, readA, storeV, writeA, fieldAddrA, indexAddrA, lenA, builtinA, newA, unA, packA, Value.cells, e1, e2, un30, un35, hb, g1, g3', sz35, ty35, hb0, fd28_0, ty3, hc1, hlm, List.toList_toArray]; rfl); first | rfl | exact ⟨rfl, rfl, rfl⟩))
        intro _
        ((with_reducible first | apply ret_i | apply ret_n); (simp only [Nat.reduceEqDiff, Nat.reduceAdd, ↓reduceIte, xBB, resA, opdA, opdO, plainN, omap, val, loadV, readA, packA]; rfl))
        exact Or.inr ⟨hc, _, rfl, by rw [hml]; exact hl.old (by show s.nx ≤ s.nx + 1; omega)⟩
    · have e1 : (((sinkL n es (reps n es n)).length : Int) == 1) = false := by simp; omega
      have hml : minL n es = sinkL n es (reps n es n) := by unfold minL; rw [if_neg fun h => h1 h.1]
      repeat (first
  | with_reducible first | refine st (by constructor) ?_ | apply c_region
  | (with_reducible apply k_block_on
     · decide)
  | ((with_reducible first | apply xOp | apply xDr | apply xIf); rfl; (simp only [Nat.reduceEqDiff, Nat.reduceAdd, ↓reduceIte, xBB, stG, undef, opA, val, opdA, opdO, plainN, omap, binA, intBinA, loadV, readA, storeV, writeA, fieldAddrA, indexAddrA, lenA, builtinA, newA, unA, packA, Value.cells, e1, un30]; rfl); first | rfl | exact ⟨rfl, rfl, rfl⟩))
      intro _
      ((with_reducible first | apply ret_i | apply ret_n); (simp only [Nat.reduceEqDiff, Nat.reduceAdd, ↓reduceIte, xBB, resA, opdA, opdO, plainN, omap, val, loadV, readA, packA]; rfl))
      exact Or.inr ⟨hc, _, rfl, by rw [hml]; exact hl.old (by show s.nx ≤ s.nx + 1; omega)⟩
end Go.Ev

/- Plain laws: the least candidate, their number, the minimal ones. -/
set_option linter.unusedSimpArgs false
set_option linter.unusedVariables false
namespace Go.Ev
open Go Go.Proofs Go.Sort

theorem cmpS_ord {a b : Nat} (ha : a < 1024) (hb : b < 1024) : cmpS a b = ordL (nodesL a 64) (nodesL b 64) := by
  unfold cmpS ordL
  rw [ones_eq ha, ones_eq hb, ← nodesL_card, ← nodesL_card]

/-- The least of those that are allowed. -/
theorem least_min {all : Nat} {most wo : Int} : ∀ {hs : List Nat}, (∀ h ∈ hs, h < 1024) → (leastL all most wo hs).2 = true → (leastL all most wo hs).1 ∈ hs ∧ allowB all most wo (leastL all most wo hs).1 = true ∧ ∀ h ∈ hs, allowB all most wo h = true → ¬ cmpS h (leastL all most wo hs).1 < 0 := by
  have key : ∀ (l : List Nat) (r : Nat × Bool) (pre : List Nat), (∀ h ∈ pre ++ l, h < 1024) →
      ((r.2 = true → r.1 ∈ pre ∧ allowB all most wo r.1 = true ∧ ∀ h ∈ pre, allowB all most wo h = true → ¬ cmpS h r.1 < 0) ∧ (r.2 = false → ∀ h ∈ pre, allowB all most wo h = false)) →
      ((l.foldl (leastStep all most wo) r).2 = true → (l.foldl (leastStep all most wo) r).1 ∈ pre ++ l ∧ allowB all most wo (l.foldl (leastStep all most wo) r).1 = true ∧ ∀ h ∈ pre ++ l, allowB all most wo h = true → ¬ cmpS h (l.foldl (leastStep all most wo) r).1 < 0) := by
    intro l
    induction l with
    | nil => intro r pre _ h hr; rw [List.append_nil]; exact h.1 hr
    | cons x l ih =>
      intro r pre hlt hinv
      rw [List.foldl_cons, show pre ++ x :: l = (pre ++ [x]) ++ l by simp]
      refine ih _ _ (by simpa using hlt) ?_
      obtain ⟨hi1, hi2⟩ := hinv
      have hx := hlt x (by simp)
      have hself : ¬ cmpS x x < 0 := by rw [cmpS_ord hx hx, ordL_O.self]; decide
      have hmem : ∀ h, h ∈ pre ++ [x] ↔ h ∈ pre ∨ h = x := fun h => by simp
      unfold leastStep
      cases ha : allowB all most wo x with
      | false =>
        rw [Bool.false_and, if_neg (by decide)]
        refine ⟨fun hr => ?_, fun hr h hh => ?_⟩
        · obtain ⟨a, b, c⟩ := hi1 hr
          refine ⟨(hmem _).2 (Or.inl a), b, fun h hh h1 => ?_⟩
          rcases (hmem _).1 hh with hh | rfl
          · exact c h hh h1
          · rw [ha] at h1; cases h1
        · rcases (hmem _).1 hh with hh | rfl
          · exact hi2 hr h hh
          · exact ha
      | true =>
        rw [Bool.true_and]
        cases hr : r.2 with
        | false =>
          rw [if_pos (by simp)]
          refine ⟨fun _ => ⟨(hmem _).2 (Or.inr rfl), ha, fun h hh h1 => ?_⟩, fun h => by cases h⟩
          rcases (hmem _).1 hh with hh | rfl
          · rw [hi2 hr h hh] at h1; cases h1
          · exact hself
        | true =>
          obtain ⟨a, b, c⟩ := hi1 hr
          have hr1 := hlt r.1 (List.mem_append_left _ a)
          by_cases hlt0 : cmpS x r.1 < 0
          · rw [if_pos (by simp [hlt0])]
            refine ⟨fun _ => ⟨(hmem _).2 (Or.inr rfl), ha, fun h hh h1 => ?_⟩, fun h => by cases h⟩
            rcases (hmem _).1 hh with hh | rfl
            · intro h2
              have h3 := hlt h (List.mem_append_left _ hh)
              refine c h hh h1 ?_
              rw [cmpS_ord h3 hx] at h2
              rw [cmpS_ord hx hr1] at hlt0
              rw [cmpS_ord h3 hr1]
              exact ordL_O.trans _ _ _ h2 hlt0
            · exact hself
          · rw [if_neg (by simp [hlt0])]
            refine ⟨fun _ => ⟨(hmem _).2 (Or.inl a), b, fun h hh h1 => ?_⟩, fun h => by rw [hr] at h; cases h⟩
            rcases (hmem _).1 hh with hh | rfl
            · exact c h hh h1
            · exact hlt0
  intro hs hlt hr
  have := key hs (0, false) [] (by simpa using hlt) ⟨fun h => (by cases h), fun _ h hh => (by cases hh)⟩ hr
  unfold leastL
  simpa using this

theorem nodes64' {n S : Nat} (hn : n ≤ 62) (hS : S < 2 ^ n) : nodesL S 64 = nodesL S 62 := by
  have h6 : S >>> n = 0 := by rw [Nat.shiftRight_eq_div_pow]; exact Nat.div_eq_of_lt hS
  rw [nodesL_high h6 64 (by omega), nodesL_high h6 62 (by omega)]

/-- Least is the first candidate. -/
theorem least_law {n : Nat} {es : List (Int × Int)} (hg : GoodG n es) {most wo : Int} (hn : n ≤ 10) (hm : 0 ≤ most) :
    ((leastL (2 ^ n - 1) most wo (HNs n es)).2 = true → (candU es most wo (2 ^ n - 2))[0]? = some (nodesL (leastL (2 ^ n - 1) most wo (HNs n es)).1 64)) ∧
    ((leastL (2 ^ n - 1) most wo (HNs n es)).2 = false → candU es most wo (2 ^ n - 2) = [] ∧ nodesL (leastL (2 ^ n - 1) most wo (HNs n es)).1 64 = []) := by
  have hpow := pow_small hn
  have hlt : ∀ h ∈ HNs n es, h < 1024 := fun h hh => by have := HNs_lt hg h hh; omega
  have hheld := (held_law hg hn (wo := wo) hm)
  have h2 := hheld.2
  refine ⟨fun hf => ?_, fun hf => ?_⟩
  · rw [hf] at h2
    have hne : candU es most wo (2 ^ n - 2) ≠ [] := fun e => by rw [decide_eq_true e] at h2; cases h2
    obtain ⟨m1, m2, m3⟩ := least_min hlt hf
    obtain ⟨i, hi, hx⟩ := List.mem_map.1 m1
    have hi' := List.mem_range.1 hi
    generalize (leastL (2 ^ n - 1) most wo (HNs n es)).1 = x at *
    subst hx
    have hcx : isC n es most wo (HN n es i) := (isC_iff hn hm).2 ⟨HN_ne hg hi', HN_lt hg hi', HN_closed hg hi', m2⟩
    have hsort := candU_sorted (es := es) (most := most) (wo := wo) (2 ^ n - 2) (by omega)
    have hin : ∀ S, isC n es most wo S → nodesL S 64 ∈ candU es most wo (2 ^ n - 2) := fun S hS => by
      obtain ⟨a, b⟩ := isC_lt hS
      exact (candU_mem _).2 ⟨S, a, b, (okC_iff (by omega) hm a b).2 hS, nodes64' (by omega) hS.2.1⟩
    cases hcl : candU es most wo (2 ^ n - 2) with
    | nil => exact absurd hcl hne
    | cons l0 ls =>
      rw [hcl] at hsort hin
      obtain ⟨p1, p2⟩ := List.pairwise_cons.1 hsort
      have hmin : ∀ l ∈ l0 :: ls, l ≠ l0 → Bef l0 l := fun l hl hne => by
        rcases List.mem_cons.1 hl with e | hl
        · exact absurd e hne
        · exact p1 l hl
      obtain ⟨S0, s1, s2, s3, s4⟩ := (candU_mem (l := l0) (2 ^ n - 2)).1 (by rw [hcl]; exact List.mem_cons_self)
      have hc0 := (okC_iff (by omega) hm s1 s2).1 s3
      rw [← nodes64' (by omega) hc0.2.1] at s4
      show some l0 = _
      congr 1
      rcases Classical.em (nodesL (HN n es i) 64 = l0) with e | e
      · exact e.symm
      · exfalso
        have hb := hmin _ (hin _ hcx) e
        obtain ⟨j, hj⟩ := ne_zero_bit hc0.1
        obtain ⟨hjn, hcj⟩ := isC_hull hg hc0 hj
        have hle := card_sub (n := n) (fun k hk => closedB_hull hg hc0.2.2.1 hjn hj hk : ∀ k, (HN n es j).testBit k = true → S0.testBit k = true)
        have hlen : ∀ S, S < 2 ^ n → (nodesL S 64).length = cardN S n := fun S hS => by rw [nodesL_card, cardN_high hS 64 (by omega)]
        have hS0 : nodesL (HN n es j) 64 = l0 := by
          rcases Classical.em (nodesL (HN n es j) 64 = l0) with e2 | e2
          · exact e2
          · exfalso
            have hb2 := hmin _ (hin _ hcj) e2
            have hne2 : HN n es j ≠ S0 := fun e3 => e2 (by rw [e3]; exact s4.symm)
            have hex : ∃ k, k < n ∧ S0.testBit k = true ∧ (HN n es j).testBit k = false := by
              apply Classical.byContradiction
              intro hno
              refine hne2 (Nat.eq_of_testBit_eq fun k => ?_)
              cases hb3 : S0.testBit k with
              | false =>
                cases hb4 : (HN n es j).testBit k with
                | false => rfl
                | true => have := closedB_hull hg hc0.2.2.1 hjn hj hb4; rw [hb3] at this; cases this
              | true =>
                cases hb4 : (HN n es j).testBit k with
                | true => rfl
                | false => exact absurd ⟨k, testBit_lt hc0.2.1 hb3, hb3, hb4⟩ hno
            have hlt2 := (cardN_mono (fun k hk => closedB_hull hg hc0.2.2.1 hjn hj hk : ∀ k, (HN n es j).testBit k = true → S0.testBit k = true) n).2 hex
            refine hb2.asymm (bef_len ?_)
            rw [s4, hlen _ hc0.2.1, hlen _ (HN_lt hg hjn)]
            exact hlt2
        have h5 := m3 (HN n es j) (List.mem_map.2 ⟨j, List.mem_range.2 hjn, rfl⟩) ((isC_iff hn hm).1 hcj).2.2.2
        rw [cmpS_ord (by have := HN_lt hg hjn; omega) (by have := HN_lt hg hi'; omega), hS0] at h5
        exact h5 hb
  · rw [hf] at h2
    refine ⟨by simpa using h2.symm, ?_⟩
    have key : ∀ (l : List Nat) (r : Nat × Bool), (l.foldl (leastStep (2 ^ n - 1) most wo) r).2 = false → (l.foldl (leastStep (2 ^ n - 1) most wo) r).1 = r.1 := by
      intro l
      induction l with
      | nil => intro r _; rfl
      | cons x l ih =>
        intro r h
        rw [List.foldl_cons] at h ⊢
        rw [ih _ h]
        have hmono : ∀ (l : List Nat) (r : Nat × Bool), r.2 = true → (l.foldl (leastStep (2 ^ n - 1) most wo) r).2 = true := by
          intro l
          induction l with
          | nil => intro r h; exact h
          | cons x l ih => intro r h; rw [List.foldl_cons]; refine ih _ ?_; unfold leastStep; split; rfl; exact h
        by_cases hc : (allowB (2 ^ n - 1) most wo x && (!r.2 || decide (cmpS x r.1 < 0))) = true
        · have he : leastStep (2 ^ n - 1) most wo r x = (x, true) := if_pos hc
          rw [he, hmono l (x, true) rfl] at h; cases h
        · rw [show leastStep (2 ^ n - 1) most wo r x = r from if_neg hc]
    have := key (HNs n es) (0, false) hf
    unfold leastL
    rw [this]
    exact nodesL_zero 64

/-! ### Their number -/
theorem candU_count (es : List (Int × Int)) (most wo : Int) : ∀ k, (candU es most wo k).length = ((List.range k).filter fun S => okC es most wo (S + 1)).length
  | 0 => rfl
  | k + 1 => by
    rw [List.range_succ, List.filter_append, List.length_append, ← candU_count es most wo k]
    rw [show candU es most wo (k + 1) = if okC es most wo (k + 1) then insB (nodesL (k + 1) 62) (candU es most wo k) else candU es most wo k from rfl]
    split
    · rename_i h; rw [insB_len, List.filter_cons_of_pos (p := fun S => okC es most wo (S + 1)) h]; rfl
    · rename_i h; rw [List.filter_cons_of_neg (p := fun S => okC es most wo (S + 1)) h]; rfl
theorem count_law {n : Nat} {es : List (Int × Int)} (hg : GoodG n es) (hn : n ≤ 9) {ys : List Nat} (hF : Found (HNs n es) (fun _ => true) ys) : ys.length ≤ 1023 ∧ ((∀ S, Gn (HNs n es) (fun _ => true) S → S = 0 ∨ S ∈ ys) → 1 + ys.length = if n = 0 then 1 else (candU es 0 (-1) (2 ^ n - 2)).length + 2) := by
  have hpow : 2 ^ n ≤ 512 := Nat.le_trans (Nat.pow_le_pow_right (by decide) hn) (by decide)
  have hp : 0 < 2 ^ n := Nat.pow_pos (by decide)
  have hb : ∀ y ∈ ys, y ≠ 0 ∧ y < 2 ^ n ∧ closedB es y = true := fun y hy => by
    obtain ⟨h1, h2, h3⟩ := hF.2 y hy
    exact ⟨h3, h1.lt (HNs_lt hg), h1.closed hg⟩
  have hle := most_len (B := 2 ^ n - 1) hF.1 fun y hy => by have := hb y hy; omega
  refine ⟨by omega, fun hall => ?_⟩
  by_cases h0 : n = 0
  · subst h0
    rw [if_pos rfl]; omega
  · rw [if_neg h0, candU_count]
    have hfull : closedB es (2 ^ n - 1) = true := by
      rw [closedB_iff]
      intro e he _
      obtain ⟨q1, q2, q3, q4⟩ := hg.ins e he
      rw [Nat.testBit_two_pow_sub_one]; simp; omega
    have h1n : 2 ≤ 2 ^ n := by
      have : 2 ^ 1 ≤ 2 ^ n := Nat.pow_le_pow_right (by decide) (by omega)
      omega
    have hmemZ : ∀ x, x ∈ (2 ^ n - 1) :: ((List.range (2 ^ n - 2)).filter fun S => okC es 0 (-1) (S + 1)).map (· + 1) ↔ x ≠ 0 ∧ x < 2 ^ n ∧ closedB es x = true := fun x => by
      rw [List.mem_cons, List.mem_map]
      have hok : ∀ S, okC es 0 (-1) S = closedB es S := fun S => by unfold okC; simp
      constructor
      · rintro (rfl | ⟨S, hS, rfl⟩)
        · exact ⟨by omega, by omega, hfull⟩
        · obtain ⟨h2, h3⟩ := List.mem_filter.1 hS
          have := List.mem_range.1 h2
          rw [hok] at h3
          exact ⟨by omega, by omega, h3⟩
      · rintro ⟨h2, h3, h4⟩
        by_cases h5 : x = 2 ^ n - 1
        · exact Or.inl h5
        · exact Or.inr ⟨x - 1, List.mem_filter.2 ⟨List.mem_range.2 (by omega), by show okC es 0 (-1) (x - 1 + 1) = true; rw [hok, show x - 1 + 1 = x by omega]; exact h4⟩, by show x - 1 + 1 = x; omega⟩
    have hndZ : ((2 ^ n - 1) :: ((List.range (2 ^ n - 2)).filter fun S => okC es 0 (-1) (S + 1)).map (· + 1)).Nodup := by
      refine List.nodup_cons.2 ⟨fun h => ?_, ?_⟩
      · obtain ⟨S, hS, e⟩ := List.mem_map.1 h
        have := List.mem_range.1 (List.mem_filter.1 hS).1
        omega
      · refine List.pairwise_map.2 (List.Pairwise.imp (fun {a b} h e => h (by omega)) (List.Pairwise.filter _ List.nodup_range))
    have h6 := sub_len hndZ (ys := ys) fun x hx => by
      obtain ⟨h2, h3, h4⟩ := (hmemZ x).1 hx
      exact (hall x (gn_of hg h3 h4 fun _ _ _ => rfl)).resolve_left h2
    have h7 := sub_len hF.1 (ys := (2 ^ n - 1) :: ((List.range (2 ^ n - 2)).filter fun S => okC es 0 (-1) (S + 1)).map (· + 1)) fun x hx => (hmemZ x).2 (hb x hx)
    rw [List.length_cons, List.length_map] at h6 h7
    omega
end Go.Ev

/- Plain laws: the minimal candidates. -/
set_option linter.unusedSimpArgs false
set_option linter.unusedVariables false
namespace Go.Ev
open Go

/-- Is the i-th node's component a minimal candidate, told by its first node? -/
def minB (n : Nat) (es : List (Int × Int)) (i : Nat) : Bool := closedB es (compN n es i) && decide (compN n es i ≠ 2 ^ n - 1) && isRep n es i
def minT (n : Nat) (es : List (Int × Int)) (k : Nat) : List (List Int) := ((List.range k).filter (minB n es)).map fun i => nodesL (compN n es i) 62
theorem minT_succ {n : Nat} {es : List (Int × Int)} (k : Nat) : minT n es (k + 1) = minT n es k ++ (if minB n es k then [nodesL (compN n es k) 62] else []) := by
  unfold minT
  rw [List.range_succ, List.filter_append, List.map_append]
  cases h : minB n es k with
  | true => rw [List.filter_cons_of_pos h]; rfl
  | false => rw [List.filter_cons_of_neg (by simp [h])]; rfl
theorem minT_len {n : Nat} {es : List (Int × Int)} (k : Nat) : (minT n es k).length ≤ k := by
  unfold minT
  rw [List.length_map]
  exact Nat.le_trans (List.length_filter_le _ _) (by rw [List.length_range]; exact Nat.le_refl _)

theorem first_of {a r : Nat} (hb : a.testBit r = true) (h0 : ∀ j, j < r → a.testBit j = false) : ∀ n, r < n → (nodesL a n)[0]? = some (r : Int) := by
  have hnil : ∀ m, m ≤ r → nodesL a m = [] := by
    intro m
    induction m with
    | zero => intro _; rfl
    | succ m ih => intro h; rw [nodesL_succ, ih (by omega), h0 m (by omega)]; rfl
  intro n
  induction n with
  | zero => intro h; omega
  | succ n ih =>
    intro h
    rw [nodesL_succ]
    by_cases hrn : r = n
    · subst hrn; rw [hnil r (Nat.le_refl _), hb]; rfl
    · have := ih (by omega)
      rw [List.getElem?_append_left (List.getElem?_eq_some_iff.1 this).1]; exact this
/-- The first node of a node's component. -/
theorem comp_first {n : Nat} {es : List (Int × Int)} (hg : GoodG n es) (hn : n ≤ 62) {i : Nat} (hi : i < n) : ∃ r : Nat, (nodesL (compN n es i) 62)[0]? = some (r : Int) ∧ (r = i ↔ isRep n es i = true) := by
  obtain ⟨r, h1, h2, h3⟩ := rep_ex hg hi
  have hbit : ∀ x, (compN n es i).testBit x = true ↔ x < n ∧ mutB n es i x = true := fun x => by rw [compN_bit]; simp
  refine ⟨r, first_of ((hbit r).2 ⟨by omega, by rw [mut_symm]; exact h3⟩) (fun j hj => ?_) 62 (by omega), ?_⟩
  · cases hb : (compN n es i).testBit j with
    | false => rfl
    | true =>
      obtain ⟨h4, h5⟩ := (hbit j).1 hb
      have h6 := mut_trans hg (show r < n by omega) hi h4 h3 h5
      rw [isRep_iff.1 h2 j hj] at h6; cases h6
  · constructor
    · rintro rfl; exact h2
    · intro h
      exact rep_uniq hg hi (by omega) hi h2 h3 h (mut_self hg hi)

theorem comp_full {n : Nat} {es : List (Int × Int)} {r : Nat} (h : compN n es r = 2 ^ n - 1) {x : Nat} (hx : x < n) : mutB n es r x = true := by
  have h1 : (compN n es r).testBit x = true := by rw [h, Nat.testBit_two_pow_sub_one]; simp [hx]
  rw [compN_bit] at h1
  simp only [Bool.and_eq_true] at h1
  exact h1.2
/-- Minimal is what the law says. -/
theorem min_law {n : Nat} {es : List (Int × Int)} (hg : GoodG n es) (hn : n ≤ 10) : minL n es = minT n es n := by
  have hlen : ∀ i, (nodesL (compN n es i) n).length = cardN (compN n es i) n := fun i => nodesL_card _ _
  have h62 : ∀ i, nodesL (compN n es i) 62 = nodesL (compN n es i) n := fun i => nodesL_high (by rw [Nat.shiftRight_eq_div_pow]; exact Nat.div_eq_of_lt compN_lt) 62 (by omega)
  have hmem : ∀ r, r ∈ (reps n es n).filter (fun r => closedB es (compN n es r)) ↔ (r < n ∧ isRep n es r = true) ∧ closedB es (compN n es r) = true := fun r => by rw [List.mem_filter, mem_reps]
  by_cases hex : ∃ r, r < n ∧ compN n es r = 2 ^ n - 1
  · obtain ⟨r0, hr0, hf⟩ := hex
    have hall : ∀ x y, x < n → y < n → mutB n es x y = true := fun x y hx hy => mut_trans hg hx hr0 hy (by rw [mut_symm]; exact comp_full hf hx) (comp_full hf hy)
    have hcf : ∀ x, x < n → compN n es x = 2 ^ n - 1 := fun x hx => Nat.eq_of_testBit_eq fun j => by
      rw [compN_bit, Nat.testBit_two_pow_sub_one]
      by_cases hj : j < n
      · rw [hall x j hx hj]; simp
      · simp [hj]
    have hrep : ∀ x, x < n → (isRep n es x = true ↔ x = 0) := fun x hx => by
      rw [isRep_iff]
      constructor
      · intro h
        rcases Nat.eq_zero_or_pos x with h0 | h0
        · exact h0
        · have := h 0 h0; rw [hall x 0 hx (by omega)] at this; cases this
      · rintro rfl j hj; omega
    have hnil : minT n es n = [] := by
      unfold minT
      rw [List.map_eq_nil_iff, List.filter_eq_nil_iff]
      intro x hx
      unfold minB
      rw [hcf x (List.mem_range.1 hx)]
      simp
    have hcl : closedB es (2 ^ n - 1) = true := by
      rw [closedB_iff]
      intro e he _
      obtain ⟨q1, q2, q3, q4⟩ := hg.ins e he
      rw [Nat.testBit_two_pow_sub_one]; simp; omega
    have hone : (reps n es n).filter (fun r => closedB es (compN n es r)) = [0] := by
      have hs : ((reps n es n).filter fun r => closedB es (compN n es r)).Pairwise (fun a b => a < b) := List.Pairwise.filter _ (List.Pairwise.filter _ List.pairwise_lt_range)
      cases hl : (reps n es n).filter (fun r => closedB es (compN n es r)) with
      | nil => have := (hmem 0).2 ⟨⟨by omega, (hrep 0 (by omega)).2 rfl⟩, by rw [hcf 0 (by omega)]; exact hcl⟩; rw [hl] at this; cases this
      | cons a l =>
        have hz : ∀ x ∈ a :: l, x = 0 := fun x hx => by
          rw [← hl] at hx
          obtain ⟨⟨h1, h2⟩, _⟩ := (hmem x).1 hx
          exact (hrep x h1).1 h2
        rw [hl] at hs
        cases l with
        | nil => rw [hz a List.mem_cons_self]
        | cons b l =>
          have h1 := (List.pairwise_cons.1 hs).1 b List.mem_cons_self
          rw [hz a List.mem_cons_self, hz b (List.mem_cons_of_mem _ List.mem_cons_self)] at h1
          omega
    rw [hnil]
    unfold minL sinkL
    rw [hone, if_pos]
    refine ⟨rfl, ?_⟩
    show (nodesL (compN n es 0) n).length = n
    rw [hlen, hcf 0 (by omega), card_full]
  · have hno : ∀ r, r < n → compN n es r ≠ 2 ^ n - 1 := fun r hr e => hex ⟨r, hr, e⟩
    have hsame : sinkL n es (reps n es n) = minT n es n := by
      unfold sinkL minT reps
      rw [List.filter_filter]
      have : (List.range n).filter (fun a => closedB es (compN n es a) && isRep n es a) = (List.range n).filter (minB n es) := by
        refine List.filter_congr fun x hx => ?_
        unfold minB
        rw [decide_eq_true (hno x (List.mem_range.1 hx)), Bool.and_true]
      rw [this]
      exact List.map_congr_left fun r _ => (h62 r).symm
    unfold minL
    rw [hsame]
    split
    · rename_i hc
      obtain ⟨h1, h2⟩ := hc
      exfalso
      cases hl : (List.range n).filter (minB n es) with
      | nil => unfold minT at h1; rw [hl] at h1; cases h1
      | cons r l =>
        have hr : r ∈ (List.range n).filter (minB n es) := by rw [hl]; exact List.mem_cons_self
        have hrn := List.mem_range.1 (List.mem_filter.1 hr).1
        unfold minT at h2
        rw [hl] at h2
        have h3 : (nodesL (compN n es r) 62).length = n := h2
        rw [h62, hlen] at h3
        exact hno r hrn (card_all compN_lt h3)
    · rfl
end Go.Ev

/- Plain laws: unions and intersections of candidates, hulls, a further edge. -/
set_option linter.unusedSimpArgs false
set_option linter.unusedVariables false
namespace Go.Ev
open Go

theorem nodes_mem {S m : Nat} {x : Int} : x ∈ nodesL S m ↔ ∃ i : Nat, i < m ∧ S.testBit i = true ∧ x = (i : Int) := by
  unfold nodesL
  rw [List.mem_map]
  constructor
  · rintro ⟨i, h, rfl⟩
    obtain ⟨h1, h2⟩ := List.mem_filter.1 h
    exact ⟨i, List.mem_range.1 h1, h2, rfl⟩
  · rintro ⟨i, h1, h2, rfl⟩
    exact ⟨i, List.mem_filter.2 ⟨List.mem_range.2 h1, h2⟩, rfl⟩
theorem bits_nodes {S m : Nat} (h : S < 2 ^ m) : bitsN (nodesL S m) = S := by
  refine Nat.eq_of_testBit_eq fun j => ?_
  rw [bitsN_bit]
  cases hb : S.testBit j with
  | true => exact decide_eq_true ⟨(j : Int), nodes_mem.2 ⟨j, testBit_lt h hb, hb, rfl⟩, rfl⟩
  | false =>
    refine decide_eq_false ?_
    rintro ⟨f, hf, h2⟩
    obtain ⟨i, h3, h4, rfl⟩ := nodes_mem.1 hf
    rw [show i = j by omega, hb] at h4; cases h4
theorem closedB_and {es : List (Int × Int)} {a b : Nat} (ha : closedB es a = true) (hb : closedB es b = true) : closedB es (a &&& b) = true := by
  rw [closedB_iff] at *
  intro e he h
  rw [Nat.testBit_and, Bool.and_eq_true] at *
  exact ⟨ha e he h.1, hb e he h.2⟩

/-- The nodes of a set stand in order. -/
theorem incr_of_sorted : ∀ {l : List Int}, l.Pairwise (fun a b => a < b) → incrI l = true
  | [], _ => rfl
  | [_], _ => rfl
  | x :: y :: l, h => by
    obtain ⟨h1, h2⟩ := List.pairwise_cons.1 h
    rw [incrI, decide_eq_true (h1 y List.mem_cons_self), incr_of_sorted h2]; rfl
theorem nodes_incr (S m : Nat) : incrI (nodesL S m) = true := by
  refine incr_of_sorted ?_
  unfold nodesL
  rw [List.pairwise_map]
  exact List.Pairwise.imp (fun {a b} h => by omega) (List.Pairwise.filter _ List.pairwise_lt_range)
theorem ready_nodes {n : Nat} {es : List (Int × Int)} (hc : checkR n es = 0) {S : Nat} (hS : S < 2 ^ n) : readyR n es (nodesL S 62) = 0 := by
  unfold readyR
  rw [if_neg (by simpa using hc), if_neg, nodes_incr, if_pos rfl]
  rw [Bool.not_eq_true, List.any_eq_false]
  intro x hx
  obtain ⟨i, h1, h2, rfl⟩ := nodes_mem.1 hx
  have := testBit_lt hS h2
  unfold beyondB
  simp; omega
/-- The hull of what is closed. -/
theorem hull_closed {n : Nat} {es : List (Int × Int)} (hg : GoodG n es) (hn : n ≤ 62) {S : Nat} (hS : S < 2 ^ n) (hc : closedB es S = true) {r : List Int} (h : ReachedL n es (nodesL S 62) r) : r = nodesL S 62 := by
  have hin : ∀ x ∈ nodesL S 62, 0 ≤ x ∧ x < (n : Int) := fun x hx => by
    obtain ⟨i, h1, h2, rfl⟩ := nodes_mem.1 hx
    have := testBit_lt hS h2
    omega
  have h62 : S < 2 ^ 62 := Nat.lt_of_lt_of_le hS (Nat.pow_le_pow_right (by decide) hn)
  rw [reach_hull hg hn hin h, bits_nodes h62]
  congr 1
  refine Nat.eq_of_testBit_eq fun j => ?_
  rw [Bool.eq_iff_iff, hull_bit hg hS]
  constructor
  · rintro ⟨i, h1, h2⟩
    have hi := testBit_lt hS h1
    exact closedB_hull hg hc hi h1 ((HN_bit hg hi j).2 h2)
  · intro h1; exact ⟨j, h1, .refl _⟩

/-- Each candidate holds a minimal one. -/
def inB (S : Nat) (l : List Int) : Bool := ((bitsN l &&& S : Nat) : Int) == (bitsN l : Int)
theorem min_in {n : Nat} {es : List (Int × Int)} (hg : GoodG n es) (hn : n ≤ 10) {S : Nat} (h : isC n es 0 (-1) S) : (minT n es n).any (inB S) = true := by
  obtain ⟨h1, h2, h3, h4, _, _⟩ := h
  have key : ∀ c i, i < n → S.testBit i = true → cardN (HN n es i) n = c → ∃ j, j < n ∧ S.testBit j = true ∧ compN n es j = HN n es j := by
    intro c
    induction c using Nat.strongRecOn with
    | _ c ih =>
      intro i hi hb hc
      by_cases hall : ∀ j, (HN n es i).testBit j = true → (HN n es j).testBit i = true
      · refine ⟨i, hi, hb, Nat.eq_of_testBit_eq fun j => ?_⟩
        rw [Bool.eq_iff_iff, compN_bit]
        simp only [Bool.and_eq_true, decide_eq_true_eq, mut_iff]
        constructor
        · rintro ⟨_, h5, _⟩; exact h5
        · intro h5; exact ⟨testBit_lt (HN_lt hg hi) h5, h5, hall j h5⟩
      · have hex : ∃ j, (HN n es i).testBit j = true ∧ (HN n es j).testBit i = false := by
          apply Classical.byContradiction
          intro hno
          refine hall fun j hj => ?_
          cases hb2 : (HN n es j).testBit i with
          | true => rfl
          | false => exact absurd ⟨j, hj, hb2⟩ hno
        obtain ⟨j, hj, hji⟩ := hex
        have hjn := testBit_lt (HN_lt hg hi) hj
        have hsub : ∀ x, (HN n es j).testBit x = true → (HN n es i).testBit x = true := fun x hx => HN_trans hg hi hjn hj hx
        have hlt := (cardN_mono hsub n).2 ⟨i, hi, HN_self hg hi, hji⟩
        exact ih _ (by omega) j hjn (closedB_hull hg h3 hi hb hj) rfl
  obtain ⟨i, hi⟩ := ne_zero_bit h1
  obtain ⟨j, hjn, hjS, hcomp⟩ := key _ i (testBit_lt h2 hi) hi rfl
  obtain ⟨r, r1, r2, r3⟩ := rep_ex hg hjn
  have hrn : r < n := by omega
  have hsame : compN n es r = compN n es j := Nat.eq_of_testBit_eq fun x => by
    rw [compN_bit, compN_bit]
    by_cases hx : x < n
    · congr 1
      rw [Bool.eq_iff_iff]
      constructor
      · intro h; exact mut_trans hg hjn hrn hx (by rw [mut_symm]; exact r3) h
      · intro h; exact mut_trans hg hrn hjn hx r3 h
    · simp [hx]
  have hsubS : ∀ x, (HN n es j).testBit x = true → S.testBit x = true := fun x hx => closedB_hull hg h3 hjn hjS hx
  have hne : compN n es r ≠ 2 ^ n - 1 := fun e => by
    refine h4 (card_all h2 ?_)
    have a := card_sub (n := n) hsubS
    rw [← hcomp, ← hsame, e, card_full] at a
    have b := cardN_le S n
    omega
  rw [List.any_eq_true]
  refine ⟨nodesL (compN n es r) 62, ?_, ?_⟩
  · unfold minT
    refine List.mem_map.2 ⟨r, List.mem_filter.2 ⟨List.mem_range.2 hrn, ?_⟩, rfl⟩
    unfold minB
    rw [r2, hsame, hcomp, HN_closed hg hjn, decide_eq_true (by rw [← hcomp, ← hsame]; exact hne)]; rfl
  · have h62 : compN n es r < 2 ^ 62 := Nat.lt_of_lt_of_le compN_lt (Nat.pow_le_pow_right (by decide) (by omega))
    unfold inB
    rw [bits_nodes h62]
    have : compN n es r &&& S = compN n es r := Nat.eq_of_testBit_eq fun x => by
      rw [Nat.testBit_and, hsame, hcomp]
      cases hb : (HN n es j).testBit x with
      | true => rw [hsubS x hb]; rfl
      | false => rfl
    rw [this]; simp

/-! ### A further edge -/
theorem edge_inj {k i j : Nat} (h : edgeN k i = edgeN k j) : i = j := by
  unfold edgeN at h
  simp only [Prod.mk.injEq] at h
  have h1 : i / k = j / k := by omega
  have h2 : i % k = j % k := by omega
  rw [← Nat.div_add_mod i k, ← Nat.div_add_mod j k, h1, h2]
theorem code_inj {k i j : Nat} (hk : k < 8) (hi : i < k * k) (hj : j < k * k) (h : i / k * 7 + i % k = j / k * 7 + j % k) : i = j := by
  have hk0 : 0 < k := by rcases Nat.eq_zero_or_pos k with h0 | h0; · subst h0; simp at hi
                         · exact h0
  have h1 := Nat.mod_lt i hk0
  have h2 := Nat.mod_lt j hk0
  have h3 : i / k = j / k := by omega
  have h4 : i % k = j % k := by omega
  rw [← Nat.div_add_mod i k, ← Nat.div_add_mod j k, h3, h4]
theorem filter_two {A B : Nat → Bool} (hB : ∀ i j, B i = true → B j = true → i = j) : ∀ {l : List Nat}, l.Nodup → (l.filter fun i => A i || B i).length ≤ (l.filter A).length + 1
  | [], _ => by simp
  | x :: l, hn => by
    obtain ⟨h1, h2⟩ := List.nodup_cons.1 hn
    have ih := filter_two (A := A) hB h2
    cases ha : A x with
    | true => rw [List.filter_cons_of_pos (p := fun i => A i || B i) (by simp [ha]), List.filter_cons_of_pos ha]; simp; exact ih
    | false =>
      rw [List.filter_cons_of_neg (p := A) (by simp [ha])]
      cases hb : B x with
      | false => rw [List.filter_cons_of_neg (p := fun i => A i || B i) (by simp [ha, hb])]; exact ih
      | true =>
        rw [List.filter_cons_of_pos (p := fun i => A i || B i) (by simp [hb])]
        have : l.filter (fun i => A i || B i) = l.filter A := List.filter_congr fun y hy => by
          have : B y = false := by
            cases hby : B y with
            | false => rfl
            | true => have := hB x y hb hby; subst this; exact absurd hy h1
          rw [this, Bool.or_false]
        rw [this]; simp
theorem more_edges {k : Nat} (hk : k < 8) {bs : List Nat} {z : Nat} (h : (netE k (bs.take 39 ++ [z])).length > (netE k bs).length) : ∀ e ∈ netE k bs, e ∈ netE k (bs.take 39 ++ [z]) := by
  unfold netE graphL at *
  rw [List.length_map, List.length_map] at h
  have hA : ∀ i, hitB k (bs.take 39 ++ [z]) i = ((bs.take 39).any (fun b => decide (b % 49 = i / k * 7 + i % k)) || decide (z % 49 = i / k * 7 + i % k)) := fun i => by
    unfold hitB
    rw [List.take_of_length_le (by simp; omega), List.any_append]; simp
  have hB : ∀ i, hitB k bs i = ((bs.take 39).any (fun b => decide (b % 49 = i / k * 7 + i % k)) || ((bs.drop 39).take 1).any fun b => decide (b % 49 = i / k * 7 + i % k)) := fun i => by
    unfold hitB
    rw [← List.any_append]
    congr 1
    rw [show 40 = 39 + 1 from rfl, List.take_add]
  have hle : ((List.range (k * k)).filter (hitB k (bs.take 39 ++ [z]))).length ≤ ((List.range (k * k)).filter fun i => (bs.take 39).any (fun b => decide (b % 49 = i / k * 7 + i % k))).length + 1 := by
    have : (List.range (k * k)).filter (hitB k (bs.take 39 ++ [z])) = (List.range (k * k)).filter (fun i => (bs.take 39).any (fun b => decide (b % 49 = i / k * 7 + i % k)) || (decide (z % 49 = i / k * 7 + i % k) && decide (i < k * k))) := List.filter_congr fun x hx => by
      rw [hA, decide_eq_true (List.mem_range.1 hx), Bool.and_true]
    rw [this]
    refine filter_two (fun i j h1 h2 => ?_) List.nodup_range
    simp only [Bool.and_eq_true, decide_eq_true_eq] at h1 h2
    exact code_inj hk h1.2 h2.2 (h1.1.symm.trans h2.1)
  -- so the further byte of the first net is no edge of its own
  intro e he
  obtain ⟨i, hi, rfl⟩ := List.mem_map.1 he
  obtain ⟨h1, h2⟩ := List.mem_filter.1 hi
  refine List.mem_map.2 ⟨i, List.mem_filter.2 ⟨h1, ?_⟩, rfl⟩
  rw [hA]
  cases hx : (bs.take 39).any (fun b => decide (b % 49 = i / k * 7 + i % k)) with
  | true => rfl
  | false =>
    exfalso
    have hsub : ((List.range (k * k)).filter fun j => (bs.take 39).any (fun b => decide (b % 49 = j / k * 7 + j % k))).length + 1 ≤ ((List.range (k * k)).filter (hitB k bs)).length := by
      have h9 : ∀ x ∈ i :: (List.range (k * k)).filter (fun j => (bs.take 39).any (fun b => decide (b % 49 = j / k * 7 + j % k))), x ∈ (List.range (k * k)).filter (hitB k bs) := fun x hx' => by
        rcases List.mem_cons.1 hx' with h3 | h3
        · rw [h3]; exact hi
        · obtain ⟨h4, h5⟩ := List.mem_filter.1 h3
          exact List.mem_filter.2 ⟨h4, by rw [hB, h5]; rfl⟩
      have := sub_len (List.nodup_cons.2 ⟨fun h => (by have := (List.mem_filter.1 h).2; rw [hx] at this; cases this), List.Pairwise.filter _ List.nodup_range⟩) h9
      rw [List.length_cons] at this; exact this
    omega
theorem closedB_more {es es' : List (Int × Int)} (h : ∀ e ∈ es, e ∈ es') {S : Nat} (hc : closedB es' S = true) : closedB es S = true := by
  rw [closedB_iff] at *
  exact fun e he => hc e (h e he)
end Go.Ev

/- A guarded operation beside which blocks are made. -/
set_option linter.unusedSimpArgs false
set_option linter.unusedVariables false
namespace Go.Ev
open Go
variable {P : Program} [Sorts P] {lk sz : Nat} {all os : List Oper} {o : Oper} {fr fr' : Fr} {s s' : HS} {K : Fr → HS → Prop} {p : PlanRow} {ps : List PlanRow} {k : Nat} {Z : List (Nat × Nat × Nat)}
theorem xLow {lo : Nat} {g : Option (Tmp × Bool)} (hG : guardO all o = some g) (hst : stB fr g = true) (hq : p.quiet = none) (hb : p.bar = false) (hlo : ∀ m ∈ Z, p.beside.contains m.1 = true → lo ≤ m.2.1 ∧ m.2.2 ≤ s.nx) {v : Value}
    (h : ∀ sh : HS, sh.nx = s.nx → (∀ id, id < lo → sh.hp.get id = s.hp.get id) → opA P (ev P 0) s.nx fr sh o = some (v, sh))
    (hd : setA sz fr o.dst v = some fr') (hk : ∀ s2 : HS, s2.nx = s.nx → (∀ id, s2.hp.get id = s.hp.get id) → wpD P lk sz all os ps (k + 1) Z fr' s2 K) : wpD P lk sz all (o :: os) (p :: ps) k Z fr s K := by
  show wpStep P (if p.bar then lk else s.nx) sz all fr (hid s (hidZ p Z)) o fun fr' s1 => opt (noteA P.globals.size p k fr o (if s.nx < s1.nx then _ else _)) fun made' => wpDraw P lk sz all os ps (k + 1) made' fr' (unh s s1 (hidZ p Z)) K
  rw [hb, if_neg (by simp)]
  have h3 := h (hid s (hidZ p Z)) (hid_nx _ _) fun id hid' => low_get hlo hid'
  refine wpStep_do (fr' := fr') (wanted_of hG hst) h3 hd ?_
  rw [hid_nx, if_neg (Nat.lt_irrefl _)]
  refine opt_of (note_none hq) (hk _ (by rw [unh_nx, hid_nx]) fun id => ?_)
  rw [unh_get]
  split
  · rfl
  · rename_i hn; rw [hid_get, if_neg hn]
end Go.Ev
