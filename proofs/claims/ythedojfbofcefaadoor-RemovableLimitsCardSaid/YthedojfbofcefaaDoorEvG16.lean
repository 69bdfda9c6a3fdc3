import Derived.Test.YthedojfbofcefaaDoorEvG22
/- graph.Closure, removable.hulls. -/
namespace Go.Ev
open Go Go.Proofs
set_option linter.unusedSimpArgs false
set_option linter.unusedVariables false
set_option maxRecDepth 100000
set_option maxHeartbeats 4000000
attribute [local irreducible] wpOps wpC wpD wpF wpLoop wpCall seqK blockK loopK retK T.put T.get T.setF

/-- The nodes that a node reaches, in order. -/
def ReachOf (n : Int) (es : List (Int × Int)) (k : Nat) (r : List Int) : Prop := ∃ seen, SeenOf n es k seen ∧ r = listedL 0 seen

theorem f44_spec [Sorts Tryd.prog] (n : Int) (es : List (Int × Int)) (ev : Value) (s : HS) (hs : Sl s 2 ev (es.map encE)) (hc : checkR n es = 0) :
    wpF Tryd.prog s.nx 44 [vG n ev] s (fun v s' => ∃ (lv : Value) (vs : List Value), v = .tuple #[lv, .int .i64 0] ∧ Sl s' 1 lv (vs.map fun r => [r]) ∧ vs.length = n.toNat ∧
      ∀ (i : Nat) (r : Value), vs[i]? = some r → ∃ l, Sl s' 1 r (l.map encI) ∧ ReachOf n es i l) := by
  have hg := good_of hc
  have hgh := hg.hi
  refine wpF_of Tryd.func44 rfl rfl rfl rfl (Nat.le_refl _) ?_
  simp only [paramsA, vG]
  repeat (first
  | with_reducible first | apply ops_end | apply d_end | apply k_seq | apply k_seq_ret | apply k_seq_exit | apply k_block | apply k_block_ret | apply k_block_here | apply c_seq | apply c_block | apply c_region | apply c_skip | apply c_ret | apply c_exit | apply c_loop | apply k_loop_exit | apply k_loop_ret | apply if_t | apply if_f
  | (with_reducible apply k_block_on
     · decide)
  | ((with_reducible first | apply xOp | apply xDr | apply xIf); rfl; (simp only [Nat.reduceEqDiff, Nat.reduceAdd, ↓reduceIte, xBB, stG, opA, val, opdA, opdO, plainN, omap, binA, intBinA, loadV, readA, storeV, writeA, fieldAddrA, indexAddrA, lenA, builtinA, newA, unA, packA, Value.cells, ty28, cutL]; rfl); first | rfl | exact ⟨rfl, rfl, rfl⟩))
  have hA0 := Ab.new (lk := s.nx) s (.cells true 28 [.int .i64 n, ev])
  ((with_reducible first | apply xCa | apply xCd); rfl; (simp only [Nat.reduceEqDiff, Nat.reduceAdd, ↓reduceIte, xBB, stB, opdA, opdO, plainN, omap, val, Value.cells]; exact ⟨rfl, rfl⟩); try rfl)
  apply call_fn
  refine (f36_spec n es ev _ (hs.keep hA0)).use (by first | exact Nat.le_refl _ | (simp only [cond_true, cond_false]; omega) | omega | (dsimp only; omega)) (by first | exact Nat.le_refl _ | (simp only [cond_true, cond_false]; omega) | omega | (dsimp only; omega)) fun v s1 hv hA1 => ?_
  subst hv
  have hbox := hA1.get (Nat.le_refl _) (Nat.lt_succ_self s.nx)
  rw [T.get_put_eq] at hbox
  have hA01 := hA0.trans (hA1.lower (Nat.le_succ _) (Nat.le_refl _))
  have hc' : (checkR n es != 0) = false := by simp [hc]
  refine opt_of rfl ?_
  repeat (first
  | with_reducible first | apply ops_end | apply d_end | apply k_seq | apply k_seq_ret | apply k_seq_exit | apply k_block | apply k_block_ret | apply k_block_here | apply c_seq | apply c_block | apply c_region | apply c_skip | apply c_ret | apply c_exit | apply c_loop | apply k_loop_exit | apply k_loop_ret | apply if_t | apply if_f
  | (with_reducible apply k_block_on
     · decide)
  | ((with_reducible first | apply xOp | apply xDr | apply xIf); rfl; (simp only [Nat.reduceEqDiff, Nat.reduceAdd, ↓reduceIte, xBB, stG, opA, val, opdA, opdO, plainN, omap, binA, intBinA, loadV, readA, storeV, writeA, fieldAddrA, indexAddrA, lenA, builtinA, newA, unA, packA, Value.cells, hc', ty28, hbox]; rfl); first | rfl | exact ⟨rfl, rfl, rfl⟩))
  ((with_reducible first | apply xCa | apply xCd); rfl; (simp only [Nat.reduceEqDiff, Nat.reduceAdd, ↓reduceIte, xBB, stB, opdA, opdO, plainN, omap, val, Value.cells]; exact ⟨rfl, rfl⟩); try rfl)
  apply call_fn
  refine (f62_spec n es ev s1 (hs.keep hA01) hg).use hA01.nx (Nat.le_refl _) fun v s2 hv hA2 => ?_
  obtain ⟨ob, cs, hob0, hob, hcl, hcs⟩ := hv
  obtain ⟨vb, vc, rfl⟩ := hob.shape
  have hA02 := hA01.trans (hA2.lower hA01.nx (Nat.le_refl _))
  refine opt_of rfl ?_
  repeat (first
  | with_reducible first | apply ops_end | apply d_end | apply k_seq | apply k_seq_ret | apply k_seq_exit | apply k_block | apply k_block_ret | apply k_block_here | apply c_seq | apply c_block | apply c_region | apply c_skip | apply c_ret | apply c_exit | apply c_loop | apply k_loop_exit | apply k_loop_ret | apply if_t | apply if_f
  | (with_reducible apply k_block_on
     · decide)
  | ((with_reducible first | apply xOp | apply xDr | apply xIf); rfl; (simp only [Nat.reduceEqDiff, Nat.reduceAdd, ↓reduceIte, xBB, stG, opA, val, opdA, opdO, plainN, omap, binA, intBinA, loadV, readA, storeV, writeA, fieldAddrA, indexAddrA, lenA, builtinA, newA, unA, packA, Value.cells, un100]; rfl); first | rfl | exact ⟨rfl, rfl, rfl⟩))
  refine loop_k (lk' := s2.nx) (s0 := s2) (fun m f t => ∃ k : Nat, k + m = n.toNat ∧ f.get 16 = some (.int .i64 k) ∧ ∃ (o : Option Nat) (lv : Value) (vs : List Value), f.get 5 = some lv ∧ Own t 35 1 o lv (vs.map fun r => [r]) ∧ newer s2 o ∧ vs.length = k ∧
    ∀ (i : Nat) (r : Value), vs[i]? = some r → ∃ (o' : Option Nat) (l : List Int), Own t 3 1 o' r (l.map encI) ∧ newer s2 o' ∧ (∀ id, o' = some id → o ≠ some id) ∧ ReachOf n es i l) n.toNat hA02.nx (Nat.le_refl _) ?_ (Ab.refl _ _) ?_
  · exact ⟨0, by omega, by simp only [Nat.reduceEqDiff, T.get_put, ↓reduceIte]; rfl, none, .slice none 0 0, [], by simp only [Nat.reduceEqDiff, T.get_put, ↓reduceIte], ⟨rfl, rfl⟩, fun _ h => (by cases h), rfl, fun i r h => by simp at h⟩
  · rintro m f t ⟨k, hk, h16, o, lv, vs, h5, hown, hnew, hvl, hvs⟩ hA hF
    (have k14 := hF 14 (by rfl); simp only [Nat.reduceEqDiff, T.get_put, ↓reduceIte] at k14; have k15 := hF 15 (by rfl); simp only [Nat.reduceEqDiff, T.get_put, ↓reduceIte] at k15)
    have hnt := hA.nx
    by_cases hlt : (k : Int) < (((cs.map fun r => [r]).length : Nat) : Int)
    · have hlt' : k < cs.length := by simp at hlt; omega
      have hob2 := hob.keep hA
      obtain ⟨id, off, wr, e, cc, hh, g1, g2, g3, g4⟩ := hob2.sl.at (i := k) (x := [cs[k]]) (by simp [hlt'])
      subst hh
      have hb : (0 : Int) ≤ (k : Int) ∧ (k : Int) < (((cs.map fun r => [r]).length : Nat) : Int) := ⟨by omega, hlt⟩
      have hw : IntKind.i64.wrap ((k : Int) + 1) = ((k + 1 : Nat) : Int) := by rw [IntWalk.i64_in _ (by omega)]; rfl
      obtain ⟨o1, seen, ho1, hseen, hso⟩ := hcs k cs[k] (List.getElem?_eq_getElem hlt')
      have hslen := hso.1
      repeat (first
  | with_reducible first | apply ops_end | apply d_end | apply k_seq | apply k_seq_ret | apply k_seq_exit | apply k_block | apply k_block_ret | apply k_block_here | apply c_seq | apply c_block | apply c_region | apply c_skip | apply c_ret | apply c_exit | apply c_loop | apply k_loop_exit | apply k_loop_ret | apply if_t | apply if_f
  | (with_reducible apply k_block_on
     · decide)
  | ((with_reducible first | apply xOp | apply xDr | apply xIf); rfl; (simp only [Nat.reduceEqDiff, Nat.reduceAdd, ↓reduceIte, xBB, stG, opA, val, opdA, opdO, plainN, omap, binA, intBinA, loadV, readA, storeV, writeA, fieldAddrA, indexAddrA, lenA, builtinA, newA, unA, packA, Value.cells, h16, k14, k15, hlt, un100, sz95, ty95, hb, g1, g3, h5]; rfl); first | rfl | exact ⟨rfl, rfl, rfl⟩))
      ((with_reducible first | apply xCa | apply xCd); rfl; (simp only [Nat.reduceEqDiff, Nat.reduceAdd, ↓reduceIte, xBB, stB, opdA, opdO, plainN, omap, val, Value.cells]; exact ⟨rfl, rfl⟩); try rfl)
      apply call_fn
      refine (f58_spec seen cs[k] t (hseen.keep hA).sl (by omega)).use hnt (Nat.le_refl _) fun v u hv hA3 => ?_
      obtain ⟨o2, hl2, hn2⟩ := hv
      obtain ⟨lb, lc, rfl⟩ := hl2.shape
      have hnu := hA3.nx
      refine opt_of rfl ?_
      repeat (first
  | with_reducible first | apply ops_end | apply d_end | apply k_seq | apply k_seq_ret | apply k_seq_exit | apply k_block | apply k_block_ret | apply k_block_here | apply c_seq | apply c_block | apply c_region | apply c_skip | apply c_ret | apply c_exit | apply c_loop | apply k_loop_exit | apply k_loop_ret | apply if_t | apply if_f
  | (with_reducible apply k_block_on
     · decide)
  | ((with_reducible first | apply xOp | apply xDr | apply xIf); rfl; (simp only [Nat.reduceEqDiff, Nat.reduceAdd, ↓reduceIte, xBB, stG, opA, val, opdA, opdO, plainN, omap, binA, intBinA, loadV, readA, storeV, writeA, fieldAddrA, indexAddrA, lenA, builtinA, newA, unA, packA, Value.cells, buildSliceA, el30, sz35, zr35, zerosL, fillA]; rfl); first | rfl | exact ⟨rfl, rfl, rfl⟩))
      ((with_reducible first | apply ops_opt | apply xPd); (first | rfl | exact ⟨rfl, rfl⟩); (simp only [Nat.reduceEqDiff, Nat.reduceAdd, ↓reduceIte, xBB, opA, val, opdA, opdO, plainN, omap, binA, intBinA, loadV, readA, storeV, writeA, fieldAddrA, indexAddrA, lenA, builtinA, newA, unA, packA, Value.cells, un30, un35, h5]; rfl))
      generalize hst0 : ({ hp := u.hp.put u.nx (some (.cells true 35 (putL ([.slice none 0 0] ++ []) (0 * 1) [.slice lb ((listedL 0 seen).map encI).length lc]))), nx := u.nx + 1 } : HS) = w
      have hwn : w.nx = u.nx + 1 := by rw [← hst0]
      have hwo : ∀ id, id < u.nx → w.hp.get id = u.hp.get id := fun id h => by rw [← hst0]; exact T.get_put_ne _ _ _ (by omega)
      have hwy : w.hp.get u.nx = some (.cells true 35 [.slice lb ((listedL 0 seen).map encI).length lc]) := by rw [← hst0]; exact T.get_put_eq _ _ _
      have hown2 : Own w 35 1 o lv (vs.map fun r => [r]) := hown.same (by omega) fun id h => by rw [hwo id (by have := hown.lt h; omega), hA3.get (Nat.le_refl _) (hown.lt h)]
      refine opt_ex (app_one (lk := s2.nx) (y := [.slice lb ((listedL 0 seen).map encI).length lc]) el30 sz35 by35 zr35 rfl (by decide) hown2 (fun id h => hnew id h) hwy rfl rfl (by simp; omega)) fun q hq => ?_
      obtain ⟨qv, s5⟩ := q
      obtain ⟨p1, p2, o', p3, p4⟩ := hq
      dsimp only at p1 p2 p3
      refine opt_of rfl ?_
      repeat (first
  | with_reducible first | apply ops_end | apply d_end | apply k_seq | apply k_seq_ret | apply k_seq_exit | apply k_block | apply k_block_ret | apply k_block_here | apply c_seq | apply c_block | apply c_region | apply c_skip | apply c_ret | apply c_exit | apply c_loop | apply k_loop_exit | apply k_loop_ret | apply if_t | apply if_f
  | (with_reducible apply k_block_on
     · decide)
  | ((with_reducible first | apply xOp | apply xDr | apply xIf); rfl; (simp only [Nat.reduceEqDiff, Nat.reduceAdd, ↓reduceIte, xBB, stG, opA, val, opdA, opdO, plainN, omap, binA, intBinA, loadV, readA, storeV, writeA, fieldAddrA, indexAddrA, lenA, builtinA, newA, unA, packA, Value.cells, hw, h16]; rfl); first | rfl | exact ⟨rfl, rfl, rfl⟩))
      intro _ _
      refine k_loop_next (m' := m - 1) (by omega) ⟨k + 1, by omega, by simp only [Nat.reduceEqDiff, T.get_put, ↓reduceIte], o', qv, vs ++ [.slice lb ((listedL 0 seen).map encI).length lc], by simp only [Nat.reduceEqDiff, T.get_put, ↓reduceIte],
        by rw [List.map_append]; exact p3, fun id h => ?_, by simp [hvl], fun i r hr => ?_⟩
      · rcases p4 with rfl | rfl
        · exact hnew id h
        · cases h; omega
      · rw [List.getElem?_append] at hr
        split at hr
        · obtain ⟨o3, l3, h1, h2, h3, h4⟩ := hvs i r hr
          refine ⟨o3, l3, h1.same (by omega) fun id h => ?_, h2, fun id h => ?_, h4⟩
          · have := h1.lt h
            rw [p2 id (by omega) (h3 id h), hwo id (by omega), hA3.get (Nat.le_refl _) this]
          · have := h1.lt h
            rcases p4 with rfl | rfl
            · exact h3 id h
            · intro e; cases e; omega
        · rename_i hge
          have hik : i = k := by
            have := (List.getElem?_eq_some_iff.1 hr).1
            simp at this; omega
          subst hik
          rw [hvl, Nat.sub_self] at hr
          cases hr
          refine ⟨o2, listedL 0 seen, hl2.same (by omega) fun id h => ?_, fun id h => by have := hn2 id h; omega, fun id h => ?_, seen, hso, rfl⟩
          · have h1 := hl2.lt h
            have h2 := hn2 id h
            rw [p2 id (by omega) (fun e => by have := hown.lt e; omega), hwo id h1]
          · have h1 := hl2.lt h
            have h2 := hn2 id h
            rcases p4 with rfl | rfl
            · intro e; have := hown.lt e; omega
            · intro e; cases e; omega
    · repeat (first
  | with_reducible first | apply ops_end | apply d_end | apply k_seq | apply k_seq_ret | apply k_seq_exit | apply k_block | apply k_block_ret | apply k_block_here | apply c_seq | apply c_block | apply c_region | apply c_skip | apply c_ret | apply c_exit | apply c_loop | apply k_loop_exit | apply k_loop_ret | apply if_t | apply if_f
  | (with_reducible apply k_block_on
     · decide)
  | ((with_reducible first | apply xOp | apply xDr | apply xIf); rfl; (simp only [Nat.reduceEqDiff, Nat.reduceAdd, ↓reduceIte, xBB, stG, opA, val, opdA, opdO, plainN, omap, binA, intBinA, loadV, readA, storeV, writeA, fieldAddrA, indexAddrA, lenA, builtinA, newA, unA, packA, Value.cells, h16, k15, hlt]; rfl); first | rfl | exact ⟨rfl, rfl, rfl⟩))
      intro _ _
      repeat (first
  | with_reducible first | apply ops_end | apply d_end | apply k_seq | apply k_seq_ret | apply k_seq_exit | apply k_block | apply k_block_ret | apply k_block_here | apply c_seq | apply c_block | apply c_region | apply c_skip | apply c_ret | apply c_exit | apply c_loop | apply k_loop_exit | apply k_loop_ret | apply if_t | apply if_f
  | (with_reducible apply k_block_on
     · decide)
  | ((with_reducible first | apply xOp | apply xDr | apply xIf); rfl; (simp only [Nat.reduceEqDiff, Nat.reduceAdd, ↓reduceIte, xBB, stG, opA, val, opdA, opdO, plainN, omap, binA, intBinA, loadV, readA, storeV, writeA, fieldAddrA, indexAddrA, lenA, builtinA, newA, unA, packA, Value.cells, h5]; rfl); first | rfl | exact ⟨rfl, rfl, rfl⟩))
      intro _
      ((with_reducible first | apply ret_i | apply ret_n); (simp only [Nat.reduceEqDiff, Nat.reduceAdd, ↓reduceIte, xBB, resA, opdA, opdO, plainN, omap, val, loadV, readA, packA]; rfl))
      have hkn : k = n.toNat := by simp at hlt; omega
      refine ⟨lv, vs, rfl, hown.sl, by omega, fun i r hr => ?_⟩
      obtain ⟨o3, l3, h1, _, _, h4⟩ := hvs i r hr
      exact ⟨l3, h1.sl, h4⟩
end Go.Ev

/- Lists of lists; removable.hulls. -/
namespace Go.Ev
open Go Go.Proofs
set_option linter.unusedSimpArgs false
set_option linter.unusedVariables false
set_option maxRecDepth 100000
set_option maxHeartbeats 4000000
attribute [local irreducible] wpOps wpC wpD wpF wpLoop wpCall seqK blockK loopK retK T.put T.get T.setF

/-- A slice whose block is not one of some. -/
def SlB (s : HS) (bad : Nat → Prop) (v : Value) (xs : List (List Value)) : Prop :=
  (v = .slice none 0 0 ∧ xs = []) ∨
  ∃ id off cap wr e cs, v = .slice (some ⟨id, off, none⟩) xs.length cap ∧ s.hp.get id = some (.cells wr e cs) ∧ id < s.nx ∧ ¬ bad id ∧ ∀ i x, xs[i]? = some x → x.length = 1 ∧ cutL cs (off + i * 1) 1 = some x

theorem SlB.sl {s : HS} {bad : Nat → Prop} {v : Value} {xs : List (List Value)} (h : SlB s bad v xs) : Sl s 1 v xs := by
  rcases h with h | ⟨id, off, cap, wr, e, cs, h1, h2, h3, _, h5⟩
  · exact Or.inl h
  · exact Or.inr ⟨id, off, cap, wr, e, cs, h1, h2, h3, h5⟩
theorem SlB.of_sl {s : HS} {bad : Nat → Prop} {v : Value} {xs : List (List Value)} (h : Sl s 1 v xs) (hb : ∀ id, bad id → s.nx ≤ id) : SlB s bad v xs := by
  rcases h with h | ⟨id, off, cap, wr, e, cs, h1, h2, h3, h5⟩
  · exact Or.inl h
  · exact Or.inr ⟨id, off, cap, wr, e, cs, h1, h2, h3, fun h => by have := hb id h; omega, h5⟩
theorem SlB.of_own {s : HS} {bad : Nat → Prop} {o : Option Nat} {e : TypeId} {v : Value} {xs : List (List Value)} (h : Own s e 1 o v xs) (hb : ∀ id, o = some id → ¬ bad id) : SlB s bad v xs := by
  cases o with
  | none => obtain ⟨rfl, rfl⟩ := h; exact Or.inl ⟨rfl, rfl⟩
  | some id =>
    obtain ⟨h1, h2, h2', off, cap, cs, rfl, h3, h4, h5, post, h6⟩ := h
    exact Or.inr ⟨id, off, cap, true, e, cs, rfl, h4, h1, hb id rfl, fun i x hi => flat_cut (fun x hx => (h2 x hx).1) h6 h5 hi⟩
theorem SlB.same {s s' : HS} {bad : Nat → Prop} {v : Value} {xs : List (List Value)} (h : SlB s bad v xs) (hn : s.nx ≤ s'.nx) (hg : ∀ id, id < s.nx → ¬ bad id → s'.hp.get id = s.hp.get id) {bad' : Nat → Prop} (hb : ∀ id, bad' id → bad id ∨ s.nx ≤ id) : SlB s' bad' v xs := by
  rcases h with h | ⟨id, off, cap, wr, e, cs, h1, h2, h3, h4, h5⟩
  · exact Or.inl h
  · refine Or.inr ⟨id, off, cap, wr, e, cs, h1, by rw [hg id h3 h4]; exact h2, Nat.lt_of_lt_of_le h3 hn, fun h => ?_, h5⟩
    rcases hb id h with h6 | h6
    · exact h4 h6
    · omega

/-- A list of lists in memory. -/
def LlsE {α : Type} (enc : α → List Value) (t : HS) (v : Value) (ls : List (List α)) : Prop := ∃ vs : List Value, Sl t 1 v (vs.map fun r => [r]) ∧ vs.length = ls.length ∧ ∀ (i : Nat) (r : Value) (l : List α), vs[i]? = some r → ls[i]? = some l → Sl t 1 r (l.map enc)
/-- A list of lists of numbers in memory. -/
abbrev Lls (t : HS) (v : Value) (ls : List (List Int)) : Prop := LlsE encI t v ls
section
variable {α : Type} {enc : α → List Value}
theorem LlsE.keep {t t' : HS} {v : Value} {ls : List (List α)} (h : LlsE enc t v ls) (a : Ab t.nx t t') : LlsE enc t' v ls := by
  obtain ⟨vs, h1, h2, h3⟩ := h
  exact ⟨vs, h1.keep a, h2, fun i r l hr hl => (h3 i r l hr hl).keep a⟩
theorem LlsE.same {t t' : HS} {v : Value} {ls : List (List α)} (h : LlsE enc t v ls) (hn : t.nx ≤ t'.nx) (hg : ∀ id, id < t.nx → t'.hp.get id = t.hp.get id) : LlsE enc t' v ls := by
  obtain ⟨vs, h1, h2, h3⟩ := h
  exact ⟨vs, h1.same hn hg, h2, fun i r l hr hl => (h3 i r l hr hl).same hn hg⟩
theorem LlsE.shape {t : HS} {v : Value} {ls : List (List α)} (h : LlsE enc t v ls) : ∃ b c, v = .slice b ls.length c := by
  obtain ⟨vs, h1, h2, h3⟩ := h
  obtain ⟨b, c, h4⟩ := h1.shape
  exact ⟨b, c, by rw [h4, List.length_map, h2]⟩
/-- One of the lists. -/
theorem LlsE.at {t : HS} {b : Option Addr} {n c i : Nat} {ls : List (List α)} (h : LlsE enc t (.slice b n c) ls) {l : List α} (hi : ls[i]? = some l) :
    ∃ (id off : Nat) (wr : Bool) (e : TypeId) (cs : List Value) (rb : Option Addr) (rc : Nat), b = some ⟨id, off, none⟩ ∧ t.hp.get id = some (.cells wr e cs) ∧ id < t.nx ∧ cutL cs (off + i * 1) 1 = some [.slice rb (l.map enc).length rc] ∧ Sl t 1 (.slice rb (l.map enc).length rc) (l.map enc) := by
  obtain ⟨vs, h1, h2, h3⟩ := h
  have hil := (List.getElem?_eq_some_iff.1 hi).1
  have hr : vs[i]? = some vs[i] := List.getElem?_eq_getElem (by omega)
  have h4 := h3 i _ l hr hi
  obtain ⟨rb, rc, h5⟩ := h4.shape
  obtain ⟨bb, cc, h6⟩ := h1.shape
  cases h6
  obtain ⟨id, off, wr, e, cs, rfl, g1, g2, g3, _⟩ := h1.at (i := i) (x := [vs[i]]) (by simp [hr])
  rw [h5] at g3 h4
  exact ⟨id, off, wr, e, cs, rb, rc, rfl, g1, g2, g3, h4⟩
end

/-- A list of lists that is being built: its own block, and rows apart from that and from some others. -/
def Bld (t : HS) (av : Nat → Prop) (o : Option Nat) (v : Value) (ls : List (List Int)) : Prop := (∀ id, o = some id → ¬ av id) ∧ ∃ vs : List Value, Own t 35 1 o v (vs.map fun r => [r]) ∧ vs.length = ls.length ∧
  ∀ (i : Nat) (r : Value) (l : List Int), vs[i]? = some r → ls[i]? = some l → SlB t (fun id => o = some id ∨ av id) r (l.map encI)
theorem Bld.nil {t : HS} {av : Nat → Prop} : Bld t av none (.slice none 0 0) [] := ⟨fun _ h => (by cases h), [], ⟨rfl, rfl⟩, rfl, fun i r l h => by simp at h⟩
theorem Bld.lt {t : HS} {av : Nat → Prop} {o : Option Nat} {v : Value} {ls : List (List Int)} (h : Bld t av o v ls) {id : Nat} (ho : o = some id) : id < t.nx := by
  subst ho
  obtain ⟨_, vs, h1, _⟩ := h
  exact h1.lt rfl
/-- Where the list's blocks stay, it stays; others may be barred. -/
theorem Bld.same {t t' : HS} {av av' : Nat → Prop} {o : Option Nat} {v : Value} {ls : List (List Int)} (h : Bld t av o v ls) (hn : t.nx ≤ t'.nx) (hg : ∀ id, id < t.nx → ¬ av id → t'.hp.get id = t.hp.get id) (hb : ∀ id, av' id → av id ∨ t.nx ≤ id) : Bld t' av' o v ls := by
  have hlt := fun {id} ho => h.lt (id := id) ho
  obtain ⟨h0, vs, h1, h2, h3⟩ := h
  refine ⟨fun id ho ha => ?_, vs, h1.same hn fun id ho => hg id (hlt ho) (h0 id ho), h2, fun i r l hr hl => (h3 i r l hr hl).same hn (fun id h1 h2 => hg id h1 fun ha => h2 (Or.inr ha)) fun id h => ?_⟩
  · rcases hb id ha with h4 | h4
    · exact h0 id ho h4
    · have := hlt ho; omega
  · rcases h with h | h
    · exact Or.inl (Or.inl h)
    · rcases hb id h with h4 | h4
      · exact Or.inl (Or.inr h4)
      · exact Or.inr h4
theorem Bld.lls {t : HS} {av : Nat → Prop} {o : Option Nat} {v : Value} {ls : List (List Int)} (h : Bld t av o v ls) : Lls t v ls := by
  obtain ⟨_, vs, h1, h2, h3⟩ := h
  exact ⟨vs, h1.sl, h2, fun i r l hr hl => (h3 i r l hr hl).sl⟩
theorem Bld.shape {t : HS} {av : Nat → Prop} {o : Option Nat} {v : Value} {ls : List (List Int)} (h : Bld t av o v ls) : ∃ b c, v = .slice b ls.length c := by
  obtain ⟨_, vs, h1, h2, h3⟩ := h
  obtain ⟨b, c, h4⟩ := h1.shape
  exact ⟨b, c, by rw [h4, List.length_map, h2]⟩

/-- A row more. `w` is the memory with the row as a block of its own, `yid`. -/
theorem app_bld {lk : Nat} {av : Nat → Prop} {w : HS} {o : Option Nat} {v r : Value} {ls : List (List Int)} {l : List Int} {yid c : Nat} {wr : Bool} {e' : TypeId} (hB : Bld w av o v ls) (hlk : ∀ id, o = some id → lk ≤ id) (hy : w.hp.get yid = some (.cells wr e' [r])) (hr : SlB w (fun id => o = some id ∨ av id) r (l.map encI)) (hn : ls.length ≤ 1000000000) (hav : ¬ av w.nx) :
    opt (appendA Tryd.prog lk 30 v (.slice (some ⟨yid, 0, none⟩) 1 c) w) fun q => w.nx ≤ q.2.nx ∧ (∀ i, i < w.nx → o ≠ some i → q.2.hp.get i = w.hp.get i) ∧ ∃ o', Bld q.2 av o' q.1 (ls ++ [l]) ∧ (o' = o ∨ o' = some w.nx) := by
  have hlt := fun {id} ho => hB.lt (id := id) ho
  obtain ⟨h0, vs, h1, h2, h3⟩ := hB
  have hc1 : cell1 [r] = true := by
    obtain ⟨b, c', h⟩ := hr.sl.shape
    rw [h]; rfl
  refine opt_ex (app_one (lk := lk) (y := [r]) el30 sz35 by35 zr35 rfl (by decide) h1 hlk hy rfl hc1 (by simp; omega)) fun q hq => ?_
  obtain ⟨q1, q2, o', q3, q4⟩ := hq
  have hbad : ∀ id, (o' = some id ∨ av id) → (o = some id ∨ av id) ∨ w.nx ≤ id := fun id h => by
    rcases h with h | h
    · rcases q4 with rfl | rfl
      · exact Or.inl (Or.inl h)
      · cases h; exact Or.inr (Nat.le_refl _)
    · exact Or.inl (Or.inr h)
  refine ⟨q1, q2, o', ⟨fun id h => ?_, vs ++ [r], by rw [List.map_append]; exact q3, by simp [h2], fun i r' l' hr' hl' => ?_⟩, q4⟩
  · rcases q4 with rfl | rfl
    · exact h0 id h
    · cases h; exact hav
  · rw [List.getElem?_append] at hr' hl'
    rw [h2] at hr'
    split at hr'
    · rename_i hlt
      rw [if_pos hlt] at hl'
      exact (h3 i r' l' hr' hl').same q1 (fun id h h' => q2 id h fun h2 => h' (Or.inl h2)) hbad
    · rename_i hge
      rw [if_neg hge] at hl'
      have : i - ls.length = 0 := by have := (List.getElem?_eq_some_iff.1 hl').1; simp at this; omega
      rw [this] at hr' hl'
      cases hr'; cases hl'
      exact hr.same q1 (fun id h h' => q2 id h fun h2 => h' (Or.inl h2)) hbad
end Go.Ev

/- removable.hulls. -/
namespace Go.Ev
open Go Go.Proofs
set_option linter.unusedSimpArgs false
set_option linter.unusedVariables false
set_option maxRecDepth 100000
set_option maxHeartbeats 4000000
attribute [local irreducible] wpOps wpC wpD wpF wpLoop wpCall seqK blockK loopK retK T.put T.get T.setF

/-- The hulls of all nodes. -/
def hullsL (n : Nat) (es : List (Int × Int)) : List (List Value) := (List.range n).map fun i => [.int .u64 (HN n es i)]

theorem f44_spec' [Sorts Tryd.prog] (n : Nat) (es : List (Int × Int)) (ev : Value) (s : HS) (hs : Sl s 2 ev (es.map encE)) (hc : checkR n es = 0) :
    wpF Tryd.prog s.nx 44 [vG n ev] s (fun v s' => ∃ lv : Value, v = .tuple #[lv, .int .i64 0] ∧ Lls s' lv ((List.range n).map fun i => nodesL (HN n es i) n)) := by
  have hg := good_of hc
  refine (f44_spec n es ev s hs hc).mono fun v s' h => ?_
  obtain ⟨lv, vs, h1, h2, h3, h4⟩ := h
  refine ⟨lv, h1, vs, h2, by simp; omega, fun i r l hr hl => ?_⟩
  obtain ⟨l', h5, seen, h6, rfl⟩ := h4 i r hr
  have hi : i < n := by have := (List.getElem?_eq_some_iff.1 hl).1; simpa using this
  rw [List.getElem?_map, List.getElem?_range hi] at hl
  cases hl
  rw [seen_eq hg hi h6, listed_seenH] at h5
  exact h5

theorem f31_spec [Sorts Tryd.prog] (n : Nat) (es : List (Int × Int)) (ev : Value) (s : HS) (hs : Sl s 2 ev (es.map encE)) (hc : checkR n es = 0) :
    wpF Tryd.prog s.nx 31 [vG n ev] s (fun v s' => ∃ o, Own s' 60 1 o v (hullsL n es)) := by
  have hg := good_of hc
  have hn64 : n ≤ 64 := by have := hg.hi; omega
  refine wpF_of Tryd.func31 rfl rfl rfl rfl (Nat.le_refl _) ?_
  simp only [paramsA, vG]
  repeat (first
  | with_reducible first | apply ops_end | apply d_end | apply k_seq | apply k_seq_ret | apply k_seq_exit | apply k_block | apply k_block_ret | apply k_block_here | apply c_seq | apply c_block | apply c_region | apply c_skip | apply c_ret | apply c_exit | apply c_loop | apply k_loop_exit | apply k_loop_ret | apply if_t | apply if_f
  | (with_reducible apply k_block_on
     · decide)
  | ((with_reducible first | apply xOp | apply xDr | apply xIf); rfl; (simp only [Nat.reduceEqDiff, Nat.reduceAdd, ↓reduceIte, xBB, stG, opA, val, opdA, opdO, plainN, omap, binA, intBinA, loadV, readA, storeV, writeA, fieldAddrA, indexAddrA, lenA, builtinA, newA, unA, packA, Value.cells, ty28, cutL]; rfl); first | rfl | exact ⟨rfl, rfl, rfl⟩))
  have hA0 := Ab.new (lk := s.nx) s (.cells true 28 [.int .i64 n, ev])
  ((with_reducible first | apply xCa | apply xCd); rfl; (simp only [Nat.reduceEqDiff, Nat.reduceAdd, ↓reduceIte, xBB, stB, opdA, opdO, plainN, omap, val, Value.cells]; exact ⟨rfl, rfl⟩); try rfl)
  apply call_fn
  refine (f44_spec' n es ev _ (hs.keep hA0) hc).use (by first | exact Nat.le_refl _ | (simp only [cond_true, cond_false]; omega) | omega | (dsimp only; omega)) (by first | exact Nat.le_refl _ | (simp only [cond_true, cond_false]; omega) | omega | (dsimp only; omega)) fun v s1 hv hA1 => ?_
  obtain ⟨lv, rfl, hl⟩ := hv
  obtain ⟨lb, lc, rfl⟩ := hl.shape
  have hbox := hA1.get (Nat.le_refl _) (Nat.lt_succ_self s.nx)
  rw [T.get_put_eq] at hbox
  have hA01 := hA0.trans (hA1.lower (Nat.le_succ _) (Nat.le_refl _))
  have hmk : makeSliceA Tryd.prog 65 (.int .i64 n) (.int .i64 n) s1 = some (.slice (some ⟨s1.nx, 0, none⟩) n n, { hp := s1.hp.put s1.nx (some (.cells true 60 (zerosL [.int .u64 0] n))), nx := s1.nx + 1 }) := by
    unfold makeSliceA
    simp only [el65, sz60, by60, zr60, Option.bind_some]
    rw [if_pos ⟨rfl, by decide, by omega, Int.le_refl _, by omega, by omega⟩]
    rfl
  refine opt_of rfl ?_
  repeat (first
  | with_reducible first | apply ops_end | apply d_end | apply k_seq | apply k_seq_ret | apply k_seq_exit | apply k_block | apply k_block_ret | apply k_block_here | apply c_seq | apply c_block | apply c_region | apply c_skip | apply c_ret | apply c_exit | apply c_loop | apply k_loop_exit | apply k_loop_ret | apply if_t | apply if_f
  | (with_reducible apply k_block_on
     · decide)
  | ((with_reducible first | apply xOp | apply xDr | apply xIf); rfl; (simp only [Nat.reduceEqDiff, Nat.reduceAdd, ↓reduceIte, xBB, stG, opA, val, opdA, opdO, plainN, omap, binA, intBinA, loadV, readA, storeV, writeA, fieldAddrA, indexAddrA, lenA, builtinA, newA, unA, packA, Value.cells, ty28, sz28, fd28_0, fd28_1, ty3, hbox, cutL, hmk, un30]; rfl); first | rfl | exact ⟨rfl, rfl, rfl⟩))
  have hA2 := Ab.new (lk := s1.nx) s1 (.cells true 60 (zerosL [.int .u64 0] n))
  have hll : ((List.range n).map fun i => nodesL (HN n es i) n).length = n := by simp
  refine loop_k (lk' := s1.nx) (s0 := ⟨_, s1.nx + 1⟩) (fun m f t => ∃ k : Nat, k + m = n ∧ f.get 18 = some (.int .i64 k) ∧
    Own t 60 1 (some s1.nx) (.slice (some ⟨s1.nx, 0, none⟩) n n) ((List.range n).map fun i => [.int .u64 (if i < k then ((HN n es i : Nat) : Int) else 0)])) n hA01.nx (Nat.le_succ _) ?_ (Ab.refl _ _) ?_
  · refine ⟨0, by omega, by simp only [Nat.reduceEqDiff, T.get_put, ↓reduceIte]; rfl, ?_⟩
    refine Own.block (T.get_put_eq _ _ _) ?_ (Nat.lt_succ_self _) (by simp) (Or.inl rfl) (fun x hx => ?_) (by simp only [List.length_map, List.length_range]; unfold UNK; omega)
    · rw [zerosL_map]
      refine congrArg _ (List.ext_getElem? fun i => ?_)
      by_cases hi : i < n
      · rw [List.getElem?_map, List.getElem?_range hi, List.getElem?_replicate, if_pos hi]; simp
      · rw [List.getElem?_eq_none (by simp; omega), List.getElem?_eq_none (by simp; omega)]
    · obtain ⟨i, _, rfl⟩ := List.mem_map.1 hx; exact ⟨rfl, rfl⟩
  · rintro m f t ⟨k, hk, h18, hown⟩ hA hF
    (have k5 := hF 5 (by rfl); simp only [Nat.reduceEqDiff, T.get_put, ↓reduceIte] at k5; have k16 := hF 16 (by rfl); simp only [Nat.reduceEqDiff, T.get_put, ↓reduceIte] at k16; have k17 := hF 17 (by rfl); simp only [Nat.reduceEqDiff, T.get_put, ↓reduceIte] at k17)
    have hnt : s1.nx + 1 ≤ t.nx := hA.nx
    rw [hll] at k17
    by_cases hlt : (k : Int) < (n : Int)
    · have hlt' : k < n := by omega
      have hw : IntKind.i64.wrap ((k : Int) + 1) = ((k + 1 : Nat) : Int) := by rw [IntWalk.i64_in _ (by omega)]; rfl
      have hl2 : Lls t _ _ := hl.same (by omega) fun id h => by
        rw [hA.get (Nat.le_succ _) h]; exact T.get_put_ne _ _ _ (by omega)
      obtain ⟨id, off, wr, e, cs, rb, rc, rfl, g1, g2, g3, g4⟩ := hl2.at (i := k) (l := nodesL (HN n es k) n) (by rw [List.getElem?_map, List.getElem?_range hlt']; rfl)
      have hb : (0 : Int) ≤ (k : Int) ∧ (k : Int) < (n : Int) := by omega
      repeat (first
  | with_reducible first | apply ops_end | apply d_end | apply k_seq | apply k_seq_ret | apply k_seq_exit | apply k_block | apply k_block_ret | apply k_block_here | apply c_seq | apply c_block | apply c_region | apply c_skip | apply c_ret | apply c_exit | apply c_loop | apply k_loop_exit | apply k_loop_ret | apply if_t | apply if_f
  | (with_reducible apply k_block_on
     · decide)
  | ((with_reducible first | apply xOp | apply xDr | apply xIf); rfl; (simp only [Nat.reduceEqDiff, Nat.reduceAdd, ↓reduceIte, xBB, stG, opA, val, opdA, opdO, plainN, omap, binA, intBinA, loadV, readA, storeV, writeA, fieldAddrA, indexAddrA, lenA, builtinA, newA, unA, packA, Value.cells, h18, k17, hlt, k16, hll, un30, sz35, ty35, hb, g1, g3, k5]; rfl); first | rfl | exact ⟨rfl, rfl, rfl⟩))
      ((with_reducible first | apply xCa | apply xCd); rfl; (simp only [Nat.reduceEqDiff, Nat.reduceAdd, ↓reduceIte, xBB, stB, opdA, opdO, plainN, omap, val, Value.cells]; exact ⟨rfl, rfl⟩); try rfl)
      apply call_fn
      refine (f41_spec _ _ t g4 (by have := nodesL_len (HN n es k) n; omega) (fun x hx => by obtain ⟨q1, q2, _⟩ := mem_nodesL.1 hx; omega)).use (by first | exact Nat.le_refl _ | (simp only [cond_true, cond_false]; omega) | omega | (dsimp only; omega)) (Nat.le_refl _) fun v u hv hA3 => ?_
      obtain ⟨rfl, rfl⟩ := hv
      rw [bits_nodesL (HN_lt hg hlt')]
      obtain ⟨off3, cap3, cs3, hh3, w1, w2, w3⟩ := hown.set (i := k) (x := [.int .u64 (HN n es k)]) (by simp; omega) rfl rfl
      simp only [Value.slice.injEq, Option.some.injEq, Addr.mk.injEq] at hh3; obtain ⟨⟨_, rfl, _⟩, _, _⟩ := hh3
      have w2' : 0 + (k * 1 + 1) ≤ cs3.length := by rw [← Nat.add_assoc]; exact w2
      have hl1 : ([Value.int .u64 (HN n es k)] : List Value).length = 1 := rfl
      have hone : ([Value.int .u64 (HN n es k)] : List Value).all Value.oneCell' = true := rfl
      have hlo : s1.nx ≤ s1.nx := Nat.le_refl _
      refine opt_of rfl ?_
      repeat (first
  | with_reducible first | apply ops_end | apply d_end | apply k_seq | apply k_seq_ret | apply k_seq_exit | apply k_block | apply k_block_ret | apply k_block_here | apply c_seq | apply c_block | apply c_region | apply c_skip | apply c_ret | apply c_exit | apply c_loop | apply k_loop_exit | apply k_loop_ret | apply if_t | apply if_f
  | (with_reducible apply k_block_on
     · decide)
  | ((with_reducible first | apply xOp | apply xDr | apply xIf); rfl; (simp only [Nat.reduceEqDiff, Nat.reduceAdd, ↓reduceIte, xBB, stG, opA, val, opdA, opdO, plainN, omap, binA, intBinA, loadV, readA, storeV, writeA, fieldAddrA, indexAddrA, lenA, builtinA, newA, unA, packA, Value.cells, h18, un65, sz60, hb, w1, w2', hl1, hone, List.toList_toArray, hw]; rfl); first | rfl | exact ⟨rfl, rfl, rfl⟩))
      intro _ _
      refine k_loop_next (m' := m - 1) (by omega) ⟨k + 1, by omega, by simp only [Nat.reduceEqDiff, T.get_put, ↓reduceIte], ?_⟩
      have hset : ((List.range n).map fun i => [Value.int .u64 (if i < k then ((HN n es i : Nat) : Int) else 0)]).set k [.int .u64 (HN n es k)] = (List.range n).map fun i => [Value.int .u64 (if i < k + 1 then ((HN n es i : Nat) : Int) else 0)] := by
        refine List.ext_getElem? fun i => ?_
        rw [List.getElem?_set]
        by_cases hi : i < n
        · by_cases hki : k = i
          · subst hki
            rw [if_pos rfl, if_pos (by simp; omega), List.getElem?_map, List.getElem?_range hi, Option.map_some, if_pos (by omega)]
          · rw [if_neg hki, List.getElem?_map, List.getElem?_map, List.getElem?_range hi, Option.map_some, Option.map_some]
            by_cases h2 : i < k
            · rw [if_pos h2, if_pos (by omega)]
            · rw [if_neg h2, if_neg (by omega)]
        · rw [if_neg (by omega), List.getElem?_eq_none (by simp; omega), List.getElem?_eq_none (by simp; omega)]
      rw [hset] at w3
      exact w3 _ (Nat.le_refl _) (T.get_put_eq _ _ _)
    · repeat (first
  | with_reducible first | apply ops_end | apply d_end | apply k_seq | apply k_seq_ret | apply k_seq_exit | apply k_block | apply k_block_ret | apply k_block_here | apply c_seq | apply c_block | apply c_region | apply c_skip | apply c_ret | apply c_exit | apply c_loop | apply k_loop_exit | apply k_loop_ret | apply if_t | apply if_f
  | (with_reducible apply k_block_on
     · decide)
  | ((with_reducible first | apply xOp | apply xDr | apply xIf); rfl; (simp only [Nat.reduceEqDiff, Nat.reduceAdd, ↓reduceIte, xBB, stG, opA, val, opdA, opdO, plainN, omap, binA, intBinA, loadV, readA, storeV, writeA, fieldAddrA, indexAddrA, lenA, builtinA, newA, unA, packA, Value.cells, h18, k17, hlt]; rfl); first | rfl | exact ⟨rfl, rfl, rfl⟩))
      intro _ _
      repeat (first
  | with_reducible first | apply ops_end | apply d_end | apply k_seq | apply k_seq_ret | apply k_seq_exit | apply k_block | apply k_block_ret | apply k_block_here | apply c_seq | apply c_block | apply c_region | apply c_skip | apply c_ret | apply c_exit | apply c_loop | apply k_loop_exit | apply k_loop_ret | apply if_t | apply if_f
  | (with_reducible apply k_block_on
     · decide)
  | ((with_reducible first | apply xOp | apply xDr | apply xIf); rfl; (simp only [Nat.reduceEqDiff, Nat.reduceAdd, ↓reduceIte, xBB, stG, opA, val, opdA, opdO, plainN, omap, binA, intBinA, loadV, readA, storeV, writeA, fieldAddrA, indexAddrA, lenA, builtinA, newA, unA, packA, Value.cells, k5]; rfl); first | rfl | exact ⟨rfl, rfl, rfl⟩))
      intro _
      ((with_reducible first | apply ret_i | apply ret_n); (simp only [Nat.reduceEqDiff, Nat.reduceAdd, ↓reduceIte, xBB, resA, opdA, opdO, plainN, omap, val, loadV, readA, packA]; rfl))
      refine ⟨some s1.nx, ?_⟩
      have hkn : k = n := by omega
      subst hkn
      have he : hullsL k es = (List.range k).map fun i => [Value.int .u64 (if i < k then ((HN k es i : Nat) : Int) else 0)] := by
        refine List.map_congr_left fun i hi => ?_
        rw [if_pos (List.mem_range.1 hi)]
      rw [he]; exact hown
end Go.Ev

/- graph.components. -/
namespace Go.Ev
open Go Go.Proofs
set_option linter.unusedSimpArgs false
set_option linter.unusedVariables false
set_option maxRecDepth 100000
set_option maxHeartbeats 4000000
attribute [local irreducible] wpOps wpC wpD wpF wpLoop wpCall seqK blockK loopK retK T.put T.get T.setF

theorem f62_spec' [Sorts Tryd.prog] (n : Nat) (es : List (Int × Int)) (ev : Value) (s : HS) (hs : Sl s 2 ev (es.map encE)) (hg : GoodG n es) :
    wpF Tryd.prog s.nx 62 [vG n ev] s (fun v s' => LlsE encB s' v ((List.range n).map (seenH n es))) := by
  refine (f62_spec n es ev s hs hg).mono fun v s' h => ?_
  obtain ⟨ob, vs, h1, h2, h3, h4⟩ := h
  refine ⟨vs, h2.sl, by simp; omega, fun i r l hr hl => ?_⟩
  obtain ⟨o, seen, h5, h6, h7⟩ := h4 i r hr
  have hi : i < n := by have := (List.getElem?_eq_some_iff.1 hl).1; simpa using this
  rw [List.getElem?_map, List.getElem?_range hi] at hl
  cases hl
  rw [← seen_eq hg hi h7]
  exact h6.sl

/-- The components, by their first nodes below a number. -/
def compsL (n : Nat) (es : List (Int × Int)) (k : Nat) : List (List Int) := (reps n es k).map fun r => nodesL (compN n es r) n
theorem compsL_len (n : Nat) (es : List (Int × Int)) (k : Nat) : (compsL n es k).length = (reps n es k).length := List.length_map _
/-- The number of the component of each node, of those whose first node lies below a number; -1 for the others. -/
def OfOK (n : Nat) (es : List (Int × Int)) (k : Nat) (L : List Int) : Prop := L.length = n ∧ ∀ x, x < n →
  (∀ r, r < k → isRep n es r = true → mutB n es r x = true → L[x]? = some ((reps n es r).length : Int)) ∧ ((∀ r, r < k → mutB n es r x = false) → L[x]? = some (-1))

theorem ofOK_skip {n : Nat} {es : List (Int × Int)} {k : Nat} {L : List Int} (hr : isRep n es k = false) (h : OfOK n es k L) : OfOK n es (k + 1) L := by
  refine ⟨h.1, fun x hx => ⟨fun r h1 h2 h3 => ?_, fun h1 => (h.2 x hx).2 fun r h2 => h1 r (by omega)⟩⟩
  by_cases hk : r = k
  · subst hk; rw [hr] at h2; cases h2
  · exact (h.2 x hx).1 r (by omega) h2 h3
theorem ofOK_step {n : Nat} {es : List (Int × Int)} (hg : GoodG n es) {k : Nat} {L L' : List Int} (hk : k < n) (hr : isRep n es k = true) (h : OfOK n es k L) (hl : L'.length = n) (hs : ∀ x, x < n → L'[x]? = if k ≤ x ∧ x < n ∧ mutB n es k x = true then some ((reps n es k).length : Int) else L[x]?) : OfOK n es (k + 1) L' := by
  refine ⟨hl, fun x hx => ⟨fun r h1 h2 h3 => ?_, fun h1 => ?_⟩⟩
  · rw [hs x hx]
    by_cases hk2 : r = k
    · subst hk2
      have hle : r ≤ x := Nat.le_of_not_lt fun hlt => by
        have := isRep_iff.1 hr x hlt
        rw [h3] at this; cases this
      rw [if_pos ⟨hle, hx, h3⟩]
    · rw [if_neg]
      · exact (h.2 x hx).1 r (by omega) h2 h3
      · rintro ⟨_, _, h6⟩
        exact hk2 (rep_uniq hg hx (by omega) hk h2 h3 hr h6)
  · rw [hs x hx, if_neg]
    · exact (h.2 x hx).2 fun r h2 => h1 r (by omega)
    · rintro ⟨_, _, h3⟩
      rw [h1 k (by omega)] at h3; cases h3
theorem ofOK_at {n : Nat} {es : List (Int × Int)} (hg : GoodG n es) {k : Nat} {L : List Int} (hk : k < n) (h : OfOK n es k L) : ∃ z : Int, L[k]? = some z ∧ (isRep n es k = true → z = -1) ∧ (isRep n es k = false → 0 ≤ z) := by
  by_cases hr : isRep n es k = true
  · refine ⟨-1, (h.2 k hk).2 fun r h1 => ?_, fun _ => rfl, fun h2 => by rw [hr] at h2; cases h2⟩
    rw [mut_symm]; exact isRep_iff.1 hr r h1
  · obtain ⟨r, h1, h2, h3⟩ := rep_ex hg hk
    have hlt : r < k := by
      rcases Nat.lt_or_ge r k with h4 | h4
      · exact h4
      · have : r = k := by omega
        subst this; exact absurd h2 hr
    exact ⟨_, (h.2 k hk).1 r hlt h2 h3, fun h4 => absurd h4 hr, fun _ => by omega⟩
theorem comp_start {n : Nat} {es : List (Int × Int)} {k : Nat} (hr : isRep n es k = true) : nodesL (compN n es k) k = [] := by
  refine List.eq_nil_iff_forall_not_mem.2 fun x hx => ?_
  obtain ⟨h1, h2, h3⟩ := mem_nodesL.1 hx
  rw [compN_bit] at h3
  have := isRep_iff.1 hr x.toNat (by omega)
  rw [this] at h3; simp at h3

theorem f50_spec [Sorts Tryd.prog] (n : Nat) (es : List (Int × Int)) (ev : Value) (s : HS) (hs : Sl s 2 ev (es.map encE)) (hg : GoodG n es) :
    wpF Tryd.prog s.nx 50 [vG n ev] s (fun v s' => ∃ (ov fv : Value) (L : List Int), v = .tuple #[ov, fv] ∧ Lls s' ov (compsL n es n) ∧ Sl s' 1 fv (L.map encI) ∧ OfOK n es n L) := by
  have hn64 : n ≤ 64 := by have := hg.hi; omega
  refine wpF_of Tryd.func50 rfl rfl rfl rfl (Nat.le_refl _) ?_
  simp only [paramsA, vG]
  repeat (first
  | with_reducible first | apply ops_end | apply d_end | apply k_seq | apply k_seq_ret | apply k_seq_exit | apply k_block | apply k_block_ret | apply k_block_here | apply c_seq | apply c_block | apply c_region | apply c_skip | apply c_ret | apply c_exit | apply c_loop | apply k_loop_exit | apply k_loop_ret | apply if_t | apply if_f
  | (with_reducible apply k_block_on
     · decide)
  | ((with_reducible first | apply xOp | apply xDr | apply xIf); rfl; (simp only [Nat.reduceEqDiff, Nat.reduceAdd, ↓reduceIte, xBB, stG, opA, val, opdA, opdO, plainN, omap, binA, intBinA, loadV, readA, storeV, writeA, fieldAddrA, indexAddrA, lenA, builtinA, newA, unA, packA, Value.cells]; rfl); first | rfl | exact ⟨rfl, rfl, rfl⟩))
  have hA0 := Ab.new (lk := s.nx) s (.cells true 28 [.int .i64 n, ev])
  refine c_draw [⟨false, [], none⟩, ⟨false, [], none⟩, ⟨false, [], none⟩, ⟨false, [0, 1], none⟩, ⟨false, [0, 1], none⟩, ⟨false, [], none⟩, ⟨true, [], none⟩] (by kernel_rfl) ?_
  repeat (first
  | with_reducible first | apply ops_end | apply d_end | apply k_seq | apply k_seq_ret | apply k_seq_exit | apply k_block | apply k_block_ret | apply k_block_here | apply c_seq | apply c_block | apply c_region | apply c_skip | apply c_ret | apply c_exit | apply c_loop | apply k_loop_exit | apply k_loop_ret | apply if_t | apply if_f
  | (with_reducible apply k_block_on
     · decide)
  | ((with_reducible first | apply xOp | apply xDr | apply xIf); rfl; (simp only [Nat.reduceEqDiff, Nat.reduceAdd, ↓reduceIte, xBB, stG, opA, val, opdA, opdO, plainN, omap, binA, intBinA, loadV, readA, storeV, writeA, fieldAddrA, indexAddrA, lenA, builtinA, newA, unA, packA, Value.cells, ty28, cutL]; rfl); first | rfl | exact ⟨rfl, rfl, rfl⟩))
  ((with_reducible first | apply xCa | apply xCd); rfl; (simp only [Nat.reduceEqDiff, Nat.reduceAdd, ↓reduceIte, xBB, stB, opdA, opdO, plainN, omap, val, Value.cells]; exact ⟨rfl, rfl⟩); try rfl)
  apply call_fn
  refine (f62_spec' n es ev _ (hs.keep hA0) hg).use (by first | exact Nat.le_refl _ | (simp only [cond_true, cond_false]; omega) | omega | (dsimp only; omega)) (by first | exact Nat.le_refl _ | (simp only [cond_true, cond_false]; omega) | omega | (dsimp only; omega)) fun v s1 hv hA1 => ?_
  have hl1 := hv
  obtain ⟨rb, rc, rfl⟩ := hl1.shape
  have hn1 := hA1.nx
  dsimp only at hn1
  have hbox := hA1.get (Nat.le_refl _) (Nat.lt_succ_self s.nx)
  rw [T.get_put_eq] at hbox
  have hA01 := hA0.trans (hA1.lower (Nat.le_succ _) (Nat.le_refl _))
  refine opt_of rfl ?_
  repeat (first
  | with_reducible first | apply ops_end | apply d_end | apply k_seq | apply k_seq_ret | apply k_seq_exit | apply k_block | apply k_block_ret | apply k_block_here | apply c_seq | apply c_block | apply c_region | apply c_skip | apply c_ret | apply c_exit | apply c_loop | apply k_loop_exit | apply k_loop_ret | apply if_t | apply if_f
  | (with_reducible apply k_block_on
     · decide)
  | ((with_reducible first | apply xOp | apply xDr | apply xIf); rfl; (simp only [Nat.reduceEqDiff, Nat.reduceAdd, ↓reduceIte, xBB, stG, opA, val, opdA, opdO, plainN, omap, binA, intBinA, loadV, readA, storeV, writeA, fieldAddrA, indexAddrA, lenA, builtinA, newA, unA, packA, Value.cells, fd28_0]; rfl); first | rfl | exact ⟨rfl, rfl, rfl⟩))
  (first
      | (with_reducible apply d_lowS (lo := s.nx + 1)
         · rfl
         · rfl
         · rfl
         · (intro m hm hmm; simp only [List.mem_cons, List.not_mem_nil, or_false] at hm; first | (obtain rfl := hm; dsimp only; omega) | (rcases hm with rfl | rfl <;> first | omega | (dsimp only; omega) | (exfalso; revert hmm; decide)) | (rcases hm with rfl | rfl | rfl <;> first | omega | (dsimp only; omega) | (exfalso; revert hmm; decide)))
         · (intro sh hshn hshg; have l_hbox := (hshg _ (by omega)).trans hbox; simp only [Nat.reduceEqDiff, opA, val, opdA, opdO, T.get_put, ↓reduceIte, Nat.add_assoc, Nat.reduceAdd, Nat.left_eq_add, Nat.add_eq_left, Nat.add_left_cancel_iff, Nat.add_zero, plainN, omap, Option.map_some, Option.bind_some, Nat.le_add_right, Nat.le_refl, binA, intBinA, loadV, readA, storeV, writeA, fieldAddrA, indexAddrA, lenA, builtinA, newA, unA, packA, if_true, and_self, and_true, true_and, Value.cells, Int.toNat_natCast, decide_true, decide_false, cond_true, cond_false, ty3, cutL, l_hbox]; rfl)
         · rfl))
  intro s2 h2n h2g
  have hmk : ∀ s : HS, makeSliceA Tryd.prog 35 (.int .i64 n) (.int .i64 n) s = some (.slice (some ⟨s.nx, 0, none⟩) n n, { hp := s.hp.put s.nx (some (.cells true 3 (zerosL [.int .i64 0] n))), nx := s.nx + 1 }) := fun s => by
    unfold makeSliceA
    simp only [el35, sz3, by3, zr3, Option.bind_some]
    rw [if_pos ⟨rfl, by decide, by omega, Int.le_refl _, by omega, by omega⟩]
    rfl
  refine d_low (lo := 0) rfl rfl rfl (by (intro m hm hmm; simp only [List.mem_cons, List.not_mem_nil, or_false] at hm; first | (obtain rfl := hm; dsimp only; omega) | (rcases hm with rfl | rfl <;> first | omega | (dsimp only; omega) | (exfalso; revert hmm; decide)) | (rcases hm with rfl | rfl | rfl <;> first | omega | (dsimp only; omega) | (exfalso; revert hmm; decide)))) fun sh hshn hshg => ?_
  refine ⟨_, by (simp only [Nat.reduceEqDiff, opA, val, opdA, opdO, T.get_put, ↓reduceIte, Nat.add_assoc, Nat.reduceAdd, Nat.left_eq_add, Nat.add_eq_left, Nat.add_left_cancel_iff, Nat.add_zero, plainN, omap, Option.map_some, Option.bind_some, Nat.le_add_right, Nat.le_refl, binA, intBinA, loadV, readA, storeV, writeA, fieldAddrA, indexAddrA, lenA, builtinA, newA, unA, packA, if_true, and_self, and_true, true_and, Value.cells, Int.toNat_natCast, decide_true, decide_false, cond_true, cond_false, hmk]; rfl), ?_⟩
  refine opt_of rfl ?_
  intro s3 hA3 h3n h3g
  dsimp only at h3n h3g
  have hof3 : s3.hp.get s1.nx = some (.cells true 3 (zerosL [.int .i64 0] n)) := by
    rw [h3g _ (by omega), T.get_put, if_pos (by omega)]
  have hsame3 : ∀ id, id < s1.nx → s3.hp.get id = s1.hp.get id := fun id h => by
    rw [hA3.get (Nat.le_refl _) (by omega)]; exact h2g id
  have hn3 : s3.nx = s1.nx + 1 := by omega
  have hl3 : LlsE encB s3 _ _ := hl1.same (by omega) hsame3
  have hbox3 := (hsame3 s.nx (by omega)).trans hbox
  have hlen : ((List.range n).map (seenH n es)).length = n := by simp
  have hsh : sh.nx = s1.nx := by omega
  have hof0 : Own s3 3 1 (some s1.nx) (.slice (some ⟨s1.nx, 0, none⟩) n n) ((List.replicate n (0 : Int)).map encI) := by
    refine Own.block hof3 ?_ (by omega) (by simp) (Or.inl rfl) (fun x hx => ?_) (by simp only [List.length_map, List.length_replicate]; unfold UNK; omega)
    · rw [zerosL_map, List.map_replicate]; rfl
    · obtain ⟨y, _, rfl⟩ := List.mem_map.1 hx; exact ⟨rfl, rfl⟩
  refine opt_of rfl ?_
  repeat (first
  | with_reducible first | apply ops_end | apply d_end | apply k_seq | apply k_seq_ret | apply k_seq_exit | apply k_block | apply k_block_ret | apply k_block_here | apply c_seq | apply c_block | apply c_region | apply c_skip | apply c_ret | apply c_exit | apply c_loop | apply k_loop_exit | apply k_loop_ret | apply if_t | apply if_f
  | (with_reducible apply k_block_on
     · decide)
  | ((with_reducible first | apply xOp | apply xDr | apply xIf); rfl; (simp only [Nat.reduceEqDiff, Nat.reduceAdd, ↓reduceIte, xBB, stG, opA, val, opdA, opdO, plainN, omap, binA, intBinA, loadV, readA, storeV, writeA, fieldAddrA, indexAddrA, lenA, builtinA, newA, unA, packA, Value.cells, un35]; rfl); first | rfl | exact ⟨rfl, rfl, rfl⟩))
  refine loop_k (lk' := s1.nx) (s0 := s3) (fun m f t => ∃ k : Nat, k + m = n ∧ f.get 18 = some (.int .i64 k) ∧ ∃ L : List Int, Own t 3 1 (some s1.nx) (.slice (some ⟨s1.nx, 0, none⟩) n n) (L.map encI) ∧ L.length = n ∧ ∀ x, x < k → L[x]? = some (-1)) n (by omega) (by omega) ?_ (Ab.refl _ _) ?_
  · exact ⟨0, by omega, by simp only [Nat.reduceEqDiff, T.get_put, ↓reduceIte]; rfl, _, hof0, by simp, fun x h => by omega⟩
  · rintro m f t ⟨k, hk, h18, L, hof, hL, hLs⟩ hA hF
    (have k1 := hF 1 (by rfl); simp only [Nat.reduceEqDiff, T.get_put, ↓reduceIte, hshn, h2n] at k1; have k4 := hF 4 (by rfl); simp only [Nat.reduceEqDiff, T.get_put, ↓reduceIte, hshn, h2n] at k4; have k5 := hF 5 (by rfl); simp only [Nat.reduceEqDiff, T.get_put, ↓reduceIte, hshn, h2n] at k5; have k17 := hF 17 (by rfl); simp only [Nat.reduceEqDiff, T.get_put, ↓reduceIte, hshn, h2n] at k17)
    have hnt := hA.nx
    by_cases hlt : (k : Int) < (n : Int)
    · have hlt' : k < n := by omega
      have hw : IntKind.i64.wrap ((k : Int) + 1) = ((k + 1 : Nat) : Int) := by rw [IntWalk.i64_in _ (by omega)]; rfl
      have hb : (0 : Int) ≤ (k : Int) ∧ (k : Int) < (n : Int) := by omega
      obtain ⟨off3, cap3, cs3, hh3, w1, w2, w3⟩ := hof.set (i := k) (x := [.int .i64 (-1)]) (by simp; omega) rfl rfl
      simp only [Value.slice.injEq, Option.some.injEq, Addr.mk.injEq] at hh3; obtain ⟨⟨_, rfl, _⟩, _, _⟩ := hh3
      have w2' : 0 + (k * 1 + 1) ≤ cs3.length := by rw [← Nat.add_assoc]; exact w2
      have hl1 : ([Value.int .i64 (-1)] : List Value).length = 1 := rfl
      have hone : ([Value.int .i64 (-1)] : List Value).all Value.oneCell' = true := rfl
      have hlo : s1.nx ≤ s1.nx := Nat.le_refl _
      repeat (first
  | with_reducible first | apply ops_end | apply d_end | apply k_seq | apply k_seq_ret | apply k_seq_exit | apply k_block | apply k_block_ret | apply k_block_here | apply c_seq | apply c_block | apply c_region | apply c_skip | apply c_ret | apply c_exit | apply c_loop | apply k_loop_exit | apply k_loop_ret | apply if_t | apply if_f
  | (with_reducible apply k_block_on
     · decide)
  | ((with_reducible first | apply xOp | apply xDr | apply xIf); rfl; (simp only [Nat.reduceEqDiff, Nat.reduceAdd, ↓reduceIte, xBB, stG, opA, val, opdA, opdO, plainN, omap, binA, intBinA, loadV, readA, storeV, writeA, fieldAddrA, indexAddrA, lenA, builtinA, newA, unA, packA, Value.cells, h18, k17, hlt, k5, un35, sz3, hb, w1, w2', hl1, hone, List.toList_toArray, hw]; rfl); first | rfl | exact ⟨rfl, rfl, rfl⟩))
      intro _ _
      refine k_loop_next (m' := m - 1) (by omega) ⟨k + 1, by omega, by simp only [Nat.reduceEqDiff, T.get_put, ↓reduceIte], L.set k (-1), ?_, by simp [hL], fun x hx => ?_⟩
      · rw [List.map_set]
        exact w3 _ (Nat.le_refl _) (T.get_put_eq _ _ _)
      · rw [List.getElem?_set]
        by_cases hkx : k = x
        · subst hkx; rw [if_pos rfl, if_pos (by omega)]
        · rw [if_neg hkx]; exact hLs x (by omega)
    · repeat (first
  | with_reducible first | apply ops_end | apply d_end | apply k_seq | apply k_seq_ret | apply k_seq_exit | apply k_block | apply k_block_ret | apply k_block_here | apply c_seq | apply c_block | apply c_region | apply c_skip | apply c_ret | apply c_exit | apply c_loop | apply k_loop_exit | apply k_loop_ret | apply if_t | apply if_f
  | (with_reducible apply k_block_on
     · decide)
  | ((with_reducible first | apply xOp | apply xDr | apply xIf); rfl; (simp only [Nat.reduceEqDiff, Nat.reduceAdd, ↓reduceIte, xBB, stG, opA, val, opdA, opdO, plainN, omap, binA, intBinA, loadV, readA, storeV, writeA, fieldAddrA, indexAddrA, lenA, builtinA, newA, unA, packA, Value.cells, h18, k17, hlt]; rfl); first | rfl | exact ⟨rfl, rfl, rfl⟩))
      intro _ _
      have hkn : k = n := by omega
      clear hF
      have hOf0 : OfOK n es 0 L := ⟨hL, fun x hx => ⟨fun r h => by omega, fun _ => hLs x (by omega)⟩⟩
      have hbox4 : t.hp.get s.nx = _ := (hA.get (by omega) (by omega)).trans hbox3
      repeat (first
  | with_reducible first | apply ops_end | apply d_end | apply k_seq | apply k_seq_ret | apply k_seq_exit | apply k_block | apply k_block_ret | apply k_block_here | apply c_seq | apply c_block | apply c_region | apply c_skip | apply c_ret | apply c_exit | apply c_loop | apply k_loop_exit | apply k_loop_ret | apply if_t | apply if_f
  | (with_reducible apply k_block_on
     · decide)
  | ((with_reducible first | apply xOp | apply xDr | apply xIf); rfl; (simp only [Nat.reduceEqDiff, Nat.reduceAdd, ↓reduceIte, xBB, stG, opA, val, opdA, opdO, plainN, omap, binA, intBinA, loadV, readA, storeV, writeA, fieldAddrA, indexAddrA, lenA, builtinA, newA, unA, packA, Value.cells, un35, k5]; rfl); first | rfl | exact ⟨rfl, rfl, rfl⟩))
      have b1 := k1; have b4 := k4; have b5 := k5
      refine loop_k (lk' := s1.nx) (s0 := t) (fun m f t => ∃ k : Nat, k + m = n ∧ f.get 27 = some (.int .i64 k) ∧ ∃ (o : Option Nat) (v : Value) (L : List Int), f.get 7 = some v ∧ Bld t (fun id => id ≤ s1.nx) o v (compsL n es k) ∧ Own t 3 1 (some s1.nx) (.slice (some ⟨s1.nx, 0, none⟩) n n) (L.map encI) ∧ OfOK n es k L) n (by omega) (by omega) ?_ (Ab.refl _ _) ?_
      · exact ⟨0, by omega, by simp only [Nat.reduceEqDiff, T.get_put, ↓reduceIte]; rfl, none, _, L, by simp only [Nat.reduceEqDiff, T.get_put, ↓reduceIte], Bld.nil, hof, hOf0⟩
      · clear h18 k17 hlt hkn hk hOf0 hLs hL hof
        rintro m2 f2 t2 ⟨k, hk, h27, o, v, L, h7, hB, hof, hOK⟩ hA2 hF
        (have k1 := hF 1 (by rfl); simp only [Nat.reduceEqDiff, T.get_put, ↓reduceIte, b1, b4, b5] at k1; have k4 := hF 4 (by rfl); simp only [Nat.reduceEqDiff, T.get_put, ↓reduceIte, b1, b4, b5] at k4; have k5 := hF 5 (by rfl); simp only [Nat.reduceEqDiff, T.get_put, ↓reduceIte, b1, b4, b5] at k5; have k26 := hF 26 (by rfl); simp only [Nat.reduceEqDiff, T.get_put, ↓reduceIte, b1, b4, b5] at k26)
        have hnt2 := hA2.nx
        have hl5 : LlsE encB t2 _ _ := hl1.same (by omega) fun id h => (hA2.get (by omega) h).trans ((hA.get (by omega) h).trans (hsame3 id h))
        have hbox5 := (hA2.get (by omega) (show s.nx < s1.nx by omega)).trans hbox4
        by_cases hlt : (k : Int) < (n : Int)
        · have hlt' : k < n := by omega
          have hw : IntKind.i64.wrap ((k : Int) + 1) = ((k + 1 : Nat) : Int) := by rw [IntWalk.i64_in _ (by omega)]; rfl
          have hb : (0 : Int) ≤ (k : Int) ∧ (k : Int) < (n : Int) := by omega
          obtain ⟨z, hz, hz1, hz2⟩ := ofOK_at hg hlt' hOK
          have hofs := hof.sl
          rw [show n = (L.map encI).length by rw [List.length_map]; exact hOK.1.symm] at hofs
          obtain ⟨id, off, wr, e, cs, hh, g1, g2, g3, g4⟩ := hofs.at (i := k) (x := encI z) (by simp [hz])
          cases hh
          simp only [encI] at g3
          cases hr : isRep n es k with
          | false =>
            have hz3 : z ≥ 0 := hz2 hr
            repeat (first
  | with_reducible first | apply ops_end | apply d_end | apply k_seq | apply k_seq_ret | apply k_seq_exit | apply k_block | apply k_block_ret | apply k_block_here | apply c_seq | apply c_block | apply c_region | apply c_skip | apply c_ret | apply c_exit | apply c_loop | apply k_loop_exit | apply k_loop_ret | apply if_t | apply if_f
  | (with_reducible apply k_block_on
     · decide)
  | ((with_reducible first | apply xOp | apply xDr | apply xIf); rfl; (simp only [Nat.reduceEqDiff, Nat.reduceAdd, ↓reduceIte, xBB, stG, opA, val, opdA, opdO, plainN, omap, binA, intBinA, loadV, readA, storeV, writeA, fieldAddrA, indexAddrA, lenA, builtinA, newA, unA, packA, Value.cells, h27, k26, hlt, k5, un35, sz3, ty3, hb, g1, g3, hz3, hw]; rfl); first | rfl | exact ⟨rfl, rfl, rfl⟩))
            intro _ _
            refine k_loop_next (m' := m2 - 1) (by omega) ⟨k + 1, by omega, by simp only [Nat.reduceEqDiff, T.get_put, ↓reduceIte], o, v, L, by simp only [Nat.reduceEqDiff, T.get_put, ↓reduceIte]; exact h7, ?_, hof, ofOK_skip hr hOK⟩
            have : compsL n es (k + 1) = compsL n es k := by unfold compsL; rw [reps_succ, hr]; simp
            rw [this]; exact hB
          | true =>
            have hz3 : ¬ z ≥ 0 := by have := hz1 hr; omega
            obtain ⟨vb, vc, hv⟩ := hB.shape
            rw [compsL_len] at hv; subst hv
            repeat (first
  | with_reducible first | apply ops_end | apply d_end | apply k_seq | apply k_seq_ret | apply k_seq_exit | apply k_block | apply k_block_ret | apply k_block_here | apply c_seq | apply c_block | apply c_region | apply c_skip | apply c_ret | apply c_exit | apply c_loop | apply k_loop_exit | apply k_loop_ret | apply if_t | apply if_f
  | (with_reducible apply k_block_on
     · decide)
  | ((with_reducible first | apply xOp | apply xDr | apply xIf); rfl; (simp only [Nat.reduceEqDiff, Nat.reduceAdd, ↓reduceIte, xBB, stG, opA, val, opdA, opdO, plainN, omap, binA, intBinA, loadV, readA, storeV, writeA, fieldAddrA, indexAddrA, lenA, builtinA, newA, unA, packA, Value.cells, h27, k26, hlt, k5, un35, sz3, ty3, hb, g1, g3, hz3]; rfl); first | rfl | exact ⟨rfl, rfl, rfl⟩))
            have c1 := k1; have c4 := k4; have c5 := k5; have c26 := k26
            refine loop_k (lk' := s1.nx) (s0 := t2) (fun m f t => ∃ j : Nat, j + m = n ∧ k ≤ j ∧ f.get 10 = some (.int .i64 j) ∧ ∃ (ol : Option Nat) (lv : Value) (L' : List Int), f.get 9 = some lv ∧ Own t 3 1 ol lv ((nodesL (compN n es k) j).map encI) ∧ (∀ id, ol = some id → t2.nx ≤ id) ∧ Bld t (fun id => id ≤ s1.nx ∨ t2.nx ≤ id) o (.slice vb (reps n es k).length vc) (compsL n es k) ∧ Own t 3 1 (some s1.nx) (.slice (some ⟨s1.nx, 0, none⟩) n n) (L'.map encI) ∧ L'.length = n ∧ ∀ x, x < n → L'[x]? = if k ≤ x ∧ x < j ∧ mutB n es k x = true then some ((reps n es k).length : Int) else L[x]?) (n - k) (by omega) (by omega) ?_ (Ab.refl _ _) ?_
            · refine ⟨k, by omega, Nat.le_refl _, by simp only [Nat.reduceEqDiff, T.get_put, ↓reduceIte], none, .slice none 0 0, L, by simp only [Nat.reduceEqDiff, T.get_put, ↓reduceIte], ?_, fun id h => (by cases h), hB.same (Nat.le_refl _) (fun id _ _ => rfl) (fun id h => h), hof, hOK.1, fun x hx => ?_⟩
              · rw [comp_start hr]; exact ⟨rfl, rfl⟩
              · rw [if_neg (by omega)]
            · clear hF
              have c7 := h7; have c27 := h27
              rintro m3 f3 t3 ⟨j, hj, hkj, h10, ol, lv, L', h9, hol, hoi, hB3, hof3, hL3, hLx⟩ hA3 hF
              (have k1 := hF 1 (by rfl); simp only [Nat.reduceEqDiff, T.get_put, ↓reduceIte, c1, c4, c5, c7, c26, c27] at k1; have k4 := hF 4 (by rfl); simp only [Nat.reduceEqDiff, T.get_put, ↓reduceIte, c1, c4, c5, c7, c26, c27] at k4; have k5 := hF 5 (by rfl); simp only [Nat.reduceEqDiff, T.get_put, ↓reduceIte, c1, c4, c5, c7, c26, c27] at k5; have k7 := hF 7 (by rfl); simp only [Nat.reduceEqDiff, T.get_put, ↓reduceIte, c1, c4, c5, c7, c26, c27] at k7; have k8 := hF 8 (by rfl); simp only [Nat.reduceEqDiff, T.get_put, ↓reduceIte, c1, c4, c5, c7, c26, c27] at k8; have k26 := hF 26 (by rfl); simp only [Nat.reduceEqDiff, T.get_put, ↓reduceIte, c1, c4, c5, c7, c26, c27] at k26; have k27 := hF 27 (by rfl); simp only [Nat.reduceEqDiff, T.get_put, ↓reduceIte, c1, c4, c5, c7, c26, c27] at k27)
              have hnt3 := hA3.nx
              have hbox6 := (hA3.get (by omega) (show s.nx < s1.nx by omega)).trans hbox5
              by_cases hjl : (j : Int) < (n : Int)
              · have hjl' : j < n := by omega
                have hw2 : IntKind.i64.wrap ((j : Int) + 1) = ((j + 1 : Nat) : Int) := by rw [IntWalk.i64_in _ (by omega)]; rfl
                have hl6 : LlsE encB t3 _ _ := hl1.same (by omega) fun id h => (hA3.get (by omega) h).trans ((hA2.get (by omega) h).trans ((hA.get (by omega) h).trans (hsame3 id h)))
                obtain ⟨id1, off1, wr1, e1, cs1, rb1, rc1, rfl, a1, a2, a3, a4⟩ := hl6.at (i := k) (l := seenH n es k) (by rw [List.getElem?_map, List.getElem?_range hlt']; rfl)
                obtain ⟨id2, off2, wr2, e2, cs2, rb2, rc2, hh2, b1', b2', b3, b4'⟩ := hl6.at (i := j) (l := seenH n es j) (by rw [List.getElem?_map, List.getElem?_range hjl']; rfl)
                cases hh2
                rw [a1] at b1'
                cases b1'
                have hrow : ∀ i, ((seenH n es i).map encB).length = n := fun i => by unfold seenH; simp
                have hel : ∀ i x, x < n → ((seenH n es i).map encB)[x]? = some (encB ((HN n es i).testBit x)) := fun i x hx => by
                  unfold seenH; rw [List.getElem?_map, List.getElem?_map, List.getElem?_range hx]; rfl
                obtain ⟨id3, off3, wr3, e3, cs3, rfl, p1, p2, p3, p4⟩ := a4.at (i := j) (hel k j hjl')
                obtain ⟨id4, off4, wr4, e4, cs4, rfl, r1, r2, r3, r4⟩ := b4'.at (i := k) (hel j k hlt')
                simp only [encB] at p3 r3
                have hbj : (0 : Int) ≤ (j : Int) ∧ (j : Int) < (n : Int) := by omega
                have hc0 : cutL [Value.int .i64 (n : Int), ev] 0 1 = some [Value.int .i64 n] := rfl
                have hskip : mutB n es k j = false → nodesL (compN n es k) (j + 1) = nodesL (compN n es k) j ∧ ∀ x, x < n → L'[x]? = if k ≤ x ∧ x < j + 1 ∧ mutB n es k x = true then some ((reps n es k).length : Int) else L[x]? := fun hm => by
                  refine ⟨?_, fun x hx => ?_⟩
                  · rw [nodesL_succ, compN_bit, hm]; simp
                  · rw [hLx x hx]
                    by_cases hxj : x = j
                    · subst hxj; rw [hm]; simp
                    · by_cases h1 : k ≤ x ∧ x < j ∧ mutB n es k x = true
                      · rw [if_pos h1, if_pos ⟨h1.1, by omega, h1.2.2⟩]
                      · rw [if_neg h1, if_neg fun h2 => h1 ⟨h2.1, by omega, h2.2.2⟩]
                cases hb1 : (HN n es k).testBit j with
                | false =>
                  rw [hb1] at p3
                  repeat (first
  | with_reducible first | apply ops_end | apply d_end | apply k_seq | apply k_seq_ret | apply k_seq_exit | apply k_block | apply k_block_ret | apply k_block_here | apply c_seq | apply c_block | apply c_region | apply c_skip | apply c_ret | apply c_exit | apply c_loop | apply k_loop_exit | apply k_loop_ret | apply if_t | apply if_f
  | (with_reducible apply k_block_on
     · decide)
  | ((with_reducible first | apply xOp | apply xDr | apply xIf); rfl; (simp only [Nat.reduceEqDiff, Nat.reduceAdd, ↓reduceIte, xBB, stG, opA, val, opdA, opdO, plainN, omap, binA, intBinA, loadV, readA, storeV, writeA, fieldAddrA, indexAddrA, lenA, builtinA, newA, unA, packA, Value.cells, h10, k1, fd28_0, ty3, hbox6, hc0, hjl, k4, k8, un100, sz95, ty95, hlen, hb, hbj, a1, a3, b3, hrow, un95, sz4, ty4, p1, p3, r1, r3, hw2]; rfl); first | rfl | exact ⟨rfl, rfl, rfl⟩))
                  intro _ _
                  obtain ⟨e1', e2'⟩ := hskip (by unfold mutB; rw [hb1]; rfl)
                  exact k_loop_next (m' := m3 - 1) (by omega) ⟨j + 1, by omega, by omega, by simp only [Nat.reduceEqDiff, T.get_put, ↓reduceIte], ol, lv, L', by simp only [Nat.reduceEqDiff, T.get_put, ↓reduceIte]; exact h9, by rw [e1']; exact hol, hoi, hB3, hof3, hL3, e2'⟩
                | true =>
                  rw [hb1] at p3
                  cases hb2 : (HN n es j).testBit k with
                  | false =>
                    rw [hb2] at r3
                    repeat (first
  | with_reducible first | apply ops_end | apply d_end | apply k_seq | apply k_seq_ret | apply k_seq_exit | apply k_block | apply k_block_ret | apply k_block_here | apply c_seq | apply c_block | apply c_region | apply c_skip | apply c_ret | apply c_exit | apply c_loop | apply k_loop_exit | apply k_loop_ret | apply if_t | apply if_f
  | (with_reducible apply k_block_on
     · decide)
  | ((with_reducible first | apply xOp | apply xDr | apply xIf); rfl; (simp only [Nat.reduceEqDiff, Nat.reduceAdd, ↓reduceIte, xBB, stG, opA, val, opdA, opdO, plainN, omap, binA, intBinA, loadV, readA, storeV, writeA, fieldAddrA, indexAddrA, lenA, builtinA, newA, unA, packA, Value.cells, h10, k1, fd28_0, ty3, hbox6, hc0, hjl, k4, k8, un100, sz95, ty95, hlen, hb, hbj, a1, a3, b3, hrow, un95, sz4, ty4, p1, p3, r1, r3, hw2]; rfl); first | rfl | exact ⟨rfl, rfl, rfl⟩))
                    intro _ _
                    obtain ⟨e1', e2'⟩ := hskip (by unfold mutB; rw [hb2]; simp)
                    exact k_loop_next (m' := m3 - 1) (by omega) ⟨j + 1, by omega, by omega, by simp only [Nat.reduceEqDiff, T.get_put, ↓reduceIte], ol, lv, L', by simp only [Nat.reduceEqDiff, T.get_put, ↓reduceIte]; exact h9, by rw [e1']; exact hol, hoi, hB3, hof3, hL3, e2'⟩
                  | true =>
                    rw [hb2] at r3
                    obtain ⟨off9, cap9, cs9, hh9, w1, w2, w3⟩ := hof3.set (i := j) (x := [.int .i64 (((reps n es k).length : Nat) : Int)]) (by simp; omega) rfl rfl
                    simp only [Value.slice.injEq, Option.some.injEq, Addr.mk.injEq] at hh9; obtain ⟨⟨_, rfl, _⟩, _, _⟩ := hh9
                    have w2' : 0 + (j * 1 + 1) ≤ cs9.length := by rw [← Nat.add_assoc]; exact w2
                    have hl1 : ([Value.int .i64 (((reps n es k).length : Nat) : Int)] : List Value).length = 1 := rfl
                    have hone : ([Value.int .i64 (((reps n es k).length : Nat) : Int)] : List Value).all Value.oneCell' = true := rfl
                    have hlo : s1.nx ≤ s1.nx := Nat.le_refl _
                    repeat (first
  | with_reducible first | apply ops_end | apply d_end | apply k_seq | apply k_seq_ret | apply k_seq_exit | apply k_block | apply k_block_ret | apply k_block_here | apply c_seq | apply c_block | apply c_region | apply c_skip | apply c_ret | apply c_exit | apply c_loop | apply k_loop_exit | apply k_loop_ret | apply if_t | apply if_f
  | (with_reducible apply k_block_on
     · decide)
  | ((with_reducible first | apply xOp | apply xDr | apply xIf); rfl; (simp only [Nat.reduceEqDiff, Nat.reduceAdd, ↓reduceIte, xBB, stG, opA, val, opdA, opdO, plainN, omap, binA, intBinA, loadV, readA, storeV, writeA, fieldAddrA, indexAddrA, lenA, builtinA, newA, unA, packA, Value.cells, h10, k1, fd28_0, ty3, hbox6, hc0, hjl, k4, k8, un100, sz95, ty95, hlen, hb, hbj, a1, a3, b3, hrow, un95, sz4, ty4, p1, p3, r1, r3, k5, k7, un30, un35, sz3, w1, w2', hl1, hone, List.toList_toArray, hlo, buildSliceA, el35, zr3, zerosL, fillA, h9]; rfl); first | rfl | exact ⟨rfl, rfl, rfl⟩))
                    ((with_reducible first | apply ops_opt | apply xPd); (first | rfl | exact ⟨rfl, rfl⟩); (simp only [Nat.reduceEqDiff, Nat.reduceAdd, ↓reduceIte, xBB, opA, val, opdA, opdO, plainN, omap, binA, intBinA, loadV, readA, storeV, writeA, fieldAddrA, indexAddrA, lenA, builtinA, newA, unA, packA, Value.cells, un35, h9]; rfl))
                    generalize hst0 : ({ hp := (t3.hp.put s1.nx (some (.cells true 3 (putL cs9 (0 + j * 1) [.int .i64 (((reps n es k).length : Nat) : Int)])))).put t3.nx (some (.cells true 3 (putL ([.int .i64 0] ++ []) (0 * 1) [.int .i64 j]))), nx := t3.nx + 1 } : HS) = w
                    have hwn : w.nx = t3.nx + 1 := by rw [← hst0]
                    have hwo : ∀ id, id < t3.nx → id ≠ s1.nx → w.hp.get id = t3.hp.get id := fun id h1 h2 => by
                      rw [← hst0]; show (T.put (T.put _ _ _) _ _).get id = _
                      rw [T.get_put_ne _ _ _ (by omega), T.get_put_ne _ _ _ h2]
                    have hwf : w.hp.get s1.nx = some (.cells true 3 (putL cs9 (0 + j * 1) [.int .i64 (((reps n es k).length : Nat) : Int)])) := by
                      rw [← hst0]; show (T.put (T.put _ _ _) _ _).get s1.nx = _
                      rw [T.get_put_ne _ _ _ (by omega), T.get_put_eq]
                    have hwy : w.hp.get t3.nx = some (.cells true 3 [.int .i64 j]) := by rw [← hst0]; exact T.get_put_eq _ _ _
                    have hol2 : Own w 3 1 ol lv ((nodesL (compN n es k) j).map encI) := hol.same (by omega) fun id h => hwo id (hol.lt h) (by have := hoi id h; omega)
                    have hlen3 := nodesL_len (compN n es k) j
                    refine opt_ex (app_one (lk := s1.nx) (y := [.int .i64 j]) el35 sz3 by3 zr3 rfl (by decide) hol2 (fun id h => by have := hoi id h; omega) hwy rfl rfl (by simp; omega)) fun q hq => ?_
                    obtain ⟨qv, s5⟩ := q
                    obtain ⟨u1, u2, o', u3, u4⟩ := hq
                    dsimp only at u1 u2 u3
                    have hmj : mutB n es k j = true := by unfold mutB; rw [hb1, hb2]; rfl
                    refine opt_of rfl ?_
                    repeat (first
  | with_reducible first | apply ops_end | apply d_end | apply k_seq | apply k_seq_ret | apply k_seq_exit | apply k_block | apply k_block_ret | apply k_block_here | apply c_seq | apply c_block | apply c_region | apply c_skip | apply c_ret | apply c_exit | apply c_loop | apply k_loop_exit | apply k_loop_ret | apply if_t | apply if_f
  | (with_reducible apply k_block_on
     · decide)
  | ((with_reducible first | apply xOp | apply xDr | apply xIf); rfl; (simp only [Nat.reduceEqDiff, Nat.reduceAdd, ↓reduceIte, xBB, stG, opA, val, opdA, opdO, plainN, omap, binA, intBinA, loadV, readA, storeV, writeA, fieldAddrA, indexAddrA, lenA, builtinA, newA, unA, packA, Value.cells, h10, hw2]; rfl); first | rfl | exact ⟨rfl, rfl, rfl⟩))
                    intro _ _
                    refine k_loop_next (m' := m3 - 1) (by omega) ⟨j + 1, by omega, by omega, by simp only [Nat.reduceEqDiff, T.get_put, ↓reduceIte], o', qv, L'.set j (((reps n es k).length : Nat) : Int), by simp only [Nat.reduceEqDiff, T.get_put, ↓reduceIte], ?_, fun id h => ?_, ?_, ?_, by simp [hL3], fun x hx => ?_⟩
                    · rw [nodesL_succ, compN_bit, hmj, if_pos (by simp [hjl']), List.map_append]; exact u3
                    · rcases u4 with rfl | rfl
                      · exact hoi id h
                      · cases h; omega
                    · refine hB3.same (by omega) (fun id h1 h2 => ?_) fun id h => Or.inl h
                      rw [u2 id (by omega) (fun h3 => h2 (Or.inr (hoi id h3))), hwo id h1 (fun h3 => h2 (Or.inl (by omega)))]
                    · rw [List.map_set]
                      refine w3 _ (by omega) ?_
                      rw [u2 _ (by omega) (fun h3 => by have := hoi _ h3; omega)]; exact hwf
                    · rw [List.getElem?_set]
                      by_cases hxj : j = x
                      · subst hxj; rw [if_pos rfl, if_pos (by omega), if_pos ⟨hkj, by omega, hmj⟩]
                      · rw [if_neg hxj, hLx x hx]
                        by_cases h1 : k ≤ x ∧ x < j ∧ mutB n es k x = true
                        · rw [if_pos h1, if_pos ⟨h1.1, by omega, h1.2.2⟩]
                        · rw [if_neg h1, if_neg fun h2 => h1 ⟨h2.1, by omega, h2.2.2⟩]
              · repeat (first
  | with_reducible first | apply ops_end | apply d_end | apply k_seq | apply k_seq_ret | apply k_seq_exit | apply k_block | apply k_block_ret | apply k_block_here | apply c_seq | apply c_block | apply c_region | apply c_skip | apply c_ret | apply c_exit | apply c_loop | apply k_loop_exit | apply k_loop_ret | apply if_t | apply if_f
  | (with_reducible apply k_block_on
     · decide)
  | ((with_reducible first | apply xOp | apply xDr | apply xIf); rfl; (simp only [Nat.reduceEqDiff, Nat.reduceAdd, ↓reduceIte, xBB, stG, opA, val, opdA, opdO, plainN, omap, binA, intBinA, loadV, readA, storeV, writeA, fieldAddrA, indexAddrA, lenA, builtinA, newA, unA, packA, Value.cells, h10, k1, fd28_0, ty3, hbox6, cutL, hjl]; rfl); first | rfl | exact ⟨rfl, rfl, rfl⟩))
                intro _ _
                have hjn : j = n := by omega
                subst hjn
                obtain ⟨lb, lc, rfl⟩ := hol.shape
                repeat (first
  | with_reducible first | apply ops_end | apply d_end | apply k_seq | apply k_seq_ret | apply k_seq_exit | apply k_block | apply k_block_ret | apply k_block_here | apply c_seq | apply c_block | apply c_region | apply c_skip | apply c_ret | apply c_exit | apply c_loop | apply k_loop_exit | apply k_loop_ret | apply if_t | apply if_f
  | (with_reducible apply k_block_on
     · decide)
  | ((with_reducible first | apply xOp | apply xDr | apply xIf); rfl; (simp only [Nat.reduceEqDiff, Nat.reduceAdd, ↓reduceIte, xBB, stG, opA, val, opdA, opdO, plainN, omap, binA, intBinA, loadV, readA, storeV, writeA, fieldAddrA, indexAddrA, lenA, builtinA, newA, unA, packA, Value.cells, k7, h9, buildSliceA, el30, sz35, zr35, zerosL, fillA]; rfl); first | rfl | exact ⟨rfl, rfl, rfl⟩))
                ((with_reducible first | apply ops_opt | apply xPd); (first | rfl | exact ⟨rfl, rfl⟩); (simp only [Nat.reduceEqDiff, Nat.reduceAdd, ↓reduceIte, xBB, opA, val, opdA, opdO, plainN, omap, binA, intBinA, loadV, readA, storeV, writeA, fieldAddrA, indexAddrA, lenA, builtinA, newA, unA, packA, Value.cells, un30, un35, k7]; rfl))
                generalize hst0 : ({ hp := t3.hp.put t3.nx (some (.cells true 35 (putL ([.slice none 0 0] ++ []) (0 * 1) [.slice lb ((nodesL (compN j es k) j).map encI).length lc]))), nx := t3.nx + 1 } : HS) = w
                have hwn : w.nx = t3.nx + 1 := by rw [← hst0]
                have hwo : ∀ id, id < t3.nx → w.hp.get id = t3.hp.get id := fun id h => by rw [← hst0]; exact T.get_put_ne _ _ _ (by omega)
                have hwy : w.hp.get t3.nx = some (.cells true 35 [.slice lb ((nodesL (compN j es k) j).map encI).length lc]) := by rw [← hst0]; exact T.get_put_eq _ _ _
                have hol2 : Own w 3 1 ol _ _ := hol.same (by omega) fun id h => hwo id (hol.lt h)
                have hB4 : Bld w (fun id => id ≤ s1.nx) o _ _ := hB3.same (by omega) (fun id h _ => hwo id h) fun id h => Or.inl (Or.inl h)
                have hrl := reps_len (n := j) (es := es) k
                refine opt_ex (app_bld (lk := s1.nx) (l := nodesL (compN j es k) j) hB4 (fun id h => by have := hB4.1 id h; omega) hwy (SlB.of_own hol2 fun id h h2 => ?_) (by rw [compsL_len]; omega) (by omega)) fun q hq => ?_
                · have := hoi id h
                  rcases h2 with h2 | h2
                  · have := hB.lt h2; omega
                  · omega
                obtain ⟨qv, s5⟩ := q
                obtain ⟨u1, u2, o', u3, u4⟩ := hq
                dsimp only at u1 u2 u3
                refine opt_of rfl ?_
                repeat (first
  | with_reducible first | apply ops_end | apply d_end | apply k_seq | apply k_seq_ret | apply k_seq_exit | apply k_block | apply k_block_ret | apply k_block_here | apply c_seq | apply c_block | apply c_region | apply c_skip | apply c_ret | apply c_exit | apply c_loop | apply k_loop_exit | apply k_loop_ret | apply if_t | apply if_f
  | (with_reducible apply k_block_on
     · decide)
  | ((with_reducible first | apply xOp | apply xDr | apply xIf); rfl; (simp only [Nat.reduceEqDiff, Nat.reduceAdd, ↓reduceIte, xBB, stG, opA, val, opdA, opdO, plainN, omap, binA, intBinA, loadV, readA, storeV, writeA, fieldAddrA, indexAddrA, lenA, builtinA, newA, unA, packA, Value.cells, k27, hw]; rfl); first | rfl | exact ⟨rfl, rfl, rfl⟩))
                intro _ _
                refine k_loop_next (m' := m2 - 1) (by omega) ⟨k + 1, by omega, by simp only [Nat.reduceEqDiff, T.get_put, ↓reduceIte], o', qv, L', by simp only [Nat.reduceEqDiff, T.get_put, ↓reduceIte], ?_, ?_, ofOK_step hg hlt' hr hOK hL3 hLx⟩
                · have : compsL j es (k + 1) = compsL j es k ++ [nodesL (compN j es k) j] := by unfold compsL; rw [reps_succ, hr, if_pos rfl, List.map_append]; rfl
                  rw [this]; exact u3
                · refine hof3.same (by omega) fun id h => ?_
                  cases h
                  rw [u2 _ (by omega) (fun h3 => by have := hB4.1 _ h3; omega)]; exact hwo _ (by omega)
        · repeat (first
  | with_reducible first | apply ops_end | apply d_end | apply k_seq | apply k_seq_ret | apply k_seq_exit | apply k_block | apply k_block_ret | apply k_block_here | apply c_seq | apply c_block | apply c_region | apply c_skip | apply c_ret | apply c_exit | apply c_loop | apply k_loop_exit | apply k_loop_ret | apply if_t | apply if_f
  | (with_reducible apply k_block_on
     · decide)
  | ((with_reducible first | apply xOp | apply xDr | apply xIf); rfl; (simp only [Nat.reduceEqDiff, Nat.reduceAdd, ↓reduceIte, xBB, stG, opA, val, opdA, opdO, plainN, omap, binA, intBinA, loadV, readA, storeV, writeA, fieldAddrA, indexAddrA, lenA, builtinA, newA, unA, packA, Value.cells, h27, k26, hlt]; rfl); first | rfl | exact ⟨rfl, rfl, rfl⟩))
          intro _ _
          repeat (first
  | with_reducible first | apply ops_end | apply d_end | apply k_seq | apply k_seq_ret | apply k_seq_exit | apply k_block | apply k_block_ret | apply k_block_here | apply c_seq | apply c_block | apply c_region | apply c_skip | apply c_ret | apply c_exit | apply c_loop | apply k_loop_exit | apply k_loop_ret | apply if_t | apply if_f
  | (with_reducible apply k_block_on
     · decide)
  | ((with_reducible first | apply xOp | apply xDr | apply xIf); rfl; (simp only [Nat.reduceEqDiff, Nat.reduceAdd, ↓reduceIte, xBB, stG, opA, val, opdA, opdO, plainN, omap, binA, intBinA, loadV, readA, storeV, writeA, fieldAddrA, indexAddrA, lenA, builtinA, newA, unA, packA, Value.cells, h7, k5]; rfl); first | rfl | exact ⟨rfl, rfl, rfl⟩))
          intro _
          ((with_reducible first | apply ret_i | apply ret_n); (simp only [Nat.reduceEqDiff, Nat.reduceAdd, ↓reduceIte, xBB, resA, opdA, opdO, plainN, omap, val, loadV, readA, packA]; rfl))
          have hkn : k = n := by omega
          subst hkn
          have hofs := hof.sl
          exact ⟨_, _, L, rfl, hB.lls, hofs, hOK⟩
end Go.Ev
