import Derived.Test.YthedojfbofcefaaDoorEvG40
import Derived.Test.YthedojfbofcefaaDoorEvG32
import Derived.Test.YthedojfbofcefaaDoorEvG18
/- slices.Compact of edges: what is in it stays in it. -/
namespace Go.Ev
open Go Go.Proofs
set_option linter.unusedSimpArgs false
set_option linter.unusedVariables false
set_option maxRecDepth 100000
set_option maxHeartbeats 4000000
attribute [local irreducible] wpOps wpC wpD wpF wpLoop wpCall seqK blockK loopK retK T.put T.get T.setF

/-- A row of edges in a block. -/
def RawE (t : HS) (id off : Nat) (post : List Value) (cur : List (Int × Int)) : Prop := ∃ cs, t.hp.get id = some (.cells true 58 cs) ∧ off ≤ cs.length ∧ cs.drop off = (cur.map encE).flatten ++ post
theorem encE_size (cur : List (Int × Int)) : ∀ x ∈ cur.map encE, x.length = 2 := fun x hx => by obtain ⟨e, _, rfl⟩ := List.mem_map.1 hx; rfl
theorem RawE.at {t : HS} {id off : Nat} {post : List Value} {cur : List (Int × Int)} (h : RawE t id off post cur) {i : Nat} {e : Int × Int} (hi : cur[i]? = some e) : ∃ cs, t.hp.get id = some (.cells true 58 cs) ∧ cutL cs (off + i * 2) 2 = some [.int .i64 e.1, .int .i64 e.2] := by
  obtain ⟨cs, h1, h2, h3⟩ := h
  exact ⟨cs, h1, (flat_cut (encE_size cur) h3 h2 (by rw [List.getElem?_map, hi]; rfl)).2⟩
theorem RawE.len {t : HS} {id off : Nat} {post : List Value} {cur : List (Int × Int)} (h : RawE t id off post cur) : ∃ cs, t.hp.get id = some (.cells true 58 cs) ∧ off + cur.length * 2 ≤ cs.length := by
  obtain ⟨cs, h1, h2, h3⟩ := h
  refine ⟨cs, h1, ?_⟩
  have := congrArg List.length h3
  rw [List.length_drop, List.length_append, flat_len (encE_size cur), List.length_map] at this
  omega
theorem RawE.set {t : HS} {id off : Nat} {post : List Value} {cur : List (Int × Int)} (h : RawE t id off post cur) {i : Nat} (hi : i < cur.length) (e : Int × Int) {cs : List Value} (hc : t.hp.get id = some (.cells true 58 cs)) :
    off + i * 2 + 2 ≤ cs.length ∧ ∀ t' : HS, t'.hp.get id = some (.cells true 58 (putL cs (off + i * 2) [.int .i64 e.1, .int .i64 e.2])) → RawE t' id off post (cur.set i e) := by
  have hl := h.len
  obtain ⟨cs', h1, h2, h3⟩ := h
  rw [hc] at h1
  simp only [Option.some.injEq, AObj.cells.injEq, true_and] at h1
  subst h1
  obtain ⟨cs2, l1, l2⟩ := hl
  rw [hc] at l1
  simp only [Option.some.injEq, AObj.cells.injEq, true_and] at l1
  subst l1
  refine ⟨by omega, fun t' ht => ⟨_, ht, ?_, ?_⟩⟩
  · rw [putL_len (by simp; omega)]; exact h2
  · have := putL_flat (post := post) (i := i) (x := encE e) (encE_size cur) (by simpa using hi) rfl
    rw [putL_drop h2, h3]
    show putL _ _ (encE e) = _
    rw [this, List.map_set]

theorem zerosL_len (z : List Value) : ∀ n, (zerosL z n).length = n * z.length
  | 0 => by simp [zerosL]
  | n + 1 => by rw [zerosL, List.length_append, zerosL_len z n, Nat.succ_mul, Nat.add_comm]
theorem zerosL_one {z : List Value} (h : z.all Value.oneCell' = true) : ∀ n, (zerosL z n).all Value.oneCell' = true
  | 0 => rfl
  | n + 1 => by rw [zerosL, List.all_append, h, zerosL_one h n]; rfl
theorem cut_low {cs z : List Value} {p q m : Nat} (h : q + m ≤ p) (hp : p ≤ cs.length) : cutL (putL cs p z) q m = cutL cs q m := by
  unfold cutL putL
  rw [if_pos (by rw [List.length_append, List.length_take]; omega), if_pos (by omega)]
  rw [List.drop_append_of_le_length (by rw [List.length_take]; omega), List.take_append_of_le_length (by rw [List.length_drop, List.length_take]; omega), List.drop_take, List.take_take, Nat.min_eq_left (by omega)]

theorem f83_spec [Sorts Tryd.prog] (es : List (Int × Int)) (v : Value) (o : Option Nat) (lk : Nat) (s : HS) (hs : Own s 58 2 o v (es.map encE)) (hlk : lk ≤ s.nx) (ho : ∀ id, o = some id → lk ≤ id) (hl : es.length < 1000000) :
    wpF Tryd.prog lk 83 [v] s (fun v s' => ∃ es' : List (Int × Int), es'.length ≤ es.length ∧ Sl s' 2 v (es'.map encE) ∧ (∀ e, e ∈ es' ↔ e ∈ es) ∧ ∀ (a : Addr) (n c : Nat), v = .slice (some a) n c → o = some a.block) := by
  have hlm : (es.map encE).length = es.length := List.length_map _
  refine wpF_of Tryd.func83 rfl rfl rfl rfl hlk ?_
  simp only [paramsA]
  by_cases hlt2 : (es.length : Int) < 2
  · obtain ⟨b, c, rfl⟩ := hs.shape
    repeat (first
  | with_reducible first | refine st (by constructor) ?_ | apply c_region
  | (with_reducible apply k_block_on
     · decide)
  | ((with_reducible first | apply xOp | apply xDr | apply xIf); rfl; (simp only [Nat.reduceEqDiff, Nat.reduceAdd, ↓reduceIte, xBB, stG, undef, opA, val, opdA, opdO, plainN, omap, binA, intBinA, loadV, readA, storeV, writeA, fieldAddrA, indexAddrA, lenA, builtinA, newA, unA, packA, Value.cells, un26, hlm, hlt2]; rfl); first | rfl | exact ⟨rfl, rfl, rfl⟩))
    intro _
    ((with_reducible first | apply ret_i | apply ret_n); (simp only [Nat.reduceEqDiff, Nat.reduceAdd, ↓reduceIte, xBB, resA, opdA, opdO, plainN, omap, val, loadV, readA, packA]; rfl))
    have hsl := hs.sl
    rw [hlm] at hsl
    refine ⟨es, Nat.le_refl _, hsl, fun e => Iff.rfl, fun a n c' h => ?_⟩
    cases h
    cases o with
    | none => obtain ⟨_, h⟩ := hs; cases h
    | some id => obtain ⟨_, _, _, _, _, _, h, _⟩ := hs; cases h; rfl
  · cases o with
    | none =>
      obtain ⟨h, _⟩ := hs
      have : es = [] := List.map_eq_nil_iff.1 h
      subst this
      exact absurd (by decide) hlt2
    | some id =>
      have hlid := ho id rfl
      obtain ⟨h1, h2, h2', off, cap, cs0, rfl, h3, h4, h5, post, h6⟩ := hs
      rw [hlm] at h3 ⊢
      have hraw : RawE s id off post es := ⟨cs0, h4, h5, h6⟩
      repeat (first
  | with_reducible first | refine st (by constructor) ?_ | apply c_region
  | (with_reducible apply k_block_on
     · decide)
  | ((with_reducible first | apply xOp | apply xDr | apply xIf); rfl; (simp only [Nat.reduceEqDiff, Nat.reduceAdd, ↓reduceIte, xBB, stG, undef, opA, val, opdA, opdO, plainN, omap, binA, intBinA, loadV, readA, storeV, writeA, fieldAddrA, indexAddrA, lenA, builtinA, newA, unA, packA, Value.cells, un26, hlt2]; rfl); first | rfl | exact ⟨rfl, rfl, rfl⟩))
      refine loop_k (lk' := lk) (s0 := s) (fun m f t => t = s ∧ ∃ k : Nat, k + m = es.length ∧ 1 ≤ k ∧ f.get 3 = some (.int .i64 k)) (es.length - 1) (Nat.le_refl _) hlk ?_ (Ab.refl _ _) ?_
      · exact ⟨rfl, 1, by omega, Nat.le_refl _, by simp only [Nat.reduceEqDiff, T.get_put, ↓reduceIte]; rfl⟩
      · rintro m f t ⟨rfl, k, hk, hk1, hf3⟩ hA hF
        (have k0 := hF 0 (by rfl); simp only [Nat.reduceEqDiff, T.get_put, ↓reduceIte] at k0)
        by_cases hlt : (k : Int) < (es.length : Int)
        · have hlt' : k < es.length := by omega
          have hw : IntKind.i64.wrap ((k : Int) + 1) = ((k + 1 : Nat) : Int) := by rw [IntWalk.i64_in _ (by omega)]; rfl
          have hw1 : IntKind.i64.wrap ((k : Int) - 1) = ((k - 1 : Nat) : Int) := by rw [IntWalk.i64_in _ (by omega)]; omega
          have hb : (0 : Int) ≤ (k : Int) ∧ (k : Int) < (es.length : Int) := by omega
          have hb1 : (0 : Int) ≤ ((k - 1 : Nat) : Int) ∧ ((k - 1 : Nat) : Int) < (es.length : Int) := by omega
          obtain ⟨ca, a1, a2⟩ := hraw.at (i := k) (List.getElem?_eq_getElem hlt')
          obtain ⟨cb, b1, b2⟩ := hraw.at (i := k - 1) (List.getElem?_eq_getElem (by omega))
          rw [a1] at b1
          simp only [Option.some.injEq, AObj.cells.injEq, true_and] at b1
          subst b1
          have heq := eq_edge es[k] es[k - 1]
          have hgu := guard_edge es[k] es[k - 1]
          unfold vE at heq hgu
          repeat (first
  | with_reducible first | refine st (by constructor) ?_ | apply c_region
  | (with_reducible apply k_block_on
     · decide)
  | ((with_reducible first | apply xOp | apply xDr | apply xIf); rfl; (simp only [Nat.reduceEqDiff, Nat.reduceAdd, ↓reduceIte, xBB, stG, undef, opA, val, opdA, opdO, plainN, omap, binA, intBinA, loadV, readA, storeV, writeA, fieldAddrA, indexAddrA, lenA, builtinA, newA, unA, packA, Value.cells, hf3, k0, un26, hlt]; rfl); first | rfl | exact ⟨rfl, rfl, rfl⟩))
          refine c_draw [⟨false, [], none⟩, ⟨false, [], none⟩, ⟨false, [], none⟩, ⟨false, [], none⟩, ⟨false, [], none⟩, ⟨false, [], none⟩, ⟨false, [], none⟩, ⟨false, [], none⟩, ⟨false, [3], none⟩, ⟨true, [], none⟩] (by kernel_rfl) ?_
          by_cases hsame : es[k] = es[k - 1]
          · rw [decide_eq_true hsame] at heq
            -- the part behind
            have hrest : sliceA Tryd.prog t.hp 26 (.slice (some ⟨id, off, none⟩) es.length cap) (some (.int .i64 k)) none none = some (.slice (some ⟨id, off + k * 2, none⟩) (es.length - k) (if cap < UNK then cap - k else UNK + (cap - UNK - k))) := by
              have hnk : (0 : Int) ≤ (k : Int) := by omega
              unfold sliceA
              rw [un26]
              simp only [onatA, natA, hnk, if_true, Option.map_some, Option.bind_some, Option.getD_some, Option.getD_none, Int.toNat_natCast, sz58]
              rcases h3 with rfl | rfl
              · rw [if_pos (by omega), if_pos ⟨by omega, Nat.le_refl _⟩, if_neg (by omega), if_pos (by omega)]
              · have hlive : liveE Tryd.prog t.hp id 2 = true := by unfold liveE; rw [h4]; simp [sz58]
                rw [if_neg (by omega), if_pos ⟨by omega, Nat.le_refl _, hlive⟩, if_neg (by omega)]
            repeat (first
  | with_reducible first | refine st (by constructor) ?_ | apply c_region
  | (with_reducible apply k_block_on
     · decide)
  | ((with_reducible first | apply xOp | apply xDr | apply xIf); rfl; (simp only [Nat.reduceEqDiff, Nat.reduceAdd, ↓reduceIte, xBB, stG, undef, opA, val, opdA, opdO, plainN, omap, binA, intBinA, loadV, readA, storeV, writeA, fieldAddrA, indexAddrA, lenA, builtinA, newA, unA, packA, Value.cells, hf3, k0, un26, sz58, ty58, hb, hb1, hw1, a1, a2, b2, hgu, heq, List.toList_toArray, hrest]; rfl); first | rfl | exact ⟨rfl, rfl, rfl⟩))
            have hk0 := k0
            refine wpLoop_mono (K := fun g f' t' => g = .exit 2 ∧ ∃ kept : List (Int × Int), kept.length < es.length ∧ f'.get 3 = some (.int .i64 kept.length) ∧ f'.get 0 = some (.slice (some ⟨id, off, none⟩) es.length cap) ∧ RawE t' id off post (kept ++ es.drop kept.length) ∧ t'.nx = t.nx ∧ ∀ e, e ∈ kept ↔ e ∈ es) ?_ ?_
            · refine loop_k (lk' := lk) (s0 := t) (fun m2 f2 t2 => ∃ (j : Nat) (kept : List (Int × Int)), j + m2 = es.length - k ∧ 1 ≤ j ∧ f2.get 5 = some (.int .i64 j) ∧ f2.get 3 = some (.int .i64 kept.length) ∧ kept.length < k + j ∧ t2.nx = t.nx ∧ RawE t2 id off post (kept ++ es.drop kept.length) ∧ ∀ e, e ∈ kept ↔ e ∈ es.take (k + j)) (es.length - k - 1) (Nat.le_refl _) hlk ?_ (Ab.refl _ _) ?_
              · refine ⟨1, es.take k, by omega, Nat.le_refl _, by simp only [Nat.reduceEqDiff, T.get_put, ↓reduceIte]; rfl, ?_, ?_, rfl, ?_, fun e => ?_⟩
                · simp only [Nat.reduceEqDiff, T.get_put, ↓reduceIte]; rw [hf3, List.length_take, Nat.min_eq_left (by omega)]
                · rw [List.length_take, Nat.min_eq_left (by omega)]; omega
                · rw [List.length_take, Nat.min_eq_left (by omega), List.take_append_drop]; exact hraw
                · rw [List.take_succ_eq_append_getElem hlt', List.mem_append, List.mem_singleton]
                  constructor
                  · exact Or.inl
                  · rintro (h | h)
                    · exact h
                    · rw [h, hsame]
                      exact List.mem_take_iff_getElem.2 ⟨k - 1, by omega, rfl⟩
              · rintro m2 f2 t2 ⟨j, kept, hj, hj1, h5', h3', hkl, htn, hr, hmem⟩ hA2 hF2
                (have q0 := hF2 0 (by rfl); simp only [Nat.reduceEqDiff, T.get_put, ↓reduceIte, hk0] at q0; have q4 := hF2 4 (by rfl); simp only [Nat.reduceEqDiff, T.get_put, ↓reduceIte, hk0] at q4)
                have hlen : (kept ++ es.drop kept.length).length = es.length := by rw [List.length_append, List.length_drop]; omega
                have hcur : ∀ i, kept.length ≤ i → (kept ++ es.drop kept.length)[i]? = es[i]? := fun i hi => by
                  rw [List.getElem?_append_right hi, List.getElem?_drop]; congr 1; omega
                by_cases hlt2' : (j : Int) < ((es.length - k : Nat) : Int)
                · have hj' : k + j < es.length := by omega
                  have hwj : IntKind.i64.wrap ((j : Int) + 1) = ((j + 1 : Nat) : Int) := by rw [IntWalk.i64_in _ (by omega)]; rfl
                  have hwj1 : IntKind.i64.wrap ((j : Int) - 1) = ((j - 1 : Nat) : Int) := by rw [IntWalk.i64_in _ (by omega)]; omega
                  have hwk : IntKind.i64.wrap ((kept.length : Int) + 1) = ((kept.length + 1 : Nat) : Int) := by rw [IntWalk.i64_in _ (by omega)]; rfl
                  have hbj : (0 : Int) ≤ (j : Int) ∧ (j : Int) < ((es.length - k : Nat) : Int) := by omega
                  have hbj1 : (0 : Int) ≤ ((j - 1 : Nat) : Int) ∧ ((j - 1 : Nat) : Int) < ((es.length - k : Nat) : Int) := by omega
                  have hbk : (0 : Int) ≤ (kept.length : Int) ∧ (kept.length : Int) < (es.length : Int) := by omega
                  obtain ⟨cc, c1, c2⟩ := hr.at (i := k + j) (e := es[k + j]) (by rw [hcur _ (by omega), List.getElem?_eq_getElem hj'])
                  obtain ⟨cd, d1, d2⟩ := hr.at (i := k + (j - 1)) (e := es[k + (j - 1)]) (by rw [hcur _ (by omega), List.getElem?_eq_getElem (by omega)])
                  rw [c1] at d1
                  simp only [Option.some.injEq, AObj.cells.injEq, true_and] at d1
                  subst d1
                  rw [Nat.add_mul] at c2 d2
                  have heq2 := eq_edge es[k + j] es[k + (j - 1)]
                  have hgu2 := guard_edge es[k + j] es[k + (j - 1)]
                  unfold vE at heq2 hgu2
                  have hmem' : es[k + (j - 1)] ∈ es.take (k + j) := List.mem_take_iff_getElem.2 ⟨k + (j - 1), by omega, rfl⟩
                  have htk : es.take (k + (j + 1)) = es.take (k + j) ++ [es[k + j]] := List.take_succ_eq_append_getElem hj'
                  generalize hex : es[k + j] = x at *
                  generalize es[k + (j - 1)] = y at *
                  repeat (first
  | with_reducible first | refine st (by constructor) ?_ | apply c_region
  | (with_reducible apply k_block_on
     · decide)
  | ((with_reducible first | apply xOp | apply xDr | apply xIf); rfl; (simp only [Nat.reduceEqDiff, Nat.reduceAdd, ↓reduceIte, xBB, stG, undef, opA, val, opdA, opdO, plainN, omap, binA, intBinA, loadV, readA, storeV, writeA, fieldAddrA, indexAddrA, lenA, builtinA, newA, unA, packA, Value.cells, h5', q4, un26, hlt2']; rfl); first | rfl | exact ⟨rfl, rfl, rfl⟩))
                  refine c_draw [⟨false, [], none⟩, ⟨false, [], none⟩, ⟨false, [], none⟩, ⟨false, [], none⟩, ⟨false, [], none⟩, ⟨false, [], none⟩, ⟨false, [], none⟩, ⟨false, [], none⟩, ⟨false, [3], none⟩, ⟨true, [], none⟩] (by kernel_rfl) ?_
                  by_cases hs2 : x = y
                  · rw [decide_eq_true hs2] at heq2
                    repeat (first
  | with_reducible first | refine st (by constructor) ?_ | apply c_region
  | (with_reducible apply k_block_on
     · decide)
  | ((with_reducible first | apply xOp | apply xDr | apply xIf); rfl; (simp only [Nat.reduceEqDiff, Nat.reduceAdd, ↓reduceIte, xBB, stG, undef, opA, val, opdA, opdO, plainN, omap, binA, intBinA, loadV, readA, storeV, writeA, fieldAddrA, indexAddrA, lenA, builtinA, newA, unA, packA, Value.cells, h5', q4, un26, sz58, ty58, hbj, hbj1, hwj1, c1, c2, d2, hgu2, heq2, List.toList_toArray, Bool.not_true, hwj]; rfl); first | rfl | exact ⟨rfl, rfl, rfl⟩))
                    intro _ _
                    refine k_loop_next (m' := m2 - 1) (by omega) ⟨j + 1, kept, by omega, by omega, by simp only [Nat.reduceEqDiff, T.get_put, ↓reduceIte], by simp only [Nat.reduceEqDiff, T.get_put, ↓reduceIte]; exact h3', by omega, htn, hr, fun e => ?_⟩
                    rw [htk, List.mem_append, List.mem_singleton, hmem e]
                    constructor
                    · exact Or.inl
                    · rintro (h | h)
                      · exact h
                      · rw [h, hs2]; exact hmem'
                  · rw [decide_eq_false hs2] at heq2
                    obtain ⟨w1, w2⟩ := hr.set (i := kept.length) (by omega) x c1
                    have hone : ([Value.int .i64 x.1, .int .i64 x.2] : List Value).all Value.oneCell' = true := rfl
                    have hlv : ([Value.int .i64 x.1, .int .i64 x.2] : List Value).length = 2 := rfl
                    have w1' : off + (kept.length * 2 + 2) ≤ cc.length := by omega
                    repeat (first
  | with_reducible first | refine st (by constructor) ?_ | apply c_region
  | (with_reducible apply k_block_on
     · decide)
  | ((with_reducible first | apply xOp | apply xDr | apply xIf); rfl; (simp only [Nat.reduceEqDiff, Nat.reduceAdd, ↓reduceIte, xBB, stG, undef, opA, val, opdA, opdO, plainN, omap, binA, intBinA, loadV, readA, storeV, writeA, fieldAddrA, indexAddrA, lenA, builtinA, newA, unA, packA, Value.cells, h5', h3', q0, q4, un26, sz58, ty58, hbj, hbj1, hwj1, c1, c2, d2, hgu2, heq2, List.toList_toArray, Bool.not_false, hwj, hwk, hbk, hlid, w1', hone, hlv]; rfl); first | rfl | exact ⟨rfl, rfl, rfl⟩))
                    intro _ _
                    refine k_loop_next (m' := m2 - 1) (by omega) ⟨j + 1, kept ++ [x], by omega, by omega, by simp only [Nat.reduceEqDiff, T.get_put, ↓reduceIte], by simp only [Nat.reduceEqDiff, T.get_put, ↓reduceIte]; rw [List.length_append]; rfl, by rw [List.length_append]; simp; omega, htn, ?_, fun e => ?_⟩
                    · have hset : (kept ++ es.drop kept.length).set kept.length x = (kept ++ [x]) ++ es.drop (kept ++ [x]).length := by
                        rw [List.set_append_right _ _ (Nat.le_refl _), Nat.sub_self, List.drop_eq_getElem_cons (by omega), List.set_cons_zero, List.length_append, List.length_singleton, List.append_assoc]; rfl
                      rw [← hset]
                      exact w2 _ (T.get_put_eq _ _ _)
                    · rw [htk, List.mem_append, List.mem_append, hmem e]
                · have hje : k + j = es.length := by omega
                  rw [hje, List.take_length] at hmem
                  repeat (first
  | with_reducible first | refine st (by constructor) ?_ | apply c_region
  | (with_reducible apply k_block_on
     · decide)
  | ((with_reducible first | apply xOp | apply xDr | apply xIf); rfl; (simp only [Nat.reduceEqDiff, Nat.reduceAdd, ↓reduceIte, xBB, stG, undef, opA, val, opdA, opdO, plainN, omap, binA, intBinA, loadV, readA, storeV, writeA, fieldAddrA, indexAddrA, lenA, builtinA, newA, unA, packA, Value.cells, h5', q4, un26, hlt2']; rfl); first | rfl | exact ⟨rfl, rfl, rfl⟩))
                  intro _ _
                  refine k_loop_exit ⟨rfl, kept, by omega, ?_, ?_, hr, htn, hmem⟩ <;> simp only [Nat.reduceEqDiff, T.get_put, ↓reduceIte]
                  · exact h3'
                  · exact q0
            · rintro g f2 t2 ⟨rfl, kept, hkl, p3, p0, hr, htn, hmem⟩
              obtain ⟨cs, g1, g2⟩ := hr.len
              have hkl2 : (kept ++ es.drop kept.length).length = es.length := by rw [List.length_append, List.length_drop]; omega
              rw [hkl2] at g2
              have hnk : (0 : Int) ≤ (kept.length : Int) := by omega
              have hlive : liveE Tryd.prog t2.hp id 2 = true := by unfold liveE; rw [g1]; simp [sz58]
              have hr1 : sliceA Tryd.prog t2.hp 26 (.slice (some ⟨id, off, none⟩) es.length cap) (some (.int .i64 kept.length)) none none = some (.slice (some ⟨id, off + kept.length * 2, none⟩) (es.length - kept.length) (if cap < UNK then cap - kept.length else UNK + (cap - UNK - kept.length))) := by
                unfold sliceA
                rw [un26]
                simp only [onatA, natA, hnk, if_true, Option.map_some, Option.bind_some, Option.getD_some, Option.getD_none, Int.toNat_natCast, sz58]
                rcases h3 with rfl | rfl
                · rw [if_pos (by omega), if_pos ⟨by omega, Nat.le_refl _⟩, if_neg (by omega), if_pos (by omega)]
                · rw [if_neg (by omega), if_pos ⟨by omega, Nat.le_refl _, hlive⟩, if_neg (by omega)]
              have hzl : (zerosL [Value.int .i64 0, .int .i64 0] (es.length - kept.length)).length = (es.length - kept.length) * 2 := zerosL_len _ _
              have hclear : clearA Tryd.prog lk 26 (.slice (some ⟨id, off + kept.length * 2, none⟩) (es.length - kept.length) (if cap < UNK then cap - kept.length else UNK + (cap - UNK - kept.length))) t2 = some (.tuple #[], { hp := t2.hp.put id (some (.cells true 58 (putL cs (off + kept.length * 2) (zerosL [.int .i64 0, .int .i64 0] (es.length - kept.length))))), nx := t2.nx }) := by
                unfold clearA
                rw [un26]
                simp only
                rw [if_neg (by omega), zr58]
                simp only [Option.bind_some]
                rw [if_neg (by simp [Value.cells])]
                unfold writeA
                simp only [g1]
                rw [if_pos ⟨hlid, by show off + kept.length * 2 + (zerosL [Value.int .i64 0, .int .i64 0] (es.length - kept.length)).length ≤ cs.length; omega, zerosL_one (by rfl) _⟩]
                rfl
              generalize hw3 : ({ hp := t2.hp.put id (some (.cells true 58 (putL cs (off + kept.length * 2) (zerosL [.int .i64 0, .int .i64 0] (es.length - kept.length))))), nx := t2.nx } : HS) = t3 at hclear
              have g3 : t3.hp.get id = some (.cells true 58 (putL cs (off + kept.length * 2) (zerosL [.int .i64 0, .int .i64 0] (es.length - kept.length)))) := by rw [← hw3]; exact T.get_put_eq _ _ _
              have h3n : t3.nx = t2.nx := by rw [← hw3]
              have hlive3 : liveE Tryd.prog t3.hp id 2 = true := by unfold liveE; rw [g3]; simp [sz58]
              have hr2 : ∃ c3, sliceA Tryd.prog t3.hp 26 (.slice (some ⟨id, off, none⟩) es.length cap) none (some (.int .i64 kept.length)) none = some (.slice (some ⟨id, off, none⟩) kept.length c3) := by
                unfold sliceA
                rw [un26]
                simp only [onatA, natA, hnk, if_true, Option.map_some, Option.bind_some, Option.getD_some, Option.getD_none, Int.toNat_natCast, sz58, Nat.zero_mul, Nat.add_zero, Nat.sub_zero, ite_self]
                rcases h3 with rfl | rfl
                · rw [if_pos (by omega), if_pos (by omega)]; exact ⟨_, rfl⟩
                · rw [if_neg (by omega), if_pos ⟨by omega, by omega, hlive3⟩]; exact ⟨_, rfl⟩
              obtain ⟨c3, hr2⟩ := hr2
              repeat (first
  | with_reducible first | refine st (by constructor) ?_ | apply c_region
  | (with_reducible apply k_block_on
     · decide)
  | ((with_reducible first | apply xOp | apply xDr | apply xIf); rfl; (simp only [Nat.reduceEqDiff, Nat.reduceAdd, ↓reduceIte, xBB, stG, undef, opA, val, opdA, opdO, plainN, omap, binA, intBinA, loadV, readA, storeV, writeA, fieldAddrA, indexAddrA, lenA, builtinA, newA, unA, packA, Value.cells, p3, p0, un26, hr1, hclear, hr2]; rfl); first | rfl | exact ⟨rfl, rfl, rfl⟩))
              intro _ _
              repeat (first
  | with_reducible first | refine st (by constructor) ?_ | apply c_region
  | (with_reducible apply k_block_on
     · decide)
  | ((with_reducible first | apply xOp | apply xDr | apply xIf); rfl; (simp only [Nat.reduceEqDiff, Nat.reduceAdd, ↓reduceIte, xBB, stG, undef, opA, val, opdA, opdO, plainN, omap, binA, intBinA, loadV, readA, storeV, writeA, fieldAddrA, indexAddrA, lenA, builtinA, newA, unA, packA, Value.cells]; rfl); first | rfl | exact ⟨rfl, rfl, rfl⟩))
              intro _
              ((with_reducible first | apply ret_i | apply ret_n); (simp only [Nat.reduceEqDiff, Nat.reduceAdd, ↓reduceIte, xBB, resA, opdA, opdO, plainN, omap, val, loadV, readA, packA]; rfl))
              refine ⟨kept, by omega, Or.inr ⟨id, off, c3, true, 58, _, by rw [List.length_map]; rfl, g3, by omega, fun i x hx => ?_⟩, hmem, fun a n c h => by cases h; rfl⟩
              rw [List.getElem?_map, Option.map_eq_some_iff] at hx
              obtain ⟨e, he, rfl⟩ := hx
              have hi := (List.getElem?_eq_some_iff.1 he).1
              refine ⟨rfl, ?_⟩
              obtain ⟨cs', k1, k2⟩ := hr.at (i := i) (e := e) (by rw [List.getElem?_append_left hi]; exact he)
              rw [g1] at k1
              simp only [Option.some.injEq, AObj.cells.injEq, true_and] at k1
              subst k1
              rw [cut_low (by omega) (by omega)]
              exact k2
          · rw [decide_eq_false hsame] at heq
            repeat (first
  | with_reducible first | refine st (by constructor) ?_ | apply c_region
  | (with_reducible apply k_block_on
     · decide)
  | ((with_reducible first | apply xOp | apply xDr | apply xIf); rfl; (simp only [Nat.reduceEqDiff, Nat.reduceAdd, ↓reduceIte, xBB, stG, undef, opA, val, opdA, opdO, plainN, omap, binA, intBinA, loadV, readA, storeV, writeA, fieldAddrA, indexAddrA, lenA, builtinA, newA, unA, packA, Value.cells, hf3, k0, un26, sz58, ty58, hb, hb1, hw1, a1, a2, b2, hgu, heq, List.toList_toArray, hw]; rfl); first | rfl | exact ⟨rfl, rfl, rfl⟩))
            intro _ _
            exact k_loop_next (m' := m - 1) (by omega) ⟨rfl, k + 1, by omega, by omega, by simp only [Nat.reduceEqDiff, T.get_put, ↓reduceIte]⟩
        · repeat (first
  | with_reducible first | refine st (by constructor) ?_ | apply c_region
  | (with_reducible apply k_block_on
     · decide)
  | ((with_reducible first | apply xOp | apply xDr | apply xIf); rfl; (simp only [Nat.reduceEqDiff, Nat.reduceAdd, ↓reduceIte, xBB, stG, undef, opA, val, opdA, opdO, plainN, omap, binA, intBinA, loadV, readA, storeV, writeA, fieldAddrA, indexAddrA, lenA, builtinA, newA, unA, packA, Value.cells, hf3, k0, un26, hlt]; rfl); first | rfl | exact ⟨rfl, rfl, rfl⟩))
          intro _ _
          repeat (first
  | with_reducible first | refine st (by constructor) ?_ | apply c_region
  | (with_reducible apply k_block_on
     · decide)
  | ((with_reducible first | apply xOp | apply xDr | apply xIf); rfl; (simp only [Nat.reduceEqDiff, Nat.reduceAdd, ↓reduceIte, xBB, stG, undef, opA, val, opdA, opdO, plainN, omap, binA, intBinA, loadV, readA, storeV, writeA, fieldAddrA, indexAddrA, lenA, builtinA, newA, unA, packA, Value.cells, k0]; rfl); first | rfl | exact ⟨rfl, rfl, rfl⟩))
          intro _
          ((with_reducible first | apply ret_i | apply ret_n); (simp only [Nat.reduceEqDiff, Nat.reduceAdd, ↓reduceIte, xBB, resA, opdA, opdO, plainN, omap, val, loadV, readA, packA]; rfl))
          refine ⟨es, Nat.le_refl _, ?_, fun e => Iff.rfl, fun a n c h => by cases h; rfl⟩
          refine Or.inr ⟨id, off, cap, true, 58, cs0, by rw [hlm]; rfl, h4, h1, fun i x hx => flat_cut (fun x hx => (h2 x hx).1) h6 h5 hx⟩
end Go.Ev

/- graph.Make. -/
namespace Go.Ev
open Go Go.Proofs
set_option linter.unusedSimpArgs false
set_option linter.unusedVariables false
set_option maxRecDepth 100000
set_option maxHeartbeats 4000000
attribute [local irreducible] wpOps wpC wpD wpF wpLoop wpCall seqK blockK loopK retK T.put T.get T.setF

theorem sort_ownE {lk : Nat} {s : HS} {o : Option Nat} {v : Value} {es : List (Int × Int)} (h : Own s 58 2 o v (es.map encE)) (hlk : ∀ id, o = some id → lk ≤ id ∧ id ≠ 0) (hgl : Glob s) (hlen : es.length ≤ 100000) :
    ∃ s', Sorts.ans (P := Tryd.prog) lk 82 [v, .func (.func 55) #[] #[]] s = some (.tuple #[], s') ∧ s'.nx = s.nx ∧ Own s' 58 2 o v ((srt ordE es).map encE) ∧ ∀ i, o ≠ some i → s'.hp.get i = s.hp.get i := by
  by_cases hnil : es = []
  · subst hnil
    obtain ⟨b, c, rfl⟩ := h.shape
    refine ⟨s, sorts_ans (Or.inr ⟨rfl, Or.inr ⟨b, c, rfl, rfl⟩⟩), rfl, ?_, fun _ _ => rfl⟩
    rw [show srt ordE ([] : List (Int × Int)) = [] from List.eq_nil_of_length_eq_zero (srt_len _ _)]
    exact h
  · cases o with
    | none =>
      obtain ⟨h1, _⟩ := h
      exact absurd (List.map_eq_nil_iff.1 h1) hnil
    | some id =>
      obtain ⟨hl1, hl2⟩ := hlk id rfl
      obtain ⟨h1, h2, h2', off, cap, cs, rfl, h3, h4, h5, post, h6⟩ := h
      have hfl : ∀ l : List (Int × Int), (l.map encE).flatten.length = l.length * 2 := fun l => by rw [flat_len (encE_size l), List.length_map]
      have hle : off + es.length * 2 ≤ cs.length := by
        have := congrArg List.length h6
        rw [List.length_drop, List.length_append, hfl] at this
        omega
      have hcut : cutL cs off ((es.map encE).flatten).length = some (es.map encE).flatten := cut_all h6 h5 rfl
      have hans : SortAll lk 82 [.slice (some ⟨id, off, none⟩) (es.map encE).length cap, .func (.func 55) #[] #[]] s (.tuple #[], { s with hp := s.hp.put id (some (.cells true 58 (putL cs off ((srt ordE es).map encE).flatten))) }) :=
        Or.inr ⟨rfl, Or.inl ⟨id, off, cap, cs, es, by rw [List.length_map], hl1, hl2, h4, hcut, hgl.2, hnil, by omega, rfl⟩⟩
      refine ⟨_, sorts_ans hans, rfl, ?_, fun i hi => T.get_put_ne _ _ _ fun e => hi (by rw [e])⟩
      have hxl : (es.map encE).length = ((srt ordE es).map encE).length := by rw [List.length_map, List.length_map, srt_len]
      have hfs : ((srt ordE es).map encE).flatten.length = es.length * 2 := by rw [hfl, srt_len]
      rw [hxl] at h3 h2' ⊢
      refine ⟨h1, fun x hx => ?_, h2', off, cap, _, rfl, h3, T.get_put_eq _ _ _, ?_, post, ?_⟩
      · obtain ⟨y, _, rfl⟩ := List.mem_map.1 hx; exact ⟨rfl, rfl⟩
      · rw [putL_len (by rw [hfs]; exact hle)]; exact h5
      · have hp : post = cs.drop (off + es.length * 2) := by
          rw [← List.drop_drop, h6, ← hfl, List.drop_left]
        unfold putL
        rw [List.drop_append_of_le_length (by rw [List.length_take]; omega), List.drop_eq_nil_of_le (by rw [List.length_take]; omega), List.nil_append, hfs, hp]

theorem build28' (k v : Value) (h : k.cells = #[k]) (h' : v.cells = #[v]) : buildA Tryd.prog 28 [(0, k), (1, v)] = some (.agg #[k, v]) := by
  have h1 : fieldsA Tryd.prog 28 = some [{ name := "Nodes", type := 3, offset := 0, embedded := false, tag := "", pkgPath := "", byteOffset := 0 }, { name := "Edges", type := 26, offset := 1, embedded := false, tag := "", pkgPath := "", byteOffset := 8 }] := by kernel_rfl
  unfold fieldsA at h1
  split at h1
  · rename_i fs hfs
    simp only [Option.some.injEq] at h1
    unfold buildA
    simp only [zr28, Option.bind_some, hfs, h1, omap, sz3, sz26, Option.map_some]
    simp only [fillA, List.getElem?_cons_zero, List.getElem?_cons_succ, Option.bind_some, h, h']
    rfl
  · cases h1

theorem Sl.other {s s' : HS} {size : Nat} {v : Value} {xs : List (List Value)} (h : Sl s size v xs) (hn : s.nx ≤ s'.nx) (hg : ∀ (a : Addr) (n c : Nat), v = .slice (some a) n c → s'.hp.get a.block = s.hp.get a.block) : Sl s' size v xs := by
  rcases h with h | ⟨id, off, cap, wr, e, cs, h1, h2, h3, h4⟩
  · exact Or.inl h
  · exact Or.inr ⟨id, off, cap, wr, e, cs, h1, by rw [← h2]; exact hg _ _ _ h1, Nat.lt_of_lt_of_le h3 hn, h4⟩

theorem f65_spec (n : Nat) (es : List (Int × Int)) (ev : Value) (s : HS) (hgl : Glob s) (hs : Sl s 2 ev (es.map encE)) (hn : n ≤ 64) (hl : es.length < 100000) (hin : ∀ e ∈ es, 0 ≤ e.1 ∧ e.1 < n ∧ 0 ≤ e.2 ∧ e.2 < n) :
    wpF Tryd.prog s.nx 65 [.int .i64 n, ev] s (fun v s' => ∃ (ev' : Value) (es' : List (Int × Int)), v = .tuple #[vG n ev', .int .i64 0] ∧ Sl s' 2 ev' (es'.map encE) ∧ es'.length ≤ es.length ∧ (∀ e, e ∈ es' ↔ e ∈ es) ∧ ∀ a n' c', ev' = .slice (some a) n' c' → s.nx ≤ a.block) := by
  obtain ⟨b, c, rfl⟩ := hs.shape
  have hlm : (es.map encE).length = es.length := List.length_map _
  have g1 : ¬ (n : Int) < 0 := by omega
  have g2 : ¬ (n : Int) > 64 := by omega
  refine wpF_of Tryd.func65 rfl rfl rfl rfl (Nat.le_refl _) ?_
  simp only [paramsA]
  repeat (first
  | with_reducible first | refine st (by constructor) ?_ | apply c_region
  | (with_reducible apply k_block_on
     · decide)
  | ((with_reducible first | apply xOp | apply xDr | apply xIf); rfl; (simp only [Nat.reduceEqDiff, Nat.reduceAdd, ↓reduceIte, xBB, stG, undef, opA, val, opdA, opdO, plainN, omap, binA, intBinA, loadV, readA, storeV, writeA, fieldAddrA, indexAddrA, lenA, builtinA, newA, unA, packA, Value.cells, zr28, sz28, g1, g2, un26, hlm]; rfl); first | rfl | exact ⟨rfl, rfl, rfl⟩))
  generalize hst0 : ({ hp := s.hp.put s.nx (some (.cells true 28 [.int .i64 0, .slice none 0 0])), nx := s.nx + 1 } : HS) = s1
  have hn1 : s1.nx = s.nx + 1 := by rw [← hst0]
  have h1o : ∀ id, id < s.nx → s1.hp.get id = s.hp.get id := fun id h => by rw [← hst0]; exact T.get_put_ne _ _ _ (by omega)
  have h1b : s1.hp.get s.nx = some (.cells true 28 [.int .i64 0, .slice none 0 0]) := by rw [← hst0]; exact T.get_put_eq _ _ _
  clear hst0
  have hs1 : Sl s1 2 (.slice b (es.map encE).length c) (es.map encE) := hs.same (by omega) h1o
  have hgl1 : Glob s1 := ⟨by have := hgl.1; omega, by rw [h1o 0 hgl.1]; exact hgl.2⟩
  refine loop_k (lk' := s1.nx) (s0 := s1) (fun m f t => ∃ k : Nat, k + m = es.length ∧ f.get 18 = some (.int .i64 k)) es.length (by omega) (Nat.le_refl _) ?_ (Ab.refl _ _) ?_
  · exact ⟨0, by omega, by simp only [Nat.reduceEqDiff, T.get_put, ↓reduceIte]; rfl⟩
  · rintro m f t ⟨k, hk, h18⟩ hA hF
    (have k0 := hF 0 (by rfl); simp only [Nat.reduceEqDiff, T.get_put, ↓reduceIte, hlm] at k0; have k1 := hF 1 (by rfl); simp only [Nat.reduceEqDiff, T.get_put, ↓reduceIte, hlm] at k1; have k4 := hF 4 (by rfl); simp only [Nat.reduceEqDiff, T.get_put, ↓reduceIte, hlm] at k4; have k16 := hF 16 (by rfl); simp only [Nat.reduceEqDiff, T.get_put, ↓reduceIte, hlm] at k16; have k17 := hF 17 (by rfl); simp only [Nat.reduceEqDiff, T.get_put, ↓reduceIte, hlm] at k17)
    have hnt := hA.nx
    by_cases hlt : (k : Int) < (es.length : Int)
    · have hlt' : k < es.length := by omega
      obtain ⟨id, off, wr, e, cs, rfl, a1, a2, a3, a4⟩ := (hs1.keep hA).at (i := k) (x := encE es[k]) (by simp [hlt'])
      have hb : (0 : Int) ≤ (k : Int) ∧ (k : Int) < (es.length : Int) := ⟨by omega, hlt⟩
      obtain ⟨q1, q2, q3, q4⟩ := hin es[k] (List.getElem_mem hlt')
      simp only [encE] at a3
      have hw : IntKind.i64.wrap ((k : Int) + 1) = ((k + 1 : Nat) : Int) := by rw [IntWalk.i64_in _ (by omega)]; rfl
      generalize es[k] = x at *
      have hle : s.nx ≤ t.nx := by omega
      have o1 : ([Value.int .i64 x.1, .int .i64 x.2] : List Value).all Value.oneCell' = true := rfl
      have p1 : putL [Value.int .i64 0, .int .i64 0] 0 [.int .i64 x.1, .int .i64 x.2] = [.int .i64 x.1, .int .i64 x.2] := rfl
      have d1 : cutL [Value.int .i64 x.1, .int .i64 x.2] 0 1 = some [.int .i64 x.1] := rfl
      have d2 : cutL [Value.int .i64 x.1, .int .i64 x.2] 1 1 = some [.int .i64 x.2] := rfl
      have b1 : beyondB n x.1 = false := by unfold beyondB; simp; omega
      have b2 : beyondB n x.2 = false := by unfold beyondB; simp; omega
      repeat (first
  | with_reducible first | refine st (by constructor) ?_ | apply c_region
  | (with_reducible apply k_block_on
     · decide)
  | ((with_reducible first | apply xOp | apply xDr | apply xIf); rfl; (simp only [Nat.reduceEqDiff, Nat.reduceAdd, ↓reduceIte, xBB, stG, undef, opA, val, opdA, opdO, plainN, omap, binA, intBinA, loadV, readA, storeV, writeA, fieldAddrA, indexAddrA, lenA, builtinA, newA, unA, packA, Value.cells, h18, k17, hlt, k16, hlm, un26, sz58, ty58, zr58, hb, a1, a3, List.toList_toArray, o1, p1, hnt, k0, fd58_0, fd58_1, ty3, d1]; rfl); first | rfl | exact ⟨rfl, rfl, rfl⟩))
      ((with_reducible first | apply xCa | apply xCd); rfl; (simp only [Nat.reduceEqDiff, Nat.reduceAdd, ↓reduceIte, xBB, stB, opdA, opdO, plainN, omap, val, Value.cells]; exact ⟨rfl, rfl⟩); try rfl)
      apply call_fn
      refine (f54_spec n x.1 _).use (by first | exact Nat.le_refl _ | (simp only [cond_true, cond_false]; omega) | omega | (dsimp only; omega)) (Nat.le_refl _) fun v t1 hv hA1 => ?_
      obtain ⟨rfl, rfl⟩ := hv
      rw [b1]
      refine opt_of rfl ?_
      repeat (first
  | with_reducible first | refine st (by constructor) ?_ | apply c_region
  | (with_reducible apply k_block_on
     · decide)
  | ((with_reducible first | apply xOp | apply xDr | apply xIf); rfl; (simp only [Nat.reduceEqDiff, Nat.reduceAdd, ↓reduceIte, xBB, stG, undef, opA, val, opdA, opdO, plainN, omap, binA, intBinA, loadV, readA, storeV, writeA, fieldAddrA, indexAddrA, lenA, builtinA, newA, unA, packA, Value.cells, k0, fd58_0, fd58_1, ty3, d2]; rfl); first | rfl | exact ⟨rfl, rfl, rfl⟩))
      ((with_reducible first | apply xCa | apply xCd); rfl; (simp only [Nat.reduceEqDiff, Nat.reduceAdd, ↓reduceIte, xBB, stB, opdA, opdO, plainN, omap, val, Value.cells]; exact ⟨rfl, rfl⟩); try rfl)
      apply call_fn
      refine (f54_spec n x.2 _).use (by first | exact Nat.le_refl _ | (simp only [cond_true, cond_false]; omega) | omega | (dsimp only; omega)) (Nat.le_refl _) fun v t1 hv hA1 => ?_
      obtain ⟨rfl, rfl⟩ := hv
      rw [b2]
      refine opt_of rfl ?_
      repeat (first
  | with_reducible first | refine st (by constructor) ?_ | apply c_region
  | (with_reducible apply k_block_on
     · decide)
  | ((with_reducible first | apply xOp | apply xDr | apply xIf); rfl; (simp only [Nat.reduceEqDiff, Nat.reduceAdd, ↓reduceIte, xBB, stG, undef, opA, val, opdA, opdO, plainN, omap, binA, intBinA, loadV, readA, storeV, writeA, fieldAddrA, indexAddrA, lenA, builtinA, newA, unA, packA, Value.cells, h18, hw]; rfl); first | rfl | exact ⟨rfl, rfl, rfl⟩))
      intro _ _
      exact k_loop_next (m' := m - 1) (by omega) ⟨k + 1, by omega, by simp only [Nat.reduceEqDiff, T.get_put, ↓reduceIte]⟩
    · have hs2 := hs1.keep hA
      have hgl2 := hgl1.keep hA
      have h2b := (hA.get (Nat.le_refl _) (show s.nx < s1.nx by omega)).trans h1b
      repeat (first
  | with_reducible first | refine st (by constructor) ?_ | apply c_region
  | (with_reducible apply k_block_on
     · decide)
  | ((with_reducible first | apply xOp | apply xDr | apply xIf); rfl; (simp only [Nat.reduceEqDiff, Nat.reduceAdd, ↓reduceIte, xBB, stG, undef, opA, val, opdA, opdO, plainN, omap, binA, intBinA, loadV, readA, storeV, writeA, fieldAddrA, indexAddrA, lenA, builtinA, newA, unA, packA, Value.cells, h18, k17, hlt]; rfl); first | rfl | exact ⟨rfl, rfl, rfl⟩))
      intro _ _
      repeat (first
  | with_reducible first | refine st (by constructor) ?_ | apply c_region
  | (with_reducible apply k_block_on
     · decide)
  | ((with_reducible first | apply xOp | apply xDr | apply xIf); rfl; (simp only [Nat.reduceEqDiff, Nat.reduceAdd, ↓reduceIte, xBB, stG, undef, opA, val, opdA, opdO, plainN, omap, binA, intBinA, loadV, readA, storeV, writeA, fieldAddrA, indexAddrA, lenA, builtinA, newA, unA, packA, Value.cells, k1]; rfl); first | rfl | exact ⟨rfl, rfl, rfl⟩))
      ((with_reducible first | apply xCa | apply xCd); rfl; (simp only [Nat.reduceEqDiff, Nat.reduceAdd, ↓reduceIte, xBB, stB, opdA, opdO, plainN, omap, val, Value.cells]; exact ⟨rfl, rfl⟩); try rfl)
      apply call_fn
      rw [hlm] at hs2
      refine (f81_spec es _ t hs2 (by omega)).use (by first | exact Nat.le_refl _ | (simp only [cond_true, cond_false]; omega) | omega | (dsimp only; omega)) (Nat.le_refl _) fun v t1 hv hA1 => ?_
      obtain ⟨o, hown, hnew⟩ := hv
      have hnt1 := hA1.nx
      have hgl3 := hgl2.keep hA1
      have h3b := (hA1.get (Nat.le_refl _) (show s.nx < t.nx by omega)).trans h2b
      obtain ⟨t2, r1, r2, r3, r4⟩ := sort_ownE (lk := s.nx) hown (fun id ho => ⟨by have := hnew id ho; omega, by have := hnew id ho; have := hgl.1; omega⟩) hgl3 (by omega)
      refine opt_of rfl ?_
      repeat (first
  | with_reducible first | refine st (by constructor) ?_ | apply c_region
  | (with_reducible apply k_block_on
     · decide)
  | ((with_reducible first | apply xOp | apply xDr | apply xIf); rfl; (simp only [Nat.reduceEqDiff, Nat.reduceAdd, ↓reduceIte, xBB, stG, undef, opA, val, opdA, opdO, plainN, omap, binA, intBinA, loadV, readA, storeV, writeA, fieldAddrA, indexAddrA, lenA, builtinA, newA, unA, packA, Value.cells]; rfl); first | rfl | exact ⟨rfl, rfl, rfl⟩))
      ((with_reducible first | apply xCa | apply xCd); rfl; (simp only [Nat.reduceEqDiff, Nat.reduceAdd, ↓reduceIte, xBB, stB, opdA, opdO, plainN, omap, val, Value.cells]; exact ⟨rfl, rfl⟩); try rfl)
      apply call_fn
      refine wpF_sort (by kernel_rfl) r1 ?_
      have h4b := (r4 s.nx (fun ho => by have := hnew _ ho; omega)).trans h3b
      refine opt_of rfl ?_
      repeat (first
  | with_reducible first | refine st (by constructor) ?_ | apply c_region
  | (with_reducible apply k_block_on
     · decide)
  | ((with_reducible first | apply xOp | apply xDr | apply xIf); rfl; (simp only [Nat.reduceEqDiff, Nat.reduceAdd, ↓reduceIte, xBB, stG, undef, opA, val, opdA, opdO, plainN, omap, binA, intBinA, loadV, readA, storeV, writeA, fieldAddrA, indexAddrA, lenA, builtinA, newA, unA, packA, Value.cells, k0]; rfl); first | rfl | exact ⟨rfl, rfl, rfl⟩))
      ((with_reducible first | apply xCa | apply xCd); rfl; (simp only [Nat.reduceEqDiff, Nat.reduceAdd, ↓reduceIte, xBB, stB, opdA, opdO, plainN, omap, val, Value.cells]; exact ⟨rfl, rfl⟩); try rfl)
      apply call_fn
      refine (f83_spec (srt ordE es) v o t.nx t2 r3 (by omega) (fun id ho => hnew id ho) (by rw [srt_len]; omega)).use (by first | exact Nat.le_refl _ | (simp only [cond_true, cond_false]; omega) | omega | (dsimp only; omega)) (by omega) fun w t3 hv hA3 => ?_
      obtain ⟨es', e1, e2, e3, e4⟩ := hv
      have h5b := (hA3.get (by omega) (show s.nx < t.nx by omega)).trans h4b
      obtain ⟨wb, wc, rfl⟩ := e2.shape
      have hlo : s.nx ≤ s.nx := Nat.le_refl _
      have o1 : ([Value.int .i64 (n : Int), .slice wb (es'.map encE).length wc] : List Value).all Value.oneCell' = true := rfl
      have p1 : putL [Value.int .i64 0, .slice none 0 0] 0 [.int .i64 (n : Int), .slice wb (es'.map encE).length wc] = [.int .i64 (n : Int), .slice wb (es'.map encE).length wc] := rfl
      have c1 : cutL [Value.int .i64 (n : Int), .slice wb (es'.map encE).length wc] 0 2 = some [.int .i64 (n : Int), .slice wb (es'.map encE).length wc] := rfl
      have hbd := build28' (.int .i64 n) (.slice wb (es'.map encE).length wc) rfl rfl
      refine opt_of rfl ?_
      repeat (first
  | with_reducible first | refine st (by constructor) ?_ | apply c_region
  | (with_reducible apply k_block_on
     · decide)
  | ((with_reducible first | apply xOp | apply xDr | apply xIf); rfl; (simp only [Nat.reduceEqDiff, Nat.reduceAdd, ↓reduceIte, xBB, stG, undef, opA, val, opdA, opdO, plainN, omap, binA, intBinA, loadV, readA, storeV, writeA, fieldAddrA, indexAddrA, lenA, builtinA, newA, unA, packA, Value.cells, hbd, k4, sz28, h5b, o1, p1, List.toList_toArray]; rfl); first | rfl | exact ⟨rfl, rfl, rfl⟩))
      intro _
      ((with_reducible first | apply ret_i | apply ret_n); (simp only [Nat.reduceEqDiff, Nat.reduceAdd, ↓reduceIte, xBB, resA, opdA, opdO, plainN, omap, val, loadV, readA, packA, k4, ty28, c1, List.toList_toArray]; rfl))
      refine ⟨_, es', rfl, ?_, by rw [srt_len] at e1; exact e1, fun e => ?_, fun a n' c' h => by have := hnew _ (e4 a n' c' h); omega⟩
      · refine e2.other (Nat.le_refl _) fun a n' c' h => ?_
        have h7 := e4 a n' c' h
        have := hnew _ h7
        exact T.get_put_ne _ _ _ (by omega)
      · rw [e3]
        unfold srt
        exact List.mem_mergeSort
end Go.Ev

/- graph.condense. -/
namespace Go.Ev
open Go Go.Proofs
set_option linter.unusedSimpArgs false
set_option linter.unusedVariables false
set_option maxRecDepth 100000
set_option maxHeartbeats 4000000
attribute [local irreducible] wpOps wpC wpD wpF wpLoop wpCall seqK blockK loopK retK T.put T.get T.setF

/-- The number of the component of a node. -/
def ofN (n : Nat) (es : List (Int × Int)) (x : Nat) (k : Int) : Prop := ∃ r, r < n ∧ isRep n es r = true ∧ mutB n es r x = true ∧ k = ((reps n es r).length : Int)
theorem of_ex {n : Nat} {es : List (Int × Int)} (hg : GoodG n es) {L : List Int} (h : OfOK n es n L) {x : Nat} (hx : x < n) : ∃ k, L[x]? = some k ∧ ofN n es x k ∧ 0 ≤ k ∧ k < ((compsL n es n).length : Int) := by
  obtain ⟨r, h1, h2, h3⟩ := rep_ex hg hx
  have hrn : r < n := by omega
  refine ⟨_, (h.2 x hx).1 r hrn h2 h3, ⟨r, hrn, h2, h3, rfl⟩, by omega, ?_⟩
  rw [compsL_len]
  have h4 : reps n es n = reps n es r ++ (reps n es n).drop (reps n es r).length := by
    have hp : reps n es r <+: reps n es n := by
      unfold reps
      refine List.IsPrefix.filter _ ?_
      have : n = r + (n - r) := by omega
      rw [this, List.range_add]
      exact List.prefix_append _ _
    exact (List.prefix_iff_eq_append.1 hp).symm
  have h5 : r ∈ reps n es n := mem_reps.2 ⟨hrn, h2⟩
  have h6 : r ∉ reps n es r := fun h => by have := (mem_reps.1 h).1; omega
  rw [h4] at h5
  rcases List.mem_append.1 h5 with h7 | h7
  · exact absurd h7 h6
  · have := List.length_pos_of_mem h7
    rw [List.length_drop] at this
    omega

theorem of_uniq {n : Nat} {es : List (Int × Int)} (hg : GoodG n es) {x : Nat} (hx : x < n) {k k' : Int} (h : ofN n es x k) (h' : ofN n es x k') : k = k' := by
  obtain ⟨r, h1, h2, h3, rfl⟩ := h
  obtain ⟨r', h1', h2', h3', rfl⟩ := h'
  rw [rep_uniq hg hx h1 h1' h2 h3 h2' h3']
/-- An edge between components. -/
def LinkC (n : Nat) (es fs : List (Int × Int)) (c : Int × Int) : Prop := ∃ e ∈ fs, ofN n es e.1.toNat c.1 ∧ ofN n es e.2.toNat c.2 ∧ c.1 ≠ c.2

theorem f51_spec (n : Nat) (es : List (Int × Int)) (ev : Value) (s : HS) (hgl : Glob s) (hs : Sl s 2 ev (es.map encE)) (hg : GoodG n es) :
    wpF Tryd.prog s.nx 51 [vG n ev] s (fun v s' => ∃ (m : Int) (ev' fv : Value) (cs : List (Int × Int)), v = .tuple #[vG m ev', fv] ∧ Sl s' 2 ev' (cs.map encE) ∧ cs.length < 1000000 ∧ ∀ c, c ∈ cs ↔ LinkC n es es c) := by
  obtain ⟨b, c, rfl⟩ := hs.shape
  have hlm : (es.map encE).length = es.length := List.length_map _
  have hn64 : n ≤ 64 := by have := hg.hi; omega
  have hel := hg.len
  have hc2 : cutL [Value.int .i64 (n : Int), .slice b (es.map encE).length c] 0 2 = some [.int .i64 n, .slice b (es.map encE).length c] := rfl
  have hc1 : cutL [Value.int .i64 (n : Int), .slice b (es.map encE).length c] 1 1 = some [.slice b (es.map encE).length c] := rfl
  refine wpF_of Tryd.func51 rfl rfl rfl rfl (Nat.le_refl _) ?_
  simp only [paramsA, vG]
  repeat (first
  | with_reducible first | refine st (by constructor) ?_
  | (with_reducible apply k_block_on
     · decide)
  | ((with_reducible first | apply xOp | apply xDr | apply xIf); rfl; (simp only [Nat.reduceEqDiff, Nat.reduceAdd, ↓reduceIte, xBB, stG, undef, opA, val, opdA, opdO, plainN, omap, binA, intBinA, loadV, readA, storeV, writeA, fieldAddrA, indexAddrA, lenA, builtinA, newA, unA, packA, Value.cells]; rfl); first | rfl | exact ⟨rfl, rfl, rfl⟩))
  apply c_region
  repeat (first
  | with_reducible first | refine st (by constructor) ?_
  | (with_reducible apply k_block_on
     · decide)
  | ((with_reducible first | apply xOp | apply xDr | apply xIf); rfl; (simp only [Nat.reduceEqDiff, Nat.reduceAdd, ↓reduceIte, xBB, stG, undef, opA, val, opdA, opdO, plainN, omap, binA, intBinA, loadV, readA, storeV, writeA, fieldAddrA, indexAddrA, lenA, builtinA, newA, unA, packA, Value.cells, sz28, zr28]; rfl); first | rfl | exact ⟨rfl, rfl, rfl⟩))
  generalize hst0 : ({ hp := (s.hp.put s.nx (some (.cells true 28 [.int .i64 n, .slice b (es.map encE).length c]))).put (s.nx + 1) (some (.cells true 28 [.int .i64 0, .slice none 0 0])), nx := s.nx + 1 + 1 } : HS) = s1
  have hn1 : s1.nx = s.nx + 2 := by rw [← hst0]
  have h1o : ∀ id, id < s.nx → s1.hp.get id = s.hp.get id := fun id h => by rw [← hst0]; dsimp only; rw [T.get_put_ne _ _ _ (by omega), T.get_put_ne _ _ _ (by omega)]
  have h1g : s1.hp.get s.nx = some (.cells true 28 [.int .i64 n, .slice b (es.map encE).length c]) := by rw [← hst0]; dsimp only; rw [T.get_put_ne _ _ _ (by omega), T.get_put_eq]
  have h1r : s1.hp.get (s.nx + 1) = some (.cells true 28 [.int .i64 0, .slice none 0 0]) := by rw [← hst0]; exact T.get_put_eq _ _ _
  clear hst0
  have hs1 : Sl s1 2 (.slice b (es.map encE).length c) (es.map encE) := hs.same (by omega) h1o
  have hgl1 : Glob s1 := ⟨by have := hgl.1; omega, by rw [h1o 0 hgl.1]; exact hgl.2⟩
  apply c_region
  repeat (first
  | with_reducible first | refine st (by constructor) ?_
  | (with_reducible apply k_block_on
     · decide)
  | ((with_reducible first | apply xOp | apply xDr | apply xIf); rfl; (simp only [Nat.reduceEqDiff, Nat.reduceAdd, ↓reduceIte, xBB, stG, undef, opA, val, opdA, opdO, plainN, omap, binA, intBinA, loadV, readA, storeV, writeA, fieldAddrA, indexAddrA, lenA, builtinA, newA, unA, packA, Value.cells, h1g, ty28, hc2, List.toList_toArray]; rfl); first | rfl | exact ⟨rfl, rfl, rfl⟩))
  ((with_reducible first | apply xCa | apply xCd); rfl; (simp only [Nat.reduceEqDiff, Nat.reduceAdd, ↓reduceIte, xBB, stB, opdA, opdO, plainN, omap, val, Value.cells]; exact ⟨rfl, rfl⟩); try rfl)
  apply call_fn
  refine (f50_spec n es _ s1 hs1 hg).use (by first | exact Nat.le_refl _ | (simp only [cond_true, cond_false]; omega) | omega | (dsimp only; omega)) (Nat.le_refl _) fun v s2 hv hA2 => ?_
  obtain ⟨ov, fv, L, rfl, hlls, hfs, hOK⟩ := hv
  have hn2 := hA2.nx
  have h2g := (hA2.get (Nat.le_refl _) (show s.nx < s1.nx by omega)).trans h1g
  have h2r := (hA2.get (Nat.le_refl _) (show s.nx + 1 < s1.nx by omega)).trans h1r
  have hs2 := hs1.keep hA2
  have hgl2 := hgl1.keep hA2
  obtain ⟨ob, oc, rfl⟩ := hlls.shape
  obtain ⟨fb, fc, rfl⟩ := hfs.shape
  have hLm : (L.map encI).length = n := by rw [List.length_map]; exact hOK.1
  refine opt_of rfl ?_
  repeat (first
  | with_reducible first | refine st (by constructor) ?_ | apply c_region
  | (with_reducible apply k_block_on
     · decide)
  | ((with_reducible first | apply xOp | apply xDr | apply xIf); rfl; (simp only [Nat.reduceEqDiff, Nat.reduceAdd, ↓reduceIte, xBB, stG, undef, opA, val, opdA, opdO, plainN, omap, binA, intBinA, loadV, readA, storeV, writeA, fieldAddrA, indexAddrA, lenA, builtinA, newA, unA, packA, Value.cells, List.getElem?_cons_zero, List.getElem?_cons_succ, List.toList_toArray, h2g, fd28_1, ty26, hc1, un26, hlm]; rfl); first | rfl | exact ⟨rfl, rfl, rfl⟩))
  refine loop_k (lk' := s2.nx) (s0 := s2) (fun m f t => ∃ k : Nat, k + m = es.length ∧ f.get 19 = some (.int .i64 k) ∧ ∃ (o : Option Nat) (v : Value) (cs : List (Int × Int)), f.get 6 = some v ∧ Own t 58 2 o v (cs.map encE) ∧ newer s2 o ∧ cs.length ≤ k ∧ ∀ c, c ∈ cs ↔ LinkC n es (es.take k) c) es.length (by omega) (Nat.le_refl _) ?_ (Ab.refl _ _) ?_
  · exact ⟨0, by omega, by simp only [Nat.reduceEqDiff, T.get_put, ↓reduceIte]; rfl, none, .slice none 0 0, [], by simp only [Nat.reduceEqDiff, T.get_put, ↓reduceIte], ⟨rfl, rfl⟩, fun _ h => (by cases h), Nat.le_refl _, fun c => ⟨fun h => (by cases h), fun ⟨e, h, _⟩ => (by cases h)⟩⟩
  · rintro m f t ⟨k, hk, h19, o, v, cs, h6, hown, hnew, hcl, hmem⟩ hA hF
    (have k1 := hF 1 (by rfl); simp only [Nat.reduceEqDiff, T.get_put, ↓reduceIte, hlm] at k1; have k2 := hF 2 (by rfl); simp only [Nat.reduceEqDiff, T.get_put, ↓reduceIte, hlm] at k2; have k4 := hF 4 (by rfl); simp only [Nat.reduceEqDiff, T.get_put, ↓reduceIte, hlm] at k4; have k5 := hF 5 (by rfl); simp only [Nat.reduceEqDiff, T.get_put, ↓reduceIte, hlm] at k5; have k17 := hF 17 (by rfl); simp only [Nat.reduceEqDiff, T.get_put, ↓reduceIte, hlm] at k17; have k18 := hF 18 (by rfl); simp only [Nat.reduceEqDiff, T.get_put, ↓reduceIte, hlm] at k18)
    have hnt := hA.nx
    by_cases hlt : (k : Int) < (es.length : Int)
    · have hlt' : k < es.length := by omega
      have hw : IntKind.i64.wrap ((k : Int) + 1) = ((k + 1 : Nat) : Int) := by rw [IntWalk.i64_in _ (by omega)]; rfl
      have hb : (0 : Int) ≤ (k : Int) ∧ (k : Int) < (es.length : Int) := by omega
      obtain ⟨id, off, wr, e, ca, rfl, a1, a2, a3, a4⟩ := (hs2.keep hA).at (i := k) (x := encE es[k]) (by simp [hlt'])
      simp only [encE] at a3
      obtain ⟨q1, q2, q3, q4⟩ := hg.ins es[k] (List.getElem_mem hlt')
      have htk : es.take (k + 1) = es.take k ++ [es[k]] := List.take_succ_eq_append_getElem hlt'
      generalize es[k] = x at *
      obtain ⟨k1, r1, r2, r3, r4⟩ := of_ex hg hOK (x := x.1.toNat) (by omega)
      obtain ⟨k2, u1, u2, u3, u4⟩ := of_ex hg hOK (x := x.2.toNat) (by omega)
      have hfs2 := hfs.keep hA
      have hfx := hfs2
      obtain ⟨idf, offf, wrf, ef, cf, hfe, f1, f2, f3, f4⟩ := hfs2.at (i := x.1.toNat) (x := encI k1) (by rw [List.getElem?_map, r1]; rfl)
      obtain ⟨idf', offf', wrf', ef', cf', hfe', f1', f2', f3', f4'⟩ := hfs2.at (i := x.2.toNat) (x := encI k2) (by rw [List.getElem?_map, u1]; rfl)
      subst hfe
      cases hfe'
      rw [f1] at f1'
      cases f1'
      simp only [encI] at f3 f3'
      have hb1 : (0 : Int) ≤ x.1 ∧ x.1 < (n : Int) := by omega
      have hb2 : (0 : Int) ≤ x.2 ∧ x.2 < (n : Int) := by omega
      have hle : s.nx ≤ t.nx := by omega
      have o1 : ([Value.int .i64 x.1, .int .i64 x.2] : List Value).all Value.oneCell' = true := rfl
      have p1 : putL [Value.int .i64 0, .int .i64 0] 0 [.int .i64 x.1, .int .i64 x.2] = [.int .i64 x.1, .int .i64 x.2] := rfl
      have d1 : cutL [Value.int .i64 x.1, .int .i64 x.2] 0 1 = some [.int .i64 x.1] := rfl
      have d2 : cutL [Value.int .i64 x.1, .int .i64 x.2] 1 1 = some [.int .i64 x.2] := rfl
      have hid : ¬ idf = t.nx := by omega
      have hbd := build58 k1 k2
      have hto := hnt
      repeat (first
  | with_reducible first | refine st (by constructor) ?_
  | (with_reducible apply k_block_on
     · decide)
  | ((with_reducible first | apply xOp | apply xDr | apply xIf); rfl; (simp only [Nat.reduceEqDiff, Nat.reduceAdd, ↓reduceIte, xBB, stG, undef, opA, val, opdA, opdO, plainN, omap, binA, intBinA, loadV, readA, storeV, writeA, fieldAddrA, indexAddrA, lenA, builtinA, newA, unA, packA, Value.cells, h19, k18, hlm, hlt]; rfl); first | rfl | exact ⟨rfl, rfl, rfl⟩))
      apply c_region
      repeat (first
  | with_reducible first | refine st (by constructor) ?_
  | (with_reducible apply k_block_on
     · decide)
  | ((with_reducible first | apply xOp | apply xDr | apply xIf); rfl; (simp only [Nat.reduceEqDiff, Nat.reduceAdd, ↓reduceIte, xBB, stG, undef, opA, val, opdA, opdO, plainN, omap, binA, intBinA, loadV, readA, storeV, writeA, fieldAddrA, indexAddrA, lenA, builtinA, newA, unA, packA, Value.cells, h19, k18, hlm, hlt]; rfl); first | rfl | exact ⟨rfl, rfl, rfl⟩))
      apply c_region
      repeat (first
  | with_reducible first | refine st (by constructor) ?_
  | (with_reducible apply k_block_on
     · decide)
  | ((with_reducible first | apply xOp | apply xDr | apply xIf); rfl; (simp only [Nat.reduceEqDiff, Nat.reduceAdd, ↓reduceIte, xBB, stG, undef, opA, val, opdA, opdO, plainN, omap, binA, intBinA, loadV, readA, storeV, writeA, fieldAddrA, indexAddrA, lenA, builtinA, newA, unA, packA, Value.cells, h19, k17, hlm, un26, sz58, ty58, zr58, hb, a1, a3, List.toList_toArray, o1, p1, hto]; rfl); first | rfl | exact ⟨rfl, rfl, rfl⟩))
      dsimp only
      generalize hst1 : ({ hp := (t.hp.put t.nx (some (.cells true 58 [.int .i64 0, .int .i64 0]))).put t.nx (some (.cells true 58 [.int .i64 x.1, .int .i64 x.2])), nx := t.nx + 1 } : HS) = t1
      have h1n : t1.nx = t.nx + 1 := by rw [← hst1]
      have h1o' : ∀ id, id < t.nx → t1.hp.get id = t.hp.get id := fun id h => by rw [← hst1]; dsimp only; rw [T.get_put_ne _ _ _ (by omega), T.get_put_ne _ _ _ (by omega)]
      have h1b : t1.hp.get t.nx = some (.cells true 58 [.int .i64 x.1, .int .i64 x.2]) := by rw [← hst1]; exact T.get_put_eq _ _ _
      clear hst1
      have g1 := (h1o' idf f2).trans f1
      have hown1 : Own t1 58 2 o v (cs.map encE) := hown.same (by omega) fun id h => h1o' id (hown.lt h)
      refine c_draw [⟨false, [], none⟩, ⟨false, [], none⟩, ⟨false, [], none⟩, ⟨false, [], none⟩, ⟨false, [], none⟩, ⟨false, [], none⟩, ⟨false, [], none⟩, ⟨false, [2, 4], none⟩, ⟨false, [], none⟩, ⟨false, [2, 4], none⟩, ⟨true, [], none⟩] (by kernel_rfl) ?_
      by_cases hne : k1 = k2
      · have e1 : (k1 != k2) = false := by simp [hne]
        repeat (first
  | with_reducible first | refine st (by constructor) ?_ | apply c_region
  | (with_reducible apply k_block_on
     · decide)
  | ((with_reducible first | apply xOp | apply xDr | apply xIf); rfl; (simp only [Nat.reduceEqDiff, Nat.reduceAdd, ↓reduceIte, xBB, stG, undef, opA, val, opdA, opdO, plainN, omap, binA, intBinA, loadV, readA, storeV, writeA, fieldAddrA, indexAddrA, lenA, builtinA, newA, unA, packA, Value.cells, k5, hLm, un35, sz3, ty3, fd58_0, fd58_1, h1b, d1, d2, hb1, hb2, g1, f3, f3', e1, h19, hw]; rfl); first | rfl | exact ⟨rfl, rfl, rfl⟩))
        intro _ _
        refine k_loop_next (m' := m - 1) (by omega) ⟨k + 1, by omega, by simp only [Nat.reduceEqDiff, T.get_put, ↓reduceIte], o, v, cs, by simp only [Nat.reduceEqDiff, T.get_put, ↓reduceIte]; exact h6, hown1, hnew, by omega, fun cc => ?_⟩
        rw [hmem, htk]
        constructor
        · rintro ⟨e, h1, h2⟩; exact ⟨e, List.mem_append_left _ h1, h2⟩
        · rintro ⟨e, h1, h2, h3, h4⟩
          rcases List.mem_append.1 h1 with h1 | h1
          · exact ⟨e, h1, h2, h3, h4⟩
          · simp at h1; subst h1
            exact absurd ((of_uniq hg (by omega) h2 r2).trans (hne.trans (of_uniq hg (by omega) u2 h3))) h4
      · have e1 : (k1 != k2) = true := by simp [hne]
        repeat (first
  | with_reducible first | refine st (by constructor) ?_ | apply c_region
  | (with_reducible apply k_block_on
     · decide)
  | ((with_reducible first | apply xOp | apply xDr | apply xIf); rfl; (simp only [Nat.reduceEqDiff, Nat.reduceAdd, ↓reduceIte, xBB, stG, undef, opA, val, opdA, opdO, plainN, omap, binA, intBinA, loadV, readA, storeV, writeA, fieldAddrA, indexAddrA, lenA, builtinA, newA, unA, packA, Value.cells, k5, hLm, un35, sz3, ty3, fd58_0, fd58_1, h1b, d1, d2, hb1, hb2, g1, f3, f3', e1]; rfl); first | rfl | exact ⟨rfl, rfl, rfl⟩))
        refine c_draw [⟨false, [], none⟩, ⟨false, [], none⟩, ⟨false, [], none⟩, ⟨false, [], none⟩, ⟨false, [], none⟩, ⟨false, [], none⟩, ⟨false, [], none⟩, ⟨false, [], none⟩, ⟨false, [3, 5], none⟩, ⟨false, [], none⟩, ⟨false, [3, 5], none⟩, ⟨true, [], none⟩, ⟨true, [], none⟩, ⟨true, [], none⟩, ⟨true, [], none⟩] (by kernel_rfl) ?_
        repeat (first
  | with_reducible first | refine st (by constructor) ?_ | apply c_region
  | (with_reducible apply k_block_on
     · decide)
  | ((with_reducible first | apply xOp | apply xDr | apply xIf); rfl; (simp only [Nat.reduceEqDiff, Nat.reduceAdd, ↓reduceIte, xBB, stG, undef, opA, val, opdA, opdO, plainN, omap, binA, intBinA, loadV, readA, storeV, writeA, fieldAddrA, indexAddrA, lenA, builtinA, newA, unA, packA, Value.cells, k5, hLm, un35, sz3, ty3, fd58_0, fd58_1, h1b, d1, d2, hb1, hb2, g1, f3, f3', hbd, h6]; rfl); first | rfl | exact ⟨rfl, rfl, rfl⟩))
        ((with_reducible first | apply ops_opt | apply xPd); (first | rfl | exact ⟨rfl, rfl⟩); (simp only [Nat.reduceEqDiff, Nat.reduceAdd, ↓reduceIte, xBB, opA, val, opdA, opdO, plainN, omap, binA, intBinA, loadV, readA, storeV, writeA, fieldAddrA, indexAddrA, lenA, builtinA, newA, unA, packA, Value.cells, buildSliceA, el26, sz58, zr58, zerosL, fillA, List.toList_toArray]; rfl))
        refine opt_of rfl ?_
        refine opt_of rfl ?_
        ((with_reducible first | apply ops_opt | apply xPd); (first | rfl | exact ⟨rfl, rfl⟩); (simp only [Nat.reduceEqDiff, Nat.reduceAdd, ↓reduceIte, xBB, opA, val, opdA, opdO, plainN, omap, binA, intBinA, loadV, readA, storeV, writeA, fieldAddrA, indexAddrA, lenA, builtinA, newA, unA, packA, Value.cells, un26, h6]; rfl))
        generalize hst2 : ({ hp := t1.hp.put t1.nx (some (.cells true 58 (putL ([.int .i64 0, .int .i64 0] ++ []) (0 * 2) [.int .i64 k1, .int .i64 k2]))), nx := t1.nx + 1 } : HS) = t2
        have h2n : t2.nx = t1.nx + 1 := by rw [← hst2]
        have h2o : ∀ id, id < t1.nx → t2.hp.get id = t1.hp.get id := fun id h => by rw [← hst2]; exact T.get_put_ne _ _ _ (by omega)
        have h2y : t2.hp.get t1.nx = some (.cells true 58 (encE (k1, k2))) := by rw [← hst2]; exact T.get_put_eq _ _ _
        have hown2 : Own t2 58 2 o v (cs.map encE) := hown1.same (by omega) fun id h => h2o id (hown1.lt h)
        refine opt_ex (app_one (lk := s2.nx) (y := encE (k1, k2)) el26 sz58 by58 zr58 rfl (by decide) hown2 (fun id h => hnew id h) h2y rfl rfl (by simp; omega)) fun q hq => ?_
        obtain ⟨qv, t3⟩ := q
        obtain ⟨p1', p2, o', p3, p4⟩ := hq
        dsimp only at p1' p2 p3
        refine opt_of rfl ?_
        repeat (first
  | with_reducible first | refine st (by constructor) ?_ | apply c_region
  | (with_reducible apply k_block_on
     · decide)
  | ((with_reducible first | apply xOp | apply xDr | apply xIf); rfl; (simp only [Nat.reduceEqDiff, Nat.reduceAdd, ↓reduceIte, xBB, stG, undef, opA, val, opdA, opdO, plainN, omap, binA, intBinA, loadV, readA, storeV, writeA, fieldAddrA, indexAddrA, lenA, builtinA, newA, unA, packA, Value.cells, h19, hw]; rfl); first | rfl | exact ⟨rfl, rfl, rfl⟩))
        intro _ _
        refine k_loop_next (m' := m - 1) (by omega) ⟨k + 1, by omega, by simp only [Nat.reduceEqDiff, T.get_put, ↓reduceIte], o', qv, cs ++ [(k1, k2)], by simp only [Nat.reduceEqDiff, T.get_put, ↓reduceIte], by rw [List.map_append]; exact p3, fun id h => ?_, by rw [List.length_append]; simp; omega, fun cc => ?_⟩
        · rcases p4 with rfl | rfl
          · exact hnew id h
          · cases h; omega
        · rw [List.mem_append, hmem, htk, List.mem_singleton]
          constructor
          · rintro (⟨e, h1, h2⟩ | rfl)
            · exact ⟨e, List.mem_append_left _ h1, h2⟩
            · exact ⟨x, List.mem_append_right _ (by simp), r2, u2, hne⟩
          · rintro ⟨e, h1, h2, h3, h4⟩
            rcases List.mem_append.1 h1 with h1 | h1
            · exact Or.inl ⟨e, h1, h2, h3, h4⟩
            · simp at h1; subst h1
              exact Or.inr (Prod.ext (of_uniq hg (by omega) h2 r2) (of_uniq hg (by omega) h3 u2))
    · have hkn : k = es.length := by omega
      rw [hkn, List.take_length] at hmem
      have hs3 := hs2.keep hA
      have hgl3 := hgl2.keep hA
      have h3r := (hA.get (Nat.le_refl _) (show s.nx + 1 < s2.nx by omega)).trans h2r
      obtain ⟨vb, vc, rfl⟩ := hown.shape
      have hcn : (compsL n es n).length ≤ 64 := by rw [compsL_len]; have := reps_len (n := n) (es := es) n; omega
      repeat (first
  | with_reducible first | refine st (by constructor) ?_ | apply c_region
  | (with_reducible apply k_block_on
     · decide)
  | ((with_reducible first | apply xOp | apply xDr | apply xIf); rfl; (simp only [Nat.reduceEqDiff, Nat.reduceAdd, ↓reduceIte, xBB, stG, undef, opA, val, opdA, opdO, plainN, omap, binA, intBinA, loadV, readA, storeV, writeA, fieldAddrA, indexAddrA, lenA, builtinA, newA, unA, packA, Value.cells, h19, k18, hlm, hlt]; rfl); first | rfl | exact ⟨rfl, rfl, rfl⟩))
      intro _ _
      repeat (first
  | with_reducible first | refine st (by constructor) ?_ | apply c_region
  | (with_reducible apply k_block_on
     · decide)
  | ((with_reducible first | apply xOp | apply xDr | apply xIf); rfl; (simp only [Nat.reduceEqDiff, Nat.reduceAdd, ↓reduceIte, xBB, stG, undef, opA, val, opdA, opdO, plainN, omap, binA, intBinA, loadV, readA, storeV, writeA, fieldAddrA, indexAddrA, lenA, builtinA, newA, unA, packA, Value.cells, k4, h6, un30]; rfl); first | rfl | exact ⟨rfl, rfl, rfl⟩))
      ((with_reducible first | apply xCa | apply xCd); rfl; (simp only [Nat.reduceEqDiff, Nat.reduceAdd, ↓reduceIte, xBB, stB, opdA, opdO, plainN, omap, val, Value.cells]; exact ⟨rfl, rfl⟩); try rfl)
      apply call_fn
      refine (f65_spec (compsL n es n).length cs _ t hgl3 hown.sl hcn (by omega) (fun e he => ?_)).use (by first | exact Nat.le_refl _ | (simp only [cond_true, cond_false]; omega) | omega | (dsimp only; omega)) (Nat.le_refl _) fun v t1 hv hA3 => ?_
      · obtain ⟨e0, h1, ⟨r, g1, g2, g3, g4⟩, ⟨r', g1', g2', g3', g4'⟩, _⟩ := (hmem e).1 he
        obtain ⟨q1, q2, q3, q4⟩ := hg.ins e0 h1
        obtain ⟨z1, z2, z3, z4, z5⟩ := of_ex hg hOK (x := e0.1.toNat) (by omega)
        obtain ⟨y1, y2, y3, y4, y5⟩ := of_ex hg hOK (x := e0.2.toNat) (by omega)
        have w1 := of_uniq hg (by omega) z3 ⟨r, g1, g2, g3, g4⟩
        have w2 := of_uniq hg (by omega) y3 ⟨r', g1', g2', g3', g4'⟩
        omega
      · obtain ⟨ev', es', rfl, j1, j2, j3, j4⟩ := hv
        have hn3 := hA3.nx
        have h4r := (hA3.get (Nat.le_refl _) (show s.nx + 1 < t.nx by omega)).trans h3r
        obtain ⟨wb, wc, rfl⟩ := j1.shape
        have hlo1 : s.nx ≤ t1.nx := by omega
        have hlo2 : s.nx ≤ s.nx + 1 := by omega
        have o1 : ∀ z : Int, ([Value.int .i64 z, .slice wb (es'.map encE).length wc] : List Value).all Value.oneCell' = true := fun _ => rfl
        have p1 : ∀ z : Int, putL [Value.int .i64 0, .slice none 0 0] 0 [.int .i64 z, .slice wb (es'.map encE).length wc] = [.int .i64 z, .slice wb (es'.map encE).length wc] := fun _ => rfl
        have c1 : ∀ z : Int, cutL [Value.int .i64 z, .slice wb (es'.map encE).length wc] 0 2 = some [.int .i64 z, .slice wb (es'.map encE).length wc] := fun _ => rfl
        have hne1 : ¬ (s.nx + 1 = t1.nx) := by omega
        refine opt_of rfl ?_
        unfold vG
        repeat (first
  | with_reducible first | refine st (by constructor) ?_
  | (with_reducible apply k_block_on
     · decide)
  | ((with_reducible first | apply xOp | apply xDr | apply xIf); rfl; (simp only [Nat.reduceEqDiff, Nat.reduceAdd, ↓reduceIte, xBB, stG, undef, opA, val, opdA, opdO, plainN, omap, binA, intBinA, loadV, readA, storeV, writeA, fieldAddrA, indexAddrA, lenA, builtinA, newA, unA, packA, Value.cells, List.getElem?_cons_zero, List.getElem?_cons_succ, List.toList_toArray, zr28, sz28, o1, p1, hlo1]; rfl); first | rfl | exact ⟨rfl, rfl, rfl⟩))
        generalize hst2 : ({ hp := (t1.hp.put t1.nx (some (.cells true 28 [.int .i64 0, .slice none 0 0]))).put t1.nx (some (.cells true 28 [.int .i64 ((compsL n es n).length : Nat), .slice wb (es'.map encE).length wc])), nx := t1.nx + 1 } : HS) = t2
        have h2n : t2.nx = t1.nx + 1 := by rw [← hst2]
        have h2o : ∀ id, id < t1.nx → t2.hp.get id = t1.hp.get id := fun id h => by rw [← hst2]; dsimp only; rw [T.get_put_ne _ _ _ (by omega), T.get_put_ne _ _ _ (by omega)]
        have h2b : t2.hp.get t1.nx = some (.cells true 28 [.int .i64 ((compsL n es n).length : Nat), .slice wb (es'.map encE).length wc]) := by rw [← hst2]; exact T.get_put_eq _ _ _
        clear hst2
        have h5r := (h2o (s.nx + 1) (by omega)).trans h4r
        apply c_region
        repeat (first
  | with_reducible first | refine st (by constructor) ?_ | apply c_region
  | (with_reducible apply k_block_on
     · decide)
  | ((with_reducible first | apply xOp | apply xDr | apply xIf); rfl; (simp only [Nat.reduceEqDiff, Nat.reduceAdd, ↓reduceIte, xBB, stG, undef, opA, val, opdA, opdO, plainN, omap, binA, intBinA, loadV, readA, storeV, writeA, fieldAddrA, indexAddrA, lenA, builtinA, newA, unA, packA, Value.cells, h2b, ty28, sz28, c1, k2, k5, h5r, hlo2, o1, p1, List.toList_toArray]; rfl); first | rfl | exact ⟨rfl, rfl, rfl⟩))
        intro _
        ((with_reducible first | apply ret_i | apply ret_n); (simp only [Nat.reduceEqDiff, Nat.reduceAdd, ↓reduceIte, xBB, resA, opdA, opdO, plainN, omap, val, loadV, readA, packA, k2, ty28, c1, List.toList_toArray]; rfl))
        refine ⟨_, _, _, es', rfl, ?_, by omega, fun c => (j3 c).trans (hmem c)⟩
        refine j1.other (by show t1.nx ≤ t2.nx; omega) fun a n' c' h => ?_
        have hal : a.block < t1.nx ∧ a.block ≠ s.nx + 1 := by
          rcases j1 with ⟨h0, _⟩ | ⟨id, off, cap, wr, e, cc, h0, g1, g2, _⟩
          · rw [h0] at h; cases h
          · rw [h0] at h; cases h
            refine ⟨g2, fun e' => ?_⟩
            have h9 := j4 _ _ _ h0
            dsimp only at h9 e'
            omega
        dsimp only
        rw [T.get_put_ne _ _ _ hal.2]; exact h2o _ hal.1
end Go.Ev
