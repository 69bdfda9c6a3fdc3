import Derived.Test.YthedojfbofcefaaDoorEvRf
import Derived.Test.YthedojfbofcefaaDoorEvG21
import Derived.Test.YthedojfbofcefaaDoorEvG15
import Derived.Shelf.SlSortCmp.NoneTotal
import Derived.Test.YthedojfbofcefaaDoorCards
import Derived.Test.YthedojfbofcefaaDoorTie
import Derived.WalkKit
import Derived.ProofKit
import Derived.OpenShut
import Derived.ReadAgain
import Derived.Deep.DeepHandedRow
import Derived.Lib.LaidTab
import Derived.Shelf.SlGeneric
import Derived.Ground.SlsfProg
import Derived.Test.YthedojfbofcefaaDoorProg
/- removable.closed: all closed sets, each once. -/
namespace Go.Ev
open Go Go.Proofs
set_option linter.unusedSimpArgs false
set_option linter.unusedVariables false
set_option maxRecDepth 100000
set_option maxHeartbeats 4000000
attribute [local irreducible] wpOps wpC wpD wpF wpLoop wpCall seqK blockK loopK retK T.put T.get T.setF

theorem ty70 : tyA Tryd.prog 70 = some (1, false) := by kernel_rfl
theorem mp92 : mapA Tryd.prog 92 = some (60, 4) := by kernel_rfl
theorem sz70 : szA Tryd.prog 70 = some 1 := by kernel_rfl

/-- A map of marks. -/
def marks (ys : List Nat) : List (Value × Value) := ys.map fun y : Nat => (.int .u64 y, .bool true)
theorem find_marks (x : Nat) : ∀ (ys : List Nat) (i : Nat), findA (.int .u64) (.int .u64 x) (marks ys) i = some (if x ∈ ys then some (i + ys.idxOf x, .bool true) else none) := by
  intro ys
  induction ys with
  | nil => intro i; rfl
  | cons y ys ih =>
    intro i
    unfold marks
    rw [List.map_cons, findA]
    show (match Instr.sameNow (.int .u64) (.int .u64 (x : Int)) (.int .u64 (y : Int)) with | some true => _ | some false => findA (.int .u64) (.int .u64 x) (marks ys) (i + 1) | none => none) = _
    by_cases h : x = y
    · subst h
      have : Instr.sameNow (.int .u64) (.int .u64 (x : Int)) (.int .u64 (x : Int)) = some true := by simp [Instr.sameNow]
      rw [this]
      simp
    · have : Instr.sameNow (.int .u64) (.int .u64 (x : Int)) (.int .u64 (y : Int)) = some false := by simp [Instr.sameNow]; omega
      rw [this]
      simp only
      rw [ih]
      have hne : (y == x) = false := by simpa using Ne.symm h
      by_cases hm : x ∈ ys
      · rw [if_pos hm, if_pos (List.mem_cons_of_mem _ hm), List.idxOf_cons, hne]
        simp only [cond_false]
        congr 2; congr 1; omega
      · rw [if_neg hm, if_neg]
        intro h'
        rcases List.mem_cons.1 h' with e | e
        · exact h e
        · exact hm e
theorem look_marks {s : HS} {mb x : Nat} {ys : List Nat} (h : s.hp.get mb = some (.map (marks ys))) : lookupA Tryd.prog 92 (.map (some mb)) (.int .u64 x) false s = some (.bool (decide (x ∈ ys))) := by
  unfold lookupA
  rw [mp92]
  simp only [Option.bind_some, un60, keyOk, if_true, h]
  rw [find_marks]
  by_cases hm : x ∈ ys
  · rw [if_pos hm, decide_eq_true hm]; rfl
  · rw [if_neg hm, decide_eq_false hm, Option.bind_some]
    simp only [zr4, Option.map_some, if_false, Bool.false_eq_true]
theorem mark_more {s : HS} {lk mb x : Nat} {ys : List Nat} (h : s.hp.get mb = some (.map (marks ys))) (hl : lk ≤ mb) (hx : x ∉ ys) : mapUpdateA Tryd.prog lk 92 (.map (some mb)) (.int .u64 x) (.bool true) s = some { s with hp := s.hp.put mb (some (.map (marks (ys ++ [x])))) } := by
  unfold mapUpdateA
  rw [mp92]
  simp only [Option.bind_some, un60, keyOk, if_true, h, hl]
  rw [find_marks, if_neg hx]
  simp only [Option.bind_some]
  unfold marks
  rw [List.map_append]; rfl

def encQ (a : Nat) : List Value := [.int .u64 a]
/-- What allows a set. -/
def Allow (av : Value) (al : Nat → Bool) : Prop := ∀ [Sorts Tryd.prog] (x : Nat) (s : HS), x < 18446744073709551616 → wpCall Tryd.prog s.nx av [.int .u64 x] s fun v _ => v = .bool (al x)

/-- A list of sets found. -/
def Found (hs : List Nat) (al : Nat → Bool) (ys : List Nat) : Prop := List.Nodup ys ∧ ∀ y ∈ ys, Gn hs al y ∧ al y = true ∧ y ≠ 0

/-- The memory while the sets are found. n0: the map's block; below it lies what there was before. -/
structure StF (J : List Nat → (Nat → Prop) → HS → Prop) (n0 hb ab : Nat) (oh : Option Nat) (hv av : Value) (hs : List Nat) (t : HS) (ys zs : List Nat) (Cs : Nat → Prop) (queue : List Nat) (oq : Option Nat) (qv : Value) : Prop where
  j : J ys Cs t
  lt : ∀ id, Cs id → id < t.nx
  mp : t.hp.get n0 = some (.map (marks zs))
  box1 : t.hp.get hb = some (.cells true 65 [hv])
  box2 : t.hp.get ab = some (.cells true 70 [av])
  own : Own t 60 1 oh hv (hs.map encQ)
  que : Own t 60 1 oq qv (queue.map encQ)
  nx : n0 < t.nx
  cm : ¬ Cs n0
  ch : ¬ Cs hb ∧ hb < n0
  ca : ¬ Cs ab ∧ ab < n0
  co : ∀ id, oh = some id → ¬ Cs id ∧ id < n0
  cq : ∀ id, oq = some id → ¬ Cs id ∧ n0 < id

theorem StF.move {J : List Nat → (Nat → Prop) → HS → Prop} {n0 hb ab : Nat} {oh : Option Nat} {hv av : Value} {hs : List Nat} {t t' : HS} {ys zs : List Nat} {Cs : Nat → Prop} {queue : List Nat} {oq : Option Nat} {qv : Value} (h : StF J n0 hb ab oh hv av hs t ys zs Cs queue oq qv)
    {ys' zs' : List Nat} {Cs' : Nat → Prop} {queue' : List Nat} {oq' : Option Nat} {qv' : Value} (hn : t.nx ≤ t'.nx) (hg : ∀ id, id < t.nx → ¬ Cs id → id ≠ n0 → oq ≠ some id → t'.hp.get id = t.hp.get id)
    (hj : J ys' Cs' t') (hl : ∀ id, Cs' id → id < t'.nx) (hC : ∀ id, Cs' id → Cs id ∨ t.nx ≤ id) (hm : t'.hp.get n0 = some (.map (marks zs'))) (hq : Own t' 60 1 oq' qv' (queue'.map encQ)) (hoq : ∀ id, oq' = some id → ¬ Cs' id ∧ n0 < id) :
    StF J n0 hb ab oh hv av hs t' ys' zs' Cs' queue' oq' qv' := by
  have hnx := h.nx
  have hout : ∀ id, id < t.nx → ¬ Cs id → ¬ Cs' id := fun id h1 h2 h3 => by
    rcases hC id h3 with a | a
    · exact h2 a
    · omega
  have hnq : ∀ id, id < n0 → oq ≠ some id := fun id h1 h2 => by have := (h.cq id h2).2; omega
  refine ⟨hj, hl, hm, ?_, ?_, ?_, hq, by omega, hout _ hnx h.cm, ⟨hout _ (by have := h.ch.2; omega) h.ch.1, h.ch.2⟩, ⟨hout _ (by have := h.ca.2; omega) h.ca.1, h.ca.2⟩, fun id ho => ⟨hout _ (by have := (h.co id ho).2; omega) (h.co id ho).1, (h.co id ho).2⟩, hoq⟩
  · have := h.ch.2
    rw [hg hb (by omega) h.ch.1 (by omega) (hnq _ this)]; exact h.box1
  · have := h.ca.2
    rw [hg ab (by omega) h.ca.1 (by omega) (hnq _ this)]; exact h.box2
  · refine h.own.same hn fun id ho => ?_
    obtain ⟨h1, h2⟩ := h.co id ho
    exact hg id (by omega) h1 (by omega) (hnq _ h2)

theorem f56_spec [Sorts Tryd.prog] {lk l : Nat} {J : List Nat → (Nat → Prop) → HS → Prop} {Stop : List Nat → HS → Prop} {n : Nat} {hs : List Nat} {al : Nat → Bool} {hb ab : Nat} {hv av : Value} {s : HS} {Cs : Nat → Prop} {oh : Option Nat}
    (C : Cons Tryd.prog lk l (fun a => .int .u64 a) (fun x => Gn hs al x ∧ al x = true ∧ x ≠ 0) J Stop) (hn : n ≤ 64) (hhs : ∀ h ∈ hs, h < 2 ^ n) (hlen : hs.length ≤ 64) (hal : Allow av al) (hlk : lk ≤ s.nx)
    (hJ : J [] Cs s) (hhb : s.hp.get hb = some (.cells true 65 [hv])) (hab : s.hp.get ab = some (.cells true 70 [av])) (hhv : Own s 60 1 oh hv (hs.map encQ)) (hb1 : hb < s.nx) (hb2 : ab < s.nx) (c1 : ¬ Cs hb) (c2 : ¬ Cs ab) (c3 : ∀ id, oh = some id → ¬ Cs id) :
    wpF Tryd.prog lk 56 [.func (.yield l) #[] #[], .pointer (some ⟨hb, 0, none⟩), .pointer (some ⟨ab, 0, none⟩)] s (fun v s' =>
      (∃ ys Cs', Found hs al ys ∧ (∀ S, Gn hs al S → S = 0 ∨ S ∈ ys) ∧ J ys Cs' s') ∨ ∃ ys, Found hs al ys ∧ Stop ys s') := by
  have h64 : (2 : Nat) ^ n ≤ 2 ^ 64 := Nat.pow_le_pow_right (by decide) hn
  refine wpF_ofR Tryd.func56 rfl rfl rfl rfl hlk rfl ?_
  simp only [paramsA]
  repeat (first
  | with_reducible first | refine st (by constructor) ?_ | apply c_region
  | (with_reducible apply k_block_on
     · decide)
  | ((with_reducible first | apply xOp | apply xDr | apply xIf); rfl; (simp only [Nat.reduceEqDiff, Nat.reduceAdd, ↓reduceIte, xBB, stG, undef, opA, val, opdA, opdO, plainN, omap, binA, intBinA, loadV, readA, storeV, writeA, fieldAddrA, indexAddrA, lenA, builtinA, newA, unA, packA, Value.cells, buildSliceA, el65, sz60, zr60, zerosL, fillA]; rfl); first | rfl | exact ⟨rfl, rfl, rfl⟩))
  generalize hw0 : ({ hp := (s.hp.put s.nx (some (.map []))).put (s.nx + 1) (some (.cells true 60 (putL ([.int .u64 0] ++ []) (0 * 1) [.int .u64 0]))), nx := s.nx + 1 + 1 } : HS) = w
  have hwn : w.nx = s.nx + 2 := by rw [← hw0]
  have hwo : ∀ id, id < s.nx → w.hp.get id = s.hp.get id := fun id h => by rw [← hw0]; dsimp only; rw [T.get_put_ne _ _ _ (by omega), T.get_put_ne _ _ _ (by omega)]
  have hst : StF J s.nx hb ab oh hv av hs w [] [] Cs [0] (some (s.nx + 1)) (.slice (some ⟨s.nx + 1, 0, none⟩) 1 1) := by
    have hlt := fun id h => C.lt hJ (id := id) h
    refine ⟨C.same hJ (by omega) fun id h => hwo id (hlt id h), fun id h => by have := hlt id h; omega, ?_, (hwo _ hb1).trans hhb, (hwo _ hb2).trans hab, hhv.same (by omega) fun id h => hwo id (hhv.lt h), ?_, by omega, fun h => by have := hlt _ h; omega, ⟨c1, hb1⟩, ⟨c2, hb2⟩, fun id h => ⟨c3 id h, hhv.lt h⟩, fun id h => ?_⟩
    · rw [← hw0]; dsimp only; rw [T.get_put_ne _ _ _ (by omega), T.get_put_eq]; rfl
    · refine Own.block (by rw [← hw0]; exact T.get_put_eq _ _ _) rfl (by omega) rfl (Or.inl rfl) (fun x hx => ?_) (by simp; unfold UNK; omega)
      simp at hx; subst hx; exact ⟨rfl, rfl⟩
    · cases h; exact ⟨fun h => by have := hlt _ h; omega, by omega⟩
  refine loop_k (lk' := lk) (s0 := w) (fun m f t => ∃ (ys : List Nat) (Cs' : Nat → Prop) (queue : List Nat) (oq : Option Nat) (qv : Value), m = 2 * (2 ^ n - ys.length) + queue.length ∧ queue.length ≤ ys.length + 1 ∧ BQ hs al queue ys none ∧ f.get 5 = some qv ∧ StF J s.nx hb ab oh hv av hs t ys ys Cs' queue oq qv) (2 * 2 ^ n + 1) (Nat.le_refl _) (by omega) ?_ (Ab.refl _ _) ?_
  · exact ⟨[], Cs, [0], _, _, by simp, by simp, BQ.start, by simp only [Nat.reduceEqDiff, T.get_put, ↓reduceIte], hst⟩
  · rintro m f t ⟨ys, Cs', queue, oq, qv, hm, hql, hq, h5, hS⟩ hA hF
    (have k0 := hF 0 (by rfl); simp only [Nat.reduceEqDiff, T.get_put, ↓reduceIte] at k0; have k1 := hF 1 (by rfl); simp only [Nat.reduceEqDiff, T.get_put, ↓reduceIte] at k1; have k2 := hF 2 (by rfl); simp only [Nat.reduceEqDiff, T.get_put, ↓reduceIte] at k2; have k4 := hF 4 (by rfl); simp only [Nat.reduceEqDiff, T.get_put, ↓reduceIte] at k4)
    have hys : ys.length ≤ 2000 := C.len hS.j
    obtain ⟨qb, qc, rfl⟩ := hS.que.shape
    have hqm : (queue.map encQ).length = queue.length := List.length_map _
    rw [hqm] at h5
    have hque := hS.que
    rw [hqm] at hque
    cases queue with
    | nil =>
      have h0 : ¬ (((0 : Nat) : Int) > 0) := by omega
      repeat (first
  | with_reducible first | refine st (by constructor) ?_ | apply c_region
  | (with_reducible apply k_block_on
     · decide)
  | ((with_reducible first | apply xOp | apply xDr | apply xIf); rfl; (simp only [Nat.reduceEqDiff, Nat.reduceAdd, ↓reduceIte, xBB, stG, undef, opA, val, opdA, opdO, plainN, omap, binA, intBinA, loadV, readA, storeV, writeA, fieldAddrA, indexAddrA, lenA, builtinA, newA, unA, packA, Value.cells, h5, un65, h0, List.length_nil]; rfl); first | rfl | exact ⟨rfl, rfl, rfl⟩))
      intro _ _
      repeat (first
  | with_reducible first | refine st (by constructor) ?_ | apply c_region
  | (with_reducible apply k_block_on
     · decide)
  | ((with_reducible first | apply xOp | apply xDr | apply xIf); rfl; (simp only [Nat.reduceEqDiff, Nat.reduceAdd, ↓reduceIte, xBB, stG, undef, opA, val, opdA, opdO, plainN, omap, binA, intBinA, loadV, readA, storeV, writeA, fieldAddrA, indexAddrA, lenA, builtinA, newA, unA, packA, Value.cells]; rfl); first | rfl | exact ⟨rfl, rfl, rfl⟩))
      intro _
      refine ret_n (vs := []) rfl ?_
      exact Or.inl ⟨ys, Cs', ⟨hq.nodup, hq.gen⟩, fun S hG => hq.all hG, hS.j⟩
    | cons a queue =>
      have h0 : (((a :: queue).length : Nat) : Int) > 0 := by simp only [List.length_cons]; omega
      have hb0 : (0 : Int) ≤ 0 ∧ (0 : Int) < (((a :: queue).length : Nat) : Int) := by simp only [List.length_cons]; omega
      obtain ⟨qid, rfl⟩ : ∃ qid, oq = some qid := by
        cases oq with
        | none => obtain ⟨h, _⟩ := hque; cases h
        | some id => exact ⟨id, rfl⟩
      have hsl := hque.sl
      rw [show (a :: queue).length = ((a :: queue).map encQ).length by simp] at hsl
      obtain ⟨id, off, wr, e, cs, rfl, g1, g2, g3, g4⟩ := hsl.at (i := 0) (x := encQ a) rfl
      unfold encQ at g3
      obtain ⟨v', ht1, ht2⟩ := Own.tail (P := Tryd.prog) (x := encQ a) (xs := queue.map encQ) un65 sz60 hque
      have h00 : Int.toNat 0 = 0 := rfl
      have hS1 : StF J s.nx hb ab oh hv av hs t ys ys Cs' queue (some qid) v' := hS.move (Nat.le_refl _) (fun _ _ _ _ _ => rfl) hS.j hS.lt (fun _ h => Or.inl h) hS.mp ht2 hS.cq
      have ha64 : a < 2 ^ n := by
        rcases hq.que a List.mem_cons_self with rfl | h
        · exact Nat.pow_pos (by decide)
        · exact (hq.gen a h).1.lt hhs
      have hbx1 := hS.box1
      have hhm : (hs.map encQ).length = hs.length := List.length_map _
      obtain ⟨hvb, hvc, rfl⟩ := hhv.shape
      have hc1 : ∀ x : Value, cutL [x] 0 1 = some [x] := fun _ => rfl
      repeat (first
  | with_reducible first | refine st (by constructor) ?_ | apply c_region
  | (with_reducible apply k_block_on
     · decide)
  | ((with_reducible first | apply xOp | apply xDr | apply xIf); rfl; (simp only [Nat.reduceEqDiff, Nat.reduceAdd, ↓reduceIte, xBB, stG, undef, opA, val, opdA, opdO, plainN, omap, binA, intBinA, loadV, readA, storeV, writeA, fieldAddrA, indexAddrA, lenA, builtinA, newA, unA, packA, Value.cells, h5, un65, h0, sz60, ty60, hb0, g1, g3, h00, ht1, k1, hbx1, ty65, hc1, hhm]; rfl); first | rfl | exact ⟨rfl, rfl, rfl⟩))
      have c0 := k0; have c1' := k1; have c2' := k2; have c4 := k4
      refine loop_k (lk' := lk) (s0 := t) (fun m2 f2 t2 => ∃ (k : Nat) (ys2 : List Nat) (Cs2 : Nat → Prop) (queue2 : List Nat) (oq2 : Option Nat) (qv2 : Value), k + m2 = hs.length ∧ f2.get 22 = some (.int .i64 k) ∧ 2 * (2 ^ n - ys2.length) + queue2.length < m ∧ queue2.length ≤ ys2.length + 1 ∧ BQ hs al queue2 ys2 (some (a, k)) ∧
        f2.get 5 = some qv2 ∧ StF J s.nx hb ab oh (.slice hvb (hs.map encQ).length hvc) av hs t2 ys2 ys2 Cs2 queue2 oq2 qv2) hs.length (Nat.le_refl _) (by have := hS.nx; omega) ?_ (Ab.refl _ _) ?_
      · refine ⟨0, ys, Cs', queue, some qid, v', by omega, by simp only [Nat.reduceEqDiff, T.get_put, ↓reduceIte]; rfl, by rw [hm, List.length_cons]; omega, by simp only [List.length_cons] at hql; omega, hq.pop, by simp only [Nat.reduceEqDiff, T.get_put, ↓reduceIte], hS1⟩
      · clear hF h5
        rintro m2 f2 t2 ⟨k, ys2, Cs2, queue2, oq2, qv2, hk, h22, hme, hql2, hq2, h5, hS2⟩ hA2 hF
        (have k0 := hF 0 (by rfl); simp only [Nat.reduceEqDiff, T.get_put, ↓reduceIte, c0, c2', c4, hhm] at k0; have k2 := hF 2 (by rfl); simp only [Nat.reduceEqDiff, T.get_put, ↓reduceIte, c0, c2', c4, hhm] at k2; have k4 := hF 4 (by rfl); simp only [Nat.reduceEqDiff, T.get_put, ↓reduceIte, c0, c2', c4, hhm] at k4; have k6 := hF 6 (by rfl); simp only [Nat.reduceEqDiff, T.get_put, ↓reduceIte, c0, c2', c4, hhm] at k6; have k20 := hF 20 (by rfl); simp only [Nat.reduceEqDiff, T.get_put, ↓reduceIte, c0, c2', c4, hhm] at k20; have k21 := hF 21 (by rfl); simp only [Nat.reduceEqDiff, T.get_put, ↓reduceIte, c0, c2', c4, hhm] at k21)
        have hys2 : ys2.length ≤ 2000 := C.len hS2.j
        by_cases hlt : (k : Int) < (hs.length : Int)
        · have hlt' : k < hs.length := by omega
          have hkx : hs[k]? = some hs[k] := List.getElem?_eq_getElem hlt'
          have hx64 : hs[k] < 2 ^ n := hhs _ (List.getElem_mem hlt')
          have hw : IntKind.i64.wrap ((k : Int) + 1) = ((k + 1 : Nat) : Int) := by rw [IntWalk.i64_in _ (by omega)]; rfl
          have hbk : (0 : Int) ≤ (k : Int) ∧ (k : Int) < (hs.length : Int) := by omega
          obtain ⟨id2, off2, wr2, e2, cs2, hhe, r1, r2, r3, r4⟩ := hS2.own.sl.at (i := k) (x := encQ hs[k]) (by simp [hlt'])
          unfold encQ at r3
          rw [hhe] at k20
          generalize hs[k] = x at *
          have hor := or_u64 (a := a) (b := x) (by omega) (by omega)
          have hz64 : a ||| x < 2 ^ 64 := Nat.lt_of_lt_of_le (Nat.or_lt_two_pow ha64 hx64) h64
          have hlook := look_marks (x := a ||| x) hS2.mp
          have hbx2 := hS2.box2
          repeat (first
  | with_reducible first | refine st (by constructor) ?_
  | (with_reducible apply k_block_on
     · decide)
  | ((with_reducible first | apply xOp | apply xDr | apply xIf); rfl; (simp only [Nat.reduceEqDiff, Nat.reduceAdd, ↓reduceIte, xBB, stG, undef, opA, val, opdA, opdO, plainN, omap, binA, intBinA, loadV, readA, storeV, writeA, fieldAddrA, indexAddrA, lenA, builtinA, newA, unA, packA, Value.cells]; rfl); first | rfl | exact ⟨rfl, rfl, rfl⟩))
          refine c_region ?_
          repeat (first
  | with_reducible first | refine st (by constructor) ?_
  | (with_reducible apply k_block_on
     · decide)
  | ((with_reducible first | apply xOp | apply xDr | apply xIf); rfl; (simp only [Nat.reduceEqDiff, Nat.reduceAdd, ↓reduceIte, xBB, stG, undef, opA, val, opdA, opdO, plainN, omap, binA, intBinA, loadV, readA, storeV, writeA, fieldAddrA, indexAddrA, lenA, builtinA, newA, unA, packA, Value.cells, h22, k21, hhm, hlt]; rfl); first | rfl | exact ⟨rfl, rfl, rfl⟩))
          refine c_region ?_
          repeat (first
  | with_reducible first | refine st (by constructor) ?_
  | (with_reducible apply k_block_on
     · decide)
  | ((with_reducible first | apply xOp | apply xDr | apply xIf); rfl; (simp only [Nat.reduceEqDiff, Nat.reduceAdd, ↓reduceIte, xBB, stG, undef, opA, val, opdA, opdO, plainN, omap, binA, intBinA, loadV, readA, storeV, writeA, fieldAddrA, indexAddrA, lenA, builtinA, newA, unA, packA, Value.cells, h22, k20, hhm, un65, sz60, ty60, hbk, r1, r3]; rfl); first | rfl | exact ⟨rfl, rfl, rfl⟩))
          refine c_region ?_
          repeat (first
  | with_reducible first | refine st (by constructor) ?_
  | (with_reducible apply k_block_on
     · decide)
  | ((with_reducible first | apply xOp | apply xDr | apply xIf); rfl; (simp only [Nat.reduceEqDiff, Nat.reduceAdd, ↓reduceIte, xBB, stG, undef, opA, val, opdA, opdO, plainN, omap, binA, intBinA, loadV, readA, storeV, writeA, fieldAddrA, indexAddrA, lenA, builtinA, newA, unA, packA, Value.cells, k6, hor]; rfl); first | rfl | exact ⟨rfl, rfl, rfl⟩))
          refine c_regionK (fun f' t' => Ab t2.nx t2 t' ∧ f'.get 42 = some (.bool (decide ((a ||| x) ∈ ys2) || decide ((a ||| x) = a) || !al (a ||| x)))) ?_ ?_
          · by_cases hm1 : (a ||| x) ∈ ys2
            · rw [decide_eq_true hm1] at hlook ⊢
              repeat (first
  | with_reducible first | refine st (by constructor) ?_ | apply c_region
  | (with_reducible apply k_block_on
     · decide)
  | ((with_reducible first | apply xOp | apply xDr | apply xIf); rfl; (simp only [Nat.reduceEqDiff, Nat.reduceAdd, ↓reduceIte, xBB, stG, undef, opA, val, opdA, opdO, plainN, omap, binA, intBinA, loadV, readA, storeV, writeA, fieldAddrA, indexAddrA, lenA, builtinA, newA, unA, packA, Value.cells, k4, hlook]; rfl); first | rfl | exact ⟨rfl, rfl, rfl⟩))
              exact ⟨Ab.refl _ _, by simp only [Nat.reduceEqDiff, T.get_put, ↓reduceIte]; rfl⟩
            · rw [decide_eq_false hm1] at hlook ⊢
              by_cases hm2 : (a ||| x) = a
              · have e1 : (((a ||| x : Nat) : Int) == (a : Int)) = true := by simp [hm2]
                rw [decide_eq_true hm2]
                repeat (first
  | with_reducible first | refine st (by constructor) ?_ | apply c_region
  | (with_reducible apply k_block_on
     · decide)
  | ((with_reducible first | apply xOp | apply xDr | apply xIf); rfl; (simp only [Nat.reduceEqDiff, Nat.reduceAdd, ↓reduceIte, xBB, stG, undef, opA, val, opdA, opdO, plainN, omap, binA, intBinA, loadV, readA, storeV, writeA, fieldAddrA, indexAddrA, lenA, builtinA, newA, unA, packA, Value.cells, k4, k6, hlook, e1]; rfl); first | rfl | exact ⟨rfl, rfl, rfl⟩))
                exact ⟨Ab.refl _ _, by simp only [Nat.reduceEqDiff, T.get_put, ↓reduceIte]; rfl⟩
              · have e1 : (((a ||| x : Nat) : Int) == (a : Int)) = false := by simp; omega
                rw [decide_eq_false hm2]
                repeat (first
  | with_reducible first | refine st (by constructor) ?_ | apply c_region
  | (with_reducible apply k_block_on
     · decide)
  | ((with_reducible first | apply xOp | apply xDr | apply xIf); rfl; (simp only [Nat.reduceEqDiff, Nat.reduceAdd, ↓reduceIte, xBB, stG, undef, opA, val, opdA, opdO, plainN, omap, binA, intBinA, loadV, readA, storeV, writeA, fieldAddrA, indexAddrA, lenA, builtinA, newA, unA, packA, Value.cells, k4, k6, k2, hlook, e1, hbx2, ty70, hc1]; rfl); first | rfl | exact ⟨rfl, rfl, rfl⟩))
                ((with_reducible first | apply xCa | apply xCd); rfl; (simp only [Nat.reduceEqDiff, Nat.reduceAdd, ↓reduceIte, xBB, stB, opdA, opdO, plainN, omap, val, Value.cells]; exact ⟨rfl, rfl⟩); try rfl)
                refine wpCall_mono (wpCall_low (hal (a ||| x) t2 hz64) (by have := hS2.nx; omega) (Nat.le_refl _)) fun v t3 hv => ?_
                obtain ⟨rfl, hA3⟩ := hv
                refine opt_of rfl ?_
                repeat (first
  | with_reducible first | refine st (by constructor) ?_ | apply c_region
  | (with_reducible apply k_block_on
     · decide)
  | ((with_reducible first | apply xOp | apply xDr | apply xIf); rfl; (simp only [Nat.reduceEqDiff, Nat.reduceAdd, ↓reduceIte, xBB, stG, undef, opA, val, opdA, opdO, plainN, omap, binA, intBinA, loadV, readA, storeV, writeA, fieldAddrA, indexAddrA, lenA, builtinA, newA, unA, packA, Value.cells]; rfl); first | rfl | exact ⟨rfl, rfl, rfl⟩))
                exact ⟨hA3, by simp only [Nat.reduceEqDiff, T.get_put, ↓reduceIte]; cases al (a ||| x) <;> rfl⟩
          · rintro f3 t3 ⟨hA3, h42⟩ hF3
            (have q0 := hF3 0 (by rfl); simp only [Nat.reduceEqDiff, T.get_put, ↓reduceIte, k0, k4, h5, k6, h22] at q0; have q4 := hF3 4 (by rfl); simp only [Nat.reduceEqDiff, T.get_put, ↓reduceIte, k0, k4, h5, k6, h22] at q4; have q5 := hF3 5 (by rfl); simp only [Nat.reduceEqDiff, T.get_put, ↓reduceIte, k0, k4, h5, k6, h22] at q5; have q6 := hF3 6 (by rfl); simp only [Nat.reduceEqDiff, T.get_put, ↓reduceIte, k0, k4, h5, k6, h22] at q6; have q9 := hF3 9 (by rfl); simp only [Nat.reduceEqDiff, T.get_put, ↓reduceIte, k0, k4, h5, k6, h22] at q9; have q22 := hF3 22 (by rfl); simp only [Nat.reduceEqDiff, T.get_put, ↓reduceIte, k0, k4, h5, k6, h22] at q22)
            have hn3 := hA3.nx
            have hS3 : StF J s.nx hb ab oh (.slice hvb (hs.map encQ).length hvc) av hs t3 ys2 ys2 Cs2 queue2 oq2 qv2 := hS2.move hn3 (fun id h _ _ _ => hA3.get (Nat.le_refl _) h) (C.same hS2.j hn3 fun id h => hA3.get (Nat.le_refl _) (hS2.lt id h)) (fun id h => Nat.lt_of_lt_of_le (hS2.lt id h) hn3) (fun _ h => Or.inl h)
              ((hA3.get (Nat.le_refl _) hS2.nx).trans hS2.mp) (hS2.que.keep hA3) hS2.cq
            have hn4 := hS3.nx
            cases hskip : (decide ((a ||| x) ∈ ys2) || decide ((a ||| x) = a) || !al (a ||| x)) with
            | true =>
              rw [hskip] at h42
              have hsk : a ||| x = a ∨ al (a ||| x) = false ∨ (a ||| x) ∈ ys2 := by
                simp only [Bool.or_eq_true, decide_eq_true_eq, Bool.not_eq_true'] at hskip
                rcases hskip with (h | h) | h
                · exact Or.inr (Or.inr h)
                · exact Or.inl h
                · exact Or.inr (Or.inl h)
              repeat (first
  | with_reducible first | refine st (by constructor) ?_ | apply c_region
  | (with_reducible apply k_block_on
     · decide)
  | ((with_reducible first | apply xOp | apply xDr | apply xIf); rfl; (simp only [Nat.reduceEqDiff, Nat.reduceAdd, ↓reduceIte, xBB, stG, undef, opA, val, opdA, opdO, plainN, omap, binA, intBinA, loadV, readA, storeV, writeA, fieldAddrA, indexAddrA, lenA, builtinA, newA, unA, packA, Value.cells, h42, q22, hw]; rfl); first | rfl | exact ⟨rfl, rfl, rfl⟩))
              intro _ _
              exact k_loop_next (m' := m2 - 1) (by omega) ⟨k + 1, ys2, Cs2, queue2, oq2, qv2, by omega, by simp only [Nat.reduceEqDiff, T.get_put, ↓reduceIte], hme, hql2, hq2.skip hkx hsk, by simp only [Nat.reduceEqDiff, T.get_put, ↓reduceIte]; exact q5, hS3⟩
            | false =>
              rw [hskip] at h42
              simp only [Bool.or_eq_false_iff, decide_eq_false_iff_not, Bool.not_eq_false'] at hskip
              obtain ⟨⟨hm1, hm2⟩, hm3⟩ := hskip
              have hfound := hq2.found hkx hm2 hm3 hm1
              have hadd := hq2.add hkx hm2 hm3 hm1
              have hok := hfound.2 (a ||| x) (List.mem_append_right _ (by simp))
              have hlenz := nodup_len (b := 2 ^ n) hfound.1 fun y hy => (hfound.2 y hy).1.lt hhs
              rw [List.length_append, List.length_singleton] at hlenz
              generalize hz : a ||| x = z at *
              have hmap := mark_more (lk := lk) (x := z) hS3.mp (by omega) hm1
              repeat (first
  | with_reducible first | refine st (by constructor) ?_ | apply c_region
  | (with_reducible apply k_block_on
     · decide)
  | ((with_reducible first | apply xOp | apply xDr | apply xIf); rfl; (simp only [Nat.reduceEqDiff, Nat.reduceAdd, ↓reduceIte, xBB, stG, undef, opA, val, opdA, opdO, plainN, omap, binA, intBinA, loadV, readA, storeV, writeA, fieldAddrA, indexAddrA, lenA, builtinA, newA, unA, packA, Value.cells, h42, q4, q9, q0, hmap]; rfl); first | rfl | exact ⟨rfl, rfl, rfl⟩))
              ((with_reducible first | apply xCa | apply xCd); rfl; (simp only [Nat.reduceEqDiff, Nat.reduceAdd, ↓reduceIte, xBB, stB, opdA, opdO, plainN, omap, val, Value.cells, q0, q9]; exact ⟨rfl, rfl⟩); try rfl)
              apply call_yield
              generalize hw4 : ({ hp := t3.hp.put s.nx (some (.map (marks (ys2 ++ [z])))), nx := t3.nx } : HS) = t4
              have h4n : t4.nx = t3.nx := by rw [← hw4]
              have h4o : ∀ id, id ≠ s.nx → t4.hp.get id = t3.hp.get id := fun id h => by rw [← hw4]; exact T.get_put_ne _ _ _ h
              have h4m : t4.hp.get s.nx = some (.map (marks (ys2 ++ [z]))) := by rw [← hw4]; exact T.get_put_eq _ _ _
              have hJ4 : J ys2 Cs2 t4 := C.same hS3.j (by omega) fun id h => h4o id fun e => hS3.cm (by rw [← e]; exact h)
              refine wpRound_mono (C.round hok hm1 hJ4) fun v t5 hv => ?_
              rcases hv with ⟨rfl, Cs5, hJ5, hn5, hC5, hg5⟩ | ⟨rfl, hstop⟩
              · have h5o : ∀ id, id < t3.nx → ¬ Cs2 id → id ≠ s.nx → t5.hp.get id = t3.hp.get id := fun id h1 h2 h3 => (hg5 id (by omega) h2).trans (h4o id h3)
                have hC5' : ∀ id, Cs5 id → Cs2 id ∨ t3.nx ≤ id := fun id h => by
                  rcases hC5 id h with a | a
                  · exact Or.inl a
                  · exact Or.inr (by omega)
                have hq5 : Own t5 60 1 oq2 qv2 (queue2.map encQ) := hS3.que.same (by omega) fun id ho => by
                  obtain ⟨a, b⟩ := hS3.cq id ho
                  exact h5o id (hS3.que.lt ho) a (by omega)
                have hcq5 : ∀ id, oq2 = some id → ¬ Cs5 id ∧ s.nx < id := fun id ho => by
                  obtain ⟨a, b⟩ := hS3.cq id ho
                  refine ⟨fun h => ?_, b⟩
                  rcases hC5' id h with c | c
                  · exact a c
                  · have := hS3.que.lt ho; omega
                have hS5 := hS3.move (t' := t5) (by omega) (fun id h1 h2 h3 _ => h5o id h1 h2 h3) hJ5 (fun id h => C.lt hJ5 h) hC5' ((hg5 _ (by omega) hS3.cm).trans h4m) hq5 hcq5
                have hn5' := hS5.nx
                refine opt_of rfl ?_
                repeat (first
  | with_reducible first | refine st (by constructor) ?_ | apply c_region
  | (with_reducible apply k_block_on
     · decide)
  | ((with_reducible first | apply xOp | apply xDr | apply xIf); rfl; (simp only [Nat.reduceEqDiff, Nat.reduceAdd, ↓reduceIte, xBB, stG, undef, opA, val, opdA, opdO, plainN, omap, binA, intBinA, loadV, readA, storeV, writeA, fieldAddrA, indexAddrA, lenA, builtinA, newA, unA, packA, Value.cells, Bool.not_true, q5, q9, buildSliceA, el65, sz60, zr60, zerosL, fillA]; rfl); first | rfl | exact ⟨rfl, rfl, rfl⟩))
                ((with_reducible first | apply ops_opt | apply xPd); (first | rfl | exact ⟨rfl, rfl⟩); (simp only [Nat.reduceEqDiff, Nat.reduceAdd, ↓reduceIte, xBB, opA, val, opdA, opdO, plainN, omap, binA, intBinA, loadV, readA, storeV, writeA, fieldAddrA, indexAddrA, lenA, builtinA, newA, unA, packA, Value.cells, un65, q5]; rfl))
                generalize hw6 : ({ hp := t5.hp.put t5.nx (some (.cells true 60 (putL ([.int .u64 0] ++ []) (0 * 1) [.int .u64 z]))), nx := t5.nx + 1 } : HS) = t6
                have h6n : t6.nx = t5.nx + 1 := by rw [← hw6]
                have h6o : ∀ id, id < t5.nx → t6.hp.get id = t5.hp.get id := fun id h => by rw [← hw6]; exact T.get_put_ne _ _ _ (by omega)
                have h6y : t6.hp.get t5.nx = some (.cells true 60 [.int .u64 z]) := by rw [← hw6]; exact T.get_put_eq _ _ _
                have hq6 : Own t6 60 1 oq2 qv2 (queue2.map encQ) := hq5.same (by omega) fun id ho => h6o id (hq5.lt ho)
                refine opt_ex (app_one (lk := lk) (y := [.int .u64 z]) el65 sz60 by60 zr60 rfl (by decide) hq6 (fun id ho => by have := (hcq5 id ho).2; omega) h6y rfl rfl (by simp; omega)) fun q hq => ?_
                obtain ⟨qv7, t7⟩ := q
                obtain ⟨p1, p2, o7, p3, p4⟩ := hq
                dsimp only at p1 p2 p3
                have h7o : ∀ id, id < t5.nx → oq2 ≠ some id → t7.hp.get id = t5.hp.get id := fun id h1 h2 => (p2 id (by omega) h2).trans (h6o id h1)
                have hJ7 : J (ys2 ++ [z]) Cs5 t7 := C.same hJ5 (by omega) fun id h => h7o id (C.lt hJ5 h) fun ho => (hcq5 id ho).1 h
                have hS7 := hS5.move (t' := t7) (ys' := ys2 ++ [z]) (zs' := ys2 ++ [z]) (Cs' := Cs5) (queue' := queue2 ++ [z]) (oq' := o7) (qv' := qv7) (by omega) (fun id h1 _ _ h4 => h7o id h1 h4) hJ7 (fun id h => by have := C.lt hJ5 h; omega) (fun _ h => Or.inl h)
                  ((h7o _ (by omega) (fun ho => by have := (hcq5 _ ho).2; omega)).trans hS5.mp) (by rw [List.map_append]; exact p3) (fun id ho => by
                    rcases p4 with rfl | rfl
                    · exact hcq5 id ho
                    · cases ho
                      exact ⟨fun h => by have := C.lt hJ5 h; omega, by omega⟩)
                refine opt_of rfl ?_
                repeat (first
  | with_reducible first | refine st (by constructor) ?_ | apply c_region
  | (with_reducible apply k_block_on
     · decide)
  | ((with_reducible first | apply xOp | apply xDr | apply xIf); rfl; (simp only [Nat.reduceEqDiff, Nat.reduceAdd, ↓reduceIte, xBB, stG, undef, opA, val, opdA, opdO, plainN, omap, binA, intBinA, loadV, readA, storeV, writeA, fieldAddrA, indexAddrA, lenA, builtinA, newA, unA, packA, Value.cells, q22, hw]; rfl); first | rfl | exact ⟨rfl, rfl, rfl⟩))
                intro _ _
                exact k_loop_next (m' := m2 - 1) (by omega) ⟨k + 1, ys2 ++ [z], Cs5, queue2 ++ [z], o7, qv7, by omega, by simp only [Nat.reduceEqDiff, T.get_put, ↓reduceIte], by simp only [List.length_append, List.length_singleton]; omega, by simp only [List.length_append, List.length_singleton]; omega, hadd, by simp only [Nat.reduceEqDiff, T.get_put, ↓reduceIte], hS7⟩
              · refine opt_of rfl ?_
                repeat (first
  | with_reducible first | refine st (by constructor) ?_ | apply c_region
  | (with_reducible apply k_block_on
     · decide)
  | ((with_reducible first | apply xOp | apply xDr | apply xIf); rfl; (simp only [Nat.reduceEqDiff, Nat.reduceAdd, ↓reduceIte, xBB, stG, undef, opA, val, opdA, opdO, plainN, omap, binA, intBinA, loadV, readA, storeV, writeA, fieldAddrA, indexAddrA, lenA, builtinA, newA, unA, packA, Value.cells, Bool.not_false]; rfl); first | rfl | exact ⟨rfl, rfl, rfl⟩))
                intro _ _
                repeat (first
  | with_reducible first | refine st (by constructor) ?_ | apply c_region
  | (with_reducible apply k_block_on
     · decide)
  | ((with_reducible first | apply xOp | apply xDr | apply xIf); rfl; (simp only [Nat.reduceEqDiff, Nat.reduceAdd, ↓reduceIte, xBB, stG, undef, opA, val, opdA, opdO, plainN, omap, binA, intBinA, loadV, readA, storeV, writeA, fieldAddrA, indexAddrA, lenA, builtinA, newA, unA, packA, Value.cells]; rfl); first | rfl | exact ⟨rfl, rfl, rfl⟩))
                intro _ _
                repeat (first
  | with_reducible first | refine st (by constructor) ?_ | apply c_region
  | (with_reducible apply k_block_on
     · decide)
  | ((with_reducible first | apply xOp | apply xDr | apply xIf); rfl; (simp only [Nat.reduceEqDiff, Nat.reduceAdd, ↓reduceIte, xBB, stG, undef, opA, val, opdA, opdO, plainN, omap, binA, intBinA, loadV, readA, storeV, writeA, fieldAddrA, indexAddrA, lenA, builtinA, newA, unA, packA, Value.cells]; rfl); first | rfl | exact ⟨rfl, rfl, rfl⟩))
                intro _
                refine ret_i (vs := []) rfl ?_
                exact Or.inr ⟨ys2 ++ [z], hfound, hstop⟩
        · have hkn : k = hs.length := by omega
          rw [hkn] at hq2
          repeat (first
  | with_reducible first | refine st (by constructor) ?_ | apply c_region
  | (with_reducible apply k_block_on
     · decide)
  | ((with_reducible first | apply xOp | apply xDr | apply xIf); rfl; (simp only [Nat.reduceEqDiff, Nat.reduceAdd, ↓reduceIte, xBB, stG, undef, opA, val, opdA, opdO, plainN, omap, binA, intBinA, loadV, readA, storeV, writeA, fieldAddrA, indexAddrA, lenA, builtinA, newA, unA, packA, Value.cells, h22, k21, hhm, hlt]; rfl); first | rfl | exact ⟨rfl, rfl, rfl⟩))
          intro _ _
          repeat (first
  | with_reducible first | refine st (by constructor) ?_ | apply c_region
  | (with_reducible apply k_block_on
     · decide)
  | ((with_reducible first | apply xOp | apply xDr | apply xIf); rfl; (simp only [Nat.reduceEqDiff, Nat.reduceAdd, ↓reduceIte, xBB, stG, undef, opA, val, opdA, opdO, plainN, omap, binA, intBinA, loadV, readA, storeV, writeA, fieldAddrA, indexAddrA, lenA, builtinA, newA, unA, packA, Value.cells]; rfl); first | rfl | exact ⟨rfl, rfl, rfl⟩))
          intro _ _
          exact k_loop_next (m' := 2 * (2 ^ n - ys2.length) + queue2.length) hme ⟨ys2, Cs2, queue2, oq2, qv2, rfl, hql2, hq2.next, by simp only [Nat.reduceEqDiff, T.get_put, ↓reduceIte]; exact h5, hS2⟩
end Go.Ev

/- The orders by which the program sorts are strict and total. -/
set_option linter.unusedSimpArgs false
set_option linter.unusedVariables false
namespace Go.Ev
open Go Go.Proofs Go.Sort

/-- A comparison. -/
structure CmpO {α : Type} (c : α → α → Int) : Prop where
  anti : ∀ x y, c x y = - c y x
  zero : ∀ x y, c x y = 0 → x = y
  trans : ∀ x y z, c x y < 0 → c y z < 0 → c x z < 0

theorem CmpO.self {α : Type} {c : α → α → Int} (h : CmpO c) (x : α) : c x x = 0 := by have := h.anti x x; omega
theorem CmpO.swo {α : Type} {c : α → α → Int} (h : CmpO c) : SWO (ltOf c) where
  irrefl x := by unfold ltOf; rw [h.self]; rfl
  trans x y z h1 h2 := by
    unfold ltOf at *
    simp only [decide_eq_true_eq] at *
    exact h.trans x y z h1 h2
  ntrans x y z h1 h2 := by
    unfold ltOf at *
    simp only [decide_eq_false_iff_not] at *
    intro h3
    have a := h.anti x y
    by_cases h4 : c y x = 0
    · obtain rfl := h.zero y x h4; exact h2 h3
    · exact h2 (h.trans y x z (by omega) h3)
theorem CmpO.total {α : Type} {c : α → α → Int} (h : CmpO c) : ∀ x y, ltOf c x y = false → ltOf c y x = false → x = y := by
  intro x y h1 h2
  unfold ltOf at *
  simp only [decide_eq_false_iff_not] at *
  have := h.anti x y
  exact h.zero x y (by omega)

theorem cmpI_cases (x y : Int) : (x < y ∧ cmpI x y = -1 ∧ cmpI y x = 1) ∨ (x = y ∧ cmpI x y = 0 ∧ cmpI y x = 0) ∨ (y < x ∧ cmpI x y = 1 ∧ cmpI y x = -1) := by
  unfold cmpI
  rcases Int.lt_trichotomy x y with h | h | h
  · exact Or.inl ⟨h, by rw [if_pos h], by rw [if_neg (by omega), if_pos h]⟩
  · exact Or.inr (Or.inl ⟨h, by rw [if_neg (by omega), if_neg (by omega)], by rw [if_neg (by omega), if_neg (by omega)]⟩)
  · exact Or.inr (Or.inr ⟨h, by rw [if_neg (by omega), if_pos h], by rw [if_pos h]⟩)

theorem cmpI_O : CmpO cmpI where
  anti x y := by rcases cmpI_cases x y with ⟨_, h1, h2⟩ | ⟨_, h1, h2⟩ | ⟨_, h1, h2⟩ <;> rw [h1, h2] <;> rfl
  zero x y h := by rcases cmpI_cases x y with ⟨h0, h1, h2⟩ | ⟨h0, h1, h2⟩ | ⟨h0, h1, h2⟩ <;> omega
  trans x y z h k := by
    rcases cmpI_cases x y with ⟨h0, h1, h2⟩ | ⟨h0, h1, h2⟩ | ⟨h0, h1, h2⟩ <;> rcases cmpI_cases y z with ⟨k0, k1, k2⟩ | ⟨k0, k1, k2⟩ | ⟨k0, k1, k2⟩ <;> rcases cmpI_cases x z with ⟨g0, g1, g2⟩ | ⟨g0, g1, g2⟩ | ⟨g0, g1, g2⟩ <;> omega

theorem cmpL_O : CmpO cmpL where
  anti x := by
    induction x with
    | nil => intro y; cases y <;> rfl
    | cons a x ih =>
      intro y
      cases y with
      | nil => rfl
      | cons b y =>
        rw [cmpL, cmpL]
        rcases cmpI_cases a b with ⟨_, h1, h2⟩ | ⟨_, h1, h2⟩ | ⟨_, h1, h2⟩
        · rw [h1, h2]; rfl
        · rw [h1, h2, if_neg (by simp), if_neg (by simp)]; exact ih y
        · rw [h1, h2]; rfl
  zero x := by
    induction x with
    | nil => intro y h; cases y with | nil => rfl | cons b y => cases h
    | cons a x ih =>
      intro y h
      cases y with
      | nil => cases h
      | cons b y =>
        rw [cmpL] at h
        rcases cmpI_cases a b with ⟨_, h1, h2⟩ | ⟨h0, h1, h2⟩ | ⟨_, h1, h2⟩
        · rw [h1] at h; simp at h
        · rw [h1, if_neg (by simp)] at h; rw [h0, ih y h]
        · rw [h1] at h; simp at h
  trans x := by
    induction x with
    | nil => intro y z h1 h2; cases z with
      | nil => cases y with | nil => simp [cmpL] at h1 | cons b y => simp [cmpL] at h2
      | cons c z => simp [cmpL]
    | cons a x ih =>
      intro y z h1 h2
      cases y with
      | nil => simp [cmpL] at h1
      | cons b y =>
        cases z with
        | nil => simp [cmpL] at h2
        | cons c z =>
          rw [cmpL] at h1 h2 ⊢
          rcases cmpI_cases a b with ⟨h0, e1, _⟩ | ⟨h0, e1, _⟩ | ⟨h0, e1, _⟩
          · rcases cmpI_cases b c with ⟨k0, e2, _⟩ | ⟨k0, e2, _⟩ | ⟨k0, e2, _⟩
            · rcases cmpI_cases a c with ⟨g0, e3, _⟩ | ⟨g0, e3, _⟩ | ⟨g0, e3, _⟩
              · rw [e3]; simp
              · omega
              · omega
            · rw [← k0, e1]; simp
            · rw [e2] at h2; simp at h2
          · rw [e1, if_neg (by simp)] at h1
            rw [h0]
            rcases cmpI_cases b c with ⟨k0, e2, _⟩ | ⟨k0, e2, _⟩ | ⟨k0, e2, _⟩
            · rw [e2]; simp
            · rw [e2, if_neg (by simp)] at h2 ⊢
              exact ih y z h1 h2
            · rw [e2] at h2; simp at h2
          · rw [e1] at h1; simp at h1

theorem orI_two (p q : Int) : orI [p, q] = if p ≠ 0 then p else q := by
  unfold orI
  split
  · rfl
  · unfold orI
    split
    · rfl
    · rename_i h; simp at h; rw [h]; rfl

/-- First by one thing, then by another. -/
theorem lex_O {α β γ : Type} {c : β → β → Int} {d : γ → γ → Int} (hc : CmpO c) (hd : CmpO d) (f : α → β) (g : α → γ) (inj : ∀ x y, f x = f y → g x = g y → x = y) : CmpO fun x y => orI [c (f x) (f y), d (g x) (g y)] where
  anti x y := by
    rw [orI_two, orI_two]
    have h1 := hc.anti (f x) (f y)
    have h2 := hd.anti (g x) (g y)
    split <;> split <;> omega
  zero x y h := by
    rw [orI_two] at h
    split at h
    · rename_i hne; exact absurd h hne
    · rename_i hne
      exact inj x y (hc.zero _ _ (by simpa using hne)) (hd.zero _ _ h)
  trans x y z h1 h2 := by
    rw [orI_two] at *
    split at h1
    · split at h2
      · have := hc.trans _ _ _ h1 h2
        rw [if_pos (by omega)]; exact this
      · rename_i k; have k' : c (f y) (f z) = 0 := by simpa using k
        have e := hc.zero _ _ k'
        rw [← e, if_pos (by omega)]; exact h1
    · rename_i k; have k' : c (f x) (f y) = 0 := by simpa using k
      have e := hc.zero _ _ k'
      rw [e]
      split at h2
      · rename_i k2; rw [if_pos k2]; exact h2
      · rename_i k2; rw [if_neg k2]; exact hd.trans _ _ _ h1 h2

/-- A set of nodes. -/
def US : Type := { n : Nat // n < 18446744073709551616 }
instance : Inhabited US := ⟨⟨0, by decide⟩⟩
def encS (u : US) : Value := .int .u64 u.1
def cfS (a b : US) : Int := cmpS a.1 b.1
theorem cfS_O : CmpO cfS := by
  have h := lex_O (α := US) cmpI_O cmpL_O (fun u => onesI u.1) (fun u => nodesL u.1 64) fun x y _ h => Subtype.ext (nodesL_inj (n := 64) x.2 y.2 h)
  exact h
theorem ordE_O : CmpO ordE := by
  have h := lex_O (α := Int × Int) cmpI_O cmpI_O (fun e => e.1) (fun e => e.2) fun x y h1 h2 => Prod.ext h1 h2
  exact h
end Go.Ev

/- From the row's world to the clean one: the arguments as the evaluator sees them; what the row asks of the world behind the call. -/
set_option linter.unusedSimpArgs false
set_option linter.unusedVariables false
namespace Go.Ev
open Go Go.Proofs Go.ChangeShapes Go.WideShapes Go.ChangeAt Go.RowKit
set_option maxRecDepth 100000

theorem ownKnobT : ownKnob Tryd.prog.godebug = none := by kernel_rfl
theorem gTab : Tryd.prog.globalNamed "math/bits.deBruijn64tab" = some 0 := by kernel_rfl
theorem gTabType : (Tryd.prog.globals[0]?).map (·.type) = some 103 := by kernel_rfl
theorem un103 : Tryd.prog.underlying 103 = some (.array 64 5) := by kernel_rfl
theorem cells103 : Tryd.prog.cellsOf 103 = 64 := by kernel_rfl
theorem cells5 : Tryd.prog.cellsOf 5 = 1 := by kernel_rfl
theorem cells3 : Tryd.prog.cellsOf 3 = 1 := by kernel_rfl
theorem kidsT : Kids Tryd.prog (· < Tryd.prog.types.size) := kids_rows (by kernel_rfl) (by kernel_rfl)
theorem fullT : ∀ t e, t < Tryd.prog.types.size → Tryd.prog.underlying t = some (.slice e) → 0 < Tryd.prog.cellsOf e := slices_full_of Tryd.prog (by kernel_rfl)
theorem sz103 : szA Tryd.prog 103 = some 64 := by kernel_rfl
theorem mixed : Tryd.prog.follows .mixedOrders = true := by kernel_rfl

/-! ### Behind the call -/
section
variable {H : Type} {enc : TypeId × Value → H}

theorem keptBut_of {W W' : World} {may : MemPlace → Prop} (hos : W'.os = W.os) (hout : W'.output = W.output) (hh : ∀ r, r < W.heap.size → W'.heap[r]? = W.heap[r]?) : W.keptBut W' may := by
  refine ⟨hos, hout, fun i hi => ?_⟩
  have := (World.keptBut_refl W may).2.2 i hi
  rw [hh i hi]; exact this

theorem sameAt_of {W W' : World} (hh : ∀ r, r < W.heap.size → W'.heap[r]? = W.heap[r]?) {p : MemPlace} (hp : p.block < W.heap.size) : W.sameAt W' p := by
  cases p with
  | cell b off =>
    show W'.cell? ⟨b, off, none⟩ = W.cell? ⟨b, off, none⟩
    unfold World.cell?
    rw [hh b hp]
  | map b => exact hh b hp

theorem trodAll_carry {P : Program} {w w' : World} {base : Nat} {spare : Nat → Bool} {held : Bool} : ∀ {ts : List TypeId} {vs : List Value} {ds : List (DataW H)} {ps : List MemPlace},
    DataW.TrodAll enc P w base spare held ts vs ds ps → (∀ p ∈ ps, w.sameAt w' p) → DataW.TrodAll enc P w' base spare held ts vs ds ps
  | [], [], [], _, h, _ => h
  | _ :: _, _ :: _, _ :: _, _, ⟨p, q, ⟨n, h1⟩, h2, e⟩, hs =>
    ⟨p, q, ⟨n, DataW.trod_carry n _ _ _ h1 fun x hx => hs x (by rw [e]; exact List.mem_append_left _ hx)⟩, trodAll_carry h2 (fun x hx => hs x (by rw [e]; exact List.mem_append_right _ hx)), e⟩

/-- What a law's row asks behind the call: true, and the arguments as they were. -/
theorem law_post {fn : Func} {s : ChangeSpec} (hvars : s.vars = []) (hres : fn.resultTypes = #[4]) (hpar : ∀ t ∈ fn.params.toList, t < Tryd.prog.types.size) {W W' : World} {args : Array Value} {ds gs : List (DataW H)} {before : List MemPlace}
    (hW : DataW.Whole enc Tryd.prog fn.params.toList s.vars false W args.toList ds gs before) (hsp : s.fn H (ds ++ gs) = { results := [.lit (.bool true)], args := ds })
    (hos : W'.os = W.os) (hout : W'.output = W.output) (hh : ∀ r, r < W.heap.size → W'.heap[r]? = W.heap[r]?) : s.post enc Tryd.prog fn false true false false W args (.bool true) W' := by
  have hlt := hW.lt
  have hW0 := hW
  obtain ⟨p, q, hA, hV, rfl, _, _⟩ := hW0
  refine ⟨ds, gs, p ++ q, [], p, [], hW, ?_, ?_, ?_, keptBut_of hos hout hh, fun h => by cases h⟩
  · rw [hsp, hres]
    exact trodAll_cons_mk (shut_bool un4 _) trodAll_mk0
  · rw [hsp]
    refine DataW.TrodAll.respare kidsT fullT hpar (trodAll_carry hA fun x hx => sameAt_of hh (hlt x (List.mem_append_left _ hx))) fun x hx => ?_
    simpa using hlt x (List.mem_append_left _ hx)
  · rw [hsp, hvars]; rfl
end

/-! ### Ahead of the call -/
/-- A slice whose capacity is known. -/
def CapOK : Value → Prop
  | .slice _ n c => n ≤ c ∧ c < UNK
  | _ => False
/-- How an argument is seen: a block for what it holds, if it holds anything. -/
structure View (P : Program) (W : World) (v : Value) (xs : List (List Value)) (o : Option AObj) (im : Img) (av : Nat → Value) : Prop where
  val : ∀ φ id, φ id = some im → VR φ (av id) v
  blk : ∀ φ x, o = some x → OR P φ im (W.heap[im.blk]?) x ∧ wrO x = false
  sl : ∀ id (s : HS), s.hp.get id = o → id < s.nx → Sl s 1 (av id) xs
  cap : ∀ id, CapOK (av id)

theorem lies_info {p : Program} {u : TypeId} (hu : ∀ m e, p.underlying u ≠ some (.array m e)) : ∀ {d : Nat} {e c off n : Nat}, liesAt p d e c off u n = true → p.cellsOf e ≠ 0 := by
  intro d e c off n h hz
  cases d with
  | zero => cases h
  | succ d =>
    unfold liesAt at h
    rw [Bool.or_eq_true] at h
    rcases h with h | h
    · unfold Program.depth at h
      unfold rowAt at h
      simp only [hz, if_true] at h
      cases h
    · split at h
      · rename_i m u' hmu; exact hu _ _ hmu
      · cases h

theorem sz_of_cells {p : Program} {e : TypeId} (h : p.cellsOf e ≠ 0) : ∃ n, szA p e = some n := by
  unfold Program.cellsOf at h
  unfold szA
  cases hi : p.info? e with
  | none => rw [hi] at h; exact absurd rfl h
  | some i => exact ⟨_, rfl⟩

/-- A slice of numbers. -/
theorem view_ints {P : Program} {W : World} {H : Type} {enc : TypeId × Value → H} {base b0 : Nat} {sp : Nat → Bool} {held : Bool} {t e : TypeId} {k : IntKind} {v : Value} {d : DataW H} {ps : List MemPlace}
    (ht : P.underlying t = some (.slice e)) (he : P.underlying e = some (.int k)) (hc : P.cellsOf e = 1) (hval : Value.okWide P W .any b0 t v) (hd : DataW.Trod enc P W base sp held t v d ps) :
    ∃ (zs : List Int) (o : Option AObj) (im : Img) (av : Nat → Value), View P W v (zs.map fun n => [.int k n]) o im av ∧ (∀ n ∈ zs, (Lit.int k n).wf = true) ∧ zs.length ≤ maxLen := by
  obtain ⟨fuel, hf⟩ := hd
  have hone : v.cells.toList = [v] := by
    unfold Value.okWide at hval
    rw [ht] at hval
    simp only at hval
    unfold Cell.okWide at hval
    rw [ht] at hval
    cases v <;> first | rfl | (simp [Cell.ok, ht] at hval; done)
  rcases open_ints ht he hc hf with ⟨hcs, _⟩ | ⟨a, len, cap, zs, hcs, _, hl, hm, hz, _, hcell, hwf⟩
  · rw [hone] at hcs
    obtain rfl := List.head_eq_of_cons_eq hcs
    refine ⟨[], none, ⟨0, 0, 0, 0⟩, fun _ => .slice none 0 0, ⟨fun φ id _ => .nilslice 0 0, fun φ x h => (by cases h), fun id s _ _ => Or.inl ⟨rfl, rfl⟩, fun _ => ⟨Nat.le_refl _, by decide⟩⟩, fun n h => (by cases h), Nat.zero_le _⟩
  · rw [hone] at hcs
    obtain rfl := List.head_eq_of_cons_eq hcs
    -- where the slice lies
    obtain ⟨row, c, fz, hspot, hblk, hsz⟩ : ∃ row c fz, a.spot = none ∧ W.heap[a.block]? = some (.cells c row fz) ∧ ∃ n, szA P row = some n := by
      unfold Value.okWide at hval
      rw [ht] at hval
      simp only at hval
      unfold Cell.okWide at hval
      rw [ht] at hval
      simp only [Cell.ok, ht] at hval
      obtain ⟨_, _, _, h1, row, cells, h2, h3⟩ := hval
      unfold World.shape? at h2
      split at h2
      · rename_i c elem fz hb
        cases h2
        refine ⟨_, c, fz, h1, hb, sz_of_cells (lies_info (fun m e' h => ?_) h3)⟩
        rw [he] at h; cases h
      · cases h2
    obtain ⟨n, hn⟩ := hsz
    obtain ⟨ab, aoff, aspot⟩ := a
    simp only at hspot hblk
    subst hspot
    have hcU : cap < UNK := by unfold maxLen at hm; unfold UNK; omega
    have hcl : ∀ i, i < zs.length → c[aoff + i]? = some (.int k (zs.getD i 0)) := fun i hi => by
      have := hcell i hi
      rw [add_plain] at this
      unfold World.cell? at this
      simp only [hblk] at this
      simpa using this
    have hlz : len ≤ zs.length := by rw [hz]; split <;> omega
    by_cases h0 : len = 0
    · subst h0
      refine ⟨[], some (.cells false row []), ⟨ab, 0, c.size, n⟩, fun id => .slice (some ⟨id, aoff, none⟩) 0 cap, ⟨fun φ id h => ?_, fun φ x h => ?_, fun id s h1 h2 => ?_, fun _ => ⟨Nat.zero_le _, hcU⟩⟩, fun n h => (by cases h), Nat.zero_le _⟩
      · have := VR.slice (φ := φ) id aoff 0 cap ⟨ab, 0, c.size, n⟩ h hcU
        simpa using this
      · cases h
        exact ⟨⟨hn, c, fz, hblk, by simp, Nat.zero_le _, fun i v h => (by simp at h), fun h => (by cases h)⟩, rfl⟩
      · exact Or.inr ⟨id, aoff, cap, false, row, [], rfl, h1, h2, fun i x h => by simp at h⟩
    · have hoff : aoff ≤ c.size := by
        have := (Array.getElem?_eq_some_iff.1 (hcl 0 (by omega))).1; omega
      have hend : aoff + len ≤ c.size := by
        have := (Array.getElem?_eq_some_iff.1 (hcl (len - 1) (by omega))).1; omega
      have hlen : (zs.take len).length = len := by rw [List.length_take]; omega
      refine ⟨zs.take len, some (.cells false row ((zs.take len).map fun n => .int k n)), ⟨ab, aoff, c.size - aoff, n⟩, fun id => .slice (some ⟨id, 0, none⟩) len cap, ⟨fun φ id h => ?_, fun φ x h => ?_, fun id s h1 h2 => ?_, fun _ => ⟨by omega, hcU⟩⟩, fun n h => hwf n (List.mem_of_mem_take h), by omega⟩
      · exact VR.slice (φ := φ) id 0 len cap ⟨ab, aoff, c.size - aoff, n⟩ h hcU
      · cases h
        refine ⟨⟨hn, c, fz, hblk, by show aoff + (c.size - aoff) = c.size; omega, by rw [List.length_map, hlen]; show len ≤ c.size - aoff; omega, fun i v h => ?_, fun h => (by cases h)⟩, rfl⟩
        rw [List.getElem?_map, Option.map_eq_some_iff] at h
        obtain ⟨z, h3, rfl⟩ := h
        have hi : i < len := by have := (List.getElem?_eq_some_iff.1 h3).1; omega
        rw [List.getElem?_take_of_lt hi] at h3
        refine ⟨.int k z, ?_, .int k z⟩
        show c[aoff + i]? = _
        rw [hcl i (by omega), List.getD_eq_getElem?_getD, h3]; rfl
      · refine Or.inr ⟨id, 0, cap, false, row, _, by rw [List.length_map, hlen], h1, h2, fun i x h => ?_⟩
        rw [List.getElem?_map, Option.map_eq_some_iff] at h
        obtain ⟨z, h3, rfl⟩ := h
        refine ⟨rfl, ?_⟩
        have hi : i < (zs.take len).length := (List.getElem?_eq_some_iff.1 h3).1
        unfold cutL
        rw [if_pos (by simp only [List.length_map]; omega)]
        rw [Nat.zero_add, Nat.mul_one, List.drop_eq_getElem_cons (by simpa using hi)]
        have h4 := (List.getElem?_eq_some_iff.1 h3).2
        simp only [List.getElem_map, h4, List.take_succ_cons, List.take_zero]

/-- No second argument. -/
theorem view_none {P : Program} {W : World} : View P W (.slice none 0 0) [] none ⟨0, 0, 0, 0⟩ (fun _ => .slice none 0 0) :=
  ⟨fun φ id _ => .nilslice 0 0, fun φ x h => (by cases h), fun id s _ _ => Or.inl ⟨rfl, rfl⟩, fun _ => ⟨Nat.le_refl _, by decide⟩⟩

/-- The clean memory of two arguments. -/
def s2 (o1 o2 : Option AObj) : HS := ⟨((T.nil.put 0 (some tabB)).put 1 o1).put 2 o2, 3⟩
def φ2 (im1 im2 : Img) : Inj := fun id => if id = 0 then some ⟨0, 0, 64, 64⟩ else if id = 1 then some im1 else if id = 2 then some im2 else none

theorem s2_get (o1 o2 : Option AObj) (id : Nat) : (s2 o1 o2).hp.get id = if id = 2 then o2 else if id = 1 then o1 else if id = 0 then some tabB else none := by
  unfold s2
  simp only [T.get_put, T.get_nil]

theorem s2_glob (o1 o2 : Option AObj) : Glob (s2 o1 o2) := ⟨by unfold s2; simp, by rw [s2_get]; rfl⟩

/-- The program's variable, as the clean memory has it. -/
theorem tab_or {W : World} (hsh : W.ShapedOpen Tryd.prog) (hT : Lib.TabIs Tryd.prog W "math/bits.deBruijn64tab" .u8 tabL) (φ : Inj) : OR Tryd.prog φ ⟨0, 0, 64, 64⟩ (W.heap[0]?) tabB := by
  have hrow : ∃ zero, ((begin Tryd.prog (fun _ _ => 0) default).world.heap[0]?).bind Obj.row? = some (zero, 103) := by
    have h : (((begin Tryd.prog (fun _ _ => 0) default).world.heap[0]?).bind Obj.row?).map (·.2) = some 103 := by kernel_rfl
    cases hc : ((begin Tryd.prog (fun _ _ => 0) default).world.heap[0]?).bind Obj.row? with
    | none => rw [hc] at h; cases h
    | some x => rw [hc] at h; obtain ⟨z, t⟩ := x; cases h; exact ⟨z, rfl⟩
  obtain ⟨zero, hz⟩ := hrow
  obtain ⟨cs, hcs, _, _⟩ := hsh.1 0 zero 103 (by rw [globs]; decide) hz
  have hv : W.var? Tryd.prog "math/bits.deBruijn64tab" = some (tabL.map fun z => Value.int .u8 z).toArray := hT
  unfold World.var? at hv
  rw [gTab] at hv
  simp only [Option.bind_some, hcs, Option.some.injEq] at hv
  subst hv
  refine ⟨sz103, _, _, hcs, rfl, Nat.le_refl _, fun i v h => ?_, fun h => by cases h⟩
  refine ⟨v, ?_, ?_⟩
  · show (tabL.map fun z => Value.int .u8 z).toArray[0 + i]? = _
    rw [Nat.zero_add, List.getElem?_toArray]; exact h
  · rw [List.getElem?_map, Option.map_eq_some_iff] at h
    obtain ⟨z, _, rfl⟩ := h
    exact .int .u8 z

theorem hr2 {W : World} {v1 v2 : Value} {x1 x2 : List (List Value)} {o1 o2 : Option AObj} {im1 im2 : Img} {a1 a2 : Nat → Value} (hsh : W.ShapedOpen Tryd.prog) (hT : Lib.TabIs Tryd.prog W "math/bits.deBruijn64tab" .u8 tabL)
    (h1 : View Tryd.prog W v1 x1 o1 im1 a1) (h2 : View Tryd.prog W v2 x2 o2 im2 a2) : HR Tryd.prog (φ2 im1 im2) (s2 o1 o2) W := by
  have hwr : ∀ id o, (s2 o1 o2).hp.get id = some o → wrO o = false := fun id o h => by
    rw [s2_get] at h
    split at h
    · exact (h2.blk (φ2 im1 im2) o h).2
    · split at h
      · exact (h1.blk (φ2 im1 im2) o h).2
      · split at h
        · cases h; rfl
        · cases h
  refine ⟨fun id o h => ?_, fun i j oi oj mi mj a b _ _ _ hw => ?_, fun id o h => ?_, fun g hg => ?_, ?_⟩
  · rw [s2_get] at h
    split at h
    · rename_i e; subst e; exact ⟨im2, rfl, (h2.blk _ o h).1⟩
    · split at h
      · rename_i e; subst e; exact ⟨im1, rfl, (h1.blk _ o h).1⟩
      · split at h
        · rename_i e; subst e; cases h; exact ⟨_, rfl, tab_or hsh hT _⟩
        · cases h
  · rw [hwr i oi a, hwr j oj b] at hw; rcases hw with h | h <;> cases h
  · rw [s2_get] at h
    show id < 3
    split at h
    · omega
    · split at h
      · omega
      · split at h
        · omega
        · cases h
  · rw [globs] at hg
    obtain rfl : g = 0 := by omega
    exact ⟨_, rfl, rfl, rfl⟩
  · rw [globs]; show 1 ≤ 3; decide

theorem fresh2 (im1 im2 : Img) (n : Nat) : Fresh (φ2 im1 im2) 3 n := fun id h _ => by
  unfold φ2
  rw [if_neg (by omega), if_neg (by omega), if_neg (by omega)]

/-- From the clean run to the call. -/
theorem calls_of [Sorts Tryd.prog] {W : World} {f : FuncId} {args args' : List Value} {im1 im2 : Img} {o1 o2 : Option AObj} (hH : HR Tryd.prog (φ2 im1 im2) (s2 o1 o2) W) (hl : LR (φ2 im1 im2) args args')
    (h : wpF Tryd.prog (s2 o1 o2).nx f args (s2 o1 o2) fun v _ => v = .bool true) :
    Calls Tryd.prog f args'.toArray W fun e W' => e = .returned (.bool true) ∧ W'.os = W.os ∧ W'.output = W.output ∧ ∀ r, r < W.heap.size → W'.heap[r]? = W.heap[r]? := by
  obtain ⟨n, v, s', h1, rfl⟩ := h
  refine (ev_calls Tryd.prog mixed h1 hH hl (Nat.le_refl _) (fresh2 im1 im2 _)).mono fun e W' hp => ?_
  obtain ⟨v', φ', rfl, hv, p⟩ := hp
  cases hv
  refine ⟨rfl, p.os, p.output, fun r hr => p.frame r hr fun id im hid hw _ => ?_⟩
  have hid' : 3 ≤ id := hid
  have := hw.ne
  rw [s2_get, if_neg (by omega), if_neg (by omega), if_neg (by omega)] at this
  exact absurd rfl this

theorem fieldsOf {P : Program} {t : TypeId} {fs : List Field} (h : fieldsA P t = some fs) : P.underlying t = some (.struct fs.toArray) := by
  unfold fieldsA at h
  split at h
  · rename_i f hf
    simp only [Option.some.injEq] at h
    subst h
    rw [hf]
  · cases h

def encU' (b : Nat) : List Value := [.int .u8 b]

theorem wf_u8 {n : Int} (h : (Lit.int .u8 n).wf = true) : 0 ≤ n ∧ n < 256 := by
  have h1 : IntKind.u8.min = 0 := rfl
  have h2 : IntKind.u8.max = 255 := rfl
  simp only [Lit.wf, Bool.and_eq_true, decide_eq_true_eq] at h
  omega

/-- A net: its number, and its list. -/
theorem view_net {W : World} {H : Type} {enc : TypeId × Value → H} {base b0 : Nat} {sp : Nat → Bool} {held : Bool} {v : Value} {d : DataW H} {ps : List MemPlace} (hval : Value.okWide Tryd.prog W .any b0 24 v) (hd : DataW.Trod enc Tryd.prog W base sp held 24 v d ps) :
    ∃ (nb : Nat) (c1 : Value) (bs : List Nat) (o : Option AObj) (im : Img) (av : Nat → Value), v = .agg #[.int .u8 nb, c1] ∧ View Tryd.prog W c1 (bs.map encU') o im av ∧ nb < 256 ∧ (∀ b ∈ bs, b < 256) ∧ bs.length ≤ maxLen := by
  have hs := fieldsOf (P := Tryd.prog) (t := 24) (fs := [{ name := "Nodes", type := 5, offset := 0, embedded := false, tag := "", pkgPath := "", byteOffset := 0 }, { name := "Edges", type := 22, offset := 1, embedded := false, tag := "", pkgPath := "", byteOffset := 8 }]) (by kernel_rfl)
  obtain ⟨fuel, hf⟩ := hd
  obtain ⟨y0, y1, n, _, hl, h0, h1⟩ := trod_struct2 hs hf
  have hc24 : Tryd.prog.cellsOf 24 = 2 := by kernel_rfl
  have hc22 : Tryd.prog.cellsOf 22 = 1 := by kernel_rfl
  unfold Value.okWide at hval
  rw [hs] at hval
  simp only at hval
  obtain ⟨cs, rfl, hsz, ts, hts, _, hrow⟩ := hval
  have hts2 : Tryd.prog.cellTypes Tryd.prog.depth 24 = some [5, 22] := by kernel_rfl
  rw [hts2] at hts
  obtain rfl := (Option.some.inj hts).symm
  rw [hc24] at hsz
  obtain ⟨l⟩ := cs
  match l, hsz with
  | [c0, c1], _ =>
    simp only [Value.cells, cells5, hc22] at h0 h1
    obtain ⟨z, hz, _, hwf⟩ := DataW.trod_int un5 (show DataW.trod enc Tryd.prog W base sp held n 5 [c0] = some y0 from h0)
    obtain rfl := List.head_eq_of_cons_eq hz
    obtain ⟨u, hu, hok⟩ := hrow 1 c1 rfl
    obtain rfl : u = 22 := (Option.some.inj (show some 22 = some u from hu)).symm
    have hval1 : Value.okWide Tryd.prog W .any b0 22 c1 := by
      unfold Value.okWide
      rw [un22]
      exact hok
    have hone : c1.cells.toList = [c1] := by
      unfold Cell.okWide at hok
      rw [un22] at hok
      cases c1 <;> first | rfl | (simp [Cell.ok, un22] at hok; done)
    obtain ⟨zs, o, im, av, hv, hwz, hlz⟩ := view_ints un22 un5 cells5 hval1 ⟨n, by rw [hone]; exact h1⟩
    have hzn := wf_u8 hwf
    refine ⟨z.toNat, c1, zs.map Int.toNat, o, im, av, by rw [Int.toNat_of_nonneg hzn.1], ?_, by omega, fun b hb => ?_, by rw [List.length_map]; exact hlz⟩
    · have : (zs.map fun n => [Value.int .u8 n]) = (zs.map Int.toNat).map encU' := by
        rw [List.map_map]
        refine List.map_congr_left fun x hx => ?_
        simp only [Function.comp, encU']
        rw [Int.toNat_of_nonneg (wf_u8 (hwz x hx)).1]
      rw [← this]; exact hv
    · obtain ⟨x, hx, rfl⟩ := List.mem_map.1 hb
      have := wf_u8 (hwz x hx); omega
/-- A small number. -/
theorem view_u8 {W : World} {H : Type} {enc : TypeId × Value → H} {base b0 : Nat} {sp : Nat → Bool} {held : Bool} {v : Value} {d : DataW H} {ps : List MemPlace} (hval : Value.okWide Tryd.prog W .any b0 5 v) (hd : DataW.Trod enc Tryd.prog W base sp held 5 v d ps) :
    ∃ z : Nat, v = .int .u8 z ∧ z < 256 := by
  have hone : v.cells.toList = [v] := by
    unfold Value.okWide at hval
    rw [un5] at hval
    simp only at hval
    unfold Cell.okWide at hval
    rw [un5] at hval
    cases v <;> first | rfl | (simp [Cell.ok, un5] at hval; done)
  obtain ⟨n, hf⟩ := hd
  rw [hone] at hf
  obtain ⟨z, hz, _, hwf⟩ := DataW.trod_int un5 hf
  obtain rfl := List.head_eq_of_cons_eq hz
  have := wf_u8 hwf
  exact ⟨z.toNat, by rw [Int.toNat_of_nonneg this.1], by omega⟩
end Go.Ev

/- The sorts of the library at this dump: the layings. Written by the kit (lay-plain) for this claim. -/
namespace Go.Proofs
open Go.Shelf
def Tryd.sortSet_ren : Go.Shelf.Ren := ⟨fun | 6 => 42 | 15 => 61 | 14 => 60 | 28 => 79 | 29 => 80 | 20 => 71 | 21 => 72 | 22 => 73 | 23 => 74 | 24 => 75 | 25 => 76 | 26 => 77 | 27 => 78 | 46 => 85 | 47 => 86 | 48 => 87 | 49 => 88 | 50 => 89 | 57 => 91 | n => n, fun | 22 => 65 | 24 => 60 | 25 => 71 | 3 => 3 | 39 => 99 | 0 => 0 | 53 => 118 | 55 => 59 | 4 => 4 | 46 => 111 | 45 => 110 | 50 => 115 | 5 => 5 | 9 => 9 | 66 => 122 | 70 => 126 | 76 => 129 | 77 => 130 | n => n, fun | n => n⟩
theorem Tryd.sortSet : Go.Proofs.SlLaysF.n6 Tryd.prog Tryd.sortSet_ren := {
  mixed := by kernel_rfl
  f6 := ⟨Tryd.f42.name, by decide, Tryd.func42.trans (congrArg some (by kernel_rfl))⟩
  f14 := ⟨Tryd.f60.name, by decide, Tryd.func60.trans (congrArg some (by kernel_rfl))⟩
  f15 := Tryd.func61.trans (congrArg some (by kernel_rfl))
  f20 := ⟨Tryd.f71.name, by decide, Tryd.func71.trans (congrArg some (by kernel_rfl))⟩
  f21 := ⟨Tryd.f72.name, by decide, Tryd.func72.trans (congrArg some (by kernel_rfl))⟩
  f22 := ⟨Tryd.f73.name, by decide, Tryd.func73.trans (congrArg some (by kernel_rfl))⟩
  f23 := ⟨Tryd.f74.name, by decide, Tryd.func74.trans (congrArg some (by kernel_rfl))⟩
  f24 := ⟨Tryd.f75.name, by decide, Tryd.func75.trans (congrArg some (by kernel_rfl))⟩
  f25 := ⟨Tryd.f76.name, by decide, Tryd.func76.trans (congrArg some (by kernel_rfl))⟩
  f26 := ⟨Tryd.f77.name, by decide, Tryd.func77.trans (congrArg some (by kernel_rfl))⟩
  f27 := ⟨Tryd.f78.name, by decide, Tryd.func78.trans (congrArg some (by kernel_rfl))⟩
  f28 := Tryd.func79.trans (congrArg some (by kernel_rfl))
  f29 := Tryd.func80.trans (congrArg some (by kernel_rfl))
  f46 := ⟨Tryd.f85.name, by decide, Tryd.func85.trans (congrArg some (by kernel_rfl))⟩
  f47 := Tryd.func86.trans (congrArg some (by kernel_rfl))
  f48 := Tryd.func87.trans (congrArg some (by kernel_rfl))
  f49 := ⟨Tryd.f88.name, by decide, Tryd.func88.trans (congrArg some (by kernel_rfl))⟩
  f50 := ⟨Tryd.f89.name, by decide, Tryd.func89.trans (congrArg some (by kernel_rfl))⟩
  f57 := ⟨Tryd.f91.name, by decide, Tryd.func91.trans (congrArg some (by kernel_rfl))⟩
  t0 := Tryd.underlying0
  a0 := Tryd.isAgg0
  z0 := Tryd.sizeOf0
  v0 := Tryd.zeroValue0
  t3 := Tryd.underlying3
  a3 := Tryd.isAgg3
  z3 := Tryd.sizeOf3
  v3 := Tryd.zeroValue3
  t4 := Tryd.underlying4
  a4 := Tryd.isAgg4
  z4 := Tryd.sizeOf4
  v4 := Tryd.zeroValue4
  t5 := Tryd.underlying5
  a5 := Tryd.isAgg5
  z5 := Tryd.sizeOf5
  v5 := Tryd.zeroValue5
  t9 := Tryd.underlying9
  a9 := Tryd.isAgg9
  z9 := Tryd.sizeOf9
  v9 := Tryd.zeroValue9
  t22 := Tryd.underlying65
  a22 := Tryd.isAgg65
  z22 := Tryd.sizeOf65
  v22 := Tryd.zeroValue65
  a24 := Tryd.isAgg60
  z24 := Tryd.sizeOf60
  t25 := Tryd.underlying71
  a25 := Tryd.isAgg71
  z25 := Tryd.sizeOf71
  v25 := Tryd.zeroValue71
  t39 := Tryd.underlying99
  a39 := Tryd.isAgg99
  z39 := Tryd.sizeOf99
  v39 := Tryd.zeroValue99
  t45 := Tryd.underlying110
  a45 := Tryd.isAgg110
  z45 := Tryd.sizeOf110
  v45 := Tryd.zeroValue110
  t46 := Tryd.underlying111
  a46 := Tryd.isAgg111
  z46 := Tryd.sizeOf111
  v46 := Tryd.zeroValue111
  t50 := Tryd.underlying115
  a50 := Tryd.isAgg115
  z50 := Tryd.sizeOf115
  v50 := Tryd.zeroValue115
  t53 := Tryd.underlying118
  a53 := Tryd.isAgg118
  z53 := Tryd.sizeOf118
  v53 := Tryd.zeroValue118
  t55 := Tryd.underlying59
  a55 := Tryd.isAgg59
  z55 := Tryd.sizeOf59
  v55 := Tryd.zeroValue59
  t66 := Tryd.underlying122
  a66 := Tryd.isAgg122
  z66 := Tryd.sizeOf122
  v66 := Tryd.zeroValue122
  t70 := Tryd.underlying126
  a70 := Tryd.isAgg126
  z70 := Tryd.sizeOf126
  v70 := Tryd.zeroValue126
  t76 := Tryd.underlying129
  a76 := Tryd.isAgg129
  z76 := Tryd.sizeOf129
  v76 := Tryd.zeroValue129
  t77 := Tryd.underlying130
  a77 := Tryd.isAgg130
  z77 := Tryd.sizeOf130
  v77 := Tryd.zeroValue130 }
def Tryd.sortEdge_ren : Go.Shelf.Ren := ⟨fun | 6 => 82 | 15 => 61 | 14 => 90 | 28 => 79 | 29 => 80 | 20 => 92 | 21 => 93 | 22 => 94 | 23 => 95 | 24 => 96 | 25 => 97 | 26 => 98 | 27 => 99 | 46 => 100 | 47 => 86 | 48 => 87 | 49 => 101 | 50 => 102 | 57 => 103 | n => n, fun | 22 => 26 | 24 => 58 | 25 => 91 | 3 => 3 | 39 => 99 | 0 => 0 | 53 => 118 | 55 => 59 | 4 => 4 | 46 => 111 | 45 => 110 | 50 => 115 | 5 => 5 | 9 => 9 | 66 => 122 | 70 => 126 | 76 => 129 | 77 => 130 | n => n, fun | n => n⟩
theorem Tryd.sortEdge : Go.Proofs.SlLaysF0.n6 Tryd.prog Tryd.sortEdge_ren := {
  mixed := by kernel_rfl
  f6 := ⟨Tryd.f82.name, by decide, Tryd.func82.trans (congrArg some (by kernel_rfl))⟩
  f14 := ⟨Tryd.f90.name, by decide, Tryd.func90.trans (congrArg some (by kernel_rfl))⟩
  f15 := Tryd.func61.trans (congrArg some (by kernel_rfl))
  f20 := ⟨Tryd.f92.name, by decide, Tryd.func92.trans (congrArg some (by kernel_rfl))⟩
  f21 := ⟨Tryd.f93.name, by decide, Tryd.func93.trans (congrArg some (by kernel_rfl))⟩
  f22 := ⟨Tryd.f94.name, by decide, Tryd.func94.trans (congrArg some (by kernel_rfl))⟩
  f23 := ⟨Tryd.f95.name, by decide, Tryd.func95.trans (congrArg some (by kernel_rfl))⟩
  f24 := ⟨Tryd.f96.name, by decide, Tryd.func96.trans (congrArg some (by kernel_rfl))⟩
  f25 := ⟨Tryd.f97.name, by decide, Tryd.func97.trans (congrArg some (by kernel_rfl))⟩
  f26 := ⟨Tryd.f98.name, by decide, Tryd.func98.trans (congrArg some (by kernel_rfl))⟩
  f27 := ⟨Tryd.f99.name, by decide, Tryd.func99.trans (congrArg some (by kernel_rfl))⟩
  f28 := Tryd.func79.trans (congrArg some (by kernel_rfl))
  f29 := Tryd.func80.trans (congrArg some (by kernel_rfl))
  f46 := ⟨Tryd.f100.name, by decide, Tryd.func100.trans (congrArg some (by kernel_rfl))⟩
  f47 := Tryd.func86.trans (congrArg some (by kernel_rfl))
  f48 := Tryd.func87.trans (congrArg some (by kernel_rfl))
  f49 := ⟨Tryd.f101.name, by decide, Tryd.func101.trans (congrArg some (by kernel_rfl))⟩
  f50 := ⟨Tryd.f102.name, by decide, Tryd.func102.trans (congrArg some (by kernel_rfl))⟩
  f57 := ⟨Tryd.f103.name, by decide, Tryd.func103.trans (congrArg some (by kernel_rfl))⟩
  t0 := Tryd.underlying0
  a0 := Tryd.isAgg0
  z0 := Tryd.sizeOf0
  v0 := Tryd.zeroValue0
  t3 := Tryd.underlying3
  a3 := Tryd.isAgg3
  z3 := Tryd.sizeOf3
  v3 := Tryd.zeroValue3
  t4 := Tryd.underlying4
  a4 := Tryd.isAgg4
  z4 := Tryd.sizeOf4
  v4 := Tryd.zeroValue4
  t5 := Tryd.underlying5
  a5 := Tryd.isAgg5
  z5 := Tryd.sizeOf5
  v5 := Tryd.zeroValue5
  t9 := Tryd.underlying9
  a9 := Tryd.isAgg9
  z9 := Tryd.sizeOf9
  v9 := Tryd.zeroValue9
  t22 := Tryd.underlying26
  a22 := Tryd.isAgg26
  z22 := Tryd.sizeOf26
  v22 := Tryd.zeroValue26
  t25 := Tryd.underlying91
  a25 := Tryd.isAgg91
  z25 := Tryd.sizeOf91
  v25 := Tryd.zeroValue91
  t39 := Tryd.underlying99
  a39 := Tryd.isAgg99
  z39 := Tryd.sizeOf99
  v39 := Tryd.zeroValue99
  t45 := Tryd.underlying110
  a45 := Tryd.isAgg110
  z45 := Tryd.sizeOf110
  v45 := Tryd.zeroValue110
  t46 := Tryd.underlying111
  a46 := Tryd.isAgg111
  z46 := Tryd.sizeOf111
  v46 := Tryd.zeroValue111
  t50 := Tryd.underlying115
  a50 := Tryd.isAgg115
  z50 := Tryd.sizeOf115
  v50 := Tryd.zeroValue115
  t53 := Tryd.underlying118
  a53 := Tryd.isAgg118
  z53 := Tryd.sizeOf118
  v53 := Tryd.zeroValue118
  t55 := Tryd.underlying59
  a55 := Tryd.isAgg59
  z55 := Tryd.sizeOf59
  v55 := Tryd.zeroValue59
  t66 := Tryd.underlying122
  a66 := Tryd.isAgg122
  z66 := Tryd.sizeOf122
  v66 := Tryd.zeroValue122
  t70 := Tryd.underlying126
  a70 := Tryd.isAgg126
  z70 := Tryd.sizeOf126
  v70 := Tryd.zeroValue126
  t76 := Tryd.underlying129
  a76 := Tryd.isAgg129
  z76 := Tryd.sizeOf129
  v76 := Tryd.zeroValue129
  t77 := Tryd.underlying130
  a77 := Tryd.isAgg130
  z77 := Tryd.sizeOf130
  v77 := Tryd.zeroValue130 }
end Go.Proofs

/- A sort of the library, answered whole: what it leaves in the clean memory is what it leaves in the world. -/
set_option linter.unusedSimpArgs false
set_option linter.unusedVariables false
namespace Go.Ev
open Go Go.Proofs Go.Sort Go.Shelf

/-! ### A clean run that writes nothing old -/
theorem world_eq {W w' : World} (h1 : w'.tape = W.tape) (h2 : w'.os = W.os) (h3 : w'.output = W.output) (h4 : W.drawn ≤ w'.drawn) (h5 : W.heap.size ≤ w'.heap.size) (h6 : ∀ r, r < W.heap.size → w'.heap[r]? = W.heap[r]?) :
    ∃ q os', w' = Go.Sort.grow (W.drewN q) os' := by
  refine ⟨w'.drawn - W.drawn, w'.heap.extract W.heap.size w'.heap.size, ?_⟩
  have hh : w'.heap = W.heap ++ w'.heap.extract W.heap.size w'.heap.size := by
    apply Array.ext_getElem?
    intro i
    rw [Array.getElem?_append]
    split
    · rename_i hi; exact h6 i hi
    · rename_i hi
      rw [Array.getElem?_extract]
      by_cases h : i < w'.heap.size
      · rw [if_pos (by omega), show W.heap.size + (i - W.heap.size) = i by omega]
      · rw [if_neg (by omega), Array.getElem?_eq_none (by omega)]
  obtain ⟨heap, tape, drawn, os, output⟩ := w'
  obtain ⟨heap0, tape0, drawn0, os0, output0⟩ := W
  simp only at h1 h2 h3 h4 hh
  subst h1 h2 h3
  unfold Go.Sort.grow World.drewN
  simp only [World.mk.injEq, true_and, and_true]
  exact ⟨hh, by omega⟩

def sT : HS := ⟨T.nil.put 0 (some tabB), 1⟩
theorem sT_glob : Glob sT := ⟨by decide, rfl⟩

theorem clean_calls {W : World} {φ : Inj} {im : Img} (hb : im.blk = 0) (hsh : im.sh = 0) (ho : OR Tryd.prog φ im (W.heap[0]?) tabB) {f : FuncId} {args : List Value} {r : Int} (hl : ∀ φ', LR φ' args args)
    (h : @wpF Tryd.prog (Sorts.no Tryd.prog) sT.nx f args sT fun v _ => v = .int .i64 r) :
    Calls Tryd.prog f args.toArray W fun e w' => e = .returned (.int .i64 r) ∧ ∃ q os', w' = Go.Sort.grow (W.drewN q) os' := by
  obtain ⟨n, v, s', h1, rfl⟩ := h
  let φ0 : Inj := fun id => if id = 0 then some im else none
  have hget : ∀ id o, sT.hp.get id = some o → id = 0 ∧ o = tabB := fun id o h => by
    unfold sT at h
    simp only [T.get_put, T.get_nil] at h
    split at h
    · rename_i e; cases h; exact ⟨e, rfl⟩
    · cases h
  have H : HR Tryd.prog φ0 sT W := by
    refine ⟨fun id o h => ?_, fun i j oi oj mi mj a b _ _ hne _ => ?_, fun id o h => ?_, fun g hg => ?_, ?_⟩
    · obtain ⟨rfl, rfl⟩ := hget id o h
      refine ⟨im, rfl, ?_⟩
      rw [hb]
      obtain ⟨g0, c, fz, g1, g2, g3, g4, g5⟩ := ho
      refine ⟨g0, c, fz, g1, g2, g3, fun i v hv => ?_, g5⟩
      obtain ⟨v', a, b⟩ := g4 i v hv
      refine ⟨v', a, ?_⟩
      rw [List.getElem?_map, Option.map_eq_some_iff] at hv
      obtain ⟨z, _, rfl⟩ := hv
      cases b
      exact .int .u8 z
    · have := (hget i oi a).1; have := (hget j oj b).1; omega
    · have := (hget id o h).1; show id < 1; omega
    · rw [globs] at hg
      obtain rfl : g = 0 := by omega
      exact ⟨im, rfl, hb, hsh⟩
    · rw [globs]; exact Nat.le_refl 1
  refine (@ev_calls Tryd.prog (Sorts.no Tryd.prog) mixed _ _ _ _ _ _ _ h1 φ0 W args H (hl φ0) (Nat.le_refl _) (fun id hid _ => ?_)).mono fun e w' hp => ?_
  · have hid' : 1 ≤ id := hid
    exact if_neg (by omega)
  · obtain ⟨v', φ', rfl, hv, p⟩ := hp
    cases hv
    refine ⟨rfl, world_eq p.tape p.os p.output p.drawn p.size fun r hr => p.frame r hr fun id im' h1 h2 _ => ?_⟩
    obtain ⟨o, h3, h4⟩ := h2
    obtain ⟨rfl, rfl⟩ := hget id o h3
    cases h4

/-! ### A row of a block, laid anew -/
/-- c2 is c with F from o on. -/
def PutAt (c : Array Value) (o : Nat) (F : List Value) (c2 : Array Value) : Prop := c2.size = c.size ∧ ∀ j, c2[j]? = if o ≤ j ∧ j < o + F.length then F[j - o]? else c[j]?

theorem Post.growAll {φ : Inj} {lk : Nat} {s : HS} {w : World} (H : HR Tryd.prog φ s w) (os : Array Obj) : Post Tryd.prog φ lk s w φ s (Go.Sort.grow w os) := by
  have hget : ∀ k, k < w.heap.size → (Go.Sort.grow w os).heap[k]? = w.heap[k]? := fun k hk => by
    show (w.heap ++ os)[k]? = _
    rw [Array.getElem?_append_left hk]
  exact {
    ext := Sub.refl φ
    out := fun _ _ => rfl
    rel := {
      obj := fun id x hx => by
        obtain ⟨im, h1, h2⟩ := H.obj id x hx
        exact ⟨im, h1, by rw [hget _ (H.lt hx h1)]; exact h2⟩
      inj := H.inj
      bnd := H.bnd
      glob := H.glob
      nxg := H.nxg }
    nx := Nat.le_refl _
    live := fun _ _ h => h
    livw := fun _ _ h => h
    lock := fun _ _ => rfl
    keep := fun _ L h => ⟨L, h⟩
    os := rfl
    tape := rfl
    output := rfl
    drawn := Nat.le_refl _
    size := by simp
    frame := fun r hr _ => hget r hr
    news := fun id im a b _ => by
      obtain ⟨o, ho⟩ := Option.ne_none_iff_exists'.1 b
      have := H.bnd id o ho; omega }

theorem putL_get {cs F : List Value} {off : Nat} (h : off + F.length ≤ cs.length) (i : Nat) : (putL cs off F)[i]? = if off ≤ i ∧ i < off + F.length then F[i - off]? else cs[i]? := by
  unfold putL
  rw [List.getElem?_append, List.length_take, Nat.min_eq_left (by omega)]
  by_cases h1 : i < off
  · rw [if_pos h1, if_neg (by omega), List.getElem?_take_of_lt h1]
  · rw [if_neg h1, List.getElem?_append]
    by_cases h2 : i - off < F.length
    · rw [if_pos h2, if_pos (by omega)]
    · rw [if_neg h2, if_neg (by omega), List.getElem?_drop]
      congr 1; omega

/-- What a row of numbers in a block is in the world, and what laying it anew leaves. -/
theorem row_post {φ : Inj} {lk : Nat} {s : HS} {w : World} (H : HR Tryd.prog φ s w) {id off : Nat} {e : TypeId} {cs F F' : List Value} {im : Img} (hid : s.hp.get id = some (.cells true e cs)) (hlk : lk ≤ id) (hcut : cutL cs off F.length = some F)
    (hF : ∀ v ∈ F, ∃ k n, v = .int k n) (hF' : ∀ v ∈ F', ∃ k n, v = .int k n) (hlen : F'.length = F.length) (him : φ id = some im) :
    ∃ c fz, w.heap[im.blk]? = some (.cells c e fz) ∧ im.sh + off + F.length ≤ c.size ∧ (∀ j, j < F.length → c[im.sh + off + j]? = F[j]?) ∧ (∀ j, j < F.length → ¬ (fz.1 ≤ im.sh + off + j ∧ im.sh + off + j < fz.2)) ∧
      ∀ c2 m os, PutAt c (im.sh + off) F' c2 → Post Tryd.prog φ lk s w φ { s with hp := s.hp.put id (some (.cells true e (putL cs off F'))) } (Go.Sort.grow (Go.Sort.ahead (setB w im.blk (.cells c2 e fz)) m) os) := by
  obtain ⟨im', h1, h2⟩ := H.obj id _ hid
  rw [him] at h1
  cases h1
  obtain ⟨g0, c, fz, g1, g2, g3, g4, g5⟩ := h2
  unfold cutL at hcut
  split at hcut
  · rename_i hle
    simp only [Option.some.injEq] at hcut
    have hcs : ∀ j, j < F.length → cs[off + j]? = F[j]? := fun j hj => by
      rw [← hcut, List.getElem?_take_of_lt hj, List.getElem?_drop]
    refine ⟨c, fz, g1, by omega, fun j hj => ?_, fun j hj => g5 rfl _ (by omega), fun c2 m os hp => ?_⟩
    · have h3 : cs[off + j]? = some F[j] := by rw [hcs j hj, List.getElem?_eq_getElem hj]
      obtain ⟨v', a, b⟩ := g4 _ _ h3
      obtain ⟨k, n, hv⟩ := hF F[j] (List.getElem_mem hj)
      rw [hv] at b
      cases b
      rw [Nat.add_assoc, a, List.getElem?_eq_getElem hj, hv]
    · obtain ⟨p1, p2⟩ := hp
      have hle' : off + F'.length ≤ cs.length := by omega
      have A : Post Tryd.prog φ lk s w φ { s with hp := s.hp.put id (some (.cells true e (putL cs off F'))) } (setB w im.blk (.cells c2 e fz)) := by
        refine Post.set (ob := .cells c2 e fz) H hlk hid rfl him ⟨g0, c2, fz, rfl, by omega, by rw [putL_len hle']; exact g3, fun i v hv => ?_, g5⟩ (fun L h => by cases h)
        rw [putL_get hle'] at hv
        rw [p2]
        by_cases hi : off ≤ i ∧ i < off + F'.length
        · rw [if_pos hi] at hv
          rw [if_pos (by omega), show im.sh + i - (im.sh + off) = i - off by omega, hv]
          obtain ⟨k, n, rfl⟩ := hF' v (List.mem_of_getElem? hv)
          exact ⟨_, rfl, .int k n⟩
        · rw [if_neg hi] at hv
          rw [if_neg (by omega)]
          exact g4 i v hv
      have B := Post.same (lk := lk) (w' := Go.Sort.ahead (setB w im.blk (.cells c2 e fz)) m) A.rel rfl rfl rfl rfl (Nat.le_add_right _ _)
      exact (A.trans B).trans (Post.growAll B.rel os)
  · cases hcut

theorem mapBlock_setB {w : World} {b : Nat} {c : Array Value} {e : TypeId} {fz : Nat × Nat} (h : w.heap[b]? = some (.cells c e fz)) (f : Array Value → Array Value) : mapBlock w b f = setB w b (.cells (f c) e fz) := by
  unfold mapBlock setB
  congr 1
  apply Array.ext_getElem?
  intro k
  rw [Array.getElem?_modify, Array.getElem?_setIfInBounds]
  have hlt := (Array.getElem?_eq_some_iff.1 h).1
  by_cases hk : b = k
  · subst hk
    rw [if_pos rfl, if_pos rfl, if_pos hlt, h]; rfl
  · rw [if_neg hk, if_neg hk]

theorem putCells_at {α : Type} [Inhabited α] (enc : α → Value) (o : Nat) (d : Array α) (c : Array Value) (h : o + d.size ≤ c.size) : PutAt c o (d.toList.map enc) (putCells enc o d c) := by
  unfold putCells PutAt
  refine ⟨by simp, fun j => ?_⟩
  rw [Array.getElem?_mapIdx, List.length_map, Array.length_toList]
  by_cases hj : o ≤ j ∧ j < o + d.size
  · rw [if_pos hj, Array.getElem?_eq_getElem (by omega), Option.map_some, List.getElem?_map, Array.getElem?_toList, Array.getElem?_eq_getElem (by omega), Option.map_some]
    rw [if_pos hj, getElem!_pos d (j - o) (by omega)]
  · rw [if_neg hj]
    cases hc : c[j]? with
    | none => rfl
    | some x => rw [Option.map_some, if_neg hj]

theorem flatK_list {α : Type} [Inhabited α] (enc : α → List Value) (k : Nat) (hk : ∀ x, (enc x).length = k) (h0 : 0 < k) (d : Array α) : (flatK enc k d).toList = (d.toList.map enc).flatten := by
  refine List.ext_getElem? fun t => ?_
  have hs : ∀ x ∈ d.toList.map enc, x.length = k := fun x hx => by obtain ⟨y, _, rfl⟩ := List.mem_map.1 hx; exact hk y
  have hl : ((d.toList.map enc).flatten).length = d.size * k := by rw [flat_len hs, List.length_map, Array.length_toList]
  by_cases ht : t < d.size * k
  · have hd : t / k < d.size := (Nat.div_lt_iff_lt_mul h0).2 ht
    have hm : t % k < k := Nat.mod_lt _ h0
    have hc := cutL_flat (pre := []) (post := []) (i := t / k) (x := enc d[t / k]) hs (by rw [List.getElem?_map, Array.getElem?_toList, Array.getElem?_eq_getElem hd]; rfl)
    simp only [List.nil_append, List.append_nil, List.length_nil, Nat.zero_add] at hc
    unfold cutL at hc
    split at hc
    · simp only [Option.some.injEq] at hc
      have e1 : ((d.toList.map enc).flatten)[t]? = (enc d[t / k])[t % k]? := by
        rw [← hc, List.getElem?_take_of_lt hm, List.getElem?_drop]
        congr 1
        have := Nat.div_add_mod t k
        rw [Nat.mul_comm] at this; omega
      rw [e1, Array.getElem?_toList, Array.getElem?_eq_getElem (by simpa using ht)]
      have e2 := get_flatK enc k d t ht
      rw [getElem!_pos _ t (by simpa using ht), getElem!_pos d (t / k) hd, getElem!_pos _ (t % k) (by rw [hk]; exact hm)] at e2
      rw [e2, List.getElem?_eq_getElem (by rw [hk]; exact hm)]
    · cases hc
  · rw [List.getElem?_eq_none (by rw [Array.length_toList, size_flatK]; omega), List.getElem?_eq_none (by omega)]

theorem putCells_flat {α : Type} [Inhabited α] (enc : α → List Value) (k : Nat) (hk : ∀ x, (enc x).length = k) (h0 : 0 < k) (o : Nat) (d : Array α) (c : Array Value) (h : o + d.size * k ≤ c.size) : PutAt c o (d.toList.map enc).flatten (putCells id o (flatK enc k d) c) := by
  have := putCells_at id o (flatK enc k d) c (by rw [size_flatK]; exact h)
  rw [List.map_id, flatK_list enc k hk h0] at this
  exact this

theorem holds_of {α : Type} [Inhabited α] {enc : α → Value} {w : World} {b o : Nat} {d : Array α} {c : Array Value} {e : TypeId} {fz : Nat × Nat} {F : List Value} (hb : w.heap[b]? = some (.cells c e fz)) (hF : F = d.toList.map enc) (hc : ∀ j, j < F.length → c[o + j]? = F[j]?) (hf : ∀ j, j < F.length → ¬ (fz.1 ≤ o + j ∧ o + j < fz.2)) :
    Holds enc w b o d := by
  intro j hj
  have hl : F.length = d.size := by rw [hF, List.length_map, Array.length_toList]
  refine ⟨?_, ?_⟩
  · unfold World.cell?
    simp only [hb]
    show c[o + j]? = _
    rw [hc j (by omega), hF, List.getElem?_map, Array.getElem?_toList, Array.getElem?_eq_getElem hj, getElem!_pos d j hj]
    rfl
  · unfold World.frozen?
    simp only [hb]
    have := hf j (by omega)
    obtain ⟨lo, hi⟩ := fz
    simp only [Bool.and_eq_false_iff, decide_eq_false_iff_not] at this ⊢
    by_cases h1 : lo ≤ o + j
    · exact Or.inr fun h2 => this ⟨h1, h2⟩
    · exact Or.inl h1
end Go.Ev
