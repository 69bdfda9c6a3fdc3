/- A region that draws its order, II: the clean run's trace, and what holds behind any part of it. -/
import Derived.Test.YthedojfbofcefaaDoorEvDraw1
namespace Go.Ev
open Go
variable {P : Program} {R : Rec}

def badOf (M : List (Nat × Nat × Nat)) (p : PlanRow) : List (Nat × Nat) := (M.filter fun m => p.beside.contains m.1).map (·.2)

structure Trace (P : Program) (R : Rec) (lk sz : Nat) (ops : Array Oper) (pl : List PlanRow) (F : Nat → Fr) (S : Nat → HS) (M : Nat → List (Nat × Nat × Nat)) (V : Nat → Value) (k0 : Nat) : Prop where
  step : ∀ k o, k0 ≤ k → ops[k]? = some o → ∃ p s1, pl[k]? = some p ∧ stepV P R (if p.bar then lk else (S k).nx) ops.toList (F k) (hid (S k) (badOf (M k) p)) o = some (V k, s1) ∧
    setA sz (F k) o.dst (V k) = some (F (k + 1)) ∧ S (k + 1) = unh (S k) s1 (badOf (M k) p) ∧
    noteA P.globals.size p k (F k) o (if (S k).nx < (S (k + 1)).nx then (k, (S k).nx, (S (k + 1)).nx) :: M k else M k) = some (M (k + 1))

theorem draw_trace {lk sz : Nat} {ops : Array Oper} {pl : List PlanRow} : ∀ (os : List Oper) (ps : List PlanRow) (k : Nat) (made : List (Nat × Nat × Nat)) (fr fr' : Fr) (s s' : HS), ops.toList.drop k = os → pl.drop k = ps →
    drawA P R lk sz ops.toList os ps k made fr s = some (fr', s') →
    ∃ F S M V, F k = fr ∧ S k = s ∧ M k = made ∧ F (k + os.length) = fr' ∧ S (k + os.length) = s' ∧ Trace P R lk sz ops pl F S M V k := by
  intro os
  induction os with
  | nil =>
    intro ps k made fr fr' s s' hd hp h
    cases ps with
    | nil =>
      cases h
      refine ⟨fun _ => fr, fun _ => s, fun _ => made, fun _ => undef, rfl, rfl, rfl, rfl, rfl, ⟨fun j o hj ho => ?_⟩⟩
      have : ops.size ≤ k := by have := List.drop_eq_nil_iff.1 hd; simpa using this
      have := (Array.getElem?_eq_some_iff.1 ho).1
      omega
    | cons p ps => cases h
  | cons o os ih =>
    intro ps k made fr fr' s s' hd hp h
    cases ps with
    | nil => cases h
    | cons p ps =>
      rw [drawA_cons] at h
      obtain ⟨⟨fr1, s1⟩, h1, h2'⟩ := bind_inv h
      obtain ⟨made', hnote, h2⟩ := bind_inv h2'
      rw [stepA_eq] at h1
      obtain ⟨⟨v, s1'⟩, h3, h4⟩ := bind_inv h1
      obtain ⟨fr1', h5, h6⟩ := map_inv h4
      cases h6
      obtain ⟨F, S, M, V, e1, e2, e3, e4, e5, t⟩ := ih ps (k + 1) _ _ _ _ _ (by rw [← List.drop_drop, hd]; rfl) (by rw [← List.drop_drop, hp]; rfl) h2
      have hk : ∀ j, ¬ j ≤ k → k + 1 ≤ j := fun j h => by omega
      refine ⟨fun j => if j ≤ k then fr else F j, fun j => if j ≤ k then s else S j, fun j => if j ≤ k then made else M j, fun j => if j = k then v else V j, if_pos (Nat.le_refl _), if_pos (Nat.le_refl _), if_pos (Nat.le_refl _),
        ?_, ?_, ⟨fun j o' hj ho => ?_⟩⟩
      · simp only [List.length_cons]; rw [if_neg (by omega), ← e4]; congr 1; omega
      · simp only [List.length_cons]; rw [if_neg (by omega), ← e5]; congr 1; omega
      · by_cases hjk : j = k
        · subst hjk
          have ho' : o' = o := by
            have : (ops.toList.drop j)[0]? = some o := by rw [hd]; rfl
            have h2 : ops[j]? = some o := by simpa using this
            rw [h2] at ho; cases ho; rfl
          subst ho'
          have hpl : pl[j]? = some p := by
            have : (pl.drop j)[0]? = some p := by rw [hp]; rfl
            simpa using this
          refine ⟨p, s1', hpl, ?_⟩
          simp only [Nat.le_refl, if_true, show ¬ (j + 1 ≤ j) by omega, if_false, e1, e2, e3]
          exact ⟨h3, h5, rfl, hnote⟩
        · obtain ⟨p', s1', q1, q2, q3, q4, q5⟩ := t.step j o' (by omega) ho
          refine ⟨p', s1', q1, ?_⟩
          simp only [show ¬ j ≤ k by omega, show ¬ j + 1 ≤ k by omega, if_false, hjk]
          exact ⟨q2, q3, q4, q5⟩

/-- All that is known of a region that draws, its trace with it. -/
structure DC (P : Program) (R : Rec) (lk sz : Nat) (ops : Array Oper) (F : Nat → Fr) (S : Nat → HS) (M : Nat → List (Nat × Nat × Nat)) (V : Nat → Value) : Prop where
  tr : Trace P R lk sz ops ((List.range ops.size).map (rowA ops.toList (Region.before ops) (quietsA ops.toList (Region.before ops)))) F S M V 0
  ok : drawOk ops = true
  ab : AbR R
  b0 : Bnd (S 0)
  l0 : lk ≤ (S 0).nx
  m0 : M 0 = []

def bits (ops : Array Oper) (k j : Nat) : Bool := ((Region.before ops).getD k 0).testBit j
def quietK (ops : Array Oper) (k : Nat) : Bool := (quietsA ops.toList (Region.before ops)).contains k
def loudK (ops : Array Oper) (k : Nat) : Bool := ((ops[k]?).any fun o => loudA o.op) && !quietK ops k
def rowK (ops : Array Oper) (k : Nat) : PlanRow := rowA ops.toList (Region.before ops) (quietsA ops.toList (Region.before ops)) k
def barK (ops : Array Oper) (k : Nat) : Bool := (rowK ops k).bar
def lbar (ops : Array Oper) (k : Nat) : Bool := loudK ops k && barK ops k

section
variable {lk sz : Nat} {ops : Array Oper} {F : Nat → Fr} {S : Nat → HS} {M : Nat → List (Nat × Nat × Nat)} {V : Nat → Value}

theorem DC.edges (d : DC P R lk sz ops F S M V) {k : Nat} {o : Oper} (ho : ops[k]? = some o) : ∀ e ∈ o.after, Region.binds .any e = true → e.on < k := by
  have h := d.ok
  unfold drawOk at h
  simp only [Bool.and_eq_true, List.all_eq_true, List.mem_range] at h
  have hk := (Array.getElem?_eq_some_iff.1 ho).1
  have h1 := h.1 k hk
  rw [ho] at h1
  simp only [Option.all_some, Bool.and_eq_true, Array.all_eq_true_iff_forall_mem, Bool.or_eq_true, Bool.not_eq_true'] at h1
  intro e he hb
  have := h1.1.1 e he
  rw [hb] at this
  simpa using this

theorem DC.apart (d : DC P R lk sz ops F S M V) {i j : Nat} {x y : Oper} (hij : i < j) (hx : ops[i]? = some x) (hy : ops[j]? = some y) (hb : bits ops j i = false) : x.apart ops y = true := by
  have h := d.ok
  unfold drawOk at h
  simp only [Bool.and_eq_true, List.all_eq_true, List.mem_range, Bool.or_eq_true] at h
  have hj := (Array.getElem?_eq_some_iff.1 hy).1
  rcases h.2 j hj i hij with h1 | h1
  · unfold bits at hb; rw [hb] at h1; cases h1
  · rw [hx, hy] at h1; simpa using h1

theorem DC.bit_inv (d : DC P R lk sz ops F S M V) {k j : Nat} {o : Oper} (ho : ops[k]? = some o) (h : bits ops k j = true) : ∃ e ∈ o.after, Region.binds .any e = true ∧ e.on < k ∧ (e.on = j ∨ bits ops e.on j = true) := by
  obtain ⟨acc, h1, h2⟩ := before_at ops k o ho
  unfold bits at h
  rw [h1] at h
  obtain ⟨e, q1, q2, q3⟩ := mask_bit h
  have hlt := d.edges ho e q1 q2
  refine ⟨e, q1, q2, hlt, ?_⟩
  rcases q3 with q3 | q3
  · exact Or.inl q3
  · rw [h2 _ hlt] at q3; exact Or.inr q3

theorem DC.bit_lt (d : DC P R lk sz ops F S M V) : ∀ (k j : Nat), k < ops.size → bits ops k j = true → j < k := by
  intro k
  induction k using Nat.strongRecOn with
  | _ k ih =>
    intro j hk h
    obtain ⟨e, _, _, h3, h4⟩ := d.bit_inv (Array.getElem?_eq_getElem hk) h
    rcases h4 with h4 | h4
    · omega
    · have := ih e.on h3 j (by omega) h4; omega

theorem mem_loud {k : Nat} : k ∈ ((List.range ops.toList.length).filter fun j => ((ops.toList[j]?).any fun o => loudA o.op) && !(quietsA ops.toList (Region.before ops)).contains j) ↔ k < ops.size ∧ loudK ops k = true := by
  simp [List.mem_filter, loudK, quietK]

theorem quiet_spec {j : Nat} (h : quietK ops j = true) : ∃ hj : j < ops.size, isLoad (ops[j]'hj).op = true ∧ (ops[j]'hj).guard = none ∧
    ∀ (k : Nat) (hk : k < ops.size), k < j → bits ops j k = true ∨ loudA (ops[k]'hk).op = false ∨ isLoad (ops[k]'hk).op = true := by
  unfold quietK quietsA at h
  simp only [List.contains_iff_mem, List.mem_filter, List.mem_range, Array.length_toList] at h
  obtain ⟨hj, h⟩ := h
  refine ⟨hj, ?_⟩
  unfold quietA at h
  simp only [Bool.and_eq_true] at h
  obtain ⟨h1, _, h3⟩ := h
  rw [Array.getElem?_toList, Array.getElem?_eq_getElem hj] at h1
  simp only [Option.any_some, Bool.and_eq_true, Option.isNone_iff_eq_none] at h1
  refine ⟨h1.1, h1.2, fun k hk hkj => ?_⟩
  have := List.all_eq_true.1 h3 k (by simpa using hk)
  simp only [Bool.or_eq_true, Bool.not_eq_true'] at this
  rw [Array.getElem?_toList, Array.getElem?_eq_getElem hk] at this
  simp only [Option.all_some, Bool.or_eq_true, Bool.not_eq_true'] at this
  rcases this with (h | h) | h
  · have : Nat.blt k j = true := by simpa using hkj
    rw [this] at h; cases h
  · exact Or.inl h
  · exact Or.inr h

theorem quiet_loud {j : Nat} (h : quietK ops j = true) : loudK ops j = false := by unfold loudK; rw [h]; simp

theorem bar_spec {i j : Nat} (h : barK ops i = true) (hl : loudK ops j = true) (hj : j < ops.size) : j = i ∨ bits ops i j = true ∨ bits ops j i = true := by
  unfold barK rowK rowA at h
  simp only [List.all_eq_true] at h
  have := h j (mem_loud.2 ⟨hj, hl⟩)
  simp only [Bool.or_eq_true, beq_iff_eq] at this
  rcases this with (h1 | h1) | h1
  · exact Or.inl h1
  · exact Or.inr (Or.inl h1)
  · exact Or.inr (Or.inr h1)

def rawK (ops : Array Oper) (k : Nat) : Bool := (ops[k]?).any fun o => loudA o.op
theorem raw_loud {k : Nat} (h : loudK ops k = true) : rawK ops k = true := by
  unfold loudK at h
  simp only [Bool.and_eq_true] at h
  exact h.1

theorem beside_spec {i j : Nat} : (rowK ops i).beside.contains j = true ↔ rawK ops i = true ∧ ((j < ops.size ∧ loudK ops j = true) ∨ (barK ops i = true ∧ quietK ops j = true)) ∧ j < i ∧ bits ops i j = false := by
  have hb : barK ops i = (rowK ops i).bar := rfl
  have hr : rawK ops i = (ops.toList[i]?).any (fun o => loudA o.op) := by unfold rawK; rw [Array.getElem?_toList]
  unfold rowK rowA at hb ⊢
  simp only at hb ⊢
  rw [← hb, ← hr]
  cases rawK ops i with
  | false => simp
  | true =>
    simp only [cond_true, List.contains_iff_mem, true_and]
    rw [List.mem_filter, List.mem_append, mem_loud]
    simp only [Bool.and_eq_true, Bool.not_eq_true', bits]
    have hq : j ∈ (bif barK ops i then quietsA ops.toList (Region.before ops) else []) ↔ barK ops i = true ∧ quietK ops j = true := by
      unfold quietK
      cases barK ops i <;> simp
    rw [hq]
    constructor
    · rintro ⟨h1, h3, h4⟩; exact ⟨h1, by simpa using h3, h4⟩
    · rintro ⟨h1, h3, h4⟩; exact ⟨h1, by simpa using h3, h4⟩

/-- One step of the trace. -/
theorem DC.at (d : DC P R lk sz ops F S M V) {k : Nat} {o : Oper} (ho : ops[k]? = some o) : ∃ s1, stepV P R (if barK ops k then lk else (S k).nx) ops.toList (F k) (hid (S k) (badOf (M k) (rowK ops k))) o = some (V k, s1) ∧
    setA sz (F k) o.dst (V k) = some (F (k + 1)) ∧ S (k + 1) = unh (S k) s1 (badOf (M k) (rowK ops k)) ∧
    noteA P.globals.size (rowK ops k) k (F k) o (if (S k).nx < (S (k + 1)).nx then (k, (S k).nx, (S (k + 1)).nx) :: M k else M k) = some (M (k + 1)) := by
  obtain ⟨p, s1, h1, h2⟩ := d.tr.step k o (Nat.zero_le _) ho
  have hk := (Array.getElem?_eq_some_iff.1 ho).1
  have : p = rowK ops k := by
    rw [List.getElem?_map, List.getElem?_range hk] at h1
    simp only [Option.map_some, Option.some.injEq] at h1
    exact h1.symm
  subst this
  exact ⟨s1, h2⟩

theorem rowK_quiet {k : Nat} : (rowK ops k).quiet = bif quietK ops k then some (quietsA ops.toList (Region.before ops)) else none := rfl

/-- A note of the trace: blocks of its own, or the block that a quiet load reads. -/
structure NoteOK (ops : Array Oper) (P : Program) (F : Nat → Fr) (S : Nat → HS) (k : Nat) (m : Nat × Nat × Nat) : Prop where
  lt : m.1 < k
  new : quietK ops m.1 = false → m.2.1 = (S m.1).nx ∧ m.2.2 = (S (m.1 + 1)).nx ∧ (S 0).nx ≤ m.2.1 ∧ m.2.2 ≤ (S k).nx
  old : quietK ops m.1 = true → m.2.2 = m.2.1 + 1 ∧ m.2.1 < (S 0).nx ∧ ∃ o, ops[m.1]? = some o ∧ loadBlk P.globals.size (F m.1) o = some m.2.1

theorem DC.main (d : DC P R lk sz ops F S M V) : ∀ k, k ≤ ops.size → (∀ j, j < k → (S j).nx ≤ (S (j + 1)).nx) ∧ (S 0).nx ≤ (S k).nx ∧ Bnd (S k) ∧ (∀ m ∈ M k, NoteOK ops P F S k m) ∧
    (∀ j, j < k → (S j).nx < (S (j + 1)).nx → (j, (S j).nx, (S (j + 1)).nx) ∈ M k) ∧ Ab lk (S 0) (S k) ∧ (∀ j, j < k → quietK ops j = true → ∃ b, (j, b, b + 1) ∈ M k) := by
  intro k
  induction k with
  | zero => intro _; exact ⟨fun j h => by omega, Nat.le_refl _, d.b0, (fun m hm => by rw [d.m0] at hm; cases hm), (fun j h => by omega), Ab.refl _ _, fun j h => by omega⟩
  | succ k ih =>
    intro hk
    obtain ⟨i1, i2, i3, i4, i5, i6, i7⟩ := ih (by omega)
    have hko : k < ops.size := by omega
    have hoi : ops[k]? = some (ops[k]'hko) := Array.getElem?_eq_getElem hko
    obtain ⟨s1, h1, h2, h3, h4⟩ := d.at hoi
    have hst : stepA P R (if barK ops k then lk else (S k).nx) sz ops.toList (F k) (hid (S k) (badOf (M k) (rowK ops k))) (ops[k]'(by omega)) = some (F (k + 1), s1) := by
      rw [stepA_eq, h1]; simp only [Option.bind_some]; rw [h2]; rfl
    have ab := draw_ab (lk := lk) d.ab (by cases barK ops k <;> simp) hst (Nat.le_trans d.l0 i2)
    rw [← h3] at ab
    have an := ab.nx
    have up : ∀ m, NoteOK ops P F S k m → NoteOK ops P F S (k + 1) m := fun m hm => ⟨by have := hm.lt; omega, fun h => by obtain ⟨a, b, c, e⟩ := hm.new h; exact ⟨a, b, c, by omega⟩, hm.old⟩
    -- the notes ahead of a quiet load's
    have mid : quietK ops k = false → ∀ m ∈ (if (S k).nx < (S (k + 1)).nx then (k, (S k).nx, (S (k + 1)).nx) :: M k else M k), NoteOK ops P F S (k + 1) m := fun hq m hm => by
      split at hm
      · rcases List.mem_cons.1 hm with rfl | hm
        · exact ⟨Nat.lt_succ_self _, fun _ => ⟨rfl, rfl, i2, Nat.le_refl _⟩, fun h => by simp only at h; rw [hq] at h; cases h⟩
        · exact up m (i4 m hm)
      · exact up m (i4 m hm)
    rw [show noteA P.globals.size (rowK ops k) k (F k) (ops[k]'hko) = fun made => match (rowK ops k).quiet with
      | none => some made
      | some qs => (loadBlk P.globals.size (F k) (ops[k]'hko)).bind fun b => if made.all (fun m => qs.contains m.1 || !(Nat.ble m.2.1 b && Nat.blt b m.2.2)) = true then some ((k, b, b + 1) :: made) else none from rfl, rowK_quiet] at h4
    cases hq : quietK ops k with
    | false =>
      rw [hq] at h4
      simp only [cond_false, Option.some.injEq] at h4
      refine ⟨fun j hj => ?_, Nat.le_trans i2 ab.nx, ab.bnd i3, fun m hm => ?_, fun j hj hlt => ?_, i6.trans ab, fun j hj hqj => ?_⟩
      · by_cases hjk : j = k
        · subst hjk; exact ab.nx
        · exact i1 j (by omega)
      · rw [← h4] at hm; exact mid hq m hm
      · rw [← h4]
        by_cases hjk : j = k
        · subst hjk; rw [if_pos hlt]; exact List.mem_cons_self
        · have := i5 j (by omega) hlt
          split
          · exact List.mem_cons_of_mem _ this
          · exact this
      · have hjk : j ≠ k := fun e => by rw [e, hq] at hqj; cases hqj
        obtain ⟨b, hb⟩ := i7 j (by omega) hqj
        refine ⟨b, ?_⟩
        rw [← h4]
        split
        · exact List.mem_cons_of_mem _ hb
        · exact hb
    | true =>
      obtain ⟨_, ql, qg, _⟩ := quiet_spec hq
      obtain ⟨e1, b0, hb0, hne, _⟩ := stepV_quiet ql qg h1
      have hnx : (S (k + 1)).nx = (S k).nx := by rw [h3, unh_nx, e1, hid_nx]
      rw [hq] at h4
      simp only [cond_true, hb0, Option.bind_some] at h4
      rw [if_neg (show ¬ (S k).nx < (S (k + 1)).nx by omega)] at h4
      split at h4
      · rename_i hchk
        simp only [Option.some.injEq] at h4
        have hbk : b0 < (S k).nx := by
          rw [hid_get] at hne
          split at hne
          · exact absurd rfl hne
          · exact i3 b0 hne
        have hb00 : b0 < (S 0).nx := by
          rcases Nat.lt_or_ge b0 (S 0).nx with h | h
          · exact h
          · exfalso
            -- b0 is a block that some operation of the region has made
            have : ∃ j, j < k ∧ (S j).nx ≤ b0 ∧ b0 < (S (j + 1)).nx := by
              clear h4 hchk i4 i5 i7 up mid hb0 hne h1 hst ab an e1 hnx h2 h3 i6
              have key : ∀ n, n ≤ k → b0 < (S n).nx → ∃ j, j < n ∧ (S j).nx ≤ b0 ∧ b0 < (S (j + 1)).nx := by
                intro n
                induction n with
                | zero => intro _ h2; omega
                | succ n ihn =>
                  intro hn h2
                  by_cases h3 : b0 < (S n).nx
                  · obtain ⟨j, q1, q2, q3⟩ := ihn (by omega) h3; exact ⟨j, by omega, q2, q3⟩
                  · exact ⟨n, Nat.lt_succ_self _, by omega, h2⟩
              exact key k (Nat.le_refl _) hbk
            obtain ⟨j, q1, q2, q3⟩ := this
            have hm := i5 j q1 (by omega)
            have := List.all_eq_true.1 hchk _ hm
            simp only [Bool.or_eq_true, Bool.not_eq_true', Bool.and_eq_false_iff] at this
            rcases this with h5 | h5 | h5
            · -- a quiet load makes nothing
              have hqj : quietK ops j = true := h5
              have hjs : j < ops.size := by omega
              obtain ⟨_, ql2, qg2, _⟩ := quiet_spec hqj
              obtain ⟨s3, r1, _, r3, _⟩ := d.at (Array.getElem?_eq_getElem hjs)
              have e3 := (stepV_quiet ql2 qg2 r1).1
              have : (S (j + 1)).nx = (S j).nx := by rw [r3, unh_nx, e3, hid_nx]
              omega
            · have : Nat.ble (S j).nx b0 = true := by simpa using q2
              rw [this] at h5; cases h5
            · have : Nat.blt b0 (S (j + 1)).nx = true := by simpa using q3
              rw [this] at h5; cases h5
        refine ⟨fun j hj => ?_, Nat.le_trans i2 ab.nx, ab.bnd i3, fun m hm => ?_, fun j hj hlt => ?_, i6.trans ab, fun j hj hqj => ?_⟩
        · by_cases hjk : j = k
          · subst hjk; exact ab.nx
          · exact i1 j (by omega)
        · rw [← h4] at hm
          rcases List.mem_cons.1 hm with rfl | hm
          · exact ⟨Nat.lt_succ_self _, fun h => (by simp only at h; rw [hq] at h; cases h), fun _ => ⟨rfl, hb00, _, hoi, hb0⟩⟩
          · exact up m (i4 m hm)
        · rw [← h4]
          have hjk : j ≠ k := fun e => by subst e; omega
          exact List.mem_cons_of_mem _ (i5 j (by omega) hlt)
        · rw [← h4]
          by_cases hjk : j = k
          · subst hjk; exact ⟨b0, List.mem_cons_self⟩
          · obtain ⟨b, hb⟩ := i7 j (by omega) hqj
            exact ⟨b, List.mem_cons_of_mem _ hb⟩
      · cases h4

theorem DC.mono (d : DC P R lk sz ops F S M V) {j k : Nat} (h : j ≤ k) (hk : k ≤ ops.size) : (S j).nx ≤ (S k).nx := by
  induction k with
  | zero => have : j = 0 := by omega
            subst this; exact Nat.le_refl _
  | succ k ih =>
    by_cases hj : j = k + 1
    · subst hj; exact Nat.le_refl _
    · exact Nat.le_trans (ih (by omega) (by omega)) ((d.main (k + 1) hk).1 k (Nat.lt_succ_self _))

theorem DC.bnd (d : DC P R lk sz ops F S M V) {k : Nat} (hk : k ≤ ops.size) : Bnd (S k) := (d.main k hk).2.2.1

theorem DC.inBad (d : DC P R lk sz ops F S M V) {i id : Nat} (hi : i < ops.size) (h : inBad (badOf (M i) (rowK ops i)) id = true) :
    (∃ k, k < i ∧ loudK ops k = true ∧ bits ops i k = false ∧ (S k).nx ≤ id ∧ id < (S (k + 1)).nx) ∨ (barK ops i = true ∧ id < (S 0).nx) := by
  obtain ⟨_, _, _, i4, i5, _⟩ := d.main i (by omega)
  unfold Go.Ev.inBad badOf at h
  simp only [List.any_eq_true, List.mem_map, List.mem_filter, decide_eq_true_eq] at h
  obtain ⟨x, ⟨m, ⟨h1, h2⟩, rfl⟩, h3, h4⟩ := h
  have a := i4 m h1
  obtain ⟨_, b1, b3, b4⟩ := beside_spec.1 h2
  cases hq : quietK ops m.1 with
  | false =>
    obtain ⟨a2, a3, _, _⟩ := a.new hq
    rcases b1 with b1 | b1
    · exact Or.inl ⟨m.1, b3, b1.2, b4, by omega, by omega⟩
    · rw [hq] at b1; cases b1.2
  | true =>
    obtain ⟨a2, a3, _⟩ := a.old hq
    rcases b1 with b1 | b1
    · rw [quiet_loud hq] at b1; cases b1.2
    · exact Or.inr ⟨b1.1, by omega⟩

theorem DC.inBadNew (d : DC P R lk sz ops F S M V) {i id : Nat} (hi : i < ops.size) (hlo : rawK ops i = true) (h : ∃ k, k < i ∧ loudK ops k = true ∧ bits ops i k = false ∧ (S k).nx ≤ id ∧ id < (S (k + 1)).nx) : Go.Ev.inBad (badOf (M i) (rowK ops i)) id = true := by
  obtain ⟨_, _, _, i4, i5, _⟩ := d.main i (by omega)
  unfold Go.Ev.inBad badOf
  simp only [List.any_eq_true, List.mem_map, List.mem_filter, decide_eq_true_eq]
  obtain ⟨k, h1, h2, h3, h4, h5⟩ := h
  exact ⟨_, ⟨_, ⟨i5 k h1 (by omega), beside_spec.2 ⟨hlo, Or.inl ⟨by omega, h2⟩, h1, h3⟩⟩, rfl⟩, h4, h5⟩

theorem DC.inBadOld (d : DC P R lk sz ops F S M V) {i j : Nat} (hi : i < ops.size) (hlo : rawK ops i = true) (hb : barK ops i = true) (hq : quietK ops j = true) (hji : j < i) (hbit : bits ops i j = false) {o : Oper} (ho : ops[j]? = some o) {b : Nat}
    (hl : loadBlk P.globals.size (F j) o = some b) : Go.Ev.inBad (badOf (M i) (rowK ops i)) b = true := by
  obtain ⟨_, _, _, i4, i5, _, i7⟩ := d.main i (by omega)
  obtain ⟨b', hm⟩ := i7 j hji hq
  obtain ⟨_, _, o', ho', hl'⟩ := (i4 _ hm).old hq
  simp only at ho' hl'
  rw [ho] at ho'; cases ho'
  rw [hl] at hl'; cases hl'
  unfold Go.Ev.inBad badOf
  simp only [List.any_eq_true, List.mem_map, List.mem_filter, decide_eq_true_eq]
  exact ⟨_, ⟨_, ⟨hm, beside_spec.2 ⟨hlo, Or.inr ⟨hb, hq⟩, hji, hbit⟩⟩, rfl⟩, Nat.le_refl _, Nat.lt_succ_self _⟩

/-- A load leaves all as it is. -/
theorem DC.loads (d : DC P R lk sz ops F S M V) {k : Nat} (hk : k < ops.size) (hl : isLoad (ops[k]'hk).op = true) : (S (k + 1)).nx = (S k).nx ∧ (∀ id, (S (k + 1)).hp.get id = (S k).hp.get id) := by
  obtain ⟨s1, h1, h2, h3, h4⟩ := d.at (Array.getElem?_eq_getElem hk)
  have e := stepV_load hl h1
  subst e
  refine ⟨by rw [h3, unh_nx, hid_nx], fun id => ?_⟩
  rw [h3, unh_get]
  split
  · rfl
  · rename_i hb; rw [hid_get, if_neg hb]

theorem DC.pureL {k : Nat} (hk : k < ops.size) (hl : loudK ops k = false) (hq : quietK ops k = false) : loudA (ops[k]'hk).op = false := by
  unfold loudK at hl
  rw [hq, Array.getElem?_eq_getElem hk] at hl
  simpa using hl

/-- What is not loud leaves all as it is. -/
theorem DC.quiet (d : DC P R lk sz ops F S M V) {k : Nat} (hk : k < ops.size) (hl : loudK ops k = false) : (S (k + 1)).nx = (S k).nx ∧ (∀ id, (S (k + 1)).hp.get id = (S k).hp.get id) := by
  cases hq : quietK ops k with
  | true => exact d.loads hk (quiet_spec hq).2.1
  | false =>
    obtain ⟨s1, h1, h2, h3, h4⟩ := d.at (Array.getElem?_eq_getElem hk)
    obtain ⟨e, hp⟩ := stepV_pure (DC.pureL hk hl hq) h1
    subst e
    refine ⟨by rw [h3, unh_nx, hid_nx], fun id => ?_⟩
    rw [h3, unh_get]
    split
    · rfl
    · rename_i hb; rw [hid_get, if_neg hb]

theorem DC.pureV (d : DC P R lk sz ops F S M V) {k : Nat} (hk : k < ops.size) (hl : loudK ops k = false) (hq : quietK ops k = false) (lk2 : Nat) (s2 : HS) : stepV P R lk2 ops.toList (F k) s2 (ops[k]'hk) = some (V k, s2) := by
  obtain ⟨s1, h1, _⟩ := d.at (Array.getElem?_eq_getElem hk)
  exact (stepV_pure (DC.pureL hk hl hq) h1).2 lk2 s2

/-- A quiet load: its block, and what it needs. -/
theorem DC.quietV (d : DC P R lk sz ops F S M V) {k : Nat} (hk : k < ops.size) (hq : quietK ops k = true) : ∃ b, loadBlk P.globals.size (F k) (ops[k]'hk) = some b ∧ b < (S 0).nx ∧ (S k).hp.get b ≠ none ∧
    ∀ lk2 (s2 : HS), s2.hp.get b = (S k).hp.get b → stepV P R lk2 ops.toList (F k) s2 (ops[k]'hk) = some (V k, s2) := by
  obtain ⟨_, ql, qg, _⟩ := quiet_spec hq
  have hoi : ops[k]? = some (ops[k]'hk) := Array.getElem?_eq_getElem hk
  obtain ⟨s1, h1, _⟩ := d.at hoi
  obtain ⟨_, b, hb, hne, hv⟩ := stepV_quiet ql qg h1
  have heq : (hid (S k) (badOf (M k) (rowK ops k))).hp.get b = (S k).hp.get b := by
    rw [hid_get] at hne ⊢
    split at hne
    · exact absurd rfl hne
    · rename_i h; rw [if_neg h]
  obtain ⟨_, _, _, i4, _, _, i7⟩ := d.main (k + 1) hk
  obtain ⟨b', hm⟩ := i7 k (Nat.lt_succ_self _) hq
  obtain ⟨_, h0, o', ho', hl'⟩ := (i4 _ hm).old hq
  simp only at ho' hl' h0
  rw [hoi] at ho'; cases ho'
  rw [hb] at hl'; cases hl'
  exact ⟨b, hb, h0, by rw [← heq]; exact hne, fun lk2 s2 he => hv lk2 s2 (by rw [heq]; exact he)⟩

theorem DC.lock (d : DC P R lk sz ops F S M V) {k : Nat} (hk : k < ops.size) (hl : lbar ops k = false) {id : Nat} (hid' : id < (S k).nx) : (S (k + 1)).hp.get id = (S k).hp.get id := by
  cases hlo : loudK ops k with
  | false => exact (d.quiet hk hlo).2 id
  | true =>
    have hbar : barK ops k = false := by unfold lbar at hl; rw [hlo] at hl; simpa using hl
    obtain ⟨s1, h1, h2, h3, h4⟩ := d.at (Array.getElem?_eq_getElem hk)
    rw [hbar] at h1
    simp only [Bool.false_eq_true, if_false] at h1
    have hst : stepA P R (S k).nx sz ops.toList (F k) (hid (S k) (badOf (M k) (rowK ops k))) (ops[k]'hk) = some (F (k + 1), s1) := by
      rw [stepA_eq, h1]; simp only [Option.bind_some]; rw [h2]; rfl
    have ab := stepA_ab d.ab (by rw [hid_nx]; exact Nat.le_refl _) hst
    rw [h3, unh_get]
    split
    · rfl
    · rename_i hb
      rw [ab.lock (by rw [hid_nx]; exact Nat.le_refl _) id hid', hid_get, if_neg hb]

theorem DC.lockR (d : DC P R lk sz ops F S M V) {k m : Nat} (hkm : k ≤ m) (hm : m ≤ ops.size) (hl : ∀ j, k ≤ j → j < m → lbar ops j = false) {id : Nat} (hid' : id < (S k).nx) : (S m).hp.get id = (S k).hp.get id := by
  induction m with
  | zero => have : k = 0 := by omega
            subst this; rfl
  | succ m ih =>
    by_cases hk : k = m + 1
    · subst hk; rfl
    · have := d.mono (j := k) (k := m) (by omega) (by omega)
      rw [d.lock (by omega) (hl m (by omega) (Nat.lt_succ_self _)) (by omega), ih (by omega) (by omega) (fun j h1 h2 => hl j h1 (by omega))]
end

/-! ### Whose a name is -/
def own (N : Nat → Nat) (id : Nat) : Nat → Nat
  | 0 => 0
  | m + 1 => if N m ≤ id then m else own N id m

theorem own_spec {N : Nat → Nat} {id : Nat} : ∀ n, N 0 ≤ id → id < N n → own N id n < n ∧ N (own N id n) ≤ id ∧ id < N (own N id n + 1) := by
  intro n
  induction n with
  | zero => intro h1 h2; omega
  | succ n ih =>
    intro h1 h2
    simp only [own]
    split
    · rename_i h; exact ⟨Nat.lt_succ_self _, h, h2⟩
    · rename_i h
      have := ih h1 (by omega)
      exact ⟨by omega, this.2⟩

theorem own_uniq {N : Nat → Nat} {id n k : Nat} (hm : ∀ i j, i ≤ j → j ≤ n → N i ≤ N j) (hk : k < n) (h1 : N k ≤ id) (h2 : id < N (k + 1)) : own N id n = k := by
  have h0 : N 0 ≤ id := Nat.le_trans (hm 0 k (by omega) (by omega)) h1
  have hn : id < N n := Nat.lt_of_lt_of_le h2 (hm _ _ (by omega) (Nat.le_refl _))
  obtain ⟨a1, a2, a3⟩ := own_spec n h0 hn
  rcases Nat.lt_trichotomy (own N id n) k with h | h | h
  · have := hm (own N id n + 1) k (by omega) (by omega); omega
  · exact h
  · have := hm (k + 1) (own N id n) (by omega) (by omega); omega

/-- One behind the last of the carried-out operations that may write. -/
def bet (ops : Array Oper) (E : Nat → Bool) : Nat → Nat
  | 0 => 0
  | k + 1 => if E k && lbar ops k then k + 1 else bet ops E k

theorem bet_spec (ops : Array Oper) (E : Nat → Bool) : ∀ n, bet ops E n ≤ n ∧ (bet ops E n = 0 ∨ (E (bet ops E n - 1) = true ∧ lbar ops (bet ops E n - 1) = true)) ∧ ∀ k, bet ops E n ≤ k → k < n → (E k && lbar ops k) = false := by
  intro n
  induction n with
  | zero => exact ⟨Nat.le_refl _, Or.inl rfl, fun k _ h => by omega⟩
  | succ n ih =>
    obtain ⟨h1, h2, h3⟩ := ih
    simp only [bet]
    split
    · rename_i h
      simp only [Bool.and_eq_true] at h
      exact ⟨Nat.le_refl _, Or.inr (by simpa using h), fun k a b => by omega⟩
    · rename_i h
      refine ⟨by omega, h2, fun k a b => ?_⟩
      by_cases hk : k = n
      · subst hk; simpa using h
      · exact h3 k a (by omega)

end Go.Ev
