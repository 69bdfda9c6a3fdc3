/- Single steps through a region that draws its order. -/
import Derived.Test.YthedojfbofcefaaDoorEvVw
namespace Go.Ev
open Go
variable {P : Program} {lk sz : Nat} {all os : List Oper} {o : Oper} {fr fr' : Fr} {s s' : HS} {K : Fr → HS → Prop} {p : PlanRow} {ps : List PlanRow} {k : Nat} {Z : List (Nat × Nat × Nat)}

/-- Z: the blocks that operations have made, and that quiet loads read. -/
def wpD (P : Program) (lk sz : Nat) (all os : List Oper) (ps : List PlanRow) (k : Nat) (Z : List (Nat × Nat × Nat)) (fr : Fr) (s : HS) (K : Fr → HS → Prop) : Prop :=
  wpDraw P lk sz all os ps k (Z.filter fun m => Nat.blt m.2.1 m.2.2) fr s K

theorem c_draw {id : Nat} {ops : Array Oper} {C : Sig → Fr → HS → Prop} (pl : List PlanRow) (h : planA ops = some pl) (hk : wpD P lk sz ops.toList ops.toList pl 0 [] fr s (C .normal)) : wpC P lk sz (.region id ops true) fr s C := by
  show opt (planA ops) _
  exact opt_of h hk

theorem d_end (h : K fr s) : wpD P lk sz all [] [] k Z fr s K := h

/-- Nothing is hidden from an operation, and it is no quiet load. -/
def freeD (p : PlanRow) (Z : List (Nat × Nat × Nat)) : Bool := Z.all (fun m => !p.beside.contains m.1) && p.quiet.isNone

theorem freeD_inv (h : freeD p Z = true) : Z.all (fun m => !p.beside.contains m.1) = true ∧ p.quiet = none := by
  unfold freeD at h
  simpa only [Bool.and_eq_true, Option.isNone_iff_eq_none] using h

theorem note_none {fr : Fr} {o : Oper} {made : List (Nat × Nat × Nat)} (h : p.quiet = none) : noteA P.globals.size p k fr o made = some made := by unfold noteA; rw [h]

theorem bad_nil (hz : Z.all (fun m => !p.beside.contains m.1) = true) : ((Z.filter fun m => Nat.blt m.2.1 m.2.2).filter fun m => p.beside.contains m.1).map (·.2) = [] := by
  rw [List.map_eq_nil_iff, List.filter_eq_nil_iff]
  intro m h
  have := List.all_eq_true.1 hz m (List.mem_filter.1 h).1
  simpa using this

theorem made_more {a b : Nat} : (if a < b then (k, a, b) :: Z.filter (fun m => Nat.blt m.2.1 m.2.2) else Z.filter fun m => Nat.blt m.2.1 m.2.2) = ((k, a, b) :: Z).filter fun m => Nat.blt m.2.1 m.2.2 := by
  by_cases h : a < b
  · rw [if_pos h, List.filter_cons_of_pos (by simpa using h)]
  · rw [if_neg h, List.filter_cons_of_neg (by simpa using h)]

theorem bar_if {p : PlanRow} {a b : Nat} : (if p.bar = true then a else b) = (bif p.bar then a else b) := by cases p.bar <;> rfl

theorem d_step {Q : Fr → HS → Prop} (hb : freeD p Z = true) (h : wpStep P (bif p.bar then lk else s.nx) sz all fr s o Q)
    (hk : ∀ f t, Q f t → wpD P lk sz all os ps (k + 1) ((k, s.nx, t.nx) :: Z) f t K) : wpD P lk sz all (o :: os) (p :: ps) k Z fr s K := by
  obtain ⟨b2, b4⟩ := freeD_inv hb
  have e := bad_nil (p := p) b2
  show wpStep P (if p.bar then lk else s.nx) sz all fr (hid s _) o _
  rw [e, bar_if]
  refine wpStep_mono h fun f t hq => opt_of (note_none b4) ?_
  rw [made_more]
  exact hk f t hq

theorem wpStep_do {v : Value} {Q : Fr → HS → Prop} (hw : wantedA all fr o = some true) (ho : opA P (ev P 0) lk fr s o = some (v, s')) (hd : setA sz fr o.dst v = some fr') (k : Q fr' s') : wpStep P lk sz all fr s o Q := by
  have : wpOps P lk sz all [o] fr s Q := ops_doW hw ho hd k
  exact this

/-- An operation that makes no block. -/
theorem d_sameW {v : Value} (hb : freeD p Z = true) (hw : wantedA all fr o = some true) (ho : opA P (ev P 0) (bif p.bar then lk else s.nx) fr s o = some (v, s')) (hn : s'.nx = s.nx)
    (hd : setA sz fr o.dst v = some fr') (hk : wpD P lk sz all os ps (k + 1) Z fr' s' K) : wpD P lk sz all (o :: os) (p :: ps) k Z fr s K := by
  obtain ⟨b2, b4⟩ := freeD_inv hb
  have e := bad_nil (p := p) b2
  show wpStep P (if p.bar then lk else s.nx) sz all fr (hid s _) o _
  rw [e, bar_if]
  refine wpStep_do (s' := s') (fr' := fr') hw ho hd ?_
  rw [if_neg (by omega)]
  exact opt_of (note_none b4) hk

theorem d_doW {v : Value} (hb : freeD p Z = true) (hw : wantedA all fr o = some true) (ho : opA P (ev P 0) (bif p.bar then lk else s.nx) fr s o = some (v, s'))
    (hd : setA sz fr o.dst v = some fr') (hk : wpD P lk sz all os ps (k + 1) ((k, s.nx, s'.nx) :: Z) fr' s' K) : wpD P lk sz all (o :: os) (p :: ps) k Z fr s K :=
  d_step hb (wpStep_do (Q := fun f t => f = fr' ∧ t = s') hw ho hd ⟨rfl, rfl⟩) fun f t h => by obtain ⟨rfl, rfl⟩ := h; exact hk

theorem d_sameG {v : Value} {j d : Nat} {want b : Bool} (hb : freeD p Z = true) (hg : o.guard = some (j, want)) (hd : (all[j]?).bind (·.dst) = some d) (hv : fr.get d = some (.bool b)) (hbw : (b == want) = true)
    (ho : opA P (ev P 0) (bif p.bar then lk else s.nx) fr s o = some (v, s')) (hn : s'.nx = s.nx)
    (hs : setA sz fr o.dst v = some fr') (hk : wpD P lk sz all os ps (k + 1) Z fr' s' K) : wpD P lk sz all (o :: os) (p :: ps) k Z fr s K :=
  d_sameW hb (by rw [wanted_guard hg hd hv, hbw]) ho hn hs hk

theorem d_skipG {j d : Nat} {want b : Bool} (hb : p.quiet.isNone = true) (hg : o.guard = some (j, want)) (hd : (all[j]?).bind (·.dst) = some d) (hv : fr.get d = some (.bool b)) (hbw : (b == want) = false)
    (hs : setA sz fr o.dst undef = some fr') (hk : ∀ s2 : HS, s2.nx = s.nx → (∀ id, s2.hp.get id = s.hp.get id) → wpD P lk sz all os ps (k + 1) Z fr' s2 K) : wpD P lk sz all (o :: os) (p :: ps) k Z fr s K := by
  have b4 : p.quiet = none := by simpa using hb
  show wpStep P (if p.bar then lk else s.nx) sz all fr (hid s _) o _
  refine opt_of (a := false) (by rw [wanted_guard hg hd hv, hbw]) (opt_of hs ?_)
  show opt (noteA P.globals.size p k fr o (if s.nx < (hid s _).nx then _ else _)) _
  rw [hid_nx, if_neg (by omega)]
  refine opt_of (note_none b4) (hk _ (by rw [unh_nx, hid_nx]) fun id => ?_)
  rw [unh_get]
  split
  · rfl
  · rename_i h; rw [hid_get, if_neg h]

theorem d_skip {j d : Nat} {want b : Bool} (hb : freeD p Z = true) (hg : o.guard = some (j, want)) (hd : (all[j]?).bind (·.dst) = some d) (hv : fr.get d = some (.bool b)) (hbw : (b == want) = false)
    (hs : setA sz fr o.dst undef = some fr') (hk : wpD P lk sz all os ps (k + 1) Z fr' s K) : wpD P lk sz all (o :: os) (p :: ps) k Z fr s K := by
  obtain ⟨b2, b4⟩ := freeD_inv hb
  have e := bad_nil (p := p) b2
  show wpStep P (if p.bar then lk else s.nx) sz all fr (hid s _) o _
  rw [e]
  refine opt_of (a := false) (by rw [wanted_guard hg hd hv, hbw]) (opt_of hs ?_)
  show opt (noteA P.globals.size p k fr o (if s.nx < s.nx then _ else _)) _
  rw [if_neg (by omega)]
  exact opt_of (note_none b4) hk

theorem d_callW {dst : Option Tmp} {f : Operand} {args : Array Operand} {ats : Array TypeId} {ty : TypeId} {pos : String} {after : Array Edge} {guard : Option (Nat × Bool)} {as : List Value} {fv : Value}
    (hb : freeD p Z = true) (hw : wantedA all fr ⟨dst, .call ⟨.value f, args, ats⟩, ty, pos, after, guard⟩ = some true) (ha : omap (opdA P.globals.size fr) args.toList = some as)
    (hf : opdA P.globals.size fr f = some fv)
    (hc : wpCall P (bif p.bar then lk else s.nx) fv as s fun v s' => opt (setA sz fr dst v) fun fr' => wpD P lk sz all os ps (k + 1) ((k, s.nx, s'.nx) :: Z) fr' s' K) :
    wpD P lk sz all (⟨dst, .call ⟨.value f, args, ats⟩, ty, pos, after, guard⟩ :: os) (p :: ps) k Z fr s K := by
  refine d_step (Q := fun f t => wpD P lk sz all os ps (k + 1) ((k, s.nx, t.nx) :: Z) f t K) hb ?_ fun f t h => h
  refine opt_of hw ?_
  simp only
  unfold wpOp
  exact opt_of ha (opt_of hf hc)

theorem call_fn {g : FuncId} {args : List Value} {Q : Value → HS → Prop} (h : wpF P lk g args s Q) : wpCall P lk (.func (.func g) #[] #[]) args s Q := by
  show wpF P lk g (#[].toList ++ args ++ #[].toList) s Q
  simpa using h
theorem call_clo {g : FuncId} {args : List Value} {ca : Array Value} {Q : Value → HS → Prop} (h : wpF P lk g (args ++ ca.toList) s Q) : wpCall P lk (.func (.func g) #[] ca) args s Q := by
  show wpF P lk g (#[].toList ++ args ++ ca.toList) s Q
  simpa using h
theorem c_true {x : Operand} {a b : Code} {C : Sig → Fr → HS → Prop} (hx : opdA P.globals.size fr x = some (.bool true)) (h : wpC P lk sz a fr s C) : wpC P lk sz (.cond x a b) fr s C := opt_of hx h
theorem c_false {x : Operand} {a b : Code} {C : Sig → Fr → HS → Prop} (hx : opdA P.globals.size fr x = some (.bool false)) (h : wpC P lk sz b fr s C) : wpC P lk sz (.cond x a b) fr s C := opt_of hx h
theorem ret_i {rs : List ResultVar} {Q : Value → HS → Prop} {vs : List Value} (h : omap (resA P fr s.hp) rs = some vs) (k : Q (packR vs) s) : retK P rs Q .ret fr s := opt_of h k
theorem ret_n {rs : List ResultVar} {Q : Value → HS → Prop} {vs : List Value} (h : omap (resA P fr s.hp) rs = some vs) (k : Q (packR vs) s) : retK P rs Q .normal fr s := opt_of h k

theorem d_callSW {dst : Option Tmp} {f : Operand} {args : Array Operand} {ats : Array TypeId} {ty : TypeId} {pos : String} {after : Array Edge} {guard : Option (Nat × Bool)} {as : List Value} {fv : Value}
    (hb : freeD p Z = true) (hw : wantedA all fr ⟨dst, .call ⟨.value f, args, ats⟩, ty, pos, after, guard⟩ = some true) (ha : omap (opdA P.globals.size fr) args.toList = some as)
    (hf : opdA P.globals.size fr f = some fv)
    (hc : wpCall P (bif p.bar then lk else s.nx) fv as s fun v s' => s'.nx = s.nx ∧ opt (setA sz fr dst v) fun fr' => wpD P lk sz all os ps (k + 1) Z fr' s' K) :
    wpD P lk sz all (⟨dst, .call ⟨.value f, args, ats⟩, ty, pos, after, guard⟩ :: os) (p :: ps) k Z fr s K := by
  obtain ⟨b2, b4⟩ := freeD_inv hb
  have e := bad_nil (p := p) b2
  show wpStep P (if p.bar then lk else s.nx) sz all fr (hid s _) _ _
  rw [e, bar_if]
  refine wpStep_mono (K := fun f t => t.nx = s.nx ∧ wpD P lk sz all os ps (k + 1) Z f t K) ?_ fun f t hq => ?_
  · refine opt_of hw ?_
    simp only
    unfold wpOp
    refine opt_of ha (opt_of hf ?_)
    exact wpCall_mono hc fun v s' h => opt_mono h.2 fun f h2 => ⟨h.1, h2⟩
  · rw [if_neg (by have := hq.1; omega)]
    exact opt_of (note_none b4) hq.2

theorem k_loop_exit {I : Nat → Fr → HS → Prop} {m i : Nat} {C : Sig → Fr → HS → Prop} (h : C (.exit i) fr s) : loopK I m C (.exit i) fr s := h
theorem k_loop_ret {I : Nat → Fr → HS → Prop} {m : Nat} {C : Sig → Fr → HS → Prop} (h : C .ret fr s) : loopK I m C .ret fr s := h

theorem d_same {v : Value} (hb : freeD p Z = true) (hg : o.guard = none) (ho : opA P (ev P 0) (bif p.bar then lk else s.nx) fr s o = some (v, s')) (hn : s'.nx = s.nx)
    (hd : setA sz fr o.dst v = some fr') (hk : wpD P lk sz all os ps (k + 1) Z fr' s' K) : wpD P lk sz all (o :: os) (p :: ps) k Z fr s K := d_sameW hb (wanted_none hg) ho hn hd hk
theorem d_do {v : Value} (hb : freeD p Z = true) (hg : o.guard = none) (ho : opA P (ev P 0) (bif p.bar then lk else s.nx) fr s o = some (v, s'))
    (hd : setA sz fr o.dst v = some fr') (hk : wpD P lk sz all os ps (k + 1) ((k, s.nx, s'.nx) :: Z) fr' s' K) : wpD P lk sz all (o :: os) (p :: ps) k Z fr s K := d_doW hb (wanted_none hg) ho hd hk
theorem d_call {dst : Option Tmp} {f : Operand} {args : Array Operand} {ats : Array TypeId} {ty : TypeId} {pos : String} {after : Array Edge} {as : List Value} {fv : Value}
    (hb : freeD p Z = true) (ha : omap (opdA P.globals.size fr) args.toList = some as) (hf : opdA P.globals.size fr f = some fv)
    (hc : wpCall P (bif p.bar then lk else s.nx) fv as s fun v s' => opt (setA sz fr dst v) fun fr' => wpD P lk sz all os ps (k + 1) ((k, s.nx, s'.nx) :: Z) fr' s' K) :
    wpD P lk sz all (⟨dst, .call ⟨.value f, args, ats⟩, ty, pos, after, none⟩ :: os) (p :: ps) k Z fr s K := d_callW hb (wanted_none rfl) ha hf hc
theorem d_callS {dst : Option Tmp} {f : Operand} {args : Array Operand} {ats : Array TypeId} {ty : TypeId} {pos : String} {after : Array Edge} {as : List Value} {fv : Value}
    (hb : freeD p Z = true) (ha : omap (opdA P.globals.size fr) args.toList = some as) (hf : opdA P.globals.size fr f = some fv)
    (hc : wpCall P (bif p.bar then lk else s.nx) fv as s fun v s' => s'.nx = s.nx ∧ opt (setA sz fr dst v) fun fr' => wpD P lk sz all os ps (k + 1) Z fr' s' K) :
    wpD P lk sz all (⟨dst, .call ⟨.value f, args, ats⟩, ty, pos, after, none⟩ :: os) (p :: ps) k Z fr s K := d_callSW hb (wanted_none rfl) ha hf hc

/-- A quiet load. -/
theorem d_quiet {v : Value} {b : Nat} {qs : List Nat} (hc : (Z.all fun m => !p.beside.contains m.1 && qs.contains m.1) = true) (hq : p.quiet = some qs) (hg : o.guard = none)
    (ho : opA P (ev P 0) (bif p.bar then lk else s.nx) fr s o = some (v, s)) (hbk : loadBlk P.globals.size fr o = some b)
    (hd : setA sz fr o.dst v = some fr') (hk : wpD P lk sz all os ps (k + 1) ((k, b, b + 1) :: Z) fr' s K) : wpD P lk sz all (o :: os) (p :: ps) k Z fr s K := by
  simp only [Bool.and_eq_true, List.all_eq_true] at hc
  have e := bad_nil (p := p) (List.all_eq_true.2 fun m hj => (hc m hj).1)
  show wpStep P (if p.bar then lk else s.nx) sz all fr (hid s _) o _
  rw [e, bar_if]
  refine wpStep_do (s' := s) (fr' := fr') (wanted_none hg) ho hd ?_
  rw [if_neg (by omega)]
  refine opt_of (a := (k, b, b + 1) :: Z.filter fun m => Nat.blt m.2.1 m.2.2) ?_ ?_
  · unfold noteA
    rw [hq]
    simp only [hbk, Option.bind_some]
    rw [if_pos]
    refine List.all_eq_true.2 fun m hmm => ?_
    have : qs.contains m.1 = true := (hc m (List.mem_filter.1 hmm).1).2
    rw [this]; rfl
  · have : ((k, b, b + 1) :: Z.filter fun m => Nat.blt m.2.1 m.2.2) = ((k, b, b + 1) :: Z).filter fun m => Nat.blt m.2.1 m.2.2 := by
      rw [List.filter_cons_of_pos (by simp)]
    show wpDraw P lk sz all os ps (k + 1) ((k, b, b + 1) :: Z.filter fun m => Nat.blt m.2.1 m.2.2) fr' s K
    rw [this]
    exact hk

/-- What is hidden from a step. -/
def hidZ (p : PlanRow) (Z : List (Nat × Nat × Nat)) : List (Nat × Nat) := ((Z.filter fun m => Nat.blt m.2.1 m.2.2).filter fun m => p.beside.contains m.1).map (·.2)

theorem hidZ_in {id : Nat} (h : Go.Ev.inBad (hidZ p Z) id = true) : ∃ m ∈ Z, p.beside.contains m.1 = true ∧ m.2.1 ≤ id ∧ id < m.2.2 := by
  unfold Go.Ev.inBad hidZ at h
  simp only [List.any_eq_true, List.mem_map, List.mem_filter, decide_eq_true_eq] at h
  obtain ⟨x, ⟨m, ⟨⟨h1, _⟩, h2⟩, rfl⟩, h3⟩ := h
  exact ⟨m, h1, h2, h3⟩

/-- An operation from which the block of one quiet load is hidden. -/
theorem d_hid {b j : Nat} (hq : p.quiet = none) (hz : (Z.filter fun m => p.beside.contains m.1) = [(j, b, b + 1)]) (hg : o.guard = none)
    (h : ∀ sh : HS, sh.nx = s.nx → (∀ id, sh.hp.get id = if id = b then none else s.hp.get id) → ∃ x, opA P (ev P 0) (bif p.bar then lk else s.nx) fr sh o = x ∧ opt x fun q =>
      ∀ s2 : HS, s2.nx = q.2.nx → (∀ id, s2.hp.get id = if id = b then s.hp.get id else q.2.hp.get id) → opt (setA sz fr o.dst q.1) fun fr' => wpD P lk sz all os ps (k + 1) ((k, s.nx, q.2.nx) :: Z) fr' s2 K) :
    wpD P lk sz all (o :: os) (p :: ps) k Z fr s K := by
  have e : hidZ p Z = [(b, b + 1)] := by
    unfold hidZ
    rw [List.filter_filter]
    rw [show (Z.filter fun a => p.beside.contains a.1 && Nat.blt a.2.1 a.2.2) = (Z.filter fun m => p.beside.contains m.1).filter fun m => Nat.blt m.2.1 m.2.2 by
      rw [List.filter_filter]; exact List.filter_congr fun m _ => Bool.and_comm _ _]
    rw [hz, List.filter_cons_of_pos (by simp)]; rfl
  show wpStep P (if p.bar then lk else s.nx) sz all fr (hid s (hidZ p Z)) o fun fr' s1 => opt (noteA P.globals.size p k fr o _) fun made' => wpDraw P lk sz all os ps (k + 1) made' fr' (unh s s1 (hidZ p Z)) K
  rw [e, bar_if]
  have hin : ∀ id, Go.Ev.inBad [(b, b + 1)] id = true ↔ id = b := fun id => by
    simp only [Go.Ev.inBad, List.any_cons, List.any_nil, Bool.or_false, decide_eq_true_eq]
    omega
  obtain ⟨x, hx, h2⟩ := h (hid s [(b, b + 1)]) (hid_nx _ _) fun id => by
    rw [hid_get]
    by_cases hi : id = b
    · rw [if_pos ((hin id).2 hi), if_pos hi]
    · rw [if_neg (fun e => hi ((hin id).1 e)), if_neg hi]
  subst hx
  obtain ⟨⟨v, s1⟩, h3, h4⟩ := opt_inv h2
  have h5 := h4 (unh s s1 [(b, b + 1)]) (unh_nx _ _ _) fun id => by
    rw [unh_get]
    by_cases hi : id = b
    · rw [if_pos ((hin id).2 hi), if_pos hi]
    · rw [if_neg (fun e => hi ((hin id).1 e)), if_neg hi]
  obtain ⟨fr2, h6, h7⟩ := opt_inv h5
  refine wpStep_do (fr' := fr2) (wanted_none hg) h3 h6 ?_
  refine opt_of (note_none hq) ?_
  rw [made_more]
  exact h7

theorem wpCall_ab {f : Value} {args : List Value} {Q : Value → HS → Prop} (hl : lk ≤ s.nx) (h : wpCall P lk f args s Q) : wpCall P lk f args s fun v s' => Ab lk s s' ∧ Q v s' := by
  unfold wpCall at *
  split at h
  · obtain ⟨n, v, s', h1, h2⟩ := h; exact ⟨n, v, s', h1, (ev_ab P n).call hl h1, h2⟩
  · obtain ⟨a, b, n, v, s', h1, h2⟩ := h; exact ⟨a, b, n, v, s', h1, (ev_ab P n).round hl h1, h2⟩
  · cases h

theorem low_same {lo : Nat} {q : HS} {sh : HS} (hs : sh = hid s (hidZ p Z)) (hlo : ∀ m ∈ Z, p.beside.contains m.1 = true → lo ≤ m.2.1 ∧ m.2.2 ≤ s.nx) (a : Ab s.nx sh q) :
    Ab s.nx s (unh s q (hidZ p Z)) ∧ (∀ id, s.nx ≤ id → (unh s q (hidZ p Z)).hp.get id = q.hp.get id) := by
  subst hs
  have an := a.nx
  rw [hid_nx] at an
  refine ⟨⟨by rw [unh_nx]; exact an, fun _ id h => ?_, fun hB id hne => ?_⟩, fun id h => ?_⟩
  · rw [unh_get]
    split
    · rfl
    · rename_i hn; rw [a.lock (by rw [hid_nx]; exact Nat.le_refl _) id h, hid_get, if_neg hn]
  · rw [unh_nx]
    have hBh : Bnd (hid s (hidZ p Z)) := fun j hj => by
      rw [hid_nx]
      rw [hid_get] at hj
      split at hj
      · simp at hj
      · exact hB j hj
    rw [unh_get] at hne
    split at hne
    · have := hB id hne; omega
    · exact a.bnd hBh id hne
  · rw [unh_get]
    split
    · rename_i hn
      obtain ⟨m, h1, h2, h3, h4⟩ := hidZ_in hn
      have := (hlo m h1 h2).2; omega
    · rfl

theorem low_get {lo : Nat} (hlo : ∀ m ∈ Z, p.beside.contains m.1 = true → lo ≤ m.2.1 ∧ m.2.2 ≤ s.nx) {id : Nat} (h : id < lo) : (hid s (hidZ p Z)).hp.get id = s.hp.get id := by
  rw [hid_get]
  split
  · rename_i hn
    obtain ⟨m, h1, h2, h3, h4⟩ := hidZ_in hn
    have := (hlo m h1 h2).1; omega
  · rfl

/-- An operation that leaves old blocks alone, from which blocks from lo on are hidden. -/
theorem d_low {lo : Nat} (hq : p.quiet = none) (hb : p.bar = false) (hg : o.guard = none) (hlo : ∀ m ∈ Z, p.beside.contains m.1 = true → lo ≤ m.2.1 ∧ m.2.2 ≤ s.nx)
    (h : ∀ sh : HS, sh.nx = s.nx → (∀ id, id < lo → sh.hp.get id = s.hp.get id) → ∃ x, opA P (ev P 0) s.nx fr sh o = x ∧ opt x fun q =>
      ∀ s2 : HS, Ab s.nx s s2 → s2.nx = q.2.nx → (∀ id, s.nx ≤ id → s2.hp.get id = q.2.hp.get id) → opt (setA sz fr o.dst q.1) fun fr' =>
        wpD P lk sz all os ps (k + 1) ((k, s.nx, s2.nx) :: Z) fr' s2 K) : wpD P lk sz all (o :: os) (p :: ps) k Z fr s K := by
  show wpStep P (if p.bar then lk else s.nx) sz all fr (hid s (hidZ p Z)) o fun fr' s1 => opt (noteA P.globals.size p k fr o _) fun made' => wpDraw P lk sz all os ps (k + 1) made' fr' (unh s s1 (hidZ p Z)) K
  rw [hb, if_neg (by simp)]
  obtain ⟨x, hx, h2⟩ := h (hid s (hidZ p Z)) (hid_nx _ _) fun id hid' => low_get hlo hid'
  subst hx
  obtain ⟨⟨v, s1⟩, h3, h4⟩ := opt_inv h2
  have a := opA_ab (ev_ab P 0) (by rw [hid_nx]; exact Nat.le_refl _) h3
  obtain ⟨l1, l2⟩ := low_same rfl hlo a
  obtain ⟨fr2, h6, h7⟩ := opt_inv (h4 (unh s s1 (hidZ p Z)) l1 (unh_nx _ _ _) l2)
  refine wpStep_do (fr' := fr2) (wanted_none hg) h3 h6 ?_
  refine opt_of (note_none hq) ?_
  rw [made_more]
  rw [unh_nx] at h7
  exact h7

theorem Ab.ofEq {lk : Nat} {s s2 : HS} (hn : s2.nx = s.nx) (hg : ∀ id, s2.hp.get id = s.hp.get id) : Ab lk s s2 := ⟨by omega, fun _ id _ => hg id, fun hB id h => by rw [hn]; exact hB id (by rw [← hg]; exact h)⟩

/-- The same, if it makes no block. -/
theorem d_lowS {lo : Nat} (hq : p.quiet = none) (hb : p.bar = false) (hg : o.guard = none) (hlo : ∀ m ∈ Z, p.beside.contains m.1 = true → lo ≤ m.2.1 ∧ m.2.2 ≤ s.nx) {v : Value}
    (h : ∀ sh : HS, sh.nx = s.nx → (∀ id, id < lo → sh.hp.get id = s.hp.get id) → opA P (ev P 0) s.nx fr sh o = some (v, sh))
    (hd : setA sz fr o.dst v = some fr') (hk : ∀ s2 : HS, s2.nx = s.nx → (∀ id, s2.hp.get id = s.hp.get id) → wpD P lk sz all os ps (k + 1) Z fr' s2 K) : wpD P lk sz all (o :: os) (p :: ps) k Z fr s K := by
  show wpStep P (if p.bar then lk else s.nx) sz all fr (hid s (hidZ p Z)) o fun fr' s1 => opt (noteA P.globals.size p k fr o (if s.nx < s1.nx then _ else _)) fun made' => wpDraw P lk sz all os ps (k + 1) made' fr' (unh s s1 (hidZ p Z)) K
  rw [hb, if_neg (by simp)]
  have h3 := h (hid s (hidZ p Z)) (hid_nx _ _) fun id hid' => low_get hlo hid'
  refine wpStep_do (fr' := fr') (wanted_none hg) h3 hd ?_
  rw [hid_nx, if_neg (Nat.lt_irrefl _)]
  refine opt_of (note_none hq) (hk _ (by rw [unh_nx, hid_nx]) fun id => ?_)
  rw [unh_get]
  split
  · rfl
  · rename_i hn; rw [hid_get, if_neg hn]

/-- A call that leaves old blocks alone, from which blocks from lo on are hidden. -/
theorem d_lowC {lo : Nat} {dst : Option Tmp} {f : Operand} {args : Array Operand} {ats : Array TypeId} {ty : TypeId} {pos : String} {after : Array Edge} {as : List Value} {fv : Value}
    (hq : p.quiet = none) (hb : p.bar = false) (hlo : ∀ m ∈ Z, p.beside.contains m.1 = true → lo ≤ m.2.1 ∧ m.2.2 ≤ s.nx) (ha : omap (opdA P.globals.size fr) args.toList = some as) (hf : opdA P.globals.size fr f = some fv)
    (hc : ∀ sh : HS, sh.nx = s.nx → (∀ id, id < lo → sh.hp.get id = s.hp.get id) → wpCall P s.nx fv as sh fun v q =>
      ∀ s2 : HS, Ab s.nx s s2 → s2.nx = q.nx → (∀ id, s.nx ≤ id → s2.hp.get id = q.hp.get id) → opt (setA sz fr dst v) fun fr' =>
        wpD P lk sz all os ps (k + 1) ((k, s.nx, s2.nx) :: Z) fr' s2 K) :
    wpD P lk sz all (⟨dst, .call ⟨.value f, args, ats⟩, ty, pos, after, none⟩ :: os) (p :: ps) k Z fr s K := by
  show wpStep P (if p.bar then lk else s.nx) sz all fr (hid s (hidZ p Z)) ⟨dst, .call ⟨.value f, args, ats⟩, ty, pos, after, none⟩ fun fr' s1 => opt (noteA P.globals.size p k fr ⟨dst, .call ⟨.value f, args, ats⟩, ty, pos, after, none⟩ (if s.nx < s1.nx then _ else _)) fun made' => wpDraw P lk sz all os ps (k + 1) made' fr' (unh s s1 (hidZ p Z)) K
  rw [hb, if_neg (by simp)]
  refine wpStep_mono (K := fun f t => wpD P lk sz all os ps (k + 1) ((k, s.nx, t.nx) :: Z) f (unh s t (hidZ p Z)) K) ?_ fun f t hq2 => ?_
  · refine opt_of (wanted_none rfl) ?_
    simp only
    unfold wpOp
    refine opt_of ha (opt_of hf ?_)
    refine wpCall_mono (wpCall_ab (by rw [hid_nx]; exact Nat.le_refl _) (hc (hid s (hidZ p Z)) (hid_nx _ _) fun id hid' => low_get hlo hid')) fun v s' h => ?_
    obtain ⟨l1, l2⟩ := low_same rfl hlo h.1
    refine opt_mono (h.2 (unh s s' (hidZ p Z)) l1 (unh_nx _ _ _) l2) fun f h2 => ?_
    rw [unh_nx] at h2
    exact h2
  · refine opt_of (note_none hq) ?_
    rw [made_more]
    exact hq2
end Go.Ev
