/- Single steps through a region, for the tactic proofs. -/
import Derived.Test.YthedojfbofcefaaDoorEvWp2
namespace Go.Ev
open Go
variable {P : Program} {lk sz : Nat} {all os : List Oper} {o : Oper} {fr fr' : Fr} {s s' : HS} {K : Fr → HS → Prop}

theorem ops_doW {v : Value} (hw : wantedA all fr o = some true) (ho : opA P (ev P 0) lk fr s o = some (v, s')) (hd : setA sz fr o.dst v = some fr') (k : wpOps P lk sz all os fr' s' K) : wpOps P lk sz all (o :: os) fr s K := by
  refine opt_of hw ?_
  simp only
  have key : opt (opA P (ev P 0) lk fr s o) (fun p => (fun v s' => opt (setA sz fr o.dst v) fun fr' => wpOps P lk sz all os fr' s' K) p.1 p.2) := by
    rw [ho]
    show opt (setA sz fr o.dst v) _
    exact opt_of hd k
  unfold wpOp
  split
  · rename_i f args ats hop
    exfalso
    rw [show o = ⟨o.dst, .call ⟨.value f, args, ats⟩, o.type, o.pos, o.after, o.guard⟩ by cases o; simp at hop ⊢; exact hop] at ho
    simp only [opA] at ho
    obtain ⟨as, _, h2⟩ := bind_inv ho
    obtain ⟨fv, _, h4⟩ := bind_inv h2
    unfold callA at h4
    split at h4
    · cases h4
    · split at h4 <;> cases h4
    · cases h4
  · exact key

theorem ops_skip (hw : wantedA all fr o = some false) (hd : setA sz fr o.dst undef = some fr') (k : wpOps P lk sz all os fr' s K) : wpOps P lk sz all (o :: os) fr s K := by
  refine opt_of hw ?_
  exact opt_of hd k

theorem ops_callW {dst : Option Tmp} {f : Operand} {args : Array Operand} {ats : Array TypeId} {ty : TypeId} {pos : String} {after : Array Edge} {guard : Option (Nat × Bool)} {as : List Value} {fv : Value}
    (hw : wantedA all fr ⟨dst, .call ⟨.value f, args, ats⟩, ty, pos, after, guard⟩ = some true) (ha : omap (opdA P.globals.size fr) args.toList = some as) (hf : opdA P.globals.size fr f = some fv)
    (hc : wpCall P lk fv as s fun v s' => opt (setA sz fr dst v) fun fr' => wpOps P lk sz all os fr' s' K) : wpOps P lk sz all (⟨dst, .call ⟨.value f, args, ats⟩, ty, pos, after, guard⟩ :: os) fr s K := by
  refine opt_of hw ?_
  simp only
  unfold wpOp
  exact opt_of ha (opt_of hf hc)

theorem wanted_guard {j d : Nat} {want b : Bool} (hg : o.guard = some (j, want)) (hd : (all[j]?).bind (·.dst) = some d) (hv : fr.get d = some (.bool b)) : wantedA all fr o = some (b == want) := by
  unfold wantedA
  rw [hg]
  simp only
  obtain ⟨g, h1, h2⟩ := bind_inv hd
  rw [h1]; simp only [Option.bind_some]; rw [h2]; simp only [Option.bind_some]; rw [hv]; rfl

theorem ops_doG {v : Value} {j d : Nat} {want b : Bool} (hg : o.guard = some (j, want)) (hd : (all[j]?).bind (·.dst) = some d) (hv : fr.get d = some (.bool b)) (hb : (b == want) = true)
    (ho : opA P (ev P 0) lk fr s o = some (v, s')) (hs : setA sz fr o.dst v = some fr') (k : wpOps P lk sz all os fr' s' K) : wpOps P lk sz all (o :: os) fr s K :=
  ops_doW (by rw [wanted_guard hg hd hv, hb]) ho hs k

theorem ops_skipG {j d : Nat} {want b : Bool} (hg : o.guard = some (j, want)) (hd : (all[j]?).bind (·.dst) = some d) (hv : fr.get d = some (.bool b)) (hb : (b == want) = false)
    (hs : setA sz fr o.dst undef = some fr') (k : wpOps P lk sz all os fr' s K) : wpOps P lk sz all (o :: os) fr s K :=
  ops_skip (by rw [wanted_guard hg hd hv, hb]) hs k

theorem ops_callG {dst : Option Tmp} {f : Operand} {args : Array Operand} {ats : Array TypeId} {ty : TypeId} {pos : String} {after : Array Edge} {as : List Value} {fv : Value} {j d : Nat} {want b : Bool}
    (hd : (all[j]?).bind (·.dst) = some d) (hv : fr.get d = some (.bool b)) (hb : (b == want) = true) (ha : omap (opdA P.globals.size fr) args.toList = some as) (hf : opdA P.globals.size fr f = some fv)
    (hc : wpCall P lk fv as s fun v s' => opt (setA sz fr dst v) fun fr' => wpOps P lk sz all os fr' s' K) : wpOps P lk sz all (⟨dst, .call ⟨.value f, args, ats⟩, ty, pos, after, some (j, want)⟩ :: os) fr s K :=
  ops_callW (by rw [wanted_guard rfl hd hv, hb]) ha hf hc

theorem ops_end (h : K fr s) : wpOps P lk sz all [] fr s K := h

variable {C : Sig → Fr → HS → Prop} {a b : Code}
def seqK (P : Program) (lk sz : Nat) (b : Code) (C : Sig → Fr → HS → Prop) : Sig → Fr → HS → Prop
  | .normal, f, t => wpC P lk sz b f t C
  | .exit i, f, t => C (.exit i) f t
  | .ret, f, t => C .ret f t
def blockK (id : Nat) (C : Sig → Fr → HS → Prop) : Sig → Fr → HS → Prop
  | .normal, f, t => C .normal f t
  | .exit i, f, t => if i = id then C .normal f t else C (.exit i) f t
  | .ret, f, t => C .ret f t

theorem c_seq (h : wpC P lk sz a fr s (seqK P lk sz b C)) : wpC P lk sz (.seq a b) fr s C := by
  show wpC P lk sz a fr s _
  exact wpC_mono h fun g f t h => by cases g <;> exact h
theorem c_block {id : Nat} (h : wpC P lk sz a fr s (blockK id C)) : wpC P lk sz (.block id a) fr s C := by
  show wpC P lk sz a fr s _
  exact wpC_mono h fun g f t h => by cases g <;> exact h
theorem c_region {id : Nat} {ops : Array Oper} (h : wpOps P lk sz ops.toList ops.toList fr s (C .normal)) : wpC P lk sz (.region id ops false) fr s C := h
theorem c_skip (h : C .normal fr s) : wpC P lk sz .skip fr s C := h
theorem c_ret (h : C .ret fr s) : wpC P lk sz .ret fr s C := h
theorem c_exit {id : Nat} (h : C (.exit id) fr s) : wpC P lk sz (.exit id) fr s C := h
theorem c_cond {x : Operand} {p : Bool} (hx : opdA P.globals.size fr x = some (.bool p)) (ht : p = true → wpC P lk sz a fr s C) (hf : p = false → wpC P lk sz b fr s C) : wpC P lk sz (.cond x a b) fr s C := by
  refine opt_of hx ?_
  cases p with
  | true => exact ht rfl
  | false => exact hf rfl
theorem c_loop (h : wpLoop P lk sz a fr s C) : wpC P lk sz (.loop a) fr s C := h
theorem k_seq (h : wpC P lk sz b fr s C) : seqK P lk sz b C .normal fr s := h
theorem k_seq_ret (h : C .ret fr s) : seqK P lk sz b C .ret fr s := h
theorem k_seq_exit {i : Nat} (h : C (.exit i) fr s) : seqK P lk sz b C (.exit i) fr s := h
theorem k_block {id : Nat} (h : C .normal fr s) : blockK id C .normal fr s := h
theorem k_block_ret {id : Nat} (h : C .ret fr s) : blockK id C .ret fr s := h
theorem k_block_here {id : Nat} (h : C .normal fr s) : blockK id C (.exit id) fr s := by
  show (if id = id then C .normal fr s else C (.exit id) fr s)
  rw [if_pos rfl]; exact h
theorem k_block_on {id i : Nat} (hi : (i == id) = false) (h : C (.exit i) fr s) : blockK id C (.exit i) fr s := by
  show (if i = id then C .normal fr s else C (.exit i) fr s)
  rw [if_neg (by simpa using hi)]; exact h

/-- The head of a loop: what goes on behind a round. -/
def loopK (I : Nat → Fr → HS → Prop) (m : Nat) (C : Sig → Fr → HS → Prop) : Sig → Fr → HS → Prop
  | .normal, f, t => ∃ m', m' < m ∧ I m' f t
  | .exit i, f, t => C (.exit i) f t
  | .ret, f, t => C .ret f t
theorem loop_i {s0 : HS} (I : Nat → Fr → HS → Prop) (m : Nat) (hlk : lk ≤ s0.nx) (h0 : I m fr s) (ha : Ab lk s0 s)
    (h : ∀ m f t, I m f t → Ab lk s0 t → wpC P lk sz a f t fun g f' t' => Ab lk s0 t' → loopK I m C g f' t') : wpLoop P lk sz a fr s C :=
  wpLoop_inv s0 I hlk (fun m f t hI hA => wpC_mono (h m f t hI hA) fun g f' t' h ha => by cases g <;> exact h ha) m fr s h0 ha

theorem wanted_none (hg : o.guard = none) : wantedA all fr o = some true := by unfold wantedA; rw [hg]
theorem ops_do {v : Value} (hg : o.guard = none) (ho : opA P (ev P 0) lk fr s o = some (v, s')) (hd : setA sz fr o.dst v = some fr') (k : wpOps P lk sz all os fr' s' K) : wpOps P lk sz all (o :: os) fr s K :=
  ops_doW (wanted_none hg) ho hd k
theorem ops_call {dst : Option Tmp} {f : Operand} {args : Array Operand} {ats : Array TypeId} {ty : TypeId} {pos : String} {after : Array Edge} {as : List Value} {fv : Value}
    (ha : omap (opdA P.globals.size fr) args.toList = some as) (hf : opdA P.globals.size fr f = some fv)
    (hc : wpCall P lk fv as s fun v s' => opt (setA sz fr dst v) fun fr' => wpOps P lk sz all os fr' s' K) : wpOps P lk sz all (⟨dst, .call ⟨.value f, args, ats⟩, ty, pos, after, none⟩ :: os) fr s K :=
  ops_callW (wanted_none rfl) ha hf hc
end Go.Ev
