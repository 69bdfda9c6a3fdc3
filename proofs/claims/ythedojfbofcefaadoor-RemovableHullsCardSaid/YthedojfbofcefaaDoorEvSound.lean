/- The evaluator is sound: what it answers, the model's call answers, in whatever world. -/
import Derived.Test.YthedojfbofcefaaDoorEvRun
namespace Go.Ev
open Go
variable {P : Program} {R : Rec}

theorem callFA_sound (hR : RecOK P R) (hm : MonoR R) (hab : AbR R) (hmix : P.follows .mixedOrders = true) {lk : Nat} {f : FuncId} {args : List Value} {s : HS} {v : Value} {s' : HS} (h : callFA P R lk f args s = some (v, s'))
    {φ : Inj} {w : World} {args' : List Value} (H : HR P φ s w) (hl : LR φ args args') (hlk : lk ≤ s.nx) (hfr : Fresh φ s.nx s'.nx) :
    s.nx ≤ s'.nx ∧ (callFunc f args'.toArray).run P w = .ok (.enter f args'.toArray) w ∧ ∀ n ro, CallsIn (Fn ro) n P f args'.toArray w (CPost P φ lk s w v s') := by
  unfold callFA at h
  split at h
  · cases h
  · rename_i fn hfn
    split at h
    · cases h
    · rename_i c hb
      split at h
      · cases h
      · rename_i hc
        simp only [not_or] at hc
        obtain ⟨hname, hsz⟩ := hc
        obtain ⟨⟨sg, fr1, s1⟩, h1, h2⟩ := bind_inv h
        have hnx : s1 = s' ∧ ∃ vs, omap (resA P fr1 s1.hp) fn.results.toList = some vs ∧ packR vs = v ∧ (sg = .normal ∨ sg = .ret) := by
          cases sg with
          | exit i => cases h2
          | normal => obtain ⟨vs, h3, h4⟩ := map_inv h2; cases h4; exact ⟨rfl, vs, h3, rfl, Or.inl rfl⟩
          | ret => obtain ⟨vs, h3, h4⟩ := map_inv h2; cases h4; exact ⟨rfl, vs, h3, rfl, Or.inr rfl⟩
        obtain ⟨rfl, vs, hvs, hpk, hsg⟩ := hnx
        refine ⟨codeA_nx hm h1, ?_, fun n ro => ?_⟩
        · simp [callFunc, hfn, hname, hb]
        · have hlen := hl.1
          refine callsIn_of_wp_marks (F := Fn none) (fn := fn) (c := c) hfn hb trivial ?_
          have c0 : Cx P φ fn.ntmps lk w.heap.size none (paramsA .nil args 0) s { tmps := args'.toArray ++ Array.replicate (fn.ntmps - args'.toArray.size) undef, defers := [] } w := {
            hr := H
            fr := params_rel hl (by omega)
            lk := hlk
            df := trivial
            rd := fun l hl => by cases hl }
          refine codeA_sound hR hm hab hmix c h1 n c0 (Nat.le_refl _) hfr (fun a' w' φ' p' c' => ?_)
          have := leavesM (lk := lk) (ro := none) (n := n) (fn := fn) c'.fr hvs hpk.symm a'.defers w' p' c'.df
          rcases hsg with rfl | rfl
          · exact this
          · exact this

theorem roundFA_sound (hR : RecOK P R) (hm : MonoR R) (hab : AbR R) (hmix : P.follows .mixedOrders = true) {lk l : Nat} {args : List Value} {s : HS} {v : Value} {s' : HS} (h : roundFA P R lk l args s = some (v, s'))
    {φ : Inj} {w : World} {im : Img} {args' : List Value} (H : HR P φ s w) (hl : LR φ args args') (hlk : lk ≤ s.nx) (hfr : Fresh φ s.nx s'.nx) (hi : φ l = some im) :
    ∃ f tmps assign body, (Instr.yield im.blk args'.toArray).run P w = .ok (.round im.blk f tmps assign body) w ∧ ∀ n ro, RoundIn (Fn ro) n P im.blk f tmps assign body w (CPost P φ lk s w v s') := by
  unfold roundFA at h
  split at h
  · cases h
  rename_i hlkl
  simp only [Decidable.not_not] at hlkl
  obtain ⟨L, hL, h⟩ := bind_inv h
  have hgL := loopAt_get hL
  obtain ⟨r, hr1, hr2⟩ := loop_get H hgL hi
  have hr2' := hr2
  obtain ⟨k1, k2, k3, k4, k5, k6⟩ := hr2'
  split at h
  · cases h
  rename_i hal
  simp only [ne_eq, Decidable.not_not] at hal
  obtain ⟨fr, hpa, h⟩ := bind_inv h
  obtain ⟨⟨sg1, fr1, s1⟩, h1, h⟩ := bind_inv h
  cases sg1 with
  | exit i => cases h
  | ret => cases h
  | normal =>
  obtain ⟨L1, hL1, h⟩ := bind_inv h
  split at h
  · rename_i hst
    obtain ⟨⟨sg2, fr2, s2⟩, h2, h⟩ := bind_inv h
    obtain ⟨L2, hL2, h⟩ := bind_inv h
    have n1 := codeA_nx hm h1
    have n2 := codeA_nx hm h2
    simp only at n2
    have hs' : s'.nx = s2.nx := by cases sg2 <;> (cases h; rfl)
    have hlen := hl.1
    have hsz : args'.toArray.size = r.params.size := by
      rw [k3]; simp only [List.size_toArray]; rw [← hlen, hal]; simp
    refine ⟨r.fn, _, r.assign, r.body, run_yield hr1 hsz, fun n ro => roundIn_of_wpIn (F := Fn ro) trivial ?_⟩
    change r.assign.wpIn (Fn (some im.blk)) n P _ _ w
    rw [k3, k4, k5]
    have hfold : (L.params.zip args'.toArray).foldl (fun (tmps : Array Value) (p : Tmp × Value) => tmps.setIfInBounds p.1 p.2) r.tmps =
        (L.params.toList.zip args').foldl (fun (tmps : Array Value) (p : Tmp × Value) => tmps.setIfInBounds p.1 p.2) r.tmps := by
      rw [← Array.foldl_toList]; simp
    have hF : FrR φ L.sz fr ((L.params.toList.zip args').foldl (fun (tmps : Array Value) (p : Tmp × Value) => tmps.setIfInBounds p.1 p.2) r.tmps) := by
      refine parA_rel (ps := L.params.toList.zip args) (by simp [hlen]) (fun i t v hi => ?_) k6 hpa
      rw [List.getElem?_zip_eq_some] at hi
      obtain ⟨v', e1, e2⟩ := hl.get hi.2
      exact ⟨v', by rw [List.getElem?_zip_eq_some]; exact ⟨hi.1, e1⟩, e2⟩
    have c0 : Cx P φ L.sz lk w.heap.size (some im.blk) fr s { tmps := (L.params.zip args'.toArray).foldl (fun (tmps : Array Value) (p : Tmp × Value) => tmps.setIfInBounds p.1 p.2) r.tmps, defers := [] } w := {
      hr := H
      fr := by rw [hfold]; exact hF
      lk := hlk
      df := trivial
      rd := fun l' hl' => by cases hl'; exact ⟨l, L, im, hgL, hi, rfl⟩ }
    refine codeA_sound hR hm hab hmix L.assign h1 n c0 (Nat.le_refl _) (hfr.left (by omega)) (fun a1 w1 φ1 p1 c1 => ?_)
    have hi1 := p1.ext _ _ hi
    have hg1 := loopAt_get hL1
    obtain ⟨q, hq1, hq2⟩ := loop_get c1.hr hg1 hi1
    have hb := run_beginRound (P := P) hq1 (by rw [hq2.1]; exact hst)
    have pb := loop_put (lk := lk) (L' := { L1 with state := .busy }) (r' := { q with state := .busy }) c1.hr hlkl hg1 hi1 ⟨rfl, hq2.2⟩
    refine ⟨setB w1 im.blk (.loop { q with state := .busy }), hb, ?_⟩
    have p1b := p1.trans pb
    have c1b : Cx P φ1 L.sz lk w.heap.size (some im.blk) fr1 { s1 with hp := s1.hp.put l (some (.loop { L1 with state := .busy })) } a1 (setB w1 im.blk (.loop { q with state := .busy })) :=
      c1.post pb c1.fr rfl
    refine codeA_sound hR hm hab hmix L.body h2 n c1b p1b.size ((hfr.left (by omega)).after p1b) (fun a2 w2 φ2 p2 c2 => ?_)
    have hi2 := p2.ext _ _ hi1
    have hg2 := loopAt_get hL2
    obtain ⟨q2, hq3, hq4⟩ := loop_get c2.hr hg2 hi2
    have pe := fun (st : LoopState) (pd : Option Code) => loop_put (lk := lk) (L' := { L2 with state := st, pending := pd }) (r' := { q2 with state := st, pending := pd }) c2.hr hlkl hg2 hi2 ⟨rfl, rfl, hq4.2.2⟩
    have fin := fun (st : LoopState) (pd : Option Code) => (p1b.trans p2).trans (pe st pd)
    cases sg2 with
    | normal =>
      cases h
      refine ⟨_, _, run_endRound (P := P) none hq3, .bool true, φ2, rfl, .bool true, ?_⟩
      exact fin .ready none
    | ret =>
      cases h
      refine ⟨_, _, run_endRound (P := P) (some .ret) hq3, .bool false, φ2, rfl, .bool false, ?_⟩
      exact fin .done (some .ret)
    | exit id =>
      cases h
      refine ⟨_, _, run_endRound (P := P) (some (.exit id)) hq3, .bool false, φ2, rfl, .bool false, ?_⟩
      exact fin .done (some (.exit id))
  · cases h

theorem loopFA_sound (hR : RecOK P R) (hm : MonoR R) (hab : AbR R) (hmix : P.follows .mixedOrders = true) {lk sz : Nat} {c : Code} {fr : Fr} {s : HS} {sig : Sig} {fr' : Fr} {s' : HS} (h : loopFA P R lk sz c fr s = some (sig, fr', s')) :
    ∃ m, ∀ {φ : Inj} {a : Act} {w : World} {B : Nat} {ro : Option Nat} {Q : Exit → Act → World → Prop} (n : Nat), Cx P φ sz lk B ro fr s a w → B ≤ w.heap.size → Fresh φ s.nx s'.nx →
    (∀ a' w' φ', Post P φ lk s w φ' s' w' → Cx P φ' sz lk B ro fr' s' a' w' → Q (match sig with | .normal => .normal | .exit id => .exit id | .ret => .ret) a' w') → Code.roundsIn (Fn ro) n P c Q m a w := by
  unfold loopFA at h
  obtain ⟨⟨sg, fr1, s1⟩, h1, h2⟩ := bind_inv h
  have n1 := codeA_nx hm h1
  cases sg with
  | normal =>
    obtain ⟨m, hm'⟩ := hR.loop h2
    refine ⟨m + 1, fun {φ a w B ro Q} n cx hB hfr hq => ?_⟩
    rw [roundsIn_succ]
    have n2 := hm.loop h2
    refine codeA_sound hR hm hab hmix c h1 n cx hB (hfr.left n2) (fun a1 w1 φ1 p1 c1 => ?_)
    exact hm' n c1 (Nat.le_trans hB p1.size) (hfr.after p1) (fun a' w' φ' p' c' => hq a' w' φ' (p1.trans p') c')
  | exit i =>
    cases h2
    refine ⟨1, fun {φ a w B ro Q} n cx hB hfr hq => ?_⟩
    rw [roundsIn_succ]
    exact codeA_sound hR hm hab hmix c h1 n cx hB hfr (fun a1 w1 φ1 p1 c1 => hq a1 w1 φ1 p1 c1)
  | ret =>
    cases h2
    refine ⟨1, fun {φ a w B ro Q} n cx hB hfr hq => ?_⟩
    rw [roundsIn_succ]
    exact codeA_sound hR hm hab hmix c h1 n cx hB hfr (fun a1 w1 φ1 p1 c1 => hq a1 w1 φ1 p1 c1)

theorem ev0_ok (P : Program) (hmix : P.follows .mixedOrders = true) : ∀ n, RecOK P (ev0 P n) := by
  intro n
  induction n with
  | zero => exact ⟨fun h => (by cases h), fun h => (by cases h), fun h => (by cases h)⟩
  | succ n ih =>
    have hm := ev0_mono P n
    have hab := ev0_ab P n
    exact ⟨fun h => callFA_sound ih hm hab hmix h, fun h => roundFA_sound ih hm hab hmix h, fun h => loopFA_sound ih hm hab hmix h⟩

end Go.Ev
