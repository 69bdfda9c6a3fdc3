import Derived.Test.YthedojfbofcefaaDoorEvG47
import Derived.Test.YthedojfbofcefaaDoorEvSrt
/-
  RemovableLattice: for all arguments the law returns true, and they read behind the call as they read before; the row's listed variable reads as the program's text lays it.
-/
set_option linter.unusedSimpArgs false
set_option linter.unusedVariables false
namespace Go.Proofs.YthedojfbofcefaaDoor.lattice
open Go Go.Ev Go.ChangeShapes Go.WideShapes Go.ChangeAt Go.RowKit
set_option maxRecDepth 100000

theorem table {W : World} (h : laidMetH Tryd.prog Rows.removableLatticeRow.laid W) : Lib.TabIs Tryd.prog W "math/bits.deBruijn64tab" .u8 tabL :=
  Lib.tabIs_of_head (rest := []) gTab gTabType un103 un5 cells5 cells103 h

/-- The call, for every argument and every world that holds the table. -/
theorem contract (H : Type) (enc : TypeId × Value → H) (W : World) (base : Nat) (args : Array Value) (ds gs : List (DataW H)) (before : List MemPlace)
    (hval : ∀ (j : Nat) t v, Tryd.f8.params[j]? = some t → args[j]? = some v → Value.okWide Tryd.prog W .any base t v)
    (hW : DataW.Whole enc Tryd.prog Tryd.f8.params.toList Rows.removableLatticeSpec.vars false W args.toList ds gs before) (hL : laidMetH Tryd.prog Rows.removableLatticeRow.laid W) (hsh : W.ShapedOpen Tryd.prog) :
    Calls Tryd.prog 8 args W fun e W' => ∃ v, e = .returned v ∧ Rows.removableLatticeSpec.post enc Tryd.prog Tryd.f8 false true false false W args v W' := by
  have hW' := hW
  obtain ⟨p, q, hA0, hV, rfl, hfz, hnd⟩ := hW
  have hA : DataW.TrodAll enc Tryd.prog W 0 (fun _ => true) true Tryd.f8.params.toList args.toList ds p := hA0
  have hpar : Tryd.f8.params = #[24, 5] := by kernel_rfl
  rw [hpar] at hA hval
  obtain ⟨v0, v1, d0, d1, p0, p1, rfl, rfl, rfl, h0, h1⟩ := trodAll_two hA
  obtain ⟨rfl, rfl⟩ := trodVars_none hV
  obtain ⟨nb, c1, bs, o1, im1, a1, rfl, hv1, hnb, hbs, hbl⟩ := view_net (hval 0 24 v0 rfl rfl) h0
  obtain ⟨z1, rfl, hz1⟩ := view_u8 (hval 1 5 v1 rfl rfl) h1
  have hv2 := view_none (P := Tryd.prog) (W := W)
  have hT := table hL
  have hH := hr2 hsh hT hv1 hv2
  have hs1 : Sl (s2 o1 none) 1 (a1 1) (bs.map encU) := hv1.sl 1 _ (by rw [s2_get]; rfl) (by show 1 < 3; decide)
  have hl : LR (φ2 im1 ⟨0, 0, 0, 0⟩) [.agg #[.int .u8 nb, a1 1], .int .u8 z1] [.agg #[.int .u8 nb, c1], .int .u8 z1] := by
    refine ⟨rfl, fun i v v' h h' => ?_⟩
    match i, h, h' with
    | 0, h, h' =>
      cases h; cases h'
      refine VR.agg _ _ rfl fun j x x' hx hx' => ?_
      match j, hx, hx' with
      | 0, hx, hx' => cases hx; cases hx'; exact .int .u8 _
      | 1, hx, hx' => cases hx; cases hx'; exact hv1.val _ 1 rfl
    | 1, h, h' => cases h; cases h'; exact .int .u8 _
  refine (calls_of hH hl (f8_spec nb z1 bs (a1 1) (s2 o1 none) (s2_glob o1 none) hs1 (hv1.cap 1) hbs hnb hz1)).mono fun e W' ⟨he, hos, hout, hh⟩ => ?_
  subst he
  exact ⟨_, rfl, law_post rfl (by kernel_rfl) (by rw [hpar]; decide +kernel) hW' rfl hos hout hh⟩

/-- A world for the witness: the settled one, the table (block 0) holding what its initialiser lays. -/
noncomputable def laidWorld (os : Os) : World :=
  { World.holding Tryd.prog os ⟨#[], #[], []⟩ with heap := (World.holding Tryd.prog os ⟨#[], #[], []⟩).heap.modify 0 fun
      | .cells _ t frozen => .cells (tabL.map fun n => Value.int .u8 n).toArray t frozen
      | o => o }
noncomputable def wargs : Array Value := #[.agg #[.int .u8 0, .slice none 0 0], .int .u8 0]
theorem laid_met (os : Os) : laidMet Tryd.prog Rows.removableLatticeRow.laid ((laidWorld os).forCall (fun _ _ => 0) ⟨#[], wargs, []⟩).memory :=
  laidMet_of_run' 8 (by kernel_rfl) (by kernel_rfl)
theorem reads (os : Os) {H : Type} (enc : TypeId × Value → H) : ∃ places, DataW.whole enc Tryd.prog ((laidWorld os).forCall (fun _ _ => 0) ⟨#[], wargs, []⟩).memory Tryd.f8.params.toList Rows.removableLatticeSpec.vars false wargs.toList 8 = some ([.agg [.lit (.int .u8 0), .nil], .lit (.int .u8 0)], [], places) :=
  ⟨[], by kernel_rfl⟩

theorem lifted (os : Os) (started : os.Started) (H : Type) (enc : TypeId × Value → H) (F : Stop.Interp) :
    ReturnsInHanded {} Tryd.checked os 8 .any ((OpenSpec.ofChange Rows.removableLatticeSpec).preRow enc Tryd.prog Tryd.f8 Rows.removableLatticeRow.domain false Rows.removableLatticeRow.laid) (((OpenSpec.ofChange Rows.removableLatticeSpec).at F).post enc Tryd.prog Tryd.f8 false true false false) := by
  obtain ⟨places, hx⟩ := reads os enc
  refine returnsInHanded_of_row (C := Tryd.checked) (s := OpenSpec.ofChange Rows.removableLatticeSpec) ownKnobT started (by kernel_rfl) Tryd.func8
    (witness_row_at (enc := enc) (C := Tryd.checked) false (laidWorld os) wargs rfl (by kernel_rfl) (by kernel_rfl) (by kernel_rfl)
      (OpenSpec.preRow_of_cond 8 hx (by kernel_rfl) (fun k hk => by cases hk) (by kernel_rfl) (laid_met os))) ?_
  intro W base args ds gs before hval hW _ _ _ hL hsh _
  exact contract H enc W base args ds gs before hval hW hL hsh

theorem said : Rows.RemovableLatticeSaid :=
  OpenClaim.holds_of_cond 8 Tryd.f8 rfl rfl rfl rfl rfl rfl rfl ⟨rfl, rfl, rfl, rfl, rfl⟩ rfl rfl rfl rfl rfl (by kernel_rfl) Tryd.func8 (by kernel_rfl)
    (of_decide_eq_true (by kernel_rfl)) (by unfold Func.isWrapper; first | (rw [if_pos (by decide +kernel)]; kernel_rfl) | (rw [if_neg (by decide +kernel)]; exact ⟨rfl, rfl⟩))
    (fun os started H enc _ F => by rw [OpenClaim.pre_eq_preRow]; exact lifted os started H enc F)

/-- No parameter wants a stand-in; the program's own looks are off. -/
theorem plain (f : FuncId) (fn : Func) (hf : Tryd.pinned.checked.prog.funcNamed "dowel/dowellaw24.RemovableLattice" = some f) (hfn : Tryd.pinned.checked.prog.funcs[f]? = some fn) :
    false = Tryd.pinned.checked.prog.looks [] ∧ ∀ (j : Nat) t, fn.params[j]? = some t → Tryd.pinned.checked.prog.wantsStandIn t = false := by
  obtain rfl : f = 8 := Option.some.inj ((show Tryd.prog.funcNamed "dowel/dowellaw24.RemovableLattice" = some 8 by kernel_rfl).symm.trans hf) |>.symm
  obtain rfl : fn = Tryd.f8 := (Option.some.inj (Tryd.func8.symm.trans hfn)).symm
  have hpar : Tryd.f8.params = #[24, 5] := by kernel_rfl
  refine ⟨by kernel_rfl, fun j t ht => ?_⟩
  rw [hpar] at ht
  have hm := Array.mem_of_getElem? ht
  simp only [List.mem_toArray, List.mem_cons, List.not_mem_nil, or_false] at hm
  rcases hm with rfl | rfl
  · exact (show Tryd.prog.wantsStandIn 24 = false by kernel_rfl)
  · exact (show Tryd.prog.wantsStandIn 5 = false by kernel_rfl)

/-- The card. -/
theorem card : Rows.RemovableLatticeCardSaid :=
  Claim7.holds_tied_plain_at .later [] _ _ _ _ said (fun _ h => by cases h) (by kernel_rfl) (fun _ h => by cases h) removableLattice_row_tie rfl ⟨rfl, rfl⟩ (by kernel_rfl) rfl plain (by kernel_rfl)
end Go.Proofs.YthedojfbofcefaaDoor.lattice
