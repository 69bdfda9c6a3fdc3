/-
  RemovableHulls: for any net and any list of numbers the law returns true, and its arguments read behind the call as they read before; the row's listed variable reads as the program's text lays it.
-/
import Derived.Test.YthedojfbofcefaaDoorEvG11
import Derived.Test.YthedojfbofcefaaDoorEvOpen
set_option linter.unusedSimpArgs false
set_option linter.unusedVariables false
namespace Go.Proofs.YthedojfbofcefaaDoor.hulls
open Go Go.Ev Go.ChangeShapes Go.WideShapes Go.ChangeAt Go.RowKit
set_option maxRecDepth 100000

theorem table {W : World} (h : laidMetH Tryd.prog Rows.removableHullsRow.laid W) : Lib.TabIs Tryd.prog W "math/bits.deBruijn64tab" .u8 tabL :=
  Lib.tabIs_of_head (rest := []) gTab gTabType un103 un5 cells5 cells103 h

/-- The call, for every argument and every world that holds the table. -/
theorem contract (H : Type) (enc : TypeId × Value → H) (W : World) (base : Nat) (args : Array Value) (ds gs : List (DataW H)) (before : List MemPlace)
    (hval : ∀ (j : Nat) t v, Tryd.f5.params[j]? = some t → args[j]? = some v → Value.okWide Tryd.prog W .any base t v)
    (hW : DataW.Whole enc Tryd.prog Tryd.f5.params.toList Rows.removableHullsSpec.vars false W args.toList ds gs before) (hL : laidMetH Tryd.prog Rows.removableHullsRow.laid W) (hsh : W.ShapedOpen Tryd.prog) :
    Calls Tryd.prog 5 args W fun e W' => ∃ v, e = .returned v ∧ Rows.removableHullsSpec.post enc Tryd.prog Tryd.f5 false true false false W args v W' := by
  have hW' := hW
  obtain ⟨p, q, hA0, hV, rfl, hfz, hnd⟩ := hW
  have hA : DataW.TrodAll enc Tryd.prog W 0 (fun _ => true) true Tryd.f5.params.toList args.toList ds p := hA0
  have hpar : Tryd.f5.params = #[24, 35] := by kernel_rfl
  rw [hpar] at hA hval
  obtain ⟨v0, v1, d0, d1, p0, p1, rfl, rfl, rfl, h0, h1⟩ := trodAll_two hA
  obtain ⟨rfl, rfl⟩ := trodVars_none hV
  obtain ⟨nb, c1, bs, o1, im1, a1, rfl, hv1, hnb, hbs, hbl⟩ := view_net (hval 0 24 v0 rfl rfl) h0
  obtain ⟨zs, o2, im2, a2, hv2, _, hzl⟩ := view_ints un35 un3 cells3 (hval 1 35 v1 rfl rfl) h1
  have hT := table hL
  have hH := hr2 hsh hT hv1 hv2
  have hs1 : Sl (s2 o1 o2) 1 (a1 1) (bs.map encU) := hv1.sl 1 _ (by rw [s2_get]; rfl) (by show 1 < 3; decide)
  have hs2 : Sl (s2 o1 o2) 1 (a2 2) (zs.map encI) := hv2.sl 2 _ (by rw [s2_get]; rfl) (by show 2 < 3; decide)
  have hl : LR (φ2 im1 im2) [.agg #[.int .u8 nb, a1 1], a2 2] [.agg #[.int .u8 nb, c1], v1] := by
    refine ⟨rfl, fun i v v' h h' => ?_⟩
    match i, h, h' with
    | 0, h, h' =>
      cases h; cases h'
      refine VR.agg _ _ rfl fun j x x' hx hx' => ?_
      match j, hx, hx' with
      | 0, hx, hx' => cases hx; cases hx'; exact .int .u8 _
      | 1, hx, hx' => cases hx; cases hx'; exact hv1.val _ 1 rfl
    | 1, h, h' => cases h; cases h'; exact hv2.val _ 2 rfl
  refine (calls_of hH hl (f5_spec nb bs (a1 1) zs (a2 2) (s2 o1 o2) (s2_glob o1 o2) hs1 hs2 hbs hnb)).mono fun e W' ⟨he, hos, hout, hh⟩ => ?_
  subst he
  exact ⟨_, rfl, law_post rfl (by kernel_rfl) (by rw [hpar]; decide +kernel) hW' rfl hos hout hh⟩

/-- A world for the witness: the settled one, the table (block 0) holding what its initialiser lays. -/
noncomputable def laidWorld (os : Os) : World :=
  { World.holding Tryd.prog os ⟨#[], #[], []⟩ with heap := (World.holding Tryd.prog os ⟨#[], #[], []⟩).heap.modify 0 fun
      | .cells _ t frozen => .cells (tabL.map fun n => Value.int .u8 n).toArray t frozen
      | o => o }
noncomputable def wargs : Array Value := #[.agg #[.int .u8 0, .slice none 0 0], .slice none 0 0]
theorem laid_met (os : Os) : laidMet Tryd.prog Rows.removableHullsRow.laid ((laidWorld os).forCall (fun _ _ => 0) ⟨#[], wargs, []⟩).memory :=
  laidMet_of_run' 8 (by kernel_rfl) (by kernel_rfl)
theorem reads (os : Os) {H : Type} (enc : TypeId × Value → H) : ∃ places, DataW.whole enc Tryd.prog ((laidWorld os).forCall (fun _ _ => 0) ⟨#[], wargs, []⟩).memory Tryd.f5.params.toList Rows.removableHullsSpec.vars false wargs.toList 8 = some ([.agg [.lit (.int .u8 0), .nil], .nil], [], places) :=
  ⟨[], by kernel_rfl⟩

theorem lifted (os : Os) (started : os.Started) (H : Type) (enc : TypeId × Value → H) (F : Stop.Interp) :
    ReturnsInHanded {} Tryd.checked os 5 .any ((OpenSpec.ofChange Rows.removableHullsSpec).preRow enc Tryd.prog Tryd.f5 Rows.removableHullsRow.domain false Rows.removableHullsRow.laid) (((OpenSpec.ofChange Rows.removableHullsSpec).at F).post enc Tryd.prog Tryd.f5 false true false false) := by
  obtain ⟨places, hx⟩ := reads os enc
  refine returnsInHanded_of_row (C := Tryd.checked) (s := OpenSpec.ofChange Rows.removableHullsSpec) ownKnobT started (by kernel_rfl) Tryd.func5
    (witness_row_at (enc := enc) (C := Tryd.checked) false (laidWorld os) wargs rfl (by kernel_rfl) (by kernel_rfl) (by kernel_rfl)
      (OpenSpec.preRow_of_cond 8 hx (by kernel_rfl) (fun k hk => by cases hk) (by kernel_rfl) (laid_met os))) ?_
  intro W base args ds gs before hval hW _ _ _ hL hsh _
  exact contract H enc W base args ds gs before hval hW hL hsh

theorem said : Rows.RemovableHullsSaid :=
  OpenClaim.holds_of_cond 5 Tryd.f5 rfl rfl rfl rfl rfl rfl rfl ⟨rfl, rfl, rfl, rfl, rfl⟩ rfl rfl rfl rfl rfl (by kernel_rfl) Tryd.func5 (by kernel_rfl)
    (of_decide_eq_true (by kernel_rfl)) (by unfold Func.isWrapper; first | (rw [if_pos (by decide +kernel)]; kernel_rfl) | (rw [if_neg (by decide +kernel)]; exact ⟨rfl, rfl⟩))
    (fun os started H enc _ F => by rw [OpenClaim.pre_eq_preRow]; exact lifted os started H enc F)

/-- No parameter wants a stand-in; the program's own looks are off. -/
theorem plain (f : FuncId) (fn : Func) (hf : Tryd.pinned.checked.prog.funcNamed "dowel/dowellaw24.RemovableHulls" = some f) (hfn : Tryd.pinned.checked.prog.funcs[f]? = some fn) :
    false = Tryd.pinned.checked.prog.looks [] ∧ ∀ (j : Nat) t, fn.params[j]? = some t → Tryd.pinned.checked.prog.wantsStandIn t = false := by
  obtain rfl : f = 5 := Option.some.inj ((show Tryd.prog.funcNamed "dowel/dowellaw24.RemovableHulls" = some 5 by kernel_rfl).symm.trans hf) |>.symm
  obtain rfl : fn = Tryd.f5 := (Option.some.inj (Tryd.func5.symm.trans hfn)).symm
  have hpar : Tryd.f5.params = #[24, 35] := by kernel_rfl
  refine ⟨by kernel_rfl, fun j t ht => ?_⟩
  rw [hpar] at ht
  have hm := Array.mem_of_getElem? ht
  simp only [List.mem_toArray, List.mem_cons, List.not_mem_nil, or_false] at hm
  rcases hm with rfl | rfl
  · exact (show Tryd.prog.wantsStandIn 24 = false by kernel_rfl)
  · exact (show Tryd.prog.wantsStandIn 35 = false by kernel_rfl)

/-- The card. -/
theorem card : Rows.RemovableHullsCardSaid :=
  Claim7.holds_tied_plain_at .later [] _ _ _ _ said (fun _ h => by cases h) (by kernel_rfl) (fun _ h => by cases h) removableHulls_row_tie rfl ⟨rfl, rfl⟩ (by kernel_rfl) rfl plain (by kernel_rfl)
end Go.Proofs.YthedojfbofcefaaDoor.hulls
