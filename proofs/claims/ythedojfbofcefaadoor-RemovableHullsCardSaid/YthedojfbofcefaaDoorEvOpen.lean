/- From the row's world to the clean one: the arguments as the evaluator sees them; what the row asks of the world behind the call. -/
import Derived.Test.YthedojfbofcefaaDoorEvKnown
import Derived.Test.YthedojfbofcefaaDoorCards
import Derived.Test.YthedojfbofcefaaDoorTie
import Derived.WalkKit
import Derived.ProofKit
import Derived.OpenShut
import Derived.ReadAgain
import Derived.Deep.DeepHandedRow
import Derived.Lib.LaidTab
set_option linter.unusedSimpArgs false
set_option linter.unusedVariables false
namespace Go.Ev
open Go Go.Proofs Go.ChangeShapes Go.WideShapes Go.ChangeAt Go.RowKit
set_option maxRecDepth 100000

theorem ownKnobT : ownKnob Tryd.prog.godebug = none := by kernel_rfl
theorem gTab : Tryd.prog.globalNamed "math/bits.deBruijn64tab" = some 0 := by kernel_rfl
theorem gTabType : (Tryd.prog.globals[0]?).map (·.type) = some 103 := by kernel_rfl
theorem un103 : Tryd.prog.underlying 103 = some (.array 64 5) := by kernel_rfl
theorem cells103 : Tryd.prog.cellsOf 103 = 64 := by kernel_rfl
theorem cells5 : Tryd.prog.cellsOf 5 = 1 := by kernel_rfl
theorem cells3 : Tryd.prog.cellsOf 3 = 1 := by kernel_rfl
theorem kidsT : Kids Tryd.prog (· < Tryd.prog.types.size) := kids_rows (by kernel_rfl) (by kernel_rfl)
theorem fullT : ∀ t e, t < Tryd.prog.types.size → Tryd.prog.underlying t = some (.slice e) → 0 < Tryd.prog.cellsOf e := slices_full_of Tryd.prog (by kernel_rfl)
theorem sz103 : szA Tryd.prog 103 = some 64 := by kernel_rfl
theorem mixed : Tryd.prog.follows .mixedOrders = true := by kernel_rfl

/-! ### Behind the call -/
section
variable {H : Type} {enc : TypeId × Value → H}

theorem keptBut_of {W W' : World} {may : MemPlace → Prop} (hos : W'.os = W.os) (hout : W'.output = W.output) (hh : ∀ r, r < W.heap.size → W'.heap[r]? = W.heap[r]?) : W.keptBut W' may := by
  refine ⟨hos, hout, fun i hi => ?_⟩
  have := (World.keptBut_refl W may).2.2 i hi
  rw [hh i hi]; exact this

theorem sameAt_of {W W' : World} (hh : ∀ r, r < W.heap.size → W'.heap[r]? = W.heap[r]?) {p : MemPlace} (hp : p.block < W.heap.size) : W.sameAt W' p := by
  cases p with
  | cell b off =>
    show W'.cell? ⟨b, off, none⟩ = W.cell? ⟨b, off, none⟩
    unfold World.cell?
    rw [hh b hp]
  | map b => exact hh b hp

theorem trodAll_carry {P : Program} {w w' : World} {base : Nat} {spare : Nat → Bool} {held : Bool} : ∀ {ts : List TypeId} {vs : List Value} {ds : List (DataW H)} {ps : List MemPlace},
    DataW.TrodAll enc P w base spare held ts vs ds ps → (∀ p ∈ ps, w.sameAt w' p) → DataW.TrodAll enc P w' base spare held ts vs ds ps
  | [], [], [], _, h, _ => h
  | _ :: _, _ :: _, _ :: _, _, ⟨p, q, ⟨n, h1⟩, h2, e⟩, hs =>
    ⟨p, q, ⟨n, DataW.trod_carry n _ _ _ h1 fun x hx => hs x (by rw [e]; exact List.mem_append_left _ hx)⟩, trodAll_carry h2 (fun x hx => hs x (by rw [e]; exact List.mem_append_right _ hx)), e⟩

/-- What a law's row asks behind the call: true, and the arguments as they were. -/
theorem law_post {fn : Func} {s : ChangeSpec} (hvars : s.vars = []) (hres : fn.resultTypes = #[4]) (hpar : ∀ t ∈ fn.params.toList, t < Tryd.prog.types.size) {W W' : World} {args : Array Value} {ds gs : List (DataW H)} {before : List MemPlace}
    (hW : DataW.Whole enc Tryd.prog fn.params.toList s.vars false W args.toList ds gs before) (hsp : s.fn H (ds ++ gs) = { results := [.lit (.bool true)], args := ds })
    (hos : W'.os = W.os) (hout : W'.output = W.output) (hh : ∀ r, r < W.heap.size → W'.heap[r]? = W.heap[r]?) : s.post enc Tryd.prog fn false true false false W args (.bool true) W' := by
  have hlt := hW.lt
  have hW0 := hW
  obtain ⟨p, q, hA, hV, rfl, _, _⟩ := hW0
  refine ⟨ds, gs, p ++ q, [], p, [], hW, ?_, ?_, ?_, keptBut_of hos hout hh, fun h => by cases h⟩
  · rw [hsp, hres]
    exact trodAll_cons_mk (shut_bool un4 _) trodAll_mk0
  · rw [hsp]
    refine DataW.TrodAll.respare kidsT fullT hpar (trodAll_carry hA fun x hx => sameAt_of hh (hlt x (List.mem_append_left _ hx))) fun x hx => ?_
    simpa using hlt x (List.mem_append_left _ hx)
  · rw [hsp, hvars]; rfl
end

/-! ### Ahead of the call -/
/-- How an argument is seen: a block for what it holds, if it holds anything. -/
structure View (P : Program) (W : World) (v : Value) (xs : List (List Value)) (o : Option AObj) (im : Img) (av : Nat → Value) : Prop where
  val : ∀ φ id, φ id = some im → VR φ (av id) v
  blk : ∀ φ x, o = some x → OR P φ im (W.heap[im.blk]?) x ∧ wrO x = false
  sl : ∀ id (s : HS), s.hp.get id = o → id < s.nx → Sl s 1 (av id) xs

theorem lies_info {p : Program} {u : TypeId} (hu : ∀ m e, p.underlying u ≠ some (.array m e)) : ∀ {d : Nat} {e c off n : Nat}, liesAt p d e c off u n = true → p.cellsOf e ≠ 0 := by
  intro d e c off n h hz
  cases d with
  | zero => cases h
  | succ d =>
    unfold liesAt at h
    rw [Bool.or_eq_true] at h
    rcases h with h | h
    · unfold Program.depth at h
      unfold rowAt at h
      simp only [hz, if_true] at h
      cases h
    · split at h
      · rename_i m u' hmu; exact hu _ _ hmu
      · cases h

theorem sz_of_cells {p : Program} {e : TypeId} (h : p.cellsOf e ≠ 0) : ∃ n, szA p e = some n := by
  unfold Program.cellsOf at h
  unfold szA
  cases hi : p.info? e with
  | none => rw [hi] at h; exact absurd rfl h
  | some i => exact ⟨_, rfl⟩

/-- A slice of numbers. -/
theorem view_ints {P : Program} {W : World} {H : Type} {enc : TypeId × Value → H} {base b0 : Nat} {sp : Nat → Bool} {held : Bool} {t e : TypeId} {k : IntKind} {v : Value} {d : DataW H} {ps : List MemPlace}
    (ht : P.underlying t = some (.slice e)) (he : P.underlying e = some (.int k)) (hc : P.cellsOf e = 1) (hval : Value.okWide P W .any b0 t v) (hd : DataW.Trod enc P W base sp held t v d ps) :
    ∃ (zs : List Int) (o : Option AObj) (im : Img) (av : Nat → Value), View P W v (zs.map fun n => [.int k n]) o im av ∧ (∀ n ∈ zs, (Lit.int k n).wf = true) ∧ zs.length ≤ maxLen := by
  obtain ⟨fuel, hf⟩ := hd
  have hone : v.cells.toList = [v] := by
    unfold Value.okWide at hval
    rw [ht] at hval
    simp only at hval
    unfold Cell.okWide at hval
    rw [ht] at hval
    cases v <;> first | rfl | (simp [Cell.ok, ht] at hval; done)
  rcases open_ints ht he hc hf with ⟨hcs, _⟩ | ⟨a, len, cap, zs, hcs, _, hl, hm, hz, _, hcell, hwf⟩
  · rw [hone] at hcs
    obtain rfl := List.head_eq_of_cons_eq hcs
    refine ⟨[], none, ⟨0, 0, 0, 0⟩, fun _ => .slice none 0 0, ⟨fun φ id _ => .nilslice 0 0, fun φ x h => (by cases h), fun id s _ _ => Or.inl ⟨rfl, rfl⟩⟩, fun n h => (by cases h), Nat.zero_le _⟩
  · rw [hone] at hcs
    obtain rfl := List.head_eq_of_cons_eq hcs
    -- where the slice lies
    obtain ⟨row, c, fz, hspot, hblk, hsz⟩ : ∃ row c fz, a.spot = none ∧ W.heap[a.block]? = some (.cells c row fz) ∧ ∃ n, szA P row = some n := by
      unfold Value.okWide at hval
      rw [ht] at hval
      simp only at hval
      unfold Cell.okWide at hval
      rw [ht] at hval
      simp only [Cell.ok, ht] at hval
      obtain ⟨_, _, _, h1, row, cells, h2, h3⟩ := hval
      unfold World.shape? at h2
      split at h2
      · rename_i c elem fz hb
        cases h2
        refine ⟨_, c, fz, h1, hb, sz_of_cells (lies_info (fun m e' h => ?_) h3)⟩
        rw [he] at h; cases h
      · cases h2
    obtain ⟨n, hn⟩ := hsz
    obtain ⟨ab, aoff, aspot⟩ := a
    simp only at hspot hblk
    subst hspot
    have hcU : cap < UNK := by unfold maxLen at hm; unfold UNK; omega
    have hcl : ∀ i, i < zs.length → c[aoff + i]? = some (.int k (zs.getD i 0)) := fun i hi => by
      have := hcell i hi
      rw [add_plain] at this
      unfold World.cell? at this
      simp only [hblk] at this
      simpa using this
    have hlz : len ≤ zs.length := by rw [hz]; split <;> omega
    by_cases h0 : len = 0
    · subst h0
      refine ⟨[], some (.cells false row []), ⟨ab, 0, c.size, n⟩, fun id => .slice (some ⟨id, aoff, none⟩) 0 cap, ⟨fun φ id h => ?_, fun φ x h => ?_, fun id s h1 h2 => ?_⟩, fun n h => (by cases h), Nat.zero_le _⟩
      · have := VR.slice (φ := φ) id aoff 0 cap ⟨ab, 0, c.size, n⟩ h hcU
        simpa using this
      · cases h
        exact ⟨⟨hn, c, fz, hblk, by simp, Nat.zero_le _, fun i v h => (by simp at h), fun h => (by cases h)⟩, rfl⟩
      · exact Or.inr ⟨id, aoff, cap, false, row, [], rfl, h1, h2, fun i x h => by simp at h⟩
    · have hoff : aoff ≤ c.size := by
        have := (Array.getElem?_eq_some_iff.1 (hcl 0 (by omega))).1; omega
      have hend : aoff + len ≤ c.size := by
        have := (Array.getElem?_eq_some_iff.1 (hcl (len - 1) (by omega))).1; omega
      have hlen : (zs.take len).length = len := by rw [List.length_take]; omega
      refine ⟨zs.take len, some (.cells false row ((zs.take len).map fun n => .int k n)), ⟨ab, aoff, c.size - aoff, n⟩, fun id => .slice (some ⟨id, 0, none⟩) len cap, ⟨fun φ id h => ?_, fun φ x h => ?_, fun id s h1 h2 => ?_⟩, fun n h => hwf n (List.mem_of_mem_take h), by omega⟩
      · exact VR.slice (φ := φ) id 0 len cap ⟨ab, aoff, c.size - aoff, n⟩ h hcU
      · cases h
        refine ⟨⟨hn, c, fz, hblk, by show aoff + (c.size - aoff) = c.size; omega, by rw [List.length_map, hlen]; show len ≤ c.size - aoff; omega, fun i v h => ?_, fun h => (by cases h)⟩, rfl⟩
        rw [List.getElem?_map, Option.map_eq_some_iff] at h
        obtain ⟨z, h3, rfl⟩ := h
        have hi : i < len := by have := (List.getElem?_eq_some_iff.1 h3).1; omega
        rw [List.getElem?_take_of_lt hi] at h3
        refine ⟨.int k z, ?_, .int k z⟩
        show c[aoff + i]? = _
        rw [hcl i (by omega), List.getD_eq_getElem?_getD, h3]; rfl
      · refine Or.inr ⟨id, 0, cap, false, row, _, by rw [List.length_map, hlen], h1, h2, fun i x h => ?_⟩
        rw [List.getElem?_map, Option.map_eq_some_iff] at h
        obtain ⟨z, h3, rfl⟩ := h
        refine ⟨rfl, ?_⟩
        have hi : i < (zs.take len).length := (List.getElem?_eq_some_iff.1 h3).1
        unfold cutL
        rw [if_pos (by simp only [List.length_map]; omega)]
        rw [Nat.zero_add, Nat.mul_one, List.drop_eq_getElem_cons (by simpa using hi)]
        have h4 := (List.getElem?_eq_some_iff.1 h3).2
        simp only [List.getElem_map, h4, List.take_succ_cons, List.take_zero]

/-- The clean memory of two arguments. -/
def s2 (o1 o2 : Option AObj) : HS := ⟨((T.nil.put 0 (some tabB)).put 1 o1).put 2 o2, 3⟩
def φ2 (im1 im2 : Img) : Inj := fun id => if id = 0 then some ⟨0, 0, 64, 64⟩ else if id = 1 then some im1 else if id = 2 then some im2 else none

theorem s2_get (o1 o2 : Option AObj) (id : Nat) : (s2 o1 o2).hp.get id = if id = 2 then o2 else if id = 1 then o1 else if id = 0 then some tabB else none := by
  unfold s2
  simp only [T.get_put, T.get_nil]

theorem s2_glob (o1 o2 : Option AObj) : Glob (s2 o1 o2) := ⟨by unfold s2; simp, by rw [s2_get]; rfl⟩

/-- The program's variable, as the clean memory has it. -/
theorem tab_or {W : World} (hsh : W.ShapedOpen Tryd.prog) (hT : Lib.TabIs Tryd.prog W "math/bits.deBruijn64tab" .u8 tabL) (φ : Inj) : OR Tryd.prog φ ⟨0, 0, 64, 64⟩ (W.heap[0]?) tabB := by
  have hrow : ∃ zero, ((begin Tryd.prog (fun _ _ => 0) default).world.heap[0]?).bind Obj.row? = some (zero, 103) := by
    have h : (((begin Tryd.prog (fun _ _ => 0) default).world.heap[0]?).bind Obj.row?).map (·.2) = some 103 := by kernel_rfl
    cases hc : ((begin Tryd.prog (fun _ _ => 0) default).world.heap[0]?).bind Obj.row? with
    | none => rw [hc] at h; cases h
    | some x => rw [hc] at h; obtain ⟨z, t⟩ := x; cases h; exact ⟨z, rfl⟩
  obtain ⟨zero, hz⟩ := hrow
  obtain ⟨cs, hcs, _, _⟩ := hsh.1 0 zero 103 (by rw [globs]; decide) hz
  have hv : W.var? Tryd.prog "math/bits.deBruijn64tab" = some (tabL.map fun z => Value.int .u8 z).toArray := hT
  unfold World.var? at hv
  rw [gTab] at hv
  simp only [Option.bind_some, hcs, Option.some.injEq] at hv
  subst hv
  refine ⟨sz103, _, _, hcs, rfl, Nat.le_refl _, fun i v h => ?_, fun h => by cases h⟩
  refine ⟨v, ?_, ?_⟩
  · show (tabL.map fun z => Value.int .u8 z).toArray[0 + i]? = _
    rw [Nat.zero_add, List.getElem?_toArray]; exact h
  · rw [List.getElem?_map, Option.map_eq_some_iff] at h
    obtain ⟨z, _, rfl⟩ := h
    exact .int .u8 z

theorem hr2 {W : World} {v1 v2 : Value} {x1 x2 : List (List Value)} {o1 o2 : Option AObj} {im1 im2 : Img} {a1 a2 : Nat → Value} (hsh : W.ShapedOpen Tryd.prog) (hT : Lib.TabIs Tryd.prog W "math/bits.deBruijn64tab" .u8 tabL)
    (h1 : View Tryd.prog W v1 x1 o1 im1 a1) (h2 : View Tryd.prog W v2 x2 o2 im2 a2) : HR Tryd.prog (φ2 im1 im2) (s2 o1 o2) W := by
  have hwr : ∀ id o, (s2 o1 o2).hp.get id = some o → wrO o = false := fun id o h => by
    rw [s2_get] at h
    split at h
    · exact (h2.blk (φ2 im1 im2) o h).2
    · split at h
      · exact (h1.blk (φ2 im1 im2) o h).2
      · split at h
        · cases h; rfl
        · cases h
  refine ⟨fun id o h => ?_, fun i j oi oj mi mj a b _ _ _ hw => ?_, fun id o h => ?_, fun g hg => ?_, ?_⟩
  · rw [s2_get] at h
    split at h
    · rename_i e; subst e; exact ⟨im2, rfl, (h2.blk _ o h).1⟩
    · split at h
      · rename_i e; subst e; exact ⟨im1, rfl, (h1.blk _ o h).1⟩
      · split at h
        · rename_i e; subst e; cases h; exact ⟨_, rfl, tab_or hsh hT _⟩
        · cases h
  · rw [hwr i oi a, hwr j oj b] at hw; rcases hw with h | h <;> cases h
  · rw [s2_get] at h
    show id < 3
    split at h
    · omega
    · split at h
      · omega
      · split at h
        · omega
        · cases h
  · rw [globs] at hg
    obtain rfl : g = 0 := by omega
    exact ⟨_, rfl, rfl, rfl⟩
  · rw [globs]; show 1 ≤ 3; decide

theorem fresh2 (im1 im2 : Img) (n : Nat) : Fresh (φ2 im1 im2) 3 n := fun id h _ => by
  unfold φ2
  rw [if_neg (by omega), if_neg (by omega), if_neg (by omega)]

/-- From the clean run to the call. -/
theorem calls_of {W : World} {f : FuncId} {args args' : List Value} {im1 im2 : Img} {o1 o2 : Option AObj} (hH : HR Tryd.prog (φ2 im1 im2) (s2 o1 o2) W) (hl : LR (φ2 im1 im2) args args')
    (h : wpF Tryd.prog (s2 o1 o2).nx f args (s2 o1 o2) fun v _ => v = .bool true) :
    Calls Tryd.prog f args'.toArray W fun e W' => e = .returned (.bool true) ∧ W'.os = W.os ∧ W'.output = W.output ∧ ∀ r, r < W.heap.size → W'.heap[r]? = W.heap[r]? := by
  obtain ⟨n, v, s', h1, rfl⟩ := h
  refine (ev_calls Tryd.prog mixed h1 hH hl (Nat.le_refl _) (fresh2 im1 im2 _)).mono fun e W' hp => ?_
  obtain ⟨v', φ', rfl, hv, p⟩ := hp
  cases hv
  refine ⟨rfl, p.os, p.output, fun r hr => p.frame r hr fun id im hid hw _ => ?_⟩
  have hid' : 3 ≤ id := hid
  have := hw.ne
  rw [s2_get, if_neg (by omega), if_neg (by omega), if_neg (by omega)] at this
  exact absurd rfl this

theorem fieldsOf {P : Program} {t : TypeId} {fs : List Field} (h : fieldsA P t = some fs) : P.underlying t = some (.struct fs.toArray) := by
  unfold fieldsA at h
  split at h
  · rename_i f hf
    simp only [Option.some.injEq] at h
    subst h
    rw [hf]
  · cases h

def encU' (b : Nat) : List Value := [.int .u8 b]

theorem wf_u8 {n : Int} (h : (Lit.int .u8 n).wf = true) : 0 ≤ n ∧ n < 256 := by
  have h1 : IntKind.u8.min = 0 := rfl
  have h2 : IntKind.u8.max = 255 := rfl
  simp only [Lit.wf, Bool.and_eq_true, decide_eq_true_eq] at h
  omega

/-- A net: its number, and its list. -/
theorem view_net {W : World} {H : Type} {enc : TypeId × Value → H} {base b0 : Nat} {sp : Nat → Bool} {held : Bool} {v : Value} {d : DataW H} {ps : List MemPlace} (hval : Value.okWide Tryd.prog W .any b0 24 v) (hd : DataW.Trod enc Tryd.prog W base sp held 24 v d ps) :
    ∃ (nb : Nat) (c1 : Value) (bs : List Nat) (o : Option AObj) (im : Img) (av : Nat → Value), v = .agg #[.int .u8 nb, c1] ∧ View Tryd.prog W c1 (bs.map encU') o im av ∧ nb < 256 ∧ (∀ b ∈ bs, b < 256) ∧ bs.length ≤ maxLen := by
  have hs := fieldsOf (P := Tryd.prog) (t := 24) (fs := [{ name := "Nodes", type := 5, offset := 0, embedded := false, tag := "", pkgPath := "", byteOffset := 0 }, { name := "Edges", type := 22, offset := 1, embedded := false, tag := "", pkgPath := "", byteOffset := 8 }]) (by kernel_rfl)
  obtain ⟨fuel, hf⟩ := hd
  obtain ⟨y0, y1, n, _, hl, h0, h1⟩ := trod_struct2 hs hf
  have hc24 : Tryd.prog.cellsOf 24 = 2 := by kernel_rfl
  have hc22 : Tryd.prog.cellsOf 22 = 1 := by kernel_rfl
  unfold Value.okWide at hval
  rw [hs] at hval
  simp only at hval
  obtain ⟨cs, rfl, hsz, ts, hts, _, hrow⟩ := hval
  have hts2 : Tryd.prog.cellTypes Tryd.prog.depth 24 = some [5, 22] := by kernel_rfl
  rw [hts2] at hts
  obtain rfl := (Option.some.inj hts).symm
  rw [hc24] at hsz
  obtain ⟨l⟩ := cs
  match l, hsz with
  | [c0, c1], _ =>
    simp only [Value.cells, cells5, hc22] at h0 h1
    obtain ⟨z, hz, _, hwf⟩ := DataW.trod_int un5 (show DataW.trod enc Tryd.prog W base sp held n 5 [c0] = some y0 from h0)
    obtain rfl := List.head_eq_of_cons_eq hz
    obtain ⟨u, hu, hok⟩ := hrow 1 c1 rfl
    obtain rfl : u = 22 := (Option.some.inj (show some 22 = some u from hu)).symm
    have hval1 : Value.okWide Tryd.prog W .any b0 22 c1 := by
      unfold Value.okWide
      rw [un22]
      exact hok
    have hone : c1.cells.toList = [c1] := by
      unfold Cell.okWide at hok
      rw [un22] at hok
      cases c1 <;> first | rfl | (simp [Cell.ok, un22] at hok; done)
    obtain ⟨zs, o, im, av, hv, hwz, hlz⟩ := view_ints un22 un5 cells5 hval1 ⟨n, by rw [hone]; exact h1⟩
    have hzn := wf_u8 hwf
    refine ⟨z.toNat, c1, zs.map Int.toNat, o, im, av, by rw [Int.toNat_of_nonneg hzn.1], ?_, by omega, fun b hb => ?_, by rw [List.length_map]; exact hlz⟩
    · have : (zs.map fun n => [Value.int .u8 n]) = (zs.map Int.toNat).map encU' := by
        rw [List.map_map]
        refine List.map_congr_left fun x hx => ?_
        simp only [Function.comp, encU']
        rw [Int.toNat_of_nonneg (wf_u8 (hwz x hx)).1]
      rw [← this]; exact hv
    · obtain ⟨x, hx, rfl⟩ := List.mem_map.1 hb
      have := wf_u8 (hwz x hx); omega
end Go.Ev
