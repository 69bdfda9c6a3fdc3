/- Code carried out: the clean run and the model's, all of it. -/
import Derived.Test.YthedojfbofcefaaDoorEvDraw
import Derived.RangeFuncNested
namespace Go.Ev
open Go
variable {P : Program} {R : Rec} {φ : Inj} {sz lk B : Nat} {ro : Option Nat} {fr : Fr} {s : HS} {a : Act} {w : World}

/-! ### More on what a run may have done -/
/-- The model lays a block that the clean state does not know. -/
theorem Post.grow (H : HR P φ s w) (ob : Obj) : Post P φ lk s w φ s (w.alloc ob) := by
  have hget : ∀ k, k < w.heap.size → (w.alloc ob).heap[k]? = w.heap[k]? := fun k hk => by
    show (w.heap.push ob)[k]? = _
    rw [Array.getElem?_push, if_neg (by omega)]
  exact {
    ext := Sub.refl φ
    out := fun _ _ => rfl
    rel := {
      obj := fun id x hx => by
        obtain ⟨im, h1, h2⟩ := H.obj id x hx
        exact ⟨im, h1, by rw [hget _ (H.lt hx h1)]; exact h2⟩
      inj := H.inj
      bnd := H.bnd
      glob := H.glob
      nxg := H.nxg }
    nx := Nat.le_refl _
    live := fun _ _ h => h
    livw := fun _ _ h => h
    lock := fun _ _ => rfl
    keep := fun _ L h => ⟨L, h⟩
    os := rfl
    tape := rfl
    output := rfl
    size := by simp
    frame := fun r hr _ => hget r hr
    news := fun id im a b _ => by
      obtain ⟨o, ho⟩ := Option.ne_none_iff_exists'.1 b
      have := H.bnd id o ho; omega }

/-- A block of the run's own is given up, and turned. -/
theorem Post.kill {φ' : Inj} {s' : HS} {w' : World} (H0 : HR P φ s w) (p : Post P φ lk s w φ' s' w') {id : Nat} {o : AObj} {im : Img} (hid : s.nx ≤ id) (hl : lk ≤ s.nx) (ho : s'.hp.get id = some o) (hw : wrO o = true) (hi : φ' id = some im) (ob : Obj) :
    Post P φ lk s w φ' { s' with hp := s'.hp.put id none } (setB w' im.blk ob) := by
  have H := p.rel
  have hne : ∀ j oj mj, j ≠ id → s'.hp.get j = some oj → φ' j = some mj → mj.blk ≠ im.blk := fun j oj mj hj h1 h2 => H.inj j id oj o mj im h1 ho h2 hi hj (Or.inr hw)
  exact {
    ext := p.ext
    out := p.out
    rel := {
      obj := fun j x hx => by
        simp only [T.get_put] at hx
        split at hx
        · cases hx
        · rename_i hj
          obtain ⟨m, h1, h2⟩ := H.obj j x hx
          exact ⟨m, h1, by rw [setB_other (hne j x m hj hx h1)]; exact h2⟩
      inj := (H.del id).inj
      bnd := (H.del id).bnd
      glob := H.glob
      nxg := H.nxg }
    nx := p.nx
    live := fun j hj h => p.live j hj (by
      simp only [T.get_put] at h
      rwa [if_neg (by omega)] at h)
    livw := fun j hj h => p.livw j hj (h.of_eq (T.get_put_ne _ _ _ (by omega)))
    lock := fun j hj => by
      show (s'.hp.put id none).get j = _
      rw [T.get_put_ne _ _ _ (by omega)]; exact p.lock j hj
    keep := fun j L e => by
      obtain ⟨L', e'⟩ := p.keep j L e
      have := H0.bnd j _ e
      exact ⟨L', by show (s'.hp.put id none).get j = _; rw [T.get_put_ne _ _ _ (by omega)]; exact e'⟩
    os := p.os
    tape := p.tape
    output := p.output
    size := by simp [setB]; exact p.size
    frame := fun r hr hno => by
      have : r ≠ im.blk := fun e => by
        rcases p.news id im hid (by rw [ho]; simp) hi with h | ⟨i0, m0, h1, h2, h3, h4⟩
        · omega
        · exact hno i0 m0 h1 h2 h3 (h4.trans e.symm)
      rw [setB_other this]; exact p.frame r hr hno
    news := fun j m h1 h2 h3 => by
      simp only [T.get_put] at h2
      split at h2
      · simp at h2
      · exact p.news j m h1 h2 h3 }

/-! ### A function's end -/
theorem Post.shut {φ' : Inj} {s' : HS} {w' : World} (p : Post P φ lk s w φ' s' w') {r : Nat} (hr : w.heap.size ≤ r) (hno : ∀ id im, s'.hp.get id ≠ none → φ' id = some im → im.blk ≠ r) (ob : Obj) :
    Post P φ lk s w φ' s' (setB w' r ob) := by
  have H := p.rel
  exact {
    ext := p.ext
    out := p.out
    rel := {
      obj := fun j x hx => by
        obtain ⟨m, h1, h2⟩ := H.obj j x hx
        exact ⟨m, h1, by rw [setB_other (hno j m (by rw [hx]; simp) h1)]; exact h2⟩
      inj := H.inj
      bnd := H.bnd
      glob := H.glob
      nxg := H.nxg }
    nx := p.nx
    live := p.live
    livw := p.livw
    lock := p.lock
    keep := p.keep
    os := p.os
    tape := p.tape
    output := p.output
    size := by simp [setB]; exact p.size
    frame := fun k hk hno' => by rw [setB_other (by omega)]; exact p.frame k hk hno'
    news := p.news }

theorem DefOK.shut {r : Nat} {ob : Obj} : ∀ {ds : List Deferred}, (∀ d ∈ ds, d.target ≠ .collected r) → DefOK φ s w B ds → DefOK φ s (setB w r ob) B ds
  | [], _, _ => trivial
  | d :: ds, hd, ⟨⟨q, h1, h2, h3, h4, h5⟩, h6⟩ => by
    have hq : q ≠ r := fun e => hd d (by simp) (by rw [h1, e])
    exact ⟨⟨q, h1, h2, by rw [setB_other hq]; exact h3, h4, h5⟩, DefOK.shut (fun d' hd' => hd d' (by simp [hd'])) h6⟩

def resSem (tmps : Array Value) : ResultVar → Sem Value
  | .tmp t => pure (tmps.getD t undef)
  | .cell a t => do loadVar t (← asAddr (tmps.getD a undef))

theorem results_eq (fn : Func) (tmps : Array Value) : results fn tmps = (do let vs ← fn.results.mapM (resSem tmps); pure (if h : vs.size = 1 then vs[0] else .tuple vs) : Sem Value) := by
  have e : (fun (r : ResultVar) => match r with | .tmp t => pure (tmps.getD t undef) | .cell a t => do loadVar t (← asAddr (tmps.getD a undef)) : ResultVar → Sem Value) = resSem tmps := by
    funext r; cases r <;> rfl
  rw [← e]; rfl

theorem resVar_sound (H : HR P φ s w) {tmps : Array Value} (F : FrR φ sz fr tmps) {r : ResultVar} {v : Value} (h1 : resA P fr s.hp r = some v) : ∃ v', VR φ v v' ∧ (resSem tmps r).run P w = .ok v' w := by
  cases r with
  | tmp t =>
    obtain ⟨v', e1, e2⟩ := F.2 t v h1
    exact ⟨v', e2, by simp [resSem, e1]⟩
  | cell a t =>
    simp only [resA] at h1
    obtain ⟨p, e1, e2⟩ := bind_inv h1
    obtain ⟨p', e3, e4⟩ := F.2 a p e1
    obtain ⟨v', e5, e6⟩ := loadV_sound H e4 e2
    refine ⟨v', e6, ?_⟩
    have hp : ∃ ad, p' = .pointer (some ad) := by
      unfold loadV at e2
      split at e2
      · cases e4; exact ⟨_, rfl⟩
      · cases e2
    obtain ⟨ad, rfl⟩ := hp
    simp only [resSem, Array.getD_eq_getD_getElem?, e3, Option.getD_some]
    simpa [Instr.loadAt, Instr.sureAddr, asAddr] using e5

theorem resA_sound (H : HR P φ s w) {tmps : Array Value} (F : FrR φ sz fr tmps) : ∀ {rs : List ResultVar} {vs : List Value}, omap (resA P fr s.hp) rs = some vs →
    ∃ vs', LR φ vs vs' ∧ (rs.mapM (resSem tmps)).run P w = .ok vs' w := by
  intro rs
  induction rs with
  | nil => intro vs h; simp only [omap, Option.some.injEq] at h; subst h; exact ⟨[], LR.nil φ, rfl⟩
  | cons r rs ih =>
    intro vs h
    simp only [omap] at h
    obtain ⟨v, h1, h2⟩ := bind_inv h
    obtain ⟨us, h3, h4⟩ := bind_inv h2
    cases h4
    obtain ⟨us', l1, r1⟩ := ih h3
    obtain ⟨v', k1, k2⟩ := resVar_sound H F h1
    refine ⟨v' :: us', LR.cons k1 l1, ?_⟩
    rw [List.mapM_cons]
    simp only [Sem.run_bind, k2, Result.andThen_ok, r1, Sem.run_pure]

theorem results_sound (H : HR P φ s w) {tmps : Array Value} (F : FrR φ sz fr tmps) {fn : Func} {vs : List Value} (h : omap (resA P fr s.hp) fn.results.toList = some vs) :
    ∃ v', (results fn tmps).run P w = .ok v' w ∧ VR φ (packR vs) v' := by
  obtain ⟨vs', l1, r1⟩ := resA_sound H F h
  rw [results_eq, Array.mapM_eq_mapM_toList]
  refine ⟨if h : vs'.toArray.size = 1 then vs'.toArray[0] else .tuple vs'.toArray, ?_, ?_⟩
  · simp only [Sem.run_bind, Sem.run_map, r1, Result.andThen_ok, Sem.run_pure]
  · match vs, l1 with
    | [], l1 => have := l1.nil_inv; subst this; exact VR.plain 1 _ rfl
    | [v], l1 =>
      obtain ⟨y, ys, rfl, h1, h2⟩ := l1.cons_inv
      have := h2.nil_inv; subst this
      exact h1
    | v1 :: v2 :: vs, l1 =>
      obtain ⟨y, ys, rfl, h1, h2⟩ := l1.cons_inv
      obtain ⟨z, zs, rfl, h3, h4⟩ := h2.cons_inv
      rw [dif_neg (by simp)]
      exact VR.tuple' l1

theorem leavesM {n : Nat} {fn : Func} {φ' : Inj} {s' : HS} {tmps : Array Value} {vs : List Value} {v : Value} (F : FrR φ' sz fr tmps) (hr : omap (resA P fr s'.hp) fn.results.toList = some vs)
    (hv : v = packR vs) : ∀ (ds : List Deferred) (w' : World), Post P φ lk s w φ' s' w' → DefOK φ' s' w' w.heap.size ds →
    LeavesInM (Fn ro) n P fn tmps (CPost P φ lk s w v s') ds .returning w' := by
  intro ds
  induction ds with
  | nil =>
    intro w' p _
    obtain ⟨v', h1, h2⟩ := results_sound p.rel F hr
    exact ⟨v', h1, v', φ', rfl, by rw [hv]; exact h2, p⟩
  | cons d ds ih =>
    intro w' p hd
    obtain ⟨⟨r, h1, h2, h3, h4, h5⟩, h6⟩ := hd
    refine ⟨by simp, Or.inl ⟨r, setB w' r (.deferred none), h1, run_takeDeferred h3, ?_⟩⟩
    exact ih _ (p.shut h2 h4 _) (DefOK.shut h5 h6)

/-! ### The parameters of a call -/
theorem get_paramsA : ∀ (vs : List Value) (fr : Fr) (i t : Nat), (paramsA fr vs i).get t = if i ≤ t ∧ t < i + vs.length then vs[t - i]? else fr.get t := by
  intro vs
  induction vs with
  | nil => intro fr i t; simp only [paramsA, List.length_nil]; rw [if_neg (by omega)]
  | cons v vs ih =>
    intro fr i t
    simp only [paramsA, List.length_cons]
    rw [ih]
    by_cases h1 : i + 1 ≤ t ∧ t < i + 1 + vs.length
    · rw [if_pos h1, if_pos (by omega), show t - i = (t - (i + 1)) + 1 by omega]; rfl
    · rw [if_neg h1, T.get_put]
      by_cases h2 : t = i
      · subst h2; rw [if_pos rfl, if_pos (by omega), Nat.sub_self]; rfl
      · rw [if_neg h2, if_neg (by omega)]

theorem params_rel {args args' : List Value} (h : LR φ args args') {n : Nat} (hn : args.length ≤ n) : FrR φ n (paramsA .nil args 0) (args'.toArray ++ Array.replicate (n - args'.toArray.size) undef) := by
  have hl := h.1
  refine ⟨by simp; omega, fun t v e => ?_⟩
  rw [get_paramsA] at e
  split at e
  · rename_i ht
    obtain ⟨v', h1, h2⟩ := h.get e
    refine ⟨v', ?_, h2⟩
    rw [Array.getElem?_append_left (by simp; omega)]
    simpa using h1
  · cases e

theorem parA_rel : ∀ {ps : List (Tmp × Value)} {ps' : List (Tmp × Value)} {fr fr' : Fr} {tmps : Array Value}, ps.length = ps'.length →
    (∀ (i : Nat) (t : Tmp) (v : Value), ps[i]? = some (t, v) → ∃ v', ps'[i]? = some (t, v') ∧ VR φ v v') → FrR φ sz fr tmps → parA fr sz ps = some fr' →
    FrR φ sz fr' (ps'.foldl (fun (tmps : Array Value) (p : Tmp × Value) => tmps.setIfInBounds p.1 p.2) tmps) := by
  intro ps
  induction ps with
  | nil =>
    intro ps' fr fr' tmps hl hr F h
    have : ps' = [] := List.length_eq_zero_iff.1 hl.symm
    subst this
    cases h; exact F
  | cons p ps ih =>
    intro ps' fr fr' tmps hl hr F h
    obtain ⟨t, v⟩ := p
    cases ps' with
    | nil => simp at hl
    | cons p' ps' =>
      obtain ⟨v', h1, h2⟩ := hr 0 t v rfl
      simp only [List.getElem?_cons_zero, Option.some.injEq] at h1; subst h1
      simp only [parA] at h
      split at h
      · rename_i ht
        exact ih (ps' := ps') (by simpa using hl) (fun i t v hi => hr (i + 1) t v hi) (F.put ht h2) h
      · cases h


/-! ### Code -/
theorem opsA_sound (hR : RecOK P R) (hm : MonoR R) {n : Nat} {ops : Array Oper} {Q : Exit → Act → World → Prop} : ∀ (os : List Oper) (k : Nat) (φ : Inj) (fr fr' : Fr) (s s' : HS) (a : Act) (w : World), ops.toList.drop k = os →
    Cx P φ sz lk B ro fr s a w → Fresh φ s.nx s'.nx → opsA P R lk sz ops.toList os fr s = some (fr', s') →
    (∀ a' w' φ', Post P φ lk s w φ' s' w' → Cx P φ' sz lk B ro fr' s' a' w' → Q .normal a' w') → wpOpsIn (Fn ro) n P ops Q (List.range' k os.length) a w := by
  intro os
  induction os with
  | nil => intro k φ fr fr' s s' a w _ c _ h hq; cases h; exact hq a w φ (Post.refl c.hr) c
  | cons o os ih =>
    intro k φ fr fr' s s' a w hd c hfr h hq
    obtain ⟨⟨fr1, s1⟩, h1, h2⟩ := bind_inv h
    have hn1 := stepA_nx hm h1
    have hn2 := opsA_nx hm h2
    have ho : ops[k]? = some o := by
      have : (ops.toList.drop k)[0]? = some o := by rw [hd]; rfl
      simpa using this
    simp only [List.length_cons, List.range'_succ]
    rw [wpOpsIn_cons]
    refine stepA_sound hR ho c.hr c.fr c.lk (hfr.left hn2) h1 (fun v v' φ1 w1 _ hp hf _ => ?_)
    have c1 : Cx P φ1 sz lk B ro fr1 s1 (a.put o.dst v') w1 := c.post hp hf (put_defers a o.dst v')
    refine ih (k + 1) φ1 fr1 fr' s1 s' _ w1 ?_ c1 (hfr.after hp) h2 (fun a' w' φ' p' c' => hq a' w' φ' (hp.trans p') c')
    rw [← List.drop_drop, hd]; rfl

def exitOf : Sig → Exit
  | .normal => .normal
  | .exit id => .exit id
  | .ret => .ret

theorem loop_put {φ : Inj} {s : HS} {w : World} (H : HR P φ s w) {l : Nat} {L L' : ALoop} {im : Img} {r' : Loop} (hl : lk ≤ l) (hg : s.hp.get l = some (.loop L)) (hi : φ l = some im) (hr : LoopR φ L' r') :
    Post P φ lk s w φ { s with hp := s.hp.put l (some (.loop L')) } (setB w im.blk (.loop r')) :=
  Post.set (o := .loop L') (ob := .loop r') H hl hg rfl hi ⟨r', rfl, hr⟩ (fun _ _ => ⟨L', rfl⟩)

theorem loop_get {φ : Inj} {s : HS} {w : World} (H : HR P φ s w) {l : Nat} {L : ALoop} {im : Img} (hg : s.hp.get l = some (.loop L)) (hi : φ l = some im) : ∃ r, w.heap[im.blk]? = some (.loop r) ∧ LoopR φ L r := by
  obtain ⟨im', e1, e2⟩ := H.obj _ _ hg
  rw [hi] at e1; cases e1
  exact e2

theorem loopAt_get {h : T AObj} {l : Nat} {L : ALoop} (e : loopAt h l = some L) : h.get l = some (.loop L) := by
  unfold loopAt at e
  split at e
  · cases e; assumption
  · cases e

theorem putObj_eq (w : World) (r : Nat) (o : Obj) : w.putObj r o = setB w r o := rfl

theorem DefOK.kill {id : Nat} {o : AObj} {im : Img} {ob : Obj} (ho : s.hp.get id = some o) (hi : φ id = some im) : ∀ {ds : List Deferred}, DefOK φ s w B ds → DefOK φ { s with hp := s.hp.put id none } (setB w im.blk ob) B ds
  | [], _ => trivial
  | d :: ds, ⟨⟨r, h1, h2, h3, h4, h5⟩, h6⟩ => by
    have hne := h4 id im (by rw [ho]; simp) hi
    refine ⟨⟨r, h1, h2, by rw [setB_other (Ne.symm hne)]; exact h3, fun j m hj hm => h4 j m ?_ hm, h5⟩, DefOK.kill ho hi h6⟩
    simp only [T.get_put] at hj
    split at hj
    · simp at hj
    · exact hj

def CodeOK (P : Program) (R : Rec) (c : Code) : Prop :=
  ∀ {lk sz : Nat} {fr : Fr} {s : HS} {sig : Sig} {fr' : Fr} {s' : HS}, codeA P R lk sz c fr s = some (sig, fr', s') → ∀ {φ : Inj} {a : Act} {w : World} {B : Nat} {ro : Option Nat} {Q : Exit → Act → World → Prop} (n : Nat),
    Cx P φ sz lk B ro fr s a w → B ≤ w.heap.size → Fresh φ s.nx s'.nx → (∀ a' w' φ', Post P φ lk s w φ' s' w' → Cx P φ' sz lk B ro fr' s' a' w' → Q (exitOf sig) a' w') → c.wpIn (Fn ro) n P Q a w

theorem codeA_sound (hR : RecOK P R) (hm : MonoR R) (hab : AbR R) (hmix : P.follows .mixedOrders = true) : ∀ c : Code, CodeOK P R c := by
  intro c
  induction c with
  | skip => intro lk sz fr s sig fr' s' h φ a w B ro Q n c _ _ hq; cases h; exact wpIn_skip (hq a w φ (Post.refl c.hr) c)
  | label l => intro lk sz fr s sig fr' s' h φ a w B ro Q n c _ _ hq; cases h; exact wpIn_label (hq a w φ (Post.refl c.hr) c)
  | region id ops draw =>
    intro lk sz fr s sig fr' s' h φ a w B ro Q n c hB hfr hq
    cases draw with
    | false =>
      obtain ⟨⟨f1, s1⟩, h1, h2⟩ := map_inv h
      simp only [Prod.mk.injEq] at h2
      obtain ⟨rfl, rfl, rfl⟩ := h2
      have := opsA_sound (Q := Q) (n := n) (ops := ops) hR hm ops.toList 0 φ fr f1 s s1 a w (by simp) c hfr h1 hq
      refine wpIn_region ?_
      rw [List.range_eq_range', ← Array.length_toList]; exact this
    | true =>
      obtain ⟨pl, h0, h⟩ := bind_inv h
      obtain ⟨⟨f1, s1⟩, h1, h2⟩ := map_inv h
      cases h2
      exact drawA_sound hR hab hmix h0 h1 c hfr hq
  | seq x y ihx ihy =>
    intro lk sz fr s sig fr' s' h φ a w B ro Q n c hB hfr hq
    obtain ⟨⟨sg, f1, s1⟩, h1, h2⟩ := bind_inv h
    have n1 := codeA_nx hm h1
    refine wpIn_seq ?_
    cases sg with
    | normal =>
      have n2 := codeA_nx hm h2
      refine ihx h1 n c hB (hfr.left n2) (fun a1 w1 φ1 p1 c1 => ?_)
      exact ihy h2 n c1 (Nat.le_trans hB p1.size) (hfr.after p1) (fun a' w' φ' p' c' => hq a' w' φ' (p1.trans p') c')
    | exit i => cases h2; exact ihx h1 n c hB hfr hq
    | ret => cases h2; exact ihx h1 n c hB hfr hq
  | cond x b1 b2 ih1 ih2 =>
    intro lk sz fr s sig fr' s' h φ a w B ro Q n c hB hfr hq
    obtain ⟨v, h1, h2⟩ := bind_inv h
    split at h2
    · rename_i t
      have hv := opdA_sound c.hr c.fr h1
      generalize hx : a.eval x = y at hv
      cases hv
      refine wpIn_cond hx ?_
      cases t with
      | true => exact ih1 (by simpa using h2) n c hB hfr hq
      | false => exact ih2 (by simpa using h2) n c hB hfr hq
    · cases h2
  | block id b ih =>
    intro lk sz fr s sig fr' s' h φ a w B ro Q n c hB hfr hq
    obtain ⟨⟨sg, f1, s1⟩, h1, h2⟩ := map_inv h
    refine wpIn_block ?_
    cases sg with
    | normal => cases h2; exact ih h1 n c hB hfr hq
    | exit i =>
      simp only at h2
      split at h2
      · rename_i hi
        cases h2
        refine ih h1 n c hB hfr (fun a' w' φ' p' c' => ?_)
        show Exit.inBlock id Q (.exit i) a' w'
        simp only [Exit.inBlock, hi, if_true]
        exact hq a' w' φ' p' c'
      · rename_i hi
        cases h2
        refine ih h1 n c hB hfr (fun a' w' φ' p' c' => ?_)
        show Exit.inBlock id Q (.exit i) a' w'
        simp only [Exit.inBlock, hi, if_false]
        exact hq a' w' φ' p' c'
    | ret => cases h2; exact ih h1 n c hB hfr hq
  | loop b ih =>
    intro lk sz fr s sig fr' s' h φ a w B ro Q n c hB hfr hq
    obtain ⟨m, hm'⟩ := hR.loop h
    exact wpIn_loop_rounds m (hm' n c hB hfr (fun a' w' φ' p' c' => by
      have := hq a' w' φ' p' c'
      cases sig <;> exact this))
  | rangeFunc f ps assign body ih1 ih2 =>
    intro lk sz fr s sig fr' s' h φ a w B ro Q n c hB hfr hq
    obtain ⟨fv, h1, h⟩ := bind_inv h
    obtain ⟨⟨v, s2⟩, h2, h3⟩ := bind_inv h
    simp only at h3
    have hv := opdA_sound c.hr c.fr h1
    split at h2
    · rename_i g fi ca
      generalize hx : a.eval f = y at hv
      cases hv with
      | func _ _ _ fi' _ ca' hfn s1' h1' s2' h2' =>
      cases hfn
      -- what comes behind the loop
      have hnx : s2.nx = s'.nx := by
        revert h3; repeat' split
        all_goals intro h3
        all_goals first | (cases h3; done) | (simp only [Option.some.injEq, Prod.mk.injEq] at h3; obtain ⟨_, _, rfl⟩ := h3; rfl)
      have hs2 : s.nx + 1 ≤ s2.nx := hm.call h2
      have hf : φ s.nx = none := hfr s.nx (Nat.le_refl _) (by omega)
      refine wpIn_rangeFunc (fun fn _ => ?_)
      -- the record
      have start : ∃ (w1 : World) (mark : List Deferred) (dl : Nat), Post P φ lk s w φ s w1 ∧ DefOK φ s w1 B (mark ++ a.defers) ∧
          (Instr.enterLoop fn a.tmps ps assign body (Fn ro).round).run P w = .ok (w1.heap.size, mark) (w1.alloc (.loop { state := .ready, pending := none, fn, tmps := a.tmps, params := ps, assign, body, defers := dl })) := by
        cases ro with
        | none =>
          have p0 := Post.grow (lk := lk) c.hr (.deferred (some []))
          refine ⟨w.alloc (.deferred (some [])), [{ target := .collected w.heap.size, args := #[] }], w.heap.size, p0, ⟨⟨w.heap.size, rfl, hB, World.alloc_heap_new w _, fun id im hl hi => ?_, fun d hd => ?_⟩, DefOK.post p0 c.df⟩, ?_⟩
          · obtain ⟨o, ho⟩ := Option.ne_none_iff_exists'.1 hl
            have := c.hr.lt ho hi; omega
          · have key : ∀ {ds : List Deferred}, DefOK φ s w B ds → ∀ d ∈ ds, d.target ≠ .collected w.heap.size := by
              intro ds
              induction ds with
              | nil => intro _ d hd; cases hd
              | cons d0 ds ih =>
                rintro ⟨⟨r, q1, q2, q3, q4, q5⟩, q6⟩ d hd
                rcases List.mem_cons.1 hd with rfl | hd
                · rw [q1]; intro e; cases e
                  have := (Array.getElem?_eq_some_iff.1 q3).1; omega
                · exact ih q6 d hd
            exact key c.df d hd
          · rw [show (Fn none).round = none from rfl, run_enterLoop_outer]
            simp
        | some l0 =>
          obtain ⟨id, L, im, q1, q2, q3⟩ := c.rd l0 rfl
          obtain ⟨r0, q4, _⟩ := loop_get c.hr q1 q2
          rw [q3] at q4
          exact ⟨w, [], r0.defers, Post.refl c.hr, c.df, run_enterLoop_inner q4 fn a.tmps ps assign body⟩
      obtain ⟨w1, mark, dl, p1, hd1, hrun⟩ := start
      have hlk := c.lk
      have p2' := Post.new (lk := lk) (o := .loop { fr, sz, params := ps, assign, body, state := .ready, pending := none }) (im := ⟨w1.heap.size, 0, 0, 0⟩)
        (ob := .loop { state := .ready, pending := none, fn, tmps := a.tmps, params := ps, assign, body, defers := dl }) p1.rel hlk hf rfl ⟨_, rfl, rfl, rfl, rfl, rfl, rfl, c.fr.mono (addI_sub hf)⟩
      have p2 := p1.trans p2'
      have hd2 := DefOK.post p2' hd1
      have hy : VR (addI φ s.nx ⟨w1.heap.size, 0, 0, 0⟩) (.func (.yield s.nx) #[] #[]) (.func (.yield w1.heap.size) #[] #[]) :=
        .func _ _ _ _ _ _ (.yield s.nx ⟨w1.heap.size, 0, 0, 0⟩ (addI_self φ _ _)) rfl (fun i v v' h => by simp at h) rfl (fun i v v' h => by simp at h)
      have hl := (((LR.of_arrays s1' h1').mono (addI_sub (im := ⟨w1.heap.size, 0, 0, 0⟩) hf)).append (LR.cons hy (LR.nil _))).append ((LR.of_arrays s2' h2').mono (addI_sub (im := ⟨w1.heap.size, 0, 0, 0⟩) hf))
      obtain ⟨_, hcf, hcall⟩ := hR.call h2 p2.rel hl (Nat.le_trans hlk p2.nx) ((hfr.left (by omega)).after p2)
      have e1 : fi' ++ #[Value.func (.yield w1.heap.size) #[] #[]] ++ ca' = (fi'.toList ++ [Value.func (.yield w1.heap.size) #[] #[]] ++ ca'.toList).toArray := by apply Array.ext'; simp
      refine ⟨w1.heap.size, mark, _, { target := .fn (.func g) ca', args := fi' ++ #[Value.func (.yield w1.heap.size) #[] #[]] }, w1.alloc (.loop { state := .ready, pending := none, fn, tmps := a.tmps, params := ps, assign, body, defers := dl }), g, _, _, hrun, ?_, fun _ _ => trivial, ?_, Fn_depth ro n, (hcall (n - 1) ro).mono ?_⟩
      · simp only [resolve, hx]
        simp [Deferred.ofValue, Act.eval]
      · simp only [invoke]
        rw [e1]; exact hcf
      rintro e w3 ⟨v', φ3, rfl, _, p3⟩
      have hi3 : φ3 s.nx = some ⟨w1.heap.size, 0, 0, 0⟩ := p3.ext _ _ (addI_self φ _ _)
      split at h3
      · rename_i L hL
        obtain ⟨r, hr1, hr2⟩ := loop_get p3.rel hL hi3
        obtain ⟨k1, k2, k3, k4, k5, k6⟩ := hr2
        have p4 := fun ob => (p2.trans p3).kill c.hr (Nat.le_refl _) hlk hL rfl hi3 ob
        have c4 : ∀ ob, Cx P φ3 sz lk B ro fr { s2 with hp := s2.hp.put s.nx none } { a with defers := mark ++ a.defers } (setB w3 w1.heap.size ob) := fun ob => {
          hr := (p4 ob).rel
          fr := c.fr.mono (p4 ob).ext
          lk := Nat.le_trans hlk (p4 ob).nx
          df := DefOK.kill hL hi3 (DefOK.post p3 hd2)
          rd := fun l hl => by
            obtain ⟨id, L', im, q1, q2, q3⟩ := c.rd l hl
            obtain ⟨L'', q4⟩ := (p4 ob).keep id L' q1
            exact ⟨id, L'', im, q4, (p4 ob).ext _ _ q2, q3⟩ }
        have hend : L.state ≠ .busy → (Instr.endLoop w1.heap.size).run P w3 = .ok L.pending (setB w3 w1.heap.size (.loop { r with state := .exhausted })) := fun hb => by
          have := run_endLoop (P := P) hr1 (by rw [k1]; exact hb)
          rw [← k2]; exact this
        split at h3
        · cases h3
        · rename_i hpd hb
          simp only [Option.some.injEq, Prod.mk.injEq] at h3
          obtain ⟨rfl, rfl, rfl⟩ := h3
          have := hend (fun e => hb e)
          rw [hpd] at this
          exact ⟨none, _, this, hq _ _ φ3 (p4 _) (c4 _)⟩
        · rename_i hpd hb
          simp only [Option.some.injEq, Prod.mk.injEq] at h3
          obtain ⟨rfl, rfl, rfl⟩ := h3
          have := hend (fun e => hb e)
          rw [hpd] at this
          exact ⟨some .ret, _, this, wpIn_ret (hq _ _ φ3 (p4 _) (c4 _))⟩
        · rename_i hpd hb
          simp only [Option.some.injEq, Prod.mk.injEq] at h3
          obtain ⟨rfl, rfl, rfl⟩ := h3
          have := hend (fun e => hb e)
          rw [hpd] at this
          exact ⟨some (.exit _), _, this, wpIn_exit (hq _ _ φ3 (p4 _) (c4 _))⟩
        · cases h3
      · cases h3
    · cases h2
  | exit id => intro lk sz fr s sig fr' s' h φ a w B ro Q n c _ _ hq; cases h; exact wpIn_exit (hq a w φ (Post.refl c.hr) c)
  | scope b ih => intro lk sz fr s sig fr' s' h; cases h
  | goto l => intro lk sz fr s sig fr' s' h; cases h
  | ret => intro lk sz fr s sig fr' s' h φ a w B ro Q n c _ _ hq; cases h; exact wpIn_ret (hq a w φ (Post.refl c.hr) c)
  | refuse y => intro lk sz fr s sig fr' s' h; cases h

end Go.Ev
