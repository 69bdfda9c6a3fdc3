import Derived.Test.YthedojfbofcefaaDoorEvKeep
import Derived.Test.YthedojfbofcefaaDoorChecked
import Derived.IntWalk
/- Slices that a function has made by itself: elements, appending, setting. -/
set_option linter.unusedSimpArgs false
set_option linter.unusedVariables false
namespace Go.Ev
open Go
variable {P : Program} {lk : Nat} {s s' : HS} {size : Nat} {v : Value} {xs : List (List Value)} {e : TypeId} {o : Option Nat}

def cell1 (x : List Value) : Bool := x.all Value.oneCell'

/-- v is a slice in a block of its own (o), with nothing to spare. -/
def Own (s : HS) (e : TypeId) (size : Nat) (o : Option Nat) (v : Value) (xs : List (List Value)) : Prop :=
  match o with
  | none => xs = [] ∧ v = .slice none 0 0
  | some id => id < s.nx ∧ (∀ x ∈ xs, x.length = size ∧ cell1 x = true) ∧ xs.length < UNK ∧
    ∃ off cap cs, v = .slice (some ⟨id, off, none⟩) xs.length cap ∧ (cap = xs.length ∨ cap = UNK + xs.length) ∧ s.hp.get id = some (.cells true e cs) ∧ off ≤ cs.length ∧ ∃ post, cs.drop off = xs.flatten ++ post

theorem flat_len {xs : List (List Value)} (h : ∀ x ∈ xs, x.length = size) : xs.flatten.length = xs.length * size := by
  induction xs with
  | nil => simp
  | cons y ys ih =>
    simp only [List.flatten_cons, List.length_append, List.length_cons]
    rw [ih fun x hx => h x (List.mem_cons_of_mem _ hx), h y List.mem_cons_self, Nat.succ_mul, Nat.add_comm]

theorem flat_cut {xs : List (List Value)} (h : ∀ x ∈ xs, x.length = size) {cs post : List Value} {off : Nat} (hc : cs.drop off = xs.flatten ++ post) (ho : off ≤ cs.length) {i : Nat} {x : List Value} (hi : xs[i]? = some x) :
    x.length = size ∧ cutL cs (off + i * size) size = some x := by
  refine ⟨h x (List.mem_of_getElem? hi), ?_⟩
  have := cutL_flat (pre := cs.take off) (post := post) h hi
  rw [← hc, List.take_append_drop, List.length_take, Nat.min_eq_left ho] at this
  exact this

theorem Own.sl (h : Own s e size o v xs) : Sl s size v xs := by
  cases o with
  | none => obtain ⟨rfl, rfl⟩ := h; exact Or.inl ⟨rfl, rfl⟩
  | some id =>
    obtain ⟨h1, h2, h2', off, cap, cs, rfl, h3, h4, h5, post, h6⟩ := h
    exact Or.inr ⟨id, off, cap, true, e, cs, rfl, h4, h1, fun i x hi => flat_cut (fun x hx => (h2 x hx).1) h6 h5 hi⟩

theorem Own.shape (h : Own s e size o v xs) : ∃ b c, v = .slice b xs.length c := h.sl.shape

theorem Own.same (h : Own s e size o v xs) (hn : s.nx ≤ s'.nx) (hg : ∀ id, o = some id → s'.hp.get id = s.hp.get id) : Own s' e size o v xs := by
  cases o with
  | none => exact h
  | some id =>
    obtain ⟨h1, h2, h2', off, cap, cs, h3, h4, h5, h6⟩ := h
    exact ⟨Nat.lt_of_lt_of_le h1 hn, h2, h2', off, cap, cs, h3, h4, by rw [hg id rfl]; exact h5, h6⟩

theorem Own.lt (h : Own s e size o v xs) {id : Nat} (ho : o = some id) : id < s.nx := by subst ho; exact h.1
theorem Own.size_eq (h : Own s e size o v xs) {x : List Value} (hx : x ∈ xs) : x.length = size := by
  cases o with
  | none => obtain ⟨rfl, _⟩ := h; cases hx
  | some id => exact (h.2.1 x hx).1

theorem Own.keep (h : Own s e size o v xs) (a : Ab s.nx s s') : Own s' e size o v xs := h.same a.nx fun id ho => a.get (Nat.le_refl _) (h.lt ho)
theorem Own.keep' {lk : Nat} (h : Own s e size o v xs) (a : Ab lk s s') (hl : lk ≤ s.nx) (ho : ∀ id, o = some id → id < lk) : Own s' e size o v xs := h.same a.nx fun id h' => a.get hl (ho id h')

theorem Own.nil {n : Nat} : Own s e size none (.slice none 0 0) [] := ⟨rfl, rfl⟩

/-- A block that has just been made, or that is full. -/
theorem Own.block {id n cap : Nat} {cs : List Value} (h : s.hp.get id = some (.cells true e cs)) (hc : cs = xs.flatten) (hid : id < s.nx) (hn : n = xs.length) (hcap : cap = n ∨ cap = UNK + n) (hs : ∀ x ∈ xs, x.length = size ∧ cell1 x = true)
    (hu : xs.length < UNK) : Own s e size (some id) (.slice (some ⟨id, 0, none⟩) n cap) xs := by
  subst hn hc
  exact ⟨hid, hs, hu, 0, cap, _, rfl, hcap, h, Nat.zero_le _, [], by simp⟩

theorem read_block {id : Nat} {wr : Bool} {e' : TypeId} {cs : List Value} (h : s.hp.get id = some (.cells wr e' cs)) {off n : Nat} : readA s.hp ⟨id, off, none⟩ n = cutL cs off n := by unfold readA; simp only [h]

theorem cut_all {cs ys post : List Value} {off n : Nat} (h : cs.drop off = ys ++ post) (ho : off ≤ cs.length) (hn : n = ys.length) : cutL cs off n = some ys := by
  unfold cutL
  have : off + n ≤ cs.length := by
    have := congrArg List.length h
    rw [List.length_drop, List.length_append] at this
    omega
  rw [if_pos this, h, hn, List.take_left]

theorem Own.first (h : Own s e size o v xs) : firstA s.hp size xs.length v = some xs.flatten := by
  cases o with
  | none => obtain ⟨rfl, rfl⟩ := h; rfl
  | some id =>
    obtain ⟨h1, h2, h2', off, cap, cs, rfl, h3, h4, h5, post, h6⟩ := h
    show readA s.hp _ _ = _
    rw [read_block h4]
    exact cut_all h6 h5 (flat_len fun x hx => (h2 x hx).1).symm

theorem cutL_append {cs x y : List Value} {off n m : Nat} (h1 : cutL cs off n = some x) (h2 : cutL cs (off + n) m = some y) : cutL cs off (n + m) = some (x ++ y) := by
  unfold cutL at *
  split at h1
  · split at h2
    · rename_i a b
      rw [if_pos (by omega)]
      cases h1; cases h2
      rw [List.take_add, List.drop_drop]
    · cases h2
  · cases h1

theorem cut_flat {cs : List Value} {off : Nat} : ∀ {xs : List (List Value)} {k : Nat}, xs ≠ [] → (∀ i x, xs[i]? = some x → x.length = size ∧ cutL cs (off + (k + i) * size) size = some x) → cutL cs (off + k * size) (xs.length * size) = some xs.flatten := by
  intro xs
  induction xs with
  | nil => intro k h; exact absurd rfl h
  | cons y ys ih =>
    intro k _ h
    have h0 := (h 0 y rfl).2
    rw [Nat.add_zero] at h0
    by_cases hy : ys = []
    · subst hy; simp only [List.length_cons, List.length_nil, Nat.zero_add, Nat.one_mul, List.flatten_cons, List.flatten_nil, List.append_nil]; exact h0
    · have := ih (k := k + 1) hy fun i x hi => by
        have := h (i + 1) x (by simpa using hi)
        rw [show k + 1 + i = k + (i + 1) by omega]; exact this
      rw [Nat.succ_mul, ← Nat.add_assoc] at this
      rw [List.length_cons, Nat.succ_mul, Nat.add_comm (ys.length * size)]
      exact cutL_append h0 this

theorem Sl.first (h : Sl s size v xs) (hx : xs ≠ []) : firstA s.hp size xs.length v = some xs.flatten := by
  rcases h with ⟨_, rfl⟩ | ⟨id, off, cap, wr, e, cs, rfl, h2, h3, h4⟩
  · exact absurd rfl hx
  · show readA s.hp _ _ = _
    rw [read_block h2]
    have := cut_flat (cs := cs) (off := off) (k := 0) hx fun i x hi => by rw [Nat.zero_add]; exact h4 i x hi
    simpa using this

theorem Sl.len (h : Sl s size v xs) : lenV v = some xs.length := by obtain ⟨b, c, rfl⟩ := h.shape; rfl
theorem Sl.mem_size (h : Sl s size v xs) {x : List Value} (hx : x ∈ xs) : x.length = size := by
  rcases h with ⟨_, rfl⟩ | ⟨id, off, cap, wr, e, cs, rfl, h2, h3, h4⟩
  · cases hx
  · obtain ⟨i, hi⟩ := List.getElem?_of_mem hx; exact (h4 i x hi).1

/-- What an append leaves. -/
def AppQ (s : HS) (e : TypeId) (size : Nat) (o : Option Nat) (zs : List (List Value)) (q : Value × HS) : Prop :=
  s.nx ≤ q.2.nx ∧ (∀ i, i < s.nx → o ≠ some i → q.2.hp.get i = s.hp.get i) ∧ ∃ o', Own q.2 e size o' q.1 zs ∧ (o' = o ∨ o' = some s.nx)

theorem app_own {t : TypeId} {by_ : Nat} {z : Value} (hel : elemA P t = some e) (hsz : szA P e = some size) (hby : bytesA P e = some by_) (hz : zeroA P e = some z) (hzs : z.cells.toList.length = size) (h0 : size ≠ 0)
    (ho : Own s e size o v xs) (hlk : ∀ id, o = some id → lk ≤ id) {y : Value} {ys : List (List Value)} (hn : lenV y = some ys.length) (hf : ys ≠ [] → firstA s.hp size ys.length y = some ys.flatten)
    (hys : ∀ y ∈ ys, y.length = size ∧ cell1 y = true) (hb : (xs.length + ys.length) * (by_ + size) ≤ 1099511627776) :
    opt (appendA P lk t v y s) (AppQ s e size o (xs ++ ys)) := by
  have hU : xs.length + ys.length < UNK := by
    have : xs.length + ys.length ≤ (xs.length + ys.length) * (by_ + size) := Nat.le_mul_of_pos_right _ (by omega)
    unfold UNK; omega
  have hfl : ys.length ≠ 0 → firstA s.hp size ys.length y = some ys.flatten := fun h => hf (by intro e; simp [e] at h)
  have hone : ys.flatten.all Value.oneCell' = true := by
    rw [List.all_eq_true]; intro c hc
    obtain ⟨y, hy, hcy⟩ := List.mem_flatten.1 hc
    exact List.all_eq_true.1 (hys y hy).2 c hcy
  have hcond : ∀ n : Nat, n = xs.length → ¬ (size = 0 ∨ z.cells.toList.length ≠ size ∨ ¬ (n + ys.length) * (by_ + size) ≤ 1099511627776) := by
    rintro n rfl (h | h | h)
    · exact h0 h
    · exact h hzs
    · exact h hb
  cases o with
  | none =>
    obtain ⟨rfl, rfl⟩ := ho
    have hnew : ∀ (wr : Bool), True := fun _ => trivial
    by_cases hy : ys.length = 0
    · have hy' : ys = [] := List.eq_nil_of_length_eq_zero hy
      subst hy'
      refine opt_of (a := (.slice none 0 0, s)) ?_ ⟨Nat.le_refl _, fun _ _ _ => rfl, none, ⟨rfl, rfl⟩, Or.inl rfl⟩
      unfold appendA
      simp only [hel, hsz, hby, hz, hn, Option.bind_some]
      rw [if_neg (hcond 0 rfl), if_pos (show ([] : List (List Value)).length = 0 from rfl), if_pos (Or.inl ⟨by unfold UNK; omega, Nat.le_refl _⟩)]
    · refine opt_of (a := (.slice (some ⟨s.nx, 0, none⟩) ys.length (UNK + ys.length), { hp := s.hp.put s.nx (some (.cells true e ys.flatten)), nx := s.nx + 1 })) ?_
        ⟨Nat.le_succ _, fun i hi _ => T.get_put_ne _ _ _ (by omega), some s.nx, ?_, Or.inr rfl⟩
      · unfold appendA
        simp only [hel, hsz, hby, hz, hn, Option.bind_some]
        rw [if_neg (hcond 0 rfl), if_neg hy, hfl hy]
        simp only [Option.bind_some, and_self, if_true, newA]
      · exact Own.block (T.get_put_eq _ _ _) (by simp) (Nat.lt_succ_self _) (by simp) (Or.inr rfl) (by simpa using hys) (by simpa using hU)
  | some id =>
    have hown := ho
    have hfirst := ho.first
    obtain ⟨h1, h2, h2', off, cap, cs, rfl, h3, h4, h5, post, h6⟩ := ho
    by_cases hy : ys.length = 0
    · have hy' : ys = [] := List.eq_nil_of_length_eq_zero hy
      subst hy'
      refine opt_of (a := (.slice (some ⟨id, off, none⟩) xs.length cap, s)) ?_ ⟨Nat.le_refl _, fun _ _ _ => rfl, some id, by rw [List.append_nil]; exact hown, Or.inl rfl⟩
      unfold appendA
      simp only [hel, hsz, hby, hz, hn, Option.bind_some]
      rw [if_neg (hcond _ rfl), if_pos (show ([] : List (List Value)).length = 0 from rfl), if_pos]
      rcases h3 with rfl | rfl
      · exact Or.inl ⟨h2', Nat.le_refl _⟩
      · exact Or.inr ⟨Nat.le_add_right _ _, rfl⟩
    · have hall : ∀ x ∈ xs ++ ys, x.length = size ∧ cell1 x = true := fun x hx => by
        rcases List.mem_append.1 hx with h | h
        · exact h2 x h
        · exact hys x h
      rcases h3 with rfl | rfl
      · refine opt_of (a := (.slice (some ⟨s.nx, 0, none⟩) (xs.length + ys.length) (UNK + (xs.length + ys.length)), { hp := s.hp.put s.nx (some (.cells true e (xs.flatten ++ ys.flatten))), nx := s.nx + 1 })) ?_
          ⟨Nat.le_succ _, fun i hi _ => T.get_put_ne _ _ _ (by omega), some s.nx, ?_, Or.inr rfl⟩
        · unfold appendA
          simp only [hel, hsz, hby, hz, hn, Option.bind_some]
          rw [if_neg (hcond _ rfl), if_neg hy, hfl hy]
          simp only [Option.bind_some]
          rw [if_pos h2', if_neg (by omega), hfirst]
          rfl
        · exact Own.block (T.get_put_eq _ _ _) (by simp) (Nat.lt_succ_self _) (by simp) (Or.inr rfl) hall (by simpa using hU)
      · refine opt_of (a := (.slice (some ⟨s.nx, 0, none⟩) (xs.length + ys.length) (UNK + (xs.length + ys.length)), { hp := (s.hp.put id none).put s.nx (some (.cells true e (xs.flatten ++ ys.flatten))), nx := s.nx + 1 })) ?_
          ⟨Nat.le_succ _, fun i hi hne => by
            show ((s.hp.put id none).put s.nx _).get i = _
            rw [T.get_put_ne _ _ _ (by omega), T.get_put_ne _ _ _ (fun e => hne (by rw [e]))], some s.nx, ?_, Or.inr rfl⟩
        · unfold appendA
          simp only [hel, hsz, hby, hz, hn, Option.bind_some]
          rw [if_neg (hcond _ rfl), if_neg hy, hfl hy]
          simp only [Option.bind_some]
          rw [if_neg (by omega), if_neg (by omega), hfirst]
          simp only [Option.bind_some, h4]
          simp only [hlk id rfl, hone, and_self, if_true]
          rfl
        · exact Own.block (T.get_put_eq _ _ _) (by simp) (Nat.lt_succ_self _) (by simp) (Or.inr rfl) hall (by simpa using hU)

/-- One element that stands in a block of its own. -/
theorem app_one {t : TypeId} {by_ : Nat} {z : Value} (hel : elemA P t = some e) (hsz : szA P e = some size) (hby : bytesA P e = some by_) (hz : zeroA P e = some z) (hzs : z.cells.toList.length = size) (h0 : size ≠ 0)
    (ho : Own s e size o v xs) (hlk : ∀ id, o = some id → lk ≤ id) {id c : Nat} {wr : Bool} {e' : TypeId} {y : List Value} (hy : s.hp.get id = some (.cells wr e' y)) (hl : y.length = size) (hc : cell1 y = true)
    (hb : (xs.length + 1) * (by_ + size) ≤ 1099511627776) :
    opt (appendA P lk t v (.slice (some ⟨id, 0, none⟩) 1 c) s) (AppQ s e size o (xs ++ [y])) := by
  refine app_own hel hsz hby hz hzs h0 ho hlk rfl (fun _ => ?_) (by simp [hl, hc]) (by simpa using hb)
  show readA s.hp _ _ = _
  rw [read_block hy]
  exact cut_all (post := []) (by simp) (Nat.zero_le _) (by simp [hl])

theorem putL_len {cs x : List Value} {off : Nat} (h : off + x.length ≤ cs.length) : (putL cs off x).length = cs.length := by
  unfold putL
  simp only [List.length_append, List.length_take, List.length_drop]
  omega

theorem putL_flat {post : List Value} {xs : List (List Value)} : ∀ {i : Nat} {x : List Value}, (∀ x ∈ xs, x.length = size) → i < xs.length → x.length = size → putL (xs.flatten ++ post) (i * size) x = (xs.set i x).flatten ++ post := by
  induction xs with
  | nil => intro i x _ h; simp at h
  | cons y ys ih =>
    intro i x hs hi hx
    have hy := hs y List.mem_cons_self
    cases i with
    | zero =>
      unfold putL
      simp only [Nat.zero_mul, List.take_zero, List.nil_append, Nat.zero_add, List.set_cons_zero, List.flatten_cons, List.append_assoc]
      rw [hx, ← hy, List.drop_left]
    | succ i =>
      simp only [List.set_cons_succ, List.flatten_cons, List.append_assoc]
      rw [← ih (fun z hz => hs z (List.mem_cons_of_mem _ hz)) (by simpa using hi) hx]
      unfold putL
      rw [Nat.succ_mul, Nat.add_comm (i * size) size, Nat.add_assoc size, ← hy, List.take_length_add_append, List.drop_length_add_append, List.append_assoc]

theorem putL_drop {cs x : List Value} {off k : Nat} (ho : off ≤ cs.length) : (putL cs (off + k) x).drop off = putL (cs.drop off) k x := by
  unfold putL
  rw [List.drop_append, List.take_add, List.drop_append]
  simp only [List.length_take, Nat.min_eq_left ho, Nat.sub_self, List.drop_zero, List.length_append, List.length_drop]
  rw [List.drop_eq_nil_of_le (by rw [List.length_take]; omega), List.nil_append, List.drop_drop, show off - (off + min k (cs.length - off)) = 0 by omega, List.drop_zero, Nat.add_assoc]

theorem Own.set {id i : Nat} {x : List Value} (h : Own s e size (some id) v xs) (hi : i < xs.length) (hx : x.length = size) (hc : cell1 x = true) :
    ∃ off cap cs, v = .slice (some ⟨id, off, none⟩) xs.length cap ∧ s.hp.get id = some (.cells true e cs) ∧ off + i * size + x.length ≤ cs.length ∧
      ∀ s' : HS, s.nx ≤ s'.nx → s'.hp.get id = some (.cells true e (putL cs (off + i * size) x)) → Own s' e size (some id) v (xs.set i x) := by
  obtain ⟨h1, h2, h2', off, cap, cs, rfl, h3, h4, h5, post, h6⟩ := h
  have hl := flat_len (xs := xs) fun x hx => (h2 x hx).1
  have hl2 := congrArg List.length h6
  rw [List.length_drop, List.length_append, hl] at hl2
  have hle : (i + 1) * size ≤ xs.length * size := Nat.mul_le_mul_right _ hi
  rw [Nat.succ_mul] at hle
  refine ⟨off, cap, cs, rfl, h4, by omega, fun s' hn hg => ⟨Nat.lt_of_lt_of_le h1 hn, ?_, by rw [List.length_set]; exact h2', off, cap, _, by rw [List.length_set], by rw [List.length_set]; exact h3, hg, ?_, post, ?_⟩⟩
  · intro y hy
    rcases List.mem_or_eq_of_mem_set hy with h | rfl
    · exact h2 y h
    · exact ⟨hx, hc⟩
  · rw [putL_len (by omega)]; exact h5
  · rw [putL_drop h5, h6, putL_flat (fun x hx => (h2 x hx).1) hi hx]

/-- The first element is left out. -/
theorem Own.tail {P : Program} {t : TypeId} {id : Nat} {x : List Value} (hu : P.underlying t = some (.slice e)) (hsz : szA P e = some size) (h : Own s e size (some id) v (x :: xs)) :
    ∃ v', sliceA P s.hp t v (some (.int .i64 1)) none none = some v' ∧ Own s e size (some id) v' xs := by
  obtain ⟨h1, h2, h2', off, cap, cs, rfl, h3, h4, h5, post, h6⟩ := h
  have hx := (h2 x List.mem_cons_self).1
  have hl2 := congrArg List.length h6
  simp only [List.length_drop, List.length_append, List.flatten_cons] at hl2
  have hd : cs.drop (off + size) = xs.flatten ++ post := by
    rw [← List.drop_drop, h6, List.flatten_cons, List.append_assoc, ← hx, List.drop_left]
  simp only [List.length_cons] at h2' h3
  have hlive : liveE P s.hp id size = true := by unfold liveE; rw [h4]; simp [hsz]
  have hadv : ∀ cap', (cap' = xs.length ∨ cap' = UNK + xs.length) → Own s e size (some id) (.slice (some ⟨id, off + 1 * size, none⟩) xs.length cap') xs := fun cap' hc =>
    ⟨h1, fun y hy => h2 y (List.mem_cons_of_mem _ hy), by omega, off + 1 * size, cap', cs, rfl, hc, h4, by rw [Nat.one_mul]; omega, post, by rw [Nat.one_mul]; exact hd⟩
  rcases h3 with rfl | rfl
  · refine ⟨.slice (if xs.length + 1 = 1 then some ⟨id, off, none⟩ else some ⟨id, off + 1 * size, none⟩) xs.length xs.length, ?_, ?_⟩
    · unfold sliceA
      rw [hu]
      simp only [onatA, natA, Option.bind_some, Option.map_some, hsz, Option.getD_some, Option.getD_none, List.length_cons]
      simp only [show (0 : Int) ≤ 1 from by decide, if_true, Option.map_some, Option.bind_some, Option.getD_some, Int.toNat_one, hsz]
      rw [if_pos (by omega), if_pos (by omega)]
      simp only [Nat.add_sub_cancel]
    · by_cases h7 : xs.length + 1 = 1
      · have hxs : xs = [] := List.eq_nil_of_length_eq_zero (by omega)
        subst hxs
        rw [if_pos (show ([] : List (List Value)).length + 1 = 1 from rfl)]
        exact ⟨h1, fun y hy => (by cases hy), by unfold UNK; simp, off, 0, cs, rfl, Or.inl rfl, h4, h5, _, by rw [List.flatten_nil, List.nil_append]⟩
      · rw [if_neg h7]; exact hadv _ (Or.inl rfl)
  · refine ⟨.slice (some ⟨id, off + 1 * size, none⟩) xs.length (UNK + xs.length), ?_, hadv _ (Or.inr rfl)⟩
    unfold sliceA
    rw [hu]
    simp only [onatA, natA, show (0 : Int) ≤ 1 from by decide, if_true, Option.map_some, Option.bind_some, Option.getD_some, Option.getD_none, Int.toNat_one, hsz, List.length_cons]
    rw [if_neg (by omega), if_pos ⟨by omega, Nat.le_refl _, hlive⟩]
    simp only [Nat.add_sub_cancel, show UNK + (xs.length + 1) - UNK - 1 = xs.length by omega]
end Go.Ev

/- What the types of the program tell. Printed by gen_ty.py. -/
set_option linter.unusedSimpArgs false
set_option linter.unusedVariables false
namespace Go.Ev
open Go Go.Proofs
theorem ty3 : tyA Tryd.prog 3 = some (1, false) := by kernel_rfl
theorem sz3 : szA Tryd.prog 3 = some 1 := by kernel_rfl
theorem by3 : bytesA Tryd.prog 3 = some 8 := by kernel_rfl
theorem zr3 : zeroA Tryd.prog 3 = some (.int .i64 0) := by kernel_rfl
theorem un3 : Tryd.prog.underlying 3 = some (.int .i64) := by kernel_rfl
theorem ty5 : tyA Tryd.prog 5 = some (1, false) := by kernel_rfl
theorem sz5 : szA Tryd.prog 5 = some 1 := by kernel_rfl
theorem by5 : bytesA Tryd.prog 5 = some 1 := by kernel_rfl
theorem zr5 : zeroA Tryd.prog 5 = some (.int .u8 0) := by kernel_rfl
theorem un5 : Tryd.prog.underlying 5 = some (.int .u8) := by kernel_rfl
theorem ty59 : tyA Tryd.prog 59 = some (1, false) := by kernel_rfl
theorem sz59 : szA Tryd.prog 59 = some 1 := by kernel_rfl
theorem by59 : bytesA Tryd.prog 59 = some 8 := by kernel_rfl
theorem zr59 : zeroA Tryd.prog 59 = some (.int .u64 0) := by kernel_rfl
theorem un59 : Tryd.prog.underlying 59 = some (.int .u64) := by kernel_rfl
theorem ty99 : tyA Tryd.prog 99 = some (1, false) := by kernel_rfl
theorem sz99 : szA Tryd.prog 99 = some 1 := by kernel_rfl
theorem by99 : bytesA Tryd.prog 99 = some 8 := by kernel_rfl
theorem zr99 : zeroA Tryd.prog 99 = some (.int .u64 0) := by kernel_rfl
theorem un99 : Tryd.prog.underlying 99 = some (.int .u64) := by kernel_rfl
theorem ty118 : tyA Tryd.prog 118 = some (1, false) := by kernel_rfl
theorem sz118 : szA Tryd.prog 118 = some 1 := by kernel_rfl
theorem by118 : bytesA Tryd.prog 118 = some 4 := by kernel_rfl
theorem zr118 : zeroA Tryd.prog 118 = some (.int .u32 0) := by kernel_rfl
theorem un118 : Tryd.prog.underlying 118 = some (.int .u32) := by kernel_rfl
theorem ty2 : tyA Tryd.prog 2 = some (1, false) := by kernel_rfl
theorem sz2 : szA Tryd.prog 2 = some 1 := by kernel_rfl
theorem by2 : bytesA Tryd.prog 2 = some 8 := by kernel_rfl
theorem zr2 : zeroA Tryd.prog 2 = some (.int .i64 0) := by kernel_rfl
theorem un2 : Tryd.prog.underlying 2 = some (.int .i64) := by kernel_rfl
theorem ty32 : tyA Tryd.prog 32 = some (1, false) := by kernel_rfl
theorem sz32 : szA Tryd.prog 32 = some 1 := by kernel_rfl
theorem by32 : bytesA Tryd.prog 32 = some 8 := by kernel_rfl
theorem zr32 : zeroA Tryd.prog 32 = some (.int .i64 0) := by kernel_rfl
theorem un32 : Tryd.prog.underlying 32 = some (.int .i64) := by kernel_rfl
theorem ty60 : tyA Tryd.prog 60 = some (1, false) := by kernel_rfl
theorem sz60 : szA Tryd.prog 60 = some 1 := by kernel_rfl
theorem by60 : bytesA Tryd.prog 60 = some 8 := by kernel_rfl
theorem zr60 : zeroA Tryd.prog 60 = some (.int .u64 0) := by kernel_rfl
theorem un60 : Tryd.prog.underlying 60 = some (.int .u64) := by kernel_rfl
theorem ty110 : tyA Tryd.prog 110 = some (1, false) := by kernel_rfl
theorem sz110 : szA Tryd.prog 110 = some 1 := by kernel_rfl
theorem by110 : bytesA Tryd.prog 110 = some 8 := by kernel_rfl
theorem zr110 : zeroA Tryd.prog 110 = some (.int .i64 0) := by kernel_rfl
theorem un110 : Tryd.prog.underlying 110 = some (.int .i64) := by kernel_rfl
theorem ty122 : tyA Tryd.prog 122 = some (1, false) := by kernel_rfl
theorem sz122 : szA Tryd.prog 122 = some 1 := by kernel_rfl
theorem by122 : bytesA Tryd.prog 122 = some 8 := by kernel_rfl
theorem zr122 : zeroA Tryd.prog 122 = some (.int .u64 0) := by kernel_rfl
theorem un122 : Tryd.prog.underlying 122 = some (.int .u64) := by kernel_rfl
theorem ty4 : tyA Tryd.prog 4 = some (1, false) := by kernel_rfl
theorem sz4 : szA Tryd.prog 4 = some 1 := by kernel_rfl
theorem by4 : bytesA Tryd.prog 4 = some 1 := by kernel_rfl
theorem zr4 : zeroA Tryd.prog 4 = some (.bool false) := by kernel_rfl
theorem un4 : Tryd.prog.underlying 4 = some .bool := by kernel_rfl
theorem ty22 : tyA Tryd.prog 22 = some (1, false) := by kernel_rfl
theorem sz22 : szA Tryd.prog 22 = some 1 := by kernel_rfl
theorem by22 : bytesA Tryd.prog 22 = some 24 := by kernel_rfl
theorem zr22 : zeroA Tryd.prog 22 = some (.slice none 0 0) := by kernel_rfl
theorem un22 : Tryd.prog.underlying 22 = some (.slice 5) := by kernel_rfl
theorem el22 : elemA Tryd.prog 22 = some 5 := by kernel_rfl
theorem ty26 : tyA Tryd.prog 26 = some (1, false) := by kernel_rfl
theorem sz26 : szA Tryd.prog 26 = some 1 := by kernel_rfl
theorem by26 : bytesA Tryd.prog 26 = some 24 := by kernel_rfl
theorem zr26 : zeroA Tryd.prog 26 = some (.slice none 0 0) := by kernel_rfl
theorem un26 : Tryd.prog.underlying 26 = some (.slice 58) := by kernel_rfl
theorem el26 : elemA Tryd.prog 26 = some 58 := by kernel_rfl
theorem ty30 : tyA Tryd.prog 30 = some (1, false) := by kernel_rfl
theorem sz30 : szA Tryd.prog 30 = some 1 := by kernel_rfl
theorem by30 : bytesA Tryd.prog 30 = some 24 := by kernel_rfl
theorem zr30 : zeroA Tryd.prog 30 = some (.slice none 0 0) := by kernel_rfl
theorem un30 : Tryd.prog.underlying 30 = some (.slice 35) := by kernel_rfl
theorem el30 : elemA Tryd.prog 30 = some 35 := by kernel_rfl
theorem ty35 : tyA Tryd.prog 35 = some (1, false) := by kernel_rfl
theorem sz35 : szA Tryd.prog 35 = some 1 := by kernel_rfl
theorem by35 : bytesA Tryd.prog 35 = some 24 := by kernel_rfl
theorem zr35 : zeroA Tryd.prog 35 = some (.slice none 0 0) := by kernel_rfl
theorem un35 : Tryd.prog.underlying 35 = some (.slice 3) := by kernel_rfl
theorem el35 : elemA Tryd.prog 35 = some 3 := by kernel_rfl
theorem ty65 : tyA Tryd.prog 65 = some (1, false) := by kernel_rfl
theorem sz65 : szA Tryd.prog 65 = some 1 := by kernel_rfl
theorem by65 : bytesA Tryd.prog 65 = some 24 := by kernel_rfl
theorem zr65 : zeroA Tryd.prog 65 = some (.slice none 0 0) := by kernel_rfl
theorem un65 : Tryd.prog.underlying 65 = some (.slice 60) := by kernel_rfl
theorem el65 : elemA Tryd.prog 65 = some 60 := by kernel_rfl
theorem ty95 : tyA Tryd.prog 95 = some (1, false) := by kernel_rfl
theorem sz95 : szA Tryd.prog 95 = some 1 := by kernel_rfl
theorem by95 : bytesA Tryd.prog 95 = some 24 := by kernel_rfl
theorem zr95 : zeroA Tryd.prog 95 = some (.slice none 0 0) := by kernel_rfl
theorem un95 : Tryd.prog.underlying 95 = some (.slice 4) := by kernel_rfl
theorem el95 : elemA Tryd.prog 95 = some 4 := by kernel_rfl
theorem ty100 : tyA Tryd.prog 100 = some (1, false) := by kernel_rfl
theorem sz100 : szA Tryd.prog 100 = some 1 := by kernel_rfl
theorem by100 : bytesA Tryd.prog 100 = some 24 := by kernel_rfl
theorem zr100 : zeroA Tryd.prog 100 = some (.slice none 0 0) := by kernel_rfl
theorem un100 : Tryd.prog.underlying 100 = some (.slice 95) := by kernel_rfl
theorem el100 : elemA Tryd.prog 100 = some 95 := by kernel_rfl
theorem ty24 : tyA Tryd.prog 24 = some (2, true) := by kernel_rfl
theorem sz24 : szA Tryd.prog 24 = some 2 := by kernel_rfl
theorem by24 : bytesA Tryd.prog 24 = some 32 := by kernel_rfl
theorem zr24 : zeroA Tryd.prog 24 = some (.agg #[.int .u8 0, .slice none 0 0]) := by kernel_rfl
theorem fd24_0 : fieldA Tryd.prog 24 0 = some (0, 1, 5) := by kernel_rfl
theorem fd24_1 : fieldA Tryd.prog 24 1 = some (1, 1, 22) := by kernel_rfl
theorem ty28 : tyA Tryd.prog 28 = some (2, true) := by kernel_rfl
theorem sz28 : szA Tryd.prog 28 = some 2 := by kernel_rfl
theorem by28 : bytesA Tryd.prog 28 = some 32 := by kernel_rfl
theorem zr28 : zeroA Tryd.prog 28 = some (.agg #[.int .i64 0, .slice none 0 0]) := by kernel_rfl
theorem fd28_0 : fieldA Tryd.prog 28 0 = some (0, 1, 3) := by kernel_rfl
theorem fd28_1 : fieldA Tryd.prog 28 1 = some (1, 1, 26) := by kernel_rfl
theorem ty58 : tyA Tryd.prog 58 = some (2, true) := by kernel_rfl
theorem sz58 : szA Tryd.prog 58 = some 2 := by kernel_rfl
theorem by58 : bytesA Tryd.prog 58 = some 16 := by kernel_rfl
theorem zr58 : zeroA Tryd.prog 58 = some (.agg #[.int .i64 0, .int .i64 0]) := by kernel_rfl
theorem fd58_0 : fieldA Tryd.prog 58 0 = some (0, 1, 3) := by kernel_rfl
theorem fd58_1 : fieldA Tryd.prog 58 1 = some (1, 1, 3) := by kernel_rfl
theorem ty62 : tyA Tryd.prog 62 = some (3, true) := by kernel_rfl
theorem sz62 : szA Tryd.prog 62 = some 3 := by kernel_rfl
theorem by62 : bytesA Tryd.prog 62 = some 24 := by kernel_rfl
theorem zr62 : zeroA Tryd.prog 62 = some (.agg #[.int .u64 0, .int .i64 0, .int .i64 0]) := by kernel_rfl
theorem fd62_0 : fieldA Tryd.prog 62 0 = some (0, 1, 60) := by kernel_rfl
theorem fd62_1 : fieldA Tryd.prog 62 1 = some (1, 1, 3) := by kernel_rfl
theorem fd62_2 : fieldA Tryd.prog 62 2 = some (2, 1, 3) := by kernel_rfl
end Go.Ev

/- Sets of nodes as bits of an int. -/
set_option linter.unusedSimpArgs false
set_option linter.unusedVariables false
namespace Go.Ev
open Go

theorem shr_i64 {a k : Nat} (ha : a < 2 ^ 63) : shiftA .shr .i64 (a : Int) (k : Int) = some (.int .i64 ((a >>> k : Nat) : Int)) := by
  unfold shiftA
  rw [if_neg (by omega)]
  simp only [Option.some.injEq, Value.int.injEq, true_and]
  rw [Int.toNat_natCast]
  show ((a : Int).fdiv (2 ^ (min k 64))) = _
  rw [Int.fdiv_eq_ediv_of_nonneg _ (by have : (0 : Int) ≤ 2 ^ (min k 64) := Int.pow_nonneg (by decide); exact this)]
  rw [Nat.shiftRight_eq_div_pow]
  have : ((2 : Int) ^ (min k 64)) = ((2 ^ (min k 64) : Nat) : Int) := by simp
  rw [this, ← Int.natCast_ediv]
  congr 1
  rcases Nat.le_total k 64 with h | h
  · rw [Nat.min_eq_left h]
  · rw [Nat.min_eq_right h, Nat.div_eq_of_lt (show a < 2 ^ 64 by omega), Nat.div_eq_of_lt (Nat.lt_of_lt_of_le (show a < 2 ^ 64 by omega) (Nat.pow_le_pow_right (by decide) h))]

theorem shl_i64 {k : Nat} (hk : k < 63) : shiftA .shl .i64 1 (k : Int) = some (.int .i64 ((2 ^ k : Nat) : Int)) := by
  unfold shiftA
  rw [if_neg (by omega)]
  simp only [Option.some.injEq, Value.int.injEq, true_and]
  rw [Int.toNat_natCast]
  show IntKind.i64.wrap (1 * 2 ^ (min k 64)) = _
  rw [Nat.min_eq_left (by omega), Int.one_mul]
  have h1 : (2 : Int) ^ k = ((2 ^ k : Nat) : Int) := by simp
  have h2 : 2 ^ k < 2 ^ 63 := Nat.pow_lt_pow_right (by decide) hk
  rw [h1]
  generalize 2 ^ k = x at *
  rw [IntWalk.i64_in _ (by omega)]

theorem and_i64 {a b : Nat} (ha : a < 2 ^ 63) (hb : b < 2 ^ 63) : IntKind.i64.wrap ((BitVec.ofInt IntKind.i64.bits (a : Int) &&& BitVec.ofInt IntKind.i64.bits (b : Int)).toNat : Int) = ((a &&& b : Nat) : Int) := by
  show IntKind.i64.wrap ((BitVec.ofInt 64 (a : Int) &&& BitVec.ofInt 64 (b : Int)).toNat : Int) = _
  rw [BitVec.ofInt_natCast, BitVec.ofInt_natCast, BitVec.toNat_and, BitVec.toNat_ofNat, BitVec.toNat_ofNat, Nat.mod_eq_of_lt (by omega), Nat.mod_eq_of_lt (by omega)]
  have : a &&& b ≤ a := Nat.and_le_left
  rw [IntWalk.i64_in _ (by omega)]

theorem or_i64 {a b : Nat} (ha : a < 2 ^ 63) (hb : b < 2 ^ 63) : IntKind.i64.wrap ((BitVec.ofInt IntKind.i64.bits (a : Int) ||| BitVec.ofInt IntKind.i64.bits (b : Int)).toNat : Int) = ((a ||| b : Nat) : Int) := by
  show IntKind.i64.wrap ((BitVec.ofInt 64 (a : Int) ||| BitVec.ofInt 64 (b : Int)).toNat : Int) = _
  rw [BitVec.ofInt_natCast, BitVec.ofInt_natCast, BitVec.toNat_or, BitVec.toNat_ofNat, BitVec.toNat_ofNat, Nat.mod_eq_of_lt (by omega), Nat.mod_eq_of_lt (by omega)]
  have : a ||| b < 2 ^ 63 := Nat.or_lt_two_pow ha hb
  rw [IntWalk.i64_in _ (by omega)]

theorem and_one {a : Nat} (ha : a < 2 ^ 63) : IntKind.i64.wrap ((BitVec.ofInt IntKind.i64.bits (a : Int) &&& BitVec.ofInt IntKind.i64.bits 1).toNat : Int) = ((a &&& 1 : Nat) : Int) := and_i64 (b := 1) ha (by decide)

theorem shr_lt {a k : Nat} (ha : a < 2 ^ 63) : a >>> k < 2 ^ 63 := by
  rw [Nat.shiftRight_eq_div_pow]
  exact Nat.lt_of_le_of_lt (Nat.div_le_self _ _) ha

theorem bit_eq (a k : Nat) : ((((a >>> k) &&& 1 : Nat) : Int) == 1) = a.testBit k := by
  unfold Nat.testBit
  rw [Nat.and_comm]
  have h : 1 &&& (a >>> k) = 0 ∨ 1 &&& (a >>> k) = 1 := by
    rw [Nat.and_comm, Nat.and_one_is_mod]; omega
  rcases h with h | h <;> rw [h] <;> rfl

theorem setBit {a k j : Nat} : (a ||| 2 ^ k).testBit j = (a.testBit j || decide (j = k)) := by
  rw [Nat.testBit_or, Nat.testBit_two_pow]
  by_cases h : j = k
  · simp [h]
  · simp [h, Ne.symm h]

theorem setBit_lt {a k n : Nat} (ha : a < 2 ^ n) (hk : k < n) : a ||| 2 ^ k < 2 ^ n := Nat.or_lt_two_pow ha (Nat.pow_lt_pow_right (by decide) hk)

theorem wrapN {x : Nat} (h : x < 9223372036854775808) : IntKind.i64.wrap (x : Int) = (x : Int) := IntWalk.i64_in _ (by omega)
theorem cut_pair {cs : List Value} {o : Nat} {p q : Value} (h : cutL cs o 2 = some [p, q]) : cutL cs o 1 = some [p] ∧ cutL cs (o + 1) 1 = some [q] := by
  unfold cutL at *
  split at h
  · rename_i hle
    simp only [Option.some.injEq] at h
    have h1 : (cs.drop o).take 1 = [p] := by
      have := congrArg (List.take 1) h
      rwa [List.take_take] at this
    have h2 : (cs.drop (o + 1)).take 1 = [q] := by
      have := congrArg (List.drop 1) h
      rw [List.drop_take, List.drop_drop] at this
      exact this
    rw [if_pos (by omega), if_pos (by omega), h1, h2]
    exact ⟨rfl, rfl⟩
  · cases h
end Go.Ev

/- Sets of nodes as bits of a uint64. -/
set_option linter.unusedSimpArgs false
set_option linter.unusedVariables false
namespace Go.Ev
open Go

theorem pow_lt64 {k : Nat} (hk : k < 64) : 2 ^ k < 18446744073709551616 := by
  have h : 2 ^ k < 2 ^ 64 := Nat.pow_lt_pow_right (by decide) hk
  exact h
theorem wrapU {x : Nat} (h : x < 18446744073709551616) : IntKind.u64.wrap (x : Int) = (x : Int) := by
  have : IntKind.u64.wrap (x : Int) = (x : Int) % 18446744073709551616 := by simp [IntKind.wrap, IntKind.signed, IntKind.bits]
  rw [this]; omega

theorem shr_u64 {a k : Nat} (ha : a < 18446744073709551616) : shiftA .shr .u64 (a : Int) (k : Int) = some (.int .u64 ((a >>> k : Nat) : Int)) := by
  unfold shiftA
  rw [if_neg (by omega)]
  simp only [Option.some.injEq, Value.int.injEq, true_and]
  rw [Int.toNat_natCast]
  show ((a : Int).fdiv (2 ^ (min k 64))) = _
  rw [Int.fdiv_eq_ediv_of_nonneg _ (by have : (0 : Int) ≤ 2 ^ (min k 64) := Int.pow_nonneg (by decide); exact this)]
  rw [Nat.shiftRight_eq_div_pow]
  have : ((2 : Int) ^ (min k 64)) = ((2 ^ (min k 64) : Nat) : Int) := by simp
  rw [this, ← Int.natCast_ediv]
  congr 1
  rcases Nat.le_total k 64 with h | h
  · rw [Nat.min_eq_left h]
  · rw [Nat.min_eq_right h, Nat.div_eq_of_lt (show a < 2 ^ 64 by omega), Nat.div_eq_of_lt (Nat.lt_of_lt_of_le (show a < 2 ^ 64 by omega) (Nat.pow_le_pow_right (by decide) h))]

theorem shl_u64 {k : Nat} (hk : k < 64) : shiftA .shl .u64 1 (k : Int) = some (.int .u64 ((2 ^ k : Nat) : Int)) := by
  unfold shiftA
  rw [if_neg (by omega)]
  simp only [Option.some.injEq, Value.int.injEq, true_and]
  rw [Int.toNat_natCast]
  show IntKind.u64.wrap (1 * 2 ^ (min k 64)) = _
  rw [Nat.min_eq_left (by omega), Int.one_mul]
  have h1 : (2 : Int) ^ k = ((2 ^ k : Nat) : Int) := by simp
  have h2 : 2 ^ k < 2 ^ 64 := Nat.pow_lt_pow_right (by decide) hk
  rw [h1]
  generalize 2 ^ k = x at *
  exact wrapU h2

theorem and_u64 {a b : Nat} (ha : a < 18446744073709551616) (hb : b < 18446744073709551616) : IntKind.u64.wrap ((BitVec.ofInt IntKind.u64.bits (a : Int) &&& BitVec.ofInt IntKind.u64.bits (b : Int)).toNat : Int) = ((a &&& b : Nat) : Int) := by
  show IntKind.u64.wrap ((BitVec.ofInt 64 (a : Int) &&& BitVec.ofInt 64 (b : Int)).toNat : Int) = _
  rw [BitVec.ofInt_natCast, BitVec.ofInt_natCast, BitVec.toNat_and, BitVec.toNat_ofNat, BitVec.toNat_ofNat, Nat.mod_eq_of_lt (by omega), Nat.mod_eq_of_lt (by omega)]
  have : a &&& b ≤ a := Nat.and_le_left
  exact wrapU (by omega)

theorem or_u64 {a b : Nat} (ha : a < 18446744073709551616) (hb : b < 18446744073709551616) : IntKind.u64.wrap ((BitVec.ofInt IntKind.u64.bits (a : Int) ||| BitVec.ofInt IntKind.u64.bits (b : Int)).toNat : Int) = ((a ||| b : Nat) : Int) := by
  show IntKind.u64.wrap ((BitVec.ofInt 64 (a : Int) ||| BitVec.ofInt 64 (b : Int)).toNat : Int) = _
  rw [BitVec.ofInt_natCast, BitVec.ofInt_natCast, BitVec.toNat_or, BitVec.toNat_ofNat, BitVec.toNat_ofNat, Nat.mod_eq_of_lt (by omega), Nat.mod_eq_of_lt (by omega)]
  exact wrapU (Nat.or_lt_two_pow (n := 64) ha hb)

end Go.Ev

/- One step, of whatever kind: guarded or not, in a drawn region or not. -/
set_option linter.unusedVariables false
set_option linter.unusedSimpArgs false
namespace Go.Ev
open Go
variable {P : Program} [Sorts P] {lk sz : Nat} {all os : List Oper} {o : Oper} {fr fr' : Fr} {s s' : HS} {K : Fr → HS → Prop} {p : PlanRow} {ps : List PlanRow} {k : Nat} {Z : List (Nat × Nat × Nat)}

/-- The slot that an operation's guard looks at. -/
def guardO (all : List Oper) (o : Oper) : Option (Option (Tmp × Bool)) :=
  match o.guard with
  | none => some none
  | some (j, w) => ((all[j]?).bind (·.dst)).map fun d => some (d, w)
def stG (fr : Fr) (g : Option (Tmp × Bool)) (r : Option (Value × HS)) (s : HS) : Option (Value × HS) :=
  match g with
  | none => r
  | some (d, w) => match fr.get d with
    | some (.bool b) => bif b == w then r else some (undef, s)
    | some (.tuple _) => some (undef, s)
    | _ => none
def stB (fr : Fr) (g : Option (Tmp × Bool)) : Bool :=
  match g with
  | none => true
  | some (d, w) => match fr.get d with
    | some (.bool b) => b == w
    | _ => false

theorem guardO_none {all : List Oper} {o : Oper} (h : guardO all o = some none) : o.guard = none := by
  unfold guardO at h
  cases hg : o.guard with
  | none => rfl
  | some x =>
    obtain ⟨j, w⟩ := x
    rw [hg] at h
    simp only at h
    cases h2 : (all[j]?).bind (·.dst) with
    | none => rw [h2] at h; cases h
    | some d => rw [h2] at h; cases h
theorem guardO_some {all : List Oper} {o : Oper} {d : Tmp} {w : Bool} (h : guardO all o = some (some (d, w))) : ∃ j, o.guard = some (j, w) ∧ (all[j]?).bind (·.dst) = some d := by
  unfold guardO at h
  cases hg : o.guard with
  | none => rw [hg] at h; cases h
  | some x =>
    obtain ⟨j, w'⟩ := x
    rw [hg] at h
    simp only at h
    cases h2 : (all[j]?).bind (·.dst) with
    | none => rw [h2] at h; cases h
    | some d' =>
      rw [h2] at h
      simp only [Option.map_some, Option.some.injEq, Prod.mk.injEq] at h
      obtain ⟨rfl, rfl⟩ := h
      exact ⟨j, rfl, h2⟩
theorem wanted_of {g : Option (Tmp × Bool)} (h : guardO all o = some g) (hb : stB fr g = true) : wantedA all fr o = some true := by
  cases g with
  | none => exact wanted_none (guardO_none h)
  | some x =>
    obtain ⟨d, w⟩ := x
    obtain ⟨j, h1, h2⟩ := guardO_some h
    unfold stB at hb
    simp only at hb
    split at hb
    · rename_i b hv
      rw [wanted_guard h1 h2 hv, hb]
    · cases hb
theorem step_cases {g : Option (Tmp × Bool)} {r : Option (Value × HS)} {v : Value} (h : guardO all o = some g) (hs : stG fr g r s = some (v, s')) : (wantedA all fr o = some true ∧ r = some (v, s')) ∨ (wantedA all fr o = some false ∧ v = undef ∧ s' = s) := by
  cases g with
  | none => exact Or.inl ⟨wanted_none (guardO_none h), hs⟩
  | some x =>
    obtain ⟨d, w⟩ := x
    obtain ⟨j, h1, h2⟩ := guardO_some h
    unfold stG at hs
    simp only at hs
    split at hs
    · rename_i b hv
      cases hbw : (b == w) with
      | true => rw [hbw] at hs; exact Or.inl ⟨by rw [wanted_guard h1 h2 hv, hbw], hs⟩
      | false =>
        rw [hbw] at hs
        simp only [cond_false, Option.some.injEq, Prod.mk.injEq] at hs
        exact Or.inr ⟨by rw [wanted_guard h1 h2 hv, hbw], hs.1.symm, hs.2.symm⟩
    · rename_i vs hv
      simp only [Option.some.injEq, Prod.mk.injEq] at hs
      refine Or.inr ⟨?_, hs.1.symm, hs.2.symm⟩
      unfold wantedA
      rw [h1]
      simp only
      obtain ⟨g', h3, h4⟩ := bind_inv h2
      rw [h3]; simp only [Option.bind_some]; rw [h4]; simp only [Option.bind_some]; rw [hv]; rfl
    · cases hs
theorem d_skipW (hb : freeD p Z = true) (hw : wantedA all fr o = some false) (hs : setA sz fr o.dst undef = some fr') (hk : wpD P lk sz all os ps (k + 1) Z fr' s K) : wpD P lk sz all (o :: os) (p :: ps) k Z fr s K := by
  obtain ⟨b2, b4⟩ := freeD_inv hb
  have e := bad_nil (p := p) b2
  show wpStep P (if p.bar then lk else s.nx) sz all fr (hid s _) o _
  rw [e]
  refine opt_of (a := false) hw (opt_of hs ?_)
  show opt (noteA P.globals.size p k fr o (if s.nx < s.nx then _ else _)) _
  rw [if_neg (by omega)]
  exact opt_of (note_none b4) hk

/-- A step. -/
theorem xOp {g : Option (Tmp × Bool)} {v : Value} (hg : guardO all o = some g) (ho : stG fr g (opA P (ev P 0) lk fr s o) s = some (v, s')) (hd : setA sz fr o.dst v = some fr') (k : wpOps P lk sz all os fr' s' K) : wpOps P lk sz all (o :: os) fr s K := by
  rcases step_cases hg ho with ⟨h1, h2⟩ | ⟨h1, rfl, rfl⟩
  · exact ops_doW h1 h2 hd k
  · exact ops_skip h1 hd k
theorem xDr {g : Option (Tmp × Bool)} {v : Value} (hg : guardO all o = some g) (ho : stG fr g (opA P (ev P 0) (bif p.bar then lk else s.nx) fr s o) s = some (v, s'))
    (hd : setA sz fr o.dst v = some fr' ∧ freeD p Z = true ∧ s'.nx = s.nx) (hk : wpD P lk sz all os ps (k + 1) Z fr' s' K) : wpD P lk sz all (o :: os) (p :: ps) k Z fr s K := by
  rcases step_cases hg ho with ⟨h1, h2⟩ | ⟨h1, rfl, rfl⟩
  · exact d_sameW hd.2.1 h1 h2 hd.2.2 hd.1 hk
  · exact d_skipW hd.2.1 h1 hd.1 hk
theorem xIf {q : Bool} {x : Operand} {a b : Code} {C : Sig → Fr → HS → Prop} (h0 : 0 = 0) (hx : opdA P.globals.size fr x = some (.bool q)) (h1 : 0 = 0) (h : bif q then wpC P lk sz a fr s C else wpC P lk sz b fr s C) : wpC P lk sz (.cond x a b) fr s C := c_if hx h
theorem xCa {dst : Option Tmp} {f : Operand} {args : Array Operand} {ats : Array TypeId} {ty : TypeId} {pos : String} {after : Array Edge} {gu : Option (Nat × Bool)} {ars : List Value} {fv : Value} {g : Option (Tmp × Bool)}
    (hg : guardO all ⟨dst, .call ⟨.value f, args, ats⟩, ty, pos, after, gu⟩ = some g) (h : stB fr g = true ∧ omap (opdA P.globals.size fr) args.toList = some ars ∧ opdA P.globals.size fr f = some fv)
    (hc : wpCall P lk fv ars s fun v s' => opt (setA sz fr dst v) fun fr' => wpOps P lk sz all os fr' s' K) : wpOps P lk sz all (⟨dst, .call ⟨.value f, args, ats⟩, ty, pos, after, gu⟩ :: os) fr s K :=
  ops_callW (wanted_of hg h.1) h.2.1 h.2.2 hc
theorem xCd {dst : Option Tmp} {f : Operand} {args : Array Operand} {ats : Array TypeId} {ty : TypeId} {pos : String} {after : Array Edge} {gu : Option (Nat × Bool)} {ars : List Value} {fv : Value} {g : Option (Tmp × Bool)}
    (hg : guardO all ⟨dst, .call ⟨.value f, args, ats⟩, ty, pos, after, gu⟩ = some g) (h : stB fr g = true ∧ omap (opdA P.globals.size fr) args.toList = some ars ∧ opdA P.globals.size fr f = some fv) (hb : freeD p Z = true)
    (hc : wpCall P (bif p.bar then lk else s.nx) fv ars s fun v s' => opt (setA sz fr dst v) fun fr' => wpD P lk sz all os ps (k + 1) ((k, s.nx, s'.nx) :: Z) fr' s' K) :
    wpD P lk sz all (⟨dst, .call ⟨.value f, args, ats⟩, ty, pos, after, gu⟩ :: os) (p :: ps) k Z fr s K := d_callW hb (wanted_of hg h.1) h.2.1 h.2.2 hc
/-- A call that makes no block. -/
theorem xCs {dst : Option Tmp} {f : Operand} {args : Array Operand} {ats : Array TypeId} {ty : TypeId} {pos : String} {after : Array Edge} {gu : Option (Nat × Bool)} {ars : List Value} {fv : Value} {g : Option (Tmp × Bool)}
    (hg : guardO all ⟨dst, .call ⟨.value f, args, ats⟩, ty, pos, after, gu⟩ = some g) (h : stB fr g = true ∧ omap (opdA P.globals.size fr) args.toList = some ars ∧ opdA P.globals.size fr f = some fv) (hb : freeD p Z = true)
    (hc : wpCall P (bif p.bar then lk else s.nx) fv ars s fun v s' => s'.nx = s.nx ∧ opt (setA sz fr dst v) fun fr' => wpD P lk sz all os ps (k + 1) Z fr' s' K) :
    wpD P lk sz all (⟨dst, .call ⟨.value f, args, ats⟩, ty, pos, after, gu⟩ :: os) (p :: ps) k Z fr s K := d_callSW hb (wanted_of hg h.1) h.2.1 h.2.2 hc
theorem xPd {x : Option (Value × HS)} (hb : freeD p Z = true ∧ o.guard = none)
    (he : opA P (ev P 0) (bif p.bar then lk else s.nx) fr s o = x) (h : opt x fun q => opt (setA sz fr o.dst q.1) fun fr' => wpD P lk sz all os ps (k + 1) ((k, s.nx, q.2.nx) :: Z) fr' q.2 K) : wpD P lk sz all (o :: os) (p :: ps) k Z fr s K := d_opt hb.1 hb.2 he h

/-- What a step's values are simplified by, besides the meaning of the operations. -/
theorem xBB : (∀ {α : Type} (t : T α) (n : Nat) (v : Option α) (m : Nat), (t.put n v).get m = if m = n then v else t.get m) ∧
    (∀ a b c : Nat, a + b + c = a + (b + c)) ∧ (∀ a b : Nat, a = a + b ↔ b = 0) ∧ (∀ a b : Nat, a + b = a ↔ b = 0) ∧ (∀ a b c : Nat, a + b = a + c ↔ b = c) ∧ (∀ a : Nat, a + 0 = a) ∧
    (∀ {α β : Type} (f : α → β) (a : α), Option.map f (some a) = some (f a)) ∧ (∀ {α β : Type} (a : α) (f : α → Option β), (some a).bind f = f a) ∧ (∀ a b : Nat, (a ≤ a + b) = True) ∧ (∀ a : Nat, (a ≤ a) = True) ∧
    (∀ a : Prop, (a ∧ a) = a) ∧ (∀ a : Prop, (a ∧ True) = a) ∧ (∀ a : Prop, (True ∧ a) = a) ∧ (∀ n : Nat, (n : Int).toNat = n) ∧
    (∀ h : Decidable True, @decide True h = true) ∧ (∀ h : Decidable False, @decide False h = false) ∧ (∀ {α : Type} (a b : α), (bif true then a else b) = a) ∧ (∀ {α : Type} (a b : α), (bif false then a else b) = b) ∧
    (true == true) = true ∧ (true == false) = false ∧ (false == true) = false ∧ (false == false) = true :=
  ⟨T.get_put, Nat.add_assoc, fun _ _ => Nat.left_eq_add, fun _ _ => Nat.add_eq_left, fun _ _ _ => Nat.add_left_cancel_iff, Nat.add_zero, fun _ _ => rfl, fun _ _ => rfl, fun a b => by simp, fun a => by simp, fun a => by simp, fun a => by simp, fun a => by simp, fun n => by simp,
    fun h => by simp, fun h => by simp, fun _ _ => rfl, fun _ _ => rfl, rfl, rfl, rfl, rfl⟩

/-- A step that is no operation: the goal and what is left of it. -/
inductive St : Prop → Prop → Prop
  | a {P : Program} [Sorts P] {lk sz : Nat} {all : List Oper} {fr : Fr} {s : HS} {K : Fr → HS → Prop} : St (wpOps P lk sz all [] fr s K) (K fr s)
  | b {P : Program} [Sorts P] {lk sz : Nat} {all : List Oper} {fr : Fr} {s : HS} {K : Fr → HS → Prop} {k : Nat} {Z : List (Nat × Nat × Nat)} : St (wpD P lk sz all [] [] k Z fr s K) (K fr s)
  | c {P : Program} [Sorts P] {lk sz : Nat} {fr : Fr} {s : HS} {C : Sig → Fr → HS → Prop} {b : Code} : St (seqK P lk sz b C .normal fr s) (wpC P lk sz b fr s C)
  | d {P : Program} [Sorts P] {lk sz : Nat} {fr : Fr} {s : HS} {C : Sig → Fr → HS → Prop} {b : Code} : St (seqK P lk sz b C .ret fr s) (C .ret fr s)
  | e {P : Program} [Sorts P] {lk sz : Nat} {fr : Fr} {s : HS} {C : Sig → Fr → HS → Prop} {b : Code} {i : Nat} : St (seqK P lk sz b C (.exit i) fr s) (C (.exit i) fr s)
  | f {fr : Fr} {s : HS} {C : Sig → Fr → HS → Prop} {id : Nat} : St (blockK id C .normal fr s) (C .normal fr s)
  | g {fr : Fr} {s : HS} {C : Sig → Fr → HS → Prop} {id : Nat} : St (blockK id C .ret fr s) (C .ret fr s)
  | h {fr : Fr} {s : HS} {C : Sig → Fr → HS → Prop} {id : Nat} : St (blockK id C (.exit id) fr s) (C .normal fr s)
  | i {P : Program} [Sorts P] {lk sz : Nat} {fr : Fr} {s : HS} {C : Sig → Fr → HS → Prop} {a b : Code} : St (wpC P lk sz (.seq a b) fr s C) (wpC P lk sz a fr s (seqK P lk sz b C))
  | j {P : Program} [Sorts P] {lk sz : Nat} {fr : Fr} {s : HS} {C : Sig → Fr → HS → Prop} {a : Code} {id : Nat} : St (wpC P lk sz (.block id a) fr s C) (wpC P lk sz a fr s (blockK id C))
  | k {P : Program} [Sorts P] {lk sz : Nat} {fr : Fr} {s : HS} {C : Sig → Fr → HS → Prop} : St (wpC P lk sz .skip fr s C) (C .normal fr s)
  | l {P : Program} [Sorts P] {lk sz : Nat} {fr : Fr} {s : HS} {C : Sig → Fr → HS → Prop} : St (wpC P lk sz .ret fr s C) (C .ret fr s)
  | m {P : Program} [Sorts P] {lk sz : Nat} {fr : Fr} {s : HS} {C : Sig → Fr → HS → Prop} {id : Nat} : St (wpC P lk sz (.exit id) fr s C) (C (.exit id) fr s)
  | n {P : Program} [Sorts P] {lk sz : Nat} {fr : Fr} {s : HS} {C : Sig → Fr → HS → Prop} {a : Code} : St (wpC P lk sz (.loop a) fr s C) (wpLoop P lk sz a fr s C)
  | o {fr : Fr} {s : HS} {I : Nat → Fr → HS → Prop} {m i : Nat} {C : Sig → Fr → HS → Prop} : St (loopK I m C (.exit i) fr s) (C (.exit i) fr s)
  | p {fr : Fr} {s : HS} {I : Nat → Fr → HS → Prop} {m : Nat} {C : Sig → Fr → HS → Prop} : St (loopK I m C .ret fr s) (C .ret fr s)
  | q {A B : Prop} : St (bif true then A else B) A
  | r {A B : Prop} : St (bif false then A else B) B
theorem st {A B : Prop} (h : St A B) (hb : B) : A := by
  cases h with
  | a => exact ops_end hb
  | b => exact d_end hb
  | c => exact k_seq hb
  | d => exact k_seq_ret hb
  | e => exact k_seq_exit hb
  | f => exact k_block hb
  | g => exact k_block_ret hb
  | h => exact k_block_here hb
  | i => exact c_seq hb
  | j => exact c_block hb
  | k => exact c_skip hb
  | l => exact c_ret hb
  | m => exact c_exit hb
  | n => exact c_loop hb
  | o => exact k_loop_exit hb
  | p => exact k_loop_ret hb
  | q => exact hb
  | r => exact hb

end Go.Ev

/- Comparisons of numbers and of edges. -/
namespace Go.Ev
open Go Go.Proofs
set_option linter.unusedSimpArgs false
set_option linter.unusedVariables false
set_option maxRecDepth 100000
set_option maxHeartbeats 4000000
attribute [local irreducible] wpOps wpC wpD wpF wpLoop wpCall seqK blockK loopK retK T.put T.get T.setF

theorem f64_spec [Sorts Tryd.prog] (n : Int) (s : HS) : wpF Tryd.prog s.nx 64 [.int .i64 n] s (fun v s' => v = .bool false ∧ s' = s) := by
  refine wpF_of Tryd.func64 rfl rfl rfl rfl (Nat.le_refl _) ?_
  simp only [paramsA]
  repeat (first
  | with_reducible first | refine st (by constructor) ?_ | apply c_region
  | (with_reducible apply k_block_on
     · decide)
  | ((with_reducible first | apply xOp | apply xDr | apply xIf); rfl; (simp only [Nat.reduceEqDiff, Nat.reduceAdd, ↓reduceIte, xBB, stG, undef, opA, val, opdA, opdO, plainN, omap, binA, intBinA, loadV, readA, storeV, writeA, fieldAddrA, indexAddrA, lenA, builtinA, newA, unA, packA, Value.cells, bne_self_eq_false]; rfl); first | rfl | exact ⟨rfl, rfl, rfl⟩))
  intro _
  ((with_reducible first | apply ret_i | apply ret_n); (simp only [Nat.reduceEqDiff, Nat.reduceAdd, ↓reduceIte, xBB, resA, opdA, opdO, plainN, omap, val, loadV, readA, packA]; rfl))
  exact ⟨by simp [packR], rfl⟩

def cmpI (a b : Int) : Int := if a < b then -1 else if a > b then 1 else 0

theorem f47_spec [Sorts Tryd.prog] (x y : Int) (s : HS) : wpF Tryd.prog s.nx 47 [.int .i64 x, .int .i64 y] s (fun v s' => v = .int .i64 (cmpI x y) ∧ s' = s) := by
  refine wpF_of Tryd.func47 rfl rfl rfl rfl (Nat.le_refl _) ?_
  simp only [paramsA]
  repeat (first
  | with_reducible first | refine st (by constructor) ?_ | apply c_region
  | (with_reducible apply k_block_on
     · decide)
  | ((with_reducible first | apply xOp | apply xDr | apply xIf); rfl; (simp only [Nat.reduceEqDiff, Nat.reduceAdd, ↓reduceIte, xBB, stG, undef, opA, val, opdA, opdO, plainN, omap, binA, intBinA, loadV, readA, storeV, writeA, fieldAddrA, indexAddrA, lenA, builtinA, newA, unA, packA, Value.cells]; rfl); first | rfl | exact ⟨rfl, rfl, rfl⟩))
  ((with_reducible first | apply xCa | apply xCd); rfl; (simp only [Nat.reduceEqDiff, Nat.reduceAdd, ↓reduceIte, xBB, stB, opdA, opdO, plainN, omap, val, Value.cells]; exact ⟨rfl, rfl⟩); try rfl)
  apply call_fn
  refine (f64_spec x s).mono fun v s' hv => ?_
  obtain ⟨rfl, rfl⟩ := hv
  refine opt_of rfl ?_
  repeat (first
  | with_reducible first | refine st (by constructor) ?_ | apply c_region
  | (with_reducible apply k_block_on
     · decide)
  | ((with_reducible first | apply xOp | apply xDr | apply xIf); rfl; (simp only [Nat.reduceEqDiff, Nat.reduceAdd, ↓reduceIte, xBB, stG, undef, opA, val, opdA, opdO, plainN, omap, binA, intBinA, loadV, readA, storeV, writeA, fieldAddrA, indexAddrA, lenA, builtinA, newA, unA, packA, Value.cells]; rfl); first | rfl | exact ⟨rfl, rfl, rfl⟩))
  ((with_reducible first | apply xCa | apply xCd); rfl; (simp only [Nat.reduceEqDiff, Nat.reduceAdd, ↓reduceIte, xBB, stB, opdA, opdO, plainN, omap, val, Value.cells]; exact ⟨rfl, rfl⟩); try rfl)
  apply call_fn
  refine (f64_spec y s').mono fun v s1 hv => ?_
  obtain ⟨rfl, rfl⟩ := hv
  refine opt_of rfl ?_
  unfold cmpI
  by_cases h : x < y
  · repeat (first
  | with_reducible first | refine st (by constructor) ?_ | apply c_region
  | (with_reducible apply k_block_on
     · decide)
  | ((with_reducible first | apply xOp | apply xDr | apply xIf); rfl; (simp only [Nat.reduceEqDiff, Nat.reduceAdd, ↓reduceIte, xBB, stG, undef, opA, val, opdA, opdO, plainN, omap, binA, intBinA, loadV, readA, storeV, writeA, fieldAddrA, indexAddrA, lenA, builtinA, newA, unA, packA, Value.cells, h]; rfl); first | rfl | exact ⟨rfl, rfl, rfl⟩))
    intro _
    ((with_reducible first | apply ret_i | apply ret_n); (simp only [Nat.reduceEqDiff, Nat.reduceAdd, ↓reduceIte, xBB, resA, opdA, opdO, plainN, omap, val, loadV, readA, packA]; rfl))
    exact ⟨by simp [packR, h], rfl⟩
  · by_cases h2 : x > y
    · repeat (first
  | with_reducible first | refine st (by constructor) ?_ | apply c_region
  | (with_reducible apply k_block_on
     · decide)
  | ((with_reducible first | apply xOp | apply xDr | apply xIf); rfl; (simp only [Nat.reduceEqDiff, Nat.reduceAdd, ↓reduceIte, xBB, stG, undef, opA, val, opdA, opdO, plainN, omap, binA, intBinA, loadV, readA, storeV, writeA, fieldAddrA, indexAddrA, lenA, builtinA, newA, unA, packA, Value.cells, h, h2]; rfl); first | rfl | exact ⟨rfl, rfl, rfl⟩))
      intro _
      ((with_reducible first | apply ret_i | apply ret_n); (simp only [Nat.reduceEqDiff, Nat.reduceAdd, ↓reduceIte, xBB, resA, opdA, opdO, plainN, omap, val, loadV, readA, packA]; rfl))
      exact ⟨by simp [packR, h, h2], rfl⟩
    · repeat (first
  | with_reducible first | refine st (by constructor) ?_ | apply c_region
  | (with_reducible apply k_block_on
     · decide)
  | ((with_reducible first | apply xOp | apply xDr | apply xIf); rfl; (simp only [Nat.reduceEqDiff, Nat.reduceAdd, ↓reduceIte, xBB, stG, undef, opA, val, opdA, opdO, plainN, omap, binA, intBinA, loadV, readA, storeV, writeA, fieldAddrA, indexAddrA, lenA, builtinA, newA, unA, packA, Value.cells, h, h2]; rfl); first | rfl | exact ⟨rfl, rfl, rfl⟩))
      intro _
      ((with_reducible first | apply ret_i | apply ret_n); (simp only [Nat.reduceEqDiff, Nat.reduceAdd, ↓reduceIte, xBB, resA, opdA, opdO, plainN, omap, val, loadV, readA, packA]; rfl))
      exact ⟨by simp [packR, h, h2], rfl⟩

/-- The first number of a list that is not zero. -/
def orI : List Int → Int
  | [] => 0
  | x :: xs => if x ≠ 0 then x else orI xs

def encI (n : Int) : List Value := [.int .i64 n]

theorem f46_spec [Sorts Tryd.prog] (l : List Int) (lv : Value) (s : HS) (hs : Sl s 1 lv (l.map encI)) (hl : l.length < 1000000) : wpF Tryd.prog s.nx 46 [lv] s (fun v s' => v = .int .i64 (orI l) ∧ s' = s) := by
  obtain ⟨b, c, rfl⟩ := hs.shape
  refine wpF_of Tryd.func46 rfl rfl rfl rfl (Nat.le_refl _) ?_
  simp only [paramsA]
  repeat (first
  | with_reducible first | refine st (by constructor) ?_ | apply c_region
  | (with_reducible apply k_block_on
     · decide)
  | ((with_reducible first | apply xOp | apply xDr | apply xIf); rfl; (simp only [Nat.reduceEqDiff, Nat.reduceAdd, ↓reduceIte, xBB, stG, undef, opA, val, opdA, opdO, plainN, omap, binA, intBinA, loadV, readA, storeV, writeA, fieldAddrA, indexAddrA, lenA, builtinA, newA, unA, packA, Value.cells, un35]; rfl); first | rfl | exact ⟨rfl, rfl, rfl⟩))
  refine loop_i (s0 := s) (fun m f t => t = s ∧ ∃ k : Nat, k + m = l.length ∧ orI (l.drop k) = orI l ∧ f.get 8 = some (.int .i64 k) ∧ f.get 7 = some (.int .i64 l.length) ∧ f.get 6 = some (.slice b (l.map encI).length c) ∧ f.get 3 = some (.int .i64 0)) l.length (Nat.le_refl _) ?_ (Ab.refl _ _) ?_
  · refine ⟨rfl, 0, by omega, rfl, ?_, ?_, ?_, ?_⟩ <;> simp [T.get_put]
  · rintro m f t ⟨rfl, k, hk, hor, h8, h7, h6, h3⟩ _
    by_cases hlt : (k : Int) < (l.length : Int)
    · have hlt' : k < l.length := by omega
      obtain ⟨id, off, wr, e, cs, rfl, g1, g2, g3, g4⟩ := hs.at (i := k) (x := encI l[k]) (by simp [hlt'])
      have hk0 : (0 : Int) ≤ (k : Int) := by omega
      have hb : (0 : Int) ≤ (k : Int) ∧ (k : Int) < ((l.map encI).length : Int) := by simp; omega
      simp only [encI] at g3
      by_cases hz : l[k] = 0
      · have hz' : (l[k] != 0) = false := by simp [hz]
        have hw : IntKind.i64.wrap ((k : Int) + 1) = ((k + 1 : Nat) : Int) := by rw [IntWalk.i64_in _ (by omega)]; rfl
        repeat (first
  | with_reducible first | refine st (by constructor) ?_ | apply c_region
  | (with_reducible apply k_block_on
     · decide)
  | ((with_reducible first | apply xOp | apply xDr | apply xIf); rfl; (simp only [Nat.reduceEqDiff, Nat.reduceAdd, ↓reduceIte, xBB, stG, undef, opA, val, opdA, opdO, plainN, omap, binA, intBinA, loadV, readA, storeV, writeA, fieldAddrA, indexAddrA, lenA, builtinA, newA, unA, packA, Value.cells, h8, h7, h6, h3, hlt, un35, sz35, sz3, ty3, hb, g1, g3, hz', hw]; rfl); first | rfl | exact ⟨rfl, rfl, rfl⟩))
        intro _
        refine k_loop_next (m' := m - 1) (by omega) ⟨rfl, k + 1, by omega, ?_, ?_, ?_, ?_, ?_⟩
        · rw [← hor, List.drop_eq_getElem_cons hlt']; simp [orI, hz]
        all_goals simp only [Nat.reduceEqDiff, T.get_put, ↓reduceIte, h8, h7, h6, h3]
      · have hz' : (l[k] != 0) = true := by simp [hz]
        repeat (first
  | with_reducible first | refine st (by constructor) ?_ | apply c_region
  | (with_reducible apply k_block_on
     · decide)
  | ((with_reducible first | apply xOp | apply xDr | apply xIf); rfl; (simp only [Nat.reduceEqDiff, Nat.reduceAdd, ↓reduceIte, xBB, stG, undef, opA, val, opdA, opdO, plainN, omap, binA, intBinA, loadV, readA, storeV, writeA, fieldAddrA, indexAddrA, lenA, builtinA, newA, unA, packA, Value.cells, h8, h7, h6, h3, hlt, un35, sz35, sz3, ty3, hb, g1, g3, hz']; rfl); first | rfl | exact ⟨rfl, rfl, rfl⟩))
        intro _
        repeat (first
  | with_reducible first | refine st (by constructor) ?_ | apply c_region
  | (with_reducible apply k_block_on
     · decide)
  | ((with_reducible first | apply xOp | apply xDr | apply xIf); rfl; (simp only [Nat.reduceEqDiff, Nat.reduceAdd, ↓reduceIte, xBB, stG, undef, opA, val, opdA, opdO, plainN, omap, binA, intBinA, loadV, readA, storeV, writeA, fieldAddrA, indexAddrA, lenA, builtinA, newA, unA, packA, Value.cells]; rfl); first | rfl | exact ⟨rfl, rfl, rfl⟩))
        intro _
        ((with_reducible first | apply ret_i | apply ret_n); (simp only [Nat.reduceEqDiff, Nat.reduceAdd, ↓reduceIte, xBB, resA, opdA, opdO, plainN, omap, val, loadV, readA, packA]; rfl))
        refine ⟨?_, rfl⟩
        rw [← hor, List.drop_eq_getElem_cons hlt']; simp [orI, hz, packR]
    · repeat (first
  | with_reducible first | refine st (by constructor) ?_ | apply c_region
  | (with_reducible apply k_block_on
     · decide)
  | ((with_reducible first | apply xOp | apply xDr | apply xIf); rfl; (simp only [Nat.reduceEqDiff, Nat.reduceAdd, ↓reduceIte, xBB, stG, undef, opA, val, opdA, opdO, plainN, omap, binA, intBinA, loadV, readA, storeV, writeA, fieldAddrA, indexAddrA, lenA, builtinA, newA, unA, packA, Value.cells, h8, h7, h6, h3, hlt]; rfl); first | rfl | exact ⟨rfl, rfl, rfl⟩))
      intro _
      repeat (first
  | with_reducible first | refine st (by constructor) ?_ | apply c_region
  | (with_reducible apply k_block_on
     · decide)
  | ((with_reducible first | apply xOp | apply xDr | apply xIf); rfl; (simp only [Nat.reduceEqDiff, Nat.reduceAdd, ↓reduceIte, xBB, stG, undef, opA, val, opdA, opdO, plainN, omap, binA, intBinA, loadV, readA, storeV, writeA, fieldAddrA, indexAddrA, lenA, builtinA, newA, unA, packA, Value.cells, h3]; rfl); first | rfl | exact ⟨rfl, rfl, rfl⟩))
      intro _
      ((with_reducible first | apply ret_i | apply ret_n); (simp only [Nat.reduceEqDiff, Nat.reduceAdd, ↓reduceIte, xBB, resA, opdA, opdO, plainN, omap, val, loadV, readA, packA]; rfl))
      refine ⟨?_, rfl⟩
      have : l.drop k = [] := by rw [List.drop_eq_nil_iff]; omega
      rw [← hor, this]; rfl

def ordE (x y : Int × Int) : Int := orI [cmpI x.1 y.1, cmpI x.2 y.2]
def encE (e : Int × Int) : List Value := [.int .i64 e.1, .int .i64 e.2]
def vE (e : Int × Int) : Value := .agg #[.int .i64 e.1, .int .i64 e.2]

theorem f55_spec [Sorts Tryd.prog] (x y : Int × Int) (s : HS) : wpF Tryd.prog s.nx 55 [vE x, vE y] s (fun v s' => v = .int .i64 (ordE x y)) := by
  refine wpF_of Tryd.func55 rfl rfl rfl rfl (Nat.le_refl _) ?_
  simp only [paramsA, vE]
  repeat (first
  | with_reducible first | refine st (by constructor) ?_ | apply c_region
  | (with_reducible apply k_block_on
     · decide)
  | ((with_reducible first | apply xOp | apply xDr | apply xIf); rfl; (simp only [Nat.reduceEqDiff, Nat.reduceAdd, ↓reduceIte, xBB, stG, undef, opA, val, opdA, opdO, plainN, omap, binA, intBinA, loadV, readA, storeV, writeA, fieldAddrA, indexAddrA, lenA, builtinA, newA, unA, packA, Value.cells, sz58]; rfl); first | rfl | exact ⟨rfl, rfl, rfl⟩))
  refine c_draw [⟨false, [], none⟩, ⟨false, [], none⟩, ⟨false, [], none⟩, ⟨false, [1], none⟩, ⟨false, [], none⟩, ⟨false, [], none⟩, ⟨false, [1, 3, 4], none⟩, ⟨false, [], none⟩, ⟨false, [1, 3, 4, 6], none⟩, ⟨true, [], none⟩, ⟨true, [], none⟩, ⟨true, [], none⟩, ⟨true, [], none⟩] (by kernel_rfl) ?_
  repeat (first
  | with_reducible first | refine st (by constructor) ?_ | apply c_region
  | (with_reducible apply k_block_on
     · decide)
  | ((with_reducible first | apply xOp | apply xDr | apply xIf); rfl; (simp only [Nat.reduceEqDiff, Nat.reduceAdd, ↓reduceIte, xBB, stG, undef, opA, val, opdA, opdO, plainN, omap, binA, intBinA, loadV, readA, storeV, writeA, fieldAddrA, indexAddrA, lenA, builtinA, newA, unA, packA, Value.cells, ty58, fd58_0, fd58_1, ty3]; rfl); first | rfl | exact ⟨rfl, rfl, rfl⟩))
  ((with_reducible apply xCs); rfl; (simp only [Nat.reduceEqDiff, Nat.reduceAdd, ↓reduceIte, xBB, stB, opdA, opdO, plainN, omap, val, Value.cells]; exact ⟨rfl, rfl⟩); rfl)
  apply call_fn
  refine (f47_spec x.1 y.1 _).use (by first | exact Nat.le_refl _ | (simp only [cond_true, cond_false]; omega) | omega | (dsimp only; omega)) (by first | exact Nat.le_refl _ | (simp only [cond_true, cond_false]; omega) | omega | (dsimp only; omega)) fun v s1 hv _ => ?_
  obtain ⟨rfl, rfl⟩ := hv
  refine ⟨rfl, ?_⟩
  refine opt_of rfl ?_
  repeat (first
  | with_reducible first | refine st (by constructor) ?_ | apply c_region
  | (with_reducible apply k_block_on
     · decide)
  | ((with_reducible first | apply xOp | apply xDr | apply xIf); rfl; (simp only [Nat.reduceEqDiff, Nat.reduceAdd, ↓reduceIte, xBB, stG, undef, opA, val, opdA, opdO, plainN, omap, binA, intBinA, loadV, readA, storeV, writeA, fieldAddrA, indexAddrA, lenA, builtinA, newA, unA, packA, Value.cells, ty58, fd58_0, fd58_1, ty3]; rfl); first | rfl | exact ⟨rfl, rfl, rfl⟩))
  ((with_reducible apply xCs); rfl; (simp only [Nat.reduceEqDiff, Nat.reduceAdd, ↓reduceIte, xBB, stB, opdA, opdO, plainN, omap, val, Value.cells]; exact ⟨rfl, rfl⟩); rfl)
  apply call_fn
  refine (f47_spec x.2 y.2 _).use (by first | exact Nat.le_refl _ | (simp only [cond_true, cond_false]; omega) | omega | (dsimp only; omega)) (by first | exact Nat.le_refl _ | (simp only [cond_true, cond_false]; omega) | omega | (dsimp only; omega)) fun v s1 hv _ => ?_
  obtain ⟨rfl, rfl⟩ := hv
  refine ⟨rfl, ?_⟩
  refine opt_of rfl ?_
  repeat (first
      | with_reducible first | apply ops_end | apply d_end | apply k_seq | apply k_seq_ret | apply k_seq_exit | apply k_block | apply k_block_ret | apply k_block_here | apply c_seq | apply c_block | apply c_region | apply c_skip | apply c_ret | apply c_exit | apply c_loop | apply k_loop_exit | apply k_loop_ret
      | (with_reducible apply k_block_on
         · decide)
      | ((first
          | (with_reducible apply ops_do
             · rfl)
          | (with_reducible apply d_same
             · rfl
             · rfl))
         · (simp only [Nat.reduceEqDiff, opA, val, opdA, opdO, T.get_put, ↓reduceIte, Nat.add_assoc, Nat.reduceAdd, Nat.left_eq_add, Nat.add_eq_left, Nat.add_left_cancel_iff, Nat.add_zero, plainN, omap, Option.map_some, Option.bind_some, Nat.le_add_right, Nat.le_refl, binA, intBinA, loadV, readA, storeV, writeA, fieldAddrA, indexAddrA, lenA, builtinA, newA, unA, packA, if_true, and_self, and_true, true_and, Value.cells, Int.toNat_natCast, decide_true, decide_false, cond_true, cond_false, buildSliceA, el35, sz3, zr3, zerosL, fillA, putL]; rfl)
         · rfl
         try (· rfl))
      | ((first
          | (with_reducible apply d_do
             · rfl
             · rfl)
          | (with_reducible apply d_quiet
             · rfl
             · rfl
             · rfl))
         · (simp only [Nat.reduceEqDiff, opA, val, opdA, opdO, T.get_put, ↓reduceIte, Nat.add_assoc, Nat.reduceAdd, Nat.left_eq_add, Nat.add_eq_left, Nat.add_left_cancel_iff, Nat.add_zero, plainN, omap, Option.map_some, Option.bind_some, Nat.le_add_right, Nat.le_refl, binA, intBinA, loadV, readA, storeV, writeA, fieldAddrA, indexAddrA, lenA, builtinA, newA, unA, packA, if_true, and_self, and_true, true_and, Value.cells, Int.toNat_natCast, decide_true, decide_false, cond_true, cond_false, buildSliceA, el35, sz3, zr3, zerosL, fillA, putL]; rfl)
         first
         | · rfl
         | (· (simp only [Nat.reduceEqDiff, loadBlk, opdA, T.get_put, ↓reduceIte, buildSliceA, el35, sz3, zr3, zerosL, fillA, putL]; rfl)
            · rfl))
      | ((first
          | with_reducible apply ops_skipG
          | (with_reducible apply d_skip
             · rfl))
         · rfl
         · rfl
         · (simp only [Nat.reduceEqDiff, T.get_put, ↓reduceIte, buildSliceA, el35, sz3, zr3, zerosL, fillA, putL]; rfl)
         · (simp only [decide_true, decide_false, buildSliceA, el35, sz3, zr3, zerosL, fillA, putL, bt_tf, bt_ft, bt_tt, bt_ff]; done)
         · rfl)
      | ((first
          | with_reducible apply ops_doG
          | (with_reducible apply d_sameG
             · rfl))
         · rfl
         · rfl
         · (simp only [Nat.reduceEqDiff, T.get_put, ↓reduceIte, buildSliceA, el35, sz3, zr3, zerosL, fillA, putL]; rfl)
         · (simp only [decide_true, decide_false, buildSliceA, el35, sz3, zr3, zerosL, fillA, putL, bt_tf, bt_ft, bt_tt, bt_ff]; done)
         · (simp only [Nat.reduceEqDiff, opA, val, opdA, opdO, T.get_put, ↓reduceIte, Nat.add_assoc, Nat.reduceAdd, Nat.left_eq_add, Nat.add_eq_left, Nat.add_left_cancel_iff, Nat.add_zero, plainN, omap, Option.map_some, Option.bind_some, Nat.le_add_right, Nat.le_refl, binA, intBinA, loadV, readA, storeV, writeA, fieldAddrA, indexAddrA, lenA, builtinA, newA, unA, packA, if_true, and_self, and_true, true_and, Value.cells, Int.toNat_natCast, decide_true, decide_false, cond_true, cond_false, buildSliceA, el35, sz3, zr3, zerosL, fillA, putL]; rfl)
         · rfl
         try (· rfl))
      | (with_reducible apply c_if
         · (simp only [Nat.reduceEqDiff, opdA, opdO, T.get_put, ↓reduceIte, Nat.add_assoc, Nat.reduceAdd, Nat.left_eq_add, Nat.add_eq_left, Nat.add_left_cancel_iff, Nat.add_zero, plainN, omap, Option.map_some, Option.bind_some, Nat.le_add_right, Nat.le_refl, decide_true, decide_false, buildSliceA, el35, sz3, zr3, zerosL, fillA, putL]; rfl)
         with_reducible first | apply if_t | apply if_f))
  ((with_reducible first | apply xCa | apply xCd); rfl; (simp only [Nat.reduceEqDiff, Nat.reduceAdd, ↓reduceIte, xBB, stB, opdA, opdO, plainN, omap, val, Value.cells]; exact ⟨rfl, rfl⟩); try rfl)
  apply call_fn
  refine (f46_spec [cmpI x.1 y.1, cmpI x.2 y.2] _ _ ?_ (by simp)).use (by first | exact Nat.le_refl _ | (simp only [cond_true, cond_false]; omega) | omega | (dsimp only; omega)) (by first | exact Nat.le_refl _ | (simp only [cond_true, cond_false]; omega) | omega | (dsimp only; omega)) fun v s1 hv _ => ?_
  · exact Sl.block (post := []) (T.get_put_eq _ _ _) rfl (Nat.lt_succ_self _) rfl (Sl.map fun _ => rfl)
  obtain ⟨rfl, rfl⟩ := hv
  refine opt_of rfl ?_
  repeat (first
  | with_reducible first | refine st (by constructor) ?_ | apply c_region
  | (with_reducible apply k_block_on
     · decide)
  | ((with_reducible first | apply xOp | apply xDr | apply xIf); rfl; (simp only [Nat.reduceEqDiff, Nat.reduceAdd, ↓reduceIte, xBB, stG, undef, opA, val, opdA, opdO, plainN, omap, binA, intBinA, loadV, readA, storeV, writeA, fieldAddrA, indexAddrA, lenA, builtinA, newA, unA, packA, Value.cells]; rfl); first | rfl | exact ⟨rfl, rfl, rfl⟩))
  intro _
  ((with_reducible first | apply ret_i | apply ret_n); (simp only [Nat.reduceEqDiff, Nat.reduceAdd, ↓reduceIte, xBB, resA, opdA, opdO, plainN, omap, val, loadV, readA, packA]; rfl))
  rfl
end Go.Ev
