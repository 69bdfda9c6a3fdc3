/- Slices that a function has made by itself: elements, appending, setting. -/
import Derived.Test.YthedojfbofcefaaDoorEvKeep
set_option linter.unusedSimpArgs false
set_option linter.unusedVariables false
namespace Go.Ev
open Go
variable {P : Program} {lk : Nat} {s s' : HS} {size : Nat} {v : Value} {xs : List (List Value)} {e : TypeId} {o : Option Nat}

def cell1 (x : List Value) : Bool := x.all Value.oneCell'

/-- v is a slice in a block of its own (o), with nothing to spare. -/
def Own (s : HS) (e : TypeId) (size : Nat) (o : Option Nat) (v : Value) (xs : List (List Value)) : Prop :=
  match o with
  | none => xs = [] ∧ v = .slice none 0 0
  | some id => id < s.nx ∧ (∀ x ∈ xs, x.length = size ∧ cell1 x = true) ∧ xs.length < UNK ∧
    ∃ off cap cs, v = .slice (some ⟨id, off, none⟩) xs.length cap ∧ (cap = xs.length ∨ cap = UNK + xs.length) ∧ s.hp.get id = some (.cells true e cs) ∧ off ≤ cs.length ∧ ∃ post, cs.drop off = xs.flatten ++ post

theorem flat_len {xs : List (List Value)} (h : ∀ x ∈ xs, x.length = size) : xs.flatten.length = xs.length * size := by
  induction xs with
  | nil => simp
  | cons y ys ih =>
    simp only [List.flatten_cons, List.length_append, List.length_cons]
    rw [ih fun x hx => h x (List.mem_cons_of_mem _ hx), h y List.mem_cons_self, Nat.succ_mul, Nat.add_comm]

theorem flat_cut {xs : List (List Value)} (h : ∀ x ∈ xs, x.length = size) {cs post : List Value} {off : Nat} (hc : cs.drop off = xs.flatten ++ post) (ho : off ≤ cs.length) {i : Nat} {x : List Value} (hi : xs[i]? = some x) :
    x.length = size ∧ cutL cs (off + i * size) size = some x := by
  refine ⟨h x (List.mem_of_getElem? hi), ?_⟩
  have := cutL_flat (pre := cs.take off) (post := post) h hi
  rw [← hc, List.take_append_drop, List.length_take, Nat.min_eq_left ho] at this
  exact this

theorem Own.sl (h : Own s e size o v xs) : Sl s size v xs := by
  cases o with
  | none => obtain ⟨rfl, rfl⟩ := h; exact Or.inl ⟨rfl, rfl⟩
  | some id =>
    obtain ⟨h1, h2, h2', off, cap, cs, rfl, h3, h4, h5, post, h6⟩ := h
    exact Or.inr ⟨id, off, cap, true, e, cs, rfl, h4, h1, fun i x hi => flat_cut (fun x hx => (h2 x hx).1) h6 h5 hi⟩

theorem Own.shape (h : Own s e size o v xs) : ∃ b c, v = .slice b xs.length c := h.sl.shape

theorem Own.same (h : Own s e size o v xs) (hn : s.nx ≤ s'.nx) (hg : ∀ id, o = some id → s'.hp.get id = s.hp.get id) : Own s' e size o v xs := by
  cases o with
  | none => exact h
  | some id =>
    obtain ⟨h1, h2, h2', off, cap, cs, h3, h4, h5, h6⟩ := h
    exact ⟨Nat.lt_of_lt_of_le h1 hn, h2, h2', off, cap, cs, h3, h4, by rw [hg id rfl]; exact h5, h6⟩

theorem Own.lt (h : Own s e size o v xs) {id : Nat} (ho : o = some id) : id < s.nx := by subst ho; exact h.1
theorem Own.size_eq (h : Own s e size o v xs) {x : List Value} (hx : x ∈ xs) : x.length = size := by
  cases o with
  | none => obtain ⟨rfl, _⟩ := h; cases hx
  | some id => exact (h.2.1 x hx).1

theorem Own.keep (h : Own s e size o v xs) (a : Ab s.nx s s') : Own s' e size o v xs := h.same a.nx fun id ho => a.get (Nat.le_refl _) (h.lt ho)
theorem Own.keep' {lk : Nat} (h : Own s e size o v xs) (a : Ab lk s s') (hl : lk ≤ s.nx) (ho : ∀ id, o = some id → id < lk) : Own s' e size o v xs := h.same a.nx fun id h' => a.get hl (ho id h')

theorem Own.nil {n : Nat} : Own s e size none (.slice none 0 0) [] := ⟨rfl, rfl⟩

/-- A block that has just been made, or that is full. -/
theorem Own.block {id n cap : Nat} {cs : List Value} (h : s.hp.get id = some (.cells true e cs)) (hc : cs = xs.flatten) (hid : id < s.nx) (hn : n = xs.length) (hcap : cap = n ∨ cap = UNK + n) (hs : ∀ x ∈ xs, x.length = size ∧ cell1 x = true)
    (hu : xs.length < UNK) : Own s e size (some id) (.slice (some ⟨id, 0, none⟩) n cap) xs := by
  subst hn hc
  exact ⟨hid, hs, hu, 0, cap, _, rfl, hcap, h, Nat.zero_le _, [], by simp⟩

theorem read_block {id : Nat} {wr : Bool} {e' : TypeId} {cs : List Value} (h : s.hp.get id = some (.cells wr e' cs)) {off n : Nat} : readA s.hp ⟨id, off, none⟩ n = cutL cs off n := by unfold readA; simp only [h]

theorem cut_all {cs ys post : List Value} {off n : Nat} (h : cs.drop off = ys ++ post) (ho : off ≤ cs.length) (hn : n = ys.length) : cutL cs off n = some ys := by
  unfold cutL
  have : off + n ≤ cs.length := by
    have := congrArg List.length h
    rw [List.length_drop, List.length_append] at this
    omega
  rw [if_pos this, h, hn, List.take_left]

theorem Own.first (h : Own s e size o v xs) : firstA s.hp size xs.length v = some xs.flatten := by
  cases o with
  | none => obtain ⟨rfl, rfl⟩ := h; rfl
  | some id =>
    obtain ⟨h1, h2, h2', off, cap, cs, rfl, h3, h4, h5, post, h6⟩ := h
    show readA s.hp _ _ = _
    rw [read_block h4]
    exact cut_all h6 h5 (flat_len fun x hx => (h2 x hx).1).symm

theorem cutL_append {cs x y : List Value} {off n m : Nat} (h1 : cutL cs off n = some x) (h2 : cutL cs (off + n) m = some y) : cutL cs off (n + m) = some (x ++ y) := by
  unfold cutL at *
  split at h1
  · split at h2
    · rename_i a b
      rw [if_pos (by omega)]
      cases h1; cases h2
      rw [List.take_add, List.drop_drop]
    · cases h2
  · cases h1

theorem cut_flat {cs : List Value} {off : Nat} : ∀ {xs : List (List Value)} {k : Nat}, xs ≠ [] → (∀ i x, xs[i]? = some x → x.length = size ∧ cutL cs (off + (k + i) * size) size = some x) → cutL cs (off + k * size) (xs.length * size) = some xs.flatten := by
  intro xs
  induction xs with
  | nil => intro k h; exact absurd rfl h
  | cons y ys ih =>
    intro k _ h
    have h0 := (h 0 y rfl).2
    rw [Nat.add_zero] at h0
    by_cases hy : ys = []
    · subst hy; simp only [List.length_cons, List.length_nil, Nat.zero_add, Nat.one_mul, List.flatten_cons, List.flatten_nil, List.append_nil]; exact h0
    · have := ih (k := k + 1) hy fun i x hi => by
        have := h (i + 1) x (by simpa using hi)
        rw [show k + 1 + i = k + (i + 1) by omega]; exact this
      rw [Nat.succ_mul, ← Nat.add_assoc] at this
      rw [List.length_cons, Nat.succ_mul, Nat.add_comm (ys.length * size)]
      exact cutL_append h0 this

theorem Sl.first (h : Sl s size v xs) (hx : xs ≠ []) : firstA s.hp size xs.length v = some xs.flatten := by
  rcases h with ⟨_, rfl⟩ | ⟨id, off, cap, wr, e, cs, rfl, h2, h3, h4⟩
  · exact absurd rfl hx
  · show readA s.hp _ _ = _
    rw [read_block h2]
    have := cut_flat (cs := cs) (off := off) (k := 0) hx fun i x hi => by rw [Nat.zero_add]; exact h4 i x hi
    simpa using this

theorem Sl.len (h : Sl s size v xs) : lenV v = some xs.length := by obtain ⟨b, c, rfl⟩ := h.shape; rfl
theorem Sl.mem_size (h : Sl s size v xs) {x : List Value} (hx : x ∈ xs) : x.length = size := by
  rcases h with ⟨_, rfl⟩ | ⟨id, off, cap, wr, e, cs, rfl, h2, h3, h4⟩
  · cases hx
  · obtain ⟨i, hi⟩ := List.getElem?_of_mem hx; exact (h4 i x hi).1

/-- What an append leaves. -/
def AppQ (s : HS) (e : TypeId) (size : Nat) (o : Option Nat) (zs : List (List Value)) (q : Value × HS) : Prop :=
  s.nx ≤ q.2.nx ∧ (∀ i, i < s.nx → o ≠ some i → q.2.hp.get i = s.hp.get i) ∧ ∃ o', Own q.2 e size o' q.1 zs ∧ (o' = o ∨ o' = some s.nx)

theorem app_own {t : TypeId} {by_ : Nat} {z : Value} (hel : elemA P t = some e) (hsz : szA P e = some size) (hby : bytesA P e = some by_) (hz : zeroA P e = some z) (hzs : z.cells.toList.length = size) (h0 : size ≠ 0)
    (ho : Own s e size o v xs) (hlk : ∀ id, o = some id → lk ≤ id) {y : Value} {ys : List (List Value)} (hn : lenV y = some ys.length) (hf : ys ≠ [] → firstA s.hp size ys.length y = some ys.flatten)
    (hys : ∀ y ∈ ys, y.length = size ∧ cell1 y = true) (hb : (xs.length + ys.length) * (by_ + size) ≤ 1099511627776) :
    opt (appendA P lk t v y s) (AppQ s e size o (xs ++ ys)) := by
  have hU : xs.length + ys.length < UNK := by
    have : xs.length + ys.length ≤ (xs.length + ys.length) * (by_ + size) := Nat.le_mul_of_pos_right _ (by omega)
    unfold UNK; omega
  have hfl : ys.length ≠ 0 → firstA s.hp size ys.length y = some ys.flatten := fun h => hf (by intro e; simp [e] at h)
  have hone : ys.flatten.all Value.oneCell' = true := by
    rw [List.all_eq_true]; intro c hc
    obtain ⟨y, hy, hcy⟩ := List.mem_flatten.1 hc
    exact List.all_eq_true.1 (hys y hy).2 c hcy
  have hcond : ∀ n : Nat, n = xs.length → ¬ (size = 0 ∨ z.cells.toList.length ≠ size ∨ ¬ (n + ys.length) * (by_ + size) ≤ 1099511627776) := by
    rintro n rfl (h | h | h)
    · exact h0 h
    · exact h hzs
    · exact h hb
  cases o with
  | none =>
    obtain ⟨rfl, rfl⟩ := ho
    have hnew : ∀ (wr : Bool), True := fun _ => trivial
    by_cases hy : ys.length = 0
    · have hy' : ys = [] := List.eq_nil_of_length_eq_zero hy
      subst hy'
      refine opt_of (a := (.slice none 0 0, s)) ?_ ⟨Nat.le_refl _, fun _ _ _ => rfl, none, ⟨rfl, rfl⟩, Or.inl rfl⟩
      unfold appendA
      simp only [hel, hsz, hby, hz, hn, Option.bind_some]
      rw [if_neg (hcond 0 rfl), if_pos (show ([] : List (List Value)).length = 0 from rfl), if_pos (Or.inl ⟨by unfold UNK; omega, Nat.le_refl _⟩)]
    · refine opt_of (a := (.slice (some ⟨s.nx, 0, none⟩) ys.length (UNK + ys.length), { hp := s.hp.put s.nx (some (.cells true e ys.flatten)), nx := s.nx + 1 })) ?_
        ⟨Nat.le_succ _, fun i hi _ => T.get_put_ne _ _ _ (by omega), some s.nx, ?_, Or.inr rfl⟩
      · unfold appendA
        simp only [hel, hsz, hby, hz, hn, Option.bind_some]
        rw [if_neg (hcond 0 rfl), if_neg hy, hfl hy]
        simp only [Option.bind_some, and_self, if_true, newA]
      · exact Own.block (T.get_put_eq _ _ _) (by simp) (Nat.lt_succ_self _) (by simp) (Or.inr rfl) (by simpa using hys) (by simpa using hU)
  | some id =>
    have hown := ho
    have hfirst := ho.first
    obtain ⟨h1, h2, h2', off, cap, cs, rfl, h3, h4, h5, post, h6⟩ := ho
    by_cases hy : ys.length = 0
    · have hy' : ys = [] := List.eq_nil_of_length_eq_zero hy
      subst hy'
      refine opt_of (a := (.slice (some ⟨id, off, none⟩) xs.length cap, s)) ?_ ⟨Nat.le_refl _, fun _ _ _ => rfl, some id, by rw [List.append_nil]; exact hown, Or.inl rfl⟩
      unfold appendA
      simp only [hel, hsz, hby, hz, hn, Option.bind_some]
      rw [if_neg (hcond _ rfl), if_pos (show ([] : List (List Value)).length = 0 from rfl), if_pos]
      rcases h3 with rfl | rfl
      · exact Or.inl ⟨h2', Nat.le_refl _⟩
      · exact Or.inr ⟨Nat.le_add_right _ _, rfl⟩
    · have hall : ∀ x ∈ xs ++ ys, x.length = size ∧ cell1 x = true := fun x hx => by
        rcases List.mem_append.1 hx with h | h
        · exact h2 x h
        · exact hys x h
      rcases h3 with rfl | rfl
      · refine opt_of (a := (.slice (some ⟨s.nx, 0, none⟩) (xs.length + ys.length) (UNK + (xs.length + ys.length)), { hp := s.hp.put s.nx (some (.cells true e (xs.flatten ++ ys.flatten))), nx := s.nx + 1 })) ?_
          ⟨Nat.le_succ _, fun i hi _ => T.get_put_ne _ _ _ (by omega), some s.nx, ?_, Or.inr rfl⟩
        · unfold appendA
          simp only [hel, hsz, hby, hz, hn, Option.bind_some]
          rw [if_neg (hcond _ rfl), if_neg hy, hfl hy]
          simp only [Option.bind_some]
          rw [if_pos h2', if_neg (by omega), hfirst]
          rfl
        · exact Own.block (T.get_put_eq _ _ _) (by simp) (Nat.lt_succ_self _) (by simp) (Or.inr rfl) hall (by simpa using hU)
      · refine opt_of (a := (.slice (some ⟨s.nx, 0, none⟩) (xs.length + ys.length) (UNK + (xs.length + ys.length)), { hp := (s.hp.put id none).put s.nx (some (.cells true e (xs.flatten ++ ys.flatten))), nx := s.nx + 1 })) ?_
          ⟨Nat.le_succ _, fun i hi hne => by
            show ((s.hp.put id none).put s.nx _).get i = _
            rw [T.get_put_ne _ _ _ (by omega), T.get_put_ne _ _ _ (fun e => hne (by rw [e]))], some s.nx, ?_, Or.inr rfl⟩
        · unfold appendA
          simp only [hel, hsz, hby, hz, hn, Option.bind_some]
          rw [if_neg (hcond _ rfl), if_neg hy, hfl hy]
          simp only [Option.bind_some]
          rw [if_neg (by omega), if_neg (by omega), hfirst]
          simp only [Option.bind_some, h4]
          simp only [hlk id rfl, hone, and_self, if_true]
          rfl
        · exact Own.block (T.get_put_eq _ _ _) (by simp) (Nat.lt_succ_self _) (by simp) (Or.inr rfl) hall (by simpa using hU)

/-- One element that stands in a block of its own. -/
theorem app_one {t : TypeId} {by_ : Nat} {z : Value} (hel : elemA P t = some e) (hsz : szA P e = some size) (hby : bytesA P e = some by_) (hz : zeroA P e = some z) (hzs : z.cells.toList.length = size) (h0 : size ≠ 0)
    (ho : Own s e size o v xs) (hlk : ∀ id, o = some id → lk ≤ id) {id c : Nat} {wr : Bool} {e' : TypeId} {y : List Value} (hy : s.hp.get id = some (.cells wr e' y)) (hl : y.length = size) (hc : cell1 y = true)
    (hb : (xs.length + 1) * (by_ + size) ≤ 1099511627776) :
    opt (appendA P lk t v (.slice (some ⟨id, 0, none⟩) 1 c) s) (AppQ s e size o (xs ++ [y])) := by
  refine app_own hel hsz hby hz hzs h0 ho hlk rfl (fun _ => ?_) (by simp [hl, hc]) (by simpa using hb)
  show readA s.hp _ _ = _
  rw [read_block hy]
  exact cut_all (post := []) (by simp) (Nat.zero_le _) (by simp [hl])

theorem putL_len {cs x : List Value} {off : Nat} (h : off + x.length ≤ cs.length) : (putL cs off x).length = cs.length := by
  unfold putL
  simp only [List.length_append, List.length_take, List.length_drop]
  omega

theorem putL_flat {post : List Value} {xs : List (List Value)} : ∀ {i : Nat} {x : List Value}, (∀ x ∈ xs, x.length = size) → i < xs.length → x.length = size → putL (xs.flatten ++ post) (i * size) x = (xs.set i x).flatten ++ post := by
  induction xs with
  | nil => intro i x _ h; simp at h
  | cons y ys ih =>
    intro i x hs hi hx
    have hy := hs y List.mem_cons_self
    cases i with
    | zero =>
      unfold putL
      simp only [Nat.zero_mul, List.take_zero, List.nil_append, Nat.zero_add, List.set_cons_zero, List.flatten_cons, List.append_assoc]
      rw [hx, ← hy, List.drop_left]
    | succ i =>
      simp only [List.set_cons_succ, List.flatten_cons, List.append_assoc]
      rw [← ih (fun z hz => hs z (List.mem_cons_of_mem _ hz)) (by simpa using hi) hx]
      unfold putL
      rw [Nat.succ_mul, Nat.add_comm (i * size) size, Nat.add_assoc size, ← hy, List.take_length_add_append, List.drop_length_add_append, List.append_assoc]

theorem putL_drop {cs x : List Value} {off k : Nat} (ho : off ≤ cs.length) : (putL cs (off + k) x).drop off = putL (cs.drop off) k x := by
  unfold putL
  rw [List.drop_append, List.take_add, List.drop_append]
  simp only [List.length_take, Nat.min_eq_left ho, Nat.sub_self, List.drop_zero, List.length_append, List.length_drop]
  rw [List.drop_eq_nil_of_le (by rw [List.length_take]; omega), List.nil_append, List.drop_drop, show off - (off + min k (cs.length - off)) = 0 by omega, List.drop_zero, Nat.add_assoc]

theorem Own.set {id i : Nat} {x : List Value} (h : Own s e size (some id) v xs) (hi : i < xs.length) (hx : x.length = size) (hc : cell1 x = true) :
    ∃ off cap cs, v = .slice (some ⟨id, off, none⟩) xs.length cap ∧ s.hp.get id = some (.cells true e cs) ∧ off + i * size + x.length ≤ cs.length ∧
      ∀ s' : HS, s.nx ≤ s'.nx → s'.hp.get id = some (.cells true e (putL cs (off + i * size) x)) → Own s' e size (some id) v (xs.set i x) := by
  obtain ⟨h1, h2, h2', off, cap, cs, rfl, h3, h4, h5, post, h6⟩ := h
  have hl := flat_len (xs := xs) fun x hx => (h2 x hx).1
  have hl2 := congrArg List.length h6
  rw [List.length_drop, List.length_append, hl] at hl2
  have hle : (i + 1) * size ≤ xs.length * size := Nat.mul_le_mul_right _ hi
  rw [Nat.succ_mul] at hle
  refine ⟨off, cap, cs, rfl, h4, by omega, fun s' hn hg => ⟨Nat.lt_of_lt_of_le h1 hn, ?_, by rw [List.length_set]; exact h2', off, cap, _, by rw [List.length_set], by rw [List.length_set]; exact h3, hg, ?_, post, ?_⟩⟩
  · intro y hy
    rcases List.mem_or_eq_of_mem_set hy with h | rfl
    · exact h2 y h
    · exact ⟨hx, hc⟩
  · rw [putL_len (by omega)]; exact h5
  · rw [putL_drop h5, h6, putL_flat (fun x hx => (h2 x hx).1) hi hx]

/-- The first element is left out. -/
theorem Own.tail {P : Program} {t : TypeId} {id : Nat} {x : List Value} (hu : P.underlying t = some (.slice e)) (hsz : szA P e = some size) (h : Own s e size (some id) v (x :: xs)) :
    ∃ v', sliceA P s.hp t v (some (.int .i64 1)) none none = some v' ∧ Own s e size (some id) v' xs := by
  obtain ⟨h1, h2, h2', off, cap, cs, rfl, h3, h4, h5, post, h6⟩ := h
  have hx := (h2 x List.mem_cons_self).1
  have hl2 := congrArg List.length h6
  simp only [List.length_drop, List.length_append, List.flatten_cons] at hl2
  have hd : cs.drop (off + size) = xs.flatten ++ post := by
    rw [← List.drop_drop, h6, List.flatten_cons, List.append_assoc, ← hx, List.drop_left]
  simp only [List.length_cons] at h2' h3
  have hlive : liveE P s.hp id size = true := by unfold liveE; rw [h4]; simp [hsz]
  have hadv : ∀ cap', (cap' = xs.length ∨ cap' = UNK + xs.length) → Own s e size (some id) (.slice (some ⟨id, off + 1 * size, none⟩) xs.length cap') xs := fun cap' hc =>
    ⟨h1, fun y hy => h2 y (List.mem_cons_of_mem _ hy), by omega, off + 1 * size, cap', cs, rfl, hc, h4, by rw [Nat.one_mul]; omega, post, by rw [Nat.one_mul]; exact hd⟩
  rcases h3 with rfl | rfl
  · refine ⟨.slice (if xs.length + 1 = 1 then some ⟨id, off, none⟩ else some ⟨id, off + 1 * size, none⟩) xs.length xs.length, ?_, ?_⟩
    · unfold sliceA
      rw [hu]
      simp only [onatA, natA, Option.bind_some, Option.map_some, hsz, Option.getD_some, Option.getD_none, List.length_cons]
      simp only [show (0 : Int) ≤ 1 from by decide, if_true, Option.map_some, Option.bind_some, Option.getD_some, Int.toNat_one, hsz]
      rw [if_pos (by omega), if_pos (by omega)]
      simp only [Nat.add_sub_cancel]
    · by_cases h7 : xs.length + 1 = 1
      · have hxs : xs = [] := List.eq_nil_of_length_eq_zero (by omega)
        subst hxs
        rw [if_pos (show ([] : List (List Value)).length + 1 = 1 from rfl)]
        exact ⟨h1, fun y hy => (by cases hy), by unfold UNK; simp, off, 0, cs, rfl, Or.inl rfl, h4, h5, _, by rw [List.flatten_nil, List.nil_append]⟩
      · rw [if_neg h7]; exact hadv _ (Or.inl rfl)
  · refine ⟨.slice (some ⟨id, off + 1 * size, none⟩) xs.length (UNK + xs.length), ?_, hadv _ (Or.inr rfl)⟩
    unfold sliceA
    rw [hu]
    simp only [onatA, natA, show (0 : Int) ≤ 1 from by decide, if_true, Option.map_some, Option.bind_some, Option.getD_some, Option.getD_none, Int.toNat_one, hsz, List.length_cons]
    rw [if_neg (by omega), if_pos ⟨by omega, Nat.le_refl _, hlive⟩]
    simp only [Nat.add_sub_cancel, show UNK + (xs.length + 1) - UNK - 1 = xs.length by omega]
end Go.Ev
