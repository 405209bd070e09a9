/- Plain laws of sorted lists of integers: merging two of them, what is in the merged list, and that sorted lists with the same elements are equal. No program in sight. -/
namespace Go.Proofs.Ytihimbmbhmgjoaa

/-- Merges two lists; the elements that are wanted by whether they are in the first and in the second one. -/
def mg (want : Bool → Bool → Bool) : Nat → List Int → List Int → List Int
  | 0, _, _ => []
  | _ + 1, [], [] => []
  | f + 1, a :: as, [] => (if want true false then [a] else []) ++ mg want f as []
  | f + 1, [], b :: bs => (if want false true then [b] else []) ++ mg want f [] bs
  | f + 1, a :: as, b :: bs =>
    if a < b then (if want true false then [a] else []) ++ mg want f as (b :: bs)
    else if b < a then (if want false true then [b] else []) ++ mg want f (a :: as) bs
    else (if want true true then [b] else []) ++ mg want f as bs
def merged (want : Bool → Bool → Bool) (a b : List Int) : List Int := mg want (a.length + b.length) a b
def andL (a b : List Int) : List Int := merged (fun x y => x && y) a b
def orL (a b : List Int) : List Int := merged (fun _ _ => true) a b
def withoutL (a b : List Int) : List Int := merged (fun x y => x && !y) a b

def Asc (l : List Int) : Prop := l.Pairwise (· < ·)

theorem mg_mem (want : Bool → Bool → Bool) (hw : want false false = false) : ∀ (f : Nat) (a b : List Int), a.length + b.length ≤ f → Asc a → Asc b →
    ∀ x, x ∈ mg want f a b ↔ want (decide (x ∈ a)) (decide (x ∈ b)) = true := by
  intro f
  induction f with
  | zero =>
    intro a b hl _ _ x
    have ha : a = [] := List.eq_nil_of_length_eq_zero (by omega)
    have hb : b = [] := List.eq_nil_of_length_eq_zero (by omega)
    subst ha hb
    simp [mg, hw]
  | succ f ih =>
    intro a b hl ha hb x
    match a, b with
    | [], [] => simp [mg, hw]
    | a :: as, [] =>
      simp only [Asc, List.pairwise_cons] at ha
      have h := ih as [] (by simp at hl ⊢; omega) ha.2 hb x
      have hna : a ∉ as := fun h' => by have := ha.1 a h'; omega
      simp only [mg, List.mem_append, h]
      by_cases hx : x = a
      · subst hx
        cases hwt : want true false <;> simp [hwt, hna, hw]
      · cases hwt : want true false <;> simp [hx]
    | [], b :: bs =>
      simp only [Asc, List.pairwise_cons] at hb
      have h := ih [] bs (by simp at hl ⊢; omega) ha hb.2 x
      have hnb : b ∉ bs := fun h' => by have := hb.1 b h'; omega
      simp only [mg, List.mem_append, h]
      by_cases hx : x = b
      · subst hx
        cases hwt : want false true <;> simp [hwt, hnb, hw]
      · cases hwt : want false true <;> simp [hx]
    | a :: as, b :: bs =>
      have hac := ha
      have hbc := hb
      simp only [Asc, List.pairwise_cons] at ha hb
      have hna : a ∉ as := fun h' => by have := ha.1 a h'; omega
      have hnb : b ∉ bs := fun h' => by have := hb.1 b h'; omega
      simp only [mg]
      by_cases h1 : a < b
      · have h := ih as (b :: bs) (by simp at hl ⊢; omega) ha.2 hbc x
        have hab : a ∉ b :: bs := by
          simp only [List.mem_cons, not_or]
          exact ⟨by omega, fun h' => by have := hb.1 a h'; omega⟩
        rw [if_pos h1, List.mem_append, h]
        by_cases hx : x = a
        · subst hx
          cases hwt : want true false <;> simp [hwt, hna, hw, hab]
        · cases hwt : want true false <;> simp [hx]
      · by_cases h2 : b < a
        · have h := ih (a :: as) bs (by simp at hl ⊢; omega) hac hb.2 x
          have hba : b ∉ a :: as := by
            simp only [List.mem_cons, not_or]
            exact ⟨by omega, fun h' => by have := ha.1 b h'; omega⟩
          rw [if_neg h1, if_pos h2, List.mem_append, h]
          by_cases hx : x = b
          · subst hx
            cases hwt : want false true <;> simp [hwt, hnb, hw, hba]
          · cases hwt : want false true <;> simp [hx]
        · have he : a = b := by omega
          subst he
          have h := ih as bs (by simp at hl ⊢; omega) ha.2 hb.2 x
          rw [if_neg h1, if_neg h2, List.mem_append, h]
          by_cases hx : x = a
          · subst hx
            cases hwt : want true true <;> simp [hwt, hna, hnb, hw]
          · cases hwt : want true true <;> simp [hx]

theorem mg_sub (want : Bool → Bool → Bool) : ∀ (f : Nat) (a b : List Int) (x : Int), x ∈ mg want f a b → x ∈ a ∨ x ∈ b := by
  intro f
  induction f with
  | zero => intro a b x h; simp [mg] at h
  | succ f ih =>
    intro a b x h
    match a, b with
    | [], [] => simp [mg] at h
    | a :: as, [] =>
      simp only [mg, List.mem_append] at h
      rcases h with h | h
      · split at h <;> simp at h; subst h; simp
      · rcases ih as [] x h with h | h <;> simp [h]
    | [], b :: bs =>
      simp only [mg, List.mem_append] at h
      rcases h with h | h
      · split at h <;> simp at h; subst h; simp
      · rcases ih [] bs x h with h | h <;> simp [h]
    | a :: as, b :: bs =>
      simp only [mg] at h
      split at h
      · rcases List.mem_append.1 h with h | h
        · split at h <;> simp at h; subst h; simp
        · rcases ih as (b :: bs) x h with h | h
          · simp [h]
          · exact .inr h
      · split at h
        · rcases List.mem_append.1 h with h | h
          · split at h <;> simp at h; subst h; simp
          · rcases ih (a :: as) bs x h with h | h
            · exact .inl h
            · simp [h]
        · rcases List.mem_append.1 h with h | h
          · split at h <;> simp at h; subst h; simp
          · rcases ih as bs x h with h | h <;> simp [h]

theorem asc_cons_of {x : Int} {l : List Int} (c : Bool) (hx : ∀ y ∈ l, x < y) (hl : Asc l) : Asc ((if c then [x] else []) ++ l) := by
  cases c
  · simpa using hl
  · simp only [Asc, if_true, List.singleton_append, List.pairwise_cons]
    exact ⟨hx, hl⟩

theorem mg_asc (want : Bool → Bool → Bool) : ∀ (f : Nat) (a b : List Int), Asc a → Asc b → Asc (mg want f a b) := by
  intro f
  induction f with
  | zero => intro a b _ _; simp [mg, Asc]
  | succ f ih =>
    intro a b ha hb
    match a, b with
    | [], [] => simp [mg, Asc]
    | a :: as, [] =>
      simp only [Asc, List.pairwise_cons] at ha
      simp only [mg]
      refine asc_cons_of _ (fun y hy => ?_) (ih as [] ha.2 hb)
      rcases mg_sub want f as [] y hy with h | h
      · exact ha.1 y h
      · simp at h
    | [], b :: bs =>
      simp only [Asc, List.pairwise_cons] at hb
      simp only [mg]
      refine asc_cons_of _ (fun y hy => ?_) (ih [] bs ha hb.2)
      rcases mg_sub want f [] bs y hy with h | h
      · simp at h
      · exact hb.1 y h
    | a :: as, b :: bs =>
      have hac := ha
      have hbc := hb
      simp only [Asc, List.pairwise_cons] at ha hb
      simp only [mg]
      split
      · rename_i h1
        refine asc_cons_of _ (fun y hy => ?_) (ih as (b :: bs) ha.2 hbc)
        rcases mg_sub want f _ _ y hy with h | h
        · exact ha.1 y h
        · rcases List.mem_cons.1 h with h | h
          · omega
          · have := hb.1 y h; omega
      · split
        · rename_i h1 h2
          refine asc_cons_of _ (fun y hy => ?_) (ih (a :: as) bs hac hb.2)
          rcases mg_sub want f _ _ y hy with h | h
          · rcases List.mem_cons.1 h with h | h
            · omega
            · have := ha.1 y h; omega
          · exact hb.1 y h
        · rename_i h1 h2
          refine asc_cons_of _ (fun y hy => ?_) (ih as bs ha.2 hb.2)
          rcases mg_sub want f _ _ y hy with h | h
          · have := ha.1 y h; omega
          · exact hb.1 y h

theorem mg_len (want : Bool → Bool → Bool) : ∀ (f : Nat) (a b : List Int), (mg want f a b).length ≤ a.length + b.length := by
  intro f
  induction f with
  | zero => intro a b; simp [mg]
  | succ f ih =>
    intro a b
    match a, b with
    | [], [] => simp [mg]
    | a :: as, [] => have := ih as []; simp only [mg, List.length_append, List.length_cons, List.length_nil] at this ⊢; split <;> simp <;> omega
    | [], b :: bs => have := ih [] bs; simp only [mg, List.length_append, List.length_cons, List.length_nil] at this ⊢; split <;> simp <;> omega
    | a :: as, b :: bs =>
      have h1 := ih as (b :: bs)
      have h2 := ih (a :: as) bs
      have h3 := ih as bs
      simp only [mg, List.length_cons] at h1 h2 h3 ⊢
      split
      · simp only [List.length_append]; split <;> simp <;> omega
      · split
        · simp only [List.length_append]; split <;> simp <;> omega
        · simp only [List.length_append]; split <;> simp <;> omega

theorem asc_ext : ∀ {a b : List Int}, Asc a → Asc b → (∀ x, x ∈ a ↔ x ∈ b) → a = b := by
  intro a
  induction a with
  | nil =>
    intro b _ _ h
    match b with
    | [] => rfl
    | y :: b => exact absurd ((h y).2 (by simp)) (by simp)
  | cons x a ih =>
    intro b ha hb h
    match b with
    | [] => exact absurd ((h x).1 (by simp)) (by simp)
    | y :: b =>
      simp only [Asc, List.pairwise_cons] at ha hb
      have hxy : x = y := by
        have h1 := (h x).1 (by simp)
        have h2 := (h y).2 (by simp)
        rcases List.mem_cons.1 h1 with h1 | h1
        · exact h1
        · rcases List.mem_cons.1 h2 with h2 | h2
          · exact h2.symm
          · have := ha.1 y h2; have := hb.1 x h1; omega
      subst hxy
      have : a = b := ih ha.2 hb.2 (fun z => by
        have hz := h z
        simp only [List.mem_cons] at hz
        constructor
        · intro hza
          rcases hz.1 (.inr hza) with h | h
          · subst h; have := ha.1 z hza; omega
          · exact h
        · intro hzb
          rcases hz.2 (.inr hzb) with h | h
          · subst h; have := hb.1 z hzb; omega
          · exact h)
      rw [this]

section
variable {a b c : List Int}
theorem and_mem (ha : Asc a) (hb : Asc b) (x : Int) : x ∈ andL a b ↔ x ∈ a ∧ x ∈ b := by
  unfold andL merged; rw [mg_mem _ rfl _ _ _ (Nat.le_refl _) ha hb]; simp
theorem or_mem' (_ha : Asc a) (_hb : Asc b) (x : Int) : x ∈ orL a b ↔ x ∈ a ∨ x ∈ b := by
  unfold orL merged
  constructor
  · exact mg_sub _ _ _ _ x
  · suffices H : ∀ (f : Nat) (a b : List Int), a.length + b.length ≤ f → x ∈ a ∨ x ∈ b → x ∈ mg (fun _ _ => true) f a b from H _ _ _ (Nat.le_refl _)
    intro f
    induction f with
    | zero =>
      intro a b hl h
      have ha : a = [] := List.eq_nil_of_length_eq_zero (by omega)
      have hb : b = [] := List.eq_nil_of_length_eq_zero (by omega)
      subst ha hb; simp at h
    | succ f ih =>
      intro a b hl h
      match a, b with
      | [], [] => simp at h
      | a :: as, [] =>
        have := ih as [] (by simp at hl ⊢; omega)
        simp only [mg, if_true, List.singleton_append, List.mem_cons]
        simp only [List.mem_cons, List.not_mem_nil, or_false] at h this
        rcases h with h | h
        · exact .inl h
        · exact .inr (this h)
      | [], b :: bs =>
        have := ih [] bs (by simp at hl ⊢; omega)
        simp only [mg, if_true, List.singleton_append, List.mem_cons]
        simp only [List.mem_cons, List.not_mem_nil, false_or] at h this
        rcases h with h | h
        · exact .inl h
        · exact .inr (this h)
      | a :: as, b :: bs =>
        simp only [mg, if_true, List.singleton_append]
        split
        · have := ih as (b :: bs) (by simp at hl ⊢; omega)
          simp only [List.mem_cons] at h this ⊢
          rcases h with (h | h) | h
          · exact .inl h
          · exact .inr (this (.inl h))
          · exact .inr (this (.inr h))
        · split
          · have := ih (a :: as) bs (by simp at hl ⊢; omega)
            simp only [List.mem_cons] at h this ⊢
            rcases h with h | (h | h)
            · exact .inr (this (.inl h))
            · exact .inl h
            · exact .inr (this (.inr h))
          · have := ih as bs (by simp at hl ⊢; omega)
            simp only [List.mem_cons] at h this ⊢
            rcases h with (h | h) | (h | h)
            · exact .inl (by omega)
            · exact .inr (this (.inl h))
            · exact .inl h
            · exact .inr (this (.inr h))
theorem without_mem (ha : Asc a) (hb : Asc b) (x : Int) : x ∈ withoutL a b ↔ x ∈ a ∧ x ∉ b := by
  unfold withoutL merged; rw [mg_mem _ rfl _ _ _ (Nat.le_refl _) ha hb]; simp
theorem and_asc (ha : Asc a) (hb : Asc b) : Asc (andL a b) := mg_asc _ _ _ _ ha hb
theorem or_asc (ha : Asc a) (hb : Asc b) : Asc (orL a b) := mg_asc _ _ _ _ ha hb
theorem without_asc (ha : Asc a) (hb : Asc b) : Asc (withoutL a b) := mg_asc _ _ _ _ ha hb

theorem and_comm' (ha : Asc a) (hb : Asc b) : andL a b = andL b a := asc_ext (and_asc ha hb) (and_asc hb ha) fun x => by rw [and_mem ha hb, and_mem hb ha]; exact And.comm
theorem or_comm' (ha : Asc a) (hb : Asc b) : orL a b = orL b a := asc_ext (or_asc ha hb) (or_asc hb ha) fun x => by rw [or_mem' ha hb, or_mem' hb ha]; exact Or.comm
theorem absorb1 (ha : Asc a) (hb : Asc b) : andL a (orL a b) = a := asc_ext (and_asc ha (or_asc ha hb)) ha fun x => by
  rw [and_mem ha (or_asc ha hb), or_mem' ha hb]; exact ⟨fun h => h.1, fun h => ⟨h, .inl h⟩⟩
theorem absorb2 (ha : Asc a) (hb : Asc b) : orL a (andL a b) = a := asc_ext (or_asc ha (and_asc ha hb)) ha fun x => by
  rw [or_mem' ha (and_asc ha hb), and_mem ha hb]; exact ⟨fun h => h.elim id (·.1), fun h => .inl h⟩
theorem spread (ha : Asc a) (hb : Asc b) (hc : Asc c) : andL a (orL b c) = orL (andL a b) (andL a c) := asc_ext (and_asc ha (or_asc hb hc)) (or_asc (and_asc ha hb) (and_asc ha hc)) fun x => by
  rw [and_mem ha (or_asc hb hc), or_mem' hb hc, or_mem' (and_asc ha hb) (and_asc ha hc), and_mem ha hb, and_mem ha hc]
  constructor
  · rintro ⟨h1, h2 | h2⟩
    · exact .inl ⟨h1, h2⟩
    · exact .inr ⟨h1, h2⟩
  · rintro (⟨h1, h2⟩ | ⟨h1, h2⟩)
    · exact ⟨h1, .inl h2⟩
    · exact ⟨h1, .inr h2⟩
theorem parts1 (ha : Asc a) (hb : Asc b) : orL (andL a b) (withoutL a b) = a := asc_ext (or_asc (and_asc ha hb) (without_asc ha hb)) ha fun x => by
  rw [or_mem' (and_asc ha hb) (without_asc ha hb), and_mem ha hb, without_mem ha hb]
  constructor
  · rintro (⟨h, _⟩ | ⟨h, _⟩) <;> exact h
  · intro h
    by_cases hx : x ∈ b
    · exact .inl ⟨h, hx⟩
    · exact .inr ⟨h, hx⟩
theorem parts2 (ha : Asc a) (hb : Asc b) : andL (withoutL a b) b = [] := asc_ext (and_asc (without_asc ha hb) hb) (by simp [Asc]) fun x => by
  rw [and_mem (without_asc ha hb) hb, without_mem ha hb]
  simp
theorem morgan (ha : Asc a) (hb : Asc b) (hc : Asc c) : withoutL a (orL b c) = withoutL (withoutL a b) c := asc_ext (without_asc ha (or_asc hb hc)) (without_asc (without_asc ha hb) hc) fun x => by
  rw [without_mem ha (or_asc hb hc), or_mem' hb hc, without_mem (without_asc ha hb) hc, without_mem ha hb]
  constructor
  · rintro ⟨h1, h2⟩; exact ⟨⟨h1, fun h => h2 (.inl h)⟩, fun h => h2 (.inr h)⟩
  · rintro ⟨⟨h1, h2⟩, h3⟩; exact ⟨h1, fun h => h.elim h2 h3⟩
theorem merged_len (want : Bool → Bool → Bool) (a b : List Int) : (merged want a b).length ≤ a.length + b.length := mg_len want _ a b
end
end Go.Proofs.Ytihimbmbhmgjoaa
