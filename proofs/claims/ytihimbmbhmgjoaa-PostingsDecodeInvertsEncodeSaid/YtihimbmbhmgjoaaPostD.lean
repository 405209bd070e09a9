/- Reading the bytes of a posting list: plain data, as the program and as the reference read them. -/
import Derived.Test.YtihimbmbhmgjoaaPost
import Derived.Test.YtihimbmbhmgjoaaCheck
import Derived.Test.YtihimbmbhmgjoaaGetVar
namespace Go.Proofs.Ytihimbmbhmgjoaa
open Go.RowKit

theorem u8_nat (n : Nat) (h : n < 256) : (UInt8.ofNat n).toNat = n := by rw [UInt8.toNat_ofNat']; omega
/-- A number of at most two bytes. -/
def numP : List UInt8 → Option (Nat × List UInt8)
  | [] => none
  | a :: r => if a.toNat < 128 then some (a.toNat, r) else
    match r with
    | [] => none
    | c :: r' => if c.toNat < 128 then some (a.toNat % 128 + c.toNat * 128, r') else none
theorem numP_uvar (n : Nat) (h : n < 16384) (r : List UInt8) : numP (uvar n ++ r) = some (n, r) := by
  by_cases h1 : n < 128
  · rw [uvar_small h1]
    simp only [List.cons_append, List.nil_append, numP]
    rw [u8_nat n (by omega), if_pos h1]
  · rw [uvar_big h1, uvar_small (show n / 128 < 128 by omega)]
    simp only [List.cons_append, List.nil_append, numP]
    rw [u8_nat _ (by omega), u8_nat _ (by omega), if_neg (by omega), if_pos (by omega)]
    congr 2
    omega
theorem numP_small : ∀ (b : List UInt8) (n : Nat) (r : List UInt8), numP b = some (n, r) → n < 16384 ∧ r.length < b.length := by
  intro b n r h
  match b with
  | [] => cases h
  | [a] =>
    simp only [numP] at h
    split at h
    · injection h with h; injection h with h1 h2; subst h1 h2; simp; omega
    · cases h
  | a :: c :: r' =>
    simp only [numP] at h
    split at h
    · injection h with h; injection h with h1 h2; subst h1 h2; simp; omega
    · split at h
      · injection h with h; injection h with h1 h2; subst h1 h2; simp; omega
      · cases h

/-- k skip entries: the bytes behind them. -/
def entP : Nat → List UInt8 → Option (List UInt8)
  | 0, b => some b
  | k + 1, b => match numP b with
    | none => none
    | some (_, b1) => match numP b1 with
      | none => none
      | some (_, b2) => entP k b2
/-- The last identifiers of k skip entries. -/
def lastsP : Nat → List UInt8 → List Int
  | 0, _ => []
  | k + 1, b => match numP b with
    | none => []
    | some (x, b1) => match numP b1 with
      | none => []
      | some (_, b2) => (x : Int) :: lastsP k b2
/-- k identifiers behind 'last'. -/
def blkP : Nat → Int → List UInt8 → Option (List Int × List UInt8)
  | 0, _, b => some ([], b)
  | k + 1, a, b => match numP b with
    | none => none
    | some (d, b1) => match blkP k (a + d) b1 with
      | none => none
      | some (o, r) => some ((a + d) :: o, r)
/-- The blocks. -/
def blksP : Nat → Nat → List UInt8 → Option (List Int)
  | 0, _, _ => some []
  | K + 1, n, b => match blkP (min 32 n) 0 b with
    | none => none
    | some (o, b1) => match blksP K (n - min 32 n) b1 with
      | none => none
      | some o' => some (o ++ o')
def blocksNo (n : Nat) : Nat := (n + 31) / 32
def decP (b : List UInt8) : Option (List Int) :=
  match numP b with
  | none => none
  | some (n, b1) => if 4096 < n then none else match entP (blocksNo n) b1 with
    | none => none
    | some b2 => blksP (blocksNo n) n b2

/-- Ascending from a on, below 4096. -/
def Rise : Int → List Int → Prop
  | _, [] => True
  | a, x :: xs => a ≤ x ∧ x < 4096 ∧ Rise x xs
theorem Rise.mono {a b : Int} (h : a ≤ b) : ∀ {l : List Int}, Rise b l → Rise a l
  | [], _ => trivial
  | _ :: _, ⟨h1, h2, h3⟩ => ⟨Int.le_trans h h1, h2, h3⟩
theorem Rise.zero : ∀ {l : List Int} {a : Int}, 0 ≤ a → Rise a l → Rise 0 l
  | [], _, _, _ => trivial
  | _ :: _, _, h0, ⟨h1, h2, h3⟩ => ⟨by omega, h2, h3⟩
theorem Rise.take : ∀ {l : List Int} {a : Int} (k : Nat), Rise a l → Rise a (l.take k)
  | [], _, k, _ => by cases k <;> exact trivial
  | _ :: _, _, 0, _ => trivial
  | _ :: _, _, k + 1, ⟨h1, h2, h3⟩ => ⟨h1, h2, h3.take k⟩
theorem Rise.drop : ∀ {l : List Int} {a : Int} (k : Nat), 0 ≤ a → Rise a l → Rise 0 (l.drop k)
  | [], _, k, _, _ => by cases k <;> exact trivial
  | _ :: _, _, 0, h0, h => h.zero h0
  | x :: xs, a, k + 1, h0, ⟨h1, _, h3⟩ => h3.drop k (by omega)
theorem Rise.of_up : ∀ (l : List Int) (a : Int), (∀ x ∈ l, 0 ≤ x ∧ x < 4096) → Asc l → (∀ x ∈ l, a ≤ x) → Rise a l
  | [], _, _, _, _ => trivial
  | x :: xs, a, h, hA, ha => by
    have hA' := List.pairwise_cons.1 hA
    exact ⟨ha x (by simp), (h x (by simp)).2, Rise.of_up xs x (fun y hy => h y (by simp [hy])) hA'.2 (fun y hy => Int.le_of_lt (hA'.1 y hy))⟩
theorem Rise.bound : ∀ {l : List Int} {a : Int}, Rise a l → ∀ x ∈ l, a ≤ x ∧ x < 4096
  | [], _, _, _, h => by cases h
  | _ :: _, _, ⟨h1, h2, h3⟩, y, hy => by
    rcases List.mem_cons.1 hy with rfl | hy
    · exact ⟨h1, h2⟩
    · have := h3.bound y hy
      exact ⟨by omega, this.2⟩

theorem blkP_gaps : ∀ (xs : List Int) (a : Int) (r : List UInt8), 0 ≤ a → Rise a xs → blkP xs.length a (gaps a xs ++ r) = some (xs, r)
  | [], _, _, _, _ => rfl
  | x :: xs, a, r, h0, ⟨h1, h2, h3⟩ => by
    rw [List.length_cons, gaps, List.append_assoc, blkP, numP_uvar _ (by omega)]
    simp only
    have e : a + ((x - a).toNat : Int) = x := by omega
    rw [e, blkP_gaps xs x r (by omega) h3]
theorem gaps_short : ∀ (xs : List Int) (a : Int), 0 ≤ a → Rise a xs → (gaps a xs).length ≤ 2 * xs.length
  | [], _, _, _ => by simp [gaps]
  | x :: xs, a, h0, ⟨h1, h2, h3⟩ => by
    have := gaps_short xs x (by omega) h3
    have h4 := uvar_len 1 (x - a).toNat (by omega)
    rw [gaps, List.length_append, List.length_cons]
    omega

/-- The chunks of a list. -/
def parts : Nat → List Int → List (List Int)
  | 0, _ => []
  | K + 1, l => l.take 32 :: parts K (l.drop 32)
theorem chk_take (l : List Int) (i : Nat) : chk l i = (l.drop i).take 32 := by
  unfold chk chLen
  split
  · rfl
  · rw [List.take_of_length_le (by simp), List.take_of_length_le (by simp; omega)]
theorem parts_range : ∀ (K : Nat) (l : List Int), (List.range K).map (fun j => (l.drop (32 * j)).take 32) = parts K l
  | 0, _ => rfl
  | K + 1, l => by
    rw [List.range_succ_eq_map, List.map_cons, List.map_map, parts, ← parts_range K (l.drop 32)]
    congr 1
    apply List.map_congr_left
    intro j _
    simp only [Function.comp, List.drop_drop]
    congr 2
    omega
theorem starts_parts (l : List Int) : (starts l.length).map (chk l) = parts (blocksNo l.length) l := by
  rw [← parts_range, starts, List.map_map]
  apply List.map_congr_left
  intro j _
  exact chk_take l (32 * j)
theorem heads_parts (l : List Int) : headsOf l (starts l.length) = (parts (blocksNo l.length) l).flatMap entryB := by
  rw [← starts_parts, List.flatMap_map]; rfl
theorem bodies_parts (l : List Int) : bodiesOf l (starts l.length) = (parts (blocksNo l.length) l).flatMap (gaps 0) := by
  rw [← starts_parts, List.flatMap_map]; rfl
theorem getLastD_rise : ∀ (xs : List Int) (a : Int), 0 ≤ a → a < 4096 → Rise a xs → 0 ≤ xs.getLastD a ∧ xs.getLastD a < 4096
  | [], a, h0, h1, _ => ⟨h0, h1⟩
  | x :: xs, a, h0, _, ⟨h1, h2, h3⟩ => by
    rw [show (x :: xs).getLastD a = xs.getLastD x from by cases xs <;> rfl]
    exact getLastD_rise xs x (by omega) h2 h3
/-- The last identifier and the number of bytes of a chunk are small. -/
theorem entry_small {c : List Int} (hc : c.length ≤ 32) (h : Rise 0 c) : (c.getLastD 0).toNat < 4096 ∧ (gaps 0 c).length ≤ 64 := by
  have h1 := getLastD_rise c 0 (by omega) (by omega) h
  have h2 := gaps_short c 0 (by omega) h
  omega
theorem parts_len : ∀ (K : Nat) (l : List Int), ∀ c ∈ parts K l, c.length ≤ 32
  | 0, _, _, h => by cases h
  | K + 1, l, c, h => by
    rcases List.mem_cons.1 h with rfl | h
    · simp; omega
    · exact parts_len K _ c h
theorem parts_rise : ∀ (K : Nat) (l : List Int), Rise 0 l → ∀ c ∈ parts K l, Rise 0 c
  | 0, _, _, _, h => by cases h
  | K + 1, l, hl, c, h => by
    rcases List.mem_cons.1 h with rfl | h
    · exact hl.take 32
    · exact parts_rise K _ (hl.drop 32 (Int.le_refl _)) c h
theorem entP_heads : ∀ (ps : List (List Int)) (r : List UInt8), (∀ c ∈ ps, c.length ≤ 32) → (∀ c ∈ ps, Rise 0 c) → entP ps.length (ps.flatMap entryB ++ r) = some r
  | [], _, _, _ => rfl
  | c :: ps, r, h1, h2 => by
    have h3 := entry_small (h1 c (by simp)) (h2 c (by simp))
    rw [List.length_cons, entP, List.flatMap_cons, entryB, List.append_assoc, List.append_assoc, numP_uvar _ (by omega)]
    simp only
    rw [numP_uvar _ (by omega)]
    simp only
    exact entP_heads ps r (fun c hc => h1 c (by simp [hc])) (fun c hc => h2 c (by simp [hc]))
theorem lastsP_heads : ∀ (ps : List (List Int)) (r : List UInt8), (∀ c ∈ ps, c.length ≤ 32) → (∀ c ∈ ps, Rise 0 c) → lastsP ps.length (ps.flatMap entryB ++ r) = ps.map (·.getLastD 0)
  | [], _, _, _ => rfl
  | c :: ps, r, h1, h2 => by
    have h3 := entry_small (h1 c (by simp)) (h2 c (by simp))
    have h4 := getLastD_rise c 0 (by omega) (by omega) (h2 c (by simp))
    rw [List.length_cons, lastsP, List.flatMap_cons, entryB, List.append_assoc, List.append_assoc, numP_uvar _ (by omega)]
    simp only
    rw [numP_uvar _ (by omega)]
    simp only
    rw [lastsP_heads ps r (fun c hc => h1 c (by simp [hc])) (fun c hc => h2 c (by simp [hc])), List.map_cons]
    congr 1
    omega
theorem parts_count : ∀ (K : Nat) (l : List Int), (parts K l).length = K
  | 0, _ => rfl
  | K + 1, l => by rw [parts, List.length_cons, parts_count]
theorem blksP_bodies : ∀ (K : Nat) (l : List Int) (r : List UInt8), Rise 0 l → l.length ≤ 32 * K → blksP K l.length ((parts K l).flatMap (gaps 0) ++ r) = some l
  | 0, l, _, _, h => by
    have : l = [] := List.eq_nil_of_length_eq_zero (by omega)
    subst this; rfl
  | K + 1, l, r, hl, h => by
    have e : min 32 l.length = (l.take 32).length := by simp
    rw [blksP, parts, List.flatMap_cons, List.append_assoc, e, blkP_gaps _ 0 _ (Int.le_refl _) (hl.take 32)]
    simp only
    have e2 : l.length - (l.take 32).length = (l.drop 32).length := by simp; omega
    rw [e2, blksP_bodies K (l.drop 32) r (hl.drop 32 (Int.le_refl _)) (by simp; omega)]
    simp
/-- A posting list comes back from its bytes. -/
theorem decP_post {l : List Int} (hr : Rise 0 l) (hn : l.length ≤ 4096) : decP (postB l) = some l := by
  have h1 := parts_len (blocksNo l.length) l
  have h2 := parts_rise (blocksNo l.length) l hr
  have h3 := parts_count (blocksNo l.length) l
  have h4 := entP_heads (parts (blocksNo l.length) l) ((parts (blocksNo l.length) l).flatMap (gaps 0)) h1 h2
  rw [h3] at h4
  have h5 := blksP_bodies (blocksNo l.length) l [] hr (by unfold blocksNo; omega)
  rw [List.append_nil] at h5
  unfold decP postB
  rw [List.append_assoc, numP_uvar _ (by omega), heads_parts, bodies_parts]
  simp only
  rw [if_neg (by omega), h4]
  exact h5
end Go.Proofs.Ytihimbmbhmgjoaa
