/- The contract of postings.number: a number of at most two bytes. -/
import Derived.Test.YtihimbmbhmgjoaaPostD
import Derived.Test.YtihimbmbhmgjoaaSameB
namespace Go.Proofs.Ytihimbmbhmgjoaa
open Go.RowKit

def NumRes (w : World) (S : Nat → Prop) (b : List UInt8) (e : Ending) (w' : World) : Prop :=
  (numP b = none ∧ e = .returned (.tuple #[.int .i64 0, .slice none 0 0, .bool false]) ∧ ∃ k, w' = w.drewN k) ∨
  ∃ (n : Nat) (r : List UInt8) (v : Value), numP b = some (n, r) ∧ e = .returned (.tuple #[.int .i64 n, v, .bool true]) ∧ BSl w S v r ∧ ∃ k, w' = w.drewN k
theorem and127 : ∀ x : Nat, x < 256 → bits .and .u8 (x : Int) 127 = ((x % 128 : Nat) : Int) := by decide +kernel
theorem BSl.tail {w : World} {S : Nat → Prop} {A : Option Addr} {c k : Nat} {l : List UInt8} (h : BSl w S (.slice A l.length c) l) (hk : k ≤ l.length) :
    BSl w S (.slice (if c = k then A else A.map (·.add k)) (l.length - k) (c - k)) (l.drop k) := by
  have h' : Sl w S 1 (.slice A l.length c) l.length (l.map ub) := h
  have h2 := h'.drop hk
  rw [Nat.mul_one, ← List.map_drop] at h2
  unfold BSl
  rw [List.length_drop]
  exact h2
theorem or0 : ∀ x : Nat, x < 128 → bits .or .i64 0 (x : Int) = (x : Int) := by decide +kernel
theorem or2 : ∀ x : Nat, x < 128 → ∀ y : Nat, y < 128 → bits .or .i64 (x : Int) ((y : Int) * 128) = ((x + y * 128 : Nat) : Int) := by decide +kernel
set_option maxRecDepth 100000 in
theorem number_any (v : Value) (b : List UInt8) (S : Nat → Prop) (w : World) (h : BSl w S v b) (hm : b.length ≤ 1000000) :
    Calls Try.prog 50 #[v] w (NumRes w S b) := by
  obtain ⟨A, c, rfl, hc, h⟩ := h.form
  rcases b with _ | ⟨a, t⟩
  · go_enter Try.func50, Try.ntmps50
    go_wp2_with fail
    go_loop [5, 6] (fun n i => n = .int .i64 0 ∧ i = .int .i64 0) (fun _ _ => 0)
    case atStart => exact ⟨rfl, rfl⟩
    case round =>
      obtain ⟨rfl, rfl⟩ := hrel
      go_wp2_with fail
      go_ret3
      exact .inl ⟨rfl, rfl, 0, rfl⟩
  · have h0 := h.at_ (k := 0) (by simp)
    obtain ⟨g, o, rfl, hg, hc0⟩ := h0
    simp only [List.getElem_cons_zero, Nat.add_zero] at hc0
    have ha := a.toNat_lt
    have ea := and127 a.toNat ha
    have hT1 := BSl.tail (k := 1) h (by simp)
    obtain ⟨m, hm1⟩ : ∃ m, (a :: t).length = m := ⟨_, rfl⟩
    have hm2 : 1 ≤ m := by rw [← hm1]; simp
    rw [hm1] at hc hm hT1
    rw [hm1]
    have HT1 := keep hT1
    have HM := keep hm1
    have i0 : (0 : Int) < (m : Int) := by omega
    clear hT1 hm1
    by_cases h128 : a.toNat < 128
    · have hn : Hid (numP (a :: t) = some (a.toNat, t)) := keep (by simp only [numP]; rw [if_pos h128])
      have ex : a.toNat % 128 = a.toNat := Nat.mod_eq_of_lt h128
      rw [ex] at ea
      have d1 : ((a.toNat : Nat) : Int) < 128 := by omega
      have eo := or0 a.toNat h128
      clear ex h128 ha
      generalize a.toNat = x at *
      by_cases hc1 : c = 1
      all_goals
        go_enter Try.func50, Try.ntmps50
        go_wp2_with fail
        go_loop [5, 6] (fun n i => n = .int .i64 0 ∧ i = .int .i64 0) (fun _ _ => 0)
        case atStart => exact ⟨rfl, rfl⟩
        case round =>
          obtain ⟨rfl, rfl⟩ := hrel
          go_wp2_with fail
          go_quiet (fail)
          go_wp2_with fail
          go_ret3
          refine .inr ⟨x, t, _, hn.out, rfl, ?_, nq, rfl⟩
          have := HT1.out
          first
            | (subst hc1; simpa using this)
            | (rw [if_neg hc1] at this; simpa [Addr.add_lit] using this)
    · have hge : 128 ≤ a.toNat := by omega
      have d1 : (128 : Int) ≤ ((a.toNat : Nat) : Int) := by omega
      have hx128 : a.toNat % 128 < 128 := Nat.mod_lt _ (by omega)
      have eo := or0 (a.toNat % 128) hx128
      rcases t with _ | ⟨a2, t2⟩
      · have hn : Hid (numP [a] = none) := keep (by simp only [numP]; rw [if_neg h128])
        have hm1 : m = 1 := by have := HM.out; simpa using this.symm
        subst hm1
        clear h128 ha hge
        generalize a.toNat % 128 = x at *
        generalize a.toNat = y at *
        go_enter Try.func50, Try.ntmps50
        go_wp2_with fail
        go_loop [5, 6] (fun n i => ∃ k : Nat, i = .int .i64 k ∧ k ≤ 1 ∧ Hid (k = 0 → n = .int .i64 0)) (fun _ i => 2 - (intOf i).toNat)
        case atStart => exact ⟨0, rfl, by omega, keep (fun _ => rfl)⟩
        case round =>
          obtain ⟨k, rfl, hk, hz⟩ := hrel
          rcases Nat.eq_zero_or_pos k with h0 | h0
          · obtain rfl := hz.out h0
            subst h0
            go_wp2_with fail
            go_round
            case rel => exact ⟨1, by go_num, by omega, keep (fun h => absurd h (by omega))⟩
            case measure => simp [intOf]
          · obtain rfl : k = 1 := by omega
            go_wp2_with fail
            go_ret3
            exact .inl ⟨hn.out, rfl, 0, rfl⟩
      · have h1 := h.at_ (k := 1) (by simp)
        obtain ⟨g', o', e', _, hc1⟩ := h1
        injection e' with e'
        injection e' with e1 e2
        subst e1 e2
        simp only [List.getElem_cons_succ, List.getElem_cons_zero] at hc1
        have ha2 := a2.toNat_lt
        have ea2 := and127 a2.toNat ha2
        have hT2 := BSl.tail (k := 2) h (by simp)
        rw [HM.out] at hT2
        have HT2 := keep hT2
        have hm2' : 2 ≤ m := by have := HM.out; simp at this; omega
        have i1 : (1 : Int) < (m : Int) := by omega
        clear hT2
        by_cases hb : a2.toNat < 128
        · have hn : Hid (numP (a :: a2 :: t2) = some (a.toNat % 128 + a2.toNat * 128, t2)) := keep (by simp only [numP]; rw [if_neg h128, if_pos hb])
          have ex : a2.toNat % 128 = a2.toNat := Nat.mod_eq_of_lt hb
          rw [ex] at ea2
          have d2 : ((a2.toNat : Nat) : Int) < 128 := by omega
          have eo2 := or2 (a.toNat % 128) hx128 a2.toNat hb
          clear ex hb ha2 h128 ha hge
          generalize a.toNat % 128 = x at *
          generalize a.toNat = y at *
          generalize a2.toNat = z at *
          by_cases hc2 : c = 2
          all_goals
            go_enter Try.func50, Try.ntmps50
            go_wp2_with fail
            go_loop [5, 6] (fun n i => ∃ k : Nat, i = .int .i64 k ∧ k ≤ 1 ∧ Hid (k = 0 → n = .int .i64 0) ∧ Hid (k = 1 → n = .int .i64 x)) (fun _ i => 2 - (intOf i).toNat)
            case atStart => exact ⟨0, rfl, by omega, keep (fun _ => rfl), keep (fun h => absurd h (by omega))⟩
            case round =>
              obtain ⟨k, rfl, hk, hz, hz1⟩ := hrel
              rcases Nat.eq_zero_or_pos k with h0 | h0
              · obtain rfl := hz.out h0
                subst h0
                go_wp2_with fail
                go_round
                case rel => exact ⟨1, by go_num, by omega, keep (fun h => absurd h (by omega)), keep (fun _ => rfl)⟩
                case measure => simp [intOf]
              · obtain rfl : k = 1 := by omega
                obtain rfl := hz1.out rfl
                go_wp2_with fail
                go_quiet (fail)
                go_wp2_with fail
                go_ret3
                refine .inr ⟨x + z * 128, t2, _, hn.out, by first | rfl | simp, ?_, nq, rfl⟩
                have := HT2.out
                first
                  | (subst hc2; simpa using this)
                  | (rw [if_neg hc2] at this; simpa [Addr.add_lit] using this)
        · have hn : Hid (numP (a :: a2 :: t2) = none) := keep (by simp only [numP]; rw [if_neg h128, if_neg hb])
          have d2 : (128 : Int) ≤ ((a2.toNat : Nat) : Int) := by omega
          clear hb ha2 h128 ha hge
          generalize a.toNat % 128 = x at *
          generalize a.toNat = y at *
          generalize a2.toNat % 128 = z at *
          generalize a2.toNat = q at *
          go_enter Try.func50, Try.ntmps50
          go_wp2_with fail
          go_loop [5, 6] (fun n i => ∃ k : Nat, i = .int .i64 k ∧ k ≤ 2 ∧ Hid (k = 0 → n = .int .i64 0) ∧ Hid (k = 1 → n = .int .i64 x)) (fun _ i => 3 - (intOf i).toNat)
          case atStart => exact ⟨0, rfl, by omega, keep (fun _ => rfl), keep (fun h => absurd h (by omega))⟩
          case round =>
            obtain ⟨k, rfl, hk, hz, hz1⟩ := hrel
            rcases Nat.eq_zero_or_pos k with h0 | h0
            · obtain rfl := hz.out h0
              subst h0
              go_wp2_with fail
              go_round
              case rel => exact ⟨1, by go_num, by omega, keep (fun h => absurd h (by omega)), keep (fun _ => rfl)⟩
              case measure => simp [intOf]
            · by_cases hk1 : k = 1
              · subst hk1
                obtain rfl := hz1.out rfl
                go_wp2_with fail
                go_round
                case rel => exact ⟨2, by go_num, by omega, keep (fun h => absurd h (by omega)), keep (fun h => absurd h (by omega))⟩
                case measure => simp [intOf]
              · obtain rfl : k = 2 := by omega
                go_wp2_with fail
                all_goals
                  go_ret3
                  exact .inl ⟨hn.out, rfl, 0, rfl⟩
end Go.Proofs.Ytihimbmbhmgjoaa
