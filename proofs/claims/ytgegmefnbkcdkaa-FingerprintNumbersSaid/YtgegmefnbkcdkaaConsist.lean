/- Contracts of fingerprint.Consistent and of its reference. -/
import Derived.Test.YtgegmefnbkcdkaaFinger
namespace Go.Proofs.Ytgegmefnbkcdkaa
open Go.RowKit

/-- A slice of slices of bytes. -/
def BBs (w : World) (S : Nat → Prop) (v : Value) (L : List (List UInt8)) : Prop := ∃ vs : List Value, ∃ hl : vs.length = L.length, Sl w S 1 v L.length vs ∧ ∀ i (h : i < L.length), BSl w S (vs[i]'(by omega)) L[i]
theorem BBs.form {w : World} {S : Nat → Prop} {v : Value} {L : List (List UInt8)} (h : BBs w S v L) : ∃ A c, v = .slice A L.length c ∧ L.length ≤ c ∧ BBs w S (.slice A L.length c) L := by
  obtain ⟨vs, hl, h1, h2⟩ := h
  obtain ⟨A, c, rfl, hc, h1⟩ := h1.form
  exact ⟨A, c, rfl, hc, vs, hl, h1, h2⟩
theorem BBs.at_ {w : World} {S : Nat → Prop} {A : Option Addr} {c k : Nat} {L : List (List UInt8)} (h : BBs w S (.slice A L.length c) L) (hk : k < L.length) :
    ∃ b o u, A = some ⟨b, o, none⟩ ∧ S b ∧ w.cell? ⟨b, o + k, none⟩ = some u ∧ BSl w S u L[k] := by
  obtain ⟨vs, hl, h1, h2⟩ := h
  obtain ⟨b, o, u, hA, hb, hx, hc⟩ := h1.at_ hk
  have hu : u = vs[k] := by simpa [show k < vs.length by omega] using hx.symm
  subst hu
  exact ⟨b, o, _, hA, hb, hc, h2 k hk⟩
theorem BSl.keep {w w' : World} {S : Nat → Prop} {v : Value} {l : List UInt8} (h : BSl w S v l) (hk : ∀ p : Addr, S p.block → w'.cell? p = w.cell? p) : BSl w' S v l := Sl.keep h hk
theorem BSl.mono {w : World} {S S' : Nat → Prop} {v : Value} {l : List UInt8} (h : BSl w S v l) (hS : ∀ b, S b → S' b) : BSl w S' v l := Sl.mono h hS
theorem BSl.up {w w' : World} {v : Value} {l : List UInt8} (h : BSl w (lt w.heap.size) v l) (hb : Below w.heap.size w w') : BSl w' (lt w'.heap.size) v l := Sl.more (Sl.below h hb (Nat.le_refl _)) hb.size
theorem BSl.drewN {w : World} {S : Nat → Prop} {v : Value} {l : List UInt8} (h : BSl w S v l) (k : Nat) : BSl (w.drewN k) S v l := h
theorem BBs.keep {w w' : World} {S : Nat → Prop} {v : Value} {L : List (List UInt8)} (h : BBs w S v L) (hk : ∀ p : Addr, S p.block → w'.cell? p = w.cell? p) : BBs w' S v L := by
  obtain ⟨vs, hl, h1, h2⟩ := h
  exact ⟨vs, hl, h1.keep hk, fun i hi => (h2 i hi).keep hk⟩
theorem BBs.mono {w : World} {S S' : Nat → Prop} {v : Value} {L : List (List UInt8)} (h : BBs w S v L) (hS : ∀ b, S b → S' b) : BBs w S' v L := by
  obtain ⟨vs, hl, h1, h2⟩ := h
  exact ⟨vs, hl, h1.mono hS, fun i hi => (h2 i hi).mono hS⟩
theorem BBs.up {w w' : World} {v : Value} {L : List (List UInt8)} (h : BBs w (lt w.heap.size) v L) (hb : Below w.heap.size w w') : BBs w' (lt w'.heap.size) v L :=
  (h.keep fun _ hp => hb.cell hp).mono fun _ hp => Nat.lt_of_lt_of_le hp hb.size
theorem BBs.drewN {w : World} {S : Nat → Prop} {v : Value} {L : List (List UInt8)} (h : BBs w S v L) (k : Nat) : BBs (w.drewN k) S v L := h

/-- Two contents with one number of which none is a prefix of the other. -/
def clash (k : Int) (a b : List UInt8) : Bool := numOk a k && numOk b k && (nfold (a.take k.toNat) == nfold (b.take k.toNat)) && !decide (b <+: a) && !decide (a <+: b)
def Agree (L : List (List UInt8)) (k : Int) (i : Nat) : Prop := ∀ x (hx : x < L.length) y (hy : y < x), x < i → clash k L[x] (L[y]'(by omega)) = false
def AgreeIn (L : List (List UInt8)) (k : Int) (i j : Nat) : Prop := ∀ (hi : i < L.length) y (hy : y < i), y < j → clash k L[i] (L[y]'(by omega)) = false
open Classical in
noncomputable def consOf (L : List (List UInt8)) (k : Int) : Bool := decide (Agree L k L.length)
theorem cons_true {L : List (List UInt8)} {k : Int} (h : Agree L k L.length) : consOf L k = true := by simpa [consOf] using h
theorem cons_false {L : List (List UInt8)} {k : Int} {i j : Nat} (hi : i < L.length) (hj : j < i) (h : clash k L[i] (L[j]'(by omega)) = true) : consOf L k = false := by
  rw [consOf, decide_eq_false_iff_not]
  intro hA
  have := hA i hi j hj hi
  rw [h] at this
  cases this

theorem clash_parts (k : Int) (a b : List UInt8) : clash k a b = (numOk a k && numOk b k && (nfold (a.take k.toNat) == nfold (b.take k.toNat)) && !decide (b <+: a) && !decide (a <+: b)) := rfl

theorem AgreeIn.step {L : List (List UInt8)} {k : Int} {i j : Nat} (h : AgreeIn L k i j) (hi : i < L.length) (hj : j < i) (hc : clash k L[i] (L[j]'(by omega)) = false) : AgreeIn L k i (j + 1) := by
  intro hi' y hy hlt
  by_cases e : y = j
  · subst e; exact hc
  · exact h hi' y hy (by omega)
theorem Agree.step {L : List (List UInt8)} {k : Int} {i : Nat} (h : Agree L k i) (hc : AgreeIn L k i i) : Agree L k (i + 1) := by
  intro x hx y hy hlt
  by_cases e : x = i
  · subst e; exact hc hx y hy hy
  · exact h x hx y hy (by omega)
theorem clash1 {k : Int} {a b : List UInt8} (h : numOk a k = false) : clash k a b = false := by simp [clash, h]
theorem clash2 {k : Int} {a b : List UInt8} (h : numOk b k = false) : clash k a b = false := by simp [clash, h]
theorem clash3 {k : Int} {a b : List UInt8} (h : (nfold (a.take k.toNat) == nfold (b.take k.toNat)) = false) : clash k a b = false := by rw [clash, h]; simp
theorem clash4 {k : Int} {a b : List UInt8} (h : decide (b <+: a) = true) : clash k a b = false := by rw [clash, h]; simp
theorem clash5 {k : Int} {a b : List UInt8} (h : decide (a <+: b) = true) : clash k a b = false := by rw [clash, h]; simp
theorem clash6 {k : Int} {a b : List UInt8} (h1 : numOk a k = true) (h2 : numOk b k = true) (h3 : (nfold (a.take k.toNat) == nfold (b.take k.toNat)) = true) (h4 : decide (b <+: a) = false) (h5 : decide (a <+: b) = false) : clash k a b = true := by
  rw [clash, h1, h2, h3, h4, h5]; rfl

set_option maxHeartbeats 1000000 in
theorem consistent_any (v : Value) (L : List (List UInt8)) (k : Int) (w : World) (S : Nat → Prop) (h : BBs w S v L) (hm : L.length ≤ 1000000) :
    Calls Try.prog 13 #[v, .int .i64 k] w fun e w' => e = .returned (.bool (consOf L k)) ∧ w = w' := by
  obtain ⟨A, c, rfl, hc, h⟩ := h.form
  go_enter Try.func13, Try.ntmps13
  go_wp2_with fail
  go_loop [5, 6, 7, 8, 10, 11, 12, 15] (fun _ _ _ _ _ _ _ i => ∃ j : Nat, j ≤ L.length ∧ i = .int .i64 j ∧ Hid (Agree L k j)) (fun _ _ _ _ _ _ _ i => L.length - (intOf i).toNat)
  case atStart => exact ⟨0, Nat.zero_le _, rfl, keep (fun x hx y hy h => absurd h (by omega))⟩
  case round =>
    obtain ⟨i, hi, rfl, hA⟩ := hrel
    by_cases hlt : i < L.length
    · obtain ⟨b, o, u, rfl, hb, hcell, hu⟩ := h.at_ hlt
      have i1 : (i : Int) ≤ (L.length : Int) := by omega
      cases hok : numOk L[i] k
      · have hOK := keep hok
        clear hok
        go_wp2_with fail
        refine (number_no _ _ _ _ _ hu hOK.out).mono ?_
        rintro e w' ⟨rfl, rfl⟩
        go_wp2_with fail
        go_loop [10, 11, 12, 30] (fun _ _ _ x => ∃ j : Nat, j ≤ i ∧ x = .int .i64 j) (fun _ _ _ x => i - (intOf x).toNat)
        case atStart => exact ⟨0, Nat.zero_le _, rfl⟩
        case round =>
          obtain ⟨j, hj, rfl⟩ := hrel
          by_cases hji : j < i
          · obtain ⟨b', o', u', hA', hb', hcell', hu'⟩ := h.at_ (k := j) (by omega)
            injection hA' with hA'
            injection hA' with e1 e2
            subst e1 e2
            cases his : numOk (L[j]'(by omega)) k
            · have hIS := keep his
              clear his
              go_wp2_with fail
              refine (number_no _ _ _ _ _ hu' hIS.out).mono ?_
              rintro e w' ⟨rfl, rfl⟩
              go_wp2_with fail
              go_round
              case rel => exact ⟨j + 1, by omega, by go_num⟩
              case measure => simp [intOf]; omega
            · have hIS := keep his
              clear his
              go_wp2_with fail
              refine (number_ok _ _ _ _ _ hu' hIS.out).mono ?_
              rintro e w' ⟨rfl, rfl⟩
              go_wp2_with fail
              go_round
              case rel => exact ⟨j + 1, by omega, by go_num⟩
              case measure => simp [intOf]; omega
          · go_wp2_with fail
            go_round
            case rel => exact ⟨i + 1, by omega, by go_num, keep (hA.out.step (fun hi' y hy _ => clash1 hOK.out))⟩
            case measure => simp [intOf]; omega
      · have hOK := keep hok
        clear hok
        go_wp2_with fail
        refine (number_ok _ _ _ _ _ hu hOK.out).mono ?_
        rintro e w' ⟨rfl, rfl⟩
        generalize hx : nfold (L[i].take k.toNat) = x
        have hX := keep hx
        clear hx
        go_wp2_with fail
        go_loop [10, 11, 12, 30] (fun _ _ _ x => ∃ j : Nat, j ≤ i ∧ x = .int .i64 j ∧ Hid (AgreeIn L k i j)) (fun _ _ _ x => i - (intOf x).toNat)
        case atStart => exact ⟨0, Nat.zero_le _, rfl, keep (fun _ y _ h => absurd h (by omega))⟩
        case round =>
          obtain ⟨j, hj, rfl, hI⟩ := hrel
          by_cases hji : j < i
          · have hjl : j < L.length := by omega
            obtain ⟨b', o', u', hA', hb', hcell', hu'⟩ := h.at_ hjl
            injection hA' with hA'
            injection hA' with e1 e2
            subst e1 e2
            cases his : numOk L[j] k
            · have hIS := keep his
              clear his
              go_wp2_with fail
              refine (number_no _ _ _ _ _ hu' hIS.out).mono ?_
              rintro e w' ⟨rfl, rfl⟩
              go_wp2_with fail
              go_round
              case rel => exact ⟨j + 1, by omega, by go_num, keep (hI.out.step hlt hji (clash2 hIS.out))⟩
              case measure => simp [intOf]; omega
            · have hIS := keep his
              clear his
              go_wp2_with fail
              refine (number_ok _ _ _ _ _ hu' hIS.out).mono ?_
              rintro e w' ⟨rfl, rfl⟩
              generalize hy : nfold (L[j].take k.toNat) = y
              have hY := keep hy
              clear hy
              cases hxy : (x == y)
              · have hXY : (nfold (L[i].take k.toNat) == nfold (L[j].take k.toNat)) = false := by rw [hX.out, hY.out]; exact hxy
                have hXY := keep hXY
                go_wp2_with fail
                go_round
                case rel => exact ⟨j + 1, by omega, by go_num, keep (hI.out.step hlt hji (clash3 hXY.out))⟩
                case measure => simp [intOf]; omega
              · have hXY : (nfold (L[i].take k.toNat) == nfold (L[j].take k.toNat)) = true := by rw [hX.out, hY.out]; exact hxy
                have hXY := keep hXY
                go_wp2_with fail
                refine (hasPrefix_any _ _ _ _ _ _ _ hu hu').mono ?_
                rintro e w' ⟨he, rfl⟩
                cases hp : decide (L[j] <+: L[i])
                · rw [hp] at he
                  subst he
                  have hP := keep hp
                  clear hp
                  go_wp2_with fail
                  refine (hasPrefix_any _ _ _ _ _ _ _ hu' hu).mono ?_
                  rintro e w' ⟨he, rfl⟩
                  cases hq : decide (L[i] <+: L[j])
                  · rw [hq] at he
                    subst he
                    have hQ := keep hq
                    clear hq
                    go_wp2_with fail
                    go_ret
                    exact ⟨ret_bool (cons_false hlt hji (clash6 hOK.out hIS.out hXY.out hP.out hQ.out)).symm, rfl⟩
                  · rw [hq] at he
                    subst he
                    have hQ := keep hq
                    clear hq
                    go_wp2_with fail
                    go_round
                    case rel => exact ⟨j + 1, by omega, by go_num, keep (hI.out.step hlt hji (clash5 hQ.out))⟩
                    case measure => simp [intOf]; omega
                · rw [hp] at he
                  subst he
                  have hP := keep hp
                  clear hp
                  go_wp2_with fail
                  go_round
                  case rel => exact ⟨j + 1, by omega, by go_num, keep (hI.out.step hlt hji (clash4 hP.out))⟩
                  case measure => simp [intOf]; omega
          · obtain rfl : j = i := by omega
            go_wp2_with fail
            go_round
            case rel => exact ⟨j + 1, by omega, by go_num, keep (hA.out.step hI.out)⟩
            case measure => simp [intOf]; omega
    · obtain rfl : i = L.length := by omega
      go_wp2_with fail
      go_ret
      exact ⟨ret_bool (cons_true hA.out).symm, rfl⟩
end Go.Proofs.Ytgegmefnbkcdkaa
