/- Contract of the reference's Consistent. -/
import Derived.Test.YtgegmefnbkcdkaaConsist
namespace Go.Proofs.Ytgegmefnbkcdkaa
open Go.RowKit

theorem BBs.below {w w' : World} {B : Nat} {v : Value} {L : List (List UInt8)} (h : BBs w (lt B) v L) (hb : Below B w w') : BBs w' (lt B) v L := h.keep fun _ hp => hb.cell hp
theorem begins_b (l1 l2 : List UInt8) (b : Bool) (w : World) (n : Nat) (h : decide (l2 <+: l1) = b) :
    Calls Try.prog 29 #[.string ⟨l1.toArray⟩, .string ⟨l2.toArray⟩] (w.drewN n) fun e w' => e = .returned (.bool b) ∧ ∃ m, w' = w.drewN m :=
  (begins_any l1 l2 _).mono fun _ _ ⟨he, hw⟩ => ⟨by rw [he, h], n, hw.symm⟩

set_option maxHeartbeats 2000000 in
theorem refConsistent_any (v : Value) (L : List (List UInt8)) (k : Int) (w : World) (h : BBs w (lt w.heap.size) v L) (hm : L.length ≤ 1000000) :
    Calls Try.prog 14 #[v, .int .i64 k] w fun e w' => e = .returned (.bool (consOf L k)) ∧ Below w.heap.size w w' := by
  obtain ⟨A, c, rfl, hc, h⟩ := h.form
  go_enter Try.func14, Try.ntmps14
  go_wp2_with fail
  go_loopw [5, 6, 7, 8, 9, 10] (fun i _ _ _ _ _ wr => ∃ j : Nat, j ≤ L.length ∧ i = .int .i64 j ∧ Hid (Agree L k j) ∧ Below w.heap.size w wr) (fun i _ _ _ _ _ _ => L.length - (intOf i).toNat)
  case atStart => exact ⟨0, Nat.zero_le _, rfl, keep (fun x hx y hy h => absurd h (by omega)), Below.refl _ _⟩
  case round =>
    obtain ⟨i, hi, rfl, hA, hbr⟩ := hrel
    obtain ⟨wo, rfl⟩ : ∃ wo : World, wo = wr := ⟨_, rfl⟩
    by_cases hlt : i < L.length
    · have hr := h.below hbr
      obtain ⟨b, o, u, rfl, hb, hcell, hu⟩ := hr.at_ hlt
      have i1 : (i : Int) < (L.length : Int) := by omega
      have i0 : (0 : Int) ≤ (i : Int) := by omega
      cases hok : numOk L[i] k
      · have hOK := keep hok
        clear hok
        go_wp2_with fail
        refine (refNumber_no _ _ _ _ _ hu hOK.out).mono ?_
        rintro e w' ⟨rfl, rfl⟩
        go_wp2_with fail
        go_loopw [8, 9, 10] (fun x _ _ wr => ∃ j : Nat, j ≤ i ∧ x = .int .i64 j ∧ Below w.heap.size w wr) (fun x _ _ _ => i - (intOf x).toNat)
        case atStart => exact ⟨0, Nat.zero_le _, rfl, hbr⟩
        case round =>
          obtain ⟨j, hj, rfl, hbi⟩ := hrel
          obtain ⟨wp, rfl⟩ : ∃ wp : World, wp = wr := ⟨_, rfl⟩
          by_cases hji : j < i
          · have hjl : j < L.length := by omega
            obtain ⟨b', o', u', hA', hb', hcell', hu'⟩ := (h.below hbi).at_ hjl
            injection hA' with hA'
            injection hA' with e1 e2
            subst e1 e2
            have j1 : (j : Int) < (L.length : Int) := by omega
            have j0 : (0 : Int) ≤ (j : Int) := by omega
            cases his : numOk L[j] k
            · have hIS := keep his
              clear his
              go_wp2_with fail
              refine (refNumber_no _ _ _ _ _ hu' hIS.out).mono ?_
              rintro e w' ⟨rfl, rfl⟩
              go_wp2_with fail
              go_quiet (fail)
              go_wp2_with fail
              go_roundw
              case rel => exact ⟨j + 1, by omega, by go_num, below_drewN hbi _⟩
              case measure => simp [intOf]; omega
            · have hIS := keep his
              clear his
              go_wp2_with fail
              refine (refNumber_ok _ _ _ _ _ hu' hIS.out).mono ?_
              rintro e w' ⟨rfl, rfl⟩
              go_wp2_with fail
              go_quiet (fail)
              go_wp2_with fail
              go_roundw
              case rel => exact ⟨j + 1, by omega, by go_num, below_drewN hbi _⟩
              case measure => simp [intOf]; omega
          · go_wp2_with fail
            go_roundw
            case rel => exact ⟨i + 1, by omega, by go_num, keep (hA.out.step (fun hi' y hy _ => clash1 hOK.out)), hbi⟩
            case measure => simp [intOf]; omega
      · have hOK := keep hok
        clear hok
        go_wp2_with fail
        refine (refNumber_ok _ _ _ _ _ hu hOK.out).mono ?_
        rintro e w' ⟨rfl, rfl⟩
        generalize hx : nfold (L[i].take k.toNat) = x
        have hX := keep hx
        clear hx
        go_wp2_with fail
        go_loopw [8, 9, 10] (fun x _ _ wr => ∃ j : Nat, j ≤ i ∧ x = .int .i64 j ∧ Hid (AgreeIn L k i j) ∧ Below w.heap.size w wr) (fun x _ _ _ => i - (intOf x).toNat)
        case atStart => exact ⟨0, Nat.zero_le _, rfl, keep (fun _ y _ h => absurd h (by omega)), hbr⟩
        case round =>
          obtain ⟨j, hj, rfl, hI, hbi⟩ := hrel
          obtain ⟨wp, rfl⟩ : ∃ wp : World, wp = wr := ⟨_, rfl⟩
          by_cases hji : j < i
          · have hjl : j < L.length := by omega
            have hcell2 := (hbi.cell (p := ⟨b, o + i, none⟩) hb).trans ((hbr.cell (p := ⟨b, o + i, none⟩) hb).symm.trans hcell)
            obtain ⟨b', o', u', hA', hb', hcell', hu'⟩ := (h.below hbi).at_ hjl
            obtain ⟨b2, o2, u2, hA2, hb2, hc2, hu2⟩ := (h.below hbi).at_ hlt
            injection hA' with hA'
            injection hA' with e1 e2
            subst e1 e2
            injection hA2 with hA2
            injection hA2 with e1 e2
            subst e1 e2
            have hu2e : u2 = u := by rw [hc2] at hcell2; injection hcell2
            subst hu2e
            have j1 : (j : Int) < (L.length : Int) := by omega
            have j0 : (0 : Int) ≤ (j : Int) := by omega
            cases his : numOk L[j] k
            · have hIS := keep his
              clear his
              go_wp2_with fail
              refine (refNumber_no _ _ _ _ _ hu' hIS.out).mono ?_
              rintro e w' ⟨rfl, rfl⟩
              go_wp2_with fail
              go_quiet (fail)
              go_wp2_with fail
              go_roundw
              case rel => exact ⟨j + 1, by omega, by go_num, keep (hI.out.step hlt hji (clash2 hIS.out)), below_drewN hbi _⟩
              case measure => simp [intOf]; omega
            · have hIS := keep his
              clear his
              go_wp2_with fail
              refine (refNumber_ok _ _ _ _ _ hu' hIS.out).mono ?_
              rintro e w' ⟨rfl, rfl⟩
              generalize hy : nfold (L[j].take k.toNat) = y
              have hY := keep hy
              clear hy
              have hs1 : ∀ n : Nat, (convert 22 9 u2).run Try.prog (wp.drewN n) = .ok (.string ⟨L[i].toArray⟩) (wp.drewN n) := fun n => run_stringB (hu2.drewN n) Try.underlying22 Try.underlying5 Try.underlying9
              have hs2 : ∀ n : Nat, (convert 22 9 u').run Try.prog (wp.drewN n) = .ok (.string ⟨L[j].toArray⟩) (wp.drewN n) := fun n => run_stringB (hu'.drewN n) Try.underlying22 Try.underlying5 Try.underlying9
              cases hxy : (x == y)
              · have hXY : (nfold (L[i].take k.toNat) == nfold (L[j].take k.toNat)) = false := by rw [hX.out, hY.out]; exact hxy
                have hXY := keep hXY
                go_wp2_with fail
                go_quiet (fail)
                go_wp2_with fail
                go_roundw
                case rel => exact ⟨j + 1, by omega, by go_num, keep (hI.out.step hlt hji (clash3 hXY.out)), below_drewN hbi _⟩
                case measure => simp [intOf]; omega
              · have hXY : (nfold (L[i].take k.toNat) == nfold (L[j].take k.toNat)) = true := by rw [hX.out, hY.out]; exact hxy
                have hXY := keep hXY
                go_wp2_with fail
                cases hp : decide (L[j] <+: L[i])
                · have hP := keep hp
                  clear hp
                  cases hq : decide (L[i] <+: L[j])
                  · have hQ := keep hq
                    clear hq
                    go_quiet ((first | (go_at_call 29; exact begins_b _ _ _ _ _ hP.out) | (go_at_call 29; exact begins_b _ _ _ _ _ hQ.out)))
                    go_wp2_with fail
                    go_ret
                    exact ⟨ret_bool (cons_false hlt hji (clash6 hOK.out hIS.out hXY.out hP.out hQ.out)).symm, below_drewN hbi _⟩
                  · have hQ := keep hq
                    clear hq
                    go_quiet ((first | (go_at_call 29; exact begins_b _ _ _ _ _ hP.out) | (go_at_call 29; exact begins_b _ _ _ _ _ hQ.out)))
                    go_wp2_with fail
                    go_roundw
                    case rel => exact ⟨j + 1, by omega, by go_num, keep (hI.out.step hlt hji (clash5 hQ.out)), below_drewN hbi _⟩
                    case measure => simp [intOf]; omega
                · have hP := keep hp
                  clear hp
                  go_quiet ((go_at_call 29; exact begins_b _ _ _ _ _ hP.out))
                  go_wp2_with fail
                  go_roundw
                  case rel => exact ⟨j + 1, by omega, by go_num, keep (hI.out.step hlt hji (clash4 hP.out)), below_drewN hbi _⟩
                  case measure => simp [intOf]; omega
          · obtain rfl : j = i := by omega
            go_wp2_with fail
            go_roundw
            case rel => exact ⟨j + 1, by omega, by go_num, keep (hA.out.step hI.out), hbi⟩
            case measure => simp [intOf]; omega
    · obtain rfl : i = L.length := by omega
      go_wp2_with fail
      go_ret
      exact ⟨ret_bool (cons_true hA.out).symm, hbr⟩
end Go.Proofs.Ytgegmefnbkcdkaa
