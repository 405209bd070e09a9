/- The reader of the reference for chapter 30: count, text. -/
import Derived.Test.YtkjhnipjhefndaaRefRead
import Derived.Test.YtkjhnipjhefndaaReadT
namespace Go.Proofs.Ytkjhnipjhefndaa
open Go.RowKit

theorem rIntS_in (l : List UInt8) (p : Nat) (ok : Bool) (hp : p ≤ l.length) : -9223372036854775808 ≤ (rIntS l p ok).1 ∧ (rIntS l p ok).1 ≤ 9223372036854775807 := by
  unfold rIntS
  split
  · exact unz_in _ (getVar_le l p hp).1
  · simp
theorem rCountS_le (l : List UInt8) (p : Nat) (ok : Bool) (hp : p ≤ l.length) : (rCountS l p ok).1 ≤ l.length ∧ (rCountS l p ok).2.1 ≤ l.length := by
  have := rIntS_le l p ok hp
  unfold rCountS
  split
  · exact ⟨by simp, by simpa using this⟩
  · exact ⟨by simp only; omega, by simpa using this⟩
theorem rTextS_le (l : List UInt8) (p : Nat) (ok : Bool) (hp : p ≤ l.length) : (rTextS l p ok).1.length ≤ l.length ∧ (rTextS l p ok).2.1 ≤ l.length := by
  have := getVar_le l p hp
  unfold rTextS
  split
  · rename_i h
    exact ⟨by simp only [List.length_take, List.length_drop]; omega, by simp only; omega⟩
  · exact ⟨by simp, hp⟩
set_option maxRecDepth 100000 in
theorem rrcount_any (B gr : Nat) (v : Value) (l : List UInt8) (p : Nat) (ok : Bool) (w : World) (h : Rr w B gr v l p ok) (hm : l.length ≤ 1000000) :
    Calls Try.prog 65 #[.pointer (some ⟨gr, 0, none⟩)] w (RrRes w B gr v (.int .i64 (rCountS l p ok).1) l (rCountS l p ok).2.1 (rCountS l p ok).2.2) := by
  have hs' : Sl w (lt B) 1 v l.length (l.map ub) := h.s
  obtain ⟨A, c, rfl, hc, hs⟩ := hs'.form
  obtain ⟨r, hr⟩ : ∃ r, rIntS l p ok = r := ⟨_, rfl⟩
  have hcs : rCountS l p ok = if r.1 < 0 ∨ (l.length : Int) < r.1 then (0, r.2.1, false) else (r.1.toNat, r.2) := by unfold rCountS; rw [hr]
  have hri := rrint_any B gr _ l p ok w h hm
  rw [hr] at hri
  obtain ⟨x, p1, ok1⟩ := r
  simp only at hri hcs
  clear hs' hs hr h
  by_cases hx : x < 0 ∨ (l.length : Int) < x
  · rw [if_pos hx] at hcs
    rw [hcs]
    clear hcs
    rcases hx with hx | hx
    · go_enter Try.func65, Try.ntmps65
      go_wp2_with fail
      refine hri.mono ?_
      rintro e w1 ⟨rfl, hR1, hg1⟩
      obtain ⟨q0, q1, q2⟩ := hR1.b.cell3
      have f2 := hR1.b.frozen 2
      clear hri
      go_wp2_with fail
      go_ret
      exact ⟨rfl, (hR1.setOk false).1, grownBy_trans hg1 (hR1.setOk false).2⟩
    · have hx0 : ¬ x < 0 := by omega
      go_enter Try.func65, Try.ntmps65
      go_wp2_with fail
      refine hri.mono ?_
      rintro e w1 ⟨rfl, hR1, hg1⟩
      obtain ⟨q0, q1, q2⟩ := hR1.b.cell3
      have f2 := hR1.b.frozen 2
      clear hri
      go_wp2_with fail
      go_ret
      exact ⟨rfl, (hR1.setOk false).1, grownBy_trans hg1 (hR1.setOk false).2⟩
  · rw [if_neg hx] at hcs
    rw [hcs]
    clear hcs
    have hx1 : ¬ x < 0 := fun h => hx (.inl h)
    have hx2 : ¬ (l.length : Int) < x := fun h => hx (.inr h)
    obtain ⟨k, rfl⟩ : ∃ k : Nat, x = (k : Int) := ⟨x.toNat, by omega⟩
    clear hx hx1
    go_enter Try.func65, Try.ntmps65
    go_wp2_with fail
    refine hri.mono ?_
    rintro e w1 ⟨rfl, hR1, hg1⟩
    obtain ⟨q0, q1, q2⟩ := hR1.b.cell3
    clear hri
    go_wp2_with fail
    go_ret
    exact ⟨rfl, hR1, hg1⟩
theorem gvGo_pos : ∀ (l : List UInt8) (k v n m : Nat), gvGo k v l = some (n, m) → k < m
  | [], k, v, n, m, h => by rw [gvGo] at h; cases h
  | c :: l, k, v, n, m, h => by
    rw [gvGo] at h
    split at h
    · cases h
    · split at h
      · cases h
      · split at h
        · split at h
          · cases h
          · injection h with h
            injection h with h1 h2
            omega
        · have := gvGo_pos l _ _ n m h
          omega
set_option maxRecDepth 100000 in
theorem rrtext_any (B gr : Nat) (v : Value) (l : List UInt8) (p : Nat) (ok : Bool) (w : World) (h : Rr w B gr v l p ok) (hm : l.length ≤ 1000000) :
    Calls Try.prog 84 #[.pointer (some ⟨gr, 0, none⟩)] w (RrRes w B gr v (.string ⟨(rTextS l p ok).1.toArray⟩) l (rTextS l p ok).2.1 (rTextS l p ok).2.2) := by
  have hs' : Sl w (lt B) 1 v l.length (l.map ub) := h.s
  obtain ⟨A, c, rfl, hc, hs⟩ := hs'.form
  obtain ⟨p0, p1, p2⟩ := h.b.cell3
  have f1 := h.b.frozen 1
  have f2 := h.b.frozen 2
  obtain ⟨hle1, hle2⟩ := getVar_le l p h.p
  have hg := fun n => (getvar_any _ l (lt B) p (w.drewN n) (h.drewN n).s (by omega) h.p).mono (R' := fun e w' => e = .returned (.tuple #[.int .u64 (getVar l p).1, .int .i64 (getVar l p).2.1, .bool (getVar l p).2.2]) ∧ w' = w.drewN n) (fun _ _ hh => ⟨hh.1, hh.2.symm⟩)
  clear hs'
  by_cases hok : ok = true ∧ (getVar l p).2.2 = true ∧ (getVar l p).1 ≤ l.length - (getVar l p).2.1
  · have HE : Hid (∀ n, Rr (((w.drewN n).setCell ⟨gr, 2, none⟩ (.bool true)).setCell ⟨gr, 1, none⟩ (.int .i64 ((getVar l p).2.1 + (getVar l p).1 : Nat))) B gr (.slice A l.length c) l ((getVar l p).2.1 + (getVar l p).1) true ∧ w.grownBy (((w.drewN n).setCell ⟨gr, 2, none⟩ (.bool true)).setCell ⟨gr, 1, none⟩ (.int .i64 ((getVar l p).2.1 + (getVar l p).1 : Nat))) (some gr)) := fun n => by
      have h1 := (h.drewN n).setOk true
      have h2 := h1.1.setAt (p' := (getVar l p).2.1 + (getVar l p).1) (by omega)
      exact ⟨h2.1, grownBy_trans (grownBy_drewN (World.grownBy.refl _ _) n) (grownBy_trans h1.2 h2.2)⟩
    have HF : Hid (rTextS l p ok = ((l.drop (getVar l p).2.1).take (getVar l p).1, (getVar l p).2.1 + (getVar l p).1, true)) := by unfold rTextS; exact if_pos hok
    obtain ⟨rfl, hr3, hr1⟩ := hok
    have hpos : 0 < l.length := by
      have : (getVar l p).2.1 ≠ 0 := fun h0 => by
        unfold getVar at hr3 h0
        split at h0
        · rename_i n k hh
          have hk := gvGo_pos _ _ _ _ _ hh
          simp only at h0
          omega
        · rename_i hh
          rw [hh] at hr3
          cases hr3
      omega
    rw [hr3] at hg
    rw [HF.out]
    generalize getVar l p = r at *
    obtain ⟨b, o, rfl, hb, hrow⟩ := hs.row hpos
    rcases r with ⟨r1, q, r3⟩
    simp only at hr1 hle1 hle2 hr3 hg HE ⊢
    obtain ⟨m, hm2⟩ : ∃ m, q + r1 = m := ⟨_, rfl⟩
    rw [hm2] at HE ⊢
    have g1 : (r1 : Int) ≤ (l.length : Int) - (q : Int) := by omega
    have g2 : IntKind.i64.wrap (r1 : Int) = (r1 : Int) := IntWalk.i64_in _ (by omega)
    have g3 : (q : Int) + (r1 : Int) = (m : Int) := by omega
    have g4 : IntKind.i64.wrap (m : Int) = (m : Int) := IntWalk.i64_in _ (by omega)
    have HQ : Hid (q ≤ m ∧ m ≤ l.length ∧ r1 = m - q) := keep (by omega)
    clear h hs hr3 HF hr1 hle1 hm2
    go_enter Try.func84, Try.ntmps84
    go_wp2_with fail
    go_quiet ((go_at_call 87; exact Calls.quiet_of_same (hg _)))
    clear hg
    go_upto_region 6 with fail
    obtain ⟨hR2, hg2⟩ := HE.out nq
    generalize (((w.drewN nq).setCell ⟨gr, 2, none⟩ (.bool true)).setCell ⟨gr, 1, none⟩ (.int .i64 (m : Int))) = w2 at *
    obtain ⟨q0, q1, q2⟩ := hR2.b.cell3
    obtain ⟨k1, k2, k3⟩ := HQ.out
    have g5 : (q : Int) ≤ (m : Int) := by omega
    have g6 : (m : Int) ≤ (c : Int) := by omega
    have hsa : Sl w2 (lt B) 1 (.slice (some ⟨b, o, none⟩) l.length c) l.length (l.map ub) := hR2.s
    have hFin : Hid (∀ n, RrRes w B gr (.slice (some ⟨b, o, none⟩) l.length c) (.string ⟨((l.drop q).take r1).toArray⟩) l m true (.returned (.string ⟨((l.drop q).take r1).toArray⟩)) (w2.drewN n)) := fun n => ⟨rfl, hR2.drewN n, grownBy_drewN hg2 n⟩
    have hlen : (l.drop q).length = l.length - q := List.length_drop
    have htl : ((l.drop q).take r1).length = m - q := by rw [List.length_take, hlen]; omega
    by_cases hcq : c = q
    · subst hcq
      have hr0 : r1 = 0 := by omega
      have hmc : m = c := by omega
      subst hr0 hmc
      have hcv : ∀ n, (convert 29 9 (.slice (some ⟨b, o, none⟩) 0 0)).run Try.prog (w2.drewN n) = .ok (.string ⟨#[]⟩) (w2.drewN n) := fun n => run_stringB (l := []) (S := lt B) (Sl.nil _ _ _ _ _) Try.underlying29 Try.underlying5 Try.underlying9
      clear hR2 HE HQ hg2 k1 k2 k3 g1 hrow hsa hlen htl p0 p1 p2 f1 f2
      go_quiet (fail)
      go_wp2_with fail
      go_ret
      exact hFin.out _
    · have hsb := hsa.tail2 (k := q) (by omega) hcq
      have hsc := hsb.take (k := m - q) (by omega)
      have hsd : BSl w2 (lt B) (.slice (some ⟨b, o + q, none⟩) (m - q) (c - q)) ((l.drop q).take r1) := by
        unfold BSl
        rw [htl, List.map_take, List.map_drop, k3]
        rw [Nat.mul_one] at hsc
        exact hsc
      have hcv : ∀ n, (convert 29 9 (.slice (some ⟨b, o + q, none⟩) (m - q) (c - q))).run Try.prog (w2.drewN n) = .ok (.string ⟨((l.drop q).take r1).toArray⟩) (w2.drewN n) := fun n => run_stringB (Sl.keep hsd (fun _ _ => rfl)) Try.underlying29 Try.underlying5 Try.underlying9
      clear hR2 HE HQ hg2 k1 k2 k3 g1 hrow hsa hlen htl p0 p1 p2 f1 f2 hsb hsc hsd
      go_quiet (fail)
      go_wp2_with fail
      go_ret
      exact hFin.out _
  · have HE : Hid (∀ n, RrRes w B gr (.slice A l.length c) (.string ⟨(rTextS l p ok).1.toArray⟩) l (rTextS l p ok).2.1 (rTextS l p ok).2.2 (.returned (.string ⟨#[]⟩)) ((w.drewN n).setCell ⟨gr, 2, none⟩ (.bool false))) := fun n => by
      unfold rTextS
      rw [if_neg hok]
      have h1 := (h.drewN n).setOk false
      exact ⟨rfl, h1.1, grownBy_trans (grownBy_drewN (World.grownBy.refl _ _) n) h1.2⟩
    generalize rTextS l p ok = R at *
    generalize getVar l p = r at *
    clear h hs
    have hrr := keep hle2
    rcases r with ⟨r1, r2, r3⟩
    simp only at hok hle1 hle2
    go_enter Try.func84, Try.ntmps84
    go_wp2_with fail
    go_quiet ((go_at_call 87; exact Calls.quiet_of_same (hg _)))
    clear hg
    cases ok with
    | false =>
      clear hok
      go_wp2_with fail
      go_ret
      exact HE.out _
    | true =>
      cases r3 with
      | false =>
        clear hok
        go_wp2_with fail
        go_ret
        exact HE.out _
      | true =>
        have h3 : ¬ (r1 : Int) ≤ (l.length : Int) - (r2 : Int) := by simp at hok; omega
        clear hok
        go_wp2_with fail
        go_ret
        exact HE.out _
end Go.Proofs.Ytkjhnipjhefndaa
