/- The directory's searches: name and inode. -/
import Derived.Test.YtgegmefnbkcdkaaFsSrch
import Derived.Test.YtgegmefnbkcdkaaCmpInt
namespace Go.Proofs.Ytgegmefnbkcdkaa
open Go.RowKit
def NSrt (L : List Nm) : Prop := L.Pairwise fun a b => lb a.nm < lb b.nm
def FSrt (L : List Fi) : Prop := L.Pairwise fun a b => a.ino < b.ino
def cfi (n : Int) (t : Fi) : Int := cmpI t.ino n
theorem lb_inj {s t : ByteArray} (h : lb s = lb t) : s = t := by
  cases s; cases t
  simp only [ByteArray.mk.injEq]
  exact Array.ext' h
theorem cfi_neg {n : Int} {t : Fi} : cfi n t < 0 ↔ t.ino < n := by unfold cfi cmpI; split <;> (try split) <;> omega
theorem cfi_zero {n : Int} {t : Fi} : cfi n t = 0 ↔ t.ino = n := by unfold cfi cmpI; split <;> (try split) <;> omega
theorem cfi_mono {L : List Fi} (h : FSrt L) (n : Int) : ∀ a b, a ≤ b → b < L.length → cfAt_fi (cfi n) L b < 0 → cfAt_fi (cfi n) L a < 0 := by
  intro a b hab hb hn
  by_cases e : a = b
  · subst e; exact hn
  · rw [cfAt_fi_in hb, cfi_neg] at hn
    rw [cfAt_fi_in (by omega), cfi_neg]
    exact Int.lt_trans (List.pairwise_iff_getElem.1 h a b (by omega) hb (by omega)) hn
theorem cmp_fi (t : Fi) (n : Int) (w : World) (ht : FiR w t) : Calls Try.prog 62 #[.agg (fiV t).toArray, .int .i64 n] w fun e w' => e = .returned (.int .i64 (cfi n t)) ∧ Below w.heap.size w w' := by
  obtain ⟨A, c, hv⟩ := ht.form
  obtain ⟨ino, dv, data, cp, wh, left⟩ := t
  simp only at hv
  subst hv
  obtain ⟨x, hx⟩ : ∃ x, cmpI ino n = x := ⟨_, rfl⟩
  have hr : cfi n ⟨ino, .slice A data.length c, data, cp, wh, left⟩ = x := hx
  rw [hr]
  simp only [fiV]
  have hq := fun w => (cmp_int ino n w)
  rw [hx] at hq
  have HQ := keep hq
  clear hq hx hr ht
  go_enter Try.func62, Try.ntmps62
  go_wp2_with fail
  refine (HQ.out _).mono ?_
  rintro e w' ⟨rfl, rfl⟩
  go_wp2_with fail
  go_ret
  exact ⟨rfl, ((Below.refl _ w).alloc (Nat.le_refl _) _)⟩
theorem inode_any (gd : Nat) (n : Int) (vF : Value) (L : List Fi) (w : World) (h0 : w.cell? ⟨gd, 1, none⟩ = some vF) (hs : Sl w (lt w.heap.size) 5 vF L.length (fis L)) (hT : ∀ t ∈ L, FiR w t) (hsrt : FSrt L) (hm : L.length ≤ 1000000) :
    Calls Try.prog 56 #[.pointer (some ⟨gd, 0, none⟩), .int .i64 n] w (BsRes_fi (cfi n) L w) := by
  have H := bsearch_fi 62 vF (.int .i64 n) #[] (cfi n) L w (fun args w => by kernel_rfl) hs (fun t ht W hb => by
    rw [Array.append_empty]
    exact cmp_fi t n W ((hT t ht).up hb)) (cfi_mono hsrt n) hm
  obtain ⟨A, c, rfl, _, _⟩ := hs.form
  have HH := keep H
  clear H hs hsrt hm hT
  go_enter Try.func56, Try.ntmps56
  go_wp2_with fail
  refine HH.out.mono ?_
  rintro e w1 ⟨i, hA, rfl, hb⟩
  have HA := keep hA
  clear hA
  go_wp2_with fail
  go_ret2
  exact ⟨i, HA.out, rfl, hb⟩
end Go.Proofs.Ytgegmefnbkcdkaa
