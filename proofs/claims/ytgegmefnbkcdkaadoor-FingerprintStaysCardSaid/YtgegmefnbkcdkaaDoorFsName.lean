/- The directory's searches: name and inode. -/
import Derived.Test.YtgegmefnbkcdkaaDoorFsSrch
import Derived.Test.YtgegmefnbkcdkaaDoorCmpInt
import Derived.Test.YtgegmefnbkcdkaaDoorShelf
namespace Go.Proofs.YtgegmefnbkcdkaaDoor
open Go.RowKit
theorem compareBytes_eq : ∀ (a b : List UInt8), Lib.compareBytes a b = if a < b then -1 else if a = b then 0 else 1
  | [], [] => by simp [Lib.compareBytes]
  | [], _ :: _ => by simp [Lib.compareBytes]
  | _ :: _, [] => by simp [Lib.compareBytes]
  | a :: p, b :: q => by
    have ih := compareBytes_eq p q
    unfold Lib.compareBytes
    rw [ih]
    simp only [List.cons_lt_cons_iff, List.cons.injEq]
    by_cases h1 : a < b
    · simp [h1]
    · by_cases h2 : b < a
      · have h3 : a ≠ b := by intro e; subst e; exact h1 h2
        simp [h1, h2, h3]
      · have h3 : a = b := UInt8.le_antisymm (UInt8.not_lt.1 h2) (UInt8.not_lt.1 h1)
        subst h3
        simp
def NSrt (L : List Nm) : Prop := L.Pairwise fun a b => lb a.nm < lb b.nm
def FSrt (L : List Fi) : Prop := L.Pairwise fun a b => a.ino < b.ino
def cfn (s : ByteArray) (t : Nm) : Int := Lib.compareBytes (lb t.nm) (lb s)
def cfi (n : Int) (t : Fi) : Int := cmpI t.ino n
theorem cfn_neg {s : ByteArray} {t : Nm} : cfn s t < 0 ↔ lb t.nm < lb s := by
  unfold cfn
  rw [compareBytes_eq]
  by_cases h : lb t.nm < lb s
  · simp [h]
  · rw [if_neg h]; split <;> simp [h]
theorem lb_inj {s t : ByteArray} (h : lb s = lb t) : s = t := by
  cases s; cases t
  simp only [ByteArray.mk.injEq]
  exact Array.ext' h
theorem cfn_zero {s : ByteArray} {t : Nm} : cfn s t = 0 ↔ t.nm = s := by
  unfold cfn
  rw [compareBytes_eq]
  by_cases h : lb t.nm < lb s
  · rw [if_pos h]
    constructor
    · intro h; omega
    · intro e; subst e; exact absurd h (List.lt_irrefl _)
  · rw [if_neg h]
    by_cases h2 : lb t.nm = lb s
    · rw [if_pos h2]; exact ⟨fun _ => lb_inj h2, fun _ => rfl⟩
    · rw [if_neg h2]
      constructor
      · intro h; omega
      · intro e; subst e; exact absurd rfl h2
theorem cfi_neg {n : Int} {t : Fi} : cfi n t < 0 ↔ t.ino < n := by unfold cfi cmpI; split <;> (try split) <;> omega
theorem cfi_zero {n : Int} {t : Fi} : cfi n t = 0 ↔ t.ino = n := by unfold cfi cmpI; split <;> (try split) <;> omega
theorem cfn_mono {L : List Nm} (h : NSrt L) (s : ByteArray) : ∀ a b, a ≤ b → b < L.length → cfAt_nm (cfn s) L b < 0 → cfAt_nm (cfn s) L a < 0 := by
  intro a b hab hb hn
  by_cases e : a = b
  · subst e; exact hn
  · rw [cfAt_nm_in hb, cfn_neg] at hn
    rw [cfAt_nm_in (by omega), cfn_neg]
    exact List.lt_trans (List.pairwise_iff_getElem.1 h a b (by omega) hb (by omega)) hn
theorem cfi_mono {L : List Fi} (h : FSrt L) (n : Int) : ∀ a b, a ≤ b → b < L.length → cfAt_fi (cfi n) L b < 0 → cfAt_fi (cfi n) L a < 0 := by
  intro a b hab hb hn
  by_cases e : a = b
  · subst e; exact hn
  · rw [cfAt_fi_in hb, cfi_neg] at hn
    rw [cfAt_fi_in (by omega), cfi_neg]
    exact Int.lt_trans (List.pairwise_iff_getElem.1 h a b (by omega) hb (by omega)) hn
theorem cmp_nm (t : Nm) (s : ByteArray) (w : World) : Calls Tryd.prog 94 #[.agg (nmV t).toArray, .string s] w fun e w' => e = .returned (.int .i64 (cfn s t)) ∧ Below w.heap.size w w' := by
  obtain ⟨nm, ino⟩ := t
  obtain ⟨x, hx⟩ : ∃ x, Lib.compareBytes nm.data.toList s.data.toList = x := ⟨_, rfl⟩
  have hr : cfn s ⟨nm, ino⟩ = x := hx
  rw [hr]
  simp only [nmV]
  have hq := fun w => (Tryd.strings_Compare nm s w)
  rw [hx] at hq
  have HQ := keep hq
  clear hq hx hr
  go_enter Tryd.func94, Tryd.ntmps94
  go_wp2_with fail
  refine (HQ.out _).mono ?_
  rintro e w' ⟨rfl, rfl⟩
  go_wp2_with fail
  go_ret
  exact ⟨rfl, ((Below.refl _ w).alloc (Nat.le_refl _) _)⟩
theorem cmp_fi (t : Fi) (n : Int) (w : World) (ht : FiR w t) : Calls Tryd.prog 42 #[.agg (fiV t).toArray, .int .i64 n] w fun e w' => e = .returned (.int .i64 (cfi n t)) ∧ Below w.heap.size w w' := by
  obtain ⟨A, c, hv⟩ := ht.form
  obtain ⟨ino, dv, data, cp, wh, left⟩ := t
  simp only at hv
  subst hv
  obtain ⟨x, hx⟩ : ∃ x, cmpI ino n = x := ⟨_, rfl⟩
  have hr : cfi n ⟨ino, .slice A data.length c, data, cp, wh, left⟩ = x := hx
  rw [hr]
  simp only [fiV]
  have hq := fun w => (cmp_int ino n w)
  rw [hx] at hq
  have HQ := keep hq
  clear hq hx hr ht
  go_enter Tryd.func42, Tryd.ntmps42
  go_wp2_with fail
  refine (HQ.out _).mono ?_
  rintro e w' ⟨rfl, rfl⟩
  go_wp2_with fail
  go_ret
  exact ⟨rfl, ((Below.refl _ w).alloc (Nat.le_refl _) _)⟩
theorem name_any (gd : Nat) (s : ByteArray) (vN : Value) (L : List Nm) (w : World) (h0 : w.cell? ⟨gd, 0, none⟩ = some vN) (hs : Sl w (lt w.heap.size) 2 vN L.length (nms L)) (hsrt : NSrt L) (hm : L.length ≤ 1000000) :
    Calls Tryd.prog 87 #[.pointer (some ⟨gd, 0, none⟩), .string s] w (BsRes_nm (cfn s) L w) := by
  have H := bsearch_nm 94 vN (.string s) #[] (cfn s) L w (fun args w => by kernel_rfl) hs (fun t ht W hb => by
    rw [Array.append_empty]
    exact cmp_nm t s W) (cfn_mono hsrt s) hm
  obtain ⟨A, c, rfl, _, _⟩ := hs.form
  have HH := keep H
  clear H hs hsrt hm
  go_enter Tryd.func87, Tryd.ntmps87
  go_wp2_with fail
  refine HH.out.mono ?_
  rintro e w1 ⟨i, hA, rfl, hb⟩
  have HA := keep hA
  clear hA
  go_wp2_with fail
  go_ret2
  exact ⟨i, HA.out, rfl, hb⟩
theorem inode_any (gd : Nat) (n : Int) (vF : Value) (L : List Fi) (w : World) (h0 : w.cell? ⟨gd, 1, none⟩ = some vF) (hs : Sl w (lt w.heap.size) 5 vF L.length (fis L)) (hT : ∀ t ∈ L, FiR w t) (hsrt : FSrt L) (hm : L.length ≤ 1000000) :
    Calls Tryd.prog 28 #[.pointer (some ⟨gd, 0, none⟩), .int .i64 n] w (BsRes_fi (cfi n) L w) := by
  have H := bsearch_fi 42 vF (.int .i64 n) #[] (cfi n) L w (fun args w => by kernel_rfl) hs (fun t ht W hb => by
    rw [Array.append_empty]
    exact cmp_fi t n W ((hT t ht).up hb)) (cfi_mono hsrt n) hm
  obtain ⟨A, c, rfl, _, _⟩ := hs.form
  have HH := keep H
  clear H hs hsrt hm hT
  go_enter Tryd.func28, Tryd.ntmps28
  go_wp2_with fail
  refine HH.out.mono ?_
  rintro e w1 ⟨i, hA, rfl, hb⟩
  have HA := keep hA
  clear hA
  go_wp2_with fail
  go_ret2
  exact ⟨i, HA.out, rfl, hb⟩
end Go.Proofs.YtgegmefnbkcdkaaDoor
