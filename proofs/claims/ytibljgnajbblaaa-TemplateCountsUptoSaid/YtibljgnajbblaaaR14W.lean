/- The Template statements: awake. -/
import Derived.Test.YtibljgnajbblaaaR14A
namespace Go.Proofs.Ytibljgnajbblaaa
open Go.RowKit

def aw1 : ByteArray := ⟨#[117, 115, 101, 114, 32, 97, 32, 108, 111, 103, 103, 101, 100, 32, 105, 110]⟩
def aw2 : ByteArray := ⟨#[117, 115, 101, 114, 32, 98, 32, 108, 111, 103, 103, 101, 100, 32, 105, 110]⟩
def awT : List ByteArray := [⟨#[117, 115, 101, 114]⟩, ⟨#[]⟩, ⟨#[108, 111, 103, 103, 101, 100]⟩, ⟨#[105, 110]⟩]
def awX : ByteArray := ⟨#[117, 115, 101, 114, 32, 60, 42, 62, 32, 108, 111, 103, 103, 101, 100, 32, 105, 110]⟩
theorem aw_of : ofA (lnT [aw1, aw2, aw1]) = [(strs awT, 3)] := by kernel_rfl
theorem aw_text : textB awT = awX := by kernel_rfl
theorem aw_len : (Lib.join ((awT.map phB).map (·.data.toList)) [32]).length ≤ 140737488355328 := by
  rw [show (Lib.join ((awT.map phB).map (·.data.toList)) [32]).length = 18 by kernel_rfl]
  decide
set_option maxHeartbeats 4000000 in
theorem awake_true (w : World) : Calls Try.prog 8 #[] w fun e w' => e = .returned (.bool true) ∧ Below w.heap.size w w' := by
  obtain ⟨W, hW⟩ : ∃ W, W = w.alloc (.cells #[.string aw1, .string aw2, .string aw1] 9) := ⟨_, rfl⟩
  have hb : Blk W w.heap.size 9 #[.string aw1, .string aw2, .string aw1] := hW ▸ Blk.new w _ _
  have hbw : Below w.heap.size w W := hW ▸ (Below.refl _ w).alloc (Nat.le_refl _) _
  have hsl : Sl W (lt W.heap.size) 1 (.slice (some ⟨w.heap.size, 0, none⟩) 3 3) 3 (([aw1, aw2, aw1] : List ByteArray).map .string) :=
    ⟨rfl, _, _, rfl, Nat.le_refl _, fun _ => ⟨_, 0, rfl, hb.lt, fun j u hu => by rw [Nat.zero_add]; exact (hb.cell j).trans (by simpa using hu)⟩⟩
  have HML := keep (mineL_any _ [aw1, aw2, aw1] W hsl (by intro s hs; simp at hs; rcases hs with rfl | rfl | rfl <;> decide) (by decide))
  have HW := keep hW
  have HBW := keep hbw
  clear hsl hb hW hbw
  go_enter Try.func8, Try.ntmps8
  go_wp2_with fail
  have hml := HML.out
  rw [HW.out] at hml
  refine Calls.mono hml ?_
  clear hml HML
  rw [← HW.out]
  rintro e w2 ⟨v1, R, rfl, ho, ht, hp, _, _, hb2⟩
  rw [aw_of] at hp
  have hp1 := List.perm_singleton.1 hp
  obtain ⟨t, rfl⟩ : ∃ t, R = [t] := by
    have h := congrArg List.length hp1
    simp [tpL] at h
    exact List.length_eq_one_iff.1 h
  have hp2 : (strs t.tk, t.ct) = (strs awT, (3 : Int)) := by
    simp only [tpL, List.map_cons, List.map_nil] at hp1
    exact List.head_eq_of_cons_eq hp1
  injection hp2 with hk hc
  have hk2 := strs_inj hk
  have htr := (ht t (by simp)).r (oB := 0)
  obtain ⟨tv, tk, ct⟩ := t
  simp only at hk2 hc
  subst hk2
  subst hc
  obtain ⟨TA, TN, TC, hv⟩ := htr.form
  simp only at hv
  subst hv
  obtain ⟨g, cap, hgv⟩ : ∃ g cap, v1 = .slice (some ⟨g, 0, none⟩) 1 cap := by
    rcases ho.2 with ⟨_, hz⟩ | ⟨g, cap, cur, hv, _⟩
    · simp at hz
    · exact ⟨g, cap, hv⟩
  subst hgv
  have c0 : w2.cell? ⟨g, 0, none⟩ = some (.slice TA TN TC) := (own_cell ho rfl 0 (by simp)).trans rfl
  have c1 : w2.cell? ⟨g, 1, none⟩ = some (.int .i64 3) := (own_cell ho rfl 1 (by simp)).trans rfl
  have htx := text_any ⟨.slice TA TN TC, awT, 3⟩ w2 htr (by unfold awT; simp) aw_len
  rw [aw_text] at htx
  have HTX := keep htx
  have HB2 := keep (HBW.out.trans (hb2.mono HBW.out.size))
  clear ho ht hp hp1 hk htr htx hb2
  go_wp2_with fail
  refine HTX.out.mono ?_
  rintro e w3 ⟨rfl, hb3⟩
  have HB3 := keep (HB2.out.trans (hb3.mono HB2.out.size))
  clear hb3
  unfold awX
  go_wp2_with fail
  go_ret
  exact ⟨rfl, HB3.out⟩
end Go.Proofs.Ytibljgnajbblaaa
