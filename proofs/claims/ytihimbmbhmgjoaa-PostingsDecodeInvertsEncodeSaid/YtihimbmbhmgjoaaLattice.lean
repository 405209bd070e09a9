/- PostingsLattice: the walk of the statement, call by call (the calls' lines are printed by a small program of ours). -/
import Derived.Test.YtihimbmbhmgjoaaLists
namespace Go.Proofs.Ytihimbmbhmgjoaa
open Go.RowKit

theorem sl_of_blk {w : World} {g t n c : Nat} {cs : List Value} (h : Blk w g t cs.toArray) (hn : cs.length = n) (hc : n ≤ c) : Sl w (lt w.heap.size) 1 (.slice (some ⟨g, 0, none⟩) n c) n cs := by
  refine ⟨by omega, _, c, rfl, hc, fun _ => ⟨g, 0, rfl, h.lt, fun j u hu => ?_⟩⟩
  rw [Nat.zero_add, h.cell]
  simpa using hu

theorem awake_true (w : World) : Calls Try.prog 10 #[] w fun e w' => e = .returned (.bool true) ∧ Below w.heap.size w w' := by
  go_enter Try.func10, Try.ntmps10
  go_wp2_with fail
  have hB1 := (Blk.new w 3 #[.int .i64 1, .int .i64 2]).alloc (.cells #[.int .i64 2, .int .i64 3] 3)
  have hB2 : Blk ((w.alloc (.cells #[.int .i64 1, .int .i64 2] 3)).alloc (.cells #[.int .i64 2, .int .i64 3] 3)) (w.heap.size + 1) 3 #[.int .i64 2, .int .i64 3] := by simpa using Blk.new (w.alloc (.cells #[.int .i64 1, .int .i64 2] 3)) 3 #[.int .i64 2, .int .i64 3]
  refine (and_any _ _ [1, 2] [2, 3] _ (sl_of_blk hB1 rfl (Nat.le_refl _)) (sl_of_blk hB2 rfl (Nat.le_refl _)) (by simp)).mono ?_
  rintro e w1 ⟨v, rfl, hown, hb⟩
  have hS := Sl.of_own hown
  obtain ⟨A, c, rfl, _, _⟩ := hS.form
  have hl : (andL [1, 2] [2, 3]).length = 1 := by decide
  rw [hl]
  clear hl
  go_wp2_with fail
  go_ret
  exact ⟨rfl, (((Below.refl _ w).alloc (Nat.le_refl _) _).alloc (by simp) _).trans (hb.mono (by simp; omega))⟩

set_option maxHeartbeats 4000000 in
theorem law_lattice (vx : Value) (bs : List Int) (w : World) (hs : Sl w (lt w.heap.size) 1 vx bs.length (bs.map (.int .u8))) (hr : ∀ x ∈ bs, 0 ≤ x ∧ x ≤ 255) (hm : bs.length ≤ maxLen) :
    Calls Try.prog 3 #[vx] w fun e w' => e = .returned (.bool true) ∧ Below w.heap.size w w' := by
  go_enter Try.func3, Try.ntmps3
  go_wp2_with fail
  refine (awake_true _).mono ?_
  rintro e w0 ⟨rfl, hbw⟩
  go_wp2_with fail
  refine (lists_any vx bs 3 _ (hs.up hbw) hr hm (by omega)).mono ?_
  rintro e x0 ⟨v, vs, ls, rfl, hvs, hE, hown, hb0⟩
  match vs, ls, hvs, hE with
  | [va, vb, vc], [la, lb, lc], _, hE =>
    obtain ⟨_, Ha, hPa, _, Hb, hPb, _, Hc, hPc, _⟩ := hE
    replace Ha := Ha.mono (S' := lt x0.heap.size) (fun _ h => h.2)
    replace Hb := Hb.mono (S' := lt x0.heap.size) (fun _ h => h.2)
    replace Hc := Hc.mono (S' := lt x0.heap.size) (fun _ h => h.2)
    obtain ⟨ha, _, na⟩ := hPa
    obtain ⟨hb, _, nb⟩ := hPb
    obtain ⟨hc, _, nc⟩ := hPc
    obtain ⟨g, cp, rfl, _, _⟩ := hown.form (by omega)
    have e0 := hown.cellAt 0 (by omega)
    have e1 := hown.cellAt 1 (by omega)
    have e2 := hown.cellAt 2 (by omega)
    simp only [List.getElem?_cons_zero, List.getElem?_cons_succ] at e0 e1 e2
    replace hbw := bchain hbw hb0
    clear hown hb0 hs hr
    go_wp2_with fail
    go_quiet (fail)
    replace hbw := below_drewN hbw nq
    replace Ha : Sl (x0.drewN nq) (lt (x0.drewN nq).heap.size) 1 va la.length (la.map (.int .i64)) := Ha
    replace Hb : Sl (x0.drewN nq) (lt (x0.drewN nq).heap.size) 1 vb lb.length (lb.map (.int .i64)) := Hb
    replace Hc : Sl (x0.drewN nq) (lt (x0.drewN nq).heap.size) 1 vc lc.length (lc.map (.int .i64)) := Hc
    generalize x0.drewN nq = x1 at *
    clear e0 e1 e2
    go_wp2_with fail
    refine (and_any _ _ la lb _ Ha Hb (by omega)).mono ?_
    rintro e w1 ⟨v1, rfl, ho1, hb1⟩
    have H1 := Sl.of_own ho1
    have hn1 : (andL la lb).length ≤ la.length + lb.length := merged_len _ _ _
    replace Ha := Ha.up hb1
    replace Hb := Hb.up hb1
    replace Hc := Hc.up hb1
    replace hbw := bchain hbw hb1
    clear ho1 hb1
    go_wp2_with fail
    refine (and_any _ _ lb la _ Hb Ha (by omega)).mono ?_
    rintro e w2 ⟨v2, rfl, ho2, hb2⟩
    have H2 := Sl.of_own ho2
    have hn2 : (andL lb la).length ≤ lb.length + la.length := merged_len _ _ _
    replace Ha := Ha.up hb2
    replace Hb := Hb.up hb2
    replace Hc := Hc.up hb2
    replace H1 := H1.up hb2
    replace hbw := bchain hbw hb2
    clear ho2 hb2
    go_wp2_with fail
    refine (sameInts_true _ _ (andL la lb) _ H1 (by rw [and_comm' ha hb]; exact H2) (by unfold maxLen; omega)).mono ?_
    rintro e w3 ⟨rfl, hb3⟩
    replace Ha := Ha.up hb3
    replace Hb := Hb.up hb3
    replace Hc := Hc.up hb3
    replace H1 := H1.up hb3
    replace H2 := H2.up hb3
    replace hbw := bchain hbw hb3
    clear hb3
    go_wp2_with fail
    refine (or_any _ _ la lb _ Ha Hb (by omega)).mono ?_
    rintro e w4 ⟨v4, rfl, ho4, hb4⟩
    have H4 := Sl.of_own ho4
    have hn4 : (orL la lb).length ≤ la.length + lb.length := merged_len _ _ _
    clear H1
    replace Ha := Ha.up hb4
    replace Hb := Hb.up hb4
    replace Hc := Hc.up hb4
    replace H2 := H2.up hb4
    replace hbw := bchain hbw hb4
    clear ho4 hb4
    go_wp2_with fail
    refine (or_any _ _ lb la _ Hb Ha (by omega)).mono ?_
    rintro e w5 ⟨v5, rfl, ho5, hb5⟩
    have H5 := Sl.of_own ho5
    have hn5 : (orL lb la).length ≤ lb.length + la.length := merged_len _ _ _
    clear H2
    replace Ha := Ha.up hb5
    replace Hb := Hb.up hb5
    replace Hc := Hc.up hb5
    replace H4 := H4.up hb5
    replace hbw := bchain hbw hb5
    clear ho5 hb5
    go_wp2_with fail
    refine (sameInts_true _ _ (orL la lb) _ H4 (by rw [or_comm' ha hb]; exact H5) (by unfold maxLen; omega)).mono ?_
    rintro e w6 ⟨rfl, hb6⟩
    replace Ha := Ha.up hb6
    replace Hb := Hb.up hb6
    replace Hc := Hc.up hb6
    replace H4 := H4.up hb6
    replace H5 := H5.up hb6
    replace hbw := bchain hbw hb6
    clear hb6
    go_wp2_with fail
    refine (or_any _ _ la lb _ Ha Hb (by omega)).mono ?_
    rintro e w7 ⟨v7, rfl, ho7, hb7⟩
    have H7 := Sl.of_own ho7
    have hn7 : (orL la lb).length ≤ la.length + lb.length := merged_len _ _ _
    clear H4
    replace Ha := Ha.up hb7
    replace Hb := Hb.up hb7
    replace Hc := Hc.up hb7
    replace H5 := H5.up hb7
    replace hbw := bchain hbw hb7
    clear ho7 hb7
    go_wp2_with fail
    refine (and_any _ _ la (orL la lb) _ Ha H7 (by omega)).mono ?_
    rintro e w8 ⟨v8, rfl, ho8, hb8⟩
    have H8 := Sl.of_own ho8
    have hn8 : (andL la (orL la lb)).length ≤ la.length + (orL la lb).length := merged_len _ _ _
    clear H5
    replace Ha := Ha.up hb8
    replace Hb := Hb.up hb8
    replace Hc := Hc.up hb8
    replace H7 := H7.up hb8
    replace hbw := bchain hbw hb8
    clear ho8 hb8
    go_wp2_with fail
    refine (sameInts_true _ _ la _ (by have h := H8; rw [absorb1 ha hb] at h; exact h) Ha (by unfold maxLen; omega)).mono ?_
    rintro e w9 ⟨rfl, hb9⟩
    replace Ha := Ha.up hb9
    replace Hb := Hb.up hb9
    replace Hc := Hc.up hb9
    replace H7 := H7.up hb9
    replace H8 := H8.up hb9
    replace hbw := bchain hbw hb9
    clear hb9
    go_wp2_with fail
    refine (and_any _ _ la lb _ Ha Hb (by omega)).mono ?_
    rintro e w10 ⟨v10, rfl, ho10, hb10⟩
    have H10 := Sl.of_own ho10
    have hn10 : (andL la lb).length ≤ la.length + lb.length := merged_len _ _ _
    clear H7
    replace Ha := Ha.up hb10
    replace Hb := Hb.up hb10
    replace Hc := Hc.up hb10
    replace H8 := H8.up hb10
    replace hbw := bchain hbw hb10
    clear ho10 hb10
    go_wp2_with fail
    refine (or_any _ _ la (andL la lb) _ Ha H10 (by omega)).mono ?_
    rintro e w11 ⟨v11, rfl, ho11, hb11⟩
    have H11 := Sl.of_own ho11
    have hn11 : (orL la (andL la lb)).length ≤ la.length + (andL la lb).length := merged_len _ _ _
    clear H8
    replace Ha := Ha.up hb11
    replace Hb := Hb.up hb11
    replace Hc := Hc.up hb11
    replace H10 := H10.up hb11
    replace hbw := bchain hbw hb11
    clear ho11 hb11
    go_wp2_with fail
    refine (sameInts_true _ _ la _ (by have h := H11; rw [absorb2 ha hb] at h; exact h) Ha (by unfold maxLen; omega)).mono ?_
    rintro e w12 ⟨rfl, hb12⟩
    replace Ha := Ha.up hb12
    replace Hb := Hb.up hb12
    replace Hc := Hc.up hb12
    replace H10 := H10.up hb12
    replace H11 := H11.up hb12
    replace hbw := bchain hbw hb12
    clear hb12
    go_wp2_with fail
    refine (or_any _ _ lb lc _ Hb Hc (by omega)).mono ?_
    rintro e w13 ⟨v13, rfl, ho13, hb13⟩
    have H13 := Sl.of_own ho13
    have hn13 : (orL lb lc).length ≤ lb.length + lc.length := merged_len _ _ _
    clear H10
    replace Ha := Ha.up hb13
    replace Hb := Hb.up hb13
    replace Hc := Hc.up hb13
    replace H11 := H11.up hb13
    replace hbw := bchain hbw hb13
    clear ho13 hb13
    go_wp2_with fail
    refine (and_any _ _ la (orL lb lc) _ Ha H13 (by omega)).mono ?_
    rintro e w14 ⟨v14, rfl, ho14, hb14⟩
    have H14 := Sl.of_own ho14
    have hn14 : (andL la (orL lb lc)).length ≤ la.length + (orL lb lc).length := merged_len _ _ _
    clear H11
    replace Ha := Ha.up hb14
    replace Hb := Hb.up hb14
    replace Hc := Hc.up hb14
    replace H13 := H13.up hb14
    replace hbw := bchain hbw hb14
    clear ho14 hb14
    go_wp2_with fail
    refine (and_any _ _ la lb _ Ha Hb (by omega)).mono ?_
    rintro e w15 ⟨v15, rfl, ho15, hb15⟩
    have H15 := Sl.of_own ho15
    have hn15 : (andL la lb).length ≤ la.length + lb.length := merged_len _ _ _
    replace Ha := Ha.up hb15
    replace Hb := Hb.up hb15
    replace Hc := Hc.up hb15
    replace H13 := H13.up hb15
    replace H14 := H14.up hb15
    replace hbw := bchain hbw hb15
    clear ho15 hb15
    go_wp2_with fail
    refine (and_any _ _ la lc _ Ha Hc (by omega)).mono ?_
    rintro e w16 ⟨v16, rfl, ho16, hb16⟩
    have H16 := Sl.of_own ho16
    have hn16 : (andL la lc).length ≤ la.length + lc.length := merged_len _ _ _
    replace Ha := Ha.up hb16
    replace Hb := Hb.up hb16
    replace Hc := Hc.up hb16
    replace H13 := H13.up hb16
    replace H14 := H14.up hb16
    replace H15 := H15.up hb16
    replace hbw := bchain hbw hb16
    clear ho16 hb16
    go_wp2_with fail
    refine (or_any _ _ (andL la lb) (andL la lc) _ H15 H16 (by omega)).mono ?_
    rintro e w17 ⟨v17, rfl, ho17, hb17⟩
    have H17 := Sl.of_own ho17
    have hn17 : (orL (andL la lb) (andL la lc)).length ≤ (andL la lb).length + (andL la lc).length := merged_len _ _ _
    replace Ha := Ha.up hb17
    replace Hb := Hb.up hb17
    replace Hc := Hc.up hb17
    replace H13 := H13.up hb17
    replace H14 := H14.up hb17
    replace H15 := H15.up hb17
    replace H16 := H16.up hb17
    replace hbw := bchain hbw hb17
    clear ho17 hb17
    go_wp2_with fail
    refine (sameInts_true _ _ (andL la (orL lb lc)) _ H14 (by rw [spread ha hb hc]; exact H17) (by unfold maxLen; omega)).mono ?_
    rintro e w18 ⟨rfl, hb18⟩
    replace Ha := Ha.up hb18
    replace Hb := Hb.up hb18
    replace Hc := Hc.up hb18
    replace H13 := H13.up hb18
    replace H14 := H14.up hb18
    replace H15 := H15.up hb18
    replace H16 := H16.up hb18
    replace H17 := H17.up hb18
    replace hbw := bchain hbw hb18
    clear hb18
    go_wp2_with fail
    refine (and_any _ _ la lb _ Ha Hb (by omega)).mono ?_
    rintro e w19 ⟨v19, rfl, ho19, hb19⟩
    have H19 := Sl.of_own ho19
    have hn19 : (andL la lb).length ≤ la.length + lb.length := merged_len _ _ _
    clear H13
    replace Ha := Ha.up hb19
    replace Hb := Hb.up hb19
    replace Hc := Hc.up hb19
    replace H14 := H14.up hb19
    replace H15 := H15.up hb19
    replace H16 := H16.up hb19
    replace hbw := bchain hbw hb19
    clear ho19 hb19
    go_wp2_with fail
    refine (without_any _ _ la lb _ Ha Hb (by omega)).mono ?_
    rintro e w20 ⟨v20, rfl, ho20, hb20⟩
    have H20 := Sl.of_own ho20
    have hn20 : (withoutL la lb).length ≤ la.length + lb.length := merged_len _ _ _
    clear H14
    replace Ha := Ha.up hb20
    replace Hb := Hb.up hb20
    replace Hc := Hc.up hb20
    replace H19 := H19.up hb20
    replace H15 := H15.up hb20
    replace H16 := H16.up hb20
    replace hbw := bchain hbw hb20
    clear ho20 hb20
    go_wp2_with fail
    refine (or_any _ _ (andL la lb) (withoutL la lb) _ H19 H20 (by omega)).mono ?_
    rintro e w21 ⟨v21, rfl, ho21, hb21⟩
    have H21 := Sl.of_own ho21
    have hn21 : (orL (andL la lb) (withoutL la lb)).length ≤ (andL la lb).length + (withoutL la lb).length := merged_len _ _ _
    clear H15
    replace Ha := Ha.up hb21
    replace Hb := Hb.up hb21
    replace Hc := Hc.up hb21
    replace H19 := H19.up hb21
    replace H20 := H20.up hb21
    replace H16 := H16.up hb21
    replace hbw := bchain hbw hb21
    clear ho21 hb21
    go_wp2_with fail
    refine (sameInts_true _ _ la _ (by have h := H21; rw [parts1 ha hb] at h; exact h) Ha (by unfold maxLen; omega)).mono ?_
    rintro e w22 ⟨rfl, hb22⟩
    replace Ha := Ha.up hb22
    replace Hb := Hb.up hb22
    replace Hc := Hc.up hb22
    replace H19 := H19.up hb22
    replace H20 := H20.up hb22
    replace H21 := H21.up hb22
    replace H16 := H16.up hb22
    replace hbw := bchain hbw hb22
    clear hb22
    go_wp2_with fail
    refine (without_any _ _ la lb _ Ha Hb (by omega)).mono ?_
    rintro e w23 ⟨v23, rfl, ho23, hb23⟩
    have H23 := Sl.of_own ho23
    have hn23 : (withoutL la lb).length ≤ la.length + lb.length := merged_len _ _ _
    clear H19
    replace Ha := Ha.up hb23
    replace Hb := Hb.up hb23
    replace Hc := Hc.up hb23
    replace H20 := H20.up hb23
    replace H21 := H21.up hb23
    replace H16 := H16.up hb23
    replace hbw := bchain hbw hb23
    clear ho23 hb23
    go_wp2_with fail
    refine (and_any _ _ (withoutL la lb) lb _ H23 Hb (by omega)).mono ?_
    rintro e w24 ⟨v24, rfl, ho24, hb24⟩
    have H24 := Sl.of_own ho24
    have hn24 : (andL (withoutL la lb) lb).length ≤ (withoutL la lb).length + lb.length := merged_len _ _ _
    clear H20
    replace Ha := Ha.up hb24
    replace Hb := Hb.up hb24
    replace Hc := Hc.up hb24
    replace H23 := H23.up hb24
    replace H21 := H21.up hb24
    replace H16 := H16.up hb24
    replace hbw := bchain hbw hb24
    clear ho24 hb24
    have hz25 := H24
    rw [parts2 ha hb] at hz25
    obtain ⟨Az, cz, hvz, _, _⟩ := hz25.form
    simp only [List.length_nil] at hvz
    subst hvz
    clear H24 hz25
    go_wp2_with fail
    refine (or_any _ _ lb lc _ Hb Hc (by omega)).mono ?_
    rintro e w26 ⟨v26, rfl, ho26, hb26⟩
    have H26 := Sl.of_own ho26
    have hn26 : (orL lb lc).length ≤ lb.length + lc.length := merged_len _ _ _
    clear H23
    replace Ha := Ha.up hb26
    replace Hb := Hb.up hb26
    replace Hc := Hc.up hb26
    replace H21 := H21.up hb26
    replace H16 := H16.up hb26
    replace hbw := bchain hbw hb26
    clear ho26 hb26
    go_wp2_with fail
    refine (without_any _ _ la (orL lb lc) _ Ha H26 (by omega)).mono ?_
    rintro e w27 ⟨v27, rfl, ho27, hb27⟩
    have H27 := Sl.of_own ho27
    have hn27 : (withoutL la (orL lb lc)).length ≤ la.length + (orL lb lc).length := merged_len _ _ _
    replace Ha := Ha.up hb27
    replace Hb := Hb.up hb27
    replace Hc := Hc.up hb27
    replace H26 := H26.up hb27
    replace H21 := H21.up hb27
    replace H16 := H16.up hb27
    replace hbw := bchain hbw hb27
    clear ho27 hb27
    go_wp2_with fail
    refine (without_any _ _ la lb _ Ha Hb (by omega)).mono ?_
    rintro e w28 ⟨v28, rfl, ho28, hb28⟩
    have H28 := Sl.of_own ho28
    have hn28 : (withoutL la lb).length ≤ la.length + lb.length := merged_len _ _ _
    clear H21
    replace Ha := Ha.up hb28
    replace Hb := Hb.up hb28
    replace Hc := Hc.up hb28
    replace H27 := H27.up hb28
    replace H16 := H16.up hb28
    replace hbw := bchain hbw hb28
    clear ho28 hb28
    go_wp2_with fail
    refine (without_any _ _ (withoutL la lb) lc _ H28 Hc (by omega)).mono ?_
    rintro e w29 ⟨v29, rfl, ho29, hb29⟩
    have H29 := Sl.of_own ho29
    have hn29 : (withoutL (withoutL la lb) lc).length ≤ (withoutL la lb).length + lc.length := merged_len _ _ _
    clear H16
    replace Ha := Ha.up hb29
    replace Hb := Hb.up hb29
    replace Hc := Hc.up hb29
    replace H27 := H27.up hb29
    replace H28 := H28.up hb29
    replace hbw := bchain hbw hb29
    clear ho29 hb29
    go_wp2_with fail
    refine (sameInts_true _ _ (withoutL la (orL lb lc)) _ H27 (by rw [morgan ha hb hc]; exact H29) (by unfold maxLen; omega)).mono ?_
    rintro e w30 ⟨rfl, hb30⟩
    replace Ha := Ha.up hb30
    replace Hb := Hb.up hb30
    replace Hc := Hc.up hb30
    replace H27 := H27.up hb30
    replace H29 := H29.up hb30
    replace hbw := bchain hbw hb30
    clear hb30
    go_wp2_with fail
    go_ret
    exact ⟨rfl, hbw⟩
end Go.Proofs.Ytihimbmbhmgjoaa
