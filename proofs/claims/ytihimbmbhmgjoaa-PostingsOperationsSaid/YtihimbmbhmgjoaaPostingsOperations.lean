/- PostingsOperations: for every list of choices and every number the statement's function returns true, and the arguments read as before. No condition. (The calls' lines are printed by wip/gen/operations.py.) -/
import Derived.Test.YtihimbmbhmgjoaaFold
import Derived.Test.YtihimbmbhmgjoaaOpen
import Derived.Test.YtihimbmbhmgjoaaLaw
namespace Go.Proofs.Ytihimbmbhmgjoaa.postingsOperations
open Go.ChangeShapes Go.WideShapes Go.ChangeAt Go.RowKit Go.Joins

theorem foldL_len (op : List Int → List Int → List Int) (ho : ∀ a b, (op a b).length ≤ a.length + b.length) : ∀ (rest : List (List Int)) (l : List Int) (B : Nat), l.length ≤ B → (∀ x ∈ rest, x.length ≤ 100) → (foldL op l rest).length ≤ B + 100 * rest.length
  | [], l, B, h, _ => by simpa [foldL] using h
  | x :: xs, l, B, h, hx => by
    have h1 := ho l x
    have h2 := hx x (by simp)
    have h3 := foldL_len op ho xs (op l x) (B + 100) (by omega) (fun y hy => hx y (by simp [hy]))
    simp only [foldL, List.foldl_cons, List.length_cons] at h3 ⊢
    omega
theorem Each.post {w : World} {S : Nat → Prop} : ∀ {vs : List Value} {ls : List (List Int)}, Each w S vs ls → ∀ x ∈ ls, x.length ≤ 100
  | [], [], _, x, hx => by simp at hx
  | _ :: _, l :: ls, ⟨_, _, h2, h3⟩, x, hx => by
    rcases List.mem_cons.1 hx with rfl | h
    · exact h2.2.2
    · exact Each.post h3 x h

theorem sl_len {w : World} {S : Nat → Prop} {size n n' : Nat} {v : Value} {xs : List Value} (h : Sl w S size v n xs) (e : n = n') : Sl w S size v n' xs := e ▸ h
theorem two_heads {α : Type} {l : List α} (h : 2 ≤ l.length) : ∃ a b r, l = a :: b :: r := by
  match l, h with
  | a :: b :: r, _ => exact ⟨a, b, r, rfl⟩

set_option maxHeartbeats 4000000 in
set_option maxRecDepth 100000 in
theorem walk (vx : Value) (bs : List Int) (x : Int) (w : World) (hs : Sl w (lt w.heap.size) 1 vx bs.length (bs.map (.int .u8))) (hr : ∀ x ∈ bs, 0 ≤ x ∧ x ≤ 255) (hm : bs.length ≤ maxLen) (hx0 : 0 ≤ x) (hx1 : x ≤ 255) :
    Calls Try.prog 5 #[vx, .int .u8 x] w fun e w' => e = .returned (.bool true) ∧ Below w.heap.size w w' := by
  obtain ⟨m, hM, hm2, hm1⟩ : ∃ m : Nat, (2 : Int) + x % 4 = (m : Int) ∧ 2 ≤ m ∧ m ≤ 5 := ⟨(2 + x % 4).toNat, by omega, by omega, by omega⟩
  go_enter Try.func5, Try.ntmps5
  go_wp2_with fail
  refine (awake_true _).mono ?_
  rintro e w0 ⟨rfl, hbw⟩
  go_wp2_with fail
  refine (lists_any vx bs m _ (hs.up hbw) hr hm (by omega)).mono ?_
  rintro e x0 ⟨v, vs, ls, rfl, hvs, hE, hown, hb0⟩
  have hE0 := hE
  have hlen := hE.len
  clear hM
  have hlen2 := hlen.symm.trans hvs
  obtain ⟨va, vb, vr, rfl⟩ := two_heads (hvs ▸ hm2)
  obtain ⟨la, lb, lr, rfl⟩ := two_heads (hlen2 ▸ hm2)
  · have hmr : lr.length + 1 + 1 = m := by simpa using hlen2
    clear hlen2 hlen hvs
    obtain ⟨⟨_, _, rfl⟩, Ha, hPa, ⟨_, _, rfl⟩, Hb, hPb, hEr⟩ := hE
    replace Ha := Ha.mono (S' := lt x0.heap.size) (fun _ h => h.2)
    replace Hb := Hb.mono (S' := lt x0.heap.size) (fun _ h => h.2)
    replace hE0 := hE0.imp (w' := x0) (S' := lt x0.heap.size) (fun _ _ _ h => h.mono (fun _ h => h.2))
    have na := hPa.2.2
    have nb := hPb.2.2
    have nr := Each.post hEr
    have nAll := foldL_len andL (merged_len _) (lb :: lr) la 100 na (fun y hy => by rcases List.mem_cons.1 hy with rfl | h; exact nb; exact nr y h)
    have nAny := foldL_len orL (merged_len _) (lb :: lr) la 100 na (fun y hy => by rcases List.mem_cons.1 hy with rfl | h; exact nb; exact nr y h)
    have nAnd : (andL la lb).length ≤ la.length + lb.length := merged_len _ _ _
    have nOr : (orL la lb).length ≤ la.length + lb.length := merged_len _ _ _
    have nWo : (withoutL la lb).length ≤ la.length + lb.length := merged_len _ _ _
    have hAny : foldL orL [] (la :: lb :: lr) = foldL orL la (lb :: lr) := by
      show foldL orL (orL [] la) (lb :: lr) = _
      rw [or_nil]
    obtain ⟨g, cp, rfl, _, _⟩ := hown.form (by omega)
    have e0 := hown.cellAt 0 (by omega)
    have e1 := hown.cellAt 1 (by omega)
    simp only [List.getElem?_cons_zero, List.getElem?_cons_succ] at e0 e1
    have hi0 : (0 : Int) < (m : Int) := by omega
    have hi1 : (1 : Int) < (m : Int) := by omega
    have HL := sl_len (Sl.of_own hown) (show m = (lb :: lr).length + 1 by rw [List.length_cons]; omega)
    replace hbw := bchain hbw hb0
    clear hown hb0 hs hr hEr nr hPa hPb
    go_wp2_with fail
    go_quiet (fail)
    replace hbw := below_drewN hbw nq
    replace HL : Sl (x0.drewN nq) (lt (x0.drewN nq).heap.size) 1 _ _ _ := HL
    replace hE0 := hE0.imp (w' := x0.drewN nq) (S' := lt (x0.drewN nq).heap.size) (fun _ _ _ h => h)
    replace Ha : Sl (x0.drewN nq) (lt (x0.drewN nq).heap.size) 1 _ _ (la.map (.int .i64)) := Ha
    replace Hb : Sl (x0.drewN nq) (lt (x0.drewN nq).heap.size) 1 _ _ (lb.map (.int .i64)) := Hb
    generalize x0.drewN nq = x1 at *
    clear e0 e1
    go_wp2_with fail
    refine (and_any _ _ la lb _ Ha Hb (by omega)).mono ?_
    rintro e w1 ⟨v1, rfl, ho1, hb1⟩
    have H1 := Sl.of_own ho1
    replace Ha := Ha.up hb1
    replace Hb := Hb.up hb1
    replace HL := HL.up hb1
    replace hE0 := hE0.imp (S' := lt w1.heap.size) (fun _ _ _ h => h.up hb1)
    replace hbw := bchain hbw hb1
    clear ho1 hb1
    go_wp2_with fail
    refine (refAnd_any _ _ la lb _ Ha Hb (by omega)).mono ?_
    rintro e w2 ⟨v2, rfl, ho2, hb2⟩
    have H2 := Sl.of_own ho2
    replace H1 := H1.up hb2
    replace Ha := Ha.up hb2
    replace Hb := Hb.up hb2
    replace HL := HL.up hb2
    replace hE0 := hE0.imp (S' := lt w2.heap.size) (fun _ _ _ h => h.up hb2)
    replace hbw := bchain hbw hb2
    clear ho2 hb2
    go_wp2_with fail
    refine (sameInts_true _ _ (andL la lb) _ H1 H2 (by unfold maxLen; omega)).mono ?_
    rintro e w3 ⟨rfl, hb3⟩
    replace Ha := Ha.up hb3
    replace Hb := Hb.up hb3
    replace HL := HL.up hb3
    replace hE0 := hE0.imp (S' := lt w3.heap.size) (fun _ _ _ h => h.up hb3)
    replace hbw := bchain hbw hb3
    clear hb3
    go_wp2_with fail
    refine (or_any _ _ la lb _ Ha Hb (by omega)).mono ?_
    rintro e w4 ⟨v4, rfl, ho4, hb4⟩
    have H4 := Sl.of_own ho4
    replace Ha := Ha.up hb4
    replace Hb := Hb.up hb4
    replace HL := HL.up hb4
    replace hE0 := hE0.imp (S' := lt w4.heap.size) (fun _ _ _ h => h.up hb4)
    replace hbw := bchain hbw hb4
    clear ho4 hb4
    go_wp2_with fail
    refine (refOr_any _ _ la lb _ Ha Hb (by omega)).mono ?_
    rintro e w5 ⟨v5, rfl, ho5, hb5⟩
    have H5 := Sl.of_own ho5
    replace H4 := H4.up hb5
    replace Ha := Ha.up hb5
    replace Hb := Hb.up hb5
    replace HL := HL.up hb5
    replace hE0 := hE0.imp (S' := lt w5.heap.size) (fun _ _ _ h => h.up hb5)
    replace hbw := bchain hbw hb5
    clear ho5 hb5
    go_wp2_with fail
    refine (sameInts_true _ _ (orL la lb) _ H4 H5 (by unfold maxLen; omega)).mono ?_
    rintro e w6 ⟨rfl, hb6⟩
    replace Ha := Ha.up hb6
    replace Hb := Hb.up hb6
    replace HL := HL.up hb6
    replace hE0 := hE0.imp (S' := lt w6.heap.size) (fun _ _ _ h => h.up hb6)
    replace hbw := bchain hbw hb6
    clear hb6
    go_wp2_with fail
    refine (without_any _ _ la lb _ Ha Hb (by omega)).mono ?_
    rintro e w7 ⟨v7, rfl, ho7, hb7⟩
    have H7 := Sl.of_own ho7
    replace Ha := Ha.up hb7
    replace Hb := Hb.up hb7
    replace HL := HL.up hb7
    replace hE0 := hE0.imp (S' := lt w7.heap.size) (fun _ _ _ h => h.up hb7)
    replace hbw := bchain hbw hb7
    clear ho7 hb7
    go_wp2_with fail
    refine (refWithout_any _ _ la lb _ Ha Hb (by omega)).mono ?_
    rintro e w8 ⟨v8, rfl, ho8, hb8⟩
    have H8 := Sl.of_own ho8
    replace H7 := H7.up hb8
    replace Ha := Ha.up hb8
    replace Hb := Hb.up hb8
    replace HL := HL.up hb8
    replace hE0 := hE0.imp (S' := lt w8.heap.size) (fun _ _ _ h => h.up hb8)
    replace hbw := bchain hbw hb8
    clear ho8 hb8
    go_wp2_with fail
    refine (sameInts_true _ _ (withoutL la lb) _ H7 H8 (by unfold maxLen; omega)).mono ?_
    rintro e w9 ⟨rfl, hb9⟩
    replace Ha := Ha.up hb9
    replace Hb := Hb.up hb9
    replace HL := HL.up hb9
    replace hE0 := hE0.imp (S' := lt w9.heap.size) (fun _ _ _ h => h.up hb9)
    replace hbw := bchain hbw hb9
    clear hb9
    go_wp2_with fail
    refine (all_any _ _ la (lb :: lr) _ HL hE0 (by simp; omega)).mono ?_
    rintro e w10 ⟨v10, rfl, ho10, hb10⟩
    have H10 := Sl.of_own ho10
    replace Ha := Ha.up hb10
    replace Hb := Hb.up hb10
    replace HL := HL.up hb10
    replace hE0 := hE0.imp (S' := lt w10.heap.size) (fun _ _ _ h => h.up hb10)
    replace hbw := bchain hbw hb10
    clear ho10 hb10
    go_wp2_with fail
    refine (refAll_any _ _ la (lb :: lr) _ HL hE0 (by simp; omega)).mono ?_
    rintro e w11 ⟨v11, rfl, ho11, hb11⟩
    have H11 := Sl.of_own ho11
    replace H10 := H10.up hb11
    replace Ha := Ha.up hb11
    replace Hb := Hb.up hb11
    replace HL := HL.up hb11
    replace hE0 := hE0.imp (S' := lt w11.heap.size) (fun _ _ _ h => h.up hb11)
    replace hbw := bchain hbw hb11
    clear ho11 hb11
    go_wp2_with fail
    refine (sameInts_true _ _ (foldL andL la (lb :: lr)) _ H10 H11 (by unfold maxLen; rw [List.length_cons] at nAll nAny; omega)).mono ?_
    rintro e w12 ⟨rfl, hb12⟩
    replace Ha := Ha.up hb12
    replace Hb := Hb.up hb12
    replace HL := HL.up hb12
    replace hE0 := hE0.imp (S' := lt w12.heap.size) (fun _ _ _ h => h.up hb12)
    replace hbw := bchain hbw hb12
    clear hb12
    go_wp2_with fail
    refine (any_any _ _ la (lb :: lr) _ HL hE0 (by simp; omega)).mono ?_
    rintro e w13 ⟨v13, rfl, ho13, hb13⟩
    have H13 := Sl.of_own ho13
    replace Ha := Ha.up hb13
    replace Hb := Hb.up hb13
    replace HL := HL.up hb13
    replace hE0 := hE0.imp (S' := lt w13.heap.size) (fun _ _ _ h => h.up hb13)
    replace hbw := bchain hbw hb13
    clear ho13 hb13
    go_wp2_with fail
    refine (refAny_any _ _ la (lb :: lr) _ HL hE0 (by simp; omega)).mono ?_
    rintro e w14 ⟨v14, rfl, ho14, hb14⟩
    have H14 := Sl.of_own ho14
    replace H13 := H13.up hb14
    replace Ha := Ha.up hb14
    replace Hb := Hb.up hb14
    replace HL := HL.up hb14
    replace hE0 := hE0.imp (S' := lt w14.heap.size) (fun _ _ _ h => h.up hb14)
    replace hbw := bchain hbw hb14
    clear ho14 hb14
    go_wp2_with fail
    refine (sameInts_true _ _ (foldL orL la (lb :: lr)) _ H13 (by rw [hAny] at H14; exact H14) (by unfold maxLen; rw [List.length_cons] at nAll nAny; omega)).mono ?_
    rintro e w15 ⟨rfl, hb15⟩
    replace Ha := Ha.up hb15
    replace Hb := Hb.up hb15
    replace HL := HL.up hb15
    replace hE0 := hE0.imp (S' := lt w15.heap.size) (fun _ _ _ h => h.up hb15)
    replace hbw := bchain hbw hb15
    clear hb15
    go_wp2_with fail
    refine (all_nil _).mono ?_
    rintro e w16 ⟨rfl, hb16⟩
    replace hbw := bchain hbw hb16
    go_wp2_with fail
    refine (any_nil _).mono ?_
    rintro e w17 ⟨rfl, hb17⟩
    replace hbw := bchain hbw hb17
    go_wp2_with fail
    go_ret
    exact ⟨rfl, hbw⟩

set_option maxRecDepth 100000 in
theorem lifted (os : Os) (started : os.Started) (H : Type) (enc : TypeId × Value → H) :
    ReturnsInHanded {} Try.checked os 5 .any (Rows.postingsOperationsSpec.pre6 enc Try.prog Try.f5 Rows.postingsOperationsRow.domain false) (Rows.postingsOperationsSpec.post enc Try.prog Try.f5 false true false false) := by
  refine returnsInHanded_of_change (C := Try.checked) knob started (by kernel_rfl) Try.func5
    (ChangeSpec.witness6 (enc := enc) (C := Try.checked) false ⟨#[], #[.slice none 0 0, .int .u8 0], []⟩ 8 (by kernel_rfl) (by kernel_rfl) (by kernel_rfl) (by kernel_rfl)) ?_
  intro W base args ds gs before hval0 hW hcnd _
  have hval : ∀ (j : Nat) t v, Try.f5.params[j]? = some t → args[j]? = some v → Value.okWide Try.prog W .any base t v := hval0
  have hW' := hW
  obtain ⟨p, q, hA0, hV, rfl, hfz, hnd⟩ := hW
  have hA : DataW.TrodAll enc Try.prog W 0 (fun _ => true) true Try.f5.params.toList args.toList ds p := hA0
  rw [Try.params5] at hA hval
  obtain ⟨v0, vs0, d0, ds0, p0, q0, hargs, rfl, rfl, h0, r0⟩ := trodAll_cons hA
  obtain ⟨v1, vs1, d1, ds1, p1, q1, rfl, rfl, rfl, h1, r1⟩ := trodAll_cons r0
  obtain ⟨rfl, rfl, rfl⟩ := trodAll_nil r1
  obtain rfl : args = #[v0, v1] := by cases args; simp_all
  obtain ⟨a0, len0, cap0, rfl⟩ := okWide_slice Try.underlying22 (hval 0 22 v0 rfl rfl)
  obtain ⟨m0, hm0⟩ := h0
  obtain ⟨l, hsl, hml, hrl⟩ := sl_ints Try.underlying22 Try.underlying5 (by kernel_rfl) hm0
  obtain ⟨a1, rfl, rfl, rfl, w1⟩ := open_int Try.underlying5 (hval 1 5 v1 rfl rfl) h1
  have hr : 0 ≤ a1 ∧ a1 ≤ 255 := by simpa [Lit.wf, IntKind.min, IntKind.max, IntKind.signed, IntKind.bits] using w1
  refine (walk _ l a1 W hsl (fun x hx => by simpa [Lit.wf, IntKind.min, IntKind.max, IntKind.signed, IntKind.bits] using hrl x hx) hml hr.1 hr.2).mono fun e W' ⟨he, hb⟩ => ?_
  subst he
  exact ⟨_, rfl, law_post laidOut (by kernel_rfl) rfl rfl Try.underlying4 hW' rfl hb⟩

theorem proved : Rows.PostingsOperationsSaid :=
  OpenClaim.holds_of_wide 5 Try.f5 rfl rfl rfl rfl rfl rfl rfl ⟨rfl, rfl, rfl, rfl, rfl⟩ rfl rfl rfl rfl rfl (by kernel_rfl) Try.func5 (by kernel_rfl)
    (of_decide_eq_true (by kernel_rfl)) (by unfold Func.isWrapper; first | (rw [if_pos (by decide +kernel)]; kernel_rfl) | (rw [if_neg (by decide +kernel)]; exact ⟨rfl, rfl⟩))
    (fun os started H enc _ => lifted os started H enc)
end Go.Proofs.Ytihimbmbhmgjoaa.postingsOperations
