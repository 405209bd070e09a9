/- The contract of postings.Decode. -/
import Derived.Test.YtihimbmbhmgjoaaDecS
import Derived.Test.YtihimbmbhmgjoaaEnc
namespace Go.Proofs.Ytihimbmbhmgjoaa
open Go.RowKit

theorem bytesEqual_any (v1 v2 : Value) (l1 l2 : List UInt8) (w : World) (S1 S2 : Nat → Prop) (h1 : BSl w S1 v1 l1) (h2 : BSl w S2 v2 l2) :
    Calls Try.prog 51 #[v1, v2] w fun e w' => e = .returned (.bool (decide (l1 = l2))) ∧ w = w' := by
  go_enter Try.func51, Try.ntmps51
  go_wp2_with (first
    | (refine wpList_stringB rfl _ rfl rfl h1 Try.underlying22 Try.underlying5 Try.underlying9 ?_)
    | (refine wpList_stringB rfl _ rfl rfl h2 Try.underlying22 Try.underlying5 Try.underlying9 ?_))
  go_ret
  exact ⟨ret_bool (by rw [Bool.eq_iff_iff]; simp), rfl⟩
theorem entP_len : ∀ (k : Nat) (b r : List UInt8), entP k b = some r → r.length ≤ b.length
  | 0, b, r, h => by simp [entP] at h; subst h; exact Nat.le_refl _
  | k + 1, b, r, h => by
    cases h1 : numP b with
    | none => rw [entP_none1 h1] at h; cases h
    | some p =>
      cases h2 : numP p.2 with
      | none => rw [entP_none2 (x := p.1) (b1 := p.2) h1 h2] at h; cases h
      | some q =>
        rw [(entP_step (k := k) (x := p.1) (b1 := p.2) (y := q.1) (b2 := q.2) h1 h2).1] at h
        have h3 := entP_len k q.2 r h
        have h4 := (numP_len (b := b) (r := p.2) (n := p.1) h1).1
        have h5 := (numP_len (b := p.2) (r := q.2) (n := q.1) h2).1
        omega
theorem entOk_len {b b1 b2 : List UInt8} {n : Nat} (h : entOk b = some (n, b1, b2)) : b2.length ≤ b.length := by
  unfold entOk at h
  cases hn : numP b with
  | none => rw [hn] at h; cases h
  | some p =>
    rw [hn] at h
    simp only at h
    split at h
    · cases h
    · cases he : entP (blocksNo p.1) p.2 with
      | none => rw [he] at h; cases h
      | some r =>
        rw [he] at h
        simp only at h
        injection h with h
        injection h with h1 h2
        injection h2 with h2 h3
        subst h1 h2 h3
        have h4 := entP_len _ _ _ he
        have h5 := (numP_len (b := b) (r := p.2) (n := p.1) hn).1
        omega
theorem checkOf_nil : checkOf [] = 0 := by decide

set_option maxRecDepth 100000 in
set_option maxHeartbeats 2000000 in
theorem dec_any (v : Value) (b : List UInt8) (w : World) (h : BSl w (lt w.heap.size) v b) (hm : b.length ≤ 1000000) :
    Calls Try.prog 29 #[v] w (DecRes w b) := by
  go_enter Try.func29, Try.ntmps29
  go_wp2_with fail
  have HB := keep h
  refine (entries_any v b w h hm).mono ?_
  rintro e W1 (⟨hno, rfl, hb1⟩ | ⟨n, b1, b2, vl, vr, hok, rfl, hS, hown, hb1, _⟩)
  · have HD := keep (not_post (decP_no hno))
    clear hno h
    go_upto_region 4 with fail
    go_loopw [6, 7, 8, 9, 10, 11, 23] (fun _ ok out _ _ _ i wr => ok = .bool false ∧ out = .slice none 0 0 ∧ i = .int .i64 0 ∧ wr = W1) (fun _ _ _ _ _ _ _ _ => 0)
    case atStart => exact ⟨rfl, rfl, rfl, rfl⟩
    case round =>
      obtain ⟨rfl, rfl, rfl, rfl⟩ := hrel
      go_wp2_with fail
      refine (enc_any (.slice none 0 0) [] _ (Sl.nil _ _ _ _ _) (by simp)).mono ?_
      rintro e W2 ⟨v2, rfl, _, hb2⟩
      rw [checkOf_nil]
      go_wp2_with fail
      refine bodyPost_ret (v := .tuple #[.slice none 0 0, .int .i64 22]) (by simp [results, Try.results29, go_sem]) rfl ?_
      exact .inr ⟨HD.out, rfl, bchain hb1 hb2⟩
  · obtain ⟨hR, hn4⟩ := decP_ent hok
    have hb2l := entOk_len hok
    obtain ⟨Al, cl, rfl, hcl, _⟩ := (Sl.of_own hown).form
    obtain ⟨R, hRR⟩ : ∃ R, decP b = R := ⟨_, rfl⟩
    rw [hRR] at hR
    have HRR := keep hRR
    obtain ⟨K, hK⟩ : ∃ K, blocksNo n = K := ⟨_, rfl⟩
    have hKb : K ≤ 129 := by rw [← hK]; unfold blocksNo; omega
    rw [hK] at hR hcl
    rw [hK]
    have hst : OutS R K (n - ([] : List Int).length) [] true vr w W1 := .inr ⟨rfl, b2, hS, by omega, by rw [hR]; simp only [List.length_nil, Nat.sub_zero]; cases blksP K n b2 <;> rfl⟩
    have HST := keep hst
    clear hok hb2l hown hRR hK hR hst hS h
    go_upto_region 4 with fail
    go_loopw [6, 7, 8, 9, 10, 11, 23] (fun rest ok out _ _ _ idx wr => ∃ (j : Nat) (o : List Int) (okb : Bool), idx = .int .i64 j ∧ ok = .bool okb ∧ Hid (j ≤ K) ∧ Hid (o.length ≤ n) ∧ wr.ownsRow w.heap.size 3 1 out o.length (o.map (.int .i64)) ∧
        Hid (OutS R (K - j) (n - o.length) o okb rest w wr) ∧ Hid (Below w.heap.size w wr)) (fun _ _ _ _ _ _ idx _ => K - (intOf idx).toNat)
    case atStart => exact ⟨0, [], true, rfl, rfl, keep (Nat.zero_le _), keep (Nat.zero_le _), World.ownsRow_nil _ _ _ _, HST, keep hb1⟩
    case round =>
      obtain ⟨j, o, okb, rfl, rfl, hj, hon, hown, hO, hbr⟩ := hrel
      have hol := hon.out
      obtain ⟨Ao, co, hov, hco, _⟩ := (Sl.of_own hown).form
      subst hov
      by_cases hjK : j < K
      · have d1 : (j : Int) < (K : Int) := by omega
        obtain ⟨m, hmn⟩ : ∃ m, min 32 (n - o.length) = m := ⟨_, rfl⟩
        obtain ⟨R1, hI, hRR1⟩ : ∃ R1, InS R1 m [] 0 okb u6 w wr ∧ R = match (generalizing := false) R1 with | none => none | some (p, r) => match blksP (K - (j + 1)) (n - o.length - m) r with | none => none | some p' => some (o ++ (p ++ p')) := by
          cases okb with
          | false => exact ⟨none, .inl ⟨rfl, rfl⟩, hO.out.no⟩
          | true =>
            have h1 := hO.out
            rw [show K - j = (K - (j + 1)) + 1 by omega] at h1
            have h2 := h1.start
            rw [hmn] at h2
            exact h2
        have HI := keep hI
        have HR1 := keep hRR1
        have hm32 : m ≤ 32 := by omega
        have hslot : Hid (((n : Int) - (o.length : Int) < 32 ∧ (n : Int) - (o.length : Int) = (m : Int)) ∨ (¬ (n : Int) - (o.length : Int) < 32 ∧ (32 : Int) = (m : Int))) := keep (by omega)
        have HMN := keep hmn
        clear hI hRR1 hmn
        by_cases h32 : (n : Int) - (o.length : Int) < 32
        all_goals
          go_upto_region 7 with fail
          have hsl := hslot.out
          first
            | rw [show (Value.int .i64 ((n : Int) - (o.length : Int))) = Value.int .i64 (m : Int) from by rw [show (n : Int) - (o.length : Int) = (m : Int) by omega]]
            | skip
          clear hsl
          obtain ⟨wo, rfl⟩ : ∃ wo : World, wo = wr := ⟨_, rfl⟩
          go_loopw [6, 7, 8, 9, 10, 11] (fun rest ok out last k _ wr => ∃ (kk : Nat) (q : List Int) (a : Int) (ok2 : Bool), k = .int .i64 kk ∧ ok = .bool ok2 ∧ last = .int .i64 a ∧ Hid (q.length + kk ≤ m) ∧ Hid (ok2 = true → q.length + kk = m) ∧ 0 ≤ a ∧ Hid (a ≤ 16384 * (q.length : Int)) ∧
              wr.ownsRow w.heap.size 3 1 out (o ++ q).length ((o ++ q).map (.int .i64)) ∧ Hid (InS R1 kk q a ok2 rest w wr) ∧ Hid (Below w.heap.size w wr)) (fun _ _ _ _ k _ _ => (intOf k).toNat)
          case atStart =>
            have hkm := hslot.out
            exact ⟨m, [], 0, okb, by first | rfl | rw [show (m : Int) = 32 from by omega], rfl, rfl, keep (by simp), keep (fun _ => by simp), Int.le_refl _, keep (by simp), by simpa using hown, HI, hbr⟩
          case round =>
            obtain ⟨kk, q, a, ok2, rfl, rfl, rfl, hqk, hqk2, ha0, ha1, hown2, hI2, hbr2⟩ := hrel
            obtain ⟨oq, hoq⟩ : ∃ oq, o ++ q = oq := ⟨_, rfl⟩
            have hoql : oq.length ≤ n := by
              have := hqk.out; have := HMN.out
              rw [← hoq, List.length_append]; omega
            rw [hoq] at hown2
            have HOQ := keep hoq
            clear hoq
            obtain ⟨A9, c9, hv9, hc9, _⟩ := (Sl.of_own hown2).form
            subst hv9
            by_cases hgo : ok2 = true ∧ 0 < kk
            · obtain ⟨rfl, hk0⟩ := hgo
              obtain ⟨k, rfl⟩ : ∃ k, kk = k + 1 := ⟨kk - 1, by omega⟩
              obtain ⟨rb, hSb, hrbl, hblk⟩ := hI2.out.yes
              have HBLK := keep hblk
              have hk1 : (0 : Int) < ((k + 1 : Nat) : Int) := by omega
              have hql := hqk.out
              have hab : a ≤ 540000 := by have := ha1.out; omega
              have hkb : k ≤ 32 := by omega
              clear hblk hown
              go_wp2_with fail
              refine (number_any u6 rb _ wr hSb hrbl).mono ?_
              rintro e W5 (⟨hn1, rfl, q1, rfl⟩ | ⟨d, r, v1, hn1, rfl, hS1, q1, rfl⟩)
              · have hI3 : ∀ rest', InS R1 k q a false rest' w (wr.drewN q1) := fun rest' => InS.fail HBLK.out hn1 rest'
                have HI3 := keep hI3
                have hown3 : (wr.drewN q1).ownsRow w.heap.size 3 1 (.slice A9 oq.length c9) oq.length (oq.map (.int .i64)) := hown2.kept (grownBy_drewN (World.grownBy.refl _ none) _) (by cases hv : Value.ownBlock (.slice A9 oq.length c9) <;> simp)
                clear hI3 hn1 hql
                go_wp2_with fail
                go_roundw
                case rel => exact ⟨k, q, a, false, by go_num, rfl, rfl, keep (by have := hqk.out; omega), keep (fun h => by cases h), ha0, ha1, by rw [HOQ.out]; exact hown3, keep (HI3.out _), keep (below_drewN hbr2.out _)⟩
                case measure => simp [intOf]
              · have hl1 := numP_len hn1
                have hown3 : (wr.drewN q1).ownsRow w.heap.size 3 1 (.slice A9 oq.length c9) oq.length (oq.map (.int .i64)) := hown2.kept (grownBy_drewN (World.grownBy.refl _ none) _) (by cases hv : Value.ownBlock (.slice A9 oq.length c9) <;> simp)
                have hI3 : InS R1 k (q ++ [a + (d : Int)]) (a + (d : Int)) true v1 w (wr.drewN q1) := InS.step HBLK.out hn1 (BSl.keep_ hS1 (below_drewN (Below.refl _ _) _)) (by omega)
                have HI3 := keep hI3
                have hb3 := below_drewN hbr2.out q1
                obtain ⟨W5, hW5⟩ : ∃ W5, wr.drewN q1 = W5 := ⟨_, rfl⟩
                rw [hW5] at hown3 HI3 hb3
                rw [hW5]
                have hd1 : d < 16384 := hl1.2
                obtain ⟨x, hx⟩ : ∃ x, a + (d : Int) = x := ⟨_, rfl⟩
                have hbs := hb3.size
                have HX := keep hx
                have HO3 := keep hown3
                clear hI3 hn1 hl1 hW5 hS1 hx hql hown3 hown2
                go_wp2_with (refine wpList_push1 el26 rfl rfl _ _ _ rfl rfl rfl w.heap.size (.slice A9 oq.length c9) (.int .i64 (a + (d : Int))) oq.length _ rfl (fun _ => rfl) (fun _ => rfl) HO3.out rfl (by unfold maxLen; omega) (by omega) hbs ?_; intro g8 cap8 w8 hown8 hb8 _ _ _)
                go_roundw
                case rel =>
                  refine ⟨k, q ++ [a + (d : Int)], a + (d : Int), true, by go_num, rfl, rfl, keep (by have := hqk.out; simp; omega), keep (fun _ => by have := hqk2.out (by first | rfl | trivial); simp; omega), by omega, keep (by have := ha1.out; simp; omega), ?_, keep (HI3.out.move hb8), keep (hb3.trans hb8)⟩
                  rw [← List.append_assoc, HOQ.out, List.length_append, List.map_append]
                  exact hown8
                case measure => simp [intOf]
            · have hRf : Hid (∀ u, OutS R (K - (j + 1)) (n - oq.length) oq ok2 u w wr ∨ (ok2 = true ∧ u ≠ u6)) := keep (fun u => by
                cases ok2 with
                | false =>
                  have h1 := hI2.out.no
                  subst h1
                  exact .inl (.inl ⟨rfl, HR1.out⟩)
                | true =>
                  by_cases hu : u = u6
                  · subst hu
                    have hk0 : kk = 0 := by
                      by_cases h0 : 0 < kk
                      · exact absurd ⟨rfl, h0⟩ hgo
                      · omega
                    have h1 := hI2.out
                    rw [hk0] at h1
                    have h2 := hqk2.out rfl
                    have h3 := OutS.next h1 HR1.out
                    rw [HOQ.out] at h3
                    have h4 : n - oq.length = n - o.length - m := by rw [← HOQ.out, List.length_append]; omega
                    rw [h4]
                    exact .inl h3
                  · exact .inr ⟨rfl, hu⟩)
              have hRf2 : Hid (OutS R (K - (j + 1)) (n - oq.length) oq ok2 u6 w wr) := keep ((hRf.out u6).resolve_right (fun h => h.2 rfl))
              have hjK2 : j ≤ 129 := by omega
              clear hRf hown
              cases ok2 with
              | false =>
                by_cases hk0 : 0 < kk
                all_goals
                  have hkd : decide ((0 : Int) < (kk : Int)) = decide (0 < kk) := by simp
                  go_wp2_with fail
                  go_roundw
                  case rel => exact ⟨j + 1, oq, false, by go_num, rfl, keep (by omega), keep hoql, hown2, hRf2, hbr2⟩
                  case measure => simp [intOf]; omega
              | true =>
                have hk0 : kk = 0 := by
                  by_cases h0 : 0 < kk
                  · exact absurd ⟨rfl, h0⟩ hgo
                  · omega
                subst hk0
                go_wp2_with fail
                go_roundw
                case rel => exact ⟨j + 1, oq, true, by go_num, rfl, keep (by omega), keep hoql, hown2, hRf2, hbr2⟩
                case measure => simp [intOf]; omega
      · have hjK2 : j = K := by have := hj.out; omega
        have d1 : (K : Int) ≤ (j : Int) := by omega
        have hO2 := hO.out
        rw [hjK2, Nat.sub_self] at hO2
        have HO := keep hO2
        have hbs := hbr.out.size
        have hSo : Sl wr (lt wr.heap.size) 1 (.slice Ao o.length co) o.length (o.map (.int .i64)) := Sl.of_own hown
        have hEn := enc_any _ o wr hSo (by unfold maxLen; omega)
        have HOW := keep hown
        obtain ⟨z, hz⟩ : ∃ z, checkOf o = z := ⟨_, rfl⟩
        obtain ⟨LL, hLL⟩ : ∃ LL, (if checkOf o = 0 then postB o else []) = LL := ⟨_, rfl⟩
        have hfin : Hid ((okb = true ∧ z = 0 ∧ LL = b → IsPost b o) ∧ (¬ (okb = true ∧ z = 0 ∧ LL = b) → ∀ l, ¬ IsPost b l)) := keep (by
          constructor
          · rintro ⟨_, h0, hb⟩
            rw [← hz] at h0
            rw [if_pos h0] at hLL
            exact ⟨h0, hLL.trans hb⟩
          · intro hn
            cases okb with
            | false => exact not_post (HRR.out.trans HO.out.no)
            | true =>
              refine post_or (HRR.out.trans HO.out.final) (fun hc => hn ⟨rfl, by rw [← hz]; exact hc.1, ?_⟩)
              rw [← hLL, if_pos hc.1]
              exact hc.2)
        unfold EncRes at hEn
        rw [hLL, hz] at hEn
        clear hjK2 hO2 hown hSo hz hLL
        have HEn := keep hEn
        clear hEn
        go_wp2_with fail
        refine HEn.out.mono ?_
        rintro e W2 ⟨v2, rfl, ho2, hb2⟩
        have hbw2 := hbr.out.trans (hb2.mono hbs)
        have HV2 := keep ho2.slt
        have HB2 := keep (HB.out.keep_ hbw2)
        clear ho2 HEn
        cases okb with
        | false =>
          have hno := hfin.out.2 (fun h => by cases h.1)
          have HNO := keep hno
          clear hno hfin
          go_wp2_with fail
          refine bodyPost_ret (v := .tuple #[.slice none 0 0, .int .i64 22]) (by simp [results, Try.results29, go_sem]) rfl ?_
          exact .inr ⟨HNO.out, rfl, hbw2⟩
        | true =>
          by_cases hz0 : z = 0
          · subst hz0
            go_wp2_with fail
            refine (bytesEqual_any v2 v LL b _ _ _ HV2.out HB2.out).mono ?_
            rintro e W3 ⟨rfl, rfl⟩
            by_cases hlb : LL = b
            · have hP := keep (hfin.out.1 (by first | exact ⟨rfl, rfl, hlb⟩ | exact ⟨trivial, trivial, hlb⟩ | simpa using hlb))
              have hd : decide (LL = b) = true := by simpa using hlb
              rw [hd]
              clear hlb hd hfin
              go_wp2_with fail
              refine bodyPost_ret (v := .tuple #[.slice Ao o.length co, .int .i64 0]) (by simp [results, Try.results29, go_sem]) rfl ?_
              exact .inl ⟨o, _, hP.out, rfl, HOW.out.kept (grownBy_of_below hb2 none) (by cases hv : Value.ownBlock (.slice Ao o.length co) <;> simp), hbw2⟩
            · have hP := keep (hfin.out.2 (fun h => hlb h.2.2))
              have hd : decide (LL = b) = false := by simpa using hlb
              rw [hd]
              clear hlb hd hfin
              go_wp2_with fail
              refine bodyPost_ret (v := .tuple #[.slice none 0 0, .int .i64 22]) (by simp [results, Try.results29, go_sem]) rfl ?_
              exact .inr ⟨hP.out, rfl, hbw2⟩
          · have hP := keep (hfin.out.2 (fun h => hz0 h.2.1))
            have hd : (z != 0) = true := by simpa using hz0
            clear hz0 hfin
            go_wp2_with fail
            refine bodyPost_ret (v := .tuple #[.slice none 0 0, .int .i64 22]) (by simp [results, Try.results29, go_sem]) rfl ?_
            exact .inr ⟨hP.out, rfl, hbw2⟩
end Go.Proofs.Ytihimbmbhmgjoaa
