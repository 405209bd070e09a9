/- The contract of the reference's Encode. -/
import Derived.Test.YtkjhnipjhefndaaEnc
import Derived.Test.YtkjhnipjhefndaaRefCheck
namespace Go.Proofs.Ytkjhnipjhefndaa
open Go.RowKit

set_option maxHeartbeats 4000000 in
set_option maxRecDepth 100000 in
theorem refEncode_any (m : Man) (vS vM vT vE : Value) (w : World) (hL : Lies w (lt w.heap.size) m vS vM vT vE) (hsm : Small m) (hT : (encM m).length + 4 ≤ 140737488355328) :
    Calls Try.prog 18 #[.agg (manCells m vS vM vT vE)] w (EncRes w m) := by
  obtain ⟨AS, cS, rfl, _, _⟩ := hL.s.form
  obtain ⟨AM, cM, rfl, _, _⟩ := hL.m_.form
  obtain ⟨AT, cT, rfl, _, _⟩ := hL.t.form
  obtain ⟨AE, cE, rfl, _, _⟩ := hL.e.form
  obtain ⟨W, hW⟩ : ∃ W, W = w.alloc (.cells (manCells m (.slice AS m.segs.length cS) (.slice AM m.marks.length cM) (.slice AT m.tals.length cT) (.slice AE m.exps.length cE)) 28) := ⟨_, rfl⟩
  have hba : Below w.heap.size w W := by rw [hW]; exact (Below.refl _ _).alloc (Nat.le_refl _) _
  obtain ⟨g0, hg0⟩ : ∃ g, g = w.heap.size := ⟨_, rfl⟩
  have hBg : Blk W g0 28 (manCells m (.slice AS m.segs.length cS) (.slice AM m.marks.length cM) (.slice AT m.tals.length cT) (.slice AE m.exps.length cE)) := by rw [hW, hg0]; exact Blk.new _ _ _
  have HT := keep (len_en m hT)
  have HT' := keep hT
  have HG := keep hg0
  have hLa := hL.below hba
  clear hT
  obtain ⟨r, hr⟩ : ∃ r, manErr m = r := ⟨_, rfl⟩
  have HR := keep hr
  clear hr
  have kc := conv29
  go_enter Try.func18, Try.ntmps18
  go_upto_region 1 with fail
  rw [← hW, ← hg0]
  clear hW hg0
  have hlg := hBg.lt
  obtain ⟨a0, a1, a2, a3, a4, a5, a6⟩ := hBg.cell7
  go_wp2_with fail
  refine (refCheck_any m _ _ _ _ _ hLa hsm).mono ?_
  rintro e w1 ⟨rfl, hb1⟩
  rw [HR.out]
  have hB1 := hBg.below hb1 hlg
  have hbw := bchain hba hb1
  clear a0 a1 a2 a3 a4 a5 a6
  by_cases hr0 : r = 0
  · subst hr0
    have hL1 : Lies w1 (lt w.heap.size) m (.slice AS m.segs.length cS) (.slice AM m.marks.length cM) (.slice AT m.tals.length cT) (.slice AE m.exps.length cE) :=
      ⟨hL.s.below hbw (Nat.le_refl _), hL.m_.below hbw (Nat.le_refl _), hL.t.below hbw (Nat.le_refl _), hL.e.below hbw (Nat.le_refl _)⟩
    clear hLa hL hBg hb1 hba hlg
    have hlg1 := hB1.lt
    obtain ⟨a0, a1, a2, a3, a4, a5, a6⟩ := hB1.cell7
    obtain ⟨W1, hW1⟩ : ∃ W1, W1 = w1.alloc magicO := ⟨_, rfl⟩
    have hbW : Below w1.heap.size w1 W1 := by rw [hW1]; exact (Below.refl _ _).alloc (Nat.le_refl _) _
    have hsz1 : W1.heap.size = w1.heap.size + 1 := by rw [hW1]; simp
    obtain ⟨v0, hv0⟩ : ∃ v0, v0 = Value.slice (some ⟨w1.heap.size, 0, none⟩) 4 4 := ⟨_, rfl⟩
    have hown0 : OwnB W1 w.heap.size v0 magicB := by rw [hW1, hv0]; exact (own_bytes_lit w1).base_ hbw.size
    have hset : Hid (∀ k, Oset v0 k → w1.heap.size ≤ k) := fun k hk => by
      rw [hv0] at hk
      have e : some w1.heap.size = some k := hk
      injection e with e
      omega
    have HW1 := keep hW1
    have HV0 := keep hv0
    have HS1 := keep hsz1
    clear hW1 hv0 hsz1
    have hM := hB1.below hbW hlg1
    have hL2 : Lies W1 (lt w.heap.size) m (.slice AS m.segs.length cS) (.slice AM m.marks.length cM) (.slice AT m.tals.length cT) (.slice AE m.exps.length cE) :=
      ⟨hL1.s.below hbW hbw.size, hL1.m_.below hbW hbw.size, hL1.t.below hbW hbw.size, hL1.e.below hbW hbw.size⟩
    have hbw2 := bchain hbw hbW
    have hg0 : Hid (¬ Oset v0 g0) := fun hs => by have := hset.out _ hs; omega
    have hold : Hid (∀ b, lt w.heap.size b → b < W1.heap.size ∧ ¬ Oset v0 b) := fun b hb => by
      have h1 : b < w.heap.size := hb
      have h2 := hbw.size
      have h3 := hbw2.size
      exact ⟨by omega, fun hs => by have := hset.out b hs; omega⟩
    have hzW := keep hbw2.size
    have hdr : Hid (∀ {wa : World} {va : Value} {la : List UInt8}, Put1 W1 w.heap.size v0 va la wa → Blk wa g0 28 (manCells m (.slice AS m.segs.length cS) (.slice AM m.marks.length cM) (.slice AT m.tals.length cT) (.slice AE m.exps.length cE)) ∧
        Lies wa (lt w.heap.size) m (.slice AS m.segs.length cS) (.slice AM m.marks.length cM) (.slice AT m.tals.length cT) (.slice AE m.exps.length cE) ∧ w.heap.size ≤ wa.heap.size ∧ (∀ b, lt w.heap.size b → b < wa.heap.size ∧ ¬ Oset va b)) := fun hp => by
      refine ⟨hM.off hp.f hg0.out, hL2.off hp.f hold.out, Nat.le_trans hzW.out hp.f.size, fun b hb => ?_⟩
      have h1 := hold.out b hb
      refine ⟨Nat.lt_of_lt_of_le h1.1 hp.f.size, fun hs => ?_⟩
      rcases hp.s b hs with h | h
      · exact h1.2 h
      · omega
    clear hL1 hB1 hbw hbW hlg1
    have hMx := hM
    rw [HW1.out] at hMx
    obtain ⟨b0, b1, b2, b3, b4, b5, b6⟩ := hMx.cell7
    clear hMx a0 a1 a2 a3 a4 a5 a6
    go_wp2_with fail
    rw [← HV0.out, ← HW1.out]
    refine (refInts_lit w.heap.size v0 magicB [m.nu, m.nx, m.jo, (m.segs.length : Int)] W1 hown0 hzW.out HT.out.1 (by simp) 4 rfl _ rfl _ HS1.out.symm).mono ?_
    rintro e w2 ⟨v2, rfl, hP2⟩
    have hP2' : Put1 W1 w.heap.size v0 v2 (en1 m) w2 := hP2
    clear b0 b1 b2 b3 b4 b5 b6 hP2
    go_wp2_with fail
    go_loopw [5, 6, 7] (fun v' i _ wr => ∃ (k : Nat), i = .int .i64 k ∧ k ≤ m.segs.length ∧ Put1 W1 w.heap.size v0 v' (en1 m ++ (m.segs.take k).flatMap encS) wr) (fun _ i _ _ => m.segs.length - (intOf i).toNat)
    case atStart => exact ⟨0, rfl, Nat.zero_le _, by simpa using hP2'⟩
    case round =>
      obtain ⟨k, rfl, hk, hPk⟩ := hrel
      clear hP2'
      obtain ⟨hMk, hLk, hzk', holdk⟩ := hdr.out hPk
      obtain ⟨a0, a1, a2, a3, a4, a5, a6⟩ := hMk.cell7
      have hzk := keep hzk'
      by_cases hlt : k < m.segs.length
      · obtain ⟨b, o, rfl, hb, t0, t1, t2, t3, t4, t5, t6⟩ := segs_cells hLk.s hlt
        have hE := keep (flatMap_snoc encS m.segs k hlt)
        have hE2 := keep (flatMap_take_le encS m.segs (k + 1))
        have hblt : b < wr.heap.size := (holdk b hb).1
        generalize m.segs[k] = y at *
        have hlen : Hid ((en1 m ++ (m.segs.take k).flatMap encS).length + (encS y).length ≤ 140737488355328) := keep (by
          have h1 := HT.out.2.1
          have h2 := hE2.out
          rw [hE.out] at h2
          simp only [List.length_append] at h2 ⊢
          omega)
        have i1 : (k : Int) < (m.segs.length : Int) := by omega
        have hsm1 := hsm.s
        clear hMk hLk hzk' holdk
        go_wp2_with fail
        refine (refInts_lit w.heap.size _ _ [y.id, y.level, y.tier, y.count, y.lo, y.hi, y.size] _ (hPk.o.alloc _) (by have := hzk.out; simp; omega) hlen.out (by simp) 7 rfl _ rfl _ (by simp)).mono ?_
        rintro e w3 ⟨v3, rfl, hP3⟩
        have hP3' := hPk.trans (hP3.alloc _)
        have hP3'' : Put1 W1 w.heap.size v0 v3 (en1 m ++ (m.segs.take (k + 1)).flatMap encS) w3 := by rw [hE.out, ← List.append_assoc]; exact hP3'
        clear hP3 hP3' hPk t0 t1 t2 t3 t4 t5 t6 a0 a1 a2 a3 a4 a5 a6
        go_wp2_with fail
        go_roundw
        case rel => exact ⟨k + 1, by go_num, by omega, hP3''⟩
        case measure => simp [intOf]; omega
      · have hPk' := hPk
        rw [List.take_of_length_le (by omega)] at hPk'
        change Put1 _ _ _ _ (en2 m) _ at hPk'
        clear hPk hMk hLk hzk' holdk
        go_wp2_with fail
        refine (refInts_lit w.heap.size _ (en2 m) [(m.marks.length : Int)] wr hPk'.o hzk.out HT.out.2.2.1 (by simp) 1 rfl _ rfl _ rfl).mono ?_
        rintro e w3 ⟨v3, rfl, hP3⟩
        have hP3' : Put1 W1 w.heap.size v0 v3 (en3 m) w3 := hPk'.trans hP3
        clear hP3 hPk' a0 a1 a2 a3 a4 a5 a6
        go_wp2_with fail
        go_loopw [5, 8, 9] (fun v' i _ wr => ∃ (k : Nat), i = .int .i64 k ∧ k ≤ m.marks.length ∧ Put1 W1 w.heap.size v0 v' (en3 m ++ (m.marks.take k).flatMap encK) wr) (fun _ i _ _ => m.marks.length - (intOf i).toNat)
        case atStart => exact ⟨0, rfl, Nat.zero_le _, by simpa using hP3'⟩
        case round =>
          obtain ⟨k2, rfl, hk2, hPk⟩ := hrel
          obtain ⟨wq, rfl⟩ : ∃ wq : World, wq = wr := ⟨_, rfl⟩
          clear hP3' hzk
          obtain ⟨hMk, hLk, hzk', holdk⟩ := hdr.out hPk
          obtain ⟨a0, a1, a2, a3, a4, a5, a6⟩ := hMk.cell7
          have hzk := keep hzk'
          by_cases hlt2 : k2 < m.marks.length
          · obtain ⟨b, o, rfl, hb, t0, t1, t2⟩ := marks_cells hLk.m_ hlt2
            have hE := keep (flatMap_snoc encK m.marks k2 hlt2)
            have hE2 := keep (flatMap_take_le encK m.marks (k2 + 1))
            generalize m.marks[k2] = y at *
            have hlen : Hid ((en3 m ++ (m.marks.take k2).flatMap encK).length + (encK y).length ≤ 140737488355328) := keep (by
              have h1 := HT.out.2.2.2.1
              have h2 := hE2.out
              rw [hE.out] at h2
              simp only [List.length_append] at h2 ⊢
              omega)
            have i1 : (k2 : Int) < (m.marks.length : Int) := by omega
            have hsm1 := hsm.m_
            clear hMk hLk hzk' holdk
            go_wp2_with fail
            refine (refInts_lit w.heap.size _ _ [y.host, y.file, y.off] _ (hPk.o.alloc _) (by have := hzk.out; simp; omega) hlen.out (by simp) 3 rfl _ rfl _ (by simp)).mono ?_
            rintro e w6 ⟨v6, rfl, hP6⟩
            have hP6' := hPk.trans (hP6.alloc _)
            have hP6'' : Put1 W1 w.heap.size v0 v6 (en3 m ++ (m.marks.take (k2 + 1)).flatMap encK) w6 := by rw [hE.out, ← List.append_assoc]; exact hP6'
            clear hP6 hP6' hPk t0 t1 t2 a0 a1 a2 a3 a4 a5 a6
            go_wp2_with fail
            go_roundw
            case rel => exact ⟨k2 + 1, by go_num, by omega, hP6''⟩
            case measure => simp [intOf]; omega
          · have hPk' := hPk
            rw [List.take_of_length_le (by omega)] at hPk'
            change Put1 _ _ _ _ (en4 m) _ at hPk'
            clear hPk hMk
            have hPd : Put1 W1 w.heap.size v0 _ (en4 m) wq.drew := ⟨hPk'.o.drew, hPk'.f.drew, hPk'.s⟩
            obtain ⟨hMd, hLd, hzd', holdd⟩ := hdr.out hPd
            have hzd := keep hzd'
            have HLt := keep hLd.t
            have HOd := keep holdd
            have q5 := keep HT.out.2.2.2.2.1
            have q6 := keep HT.out.2.2.2.2.2
            have HST := keep hsm.t
            have HSE := keep hsm.e
            have hown := hPd.o
            have hA1 : Hid (∀ w3 v3, Put1 wq.drew w.heap.size _ v3 (en5 m) w3 → Put1 W1 w.heap.size v0 v3 (en5 m) w3 ∧ (w3.cell? ⟨g0, 5, none⟩ = some (.slice AT m.tals.length cT) ∧ w3.cell? ⟨g0, 6, none⟩ = some (.slice AE m.exps.length cE)) ∧ Sl w3 (lt w.heap.size) 3 (.slice AE m.exps.length cE) m.exps.length (m.exps.flatMap Tl.vals) ∧ w.heap.size ≤ w3.heap.size ∧ (∀ b, lt w.heap.size b → b < w3.heap.size ∧ ¬ Oset v3 b)) := fun w3 v3 hp => by
              have hp' := hPd.trans hp
              obtain ⟨x1, x2, x3, x4⟩ := hdr.out hp'
              exact ⟨hp', x1.cell7.2.2.2.2.2, x2.e, x3, x4⟩
            have hA2 : Hid (∀ w3 w4 v3 v4, Put1 W1 w.heap.size v0 v3 (en5 m) w3 → Put1 w3 w.heap.size v3 v4 (encM m) w4 → Put1 W1 w.heap.size v0 v4 (encM m) w4 ∧ (w4.cell? ⟨g0, 5, none⟩ = some (.slice AT m.tals.length cT) ∧ w4.cell? ⟨g0, 6, none⟩ = some (.slice AE m.exps.length cE))) := fun w3 w4 v3 v4 h1 h2 => by
              have hp' := h1.trans h2
              exact ⟨hp', (hdr.out hp').1.cell7.2.2.2.2.2⟩
            clear hLk hzk' holdk hMd hLd hzd' holdd hPk' hPd hsm
            go_upto_region 16 with fail
            go_region_held3 (fun w' : World => w'.cell? ⟨g0, 5, none⟩ = some (.slice AT m.tals.length cT) ∧ w'.cell? ⟨g0, 6, none⟩ = some (.slice AE m.exps.length cE)) (first | exact ⟨a5, a6⟩ | exact p1 | exact p2)
              (first
                | (go_at_call 50; (with_reducible refine (putTals_any w.heap.size _ (en4 m) m.tals _ _ _ hown hzd.out HLt.out HOd.out q5.out HST.out).mono ?_); rintro e w3 ⟨v3, rfl, hP3⟩; obtain ⟨hP3', p1, hE3, hz3, ho3⟩ := hA1.out _ _ hP3)
                | (go_at_call 50; (with_reducible refine (putTals_any w.heap.size _ (en5 m) m.exps _ _ _ hP3'.o hz3 hE3 ho3 q6.out HSE.out).mono ?_); rintro e w4 ⟨v4, rfl, hP4⟩; obtain ⟨hP4', p2⟩ := hA2.out _ _ _ _ hP3' hP4)
                | fail)
            all_goals
              have hlM := keep hP4'.o.len
              have hcl := crc_lt (encM m)
              have hz4 := keep (Nat.le_trans hzW.out hP4'.f.size)
              have hf19 : ∀ v5 w6, Put1 w4 w.heap.size v4 v5 (encM m ++ crcB (crc (encM m))) w6 → EncRes w m (.returned (.tuple #[v5, .int .i64 0])) w6 := fun v5 w6 h1 => by
                have h2 := hP4'.trans h1
                refine ⟨v5, by rw [HR.out], ?_, ?_⟩
                · unfold encOut
                  rw [if_pos HR.out]
                  exact h2.o
                · exact hbw2.trans (h2.f.below hbw2.size (fun i hi => (hold.out i hi).2))
              have HF := keep hf19
              clear hf19 hP3 hP4 p1 p2 hE3 ho3 hz3 hP3'
              go_wp2_with fail
              refine (refCrc_any v4 (encM m) _ _ hP4'.o.slt hlM.out).mono ?_
              rintro e w5 ⟨rfl, rfl⟩
              generalize crc (encM m) = cc at *
              go_wp2_with fail
              refine (put4_any w.heap.size v4 (encM m) cc w4 hP4'.o hz4.out hcl HT'.out).mono ?_
              rintro e w6 ⟨v6, rfl, hP6⟩
              have hfin := HF.out _ _ hP6
              clear hP6
              go_wp2_with fail
              go_ret2
              exact hfin
  · have HN : Hid (EncRes w m (.returned (.tuple #[.slice none 0 0, .int .i64 r])) w1) := by
      refine ⟨_, by rw [HR.out], ?_, hbw⟩
      unfold encOut
      rw [if_neg (by rw [HR.out]; exact hr0)]
      exact OwnB.nil _ _
    go_wp2_with fail
    go_ret2
    exact HN.out
end Go.Proofs.Ytkjhnipjhefndaa
