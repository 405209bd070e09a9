/- The reference's refuse: the error of a change. -/
import Derived.Test.YtgegmefnbkcdkaaRfF
import Derived.Test.YtgegmefnbkcdkaaRegs
namespace Go.Proofs.Ytgegmefnbkcdkaa
open Go.RowKit
def fr138 (x : Nat → Value) : Array Value := #[x 0, x 1, x 2, x 3, x 4, x 5, x 6, x 7, x 8, x 9, x 10, x 11, x 12, x 13, x 14, x 15, x 16, x 17, x 18, x 19, x 20, x 21, x 22, x 23, x 24, x 25, x 26, x 27, x 28, x 29, x 30, x 31, x 32, x 33, x 34, x 35, x 36, x 37, x 38, x 39, x 40, x 41, x 42, x 43, x 44, x 45, x 46, x 47, x 48, x 49, x 50, x 51, x 52, x 53, x 54, x 55, x 56, x 57, x 58, x 59, x 60, x 61, x 62, x 63, x 64, x 65, x 66, x 67, x 68, x 69, x 70, x 71, x 72, x 73, x 74, x 75, x 76, x 77, x 78, x 79, x 80, x 81, x 82, x 83, x 84, x 85, x 86, x 87, x 88, x 89, x 90, x 91, x 92, x 93, x 94, x 95, x 96, x 97, x 98, x 99, x 100, x 101, x 102, x 103, x 104, x 105, x 106, x 107, x 108, x 109, x 110, x 111, x 112, x 113, x 114, x 115, x 116, x 117, x 118, x 119, x 120, x 121, x 122, x 123, x 124, x 125, x 126, x 127, x 128, x 129, x 130, x 131, x 132, x 133, x 134, x 135, x 136, x 137]
theorem err_of (d : PD) (c : PC) : (doP d c).1 = if c.kind < 1 ∨ 8 < c.kind then 2 else if badP c = true then 6 else (stepP d c).1 := by
  unfold doP
  split
  · rfl
  · split
    · rfl
    · split
      · rename_i h; exact h.symm
      · rfl
theorem has_file {fs : FS} (hi : Inv fs) {s : ByteArray} (h : hasP fs.N s = true) : ∃ (k : Nat) (hk : k < fs.F.length), lookP fs.N s = some fs.F[k].ino ∧ fileP fs.p s = some fs.F[k].p := by
  unfold hasP at h
  cases hl : lookP fs.N s with
  | none => rw [hl] at h; cases h
  | some i =>
    have hf := hl
    unfold lookP at hf
    cases e : fs.N.find? fun n => decide (n.nm = s) with
    | none => rw [e] at hf; cases hf
    | some n =>
      rw [e] at hf
      have hn := List.mem_of_find?_eq_some e
      obtain ⟨t, ht, hti⟩ := hi.a n hn
      obtain ⟨k, hk, rfl⟩ := List.getElem_of_mem ht
      have hni : n.ino = i := by simpa using hf
      refine ⟨k, hk, by rw [hti, hni], ?_⟩
      unfold fileP
      show (lookP fs.N s).bind (getP (fs.F.map Fi.p)) = _
      rw [hl]
      show getP (fs.F.map Fi.p) i = _
      rw [← hni, ← hti]
      exact get_at hi.f hk
theorem no_file {fs : FS} {s : ByteArray} (h : hasP fs.N s = false) : lookP fs.N s = none ∧ fileP fs.p s = none := by
  unfold hasP at h
  have : lookP fs.N s = none := by simpa using h
  refine ⟨this, ?_⟩
  unfold fileP
  show (lookP fs.N s).bind _ = _
  rw [this]; rfl
set_option maxHeartbeats 8000000 in
set_option maxRecDepth 100000 in
theorem refRefuse_any (vN vF vO : Value) (fs : FS) (c : Ch) (w : World) (h : FsT w vN vF vO fs) (hi : Inv fs) (ho : fs.O.length ≤ 800) (hc : ChOk w c) :
    Calls Try.prog 30 #[.agg #[vN, vF, vO], .agg (chV c)] w fun x w' => x = .returned (.int .i64 (doP fs.p c.p).1) ∧ Below w.heap.size w w' := by
  obtain ⟨A1, c1, rfl, _, _⟩ := h.n.form
  obtain ⟨A2, c2, rfl, _, _⟩ := h.f.form
  obtain ⟨A3, c3, rfl, _, _⟩ := h.o.form
  obtain ⟨A, cc, hv, _, _⟩ := Sl.form hc.r
  obtain ⟨kind, name, dst, dv, data, n⟩ := c
  simp only at hv
  subst hv
  have hs1 := hc.s
  have hs2 := hc.t
  have hdl := hc.d
  have hcn := hc.n
  simp only at hs1 hs2 hdl hcn
  simp only [chV]
  have hcnt := hi.count
  have hbn := hi.b
  obtain ⟨W, hW⟩ : ∃ W, W = ((w.alloc (.cells #[.slice A1 fs.N.length c1, .slice A2 fs.F.length c2, .slice A3 fs.O.length c3] 40)).alloc (.cells #[.int .i64 kind, .string name, .string dst, .slice A data.length cc, .int .i64 n] 46)) := ⟨_, rfl⟩
  have hb : Below w.heap.size w W := hW ▸ ((Below.refl _ w).alloc (Nat.le_refl _) _).alloc (by simp) _
  have hF : Blk W w.heap.size 40 #[.slice A1 fs.N.length c1, .slice A2 fs.F.length c2, .slice A3 fs.O.length c3] := hW ▸ (Blk.new w _ _).alloc _
  have hX : Blk W (w.heap.size + 1) 46 #[.int .i64 kind, .string name, .string dst, .slice A data.length cc, .int .i64 n] := hW ▸ Blk.new_at (by simp)
  have HT := keep (h.up hb)
  have HB := keep hb
  have HF := keep hF
  have HX := keep hX
  have HI := keep hi
  have HERR : Hid ((doP fs.p (Ch.p ⟨kind, name, dst, .slice A data.length cc, data, n⟩)).1 = if kind < 1 ∨ 8 < kind then 2 else if badNm ⟨kind, name, dst, .slice A data.length cc, data, n⟩ = true then 6 else (stepP fs.p ⟨kind, name, dst, data, n⟩).1) := keep (err_of _ _)
  obtain ⟨x0, x1, x2, x3, x4⟩ := hX.cell5
  clear h hb hF hX hi hc x3 x4
  go_enter Try.func30, Try.ntmps30
  by_cases hk1 : kind < 1
  · have d1 : decide (kind < 1) = true := decide_eq_true hk1
    have HK := keep hk1
    clear hk1 x1 x2
    go_upto_region 1 with fail
    rw [← hW]
    clear hW
    go_wp2_with fail
    go_ret
    refine ⟨?_, HB.out⟩
    show Ending.returned (.int .i64 2) = _
    rw [HERR.out]
    rw [if_pos (.inl HK.out)]
  · have d1 : decide (kind < 1) = false := decide_eq_false hk1
    by_cases hk8 : 8 < kind
    · have d2 : decide (8 < kind) = true := decide_eq_true hk8
      have HK := keep hk8
      clear hk1 hk8 x1 x2
      go_upto_region 1 with fail
      rw [← hW]
      clear hW
      go_wp2_with fail
      go_ret
      refine ⟨?_, HB.out⟩
      show Ending.returned (.int .i64 2) = _
      rw [HERR.out]
      rw [if_pos (.inr HK.out)]
    · have d2 : decide (8 < kind) = false := decide_eq_false hk8
      have HR : Hid (1 ≤ kind ∧ kind ≤ 8) := keep (by omega)
      clear hk1 hk8
      go_upto_region 1 with fail
      rw [← hW]
      clear hW
      go_upto_region 3 with fail
      go_cut [37] (fun q wd => q = .bool (badNm ⟨kind, name, dst, .slice A data.length cc, data, n⟩) ∧ wd = W)
      case first =>
        go_wp2_with fail
        refine (refFileName_any name _ hs1).mono ?_
        rintro e w1 ⟨rfl, rfl⟩
        cases hv1 : vld name with
        | false =>
          have HV1 := keep hv1
          clear hv1
          go_wp2_with fail
          go_meet
          case rel => exact ⟨by unfold badNm; rw [HV1.out]; rfl, rfl⟩
        | true =>
          have HV1 := keep hv1
          clear hv1
          by_cases h45 : kind = 4 ∨ kind = 5
          · have hE : (kind == 4 || kind == 5) = true := by
              rcases h45 with h | h
              · rw [h]; rfl
              · rw [h]; rfl
            have HE := keep hE
            clear hE
            rcases h45 with rfl | rfl
            all_goals
              go_wp2_with fail
              refine (refFileName_any dst _ hs2).mono ?_
              rintro e w2 ⟨rfl, rfl⟩
              obtain ⟨q, hq⟩ : ∃ q, vld dst = q := ⟨_, rfl⟩
              rw [hq]
              have HQ := keep hq
              clear hq
              cases q
              all_goals
                go_wp2_with fail
                go_meet
                case rel => exact ⟨by unfold badNm; rw [HV1.out, HQ.out]; rfl, rfl⟩
          · have n4 : (kind == 4) = false := beq_eq_false_iff_ne.2 (fun e => h45 (.inl e))
            have n5 : (kind == 5) = false := beq_eq_false_iff_ne.2 (fun e => h45 (.inr e))
            have hE : (kind == 4 || kind == 5) = false := by rw [n4, n5]; rfl
            have HE := keep hE
            clear hE h45
            go_wp2_with fail
            go_meet
            case rel => exact ⟨by unfold badNm; rw [HV1.out, HE.out]; rfl, rfl⟩
      case rest =>
        obtain ⟨rfl, rfl⟩ := hcut
        obtain ⟨bq, hbq⟩ : ∃ q, badNm ⟨kind, name, dst, .slice A data.length cc, data, n⟩ = q := ⟨_, rfl⟩
        rw [hbq]
        have HBQ := keep hbq
        clear hbq
        cases bq with
        | true =>
          clear x0 x1 x2
          go_wp2_with fail
          go_ret
          refine ⟨?_, HB.out⟩
          show Ending.returned (.int .i64 6) = _
          rw [HERR.out]
          rw [if_neg (by have := HR.out; omega), if_pos HBQ.out]
        | false =>
          have HERR : Hid ((doP fs.p (Ch.p ⟨kind, name, dst, .slice A data.length cc, data, n⟩)).1 = (stepP fs.p ⟨kind, name, dst, data, n⟩).1) := keep (by rw [HERR.out, if_neg (by have := HR.out; omega), if_neg (by rw [HBQ.out]; simp)])
          obtain ⟨f0, f1, f2⟩ := HF.out.cell3
          have hmN : fs.N.length ≤ 1000000 := by omega
          have hmF : fs.F.length ≤ 1000000 := by omega
          go_wp2_with fail
          refine (refLookup_any _ _ _ fs name _ HT.out hmN).mono ?_
          rintro e w1 ⟨rfl, hb1⟩
          obtain ⟨q1, hq1⟩ : ∃ q, hasP fs.N name = q := ⟨_, rfl⟩
          obtain ⟨i1, hi1⟩ : ∃ i, (lookP fs.N name).getD 0 = i := ⟨_, rfl⟩
          rw [hq1, hi1]
          have HQ1 := keep hq1
          have HI1 := keep hi1
          have HT1 := keep (HT.out.up hb1)
          have HF1 := keep (HF.out.below hb1 HF.out.lt)
          have HX1 := keep (HX.out.below hb1 HX.out.lt)
          have HB1 := keep (bchain HB.out hb1)
          clear hq1 hi1 hb1 f0 f1 f2 x0 x1 x2
          obtain ⟨f0, f1, f2⟩ := HF1.out.cell3
          obtain ⟨x0, x1, x2, x3, x4⟩ := HX1.out.cell5
          go_wp2_with fail
          refine (refLookup_any _ _ _ fs dst _ HT1.out hmN).mono ?_
          rintro e w2 ⟨rfl, hb2⟩
          obtain ⟨q2, hq2⟩ : ∃ q, hasP fs.N dst = q := ⟨_, rfl⟩
          obtain ⟨i2, hi2⟩ : ∃ i, (lookP fs.N dst).getD 0 = i := ⟨_, rfl⟩
          rw [hq2, hi2]
          have HQ2 := keep hq2
          have HT2 := keep (HT1.out.up hb2)
          have HF2 := keep (HF1.out.below hb2 HF1.out.lt)
          have HX2 := keep (HX1.out.below hb2 HX1.out.lt)
          have HB3 := keep (bchain HB1.out hb2)
          clear hq2 hi2 hb2 f0 f1 f2 x0 x1 x2 x3 x4 HT HF HX HB HT1 HF1 HX1 HB1
          obtain ⟨f0, f1, f2⟩ := HF2.out.cell3
          obtain ⟨x0, x1, x2, x3, x4⟩ := HX2.out.cell5
          by_cases k1 : kind = 1
          · subst k1
            cases q1 with
            | true =>
              go_wp2_with fail
              go_ret
              refine ⟨?_, HB3.out⟩
              show Ending.returned (.int .i64 11) = _
              rw [HERR.out]
              unfold stepP; simp [FS.p, HQ1.out]
            | false =>
              by_cases h40 : 40 ≤ (fs.N.length : Int)
              · have d4 : decide (40 ≤ (fs.N.length : Int)) = true := decide_eq_true h40
                have H40 : Hid (40 ≤ fs.N.length) := keep (by omega)
                clear h40
                go_wp2_with fail
                go_ret
                refine ⟨?_, HB3.out⟩
                show Ending.returned (.int .i64 4) = _
                rw [HERR.out]
                unfold stepP; simp [FS.p, HQ1.out, H40.out]
              · have d4 : decide (40 ≤ (fs.N.length : Int)) = false := decide_eq_false h40
                have H40 : Hid (¬ 40 ≤ fs.N.length) := keep (by omega)
                clear h40
                by_cases h6 : 60000 < (data.length : Int)
                · have d6 : decide (60000 < (data.length : Int)) = true := decide_eq_true h6
                  have H6 : Hid (60000 < data.length) := keep (by omega)
                  clear h6
                  go_wp2_with fail
                  go_ret
                  refine ⟨?_, HB3.out⟩
                  show Ending.returned (.int .i64 3) = _
                  rw [HERR.out]
                  unfold stepP; simp [FS.p, HQ1.out, H40.out, H6.out]
                · have d6 : decide (60000 < (data.length : Int)) = false := decide_eq_false h6
                  have H6 : Hid (¬ 60000 < data.length) := keep (by omega)
                  clear h6
                  go_wp2_with fail
                  go_ret
                  refine ⟨?_, HB3.out⟩
                  show Ending.returned (.int .i64 0) = _
                  rw [HERR.out]
                  unfold stepP; simp [FS.p, HQ1.out, H40.out, H6.out]
          · have n1 : (kind == 1) = false := beq_eq_false_iff_ne.2 k1
            have HK1 := keep k1
            clear k1
            cases q1 with
            | false =>
              have HNF := keep (no_file HQ1.out).2
              go_wp2_with fail
              go_ret
              refine ⟨?_, HB3.out⟩
              show Ending.returned (.int .i64 12) = _
              rw [HERR.out]
              have hk := HR.out
              have hk1 := HK1.out
              have hnf := HNF.out
              have hq := HQ1.out
              unfold stepP
              simp only [FS.p] at hnf ⊢
              by_cases k7 : kind = 7
              · subst k7; simp [hq]
              · by_cases k8 : kind = 8
                · subst k8; simp [hq]
                · simp [hk1, k7, k8, hnf]
            | true =>
              obtain ⟨k, hk, hlk, hfl⟩ := has_file HI.out HQ1.out
              have hi1 : fs.F[k].ino = i1 := by rw [← HI1.out, hlk]; rfl
              obtain ⟨FA, FC, hfd⟩ := (HT2.out.d _ (List.getElem_mem hk)).form
              obtain ⟨T, hT⟩ : ∃ T, fs.F[k] = T := ⟨_, rfl⟩
              rw [hT] at hi1 hfl hfd
              have HAT := keep (refAt_any _ _ _ fs i1 _ (HT2.out.up (below_drewN (Below.refl _ w2) 1)) hmF)
              have HTI := keep HT2.out.f
              have HFL := keep hfl
              have HUN : Hid (∀ j, (hj : j < fs.F.length) → fs.F[j].ino = i1 → j = k) := keep (fun j hj he => by
                rcases Nat.lt_trichotomy j k with hlt | rfl | hgt
                · have := List.pairwise_iff_getElem.1 HI.out.f j k hj hk hlt
                  rw [hT] at this
                  omega
                · rfl
                · have := List.pairwise_iff_getElem.1 HI.out.f k j hk hj hgt
                  rw [hT] at this
                  omega)
              obtain ⟨tino, tdv, tdata, tcp, twh, tleft⟩ := T
              simp only at hfd hi1
              subst hfd hi1
              obtain ⟨b, o, rfl, _, n0, n1', n2, n3, n4⟩ := fi_cells HT2.out.f hk
              rw [hT] at n0 n1' n2 n3 n4
              simp only at n0 n1' n2 n3 n4
              have HT' := keep hT
              have i0 : (0 : Int) ≤ (k : Int) := by omega
              have i1 : (k : Int) < (fs.F.length : Int) := by omega
              clear hfl hlk hT
              have HCL : Hid (∀ wx, Below w2.heap.size w2 wx → wx.cell? ⟨b, o + k * 5, none⟩ = some (.int .i64 tino) ∧ wx.cell? ⟨b, o + k * 5 + 1, none⟩ = some (.slice FA tdata.length FC) ∧ wx.cell? ⟨b, o + k * 5 + 2, none⟩ = some (.bool tcp) ∧ wx.cell? ⟨b, o + k * 5 + 3, none⟩ = some (.bool twh) ∧ wx.cell? ⟨b, o + k * 5 + 4, none⟩ = some (.int .i64 tleft) ∧ wx.cell? ⟨w.heap.size, 1, none⟩ = some (.slice (some ⟨b, o, none⟩) fs.F.length c2)) := keep (fun wx hx => by
                have hbl : b < w2.heap.size := by have := World.block_lt_of_cell? w2 _ n0; simpa using this
                exact ⟨(hx.cell (p := ⟨b, o + k * 5, none⟩) hbl).trans n0, (hx.cell (p := ⟨b, o + k * 5 + 1, none⟩) hbl).trans n1', (hx.cell (p := ⟨b, o + k * 5 + 2, none⟩) hbl).trans n2, (hx.cell (p := ⟨b, o + k * 5 + 3, none⟩) hbl).trans n3, (hx.cell (p := ⟨b, o + k * 5 + 4, none⟩) hbl).trans n4, (hx.cell (p := ⟨w.heap.size, 1, none⟩) HF2.out.lt).trans f1⟩)
              have HATK : Hid (∀ wa, Below w2.heap.size w2 wa → Calls Try.prog 33 #[.agg #[.slice A1 fs.N.length c1, .slice (some ⟨b, o, none⟩) fs.F.length c2, .slice A3 fs.O.length c3], .int .i64 tino] wa fun x w' => x = .returned (.int .i64 (k : Int)) ∧ Below wa.heap.size wa w') := keep (fun wa hwa => (refAt_any _ _ _ fs tino wa (HT2.out.up hwa) hmF).mono fun x w' ⟨r, he, hr, hb⟩ => by
                rcases hr with ⟨_, hno⟩ | ⟨j, hj, hrj, hij, _⟩
                · exact absurd (by rw [HT'.out]) (hno _ (List.getElem_mem hk))
                · rw [he, hrj, HUN.out j hj hij]
                  exact ⟨rfl, hb⟩)
              clear HAT n0 n1' n2 n3 n4
              go_wp2_with fail
              rename_i K' hK'
              have HK := keep hK'
              clear hK' f0 f1 f2 x0 x1 x2 x3 x4
              refine reg_start 138 fr138 (fun _ => rfl) _ rfl fun x0 hx0 => ?_
              have y2 : x0 2 = .pointer (some ⟨w.heap.size, 0, none⟩) := hx0 2
              have y3 : x0 3 = .pointer (some ⟨w.heap.size + 1, 0, none⟩) := hx0 3
              have y4 : x0 4 = .int .i64 0 := hx0 4
              have y5 : x0 5 = .int .i64 tino := hx0 5
              have y6 : x0 6 = .bool true := hx0 6
              have y8 : x0 8 = .bool q2 := hx0 8
              refine wp_regU (by kernel_rfl) 138 (fun i => if i = 8 then 7 else i) (by kernel_rfl) fr138 (fun _ => rfl) x0 (Below w2.heap.size w2) (fun i a b => if i = 8 then ∃ g, a.grownBy b (some g) ∧ ∃ a0 a1 a2 a3 a4 : Value, Blk b g 72 #[a0, a1, a2, a3, a4] else Below a.heap.size a b) (fun i v u wa => match i with
                  | 0 => v = .pointer (some ⟨w.heap.size, 1, none⟩)
                  | 1 => v = .slice (some ⟨b, o, none⟩) fs.F.length c2
                  | 2 => v = .agg #[.slice A1 fs.N.length c1, .slice (some ⟨b, o, none⟩) fs.F.length c2, .slice A3 fs.O.length c3]
                  | 3 => v = .int .i64 tino
                  | 4 => v = .int .i64 (k : Int)
                  | 5 => v = .pointer (some ⟨b, o + k * 5, none⟩)
                  | 6 => v = .agg #[.int .i64 tino, .slice FA tdata.length FC, .bool tcp, .bool twh, .int .i64 tleft]
                  | 7 => ∃ g, v = .pointer (some ⟨g, 0, none⟩) ∧ w2.heap.size ≤ g ∧ ∃ a0 a1 a2 a3 a4 : Value, Blk wa g 72 #[a0, a1, a2, a3, a4]
                  | 8 => ∃ g, u = .pointer (some ⟨g, 0, none⟩) ∧ Blk wa g 72 #[.int .i64 tino, .slice FA tdata.length FC, .bool tcp, .bool twh, .int .i64 tleft]
                  | _ => True) (by
                    intro i j v u wa wb hne hmn hp
                    match j, hp with
                    | 0, hp => exact hp
                    | 1, hp => exact hp
                    | 2, hp => exact hp
                    | 3, hp => exact hp
                    | 4, hp => exact hp
                    | 5, hp => exact hp
                    | 6, hp => exact hp
                    | 7, hp =>
                      obtain ⟨g, h1, h2, a0, a1, a2, a3, a4, hb⟩ := hp
                      refine ⟨g, h1, h2, ?_⟩
                      by_cases h8 : i = 8
                      · rw [if_pos h8] at hmn
                        obtain ⟨g', hgr, b0, b1, b2, b3, b4, hb'⟩ := hmn
                        by_cases e : g = g'
                        · subst e
                          exact ⟨_, _, _, _, _, hb'⟩
                        · exact ⟨_, _, _, _, _, hb.grown hgr (fun e' => e (by injection e'))⟩
                      · rw [if_neg h8] at hmn
                        exact ⟨_, _, _, _, _, hb.below hmn hb.lt⟩
                    | 8, hp =>
                      rw [if_neg hne] at hmn
                      obtain ⟨g, h1, hb⟩ := hp
                      exact ⟨g, h1, hb.below hmn hb.lt⟩
                    | _ + 9, hp => trivial) (below_drewN (Below.refl _ _) 1) ?step ?skip ?done
              case step =>
                intro i o ho x wa K hW hout hdep hgd hK
                have E2 : Hid (x 2 = .pointer (some ⟨w.heap.size, 0, none⟩)) := keep ((hout 2 (by decide)).trans y2)
                have E3 : Hid (x 3 = .pointer (some ⟨w.heap.size + 1, 0, none⟩)) := keep ((hout 3 (by decide)).trans y3)
                have E4 : Hid (x 4 = .int .i64 0) := keep ((hout 4 (by decide)).trans y4)
                have E5 : Hid (x 5 = .int .i64 tino) := keep ((hout 5 (by decide)).trans y5)
                have E6 : Hid (x 6 = .bool true) := keep ((hout 6 (by decide)).trans y6)
                have E8 : Hid (x 8 = .bool q2) := keep ((hout 8 (by decide)).trans y8)
                clear hout hx0 y2 y3 y4 y5 y6 y8
                have hi : i < 9 := (Array.getElem?_eq_some_iff.1 ho).1
                have hcase : i = 0 ∨ i = 1 ∨ i = 2 ∨ i = 3 ∨ i = 4 ∨ i = 5 ∨ i = 6 ∨ i = 7 ∨ i = 8 := by omega
                clear hi
                rcases hcase with rfl | rfl | rfl | rfl | rfl | rfl | rfl | rfl | rfl
                · -- operation 0
                  simp only [List.getElem?_toArray, List.getElem?_cons_zero, Option.some.injEq] at ho
                  subst ho
                  clear hdep hgd
                  unfold fr138
                  rw [E2.out]
                  go_simp
                  have hk : K { tmps := #[x 0, x 1, x 2, x 3, x 4, x 5, x 6, x 7, x 8, x 9, x 10, x 11, x 12, x 13, x 14, x 15, x 16, x 17, x 18, x 19, x 20, x 21, x 22, x 23, x 24, x 25, x 26, x 27, x 28, x 29, x 30, x 31, x 32, x 33, x 34, x 35, x 36, x 37, x 38, x 39, x 40, x 41, x 42, x 43, x 44, x 45, x 46, x 47, x 48, x 49, x 50, x 51, x 52, x 53, x 54, x 55, x 56, x 57, x 58, x 59, x 60, x 61, x 62, x 63, x 64, x 65, x 66, x 67, x 68, .pointer (some ⟨w.heap.size, 1, none⟩), x 70, x 71, x 72, x 73, x 74, x 75, x 76, x 77, x 78, x 79, x 80, x 81, x 82, x 83, x 84, x 85, x 86, x 87, x 88, x 89, x 90, x 91, x 92, x 93, x 94, x 95, x 96, x 97, x 98, x 99, x 100, x 101, x 102, x 103, x 104, x 105, x 106, x 107, x 108, x 109, x 110, x 111, x 112, x 113, x 114, x 115, x 116, x 117, x 118, x 119, x 120, x 121, x 122, x 123, x 124, x 125, x 126, x 127, x 128, x 129, x 130, x 131, x 132, x 133, x 134, x 135, x 136, x 137], defers := [] } wa := hK _ _ hW (by rw [if_neg (by decide)]; exact Below.refl _ _) rfl
                  rw [E2.out] at hk
                  exact hk
                · -- operation 1
                  simp only [List.getElem?_toArray, List.getElem?_cons_succ, List.getElem?_cons_zero, Option.some.injEq] at ho
                  subst ho
                  have p0 : (x 69) = .pointer (some ⟨w.heap.size, 1, none⟩) := hdep 0 (List.mem_of_elem_eq_true (by kernel_rfl))
                  clear hdep hgd
                  obtain ⟨f0, f1, f2⟩ := (HF2.out.below hW HF2.out.lt).cell3
                  unfold fr138
                  rw [p0]
                  go_simp
                  have hk : K { tmps := #[x 0, x 1, x 2, x 3, x 4, x 5, x 6, x 7, x 8, x 9, x 10, x 11, x 12, x 13, x 14, x 15, x 16, x 17, x 18, x 19, x 20, x 21, x 22, x 23, x 24, x 25, x 26, x 27, x 28, x 29, x 30, x 31, x 32, x 33, x 34, x 35, x 36, x 37, x 38, x 39, x 40, x 41, x 42, x 43, x 44, x 45, x 46, x 47, x 48, x 49, x 50, x 51, x 52, x 53, x 54, x 55, x 56, x 57, x 58, x 59, x 60, x 61, x 62, x 63, x 64, x 65, x 66, x 67, x 68, x 69, .slice (some ⟨b, o, none⟩) fs.F.length c2, x 71, x 72, x 73, x 74, x 75, x 76, x 77, x 78, x 79, x 80, x 81, x 82, x 83, x 84, x 85, x 86, x 87, x 88, x 89, x 90, x 91, x 92, x 93, x 94, x 95, x 96, x 97, x 98, x 99, x 100, x 101, x 102, x 103, x 104, x 105, x 106, x 107, x 108, x 109, x 110, x 111, x 112, x 113, x 114, x 115, x 116, x 117, x 118, x 119, x 120, x 121, x 122, x 123, x 124, x 125, x 126, x 127, x 128, x 129, x 130, x 131, x 132, x 133, x 134, x 135, x 136, x 137], defers := [] } wa := hK _ _ hW (by rw [if_neg (by decide)]; exact Below.refl _ _) rfl
                  rw [p0] at hk
                  exact hk
                · -- operation 2
                  simp only [List.getElem?_toArray, List.getElem?_cons_succ, List.getElem?_cons_zero, Option.some.injEq] at ho
                  subst ho
                  clear hdep hgd
                  obtain ⟨f0, f1, f2⟩ := (HF2.out.below hW HF2.out.lt).cell3
                  unfold fr138
                  rw [E2.out]
                  go_simp
                  have hk : K { tmps := #[x 0, x 1, x 2, x 3, x 4, x 5, x 6, x 7, x 8, x 9, x 10, x 11, x 12, x 13, x 14, x 15, x 16, x 17, x 18, x 19, x 20, x 21, x 22, x 23, x 24, x 25, x 26, x 27, x 28, x 29, x 30, x 31, x 32, x 33, x 34, x 35, x 36, x 37, x 38, x 39, x 40, x 41, x 42, x 43, x 44, x 45, x 46, x 47, x 48, x 49, x 50, x 51, x 52, x 53, x 54, x 55, x 56, x 57, x 58, x 59, x 60, x 61, x 62, x 63, x 64, x 65, x 66, x 67, x 68, x 69, x 70, .agg #[.slice A1 fs.N.length c1, .slice (some ⟨b, o, none⟩) fs.F.length c2, .slice A3 fs.O.length c3], x 72, x 73, x 74, x 75, x 76, x 77, x 78, x 79, x 80, x 81, x 82, x 83, x 84, x 85, x 86, x 87, x 88, x 89, x 90, x 91, x 92, x 93, x 94, x 95, x 96, x 97, x 98, x 99, x 100, x 101, x 102, x 103, x 104, x 105, x 106, x 107, x 108, x 109, x 110, x 111, x 112, x 113, x 114, x 115, x 116, x 117, x 118, x 119, x 120, x 121, x 122, x 123, x 124, x 125, x 126, x 127, x 128, x 129, x 130, x 131, x 132, x 133, x 134, x 135, x 136, x 137], defers := [] } wa := hK _ _ hW (by rw [if_neg (by decide)]; exact Below.refl _ _) rfl
                  rw [E2.out] at hk
                  exact hk
                · -- operation 3
                  simp only [List.getElem?_toArray, List.getElem?_cons_succ, List.getElem?_cons_zero, Option.some.injEq] at ho
                  subst ho
                  clear hdep hgd
                  unfold fr138
                  rw [E5.out]
                  go_simp
                  have hk : K { tmps := #[x 0, x 1, x 2, x 3, x 4, x 5, x 6, x 7, x 8, x 9, x 10, x 11, x 12, x 13, x 14, x 15, x 16, x 17, x 18, x 19, x 20, x 21, x 22, x 23, x 24, x 25, x 26, x 27, x 28, x 29, x 30, x 31, x 32, x 33, x 34, x 35, x 36, x 37, x 38, x 39, x 40, x 41, x 42, x 43, x 44, x 45, x 46, x 47, x 48, x 49, x 50, x 51, x 52, x 53, x 54, x 55, x 56, x 57, x 58, x 59, x 60, x 61, x 62, x 63, x 64, x 65, x 66, x 67, x 68, x 69, x 70, x 71, .int .i64 tino, x 73, x 74, x 75, x 76, x 77, x 78, x 79, x 80, x 81, x 82, x 83, x 84, x 85, x 86, x 87, x 88, x 89, x 90, x 91, x 92, x 93, x 94, x 95, x 96, x 97, x 98, x 99, x 100, x 101, x 102, x 103, x 104, x 105, x 106, x 107, x 108, x 109, x 110, x 111, x 112, x 113, x 114, x 115, x 116, x 117, x 118, x 119, x 120, x 121, x 122, x 123, x 124, x 125, x 126, x 127, x 128, x 129, x 130, x 131, x 132, x 133, x 134, x 135, x 136, x 137], defers := [] } wa := hK _ _ hW (by rw [if_neg (by decide)]; exact Below.refl _ _) rfl
                  rw [E5.out] at hk
                  exact hk
                · -- operation 4
                  simp only [List.getElem?_toArray, List.getElem?_cons_succ, List.getElem?_cons_zero, Option.some.injEq] at ho
                  subst ho
                  have p2 : (x 71) = .agg #[.slice A1 fs.N.length c1, .slice (some ⟨b, o, none⟩) fs.F.length c2, .slice A3 fs.O.length c3] := hdep 2 (List.mem_of_elem_eq_true (by kernel_rfl))
                  have p3 : (x 72) = .int .i64 tino := hdep 3 (List.mem_of_elem_eq_true (by kernel_rfl))
                  clear hdep hgd
                  unfold fr138
                  rw [p2, p3]
                  go_simp
                  refine (HATK.out wa hW).mono ?_
                  rintro e w5 ⟨rfl, hb5⟩
                  have hk : K { tmps := #[x 0, x 1, x 2, x 3, x 4, x 5, x 6, x 7, x 8, x 9, x 10, x 11, x 12, x 13, x 14, x 15, x 16, x 17, x 18, x 19, x 20, x 21, x 22, x 23, x 24, x 25, x 26, x 27, x 28, x 29, x 30, x 31, x 32, x 33, x 34, x 35, x 36, x 37, x 38, x 39, x 40, x 41, x 42, x 43, x 44, x 45, x 46, x 47, x 48, x 49, x 50, x 51, x 52, x 53, x 54, x 55, x 56, x 57, x 58, x 59, x 60, x 61, x 62, x 63, x 64, x 65, x 66, x 67, x 68, x 69, x 70, x 71, x 72, .int .i64 (k : Int), x 74, x 75, x 76, x 77, x 78, x 79, x 80, x 81, x 82, x 83, x 84, x 85, x 86, x 87, x 88, x 89, x 90, x 91, x 92, x 93, x 94, x 95, x 96, x 97, x 98, x 99, x 100, x 101, x 102, x 103, x 104, x 105, x 106, x 107, x 108, x 109, x 110, x 111, x 112, x 113, x 114, x 115, x 116, x 117, x 118, x 119, x 120, x 121, x 122, x 123, x 124, x 125, x 126, x 127, x 128, x 129, x 130, x 131, x 132, x 133, x 134, x 135, x 136, x 137], defers := [] } w5 := hK _ _ (bchain hW hb5) (by rw [if_neg (by decide)]; exact hb5) rfl
                  rw [p2, p3] at hk
                  exact hk
                · -- operation 5
                  simp only [List.getElem?_toArray, List.getElem?_cons_succ, List.getElem?_cons_zero, Option.some.injEq] at ho
                  subst ho
                  have p1 : (x 70) = .slice (some ⟨b, o, none⟩) fs.F.length c2 := hdep 1 (List.mem_of_elem_eq_true (by kernel_rfl))
                  have p4 : (x 73) = .int .i64 (k : Int) := hdep 4 (List.mem_of_elem_eq_true (by kernel_rfl))
                  clear hdep hgd
                  unfold fr138
                  rw [p1, p4]
                  go_simp
                  have hk : K { tmps := #[x 0, x 1, x 2, x 3, x 4, x 5, x 6, x 7, x 8, x 9, x 10, x 11, x 12, x 13, x 14, x 15, x 16, x 17, x 18, x 19, x 20, x 21, x 22, x 23, x 24, x 25, x 26, x 27, x 28, x 29, x 30, x 31, x 32, x 33, x 34, x 35, x 36, x 37, x 38, x 39, x 40, x 41, x 42, x 43, x 44, x 45, x 46, x 47, x 48, x 49, x 50, x 51, x 52, x 53, x 54, x 55, x 56, x 57, x 58, x 59, x 60, x 61, x 62, x 63, x 64, x 65, x 66, x 67, x 68, x 69, x 70, x 71, x 72, x 73, .pointer (some ⟨b, o + k * 5, none⟩), x 75, x 76, x 77, x 78, x 79, x 80, x 81, x 82, x 83, x 84, x 85, x 86, x 87, x 88, x 89, x 90, x 91, x 92, x 93, x 94, x 95, x 96, x 97, x 98, x 99, x 100, x 101, x 102, x 103, x 104, x 105, x 106, x 107, x 108, x 109, x 110, x 111, x 112, x 113, x 114, x 115, x 116, x 117, x 118, x 119, x 120, x 121, x 122, x 123, x 124, x 125, x 126, x 127, x 128, x 129, x 130, x 131, x 132, x 133, x 134, x 135, x 136, x 137], defers := [] } wa := hK _ _ hW (by rw [if_neg (by decide)]; exact Below.refl _ _) rfl
                  rw [p1, p4] at hk
                  exact hk
                · -- operation 6
                  simp only [List.getElem?_toArray, List.getElem?_cons_succ, List.getElem?_cons_zero, Option.some.injEq] at ho
                  subst ho
                  have p5 : (x 74) = .pointer (some ⟨b, o + k * 5, none⟩) := hdep 5 (List.mem_of_elem_eq_true (by kernel_rfl))
                  clear hdep hgd
                  obtain ⟨m0, m1, m2, m3, m4, _⟩ := HCL.out wa hW
                  unfold fr138
                  rw [p5]
                  go_simp
                  have hk : K { tmps := #[x 0, x 1, x 2, x 3, x 4, x 5, x 6, x 7, x 8, x 9, x 10, x 11, x 12, x 13, x 14, x 15, x 16, x 17, x 18, x 19, x 20, x 21, x 22, x 23, x 24, x 25, x 26, x 27, x 28, x 29, x 30, x 31, x 32, x 33, x 34, x 35, x 36, x 37, x 38, x 39, x 40, x 41, x 42, x 43, x 44, x 45, x 46, x 47, x 48, x 49, x 50, x 51, x 52, x 53, x 54, x 55, x 56, x 57, x 58, x 59, x 60, x 61, x 62, x 63, x 64, x 65, x 66, x 67, x 68, x 69, x 70, x 71, x 72, x 73, x 74, .agg #[.int .i64 tino, .slice FA tdata.length FC, .bool tcp, .bool twh, .int .i64 tleft], x 76, x 77, x 78, x 79, x 80, x 81, x 82, x 83, x 84, x 85, x 86, x 87, x 88, x 89, x 90, x 91, x 92, x 93, x 94, x 95, x 96, x 97, x 98, x 99, x 100, x 101, x 102, x 103, x 104, x 105, x 106, x 107, x 108, x 109, x 110, x 111, x 112, x 113, x 114, x 115, x 116, x 117, x 118, x 119, x 120, x 121, x 122, x 123, x 124, x 125, x 126, x 127, x 128, x 129, x 130, x 131, x 132, x 133, x 134, x 135, x 136, x 137], defers := [] } wa := hK _ _ hW (by rw [if_neg (by decide)]; exact Below.refl _ _) rfl
                  rw [p5] at hk
                  exact hk
                · -- operation 7
                  simp only [List.getElem?_toArray, List.getElem?_cons_succ, List.getElem?_cons_zero, Option.some.injEq] at ho
                  subst ho
                  clear hdep hgd
                  unfold fr138
                  go_simp
                  have hk : K { tmps := #[x 0, x 1, x 2, x 3, x 4, x 5, x 6, x 7, x 8, .pointer (some ⟨wa.heap.size, 0, none⟩), x 10, x 11, x 12, x 13, x 14, x 15, x 16, x 17, x 18, x 19, x 20, x 21, x 22, x 23, x 24, x 25, x 26, x 27, x 28, x 29, x 30, x 31, x 32, x 33, x 34, x 35, x 36, x 37, x 38, x 39, x 40, x 41, x 42, x 43, x 44, x 45, x 46, x 47, x 48, x 49, x 50, x 51, x 52, x 53, x 54, x 55, x 56, x 57, x 58, x 59, x 60, x 61, x 62, x 63, x 64, x 65, x 66, x 67, x 68, x 69, x 70, x 71, x 72, x 73, x 74, x 75, x 76, x 77, x 78, x 79, x 80, x 81, x 82, x 83, x 84, x 85, x 86, x 87, x 88, x 89, x 90, x 91, x 92, x 93, x 94, x 95, x 96, x 97, x 98, x 99, x 100, x 101, x 102, x 103, x 104, x 105, x 106, x 107, x 108, x 109, x 110, x 111, x 112, x 113, x 114, x 115, x 116, x 117, x 118, x 119, x 120, x 121, x 122, x 123, x 124, x 125, x 126, x 127, x 128, x 129, x 130, x 131, x 132, x 133, x 134, x 135, x 136, x 137], defers := [] } (wa.alloc (.cells #[.int .i64 0, .slice none 0 0, .bool false, .bool false, .int .i64 0] 72)) := hK _ _ (hW.alloc hW.size _) (by rw [if_neg (by decide)]; exact (Below.refl _ wa).alloc (Nat.le_refl _) _) ⟨_, rfl, hW.size, _, _, _, _, _, Blk.new wa _ _⟩
                  exact hk
                · -- operation 8
                  simp only [List.getElem?_toArray, List.getElem?_cons_succ, List.getElem?_cons_zero, Option.some.injEq] at ho
                  subst ho
                  have p7 : ∃ g, (x 9) = .pointer (some ⟨g, 0, none⟩) ∧ w2.heap.size ≤ g ∧ ∃ a0 a1 a2 a3 a4 : Value, Blk wa g 72 #[a0, a1, a2, a3, a4] := hdep 7 (List.mem_of_elem_eq_true (by kernel_rfl))
                  have p6 : (x 75) = .agg #[.int .i64 tino, .slice FA tdata.length FC, .bool tcp, .bool twh, .int .i64 tleft] := hdep 6 (List.mem_of_elem_eq_true (by kernel_rfl))
                  clear hdep hgd
                  obtain ⟨g, h9, hg, a0, a1, a2, a3, a4, hb⟩ := p7
                  obtain ⟨k0, k1, k2, k3, k4⟩ := hb.cell5
                  obtain ⟨q0, q1, q2', q3, q4⟩ := hb.froz5
                  have hgr : wa.grownBy (((((wa.setCell ⟨g, 0, none⟩ (.int .i64 tino)).setCell ⟨g, 1, none⟩ (.slice FA tdata.length FC)).setCell ⟨g, 2, none⟩ (.bool tcp)).setCell ⟨g, 3, none⟩ (.bool twh)).setCell ⟨g, 4, none⟩ (.int .i64 tleft)) (some g) := grownBy_set (grownBy_set (grownBy_set (grownBy_set (grownBy_set (World.grownBy.refl wa _) 0 _) 1 _) 2 _) 3 _) 4 _
                  have h5 := hb.five (.int .i64 tino) (.slice FA tdata.length FC) (.bool tcp) (.bool twh) (.int .i64 tleft)
                  have hk : K { tmps := #[x 0, x 1, x 2, x 3, x 4, x 5, x 6, x 7, x 8, x 9, x 10, x 11, x 12, x 13, x 14, x 15, x 16, x 17, x 18, x 19, x 20, x 21, x 22, x 23, x 24, x 25, x 26, x 27, x 28, x 29, x 30, x 31, x 32, x 33, x 34, x 35, x 36, x 37, x 38, x 39, x 40, x 41, x 42, x 43, x 44, x 45, x 46, x 47, x 48, x 49, x 50, x 51, x 52, x 53, x 54, x 55, x 56, x 57, x 58, x 59, x 60, x 61, x 62, x 63, x 64, x 65, x 66, x 67, x 68, x 69, x 70, x 71, x 72, x 73, x 74, x 75, x 76, x 77, x 78, x 79, x 80, x 81, x 82, x 83, x 84, x 85, x 86, x 87, x 88, x 89, x 90, x 91, x 92, x 93, x 94, x 95, x 96, x 97, x 98, x 99, x 100, x 101, x 102, x 103, x 104, x 105, x 106, x 107, x 108, x 109, x 110, x 111, x 112, x 113, x 114, x 115, x 116, x 117, x 118, x 119, x 120, x 121, x 122, x 123, x 124, x 125, x 126, x 127, x 128, x 129, x 130, x 131, x 132, x 133, x 134, x 135, x 136, x 137], defers := [] } (((((wa.setCell ⟨g, 0, none⟩ (.int .i64 tino)).setCell ⟨g, 1, none⟩ (.slice FA tdata.length FC)).setCell ⟨g, 2, none⟩ (.bool tcp)).setCell ⟨g, 3, none⟩ (.bool twh)).setCell ⟨g, 4, none⟩ (.int .i64 tleft)) := hK undef _ (hW.grown hgr hW.size (fun k hk => by injection hk with hk; omega)) (by rw [if_pos rfl]; exact ⟨g, hgr, _, _, _, _, _, h5⟩) ⟨g, h9, h5⟩
                  unfold fr138
                  rw [h9, p6]
                  rw [h9, p6] at hk
                  clear h9 p6
                  go_simp
                  exact hk
              case skip =>
                intro i o j b ho hgd
                have hi : i < 9 := (Array.getElem?_eq_some_iff.1 ho).1
                have hcase : i = 0 ∨ i = 1 ∨ i = 2 ∨ i = 3 ∨ i = 4 ∨ i = 5 ∨ i = 6 ∨ i = 7 ∨ i = 8 := by omega
                rcases hcase with rfl | rfl | rfl | rfl | rfl | rfl | rfl | rfl | rfl <;> (simp only [List.getElem?_toArray, List.getElem?_cons_succ, List.getElem?_cons_zero, Option.some.injEq] at ho; subst ho; cases hgd)
              case done =>
                intro x wd hout hW hall
                have z2 := (hout 2 (by decide)).trans y2
                have z3 := (hout 3 (by decide)).trans y3
                have z4 := (hout 4 (by decide)).trans y4
                have z8 := (hout 8 (by decide)).trans y8
                obtain ⟨g, h9, hbX⟩ : ∃ g, x 9 = .pointer (some ⟨g, 0, none⟩) ∧ Blk wd g 72 #[.int .i64 tino, .slice FA tdata.length FC, .bool tcp, .bool twh, .int .i64 tleft] := hall 8 (by decide)
                refine HK.out _ _ ?_
                unfold fr138
                rw [z2, z3, z4, z8, h9]
                clear z2 z3 z4 z8 h9 hout hall hx0 y2 y3 y4 y5 y6 y8 HK HATK HCL
                have HBX := keep hbX
                have HWW := keep hW
                clear hbX hW
                have HF4 := keep (HF2.out.below HWW.out HF2.out.lt)
                have HX4 := keep (HX2.out.below HWW.out HX2.out.lt)
                have HB4 := keep (bchain HB3.out HWW.out)
                obtain ⟨f0, f1, f2⟩ := HF4.out.cell3
                obtain ⟨x0, x1, x2, x3, x4⟩ := HX4.out.cell5
                obtain ⟨v0, v1, v2, v3, v4⟩ := HBX.out.cell5
                have hkk := HR.out
                have hk1 := HK1.out
                have HQ2P : Hid (hasP fs.p.N dst = q2) := HQ2
                have HQ1P : Hid (hasP fs.p.N name = true) := HQ1
                have hfp : fileP fs.p name = some ⟨tino, tdata, tcp, twh, tleft⟩ := HFL.out
                have HFP := keep hfp
                clear hfp
                have hd6 : tdata.length ≤ 60000 := by have := HI.out.d _ (List.getElem_mem hk); rw [HT'.out] at this; exact this
                rcases (show kind = 2 ∨ kind = 3 ∨ kind = 4 ∨ kind = 5 ∨ kind = 6 ∨ kind = 7 ∨ kind = 8 by omega) with rfl | rfl | rfl | rfl | rfl | rfl | rfl
                · clear hkk hk1
                  cases tcp with
                  | true =>
                    go_wp2_with fail
                    go_ret
                    refine ⟨?_, HB4.out⟩
                    show Ending.returned (.int .i64 13) = _
                    rw [HERR.out]
                    unfold stepP
                    simp [HFP.out]
                  | false =>
                    have hw : IntKind.i64.wrap (60000 - (tdata.length : Int)) = 60000 - (tdata.length : Int) := IntWalk.i64_in _ (by omega)
                    by_cases h6 : 60000 - (tdata.length : Int) < (data.length : Int)
                    · have d6 : decide (60000 - (tdata.length : Int) < (data.length : Int)) = true := decide_eq_true h6
                      have H6 : Hid (60000 < tdata.length + data.length) := keep (by omega)
                      clear h6
                      go_wp2_with fail
                      go_ret
                      refine ⟨?_, HB4.out⟩
                      show Ending.returned (.int .i64 3) = _
                      rw [HERR.out]
                      unfold stepP
                      simp [HFP.out, H6.out]
                    · have d6 : decide (60000 - (tdata.length : Int) < (data.length : Int)) = false := decide_eq_false h6
                      have H6 : Hid (¬ 60000 < tdata.length + data.length) := keep (by omega)
                      clear h6
                      go_wp2_with fail
                      go_ret
                      refine ⟨?_, HB4.out⟩
                      show Ending.returned (.int .i64 0) = _
                      rw [HERR.out]
                      unfold stepP
                      simp [HFP.out, H6.out]
                · clear hkk hk1
                  cases tcp with
                  | true =>
                    go_wp2_with fail
                    go_ret
                    refine ⟨?_, HB4.out⟩
                    show Ending.returned (.int .i64 13) = _
                    rw [HERR.out]
                    unfold stepP
                    simp [HFP.out]
                  | false =>
                    go_wp2_with fail
                    go_ret
                    refine ⟨?_, HB4.out⟩
                    show Ending.returned (.int .i64 0) = _
                    rw [HERR.out]
                    unfold stepP
                    simp [HFP.out]
                · clear hkk hk1
                  by_cases hdn : dst = name
                  · have e1 : (dst.toList == name.toList) = true := by rw [hdn]; simp
                    have HDN := keep hdn
                    clear hdn
                    go_wp2_with fail
                    go_ret
                    refine ⟨?_, HB4.out⟩
                    show Ending.returned (.int .i64 17) = _
                    rw [HERR.out]
                    unfold stepP
                    simp [HFP.out, HDN.out]
                  · have e1 : (dst.toList == name.toList) = false := beq_eq_false_iff_ne.2 (fun e => hdn (toList_inj e))
                    have HDN := keep hdn
                    clear hdn
                    go_wp2_with fail
                    go_ret
                    refine ⟨?_, HB4.out⟩
                    show Ending.returned (.int .i64 0) = _
                    rw [HERR.out]
                    unfold stepP
                    simp [HFP.out, HDN.out]
                · clear hkk hk1
                  have hcase : (tcp = true ∧ twh = false) ∨ (tcp && !twh) = false := by cases tcp <;> cases twh <;> simp
                  rcases hcase with ⟨rfl, rfl⟩ | hcw
                  · skip
                    go_wp2_with fail
                    go_ret
                    refine ⟨?_, HB4.out⟩
                    show Ending.returned (.int .i64 13) = _
                    rw [HERR.out]
                    unfold stepP
                    simp [HFP.out]
                  · have HCW := keep hcw
                    have hsplit : tcp = false ∨ (tcp = true ∧ twh = true) := by cases tcp <;> cases twh <;> simp_all
                    clear hcw
                    cases q2 with
                    | true =>
                      rcases hsplit with rfl | ⟨rfl, rfl⟩
                      all_goals
                        go_wp2_with fail
                        go_ret
                        refine ⟨?_, HB4.out⟩
                        show Ending.returned (.int .i64 11) = _
                        rw [HERR.out]
                        unfold stepP
                        simp [HFP.out, HQ2P.out]
                    | false =>
                      by_cases h40 : 40 ≤ (fs.N.length : Int)
                      · have d4 : decide (40 ≤ (fs.N.length : Int)) = true := decide_eq_true h40
                        have H40P : Hid (40 ≤ fs.p.N.length) := keep (by show 40 ≤ fs.N.length; omega)
                        clear h40
                        rcases hsplit with rfl | ⟨rfl, rfl⟩
                        all_goals
                          go_wp2_with fail
                          go_ret
                          refine ⟨?_, HB4.out⟩
                          show Ending.returned (.int .i64 4) = _
                          rw [HERR.out]
                          unfold stepP
                          simp [HFP.out, HQ2P.out, H40P.out]
                      · have d4 : decide (40 ≤ (fs.N.length : Int)) = false := decide_eq_false h40
                        have H40P : Hid (¬ 40 ≤ fs.p.N.length) := keep (by show ¬ 40 ≤ fs.N.length; omega)
                        clear h40
                        rcases hsplit with rfl | ⟨rfl, rfl⟩
                        all_goals
                          go_wp2_with fail
                          go_ret
                          refine ⟨?_, HB4.out⟩
                          show Ending.returned (.int .i64 0) = _
                          rw [HERR.out]
                          unfold stepP
                          simp [HFP.out, HQ2P.out, H40P.out]
                · clear hkk hk1
                  have hsplit : tcp = false ∨ (tcp = true ∧ twh = true) ∨ (tcp = true ∧ twh = false) := by cases tcp <;> cases twh <;> simp
                  rcases hsplit with rfl | ⟨rfl, rfl⟩ | ⟨rfl, rfl⟩
                  · skip
                    go_wp2_with fail
                    go_ret
                    refine ⟨?_, HB4.out⟩
                    show Ending.returned (.int .i64 17) = _
                    rw [HERR.out]
                    unfold stepP
                    simp [HFP.out]
                  · skip
                    go_wp2_with fail
                    go_ret
                    refine ⟨?_, HB4.out⟩
                    show Ending.returned (.int .i64 17) = _
                    rw [HERR.out]
                    unfold stepP
                    simp [HFP.out]
                  · by_cases hn : n < 1
                    · have d1 : decide (n < 1) = true := decide_eq_true hn
                      have HN := keep hn
                      clear hn
                      go_wp2_with fail
                      go_ret
                      refine ⟨?_, HB4.out⟩
                      show Ending.returned (.int .i64 2) = _
                      rw [HERR.out]
                      unfold stepP
                      simp [HFP.out, HN.out]
                    · have d1 : decide (n < 1) = false := decide_eq_false hn
                      have HN := keep hn
                      clear hn
                      go_wp2_with fail
                      go_ret
                      refine ⟨?_, HB4.out⟩
                      show Ending.returned (.int .i64 0) = _
                      rw [HERR.out]
                      unfold stepP
                      simp [HFP.out]
                      rw [if_neg (by have := HN.out; omega)]
                · clear hkk hk1
                  go_wp2_with fail
                  go_ret
                  refine ⟨?_, HB4.out⟩
                  show Ending.returned (.int .i64 0) = _
                  rw [HERR.out]
                  unfold stepP
                  simp [HQ1P.out]
                · clear hkk hk1
                  by_cases h6 : 60000 < (data.length : Int)
                  · have d6 : decide (60000 < (data.length : Int)) = true := decide_eq_true h6
                    have H6 : Hid (60000 < data.length) := keep (by omega)
                    clear h6
                    go_wp2_with fail
                    go_ret
                    refine ⟨?_, HB4.out⟩
                    show Ending.returned (.int .i64 3) = _
                    rw [HERR.out]
                    unfold stepP
                    simp [HQ1P.out, H6.out]
                  · have d6 : decide (60000 < (data.length : Int)) = false := decide_eq_false h6
                    have H6 : Hid (¬ 60000 < data.length) := keep (by omega)
                    clear h6
                    go_wp2_with fail
                    go_ret
                    refine ⟨?_, HB4.out⟩
                    show Ending.returned (.int .i64 0) = _
                    rw [HERR.out]
                    unfold stepP
                    simp [HQ1P.out, H6.out]
end Go.Proofs.Ytgegmefnbkcdkaa
