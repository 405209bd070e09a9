/- FramingCovers: the walk of the statement. -/
import Derived.Test.YtimldjlegbdldaaAwake
import Derived.Outline
namespace Go.Proofs.Ytimldjlegbdldaa
open Go.RowKit

theorem endsB_seg {l : List UInt8} {p : Nat × Nat} (h : SpOk l p) : (segB l 0 p).length = p.2 - p.1 ∧ endsB (segB l 0 p) 10 = true := by
  obtain ⟨h1, h2, h3⟩ := h
  have hlen : (segB l 0 p).length = p.2 - p.1 := by unfold segB; rw [List.length_take, List.length_drop]; omega
  refine ⟨hlen, ?_⟩
  obtain ⟨n, hn⟩ : ∃ n, p.2 - p.1 = n + 1 := ⟨p.2 - p.1 - 1, by omega⟩
  rw [endsB_iff _ 10 n (by rw [hlen, hn])]
  have e : (segB l 0 p).getD n 0 = l.getD (p.1 + n) 0 := by
    unfold segB
    simp [List.getD_eq_getElem?_getD, List.getElem?_drop, hn]
  rw [e, (h3 (p.1 + n) (by omega) (by omega)).2 (by omega)]
  rfl
theorem strip_lt {l : List UInt8} {p : Nat × Nat} (h : SpOk l p) : (stripB (segB l 0 p)).length < p.2 - p.1 := by
  obtain ⟨h1, h2⟩ := endsB_seg h
  have h3 := h.1
  have a1 := chopB_len (segB l 0 p)
  have a2 := chopB_len (chopB (segB l 0 p))
  unfold stripB
  rw [h2, if_pos rfl]
  split <;> omega
/-- A line's cells, and what the statement asks of them. -/
theorem frV_law {l : List UInt8} {p : Nat × Nat} (lim : Int) (h : SpOk l p) : ∃ (r : Nat) (s : ByteArray) (b : Bool), frV l 0 lim p = [.int .i64 (p.1 : Nat), .int .i64 ((p.2 - p.1 : Nat) : Int), .string s, .int .i64 r, .bool b] ∧
    s.size < p.2 - p.1 ∧ b = decide (lim < ((p.2 - p.1 : Nat) : Int)) ∧ (b = true → s = ⟨#[]⟩ ∧ r = 0) := by
  have h0 := h.1
  unfold frV
  split
  · rename_i hl
    refine ⟨0, ⟨#[]⟩, true, by rw [Nat.zero_add]; rfl, ?_, by simp [hl], fun _ => ⟨rfl, rfl⟩⟩
    show (0 : Nat) < _
    omega
  · rename_i hl
    refine ⟨_, _, false, by rw [Nat.zero_add], ?_, by simp [hl], fun h => by cases h⟩
    have := strip_lt h
    rw [← rep_len] at this
    simpa [ByteArray.size] using this
theorem endK_start {ps : List (Nat × Nat)} {e k : Nat} (h : Chn 0 ps e) (hk : k < ps.length) : endK 0 ps k = (ps[k]).1 := by
  rw [Chn.at_ ps 0 e k h hk]
  unfold endK
  by_cases h0 : k = 0
  · simp [h0]
  · rw [if_neg h0, dif_neg h0, Nat.zero_add, List.getD_eq_getElem?_getD, List.getElem?_eq_getElem (by omega), Option.getD_some]
theorem endK_next {ps : List (Nat × Nat)} {k : Nat} (hk : k < ps.length) : endK 0 ps (k + 1) = (ps[k]).2 := by
  unfold endK
  rw [if_neg (by omega), Nat.zero_add, Nat.add_sub_cancel, List.getD_eq_getElem?_getD, List.getElem?_eq_getElem hk, Option.getD_some]

set_option maxRecDepth 100000 in
set_option maxHeartbeats 4000000 in
theorem law_covers (v : Value) (l : List UInt8) (lim : Int) (w : World) (h : BSl w (lt w.heap.size) v l) (hm : l.length ≤ 1000000000) :
    Calls Try.prog 5 #[v, .int .i64 lim] w fun e w' => e = .returned (.bool true) ∧ Below w.heap.size w w' := by
  obtain ⟨A, c, rfl, hc, h⟩ := h.forms
  obtain ⟨ps, hps⟩ : ∃ ps, spans l = ps := ⟨_, rfl⟩
  have hok : ∀ p ∈ ps, SpOk l p := by rw [← hps]; exact spans_ok l
  have hch : Chn 0 ps (spEnd l) := by rw [← hps]; exact spans_chn l
  have hpl : ps.length ≤ l.length := by rw [← hps]; exact spans_len l
  have hend : endK 0 ps ps.length = spEnd l := by
    have := endK_all (data := l) (off := 0)
    rw [List.drop_zero, hps, Nat.zero_add] at this
    exact this
  have hsp : frSp l 0 = ps ∧ frEnd l 0 = ((spEnd l : Nat) : Int) := by
    have := frEnd_eq (data := l) (off := 0) (Nat.zero_le _)
    rw [List.drop_zero, hps, Nat.zero_add] at this
    exact ⟨this.2, this.1⟩
  have HSP := keep hsp
  have HOK := keep hok
  have HCH := keep hch
  have HEND := keep hend
  clear hsp hok hch hend hps
  go_enter Try.func5, Try.ntmps5
  go_wp2_with fail
  refine (awake_any _).mono ?_
  rintro e w1 ⟨rfl, hb1⟩
  have hL1 := (h.below hb1 (Nat.le_refl _)).up hb1.size
  go_wp2_with fail
  refine (frame_any _ _ 0 lim _ hL1 hm).mono ?_
  rintro e w2 ⟨vF, rfl, hrow, hb2⟩
  have hL2 := hL1.below hb2 (Nat.le_refl _)
  rw [HSP.out.1] at hrow
  rw [HSP.out.2]
  obtain ⟨AF, cF, rfl, hcF, hsF⟩ := (Sl.of_own hrow).form
  unfold frL at hsF
  rw [HSP.out.1] at hsF
  have hbw : Below w.heap.size w w2 := hb1.trans (hb2.mono hb1.size)
  have HLE := keep hb2.size
  clear hrow hL1 hb1 hb2
  go_wp2_with fail
  go_loopw [7, 9, 10, 21] (fun at_ _ _ i wr => ∃ k : Nat, i = .int .i64 k ∧ k ≤ ps.length ∧ at_ = .int .i64 (endK 0 ps k : Nat) ∧ Below w2.heap.size w2 wr) (fun _ _ _ i _ => ps.length - (intOf i).toNat)
  case atStart => exact ⟨0, rfl, Nat.zero_le _, rfl, Below.refl _ _⟩
  case round =>
    obtain ⟨k, rfl, hk, rfl, hb⟩ := hrel
    by_cases hlt : k < ps.length
    · have hsR := hsF.below hb (Nat.le_refl _)
      have hpok := HOK.out (ps[k]) (List.getElem_mem _)
      have hst := endK_start HCH.out hlt
      have hnx := endK_next hlt
      obtain ⟨⟨g, e⟩, hpe⟩ : ∃ pp, ps[k] = pp := ⟨_, rfl⟩
      obtain ⟨bF, oF, rfl, _, hcl⟩ := fr_cells ps (frV l (Int.toNat 0) lim) hsR hlt (fun p _ => frV_len _ _ _ _)
      rw [show Int.toNat 0 = 0 from rfl] at hcl
      rw [hpe] at hcl hpok hst hnx
      obtain ⟨r, s, b, hf, hs1, hs2, hs3⟩ := frV_law lim hpok
      rw [hf] at hcl
      dsimp only at hcl hst hnx hs1 hs2
      have x0 := hcl 0 _ rfl
      have x1 := hcl 1 _ rfl
      have x2 := hcl 2 _ rfl
      have x3 := hcl 3 _ rfl
      have x4 := hcl 4 _ rfl
      rw [Nat.add_zero] at x0
      obtain ⟨p1, p2, p3⟩ := hpok
      rw [hst]
      dsimp only at p1 p2 p3
      obtain ⟨q, hq⟩ : ∃ q, e - g = q := ⟨_, rfl⟩
      rw [hq] at hs1 hs2 x1
      have HNX := keep hnx
      have HTEN := keep p3
      have d0 : ((g : Int) != (g : Int)) = false := by simp
      have d1 : decide ((q : Int) < 1) = false := by simp; omega
      have d1' : decide (q < 1) = false := by simp; omega
      have d2 : decide ((l.length : Int) - (g : Int) < (q : Int)) = false := by simp; omega
      have d3 : decide (q ≤ s.size) = false := by simp; omega
      have d3' : decide ((q : Int) ≤ (s.size : Int)) = false := by simp; omega
      have gq : (g : Int) + (q : Int) = (e : Int) := by omega
      obtain ⟨m, hmm⟩ : ∃ m, e = m + 1 := ⟨e - 1, by omega⟩
      have hw1 : IntKind.i64.wrap ((g : Int) + (q : Int)) = (e : Int) := by rw [gq]; exact IntWalk.i64_in _ (by omega)
      have hw2 : IntKind.i64.wrap ((e : Int) - 1) = (m : Int) := by rw [show (e : Int) - 1 = (m : Int) by omega]; exact IntWalk.i64_in _ (by omega)
      have gb : (g : Int) ≤ 1000000000 := by omega
      have qb : (q : Int) ≤ 1000000000 := by omega
      have eb : (e : Int) ≤ 1000000000 := by omega
      have k0 : (0 : Int) ≤ (k : Int) := by omega
      have k1 : (k : Int) < (ps.length : Int) := by omega
      have hb3 : Below w2.heap.size w2 (wr.alloc (.cells #[.int .i64 (g : Int), .int .i64 (q : Int), .string s, .int .i64 r, .bool b] 41)) := hb.alloc hb.size _
      have hL3 : BSl (wr.alloc (.cells #[.int .i64 (g : Int), .int .i64 (q : Int), .string s, .int .i64 r, .bool b] 41)) (lt w1.heap.size) (.slice A l.length c) l := hL2.below hb3 HLE.out
      have hx3 : Blk (wr.alloc (.cells #[.int .i64 (g : Int), .int .i64 (q : Int), .string s, .int .i64 r, .bool b] 41)) wr.heap.size 41 #[.int .i64 (g : Int), .int .i64 (q : Int), .string s, .int .i64 r, .bool b] := Blk.new _ _ _
      have HB3 := keep hb3
      have hge : g ≤ e := by omega
      clear hcl hf hsR hnx hst hq p3 hb3 hpe
      by_cases hlim : lim < (q : Int)
      · obtain rfl : b = true := by rw [hs2]; simp [hlim]
        obtain ⟨rfl, rfl⟩ := hs3 rfl
        have d4 : decide (lim < (q : Int)) = true := by simp [hlim]
        clear hs1 hs2 hs3
        obtain ⟨W3, hW3⟩ : ∃ W3, wr.alloc (.cells #[.int .i64 (g : Int), .int .i64 (q : Int), .string ⟨#[]⟩, .int .i64 0, .bool true] 41) = W3 := ⟨_, rfl⟩
        rw [show ((0 : Nat) : Int) = 0 from rfl] at hL3 hx3 HB3
        rw [hW3] at hL3 hx3 HB3
        have y1 : W3.cell? ⟨wr.heap.size, 1, none⟩ = some (.int .i64 (q : Int)) := by rw [hx3.cell]; rfl
        have HX3 := keep hx3
        have HW3 := keep hW3
        clear hx3 hW3
        go_wp2_with fail
        rw [HW3.out]
        go_loopw [10] (fun i wi => ∃ j : Nat, i = .int .i64 j ∧ g ≤ j ∧ j ≤ e ∧ ∃ n, wi = W3.drewN n) (fun i _ => e - (intOf i).toNat)
        case atStart => exact ⟨g, rfl, Nat.le_refl _, by omega, 0, rfl⟩
        case round =>
          obtain ⟨j, rfl, hj1, hj2, n, rfl⟩ := hrel
          by_cases hje : j < e
          · obtain ⟨bb, oo, e1, hbb, hcell⟩ := hL3.byte (k := j) (by omega)
            have hx := byte_ten (l.getD j 0)
            obtain ⟨xb, hxb⟩ : ∃ xb, ((l.getD j 0).toNat : Int) = xb := ⟨_, rfl⟩
            rw [hxb] at hx hcell
            have hi1 := HTEN.out j hj1 hje
            have j0 : (0 : Int) ≤ (j : Int) := by omega
            have j1 : (j : Int) < (l.length : Int) := by omega
            have j2 : (j : Int) < (e : Int) := by omega
            by_cases h10 : j + 1 = e
            · have hq1 : (xb == 10) = true := by rw [hx, hi1.2 h10]; rfl
              have hq2 : ((j : Int) == (m : Int)) = true := by simp; omega
              have hq3 : (j == m) = true := by simp; omega
              subst e1
              clear hx hxb hi1 h10
              go_wp2
              go_quiet (fail)
              go_wp2
              go_roundw
              case rel => exact ⟨j + 1, by go_num, by omega, by omega, _, rfl⟩
              case measure => simp [intOf]; omega
            · have hq1 : (xb == 10) = false := by
                rw [hx, decide_eq_false_iff_not]
                exact fun hh => h10 (hi1.1 hh)
              have hq2 : ((j : Int) == (m : Int)) = false := by simp; omega
              have hq3 : (j == m) = false := by simp; omega
              subst e1
              clear hx hxb hi1 h10
              go_wp2
              go_quiet (fail)
              go_wp2
              go_roundw
              case rel => exact ⟨j + 1, by go_num, by omega, by omega, _, rfl⟩
              case measure => simp [intOf]; omega
          · obtain rfl : j = e := by omega
            go_wp2
            go_roundw
            case rel => exact ⟨k + 1, by go_num, by omega, by rw [HNX.out]; exact congrArg (Value.int .i64) (by omega), below_drewN HB3.out _⟩
            case measure => simp [intOf]; omega
      · obtain rfl : b = false := by rw [hs2]; simp [hlim]
        have d4 : decide (lim < (q : Int)) = false := by simp [hlim]
        clear hs1 hs2 hs3
        obtain ⟨W3, hW3⟩ : ∃ W3, wr.alloc (.cells #[.int .i64 (g : Int), .int .i64 (q : Int), .string s, .int .i64 r, .bool false] 41) = W3 := ⟨_, rfl⟩
        rw [hW3] at hL3 hx3 HB3
        have y1 : W3.cell? ⟨wr.heap.size, 1, none⟩ = some (.int .i64 (q : Int)) := by rw [hx3.cell]; rfl
        have HX3 := keep hx3
        have HW3 := keep hW3
        clear hx3 hW3
        go_wp2_with fail
        rw [HW3.out]
        go_loopw [10] (fun i wi => ∃ j : Nat, i = .int .i64 j ∧ g ≤ j ∧ j ≤ e ∧ ∃ n, wi = W3.drewN n) (fun i _ => e - (intOf i).toNat)
        case atStart => exact ⟨g, rfl, Nat.le_refl _, by omega, 0, rfl⟩
        case round =>
          obtain ⟨j, rfl, hj1, hj2, n, rfl⟩ := hrel
          by_cases hje : j < e
          · obtain ⟨bb, oo, e1, hbb, hcell⟩ := hL3.byte (k := j) (by omega)
            have hx := byte_ten (l.getD j 0)
            obtain ⟨xb, hxb⟩ : ∃ xb, ((l.getD j 0).toNat : Int) = xb := ⟨_, rfl⟩
            rw [hxb] at hx hcell
            have hi1 := HTEN.out j hj1 hje
            have j0 : (0 : Int) ≤ (j : Int) := by omega
            have j1 : (j : Int) < (l.length : Int) := by omega
            have j2 : (j : Int) < (e : Int) := by omega
            by_cases h10 : j + 1 = e
            · have hq1 : (xb == 10) = true := by rw [hx, hi1.2 h10]; rfl
              have hq2 : ((j : Int) == (m : Int)) = true := by simp; omega
              have hq3 : (j == m) = true := by simp; omega
              subst e1
              clear hx hxb hi1 h10
              go_wp2
              go_quiet (fail)
              go_wp2
              go_roundw
              case rel => exact ⟨j + 1, by go_num, by omega, by omega, _, rfl⟩
              case measure => simp [intOf]; omega
            · have hq1 : (xb == 10) = false := by
                rw [hx, decide_eq_false_iff_not]
                exact fun hh => h10 (hi1.1 hh)
              have hq2 : ((j : Int) == (m : Int)) = false := by simp; omega
              have hq3 : (j == m) = false := by simp; omega
              subst e1
              clear hx hxb hi1 h10
              go_wp2
              go_quiet (fail)
              go_wp2
              go_roundw
              case rel => exact ⟨j + 1, by go_num, by omega, by omega, _, rfl⟩
              case measure => simp [intOf]; omega
          · obtain rfl : j = e := by omega
            go_wp2
            go_roundw
            case rel => exact ⟨k + 1, by go_num, by omega, by rw [HNX.out]; exact congrArg (Value.int .i64) (by omega), below_drewN HB3.out _⟩
            case measure => simp [intOf]; omega
    · obtain rfl : k = ps.length := by omega
      rw [HEND.out]
      have hee : ((spEnd l : Nat) : Int) == ((spEnd l : Nat) : Int) := by simp
      go_wp2
      go_ret
      exact ⟨by simp, hbw.trans (hb.mono hbw.size)⟩
end Go.Proofs.Ytimldjlegbdldaa
