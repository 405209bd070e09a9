/- FilterBuild: the walk of the statement. -/
import Derived.Test.YtfainbgbeojcpaaBuildP
import Derived.Test.YtfainbgbeojcpaaUspec
import Derived.Test.YtfainbgbeojcpaaDrawMod
namespace Go.Proofs.Ytfainbgbeojcpaa
open Go.RowKit

/-- What Build comes to: the number of hashes, the words, the error. -/
def bspec (l : List ByteArray) (pw : Int) : Int × List Int × Int :=
  if 1 ≤ pw ∧ pw ≤ 64 then (3, built (fwords (bmax l.length * pw)) 3 l, 0) else (0, [], 2)

theorem build_bad (A : Option Addr) (n c : Nat) (pw : Int) (w : World) (h : ¬ (1 ≤ pw ∧ pw ≤ 64)) :
    Calls Try.prog 24 #[.slice A n c, .int .i64 pw] w fun e w' => e = .returned (.tuple #[.agg #[.int .i64 0, .slice none 0 0], .int .i64 2]) ∧ Below w.heap.size w w' := by
  by_cases h1 : pw < 1
  · have d1 : decide (pw < 1) = true := by simpa using h1
    go_enter Try.func24, Try.ntmps24
    go_wp2_with fail
    exact bodyPost_ret (v := .tuple #[.agg #[.int .i64 0, .slice none 0 0], .int .i64 2]) (by simp [results, Try.results24, go_sem]) rfl ⟨rfl, (Below.refl _ _).alloc (Nat.le_refl _) _⟩
  · have d1 : decide (pw < 1) = false := by simpa using h1
    have d2 : decide (64 < pw) = true := by simp; omega
    go_enter Try.func24, Try.ntmps24
    go_wp2_with fail
    exact bodyPost_ret (v := .tuple #[.agg #[.int .i64 0, .slice none 0 0], .int .i64 2]) (by simp [results, Try.results24, go_sem]) rfl ⟨rfl, (Below.refl _ _).alloc (Nat.le_refl _) _⟩
theorem refBuild_bad (A : Option Addr) (n c : Nat) (pw : Int) (w : World) (h : ¬ (1 ≤ pw ∧ pw ≤ 64)) :
    Calls Try.prog 17 #[.slice A n c, .int .i64 pw] w fun e w' => e = .returned (.tuple #[.agg #[.int .i64 0, .slice none 0 0], .int .i64 2]) ∧ Below w.heap.size w w' := by
  by_cases h1 : pw < 1
  · have d1 : decide (pw < 1) = true := by simpa using h1
    go_enter Try.func17, Try.ntmps17
    go_wp2_with fail
    exact bodyPost_ret (v := .tuple #[.agg #[.int .i64 0, .slice none 0 0], .int .i64 2]) (by simp [results, Try.results17, go_sem]) rfl ⟨rfl, (Below.refl _ _).alloc (Nat.le_refl _) _⟩
  · have d1 : decide (pw < 1) = false := by simpa using h1
    have d2 : decide (64 < pw) = true := by simp; omega
    go_enter Try.func17, Try.ntmps17
    go_wp2_with fail
    exact bodyPost_ret (v := .tuple #[.agg #[.int .i64 0, .slice none 0 0], .int .i64 2]) (by simp [results, Try.results17, go_sem]) rfl ⟨rfl, (Below.refl _ _).alloc (Nat.le_refl _) _⟩

theorem build_any (v : Value) (l : List ByteArray) (pw : Int) (w : World) (hs : Sl w (lt w.heap.size) 1 v l.length (l.map .string)) (hl : l.length ≤ 1000) (hll : ∀ s ∈ l, s.size ≤ maxLen) :
    Calls Try.prog 24 #[v, .int .i64 pw] w (UnionRes w (bspec l pw)) := by
  unfold bspec
  split
  · rename_i hv
    refine (build_ok v l pw w hs hl hll hv.1 hv.2).mono ?_
    rintro e w' ⟨v', rfl, hown, hb⟩
    exact ⟨v', rfl, by have := Sl.of_own_btw hown; simpa [built_len] using this, hb⟩
  · rename_i hv
    obtain ⟨A, c, rfl, _, _⟩ := hs.form
    refine (build_bad A _ c pw w hv).mono ?_
    rintro e w' ⟨rfl, hb⟩
    exact ⟨_, rfl, Sl.nil _ _ _ _ _, hb⟩
theorem refBuild_any (v : Value) (l : List ByteArray) (pw : Int) (w : World) (hs : Sl w (lt w.heap.size) 1 v l.length (l.map .string)) (hl : l.length ≤ 1000) (hll : ∀ s ∈ l, s.size ≤ maxLen) :
    Calls Try.prog 17 #[v, .int .i64 pw] w (UnionRes w (bspec l pw)) := by
  unfold bspec
  split
  · rename_i hv
    refine (refBuild_ok v l pw w hs hl hll hv.1 hv.2).mono ?_
    rintro e w' ⟨v', rfl, hown, hb⟩
    exact ⟨v', rfl, by have := Sl.of_own_btw hown; simpa [built_len] using this, hb⟩
  · rename_i hv
    obtain ⟨A, c, rfl, _, _⟩ := hs.form
    refine (refBuild_bad A _ c pw w hv).mono ?_
    rintro e w' ⟨rfl, hb⟩
    exact ⟨_, rfl, Sl.nil _ _ _ _ _, hb⟩
theorem bspec_len (l : List ByteArray) (pw : Int) (hl : l.length ≤ 1000) : (bspec l pw).2.1.length ≤ 1024 := by
  unfold bspec
  split
  · rename_i hv
    simp only [built_len]
    have h := bprod_bd l.length pw hl hv.1 hv.2
    have := fwords_bd h.1 (by omega)
    omega
  · simp

/-- The statement's count of a list. -/
def wsum (l : List ByteArray) : Int := (l.map fun s => (10 : Int) + s.size).sum
theorem wsum_snoc (l : List ByteArray) (s : ByteArray) : wsum (l ++ [s]) = wsum l + (10 + s.size) := by simp [wsum]
theorem wsum_len (l : List ByteArray) : 10 * (l.length : Int) ≤ wsum l := by
  induction l with
  | nil => simp [wsum]
  | cons a l ih => simp [wsum] at ih ⊢; omega
theorem wsum_mem (l : List ByteArray) (s : ByteArray) (h : s ∈ l) : (s.size : Int) ≤ wsum l := by
  induction l with
  | nil => simp at h
  | cons a l ih =>
    have h0 := wsum_len l
    simp only [wsum, List.map_cons, List.sum_cons] at ih h0 ⊢
    rcases List.mem_cons.1 h with rfl | h
    · omega
    · have := ih h; omega

set_option maxHeartbeats 2000000 in
set_option maxRecDepth 100000 in
theorem law_build (v vc : Value) (l : List ByteArray) (bs : List Int) (pw : Int) (w : World) (hs : Sl w (lt w.heap.size) 1 v l.length (l.map .string)) (hll : ∀ s ∈ l, s.size ≤ 140737488351232) (hlm : l.length ≤ maxLen)
    (hsc : Sl w (lt w.heap.size) 1 vc bs.length (bs.map (.int .u8))) (hr : ∀ x ∈ bs, 0 ≤ x ∧ x ≤ 255) (hm : bs.length ≤ maxLen) :
    Calls Try.prog 5 #[v, .int .i64 pw, vc] w fun e w' => e = .returned (.bool true) ∧ Below w.heap.size w w' := by
  obtain ⟨A, c, rfl, hc, hs⟩ := hs.form
  have HLL := keep hll
  have HLM := keep hlm
  unfold maxLen at hlm
  clear hll
  go_enter Try.func5, Try.ntmps5
  go_wp2_with fail
  go_loop [7, 8] (fun n i => ∃ k : Nat, k ≤ l.length ∧ i = .int .i64 k ∧ n = .int .i64 (wsum (l.take k)) ∧ 0 ≤ wsum (l.take k) ∧ wsum (l.take k) ≤ 140737488360000) (fun _ i => l.length - (intOf i).toNat)
  case atStart => exact ⟨0, Nat.zero_le _, rfl, rfl, by simp [wsum], by simp [wsum]⟩
  case round =>
    obtain ⟨k, hk, rfl, rfl, hw0, hw1⟩ := hrel
    have HLEN := keep (wsum_len (l.take k))
    have HMEM := keep (wsum_mem (l.take k))
    by_cases hlt : k < l.length
    · have d1 : decide (k < l.length) = true := by simpa using hlt
      by_cases h3 : wsum (l.take k) < 3000
      · have d2 : decide (wsum (l.take k) < 3000) = true := by simpa using h3
        obtain ⟨b1, o1, u1, rfl, hb1, hx1, hc1⟩ := hs.at_ hlt
        have hu : u1 = .string l[k] := by simpa [hlt] using hx1.symm
        subst hu
        have hsz := HLL.out l[k] (List.getElem_mem _)
        have HSN : Hid (wsum (l.take (k + 1)) = wsum (l.take k) + (10 + (l[k].size : Int))) := keep (by rw [take_succ_map l k hlt, wsum_snoc])
        have i1 : (k : Int) < (l.length : Int) := by omega
        clear hx1
        generalize wsum (l.take k) = x at *
        generalize l[k] = sk at *
        go_wp2_with fail
        go_round
        case rel => exact ⟨k + 1, by omega, by go_num, by rw [HSN.out], by rw [HSN.out]; omega, by rw [HSN.out]; omega⟩
        case measure => simp [intOf]; omega
      · have d2 : decide (wsum (l.take k) < 3000) = false := by simpa using h3
        have d3 : decide (3000 ≤ wsum (l.take k)) = true := by simp; omega
        generalize wsum (l.take k) = x at *
        go_wp2_with fail
        refine (awake_true _).mono ?_
        rintro e w1 ⟨rfl, hb1⟩
        go_wp2_with fail
        go_ret
        exact ⟨rfl, hb1⟩
    · have d1 : decide (k < l.length) = false := by simpa using hlt
      obtain rfl : k = l.length := by omega
      by_cases h3 : 3000 ≤ wsum (l.take l.length)
      · have d3 : decide (3000 ≤ wsum (l.take l.length)) = true := by simpa using h3
        generalize wsum (l.take l.length) = x at *
        go_wp2_with fail
        refine (awake_true _).mono ?_
        rintro e w1 ⟨rfl, hb1⟩
        go_wp2_with fail
        go_ret
        exact ⟨rfl, hb1⟩
      · have d3 : decide (3000 ≤ wsum (l.take l.length)) = false := by simpa using h3
        have hll : l.length ≤ 1000 := by have := HLEN.out; simp at this h3; omega
        have hls := keep (show ∀ s ∈ l, s.size ≤ maxLen from fun s hs => by have := HLL.out s hs; unfold maxLen; omega)
        generalize wsum (l.take l.length) = x at *
        go_wp2_with fail
        refine (awake_true _).mono ?_
        rintro e w1 ⟨rfl, hb1⟩
        have hS1 := (hsc.below hb1 (Nat.le_refl _)).more hb1.size
        go_wp2_with fail
        refine (drawNew vc bs 100 _ hS1 hr (by omega) hm).mono ?_
        rintro e w2 ⟨gc, rfl, hgc, hC2, hb2⟩
        have hbw2 := bchain hb1 hb2
        have hgl := hC2.lt_
        have hz1 := hb1.size
        clear hb1 hb2 hS1
        go_wp2_with fail
        refine (words_any gc _ hC2).mono ?_
        rintro e w3 ⟨v3, l3, rfl, hl3, hll3, hown3, hC3, hg3⟩
        have hbw3 : Below w.heap.size w w3 := below_grown hbw2 hg3 hbw2.size (by omega)
        have hS3 := Sl.of_own hown3
        have hS := (hs.below hbw3 (Nat.le_refl _)).more hbw3.size
        obtain ⟨A3, c3, rfl, _, hS3⟩ := hS3.form
        clear hC2 hC3 hg3 hown3 hbw2
        go_wp2_with fail
        obtain ⟨W, hW⟩ : ∃ W, W = w3.alloc (.cells #[.slice A l.length c, .slice A3 l3.length c3] 40) := ⟨_, rfl⟩
        have hBk : Blk W w3.heap.size 40 #[.slice A l.length c, .slice A3 l3.length c3] := hW ▸ Blk.new _ _ _
        have hbW : Below w3.heap.size w3 W := hW ▸ (Below.refl _ w3).alloc (Nat.le_refl _) _
        rw [← hW]
        clear hW
        have hlb := hBk.lt
        have hbw := bchain hbw3 hbW
        have hSW := (hS.below hbW (Nat.le_refl _)).more hbW.size
        have hS3W := (hS3.below hbW (Nat.le_refl _)).more hbW.size
        have hll3' := keep (show ∀ s ∈ l3, s.size ≤ maxLen from fun s hs => by have := hll3 s hs; unfold maxLen; omega)
        clear hS hS3 hbW hbw3 hll3 hs hsc
        go_loopw [10, 11, 12, 13, 14, 15] (fun i _ _ _ _ _ wr => ∃ j : Nat, j ≤ 2 ∧ i = .int .i64 j ∧ Below W.heap.size W wr) (fun i _ _ _ _ _ _ => 2 - (intOf i).toNat)
        case atStart => exact ⟨0, Nat.zero_le _, rfl, Below.refl _ _⟩
        case round =>
          obtain ⟨j, hj, rfl, hbr⟩ := hrel
          obtain ⟨wx, rfl⟩ : ∃ wx : World, wx = wr := ⟨_, rfl⟩
          by_cases hj2 : j < 2
          · obtain ⟨vj, lj, hcell, hSj, hlj, hllj⟩ : ∃ (vj : Value) (lj : List ByteArray), wx.cell? ⟨w3.heap.size, j, none⟩ = some vj ∧ Sl wx (lt wx.heap.size) 1 vj lj.length (lj.map .string) ∧ lj.length ≤ 1000 ∧ Hid (∀ s ∈ lj, s.size ≤ maxLen) := by
              have hB := hBk.below hbr hlb
              match j, hj2 with
              | 0, _ => exact ⟨_, l, (hB.cell 0).trans rfl, (hSW.below hbr (Nat.le_refl _)).more hbr.size, hll, hls⟩
              | 1, _ => exact ⟨_, l3, (hB.cell 1).trans rfl, (hS3W.below hbr (Nat.le_refl _)).more hbr.size, by omega, hll3'⟩
            obtain ⟨Aj, cj, rfl, _, hSj⟩ := hSj.form
            have j1 : (j : Int) < 2 := by omega
            have dj : decide ((j : Int) < 2) = true := by simp; omega
            have hzx := hbr.size
            go_upto_if 53 with fail
            go_cut [11] (fun s11 wc => ∃ p : Int, s11 = .int .i64 p ∧ wc = wx)
            case first =>
              by_cases hj1 : j = 1
              · have d : ((j : Int) == 1) = true := by rw [beq_iff_eq]; omega
                clear hj1
                go_wp2_with fail
                refine (drawMod _ 70 _ (by omega)).mono ?_
                rintro e w' ⟨q, rfl, _, _, rfl⟩
                go_wp2_with fail
                go_meet
                exact ⟨q, rfl, rfl⟩
              · have d : ((j : Int) == 1) = false := by rw [beq_eq_false_iff_ne]; omega
                clear hj1
                go_wp2_with fail
                go_meet
                exact ⟨pw, rfl, rfl⟩
            case rest =>
              obtain ⟨p, rfl, rfl⟩ := hcut
              have hul := bspec_len lj p hlj
              go_wp2_with fail
              refine (build_any _ lj p _ hSj hlj hllj.out).mono ?_
              generalize hbq : bspec lj p = r at *
              have HBQ := keep hbq
              clear hbq
              rintro e w5 ⟨v5, rfl, hS5, hb5⟩
              obtain ⟨A5, c5, rfl, _, hS5⟩ := hS5.form
              have hz5 := hb5.size
              have hcell5 := (hb5.cell (p := ⟨w3.heap.size, j, none⟩) (Nat.lt_of_lt_of_le hlb hzx)).trans hcell
              have hlb5 : w3.heap.size < w5.heap.size := by omega
              have hba := (Below.refl w5.heap.size w5).alloc (Nat.le_refl _) (.cells #[.int .i64 r.1, .slice A5 r.2.1.length c5] 27)
              have hSj6 := (((hSj.below hb5 (Nat.le_refl _)).more hz5).below hba (Nat.le_refl _)).more hba.size
              have hS5' : Sl w5 (lt w5.heap.size) 1 (.slice A5 r.2.1.length c5) r.2.1.length (r.2.1.map (.int .u64)) := hS5.mono (fun _ hb => hb.2)
              have hS56 := (hS5'.below hba (Nat.le_refl _)).more hba.size
              have hB5 := Blk.new w5 27 #[.int .i64 r.1, .slice A5 r.2.1.length c5]
              clear hSj hS5 hS5'
              go_wp2_with fail
              refine (refBuild_any _ lj p _ hSj6 hlj hllj.out).mono ?_
              rw [HBQ.out]
              rintro e w6 ⟨v6, rfl, hS6, hb6⟩
              obtain ⟨A6, c6, rfl, _, hS6⟩ := hS6.form
              have hb6s := hb6.size
              simp only [World.size_alloc] at hb6s
              have hB6 := hB5.below hb6 (by simp)
              obtain ⟨u1, u2⟩ := hB6.cell2
              have hS57 := (hS56.below hb6 (Nat.le_refl _)).more hb6.size
              have hS6' : Sl w6 (lt w6.heap.size) 1 (.slice A6 r.2.1.length c6) r.2.1.length (r.2.1.map (.int .u64)) := hS6.mono (fun _ hb => hb.2)
              have hbb := (Below.refl w6.heap.size w6).alloc (Nat.le_refl _) (.cells #[.int .i64 r.1, .slice A6 r.2.1.length c6] 27)
              have hT1 := (hS57.below hbb (Nat.le_refl _)).more hbb.size
              have hT2 := (hS6'.below hbb (Nat.le_refl _)).more hbb.size
              have dne : (r.2.2 != r.2.2) = false := by simp
              have hlt56 : w5.heap.size < w6.heap.size := by omega
              have hbf := bchain (bchain (bchain (bchain hbr hb5) hba) hb6) hbb
              clear hS56 hS57 hS6 hS6' hSj6 hB5 hB6 hba hb6 hbb hcell
              go_wp2_with (go_at_call 22; refine (same_true r.1 r.2.1 _ _ _ hT1 hT2 (by omega)).mono ?_; rintro e w7 ⟨rfl, hb7⟩)
              go_roundw
              case rel => exact ⟨j + 1, by omega, by go_num, bchain hbf hb7⟩
              case measure => simp [intOf]; omega
          · go_wp2_with fail
            go_ret
            exact ⟨rfl, bchain hbw hbr⟩
end Go.Proofs.Ytfainbgbeojcpaa
