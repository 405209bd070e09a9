/- FingerprintScans: the walk of the statement. -/
import Derived.Test.YtgegmefnbkcdkaaScanB
import Derived.Test.YtgegmefnbkcdkaaLwDraw
import Derived.Test.YtgegmefnbkcdkaaRfM
namespace Go.Proofs.Ytgegmefnbkcdkaa
open Go.RowKit

theorem awake8 (w : World) : Calls Try.prog 6 #[] w fun e w' => e = .returned (.bool true) ∧ Below w.heap.size w w' := by
  have hb : BSl (w.alloc (.cells #[.int .u8 0, .int .u8 9] 5)) (fun b => b = w.heap.size) (.slice (some ⟨w.heap.size, 0, none⟩) 2 2) [0, 9] :=
    ⟨rfl, _, _, rfl, Nat.le_refl _, fun _ => ⟨_, 0, rfl, rfl, fun j u hu => by rw [Nat.zero_add]; exact (Blk.cell (Blk.new w 5 #[.int .u8 0, .int .u8 9]) j).trans (by simpa [ub] using hu)⟩⟩
  have HN := keep (number_ok _ _ 1 _ _ hb (by rfl))
  clear hb
  go_enter Try.func6, Try.ntmps6
  go_wp2_with fail
  refine HN.out.mono ?_
  rintro e w1 ⟨rfl, rfl⟩
  rw [show nfold (List.take (Int.toNat 1) [0, 9]) = 1 by rfl]
  go_wp2_with fail
  go_ret
  exact ⟨rfl, (Below.refl _ _).alloc (Nat.le_refl _) _⟩
theorem five_lit (w : World) (t : TypeId) : Sl (w.alloc (.cells #[.int .i64 1, .int .i64 2, .int .i64 3, .int .i64 4, .int .i64 5] t)) (lt (w.alloc (.cells #[.int .i64 1, .int .i64 2, .int .i64 3, .int .i64 4, .int .i64 5] t)).heap.size) 1 (.slice (some ⟨w.heap.size, 0, none⟩) 5 5) 5 (ints [1, 2, 3, 4, 5]) := by
  refine ⟨rfl, _, 5, rfl, Nat.le_refl _, fun _ => ⟨w.heap.size, 0, rfl, (Blk.new w t #[.int .i64 1, .int .i64 2, .int .i64 3, .int .i64 4, .int .i64 5]).lt, fun j u hu => ?_⟩⟩
  rw [Nat.zero_add]
  refine ((Blk.new w t #[.int .i64 1, .int .i64 2, .int .i64 3, .int .i64 4, .int .i64 5]).cell j).trans ?_
  simpa [ints] using hu
def ScanL (L : List Sn) (w : World) (x : Ending) (w' : World) : Prop := ∃ v, x = .returned v ∧ w'.ownsRow w.heap.size 54 3 v L.length (sns L) ∧ Below w.heap.size w w'
theorem long_same {l : List Sn} {file : Int} {s1 s2 : Sn} {a b : Bool} (h1 : longP l file = if a = true then some s1 else none) (z1 : a = false → s1 = ⟨0, 0, 0⟩) (h2 : longP l file = if b = true then some s2 else none) (z2 : b = false → s2 = ⟨0, 0, 0⟩) : s1 = s2 ∧ a = b := by
  rw [h1] at h2
  cases a <;> cases b
  · exact ⟨(z1 rfl).trans (z2 rfl).symm, rfl⟩
  · simp at h2
  · simp at h2
  · simp at h2; exact ⟨h2, rfl⟩
set_option maxHeartbeats 16000000 in
set_option maxRecDepth 100000 in
theorem law_scans (vc : Value) (bs : List Int) (pf : ByteArray) (size file : Int) (w : World) (hsc : Sl w (lt w.heap.size) 1 vc bs.length (bs.map (.int .u8))) (hr : ∀ x ∈ bs, 0 ≤ x ∧ x ≤ 255) (hm : bs.length ≤ maxLen) :
    Calls Try.prog 5 #[vc, .string pf, .int .i64 size, .int .i64 file] w fun e w' => e = .returned (.bool true) ∧ Below w.heap.size w w' := by
  obtain ⟨Ac, cc, rfl, hcc, hsc⟩ := hsc.form
  go_enter Try.func5, Try.ntmps5
  go_wp2_with fail
  refine (awake8 w).mono ?_
  rintro e w1 ⟨rfl, hb1⟩
  go_wp2_with fail
  refine (drawNew _ bs 240 _ ((hsc.below hb1 (Nat.le_refl _)).more hb1.size) hr (by omega) hm).mono ?_
  rintro e w2 ⟨gc, rfl, hgc, hC, hb2⟩
  have hbw : Below w.heap.size w w2 := bchain hb1 hb2
  have HC2 := keep hC
  have HBW := keep hbw
  have hgw : w.heap.size ≤ gc := Nat.le_trans hb1.size hgc
  have hg2 : gc < w2.heap.size := hC.lt_
  clear hsc hr hm hcc hb1 hb2 hC hbw hgc
  go_wp2_with fail
  refine (refNew_any w2).mono ?_
  rintro e w4 ⟨rfl, hb4⟩
  have hal : Below w4.heap.size w4 (w4.alloc (.cells #[.slice none 0 0, .slice none 0 0, .slice none 0 0] 40)) := (Below.refl _ w4).alloc (Nat.le_refl _) _
  have HC1 := keep ((HC2.out.under hb4 hg2).alloc (.cells #[.slice none 0 0, .slice none 0 0, .slice none 0 0] 40))
  have HF1 : Hid (Blk (w4.alloc (.cells #[.slice none 0 0, .slice none 0 0, .slice none 0 0] 40)) w4.heap.size 40 #[.slice none 0 0, .slice none 0 0, .slice none 0 0]) := keep (Blk.new w4 _ _)
  have HB1 := keep (bchain (bchain HBW.out hb4) hal)
  have HT1 : Hid (FsT (w4.alloc (.cells #[.slice none 0 0, .slice none 0 0, .slice none 0 0] 40)) (.slice none 0 0) (.slice none 0 0) (.slice none 0 0) ⟨[], [], []⟩) := keep (FsT.new _)
  have hgl : w4.heap.size < (w4.alloc (.cells #[.slice none 0 0, .slice none 0 0, .slice none 0 0] 40)).heap.size := HF1.out.lt
  have hgfc : gc < w4.heap.size := Nat.lt_of_lt_of_le hg2 hb4.size
  clear hal hb4 HC2 HBW hg2
  go_upto_region 5 with fail
  generalize w4.alloc (.cells #[.slice none 0 0, .slice none 0 0, .slice none 0 0] 40) = w5 at *
  generalize w4.heap.size = gf at *
  have hgfw : w.heap.size ≤ gf := by omega
  go_wp2_with fail
  refine (drawNext gc 12 _ HC1.out (by omega) (by omega)).mono ?_
  rintro e w3 ⟨n, rfl, n0, n1, _, hC3, hg3⟩
  have n2 := n1 (by omega)
  have HF3 := keep (HF1.out.grown hg3 (fun e => by injection e; omega))
  have HT3 := keep (Gr.fsT HT1.out HC1.out hg3)
  have HB3 := keep (below_grown HB1.out hg3 HB1.out.size hgw)
  have HC3 := keep hC3
  have HNN : Hid (n ≤ 1000) := keep (by omega)
  clear hC3 hg3 n1 n2 HF1 HT1 HB1 HC1 hgl
  go_wp2_with fail
  go_loopw [11] (fun i wr => ∃ (m : Int) (fk : FS) (vN vF vO : Value), i = .int .i64 m ∧ m ≤ 1000 ∧ Hid (Blk wr gf 40 #[vN, vF, vO]) ∧ Hid (FsT wr vN vF vO fk) ∧ Hid (Inv fk) ∧ Hid (SmB fk) ∧ Hid (Codes wr gc) ∧ Hid (Below w.heap.size w wr)) (fun i _ => (intOf i).toNat)
  case atStart => exact ⟨n, ⟨[], [], []⟩, _, _, _, rfl, HNN.out, HF3, HT3, keep Inv.new, keep SmB.new, HC3, HB3⟩
  case round =>
    clear HF3 HT3 HC3 HB3 HNN n0
    obtain ⟨m, fk, vN, vF, vO, rfl, hm1, HFk, HTk, HIk, HSk, HCk, HBk⟩ := hrel
    obtain ⟨wo, rfl⟩ : ∃ wo : World, wo = wr := ⟨_, rfl⟩
    obtain ⟨B1, d1, rfl, _, _⟩ := HTk.out.n.form
    obtain ⟨B2, d2, rfl, _, _⟩ := HTk.out.f.form
    obtain ⟨B3, d3, rfl, _, _⟩ := HTk.out.o.form
    obtain ⟨f0, f1, f2⟩ := HFk.out.cell3
    by_cases hp : 0 < m
    · have hd : decide (0 < m) = true := by simpa using hp
      have hal : Below wo.heap.size wo wo.drew := (Below.refl _ wo).drew
      have hJ0 : Codes wo.drew gc := HCk.out.under hal HCk.out.lt_
      have HFa := keep (HFk.out.below hal HFk.out.lt)
      have HTa := keep (HTk.out.up hal)
      have HBa := keep (HBk.out.drew)
      have hlw2 : gf < wo.heap.size := HFk.out.lt
      clear hal
      go_upto_region 8 with fail
      go_cut [] (fun wd => ∃ (fk : FS) (vN vF vO : Value), Hid (Blk wd gf 40 #[vN, vF, vO]) ∧ Hid (FsT wd vN vF vO fk) ∧ Hid (Inv fk) ∧ Hid (SmB fk) ∧ Hid (Codes wd gc) ∧ Hid (Below w.heap.size w wd))
      case first =>
        go_region_with (first
          | (go_at_call 17; refine (refDo_any _ _ _ fk ⟨kind, name, dst, .slice CA data.length CC, data, nn⟩ w6 HT6.out HIk.out (by have := HSk.out.2.1; omega) hc6.ok).mono ?_; rintro e w7 ⟨fs7, vN7, vF7, vO7, rfl, hT7, hP7, hI7, hO7, hb7⟩
             obtain ⟨E1, g1, rfl, _, _⟩ := hT7.n.form
             obtain ⟨E2, g2, rfl, _, _⟩ := hT7.f.form
             obtain ⟨E3, g3, rfl, _, _⟩ := hT7.o.form
             have HS7 := keep (HSk.out.step HIk.out hP7 hO7)
             clear hO7 hP7
             have hF7 := HF6.out.below hb7 HF6.out.lt
             obtain ⟨q0, q1, q2⟩ := hF7.cell3
             obtain ⟨p0, p1, p2⟩ := hF7.froz3)
          | (go_at_call 18; (with_reducible refine (makeChange gc _ _ hJ1).mono ?_); rintro e w6 ⟨c, rfl, hc6, hC6, hg6⟩
             obtain ⟨CA, CC, hcv, _, _⟩ := Sl.form hc6.r
             obtain ⟨kind, name, dst, dv, data, nn⟩ := c
             simp only at hcv
             subst hcv
             simp only [chV]
             have HF6 := keep (HF5.out.grown hg6 (fun e => by injection e; omega))
             have HT6 := keep (Gr.fsT HT5.out hJ1 hg6)
             have HB6 := keep (below_grown HB5.out hg6 HB5.out.size hgw)
             obtain ⟨l0, l1, l2⟩ := HF6.out.cell3)
          | (go_at_call 8; (with_reducible refine (drawNext gc 6 _ hJ0 (by omega) (by omega)).mono ?_); rintro e w5 ⟨r, rfl, r0, r1, _, hJ1, hg5⟩
             have HF5 := keep (HFa.out.grown hg5 (fun e => by injection e; omega))
             have HT5 := keep (Gr.fsT HTa.out hJ0 hg5)
             have HB5 := keep (below_grown HBa.out hg5 HBa.out.size hgw)
             obtain ⟨k0, k1, k2⟩ := HF5.out.cell3)
          | fail)
        all_goals
          have hgr := grown_three w7 gf (.slice E1 fs7.N.length g1) (.slice E2 fs7.F.length g2) (.slice E3 fs7.O.length g3)
          have HF8 := keep (hF7.three (.slice E1 fs7.N.length g1) (.slice E2 fs7.F.length g2) (.slice E3 fs7.O.length g3))
          have HT8 := keep (hT7.grown hF7 hgr (by decide) (by decide) (by decide) (by decide))
          have HC8 := keep ((hC6.under hb7 hC6.lt_).grown hgr (by omega))
          have HB8 := keep (below_three (g := gf) (HB6.out.trans (hb7.mono HB6.out.size)) hgfw (.slice E1 fs7.N.length g1) (.slice E2 fs7.F.length g2) (.slice E3 fs7.O.length g3))
          have HI8 := keep hI7
          clear hgr hF7 hT7 hI7 hb7 hC6 hc6 hg6 hg5 hJ0 hJ1 r1
          go_wp2_with fail
          go_meet
          case rel => exact ⟨fs7, _, _, _, HF8, HT8, HI8, HS7, HC8, HB8⟩
      case rest =>
        clear f0 f1 f2 hJ0 HFa HTa HBa HFk HTk HIk HSk HCk HBk
        obtain ⟨fk, vN, vF, vO, HFk, HTk, HIk, HSk, HCk, HBk⟩ := hcut
        obtain ⟨wv, rfl⟩ : ∃ wv : World, wv = wc := ⟨_, rfl⟩
        go_wp2_with fail
        refine (drawNext gc 4 _ HCk.out (by omega) (by omega)).mono ?_
        rintro e wt ⟨r, rfl, r0, r1, _, hCt, hgt⟩
        have HFt := keep (HFk.out.grown hgt (fun e => by injection e; omega))
        have HTt := keep (Gr.fsT HTk.out HCk.out hgt)
        have HBt := keep (below_grown HBk.out hgt HBk.out.size hgw)
        have HCt := keep hCt
        have hlt : gf < wt.heap.size := HFt.out.lt
        clear hCt hgt r1 HFk HTk HCk HBk
        by_cases h3 : r = 3
        · subst h3
          obtain ⟨C1, e1, rfl, _, _⟩ := HTt.out.n.form
          obtain ⟨C2, e2, rfl, _, _⟩ := HTt.out.f.form
          obtain ⟨C3, e3, rfl, _, _⟩ := HTt.out.o.form
          obtain ⟨f0, f1, f2⟩ := HFt.out.cell3
          have hal : Below wt.heap.size wt (wt.alloc (.cells #[.int .i64 1, .int .i64 2, .int .i64 3, .int .i64 4, .int .i64 5] 3)) := (Below.refl _ wt).alloc (Nat.le_refl _) _
          have HH := keep (refHold_any _ _ _ (.slice (some ⟨wt.heap.size, 0, none⟩) 5 5) fk [1, 2, 3, 4, 5] _ (HTt.out.up hal) HIk.out (by have := HSk.out.2.1; omega) (five_lit wt 3) (by simp))
          have HFl := keep (HFt.out.below hal hlt)
          have HBl := keep (HBt.out.trans (hal.mono HBt.out.size))
          have HCl := keep (HCt.out.under hal HCt.out.lt_)
          clear hal
          go_wp2_with fail
          refine HH.out.mono ?_
          rintro e w7 ⟨fs7, vN7, vF7, vO7, rfl, hT7, hP7, hI7, hO7, hb7⟩
          obtain ⟨E1, g1, rfl, _, _⟩ := hT7.n.form
          obtain ⟨E2, g2, rfl, _, _⟩ := hT7.f.form
          obtain ⟨E3, g3, rfl, _, _⟩ := hT7.o.form
          have hO8 : fs7.O.length ≤ 5 := by
            have h1 : fs7.O = heldP fk.p.F [1, 2, 3, 4, 5] := congrArg PD.O hP7
            rw [h1]
            exact heldP_len HIk.out _
          have HS7 := keep (HSk.out.hold HIk.out hP7 (by omega))
          have hF7 := HFl.out.below hb7 HFl.out.lt
          obtain ⟨q0, q1, q2⟩ := hF7.cell3
          obtain ⟨p0, p1, p2⟩ := hF7.froz3
          have hgr := grown_three w7 gf (.slice E1 fs7.N.length g1) (.slice E2 fs7.F.length g2) (.slice E3 fs7.O.length g3)
          have HF8 := keep (hF7.three (.slice E1 fs7.N.length g1) (.slice E2 fs7.F.length g2) (.slice E3 fs7.O.length g3))
          have HT8 := keep (hT7.grown hF7 hgr (by decide) (by decide) (by decide) (by decide))
          have HC8 := keep ((HCl.out.under hb7 HCl.out.lt_).grown hgr (by omega))
          have HB8 := keep (below_three (g := gf) (HBl.out.trans (hb7.mono HBl.out.size)) hgfw (.slice E1 fs7.N.length g1) (.slice E2 fs7.F.length g2) (.slice E3 fs7.O.length g3))
          have HI8 := keep hI7
          clear hgr hF7 hT7 hI7 hb7 hO7 hP7 hO8 f0 f1 f2 HH HFl HBl HCl
          go_wp2_with fail
          go_roundw
          case rel => exact ⟨m - 1, fs7, _, _, _, by go_num, by omega, HF8, HT8, HI8, HS7, HC8, HB8⟩
          case measure => simp [intOf]; omega
        · have hd3 : (r == 3) = false := by simpa using h3
          clear h3
          go_wp2_with fail
          go_roundw
          case rel => exact ⟨m - 1, fk, _, _, _, by go_num, by omega, HFt, HTt, HIk, HSk, HCt, HBt⟩
          case measure => simp [intOf]; omega
    · have hd : decide (0 < m) = false := by simpa using hp
      clear hp
      have hal : Below wo.heap.size wo (wo.alloc (.cells #[.string pf, .string ⟨#[]⟩, .string ⟨#[97, 112, 112]⟩, .string ⟨#[97, 112, 112, 46]⟩] 9)) := (Below.refl _ wo).alloc (Nat.le_refl _) _
      have HLS := keep (Blk.new wo 9 #[.string pf, .string ⟨#[]⟩, .string ⟨#[97, 112, 112]⟩, .string ⟨#[97, 112, 112, 46]⟩])
      have HFb := keep (HFk.out.below hal HFk.out.lt)
      have HTb := keep (HTk.out.up hal)
      have HBb := keep (HBk.out.trans (hal.mono HBk.out.size))
      clear hal f0 f1 f2 HFk HTk HBk HCk
      go_wp2_with fail
      obtain ⟨wl, hwl⟩ : ∃ wl : World, wl = wo.alloc (.cells #[.string pf, .string ⟨#[]⟩, .string ⟨#[97, 112, 112]⟩, .string ⟨#[97, 112, 112, 46]⟩] 9) := ⟨_, rfl⟩
      rw [← hwl] at HLS HFb HTb HBb ⊢
      generalize wo.heap.size = gs at HLS ⊢
      clear hwl
      go_loopw [52] (fun u52 wr => ∃ k : Nat, u52 = .int .i64 k ∧ k ≤ 4 ∧ Hid (Below wl.heap.size wl wr)) (fun u52 _ => 4 - (intOf u52).toNat)
      case atStart => exact ⟨0, rfl, Nat.zero_le _, keep (Below.refl _ _)⟩
      case round =>
        obtain ⟨k, rfl, hk, hBr⟩ := hrel
        obtain ⟨wp, rfl⟩ : ∃ wp : World, wp = wr := ⟨_, rfl⟩
        by_cases hlt : k < 4
        · have hps : ∃ p : ByteArray, wp.cell? ⟨gs, k, none⟩ = some (.string p) := by
            have hb := HLS.out.below hBr.out HLS.out.lt
            have h4 : k = 0 ∨ k = 1 ∨ k = 2 ∨ k = 3 := by omega
            rcases h4 with rfl | rfl | rfl | rfl
            · exact ⟨_, (hb.cell 0).trans rfl⟩
            · exact ⟨_, (hb.cell 1).trans rfl⟩
            · exact ⟨_, (hb.cell 2).trans rfl⟩
            · exact ⟨_, (hb.cell 3).trans rfl⟩
          obtain ⟨p, hp⟩ := hps
          have i0 : (0 : Int) ≤ (k : Int) := by omega
          have i1 : (k : Int) < 4 := by omega
          have hal : Below wp.heap.size wp (wp.alloc (.cells #[.int .i64 size, .int .i64 7, .int .i64 1] 3)) := (Below.refl _ wp).alloc (Nat.le_refl _) _
          have HNS := keep (Blk.new wp 3 #[.int .i64 size, .int .i64 7, .int .i64 1])
          have HBn := keep (hBr.out.trans (hal.mono hBr.out.size))
          clear hal
          go_wp2_with fail
          obtain ⟨wn, hwn⟩ : ∃ wn : World, wn = wp.alloc (.cells #[.int .i64 size, .int .i64 7, .int .i64 1] 3) := ⟨_, rfl⟩
          rw [← hwn] at HNS HBn ⊢
          generalize wp.heap.size = gn at HNS ⊢
          clear hwn hp
          go_loopw [59] (fun u59 wr => ∃ j : Nat, u59 = .int .i64 j ∧ j ≤ 3 ∧ Hid (Below wn.heap.size wn wr)) (fun u59 _ => 3 - (intOf u59).toNat)
          case atStart => exact ⟨0, rfl, Nat.zero_le _, keep (Below.refl _ _)⟩
          case round =>
            obtain ⟨j, rfl, hj, hBs⟩ := hrel
            obtain ⟨wq, rfl⟩ : ∃ wq : World, wq = wr := ⟨_, rfl⟩
            by_cases hltj : j < 3
            · have hks : ∃ kk : Int, wq.cell? ⟨gn, j, none⟩ = some (.int .i64 kk) := by
                have hb := HNS.out.below hBs.out HNS.out.lt
                have h3 : j = 0 ∨ j = 1 ∨ j = 2 := by omega
                rcases h3 with rfl | rfl | rfl
                · exact ⟨_, (hb.cell 0).trans rfl⟩
                · exact ⟨_, (hb.cell 1).trans rfl⟩
                · exact ⟨_, (hb.cell 2).trans rfl⟩
              obtain ⟨kk, hkk⟩ := hks
              have j0 : (0 : Int) ≤ (j : Int) := by omega
              have j1 : (j : Int) < 3 := by omega
              have HBq := keep (bchain HBn.out hBs.out)
              have HFq := keep (HFb.out.below HBq.out HFb.out.lt)
              have HTq := keep (HTb.out.up HBq.out)
              have HL1 : Hid ((scanP fk.p p kk).length ≤ 140) := keep (by
                have h1 := scan_len fk.p p kk
                have h2 := HIk.out.count
                have h3 := HSk.out.2.1
                have h4 : fk.p.F.length = fk.F.length := by simp [FS.p]
                omega)
              have HSC : Hid (Calls Try.prog 20 #[.agg #[.slice B1 fk.N.length d1, .slice B2 fk.F.length d2, .slice B3 fk.O.length d3], .string p, .int .i64 kk] wq (ScanL (scanP fk.p p kk) wq)) := keep (scan_any _ _ _ fk p kk wq HTq.out HIk.out (by have := HSk.out.2.1; omega) (HSk.out.smi HIk.out))
              have HRS : Hid (∀ W, Below wq.heap.size wq W → Calls Try.prog 22 #[.agg #[.slice B1 fk.N.length d1, .slice B2 fk.F.length d2, .slice B3 fk.O.length d3], .string p, .int .i64 kk] W (ScanL (scanP fk.p p kk) W)) := keep (fun W hW => refScan_any _ _ _ fk p kk W (HTq.out.up hW) HIk.out (by have := HSk.out.2.1; omega))
              generalize scanP fk.p p kk = L at HSC HRS HL1
              obtain ⟨f0, f1, f2⟩ := HFq.out.cell3
              go_wp2_with fail
              refine HSC.out.mono ?_
              rintro e w6 ⟨v6, rfl, ho6, hb6⟩
              obtain ⟨A6, c6, rfl, _⟩ := own_sl ho6
              have hF6 := HFq.out.below hb6 HFq.out.lt
              obtain ⟨q0, q1, q2⟩ := hF6.cell3
              have HO6 := keep ho6
              have HR6 := keep (HRS.out w6 hb6)
              have HB6 := keep hb6
              clear ho6 hb6 hF6 f0 f1 f2 hkk HSC HRS
              go_wp2_with fail
              refine HR6.out.mono ?_
              rintro e w7 ⟨v7, rfl, ho7, hb7⟩
              obtain ⟨A7, c7, rfl, _⟩ := own_sl ho7
              have HO67 := keep (own_bel HO6.out hb7)
              have HB7 := keep (bchain HB6.out hb7)
              have HSM := keep (sameSn_any _ _ L w7 (Sl.of_own (own_bel HO6.out hb7)) (Sl.of_own ho7) (by have := HL1.out; omega))
              clear ho7 hb7 HR6 HO6 q0 q1 q2
              go_wp2_with fail
              refine HSM.out.mono ?_
              rintro e w8 ⟨rfl, hb8⟩
              have HO8 := keep (own_bel HO67.out hb8)
              have HB8 := keep (bchain HB7.out hb8)
              clear hb8 HSM HO67
              go_wp2_with (refine wpList_pushKeep elSn rfl rfl _ _ _ rfl rfl rfl wq.heap.size _ (.agg #[.int .i64 file, .int .i64 0, .int .i64 0]) L.length _ rfl (fun _ => rfl) (fun _ => rfl) HO8.out rfl (by intro c hc; simp [Value.cells] at hc; rcases hc with rfl | rfl | rfl <;> rfl) (by decide) (by have := HL1.out; unfold maxLen; omega) (by have := HL1.out; omega) HB8.out.size ?_; intro g cap w9 hown9 hb9 hg9 hgl9 hold9)
              have hM9 : w9.ownsRow wq.heap.size 54 3 (.slice (some ⟨g, 0, none⟩) (L.length + 1) cap) (L ++ [(⟨file, 0, 0⟩ : Sn)]).length (sns (L ++ [⟨file, 0, 0⟩])) := by
                rw [List.length_append, sns_append]
                exact hown9
              have HM9 := keep (Sl.of_own hM9)
              have HV9 := keep (Sl.of_own hold9)
              have HB9 := keep (HB8.out.trans hb9)
              have HLL : Hid ((L ++ [(⟨file, 0, 0⟩ : Sn)]).length = L.length + 1) := keep (by simp)
              clear hown9 hb9 hg9 hgl9 hold9 hM9
              generalize L ++ [(⟨file, 0, 0⟩ : Sn)] = M at HM9 HLL
              have hL140 : (L.length : Int) ≤ 140 := by have := HL1.out; omega
              go_wp2_with fail
              go_loopw [80] (fun u80 wr => ∃ i : Nat, u80 = .int .i64 i ∧ i ≤ L.length + 1 ∧ Hid (Below w9.heap.size w9 wr)) (fun u80 _ => L.length + 1 - (intOf u80).toNat)
              case atStart => exact ⟨0, rfl, Nat.zero_le _, keep (Below.refl _ _)⟩
              case round =>
                obtain ⟨i, rfl, hi, hBt⟩ := hrel
                obtain ⟨wx, rfl⟩ : ∃ wx : World, wx = wr := ⟨_, rfl⟩
                by_cases hlti : i < L.length + 1
                · have hiM : i < M.length := by rw [HLL.out]; exact hlti
                  have hM := HM9.out
                  rw [← HLL.out] at hM
                  obtain ⟨b, o, hA, _, c0, c1, c2⟩ := sn_cells (hM.below hBt.out (Nat.le_refl _)) hiM
                  injection hA with hA
                  injection hA with hA1 hA2 _
                  subst hA1 hA2
                  generalize M[i] = s at c0 c1 c2
                  obtain ⟨sf, si, sz⟩ := s
                  simp only [Nat.zero_add] at c0 c1 c2
                  have e0 : (0 : Int) ≤ (i : Int) := by omega
                  have e1 : (i : Int) < (L.length : Int) + 1 := by omega
                  have hal : Below wx.heap.size wx (wx.alloc (.cells #[.int .i64 sf, .int .i64 si, .int .i64 sz] 54)) := (Below.refl _ wx).alloc (Nat.le_refl _) _
                  have HBx := keep (hBt.out.trans (hal.mono hBt.out.size))
                  have HX0 := keep (Blk.new wx 54 #[.int .i64 sf, .int .i64 si, .int .i64 sz])
                  have HLO := keep (longest_any (.slice A6 L.length c6) L sf _ ((HV9.out.below (hBt.out.trans (hal.mono hBt.out.size)) (Nat.le_refl _)).more (hBt.out.trans (hal.mono hBt.out.size)).size) (by have := HL1.out; omega))
                  have HVx := keep ((HV9.out.below (hBt.out.trans (hal.mono hBt.out.size)) (Nat.le_refl _)).more (hBt.out.trans (hal.mono hBt.out.size)).size)
                  clear hal hM hBt
                  go_wp2_with fail
                  refine HLO.out.mono ?_
                  rintro e w10 ⟨s1, ok1, hl1, hz1, rfl, hb10⟩
                  obtain ⟨s1f, s1i, s1z⟩ := s1
                  have hal : Below w10.heap.size w10 (w10.alloc (.cells #[.int .i64 s1f, .int .i64 s1i, .int .i64 s1z] 54)) := (Below.refl _ w10).alloc (Nat.le_refl _) _
                  have hb11 := bchain hb10 hal
                  have HX1 := keep (Blk.new w10 54 #[.int .i64 s1f, .int .i64 s1i, .int .i64 s1z])
                  have HB11 := keep (HBx.out.trans (hb11.mono HBx.out.size))
                  have hX01 := HX0.out.below hb11 HX0.out.lt
                  obtain ⟨x0, x1, x2⟩ := hX01.cell3
                  have HLR := keep (refLongest_any (.slice A6 L.length c6) L sf _ ((HVx.out.below hb11 (Nat.le_refl _)).more hb11.size) (by have := HL1.out; omega))
                  have HL1Z := keep (And.intro hl1 hz1)
                  clear hal hb10 hb11 hX01 HLO HVx HX0 hl1 hz1 HBx c0 c1 c2
                  go_wp2_with fail
                  refine HLR.out.mono ?_
                  rintro e w12 ⟨s2, ok2, hl2, hz2, rfl, hb12⟩
                  obtain ⟨hs12, hok⟩ := long_same HL1Z.out.1 HL1Z.out.2 hl2 hz2
                  subst hs12 hok
                  have hal : Below w12.heap.size w12 (w12.alloc (.cells #[.int .i64 s1f, .int .i64 s1i, .int .i64 s1z] 54)) := (Below.refl _ w12).alloc (Nat.le_refl _) _
                  have hb13 := bchain hb12 hal
                  have HX2 := keep (Blk.new w12 54 #[.int .i64 s1f, .int .i64 s1i, .int .i64 s1z])
                  have HB13 := keep (HB11.out.trans (hb13.mono HB11.out.size))
                  have hX12 := HX1.out.below hb13 HX1.out.lt
                  obtain ⟨y0, y1, y2⟩ := hX12.cell3
                  have hne : (ok1 != ok1) = false := by simp
                  clear hal hb12 hb13 hX12 HLR HX1 HL1Z hl2 hz2 HB11 x0 x1 x2
                  go_wp2_with fail
                  go_roundw
                  case rel => exact ⟨i + 1, by go_num, by omega, HB13⟩
                  case measure => simp [intOf]; omega
                · have HBe := keep (hBs.out.trans ((HB9.out.trans (hBt.out.mono HB9.out.size)).mono hBs.out.size))
                  clear hBt
                  go_wp2_with fail
                  go_roundw
                  case rel => exact ⟨j + 1, by go_num, by omega, HBe⟩
                  case measure => simp [intOf]; omega
            · have HBe := keep (HBn.out.trans (hBs.out.mono HBn.out.size))
              go_wp2_with fail
              go_roundw
              case rel => exact ⟨k + 1, by go_num, by omega, HBe⟩
              case measure => simp [intOf]; omega
        · go_wp2_with fail
          go_ret
          exact ⟨rfl, bchain HBb.out hBr.out⟩
end Go.Proofs.Ytgegmefnbkcdkaa
