/- FingerprintStays: the walk of the statement. -/
import Derived.Test.YtgegmefnbkcdkaaDoorStaysP
import Derived.Test.YtgegmefnbkcdkaaDoorFsLook
import Derived.Test.YtgegmefnbkcdkaaDoorMakeData
namespace Go.Proofs.YtgegmefnbkcdkaaDoor
open Go.RowKit

theorem awake8 (w : World) : Calls Tryd.prog 4 #[] w fun e w' => e = .returned (.bool true) ∧ Below w.heap.size w w' := by
  have hb : BSl (w.alloc (.cells #[.int .u8 0, .int .u8 9] 5)) (fun b => b = w.heap.size) (.slice (some ⟨w.heap.size, 0, none⟩) 2 2) [0, 9] :=
    ⟨rfl, _, _, rfl, Nat.le_refl _, fun _ => ⟨_, 0, rfl, rfl, fun j u hu => by rw [Nat.zero_add]; exact (Blk.cell (Blk.new w 5 #[.int .u8 0, .int .u8 9]) j).trans (by simpa [ub] using hu)⟩⟩
  have HN := keep (number_ok _ _ 1 _ _ hb (by rfl))
  clear hb
  go_enter Tryd.func4, Tryd.ntmps4
  go_wp2_with fail
  refine HN.out.mono ?_
  rintro e w1 ⟨rfl, rfl⟩
  rw [show nfold (List.take (Int.toNat 1) [0, 9]) = 1 by rfl]
  go_wp2_with fail
  go_ret
  exact ⟨rfl, (Below.refl _ _).alloc (Nat.le_refl _) _⟩
theorem lit_sl (w : World) (cs : List Value) (t : TypeId) (fz : Nat × Nat) (size n g : Nat) (hg : g = w.heap.size) (h : cs.length = n * size) : Sl (w.alloc (.cells cs.toArray t fz)) (lt (w.alloc (.cells cs.toArray t fz)).heap.size) size (.slice (some ⟨g, 0, none⟩) n n) n cs := by
  subst hg
  refine ⟨h, _, n, rfl, Nat.le_refl _, fun _ => ⟨w.heap.size, 0, rfl, by simp [lt], fun j u hu => ?_⟩⟩
  rw [Nat.zero_add, World.cell?_alloc_mark w cs.toArray t fz j]
  simpa using hu
theorem lit_chs (w : World) (L : List Ch) (t : TypeId) (g : Nat) (hg : g = w.heap.size) (h : ∀ c ∈ L, ChOk w c) : ChsR (w.alloc (.cells (L.flatMap fun c => (chV c).toList).toArray t)) (.slice (some ⟨g, 0, none⟩) L.length L.length) L :=
  ⟨lit_sl w _ t (0, 0) 5 L.length g hg (rows_len chL_len L), fun c hc => (h c hc).up ((Below.refl _ w).alloc (Nat.le_refl _) _)⟩
theorem ok_ch {w : World} {k n : Int} {nm dst : ByteArray} {dv : Value} {data : List UInt8} (h : BR w dv data) (hb : data.length ≤ 1000000 ∧ n ≤ 9223372036854775807 ∧ nm.size ≤ 9223372036854775807 ∧ dst.size ≤ 9223372036854775807) : ChOk w ⟨k, nm, dst, dv, data, n⟩ := ⟨h, hb.1, hb.2.1, hb.2.2.1, hb.2.2.2⟩
/-- What the run gives: the directory, and no error. -/
def StayRun (data : List UInt8) (K : Int) (w : World) (x : Ending) (w' : World) : Prop := ∃ (fs : FS) (vN vF vO : Value) (eb eo ec : Nat), x = .returned (.tuple #[.agg #[vN, vF, vO], .slice (some ⟨eb, eo, none⟩) 3 ec]) ∧ FsT w' vN vF vO fs ∧ fs.p = d3P data K ∧ Inv fs ∧ SmI fs ∧ fs.O = [] ∧ w'.cell? ⟨eb, eo + 2, none⟩ = some (.int .i64 0) ∧ Below w.heap.size w w'
theorem stay_run (vd : Value) (data : List UInt8) (K : Int) (w : World) (h : BR w vd data) (hd : data.length ≤ 60000) (hK : 1 ≤ K) (hK2 : K ≤ 100) (hg : Chg w) :
    Calls Tryd.prog 8 #[.agg #[.slice none 0 0, .slice none 0 0, .slice none 0 0], .slice (some ⟨w.heap.size, 0, none⟩) 3 3]
      (w.alloc (.cells #[.int .i64 1, .string ⟨#[97, 112, 112]⟩, .string ⟨#[]⟩, vd, .int .i64 0, .int .i64 5, .string ⟨#[97, 112, 112]⟩, .string ⟨#[97, 112, 112, 46, 99]⟩, .slice none 0 0, .int .i64 0, .int .i64 6, .string ⟨#[97, 112, 112, 46, 99]⟩, .string ⟨#[]⟩, .slice none 0 0, .int .i64 K] 39))
      (StayRun data K w) := by
  obtain ⟨L, hL⟩ : ∃ L : List Ch, L = [⟨1, appS, ⟨#[]⟩, vd, data, 0⟩, ⟨5, appS, appC, .slice none 0 0, [], 0⟩, ⟨6, appC, ⟨#[]⟩, .slice none 0 0, [], K⟩] := ⟨_, rfl⟩
  have hs : appS.size = 3 := rfl
  have hc : appC.size = 5 := rfl
  have hok : ∀ c ∈ L, ChOk w c := by
    rw [hL]
    intro c hx
    simp only [List.mem_cons, List.not_mem_nil, or_false] at hx
    rcases hx with rfl | rfl | rfl
    · exact ok_ch h ⟨by omega, by omega, by omega, by decide⟩
    · exact ok_ch (Sl.nil _ _ _ _ _) ⟨by decide, by omega, by omega, by omega⟩
    · exact ok_ch (Sl.nil _ _ _ _ _) ⟨by decide, by omega, by omega, by decide⟩
  have hlit := lit_chs w L 39 w.heap.size rfl hok
  have hb : Below w.heap.size w (w.alloc (.cells (L.flatMap fun c => (chV c).toList).toArray 39)) := (Below.refl _ w).alloc (Nat.le_refl _) _
  have hrun := run_any _ _ _ _ ⟨[], [], []⟩ L _ (FsT.new _) Inv.new (by simp) hlit (by rw [hL]; simp) (hg.up hb)
  have hLf : (L.flatMap fun c => (chV c).toList).toArray = #[.int .i64 1, .string ⟨#[97, 112, 112]⟩, .string ⟨#[]⟩, vd, .int .i64 0, .int .i64 5, .string ⟨#[97, 112, 112]⟩, .string ⟨#[97, 112, 112, 46, 99]⟩, .slice none 0 0, .int .i64 0, .int .i64 6, .string ⟨#[97, 112, 112, 46, 99]⟩, .string ⟨#[]⟩, .slice none 0 0, .int .i64 K] := by rw [hL]; rfl
  have hLl : L.length = 3 := by rw [hL]; rfl
  have hLp : L.map Ch.p = [⟨1, appS, ⟨#[]⟩, data, 0⟩, ⟨5, appS, appC, [], 0⟩, ⟨6, appC, ⟨#[]⟩, [], K⟩] := by rw [hL]; rfl
  rw [hLf] at hrun hb
  unfold RunOut at hrun
  rw [hLp, hLl, show FS.p ⟨[], [], []⟩ = PD.mk [] [] [] from rfl, run3P data K hK hd] at hrun
  refine hrun.mono ?_
  rintro e w3 ⟨fs, vN, vF, vO, vE, rfl, hT, hP, hI, hO, hE, hb3⟩
  obtain ⟨E1, ce, rfl, _, hE⟩ := hE.form
  obtain ⟨eb, eo, u, rfl, _, hu, he⟩ := hE.at_ (k := 2) (by omega)
  have hu2 : u = .int .i64 0 := by simpa [ints] using hu.symm
  subst hu2
  have hsb : SmB fs := by
    refine ⟨fun t ht => ?_, by rw [hO]; simp, by rw [hO]; simp⟩
    have h1 : t.p ∈ fs.p.F := List.mem_map.2 ⟨t, ht, rfl⟩
    rw [hP] at h1
    simp only [d3P, List.mem_cons, List.not_mem_nil, or_false] at h1
    have h2 : t.ino = t.p.ino := rfl
    rcases h1 with h1 | h1
    · rw [h2, h1]; simp
    · rw [h2, h1]; simp
  exact ⟨fs, vN, vF, vO, eb, eo, ce, rfl, hT, hP, hI, hsb.smi hI, hO, he, bchain hb hb3⟩
theorem num_ex (v : Value) (l : List UInt8) (K : Int) (w : World) (S : Nat → Prop) (h : BSl w S v l) : ∃ (q : Int) (ok : Bool), numOk l K = ok ∧ (ok = true → q = nfold (l.take K.toNat)) ∧ Calls Tryd.prog 7 #[v, .int .i64 K] w fun e w' => e = .returned (.tuple #[.int .i64 q, .bool ok]) ∧ w = w' := by
  cases hok : numOk l K with
  | false => exact ⟨0, false, rfl, (by intro e; cases e), number_no v l K w S h hok⟩
  | true => exact ⟨_, true, rfl, fun _ => rfl, number_ok v l K w S h hok⟩
theorem sn_cells3 {w : World} {S : Nat → Prop} {A : Option Addr} {c k : Nat} {L : List Sn} (h : Sl w S 3 (.slice A L.length c) L.length (sns L)) (hk : k < L.length) :
    ∃ b o, A = some ⟨b, o, none⟩ ∧ S b ∧ w.cell? ⟨b, o + k * 3, none⟩ = some (.int .i64 L[k].file) ∧ w.cell? ⟨b, o + k * 3 + 1, none⟩ = some (.int .i64 L[k].ino) ∧ w.cell? ⟨b, o + k * 3 + 2, none⟩ = some (.int .i64 L[k].size) := by
  obtain ⟨b, o, hA, hb, hrow⟩ := h.row (by omega)
  have q : ∀ j, j < 3 → ∀ u, (snV L[k])[j]? = some u → w.cell? ⟨b, o + k * 3 + j, none⟩ = some u := fun j hj u hu => by
    have := hrow _ _ ((rows_at snV_len L k hk j hj).trans hu)
    rwa [← Nat.add_assoc] at this
  exact ⟨b, o, hA, hb, q 0 (by omega) _ rfl, q 1 (by omega) _ rfl, q 2 (by omega) _ rfl⟩
def ScanL (L : List Sn) (w : World) (x : Ending) (w' : World) : Prop := ∃ v, x = .returned v ∧ w'.ownsRow w.heap.size 45 3 v L.length (sns L) ∧ Below w.heap.size w w'
set_option maxHeartbeats 16000000 in
set_option maxRecDepth 100000 in
theorem law_stays (vc vm : Value) (bs : List Int) (more : List UInt8) (sz : Int) (w : World) (hg : Chg w) (hsc : Sl w (lt w.heap.size) 1 vc bs.length (bs.map (.int .u8))) (hr : ∀ x ∈ bs, 0 ≤ x ∧ x ≤ 255) (hm : bs.length ≤ maxLen)
    (hsm : BSl w (lt w.heap.size) vm more) (hml : more.length ≤ 140737488351232) (hz0 : 0 ≤ sz) (hz1 : sz ≤ 255) :
    Calls Tryd.prog 3 #[vc, vm, .int .u8 sz] w fun e w' => e = .returned (.bool true) ∧ Below w.heap.size w w' := by
  obtain ⟨Ac, cc, rfl, hcc, hsc⟩ := hsc.form
  have HG := keep hg
  have HSM := keep hsm
  have HML := keep hml
  clear hg hsm hml
  obtain ⟨K, hK⟩ : ∃ K : Int, 1 + sz % 20 = K := ⟨_, rfl⟩
  have hK1 : 1 ≤ K := by omega
  have hK2 : K ≤ 20 := by omega
  have HK := keep hK
  clear hK
  go_enter Tryd.func3, Tryd.ntmps3
  go_wp2_with fail
  refine (awake8 w).mono ?_
  rintro e w1 ⟨rfl, hb1⟩
  go_wp2_with fail
  rw [HK.out]
  refine (drawNew _ bs 60 _ ((hsc.below hb1 (Nat.le_refl _)).more hb1.size) hr (by omega) hm).mono ?_
  rintro e w2 ⟨gc, rfl, hgc, hC, hb2⟩
  have HBW := keep (bchain hb1 hb2)
  have hgw : w.heap.size ≤ gc := Nat.le_trans hb1.size hgc
  clear hsc hr hm hcc hb1 hb2 hgc
  go_wp2_with fail
  refine (makeData gc sz 2 _ hC (by omega) (by omega)).mono ?_
  rintro e w3 ⟨v3, data, rfl, hown3, _, hdl, _, hg3⟩
  have hb3 : Below w.heap.size w w3 := below_grown HBW.out hg3 HBW.out.size hgw
  obtain ⟨A3, c3, rfl, _, hown3⟩ := hown3.form
  have HO3 := keep hown3
  have HB3 := keep hb3
  have hd : (data.length : Int) ≤ 1800 := by omega
  have HD : Hid (data.length ≤ 1800) := keep (by omega)
  clear hb3 hown3 hg3 hdl hC HBW
  obtain ⟨q, ok, hok, hq, hN1⟩ := num_ex _ data K w3 _ HO3.out.slt
  have HOK := keep hok
  have HQ := keep hq
  have HN1 := keep hN1
  clear hok hq hN1
  go_wp2_with fail
  refine HN1.out.mono ?_
  rintro e w4 ⟨rfl, rfl⟩
  go_wp2_with (first
    | ((with_reducible refine wpList_appendBb elBytes rfl _ _ rfl w3.heap.size v5 data rfl HO5.out _ _ more rfl HM5.out (by have := HD.out; have := HML.out; omega) hz5 ?_); intro v6 w6 ho6 hb6 _)
    | ((with_reducible refine wpList_appendBb elBytes rfl _ _ rfl w3.heap.size (.slice none 0 0) [] rfl (OwnB.nil _ _) _ _ data rfl HO3.out.slt (by have := HD.out; simp; omega) (Nat.le_refl _) ?_); intro v5 w5 ho5 hb5 _
       rw [List.nil_append] at ho5
       have HB5 := keep (HB3.out.trans (hb5.mono HB3.out.size))
       have HO5 := keep ho5
       have HO35 := keep (HO3.out.slt.below hb5 (Nat.le_refl _))
       have HM5 := keep (show BSl w5 (lt w5.heap.size) vm more from (HSM.out.below HB5.out (Nat.le_refl _)).more HB5.out.size)
       have hz5 := hb5.size
       clear ho5 hb5))
  obtain ⟨A6, c6, rfl, _, ho6⟩ := ho6.form
  have HO6 := keep ho6
  have HB6 := keep (HB5.out.trans (hb6.mono HB3.out.size))
  have HO36 : Hid (BSl w6 (lt w6.heap.size) (.slice A3 data.length c3) data) := keep ((HO35.out.below hb6 (Nat.le_refl _)).more (Nat.le_trans hz5 hb6.size))
  obtain ⟨q2, ok2, hok2, hq2, hN2⟩ := num_ex _ (data ++ more) K w6 _ ho6.slt
  have HN2 := keep hN2
  have HSAM : Hid (ok = true → ok2 = true ∧ q = q2) := keep (fun e => by
    have h1 := numOk_app more (HOK.out.trans e)
    have h2 : ok2 = true := by rw [← hok2]; exact h1.1
    exact ⟨h2, by rw [HQ.out e, hq2 h2, h1.2]⟩)
  clear hok2 hq2 hN2 ho6 hb6 HO35 HO5 HM5 hz5 HO6 HB5
  refine HN2.out.mono ?_
  rintro e w7 ⟨rfl, rfl⟩
  go_wp2_with fail
  refine (new_any w6).mono ?_
  rintro e w7 ⟨rfl, hb7⟩
  have HB7 := keep (HB6.out.trans (hb7.mono HB6.out.size))
  have hbr : BR w7 (.slice A3 data.length c3) data := (HO36.out.below hb7 (Nat.le_refl _)).more hb7.size
  have HRUN := keep (stay_run (.slice A3 data.length c3) data K w7 hbr (by have := HD.out; omega) hK1 (by omega) (HG.out.up HB7.out))
  clear hbr hb7 HO36 HB6 HN2
  go_wp2_with fail
  refine HRUN.out.mono ?_
  rintro e w8 ⟨fs, vN, vF, vO, eb, eo, ec, rfl, hT, hP, hI, hS, hO, he, hb8⟩
  obtain ⟨B1, d1, rfl, _, _⟩ := hT.n.form
  obtain ⟨B2, d2, rfl, _, _⟩ := hT.f.form
  obtain ⟨B3, d3, rfl, _, _⟩ := hT.o.form
  have hal : Below w8.heap.size w8 (w8.alloc (.cells #[.slice B1 fs.N.length d1, .slice B2 fs.F.length d2, .slice B3 fs.O.length d3] 33)) := (Below.refl _ w8).alloc (Nat.le_refl _) _
  have HB8 := keep (HB7.out.trans ((bchain hb8 hal).mono HB7.out.size))
  have helt : eb < w8.heap.size := World.block_lt_of_cell? w8 _ he
  have HSC : Hid (Calls Tryd.prog 10 #[.agg #[.slice B1 fs.N.length d1, .slice B2 fs.F.length d2, .slice B3 fs.O.length d3], .string ⟨#[97, 112, 112]⟩, .int .i64 K] _ (ScanL (scanP (d3P data K) appS K) _)) := keep (by
    have h1 := scan_any _ _ _ fs appS K _ (hT.up hal) hI (by rw [hO]; simp) hS
    unfold ScanOut at h1
    rw [hP] at h1
    exact h1)
  have HE8 := keep ((hal.cell (p := ⟨eb, eo + 2, none⟩) helt).trans he)
  have hel9 : eb < (w8.alloc (.cells #[.slice B1 fs.N.length d1, .slice B2 fs.F.length d2, .slice B3 fs.O.length d3] 33)).heap.size := Nat.lt_of_lt_of_le helt hal.size
  have HS3 : Hid (ok = true → ∃ x y : Sn, scanP (d3P data K) appS K = [x, y] ∧ x.file = q ∧ y.file = q ∧ y.size ≤ x.size) := keep (fun e => by
    have h1 := scan3P (HOK.out.trans e)
    rw [HQ.out e]
    exact h1)
  generalize scanP (d3P data K) appS K = L at HSC HS3
  clear hT hP hI hS hO he hb8 hal helt HRUN HB7
  go_wp2_with fail
  refine HSC.out.mono ?_
  rintro e w9 ⟨vL, rfl, hown, hb9⟩
  obtain ⟨AL, cL, rfl, _⟩ := own_sl hown
  have HB9 := keep (HB8.out.trans (hb9.mono HB8.out.size))
  have he9 := (hb9.cell (p := ⟨eb, eo + 2, none⟩) hel9).trans HE8.out
  cases ok with
  | false =>
    have hlt : decide (K ≤ (data.length : Int)) = false := by
      have h1 := HOK.out
      rw [decide_eq_false_iff_not]
      intro h2
      have h3 : numOk data K = true := numOk_iff.2 ⟨hK1, by omega, h2⟩
      rw [h3] at h1
      cases h1
    clear hown hb9 HSC HE8 HS3 HSAM HOK HQ
    go_wp2_with fail
    refine wp_region_quiet_lit (by kernel_rfl) (by kernel_rfl) ?_
    simp only [List.append_eq, List.cons_append, List.nil_append]
    repeat (go_big_quiet_step (fail))
    refine wpQuiet_nil ?_
    intro _ hw'
    obtain ⟨nq, hw''⟩ := hw'
    subst hw''
    go_wp2_with fail
    go_ret
    exact ⟨rfl, below_drewN HB9.out _⟩
  | true =>
    obtain ⟨x, y, rfl, hx, hy, hxy⟩ := HS3.out rfl
    obtain ⟨e2, e3⟩ := HSAM.out rfl
    subst e2 e3
    have hlt : decide (K ≤ (data.length : Int)) = true := by
      rw [decide_eq_true_iff]
      exact (numOk_iff.1 HOK.out).2.2
    obtain ⟨xf, xi, xz⟩ := x
    obtain ⟨yf, yi, yz⟩ := y
    simp only at hx hy hxy
    subst hx
    obtain ⟨b, o, hA, _, x0, x1, x2⟩ := sn_cells3 (Sl.of_own hown) (k := 0) (by simp)
    obtain ⟨b', o', hA', _, y0, y1, y2⟩ := sn_cells3 (Sl.of_own hown) (k := 1) (by simp)
    subst hA
    injection hA' with hA'
    injection hA' with h1 h2 _
    subst h1 h2
    simp only [List.getElem_cons_zero, List.getElem_cons_succ, Nat.zero_mul, Nat.add_zero, Nat.one_mul] at x0 x1 x2 y0 y1 y2
    have he0 : (xf == xf) = true := by simp
    clear hown hb9 HSC HE8 HS3 HSAM HOK HQ
    go_wp2_with fail
    refine wp_region_quiet_lit (by kernel_rfl) (by kernel_rfl) ?_
    simp only [List.append_eq, List.cons_append, List.nil_append]
    repeat (go_big_quiet_step (fail))
    refine wpQuiet_nil ?_
    intro _ hw'
    obtain ⟨nq, hw''⟩ := hw'
    subst hw''
    go_wp2_with fail
    go_ret
    exact ⟨rfl, below_drewN HB9.out _⟩
theorem ub_of_ints {w : World} {S : Nat → Prop} {v : Value} {bs : List Int} (h : Sl w S 1 v bs.length (bs.map (.int .u8))) (hr : ∀ x ∈ bs, 0 ≤ x ∧ x ≤ 255) : ∃ l : List UInt8, l.length = bs.length ∧ BSl w S v l := by
  refine ⟨bs.map fun x => UInt8.ofNat x.toNat, by simp, ?_⟩
  have e : (bs.map fun x => UInt8.ofNat x.toNat).map ub = bs.map (.int .u8) := by
    rw [List.map_map]
    refine List.map_congr_left fun x hx => ?_
    have hb := hr x hx
    show Value.int .u8 ((UInt8.ofNat x.toNat).toNat : Int) = .int .u8 x
    congr 1
    simp only [UInt8.toNat_ofNat']
    omega
  unfold BSl
  rw [e, List.length_map]
  exact h
theorem law_stays_row (vc vm : Value) (bs ms : List Int) (sz : Int) (w : World) (hg : Chg w) (hsc : Sl w (lt w.heap.size) 1 vc bs.length (bs.map (.int .u8))) (hr : ∀ x ∈ bs, 0 ≤ x ∧ x ≤ 255) (hm : bs.length ≤ maxLen)
    (hsm : Sl w (lt w.heap.size) 1 vm ms.length (ms.map (.int .u8))) (hr2 : ∀ x ∈ ms, 0 ≤ x ∧ x ≤ 255) (hml : ms.length ≤ 140737488351232) (hz : 0 ≤ sz ∧ sz ≤ 255) :
    Calls Tryd.prog 3 #[vc, vm, .int .u8 sz] w fun e w' => e = .returned (.bool true) ∧ Below w.heap.size w w' := by
  obtain ⟨l, hl, hs⟩ := ub_of_ints hsm hr2
  exact law_stays vc vm bs l sz w hg hsc hr hm hs (by omega) hz.1 hz.2
end Go.Proofs.YtgegmefnbkcdkaaDoor
