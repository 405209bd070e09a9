/- MinerKeeps: the walk of the statement. -/
import Derived.Test.YtigogjlbemkhdaaKeepsP
import Derived.Test.YtigogjlbemkhdaaAwake15
namespace Go.Proofs.Ytigogjlbemkhdaa
open Go.RowKit

theorem templates_any (v : Value) (L : List Tm) (w : World) (h : MS w v L) (hc : ∀ t ∈ L, t.ct ≤ 9223372036854775807) (hm : L.length ≤ 100000) : Calls Try.prog 17 #[v] w (OfOut L w) := by
  have HOF := keep (of_any v L w h.1 h.2 hc hm)
  clear h hc
  go_enter Try.func17, Try.ntmps17
  go_wp2_with fail
  refine HOF.out.mono ?_
  rintro e w1 ⟨v1, R, rfl, h1, h2⟩
  have HO : Hid (OfOut L w (.returned v1) w1) := keep ⟨v1, R, rfl, h1, h2⟩
  obtain ⟨A, c, rfl, _⟩ := own_sl h1
  clear h1 h2
  go_wp2_with fail
  go_ret
  exact HO.out
set_option maxHeartbeats 8000000 in
set_option maxRecDepth 100000 in
theorem law_keeps (vc vs : Value) (bs cs : List Int) (w : World)
    (hsc : Sl w (lt w.heap.size) 1 vc bs.length (bs.map (.int .u8))) (hr : ∀ x ∈ bs, 0 ≤ x ∧ x ≤ 255) (hm : bs.length ≤ maxLen)
    (hss : Sl w (lt w.heap.size) 1 vs cs.length (cs.map (.int .u8))) (hr2 : ∀ x ∈ cs, 0 ≤ x ∧ x ≤ 255) (hm2 : cs.length ≤ maxLen) :
    Calls Try.prog 5 #[vc, vs] w fun e w' => e = .returned (.bool true) ∧ Below w.heap.size w w' := by
  have HSS := keep hss
  clear hss
  go_enter Try.func5, Try.ntmps5
  go_wp2_with fail
  refine (awake_true _).mono ?_
  rintro e w1 ⟨rfl, hb1'⟩
  have hS1 := hsc.upW hb1'
  clear hsc
  go_wp2_with fail
  refine (drawNew _ bs 200 _ hS1 hr (by omega) hm).mono ?_
  rintro e w2 ⟨gc, rfl, hgc, hC2, hb2⟩
  have hbw2 := bchain hb1' hb2
  have hgl := hC2.lt_
  have hz1 := hb1'.size
  clear hS1 hb1' hb2
  go_wp2_with fail
  refine (state_any gc 16 _ hC2 (by omega)).mono ?_
  rintro e w3 ⟨v, vl, L0, S, rfl, hSl, hSz, _, _, hO, _, hV, _, hg3⟩
  obtain ⟨A, c, rfl, _⟩ := own_sl hO
  obtain ⟨A2, c2, rfl, hc2⟩ := own_sl hV
  have hb3 : Below w.heap.size w w3 := below_grown hbw2 hg3 hbw2.size (by omega)
  have HV := keep hV
  have HSZ := keep hSz
  have HB3 := keep hb3
  clear hO hV hSz hg3 hb3 hC2 hbw2
  go_wp2_with fail
  refine (drawNew _ cs 60 _ (HSS.out.upW HB3.out) hr2 (by omega) hm2).mono ?_
  rintro e W ⟨g2, rfl, hg2, hC4, hb4⟩
  have HB4 := keep (HB3.out.trans (hb4.mono HB3.out.size))
  have HVL := keep (own_str (own_bel HV.out hb4))
  have HNS := keep (codes_noStr hC4)
  have hg2l := hC4.lt_
  have HC4 := keep hC4
  have hg2w : w.heap.size ≤ g2 := Nat.le_trans HB3.out.size hg2
  clear hb4 hC4 HV HSS hc2
  go_wp2_with fail
  go_loopw [8, 9, 10] (fun u8 u9 u10 wr => ∃ (i : Nat) (L : List Tm) (T : List ByteArray) (Am : Option Addr) (cm : Nat) (Al : Option Addr) (cl : Nat), i ≤ S.length ∧ u10 = .int .i64 i ∧ u8 = .slice Am L.length cm ∧ u9 = .slice Al T.length cl ∧ T.length ≤ i ∧ Hid (KSt W g2 wr (.slice Am L.length cm) (.slice Al T.length cl) L T T i) ∧ Hid (∀ s ∈ T, s.size ≤ 1000)) (fun _ _ u10 _ => S.length - (intOf u10).toNat)
  case atStart => exact ⟨0, [], [], none, 0, none, 0, Nat.zero_le _, rfl, rfl, rfl, Nat.le_refl _, keep ⟨World.ownsRow_nil _ _ _ _, (by intro t ht; cases ht), World.ownsRow_nil _ _ _ _, ⟨List.Pairwise.nil, (fun t ht => by cases ht), by simp [st, sumP]⟩, (fun U => rfl), HC4.out, World.grownBy.refl _ _⟩, keep (by intro s hs; cases hs)⟩
  case round =>
    obtain ⟨i, L, T, Am, cm, Al, cl, hi, rfl, rfl, rfl, hTl, hK, hZ⟩ := hrel
    obtain ⟨wo, rfl⟩ : ∃ wo : World, wo = wr := ⟨_, rfl⟩
    by_cases hlt : i < S.length
    · obtain ⟨b, o, rfl, hb, q0⟩ := str_at (HVL.out.strGrown hK.out.w HNS.out) hlt
      obtain ⟨s, hs⟩ : ∃ s, S[i] = s := ⟨_, rfl⟩
      have hsz : s.size ≤ 1000 := by rw [← hs]; exact HSZ.out _ (List.getElem_mem hlt)
      rw [hs] at q0
      have hz0 := hK.out.w.size
      have hbA : Below wo.heap.size wo wo.drew := (Below.refl _ wo).drew
      have hbB : Below wo.heap.size wo (wo.alloc (.cells #[.string s] 9)).drew := ((Below.refl _ wo).alloc (Nat.le_refl _) _).drew
      have hkA := hK.out.up hbA
      have hkB := hK.out.up hbB
      have HKA := keep hkA
      have HKB := keep hkB
      have hg6 : Good (st L) 999999 := ⟨hK.out.g.s, hK.out.g.p, by have := hK.out.g.b; omega⟩
      have HADDA := keep (addLineK _ L s wo.drew hkA.ms hg6 (by omega))
      have HADDB := keep (addLineK _ L s (wo.alloc (.cells #[.string s] 9)).drew hkB.ms hg6 (by omega))
      have HBB := keep (show Blk (wo.alloc (.cells #[.string s] 9)).drew wo.heap.size 9 #[.string s] from Blk.new wo _ _)
      have hqA : wo.drew.cell? ⟨b, o + i, none⟩ = some (.string s) := q0
      have hqB : (wo.alloc (.cells #[.string s] 9)).drew.cell? ⟨b, o + i, none⟩ = some (.string s) := (hbB.cell hb.lt_).trans q0
      have hbl := hb.lt_
      have HGK : Hid (Good (st L) i) := keep hK.out.g
      have HCK : Hid (∀ U, cnt (st L) U = cntS T U) := keep hK.out.k
      have HONE : Hid (∀ u ∈ (#[Value.string s] : Array Value).toList, u.oneCell' = true) := keep (by intro u hu; simp at hu; subst hu; rfl)
      have HA : Hid (T.length + 1 ≤ maxLen) := keep (by unfold maxLen; omega)
      have HC : Hid ((T.length + 1) * 16 ≤ 140737488355328) := keep (by omega)
      have i1 : (i : Int) < (S.length : Int) := by omega
      have i2 : (i : Int) ≤ 16 := by omega
      clear hkA hkB hbA hbB hg6 hb
      go_upto_region 10 with fail
      go_cut [8, 9] (fun u8 u9 wd => ∃ (L' : List Tm) (Am : Option Addr) (cm g cl : Nat), u8 = .slice Am L'.length cm ∧ u9 = .slice (some ⟨g, 0, none⟩) (T.length + 1) cl ∧ Hid (KSt W g2 wd (.slice Am L'.length cm) (.slice (some ⟨g, 0, none⟩) (T.length + 1) cl) L' (T ++ [s]) (T ++ [s]) (i + 1)))
      case first =>
        go_region_law (first
          | (go_simp; go_at_call 11; (with_reducible refine HADDA.out.mono ?_)
             rintro e w5 ⟨v5, L5, rfl, hn5, ha5, hk5⟩
             obtain ⟨A5, c5, rfl, _⟩ := own_sl hn5.1
             obtain ⟨hG5, hc5⟩ := addStep_cntN HGK.out HCK.out ha5
             have hks := HKA.out.new hn5 hk5 hG5 hc5
             have hal5 : Below w5.heap.size w5 (w5.alloc (.cells #[.string s] 9)) := (Below.refl _ w5).alloc (Nat.le_refl _) _
             have q5 : w5.cell? ⟨b, o + i, none⟩ = some (.string s) := (hn5.2.2.cell hbl).trans q0
             have HLA := keep (hks.up hal5)
             have HBL := keep (Blk.new w5 9 #[.string s])
             have hws := HLA.out.w.size
             clear hn5 ha5 hk5 hG5 hc5 hks hal5)
          | (go_simp; go_at_call 11; (with_reducible refine HADDB.out.mono ?_)
             rintro e w5 ⟨v5, L5, rfl, hn5, ha5, hk5⟩
             obtain ⟨A5, c5, rfl, _⟩ := own_sl hn5.1
             obtain ⟨hG5, hc5⟩ := addStep_cntN HGK.out HCK.out ha5
             have HLA := keep (HKB.out.new hn5 hk5 hG5 hc5)
             have HBL := keep (HBB.out.below hn5.2.2 HBB.out.lt)
             have hws := HLA.out.w.size
             clear hn5 ha5 hk5 hG5 hc5)
          | (refine step_pushL elSg ?_ (.tmp 43) (.tmp 48) ?_ W.heap.size (.slice Al T.length cl) T.length (T.map .string) ?_ HLA.out.lf _ #[.string s] HBL.out ?_ rfl HONE.out HA.out HC.out hws ?_
             · rfl
             · rfl
             · rfl
             · rfl
             intro g8 c8 w8 hown8 hb8 hg8 ho8
             have HK8 := keep (HLA.out.push (T' := T ++ [s]) (by rw [List.length_append, List.map_append]; exact hown8) hb8 hg8 ho8 hg2l)
             clear hown8 hb8 hg8 ho8)
          | fail)
        all_goals
          go_wp2_with fail
          go_meet
          case rel => exact ⟨L5, A5, c5, g8, c8, rfl, rfl, HK8⟩
      case rest =>
        obtain ⟨L5, A5, c5, g, cl5, rfl, rfl, hk5⟩ := hcut
        obtain ⟨T1, hT1⟩ : ∃ T1, T1 = T ++ [s] := ⟨_, rfl⟩
        have hl1 : T.length + 1 = T1.length := by rw [hT1]; simp
        rw [← hT1, hl1] at hk5
        rw [hl1]
        have HZ1 : Hid (∀ s ∈ T1, s.size ≤ 1000) := keep (fun t ht => by
          rw [hT1] at ht
          rcases List.mem_append.1 ht with h | h
          · exact hZ.out t h
          · rw [List.mem_singleton.1 h]; exact hsz)
        have hT1l : T1.length ≤ i + 1 := by omega
        have hT10 : 1 ≤ T1.length := by omega
        have HK5 := keep hk5.out
        have HN3 := keep (drawNext g2 3 wc hk5.out.c (by omega) (by omega))
        clear hT1 hl1 hk5 HKA HKB HADDA HADDB HBB hqA hqB HGK HCK HONE HA HC hK hZ
        go_wp2_with fail
        refine HN3.out.mono ?_
        rintro e w6 ⟨r, rfl, r0, r1, _, hC6, hg6⟩
        have HK6 := keep (HK5.out.next hg2l hg6 hC6)
        clear hC6 hg6 HN3
        by_cases hr2' : r = 2
        · subst hr2'
          have HNL := keep (drawNext g2 (T1.length : Int) w6 HK6.out.c (by omega) (by omega))
          clear r0 r1
          go_wp2_with fail
          refine HNL.out.mono ?_
          rintro e w7 ⟨r, rfl, r0, r1, _, hC7, hg7⟩
          obtain ⟨k, rfl⟩ := Int.eq_ofNat_of_zero_le r0
          have hkl : k < T1.length := by have := r1 (by omega); omega
          have HK7 := keep (HK6.out.next hg2l hg7 hC7)
          clear hC7 hg7 HNL r0 r1
          obtain ⟨s1, hs1⟩ : ∃ s1, T1[k] = s1 := ⟨_, rfl⟩
          have c7 : w7.cell? ⟨g, k, none⟩ = some (.string s1) := by
            rw [own_cell HK7.out.lf rfl k (by omega), List.getElem?_map, List.getElem?_eq_getElem hkl, hs1]
            rfl
          have hs1z : s1.size ≤ 1000 := by rw [← hs1]; exact HZ1.out _ (List.getElem_mem hkl)
          have HREM := keep (removeLineK _ L5 s1 w7 HK7.out.ms ⟨HK7.out.g.s, HK7.out.g.p, by have := HK7.out.g.b; omega⟩ (by omega))
          have HTK := keep (fun w' => tokens_any s1 w' (by omega))
          have HRS := keep (fun P' ok => remStep_cntN (P' := P') (ok := ok) hkl HK7.out.g HK7.out.k)
          rw [hs1] at HRS
          generalize toks s1 = o at HREM HTK HRS
          have HS1 := keep hs1
          have k1 : (k : Int) < (T1.length : Int) := by omega
          have k2 : (k : Int) ≤ 1000 := by omega
          clear hs1
          go_wp2_with fail
          refine HREM.out.mono ?_
          rintro e w8 ⟨v8, L8, ok, rfl, hn8, hr8, hin8⟩
          obtain ⟨A8, c8, rfl, _⟩ := own_sl hn8.1
          obtain ⟨hok, hG8, hc8⟩ := HRS.out _ _ hr8
          subst hok
          have hk8 := HK7.out.new hn8 (fun t ht => .inl (hin8 t ht)) hG8 hc8
          have c8' : w8.cell? ⟨g, k, none⟩ = some (.string s1) := (hn8.2.2.cell (HK7.out.lf.lt g rfl).2).trans c7
          obtain ⟨q, hq⟩ : ∃ q, o.isSome = q := ⟨_, rfl⟩
          rw [hq]
          have HQ := keep hq
          have HK8 := keep hk8
          clear hn8 hr8 hin8 hG8 hc8 hk8 hq HREM HRS c7
          go_wp2_with fail
          refine (HTK.out w8).mono ?_
          rintro e w9 ⟨tv, T9, rfl, _, _, ho9, hb9⟩
          rw [HQ.out]
          obtain ⟨A9, c9, rfl, _⟩ := own_sl ho9
          have HK9 := keep (HK8.out.up hb9)
          have hdd : (q != q) = false := by simp
          clear ho9 hb9 c8'
          obtain ⟨k', hk'⟩ : ∃ k' : Nat, (k : Int) + 1 = (k' : Int) := ⟨k + 1, by omega⟩
          have hkk : k' = k + 1 := by omega
          obtain ⟨x1, ⟨hx1, B1, m1, rfl⟩, hs1'⟩ := cut_h (own_str HK9.out.lf) k (by omega)
          obtain ⟨x2, ⟨hx2, B2, m2, rfl⟩, hs2'⟩ := cut_l (own_str HK9.out.lf) k' (by omega)
          have HSA := keep (show Sl w9.drew (strB w9) 1 (.slice B1 k m1) k ((T1.take k).map .string) from hs1')
          have HSB := keep (show Sl w9.drew (strB w9.drew) 1 (.slice B2 (T1.length - k') m2) (T1.length - k') ((T1.drop k').map .string) from hs2')
          have HONA := keep (oneCells (fun s : ByteArray => Value.string s) (fun _ => rfl) (T1.take k))
          have HONB := keep (oneCells (fun s : ByteArray => Value.string s) (fun _ => rfl) (T1.drop k'))
          have HLA : Hid (0 + k ≤ maxLen) := keep (by unfold maxLen; omega)
          have HLB : Hid ((0 + k) * 16 ≤ 140737488355328) := keep (by omega)
          have HLC : Hid (k + (T1.length - k') ≤ maxLen) := keep (by unfold maxLen; omega)
          have HLD : Hid ((k + (T1.length - k')) * 16 ≤ 140737488355328) := keep (by omega)
          have HWS : Hid (w9.heap.size ≤ w9.drew.heap.size) := keep (Nat.le_refl _)
          have hkn : (k' : Int) ≤ (T1.length : Int) := by omega
          have hkw : IntKind.i64.wrap (k' : Int) = (k' : Int) := IntWalk.i64_in _ (by omega)
          have HKK := keep hkk
          clear hs1' hs2' hkk
          go_upto_region 18 with fail
          go_cut [9] (fun u9 wd => ∃ (Al : Option Addr) (cl : Nat), u9 = .slice Al (T1.take k ++ T1.drop (k + 1)).length cl ∧ Hid (KSt W g2 wd (.slice A8 L8.length c8) (.slice Al (T1.take k ++ T1.drop (k + 1)).length cl) L8 (T1.take k ++ T1.drop (k + 1)) (T1.take k ++ T1.drop (k + 1)) (i + 1)))
          case first =>
            go_region_law (first
              | (refine step_appendS elSg ?_ (.const (.slice none 0 0)) (.tmp 80) ?_ w9.heap.size (.slice none 0 0) 0 [] ?_ (World.ownsRow_nil _ _ _ _) _ (.slice B1 k m1) k ((T1.take k).map .string) ?_ HSA.out HONA.out HLA.out HLB.out HWS.out ?_
                 · rfl
                 · rfl
                 · rfl
                 · rfl
                 intro v10 w10 hown10 hb10 hg10
                 rw [Nat.zero_add, List.nil_append] at hown10
                 obtain ⟨A10, c10, rfl, _⟩ := own_sl hown10
                 have HO10 := keep hown10
                 have HB10 := keep hb10
                 have HSB10 := keep (HSB.out.strUp hb10)
                 have hz10 := hb10.size
                 clear hown10 hb10 hg10)
              | (refine step_appendS elSg ?_ (.tmp 81) (.tmp 85) ?_ w9.heap.size (.slice A10 k c10) k ((T1.take k).map .string) ?_ HO10.out _ (.slice B2 (T1.length - k') m2) (T1.length - k') ((T1.drop k').map .string) ?_ HSB10.out HONB.out HLC.out HLD.out hz10 ?_
                 · rfl
                 · rfl
                 · rfl
                 · rfl
                 intro v11 w11 hown11 hb11 hg11
                 have hlen : (T1.take k ++ T1.drop (k + 1)).length = k + (T1.length - k') := by
                   rw [HKK.out, List.length_append, List.length_take, List.length_drop]
                   omega
                 have hown12 : w11.ownsRow w9.heap.size 9 1 v11 (T1.take k ++ T1.drop (k + 1)).length ((T1.take k ++ T1.drop (k + 1)).map .string) := by
                   rw [hlen, List.map_append, ← HKK.out]
                   exact hown11
                 obtain ⟨A11, c11, rfl, _⟩ := own_sl hown12
                 have hb12 : Below w9.heap.size w9 w11 := (((Below.refl _ w9).drew).trans HB10.out).trans hb11
                 have HK12 := keep (HK9.out.fresh hown12 hb12)
                 clear hown11 hb11 hg11 hlen hown12 hb12)
              | fail)
            all_goals
              go_wp2_with fail
              go_meet
              case rel => exact ⟨A11, c11, by rw [List.length_append, List.length_take, List.length_drop], HK12⟩
          case rest =>
            obtain ⟨A12, c12, rfl, hk12⟩ := hcut
            have HK12 := keep hk12.out
            have HZ12 : Hid (∀ s ∈ T1.take k ++ T1.drop (k + 1), s.size ≤ 1000) := keep (fun t ht => HZ1.out t ((List.mem_append.1 ht).elim List.mem_of_mem_take List.mem_of_mem_drop))
            have hln : (T1.take k ++ T1.drop (k + 1)).length ≤ i + 1 := by
              rw [List.length_append, List.length_take, List.length_drop]
              omega
            clear hk12
            generalize T1.take k ++ T1.drop (k + 1) = T2 at HK12 HZ12 hln ⊢
            have hms12 := HK12.out.ms
            have hlm12 := HK12.out.g.len (by omega)
            have HCHK := keep (check_any _ L8 wc hms12.1 hms12.2 hlm12)
            have HST := keep (chk_state HK12.out.g HK12.out.k)
            clear hms12 hlm12
            go_wp2_with fail
            refine HCHK.out.mono ?_
            rintro e wy ⟨bb, rfl, hbt, hby⟩
            obtain rfl : bb = true := hbt.2 HST.out
            have HK9 := keep (HK12.out.up hby)
            clear hbt hby HCHK HST
            go_wp2_with fail
            go_roundw
            case rel => exact ⟨i + 1, L8, T2, _, _, _, _, by omega, by go_num, rfl, rfl, hln, HK9, HZ12⟩
            case measure => simp [intOf]; omega
        · have hrb : (r == 2) = false := by simpa using hr2'
          clear r0 r1
          have hms6 := HK6.out.ms
          have hlm6 := HK6.out.g.len (by omega)
          have HCHK := keep (check_any _ L5 w6 hms6.1 hms6.2 hlm6)
          have HST := keep (chk_state HK6.out.g HK6.out.k)
          clear hms6 hlm6
          go_wp2_with fail
          refine HCHK.out.mono ?_
          rintro e wy ⟨bb, rfl, hbt, hby⟩
          obtain rfl : bb = true := hbt.2 HST.out
          have HK9 := keep (HK6.out.up hby)
          clear hbt hby HCHK HST
          go_wp2_with fail
          go_roundw
          case rel => exact ⟨i + 1, L5, T1, _, _, _, _, by omega, by go_num, rfl, rfl, hT1l, HK9, HZ1⟩
          case measure => simp [intOf]; omega
    · obtain rfl : i = S.length := by omega
      have HBO := keep (below_grown HB4.out hK.out.w HB4.out.size hg2w)
      have hTs : T.length ≤ 16 := by omega
      clear hlt hi hTl HVL HNS HC4 HB4 hgl
      go_wp2_with fail
      go_loopw [16, 92] (fun u16 u92 wr => ∃ j n : Nat, j ≤ T.length ∧ n ≤ j ∧ u92 = .int .i64 j ∧ u16 = .int .i64 n ∧ Hid (n = (lnT (T.take j)).length) ∧ Hid (Below wo.heap.size wo wr)) (fun _ u92 _ => T.length - (intOf u92).toNat)
      case atStart => exact ⟨0, 0, Nat.zero_le _, Nat.le_refl _, rfl, rfl, keep rfl, keep (Below.refl _ _)⟩
      case round =>
        obtain ⟨j, n, hj, hnj, rfl, rfl, hn, hB⟩ := hrel
        obtain ⟨wp, rfl⟩ : ∃ wp : World, wp = wr := ⟨_, rfl⟩
        by_cases hlt : j < T.length
        · obtain ⟨b, o, rfl, hb, q0⟩ := str_at ((own_str hK.out.lf).strUp hB.out) hlt
          obtain ⟨s, hs⟩ : ∃ s, T[j] = s := ⟨_, rfl⟩
          have hsz : s.size ≤ 1000 := by rw [← hs]; exact hZ.out _ (List.getElem_mem hlt)
          rw [hs] at q0
          have htk : T.take (j + 1) = T.take j ++ [s] := by rw [List.take_succ_eq_append_getElem hlt, hs]
          have HTK := keep (tokens_any s wp (by omega))
          have j1 : (j : Int) < (T.length : Int) := by omega
          have j2 : (j : Int) ≤ 16 := by omega
          have n2 : (n : Int) ≤ 16 := by omega
          cases ho : toks s with
          | none =>
            have HN : Hid (n = (lnT (T.take (j + 1))).length) := keep (by rw [htk, lnT_none ho]; exact hn.out)
            rw [ho] at HTK
            clear htk ho hs
            go_wp2_with fail
            refine HTK.out.mono ?_
            rintro e w2 ⟨tv, T9, rfl, _, _, ho9, hb9⟩
            obtain ⟨A9, c9, rfl, _⟩ := own_sl ho9
            have HB2 := keep (hB.out.trans (hb9.mono hB.out.size))
            simp only [Option.isSome]
            clear ho9 hb9
            go_wp2_with fail
            go_roundw
            case rel => exact ⟨j + 1, n, by omega, by omega, by go_num, rfl, HN, HB2⟩
            case measure => simp [intOf]; omega
          | some U =>
            have HN : Hid (n + 1 = (lnT (T.take (j + 1))).length) := keep (by rw [htk, lnT_some ho, List.length_append, ← hn.out]; rfl)
            rw [ho] at HTK
            clear htk ho hs
            go_wp2_with fail
            refine HTK.out.mono ?_
            rintro e w2 ⟨tv, T9, rfl, _, _, ho9, hb9⟩
            obtain ⟨A9, c9, rfl, _⟩ := own_sl ho9
            have HB2 := keep (hB.out.trans (hb9.mono hB.out.size))
            simp only [Option.isSome]
            clear ho9 hb9
            go_wp2_with fail
            go_roundw
            case rel => exact ⟨j + 1, n + 1, by omega, by omega, by go_num, by go_num, HN, HB2⟩
            case measure => simp [intOf]; omega
        · obtain rfl : j = T.length := by omega
          have HN : Hid (n = (lnT T).length) := keep (by have h := hn.out; rwa [List.take_length] at h)
          have hkp := hK.out.up hB.out
          have hlm := hkp.g.len (by omega)
          have hlm2 : L.length ≤ 100000 := by
            have h1 := sumP_len hkp.g.p
            rw [st_len] at h1
            have := hkp.g.b
            omega
          have HTM := keep (templates_any _ L wp hkp.ms (fun t ht => by
            have h1 := sumP_le hkp.g.p (List.mem_map.2 ⟨t, ht, rfl⟩ : (strs t.tk, t.ct) ∈ st L)
            have := hkp.g.b
            simp only at h1
            omega) hlm2)
          have HKP := keep hkp
          have HBP := keep (HBO.out.trans (hB.out.mono HBO.out.size))
          have HML := keep fun W' (h : Below wp.heap.size wp W') => mineL_any _ T W' ((own_str (hkp.up h).lf).str) (fun s hs => by have := hZ.out s hs; omega) (by omega)
          clear hkp hlt hj hn hK hZ hB HBO
          go_wp2_with fail
          refine HTM.out.mono ?_
          rintro e w2 ⟨v1, R1, rfl, ho1, ht1, hp1, hs1, hl1, hb1⟩
          obtain ⟨A1, c1, rfl, _⟩ := own_sl ho1
          have HM2 := keep (HML.out w2 hb1)
          have HO1 := keep ho1
          have HT1 := keep ht1
          have HP1 := keep hp1
          have HS1 := keep hs1
          have HB1 := keep hb1
          clear ho1 ht1 hp1 hs1 hb1 HTM HML
          go_wp2_with fail
          refine HM2.out.mono ?_
          rintro e w5 ⟨v2, R2, rfl, ho2, ht2, hp2, hs2, hl2, hb2⟩
          obtain ⟨A2', c2', rfl, _⟩ := own_sl ho2
          have hst := templates_eq HKP.out.g HKP.out.k HP1.out HS1.out hp2 hs2
          have hm1 : MS w5 (.slice A1 R1.length c1) R1 := ⟨Sl.of_own (own_bel HO1.out hb2), fun t ht => TkM.r (B := wp.heap.size) ⟨own_bel (HT1.out t ht).1 hb2, (HT1.out t ht).2⟩⟩
          have hm2' : MS w5 (.slice A2' R2.length c2') R2 := ⟨Sl.of_own ho2, fun t ht => (ht2 t ht).r⟩
          have HSAME := keep (same_any _ _ R1 R2 w5 hm1 hm2' hst (by omega))
          have HB2 := keep (bchain HB1.out hb2)
          clear ho2 ht2 hp2 hs2 hb2 hst hm1 hm2' HM2 HO1 HT1 HP1 HS1 HB1
          go_wp2_with fail
          refine HSAME.out.mono ?_
          rintro e w6 ⟨rfl, hb6⟩
          have hbp := bchain HB2.out hb6
          have hk6 := HKP.out.up hbp
          have hsz6 := size_any _ L w6 hk6.ms ⟨hk6.g.s, hk6.g.p, by have := hk6.g.b; omega⟩
          have hsum : sumP (st L) = (n : Int) := by rw [state_sum hk6.g hk6.k, HN.out]
          rw [hsum] at hsz6
          have HSZ6 := keep hsz6
          have HB6 := keep (HBP.out.trans (hbp.mono HBP.out.size))
          have hnn : ((n : Int) == (n : Int)) = true := by simp
          clear hb6 hbp hk6 hsz6 hsum HSAME HB2 HBP HKP
          go_wp2_with fail
          refine HSZ6.out.mono ?_
          rintro e w7 ⟨rfl, hb7⟩
          have HB7 := keep (HB6.out.trans (hb7.mono HB6.out.size))
          clear hb7
          go_wp2_with fail
          go_ret
          exact ⟨by first | rfl | simp, HB7.out⟩
end Go.Proofs.Ytigogjlbemkhdaa
