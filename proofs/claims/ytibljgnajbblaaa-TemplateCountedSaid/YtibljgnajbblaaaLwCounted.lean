/- TemplateCounted: the walk of the statement. -/
import Derived.Test.YtibljgnajbblaaaR14W
namespace Go.Proofs.Ytibljgnajbblaaa
open Go.RowKit

/-- The loop's state: lines, elements, the choices. -/
structure CSt (W : World) (g2 : Nat) (wr : World) (va vt : Value) (A : List ByteArray) (L Q : List Tm) : Prop where
  lf : wr.ownsRow W.heap.size 9 1 va A.length (A.map .string)
  m : wr.ownsRow W.heap.size 33 2 vt L.length (tms L)
  x : ∀ t ∈ Q, TkX wr va.ownBlock t
  c : Codes wr g2
  w : W.grownBy wr (some g2)
section
variable {W wr wr' : World} {g2 : Nat} {va vt : Value} {A : List ByteArray} {L Q : List Tm}
theorem CSt.up (h : CSt W g2 wr va vt A L Q) (hb : Below wr.heap.size wr wr') : CSt W g2 wr' va vt A L Q :=
  ⟨own_bel h.lf hb, own_bel h.m hb, fun t ht => (h.x t ht).grown (grownBy_of_below hb none) (fun _ _ _ => by simp) (fun _ _ hh => hh), h.c.under hb h.c.lt_, grownBy_below h.w (hb.mono h.w.size)⟩
theorem CSt.next (h : CSt W g2 wr va vt A L Q) (h2 : g2 < W.heap.size) (hg : wr.grownBy wr' (some g2)) (hc : Codes wr' g2) : CSt W g2 wr' va vt A L Q :=
  ⟨own_grown h.lf hg h2, own_grown h.m hg h2, fun t ht => (h.x t ht).grown hg (fun b hb _ => codes_noStr h.c b hb) (fun _ _ hh => hh), hc, grownBy_trans h.w hg⟩
theorem CSt.pushA (h : CSt W g2 wr va vt A L Q) {g c n : Nat} {A' : List ByteArray} (hl : wr'.ownsRow W.heap.size 9 1 (.slice (some ⟨g, 0, none⟩) n c) A'.length (A'.map .string)) (hb : Below W.heap.size wr wr') (hg : wr.grownBy wr' va.ownBlock) (ho : va.ownBlock = some g ∨ wr.heap.size ≤ g) (h2 : g2 < W.heap.size) : CSt W g2 wr' (.slice (some ⟨g, 0, none⟩) n c) vt A' L Q := by
  refine ⟨hl, h.m.kept hg (own_apart h.m h.lf (by decide)), fun t ht => (h.x t ht).grown hg (fun _ _ hh => hh) (fun b hb hne e => ?_), h.c.under hb h2, grownBy_below h.w hb⟩
  injection e with e
  rcases ho with h1 | h1
  · exact hne (by rw [h1]; exact congrArg some e)
  · have e' : b = g := e
    omega
theorem CSt.pushT (h : CSt W g2 wr va vt A L Q) {v' : Value} {L' : List Tm} (hl : wr'.ownsRow W.heap.size 33 2 v' L'.length (tms L')) (hb : Below W.heap.size wr wr') (hg : wr.grownBy wr' vt.ownBlock) (h2 : g2 < W.heap.size) : CSt W g2 wr' va v' A L' Q :=
  ⟨h.lf.kept hg (own_apart h.lf h.m (by decide)), hl, fun t ht => (h.x t ht).grown hg (fun b hb _ => own_noStr h.m b hb) (fun _ _ hh => hh), h.c.under hb h2, grownBy_below h.w hb⟩
theorem CSt.sub (h : CSt W g2 wr va vt A L Q) {Q' : List Tm} (hq : ∀ t ∈ Q', ∃ u ∈ Q, u.tv = t.tv ∧ u.tk = t.tk) : CSt W g2 wr va vt A L Q' :=
  ⟨h.lf, h.m, fun t ht => by
    obtain ⟨u, hu, h1, h2⟩ := hq t ht
    have h3 := h.x u hu
    unfold TkX TkR at h3 ⊢
    rw [← h1, ← h2]
    exact h3, h.c, h.w⟩
/-- A row of tokens that was just made. -/
theorem CSt.tok (h : CSt W g2 wr va vt A L Q) {tv : Value} {T : List ByteArray} (hl : wr'.ownsRow wr.heap.size 9 1 tv T.length (T.map .string)) (hT : T.length ≤ 60) (hb : Below wr.heap.size wr wr') (ct : Int) : CSt W g2 wr' va vt A L (⟨tv, T, ct⟩ :: Q) := by
  have hu := h.up hb
  refine ⟨hu.lf, hu.m, fun t ht => ?_, hu.c, hu.w⟩
  rcases List.mem_cons.1 ht with h1 | h1
  · subst h1
    refine ⟨⟨own_str hl, by show T.length ≤ 1000000; omega⟩, (Sl.of_own_btw hl).mono fun b hb => ⟨hb.2, fun e => ?_⟩⟩
    have := (h.lf.lt b e.symm).2
    have := hb.1
    omega
  · exact hu.x t h1
end
theorem cnt_snoc (P : List TP) (t : TP) (U : List (List UInt8)) : cnt (P ++ [t]) U = cnt P U + if t.1 = U then t.2 else 0 := by
  induction P with
  | nil => simp [cnt]
  | cons x P ih => rw [List.cons_append, cnt, cnt, ih]; omega
theorem cntS_rep (A : List ByteArray) (s : ByteArray) (n : Nat) (U : List (List UInt8)) : cntS (A ++ List.replicate n s) U = cntS A U + if tokW (lb s) = some U then (n : Int) else 0 := by
  rw [cntS_append]
  congr 1
  induction n with
  | zero => simp [cntS]
  | succ n ih =>
    rw [List.replicate_succ, cntS, ih]
    split <;> omega
set_option maxHeartbeats 8000000 in
set_option maxRecDepth 100000 in
theorem law_counted (vc vs : Value) (bs cs : List Int) (w : World)
    (hsc : Sl w (lt w.heap.size) 1 vc bs.length (bs.map (.int .u8))) (hr : ∀ x ∈ bs, 0 ≤ x ∧ x ≤ 255) (hm : bs.length ≤ maxLen)
    (hss : Sl w (lt w.heap.size) 1 vs cs.length (cs.map (.int .u8))) (hr2 : ∀ x ∈ cs, 0 ≤ x ∧ x ≤ 255) (hm2 : cs.length ≤ maxLen) :
    Calls Try.prog 5 #[vc, vs] w fun e w' => e = .returned (.bool true) ∧ Below w.heap.size w w' := by
  have HSS := keep hss
  clear hss
  go_enter Try.func5, Try.ntmps5
  go_wp2_with fail
  refine (awake_true _).mono ?_
  rintro e w1 ⟨rfl, hb1'⟩
  have hS1 := hsc.upW hb1'
  clear hsc
  go_wp2_with fail
  refine (drawNew _ bs 200 _ hS1 hr (by omega) hm).mono ?_
  rintro e w2 ⟨gc, rfl, hgc, hC2, hb2⟩
  have hbw2 := bchain hb1' hb2
  have hgl := hC2.lt_
  have hz1 := hb1'.size
  clear hS1 hb1' hb2
  go_wp2_with fail
  refine (lines_any gc 16 _ hC2 (by omega)).mono ?_
  rintro e w3 ⟨vl, S, rfl, hSl, hSz, hV, _, hg3⟩
  obtain ⟨A2, c2, rfl, hc2⟩ := own_sl hV
  have hb3 : Below w.heap.size w w3 := below_grown hbw2 hg3 hbw2.size (by omega)
  have HV := keep hV
  have HSZ := keep hSz
  have HB3 := keep hb3
  clear hV hSz hg3 hb3 hC2 hbw2
  go_wp2_with fail
  refine (drawNew _ cs 40 _ (HSS.out.upW HB3.out) hr2 (by omega) hm2).mono ?_
  rintro e W ⟨g2, rfl, hg2, hC4, hb4⟩
  have HB4 := keep (HB3.out.trans (hb4.mono HB3.out.size))
  have HVL := keep (own_str (own_bel HV.out hb4))
  have HNS := keep (codes_noStr hC4)
  have hg2l := hC4.lt_
  have HC4 := keep hC4
  have hg2w : w.heap.size ≤ g2 := Nat.le_trans HB3.out.size hg2
  have hl := fun (w : World) => run_len_slice (P := Try.prog) w 22 3 A2 S.length c2 (by kernel_rfl)
  clear hb4 hC4 HV HSS hc2
  go_wp2_with fail
  clear hl
  go_loopw [7, 8, 25] (fun u7 u8 u25 wr => ∃ (j : Nat) (A : List ByteArray) (L : List Tm) (Aa : Option Addr) (ca : Nat) (At : Option Addr) (ct : Nat), j ≤ S.length ∧ u25 = .int .i64 j ∧ u7 = .slice Aa A.length ca ∧ u8 = .slice At L.length ct ∧ A.length ≤ 3 * j ∧ L.length ≤ 3 * j ∧ Hid (CSt W g2 wr (.slice Aa A.length ca) (.slice At L.length ct) A L L) ∧ Hid (∀ s ∈ A, s.size ≤ 1000) ∧ Hid (∀ U, cnt (tpL L) U = cntS A U) ∧ Hid (∀ t ∈ L, 1 ≤ t.ct ∧ t.ct ≤ 3)) (fun _ _ u25 _ => S.length - (intOf u25).toNat)
  case atStart => exact ⟨0, [], [], none, 0, none, 0, Nat.zero_le _, rfl, rfl, rfl, Nat.le_refl _, Nat.le_refl _, keep ⟨World.ownsRow_nil _ _ _ _, World.ownsRow_nil _ _ _ _, (by intro t ht; cases ht), HC4.out, World.grownBy.refl _ _⟩, keep (by intro s hs; cases hs), keep (fun U => rfl), keep (by intro t ht; cases ht)⟩
  case round =>
    obtain ⟨j, A, L, Aa, ca, At, ct, hj, rfl, rfl, rfl, hAl, hLl, hK, hZ, hcn, hct⟩ := hrel
    obtain ⟨wo, rfl⟩ : ∃ wo : World, wo = wr := ⟨_, rfl⟩
    by_cases hlt : j < S.length
    · obtain ⟨b, o, rfl, hb, q0⟩ := str_at (HVL.out.strGrown hK.out.w HNS.out) hlt
      obtain ⟨s, hs⟩ : ∃ s, S[j] = s := ⟨_, rfl⟩
      have hsz : s.size ≤ 1000 := by rw [← hs]; exact HSZ.out _ (List.getElem_mem hlt)
      rw [hs] at q0
      have HTOK := keep (tokens_any s wo (by omega))
      have i1 : (j : Int) < (S.length : Int) := by omega
      have i2 : (j : Int) ≤ 16 := by omega
      clear hs hb
      go_wp2_with fail
      refine HTOK.out.mono ?_
      rintro e w5 ⟨tv, T, rfl, hT, hT6, hown5, hb5⟩
      have HK5 := keep (hK.out.tok hown5 hT6 hb5 1)
      obtain ⟨TA, TC, rfl, _⟩ := own_sl hown5
      obtain ⟨q, hq⟩ : ∃ q, (toks s).isSome = q := ⟨_, rfl⟩
      rw [hq]
      have HQ := keep hq
      have HTT := keep hT
      have HN3 := keep (drawNext g2 3 w5 HK5.out.c (by omega) (by omega))
      clear hown5 hb5 HTOK hK q0 hq hT
      go_wp2_with fail
      refine HN3.out.mono ?_
      rintro e w6 ⟨r, rfl, r0, r1, _, hC6, hg6⟩
      obtain ⟨r', rfl⟩ := Int.eq_ofNat_of_zero_le r0
      have hr3 : r' < 3 := by have := r1 (by omega); omega
      obtain ⟨n, hn⟩ : ∃ n : Nat, (1 : Int) + (r' : Int) = (n : Int) := ⟨1 + r', by omega⟩
      have hn3 : n ≤ 3 := by omega
      have hn1 : 1 ≤ n := by omega
      have HK6 := keep (HK5.out.next hg2l hg6 hC6)
      clear hC6 hg6 HN3 r0 r1 HK5
      go_wp2_with fail
      go_loopw [7, 14] (fun u7 u14 wr => ∃ (k : Nat) (B : List ByteArray) (Ab : Option Addr) (cb : Nat), k ≤ n ∧ u14 = .int .i64 k ∧ u7 = .slice Ab B.length cb ∧ B.length ≤ 3 * j + k ∧ Hid (B = A ++ List.replicate k s) ∧ Hid (CSt W g2 wr (.slice Ab B.length cb) (.slice At L.length ct) B L (⟨.slice TA T.length TC, T, 1⟩ :: L))) (fun _ u14 _ => n - (intOf u14).toNat)
      case atStart => exact ⟨0, A, Aa, ca, Nat.zero_le _, rfl, rfl, hAl, keep (by simp), HK6⟩
      case round =>
        obtain ⟨k, B, Ab, cb, hk, rfl, rfl, hBl, hBe, hKb⟩ := hrel
        obtain ⟨wp, rfl⟩ : ∃ wp : World, wp = wr := ⟨_, rfl⟩
        by_cases hkn : k < n
        · have hkd : decide ((k : Int) < (n : Int)) = true := by simpa using hkn
          have hws := hKb.out.w.size
          have hk2 : (k : Int) < (n : Int) := by omega
          have hk3 : (k : Int) ≤ 3 := by omega
          go_wp2_with (refine wpList_push elSg rfl rfl (.tmp 43) (.tmp 42) 44 rfl rfl rfl W.heap.size (.slice Ab B.length cb) (.string s) B.length (B.map .string) ?_ ?_ ?_ ?_ ?_ ?_ ?_ ?_ ?_ ?_ ?_)
          case refine_1 => rfl
          case refine_2 => intro q; rfl
          case refine_3 => intro q; rfl
          case refine_4 => exact hKb.out.lf
          case refine_5 => rfl
          case refine_6 => intro c hc; simp [Value.cells] at hc; subst hc; rfl
          case refine_7 => decide
          case refine_8 => unfold maxLen; omega
          case refine_9 => omega
          case refine_10 => exact hws
          case refine_11 =>
            intro g cap w9 hown9 hb9 hg9 hn9 _
            have HK9 := keep (hKb.out.pushA (A' := B ++ [s]) (by rw [List.length_append, List.map_append]; exact hown9) hb9 hg9 hn9 hg2l)
            have HL9 : Hid ((B ++ [s]).length = B.length + 1) := keep (by simp)
            rw [← HL9.out] at HK9 ⊢
            have HE9 : Hid (B ++ [s] = A ++ List.replicate (k + 1) s) := keep (by rw [hBe.out, List.replicate_succ', List.append_assoc])
            have hB9 : (B ++ [s]).length ≤ 3 * j + (k + 1) := by rw [HL9.out]; omega
            clear hown9 hb9 hg9 hn9 HL9
            generalize B ++ [s] = B2 at HK9 HE9 hB9 ⊢
            go_wp2_with fail
            go_roundw
            case rel => exact ⟨k + 1, B2, _, _, by omega, by go_num, rfl, hB9, HE9, HK9⟩
            case measure => simp [intOf]; omega
        · obtain rfl : k = n := by omega
          have hkd : decide ((k : Int) < (k : Int)) = false := by simp
          have hZB : ∀ x ∈ B, x.size ≤ 1000 := fun x hx => by
            rw [hBe.out] at hx
            rcases List.mem_append.1 hx with h | h
            · exact hZ.out x h
            · rw [(List.mem_replicate.1 h).2]; exact hsz
          have HZB := keep hZB
          have HCB : Hid (∀ U, cntS B U = cntS A U + if tokW (lb s) = some U then (k : Int) else 0) := keep (fun U => by rw [hBe.out, cntS_rep])
          clear hZB HK6
          cases q with
          | false =>
            have hno : toks s = none := by
              have h := HQ.out
              cases hh : toks s with
              | none => rfl
              | some x => rw [hh] at h; cases h
            have HCN : Hid (∀ U, cnt (tpL L) U = cntS B U) := keep (fun U => by
              have h := toks_eq s
              rw [hno] at h
              rw [HCB.out, ← h, hcn.out]
              simp)
            have HK9 := keep (hKb.out.sub (Q' := L) (fun t ht => ⟨t, List.mem_cons_of_mem _ ht, rfl, rfl⟩))
            clear hno
            go_wp2_with fail
            go_roundw
            case rel => exact ⟨j + 1, B, L, _, _, _, _, by omega, by go_num, rfl, rfl, by omega, by omega, HK9, HZB, HCN, hct⟩
            case measure => simp [intOf]; omega
          | true =>
            have hsome : toks s = some T := by
              have h := HQ.out
              have h2 := HTT.out
              cases hh : toks s with
              | none => rw [hh] at h; cases h
              | some x => rw [hh] at h2; rw [h2]; rfl
            have HTW : Hid (tokW (lb s) = some (strs T)) := keep (by rw [← toks_eq, hsome]; rfl)
            have HN2 := keep (drawNext g2 2 wp hKb.out.c (by omega) (by omega))
            have HKb := keep hKb.out
            clear hsome hKb
            go_wp2_with fail
            refine HN2.out.mono ?_
            rintro e w7 ⟨r, rfl, r0, r1, _, hC7, hg7⟩
            have HK7 := keep (HKb.out.next hg2l hg7 hC7)
            have hws := HK7.out.w.size
            clear hC7 hg7 HN2 r0 r1 HKb
            have hform : ∀ c' : Int, ∀ c ∈ (Value.agg #[.slice TA T.length TC, .int .i64 c']).cells.toList, c.oneCell' = true := by
              intro c' c hc
              simp [Value.cells] at hc
              rcases hc with rfl | rfl <;> rfl
            have HFORM := keep hform
            clear hform
            by_cases hr1 : r = 1
            · subst hr1
              go_wp2_with (refine wpList_push elTm rfl rfl (.tmp 54) (.tmp 51) 55 rfl rfl rfl W.heap.size (.slice At L.length ct) (.agg #[.slice TA T.length TC, .int .i64 (k : Int)]) L.length (tms L) ?_ ?_ ?_ ?_ ?_ ?_ ?_ ?_ ?_ ?_ ?_)
              case refine_1 => rfl
              case refine_2 => intro q; rfl
              case refine_3 => intro q; rfl
              case refine_4 => exact HK7.out.m
              case refine_5 => rfl
              case refine_6 => exact HFORM.out _
              case refine_7 => decide
              case refine_8 => unfold maxLen; omega
              case refine_9 => omega
              case refine_10 => exact hws
              case refine_11 =>
                intro g cap w9 hown9 hb9 hg9 hn9 _
                have HK9 := keep ((HK7.out.pushT (L' := L ++ [(⟨.slice TA T.length TC, T, (k : Int)⟩ : Tm)]) (by rw [List.length_append, tms_append]; exact hown9) hb9 hg9 hg2l).sub (Q' := L ++ [(⟨.slice TA T.length TC, T, (k : Int)⟩ : Tm)]) (fun t ht => by
                  rcases List.mem_append.1 ht with h | h
                  · exact ⟨t, List.mem_cons_of_mem _ h, rfl, rfl⟩
                  · rw [List.mem_singleton.1 h]
                    exact ⟨⟨.slice TA T.length TC, T, 1⟩, by simp, rfl, rfl⟩))
                have HCN : Hid (∀ U, cnt (tpL (L ++ [(⟨.slice TA T.length TC, T, (k : Int)⟩ : Tm)])) U = cntS B U) := keep (fun U => by
                  rw [HCB.out, HTW.out, tpL, List.map_append]
                  show cnt (tpL L ++ [(strs T, (k : Int))]) U = _
                  rw [cnt_snoc, hcn.out]
                  simp)
                have HCT : Hid (∀ t ∈ L ++ [(⟨.slice TA T.length TC, T, (k : Int)⟩ : Tm)], 1 ≤ t.ct ∧ t.ct ≤ 3) := keep (fun t ht => by
                  rcases List.mem_append.1 ht with h | h
                  · exact hct.out t h
                  · rw [List.mem_singleton.1 h]
                    show 1 ≤ (k : Int) ∧ (k : Int) ≤ 3
                    omega)
                have HL9 : Hid ((L ++ [(⟨.slice TA T.length TC, T, (k : Int)⟩ : Tm)]).length = L.length + 1) := keep (by simp)
                have hL9 : (L ++ [(⟨.slice TA T.length TC, T, (k : Int)⟩ : Tm)]).length ≤ 3 * (j + 1) := by rw [HL9.out]; omega
                rw [← HL9.out] at HK9 ⊢
                clear hown9 hb9 hg9 hn9 HL9
                generalize L ++ [(⟨.slice TA T.length TC, T, (k : Int)⟩ : Tm)] = L2 at HK9 HCN HCT hL9 ⊢
                go_wp2_with fail
                go_roundw
                case rel => exact ⟨j + 1, B, L2, _, _, _, _, by omega, by go_num, rfl, rfl, by omega, hL9, HK9, HZB, HCN, HCT⟩
                case measure => simp [intOf]; omega
            · have hrb : (r == 1) = false := by simpa using hr1
              go_wp2_with fail
              go_loopw [8, 15] (fun u8 u15 wr => ∃ (i : Nat) (L1 : List Tm) (Ai : Option Addr) (ci : Nat), i ≤ k ∧ u15 = .int .i64 i ∧ u8 = .slice Ai L1.length ci ∧ L1.length ≤ 3 * j + i ∧ Hid (CSt W g2 wr (.slice Ab B.length cb) (.slice Ai L1.length ci) B L1 (⟨.slice TA T.length TC, T, 1⟩ :: L1)) ∧ Hid (∀ U, cnt (tpL L1) U = cntS A U + if strs T = U then (i : Int) else 0) ∧ Hid (∀ t ∈ L1, 1 ≤ t.ct ∧ t.ct ≤ 3)) (fun _ u15 _ => k - (intOf u15).toNat)
              case atStart => exact ⟨0, L, At, ct, Nat.zero_le _, rfl, rfl, hLl, HK7, keep (fun U => by rw [hcn.out]; simp), hct⟩
              case round =>
                obtain ⟨i, L1, Ai, ci, hi, rfl, rfl, hL1, hKi, hci, hti⟩ := hrel
                obtain ⟨wi, rfl⟩ : ∃ wi : World, wi = wr := ⟨_, rfl⟩
                by_cases hin : i < k
                · have hkd2 : decide ((i : Int) < (k : Int)) = true := by simpa using hin
                  have hi2 : (i : Int) < (k : Int) := by omega
                  have hi3 : (i : Int) ≤ 3 := by omega
                  have hwsi := hKi.out.w.size
                  go_wp2_with (refine wpList_push elTm rfl rfl (.tmp 64) (.tmp 62) 65 rfl rfl rfl W.heap.size (.slice Ai L1.length ci) (.agg #[.slice TA T.length TC, .int .i64 1]) L1.length (tms L1) ?_ ?_ ?_ ?_ ?_ ?_ ?_ ?_ ?_ ?_ ?_)
                  case refine_1 => rfl
                  case refine_2 => intro q; rfl
                  case refine_3 => intro q; rfl
                  case refine_4 => exact hKi.out.m
                  case refine_5 => rfl
                  case refine_6 => exact HFORM.out _
                  case refine_7 => decide
                  case refine_8 => unfold maxLen; omega
                  case refine_9 => omega
                  case refine_10 => exact hwsi
                  case refine_11 =>
                    intro g cap w9 hown9 hb9 hg9 hn9 _
                    have HK9 := keep ((hKi.out.pushT (L' := L1 ++ [(⟨.slice TA T.length TC, T, 1⟩ : Tm)]) (by rw [List.length_append, tms_append]; exact hown9) hb9 hg9 hg2l).sub (Q' := ⟨.slice TA T.length TC, T, 1⟩ :: (L1 ++ [(⟨.slice TA T.length TC, T, 1⟩ : Tm)])) (fun t ht => by
                      rcases List.mem_cons.1 ht with h | h
                      · exact ⟨t, by rw [h]; simp, rfl, rfl⟩
                      · rcases List.mem_append.1 h with h | h
                        · exact ⟨t, List.mem_cons_of_mem _ h, rfl, rfl⟩
                        · exact ⟨t, by rw [List.mem_singleton.1 h]; simp, rfl, rfl⟩))
                    have HCN : Hid (∀ U, cnt (tpL (L1 ++ [(⟨.slice TA T.length TC, T, 1⟩ : Tm)])) U = cntS A U + if strs T = U then ((i + 1 : Nat) : Int) else 0) := keep (fun U => by
                      rw [tpL, List.map_append]
                      show cnt (tpL L1 ++ [(strs T, (1 : Int))]) U = _
                      rw [cnt_snoc, hci.out]
                      split <;> omega)
                    have HCT : Hid (∀ t ∈ L1 ++ [(⟨.slice TA T.length TC, T, 1⟩ : Tm)], 1 ≤ t.ct ∧ t.ct ≤ 3) := keep (fun t ht => by
                      rcases List.mem_append.1 ht with h | h
                      · exact hti.out t h
                      · rw [List.mem_singleton.1 h]
                        show (1 : Int) ≤ 1 ∧ (1 : Int) ≤ 3
                        decide)
                    have HL9 : Hid ((L1 ++ [(⟨.slice TA T.length TC, T, 1⟩ : Tm)]).length = L1.length + 1) := keep (by simp)
                    have hL9 : (L1 ++ [(⟨.slice TA T.length TC, T, 1⟩ : Tm)]).length ≤ 3 * j + (i + 1) := by rw [HL9.out]; omega
                    rw [← HL9.out] at HK9 ⊢
                    clear hown9 hb9 hg9 hn9 HL9
                    generalize L1 ++ [(⟨.slice TA T.length TC, T, 1⟩ : Tm)] = L2 at HK9 HCN HCT hL9 ⊢
                    go_wp2_with fail
                    go_roundw
                    case rel => exact ⟨i + 1, L2, _, _, by omega, by go_num, rfl, hL9, HK9, HCN, HCT⟩
                    case measure => simp [intOf]; omega
                · obtain rfl : i = k := by omega
                  have hkd2 : decide ((i : Int) < (i : Int)) = false := by simp
                  have HCN : Hid (∀ U, cnt (tpL L1) U = cntS B U) := keep (fun U => by
                    rw [hci.out, HCB.out, HTW.out]
                    simp)
                  have HK9 := keep (hKi.out.sub (Q' := L1) (fun t ht => ⟨t, List.mem_cons_of_mem _ ht, rfl, rfl⟩))
                  go_wp2_with fail
                  go_roundw
                  case rel => exact ⟨j + 1, B, L1, _, _, _, _, by omega, by go_num, rfl, rfl, by omega, by omega, HK9, HZB, HCN, hti⟩
                  case measure => simp [intOf]; omega
    · obtain rfl : j = S.length := by omega
      have HBO := keep (below_grown HB4.out hK.out.w HB4.out.size hg2w)
      have HOF := keep (of_any (.slice At L.length ct) L wo (Sl.of_own hK.out.m) (fun t ht => (hK.out.x t ht).1) (fun t ht => by have := (hct.out t ht).2; omega) (by omega))
      have HML := keep fun W' (h : Below wo.heap.size wo W') => mineL_any (.slice Aa A.length ca) A W' ((own_str (own_bel hK.out.lf h)).str) (fun s hs => by have := hZ.out s hs; omega) (by omega)
      have HPOS : Hid (Pos (tpL L)) := keep (fun t ht => by
        obtain ⟨u, hu, rfl⟩ := List.mem_map.1 ht
        exact (hct.out u hu).1)
      clear hlt hj hK
      go_wp2_with fail
      refine HOF.out.mono ?_
      rintro e w6 ⟨v1, R1, rfl, ho1, ht1, hp1, hs1, hl1, hb1⟩
      obtain ⟨A1, c1, rfl, _⟩ := own_sl ho1
      have HM3 := keep (HML.out w6 hb1)
      have HO1 := keep ho1
      have HT1 := keep ht1
      have HP1 := keep hp1
      have HS1 := keep hs1
      have HB1 := keep hb1
      clear ho1 ht1 hp1 hs1 hb1 HML HOF
      go_wp2_with fail
      refine HM3.out.mono ?_
      rintro e w7 ⟨v2, R2, rfl, ho2, ht2, hp2, hs2, hl2, hb2⟩
      obtain ⟨A7, c7, rfl, _⟩ := own_sl ho2
      have hst := lines_eq HPOS.out hcn.out HP1.out HS1.out hp2 hs2
      have hm1 : MS w7 (.slice A1 R1.length c1) R1 := ⟨Sl.of_own (own_bel HO1.out hb2), fun t ht => TkM.r (B := wo.heap.size) ⟨own_bel (HT1.out t ht).1 hb2, (HT1.out t ht).2⟩⟩
      have hm2' : MS w7 (.slice A7 R2.length c7) R2 := ⟨Sl.of_own ho2, fun t ht => (ht2 t ht).r⟩
      have HSAME := keep (same_any _ _ R1 R2 w7 hm1 hm2' hst (by omega))
      have HB2 := keep (HBO.out.trans ((bchain HB1.out hb2).mono HBO.out.size))
      clear ho2 ht2 hp2 hs2 hb2 hst hm1 hm2' HM3 HO1 HT1 HP1 HS1 HB1
      go_wp2_with fail
      refine HSAME.out.mono ?_
      rintro e w8 ⟨rfl, hb8⟩
      have HB8 := keep (HB2.out.trans (hb8.mono HB2.out.size))
      clear hb8
      go_wp2_with fail
      go_ret
      exact ⟨rfl, HB8.out⟩
end Go.Proofs.Ytibljgnajbblaaa
