/- The contract of logtideref25.Decode. -/
import Derived.Test.YtihimbmbhmgjoaaDec
namespace Go.Proofs.Ytihimbmbhmgjoaa
open Go.RowKit

theorem not_postR {b : List UInt8} (h : decR b = none) : ∀ l, ¬ IsPost b l := fun l hl => by
  have := hl.decR
  rw [h] at this
  cases this
theorem post_orR {b : List UInt8} {o : List Int} (h : decR b = some o) (hn : ¬ (checkOf o = 0 ∧ postB o = b)) : ∀ l, ¬ IsPost b l := fun l hl => by
  have h1 := hl.decR
  rw [h] at h1
  injection h1 with h1
  subst h1
  exact hn hl
theorem getLast_at {acc : List Int} (h : 0 < acc.length) : acc.getLastD 0 = acc[acc.length - 1] := by
  rw [List.getLastD_eq_getLast?, List.getLast?_eq_getElem?]
  simp [List.getElem?_eq_getElem (show acc.length - 1 < acc.length by omega)]
/-- What decR comes to, step by step. -/
def DecRIs (b : List UInt8) (r : Nat × Nat × Bool) : Prop :=
  ((r.2.2 = false ∨ 4096 < r.1) → decR b = none) ∧
  (r.2.2 = true → r.1 ≤ 4096 → (skipR (2 * blocksNo r.1) b r.2.1 = none → decR b = none) ∧ ∀ p, skipR (2 * blocksNo r.1) b r.2.1 = some p → decR b = idsR r.1 [] b p)
theorem decR_is (b : List UInt8) : DecRIs b (getVar b 0) := by
  refine ⟨fun h => ?_, fun h1 h2 => ⟨fun h => ?_, fun p h => ?_⟩⟩
  · unfold decR
    rw [if_neg]
    rintro ⟨h1, h2⟩
    rcases h with h | h
    · rw [h] at h1; cases h1
    · omega
  · unfold decR
    rw [if_pos ⟨h1, h2⟩, h]
  · unfold decR
    rw [if_pos ⟨h1, h2⟩, h]

set_option maxRecDepth 100000 in
set_option maxHeartbeats 2000000 in
theorem refDec_any (v : Value) (b : List UInt8) (w : World) (h : BSl w (lt w.heap.size) v b) (hm : b.length ≤ 1000000) :
    Calls Try.prog 30 #[v] w (DecRes w b) := by
  have HB := keep h
  go_enter Try.func30, Try.ntmps30
  go_wp2_with fail
  refine (getvar_any v b _ 0 w h (by omega) (Nat.zero_le _)).mono ?_
  rintro e W1 ⟨rfl, rfl⟩
  have hle := getVar_le b 0 (Nat.zero_le _)
  obtain ⟨r0, hr0⟩ : ∃ r, getVar b 0 = r := ⟨_, rfl⟩
  have hdr : Hid (DecRIs b r0) := keep (by rw [← hr0]; exact decR_is b)
  rw [hr0] at hle
  rw [hr0]
  clear hr0 h
  obtain ⟨n, p0, ok0⟩ := r0
  simp only at hle hdr
  obtain ⟨hn64, hp0⟩ := hle
  cases ok0 with
  | false =>
    have hno : Hid (decR b = none) := keep (hdr.out.1 (.inl rfl))
    go_wp2_with fail
    refine bodyPost_ret (v := .tuple #[.slice none 0 0, .int .i64 22]) (by simp [results, Try.results30, go_sem]) rfl ?_
    exact .inr ⟨not_postR hno.out, rfl, Below.refl _ _⟩
  | true =>
    by_cases h4 : 4096 < n
    · have hno : Hid (decR b = none) := keep (hdr.out.1 (.inr h4))
      have d4 : decide ((4096 : Int) < (n : Int)) = true := by simp; omega
      clear hdr
      go_wp2_with fail
      refine bodyPost_ret (v := .tuple #[.slice none 0 0, .int .i64 22]) (by simp [results, Try.results30, go_sem]) rfl ?_
      exact .inr ⟨not_postR hno.out, rfl, Below.refl _ _⟩
    · have hn4 : n ≤ 4096 := by omega
      have hD := keep (hdr.out.2 rfl hn4)
      have d4 : decide ((4096 : Int) < (n : Int)) = false := by simp; omega
      obtain ⟨K2, hK2⟩ : ∃ K2, 2 * blocksNo n = K2 := ⟨_, rfl⟩
      rw [hK2] at hD
      have hK2n : Hid ((2 : Int) * (((n : Int) + 32 - 1) / 32) = (K2 : Int)) := keep (by rw [← hK2]; unfold blocksNo; omega)
      have hK2b : K2 ≤ 260 := by rw [← hK2]; unfold blocksNo; omega
      have HK2 := keep hK2
      clear hdr h4 hK2
      go_upto_region 6 with fail
      go_loop [5, 6, 8] (fun at_ ok i => ∃ (j p : Nat), i = .int .i64 j ∧ at_ = .int .i64 p ∧ ok = .bool true ∧ Hid (j ≤ K2) ∧ Hid (p ≤ b.length) ∧ Hid (skipR (K2 - j) b p = skipR K2 b p0)) (fun _ _ i => 300 - (intOf i).toNat)
      case atStart => exact ⟨0, p0, rfl, rfl, rfl, keep (Nat.zero_le _), keep hp0, keep rfl⟩
      case round =>
        obtain ⟨j, p, rfl, rfl, rfl, hj, hp, hsk⟩ := hrel
        by_cases hlt : j < K2
        · have d1 : decide ((j : Int) < 2 * (((n : Int) + 32 - 1) / 32)) = true := by rw [hK2n.out]; simpa using hlt
          have hjb : j ≤ 260 := by omega
          go_wp2_with fail
          refine (getvar_any v b _ p w HB.out (by omega) hp.out).mono ?_
          rintro e W1 ⟨rfl, rfl⟩
          have hle := (getVar_le b p hp.out).2
          have hst : Hid (skipR K2 b p0 = if (getVar b p).2.2 = true then skipR (K2 - (j + 1)) b (getVar b p).2.1 else none) := keep (by
            rw [← hsk.out, show K2 - j = (K2 - (j + 1)) + 1 by omega, skipR])
          obtain ⟨r, hr⟩ : ∃ r, getVar b p = r := ⟨_, rfl⟩
          rw [hr] at hle hst
          rw [hr]
          clear hr
          obtain ⟨x, p2, ok2⟩ := r
          simp only at hle hst
          cases ok2 with
          | false =>
            have hno : Hid (decR b = none) := keep (by
              have h1 := hst.out
              rw [if_neg (by simp)] at h1
              exact hD.out.1 h1)
            go_wp2_with fail
            refine bodyPost_ret (v := .tuple #[.slice none 0 0, .int .i64 22]) (by simp [results, Try.results30, go_sem]) rfl ?_
            exact .inr ⟨not_postR hno.out, rfl, Below.refl _ _⟩
          | true =>
            go_wp2_with fail
            go_round
            case rel => exact ⟨j + 1, p2, by go_num, rfl, rfl, keep (by omega), keep hle, keep (by have h1 := hst.out; simp only [if_true] at h1; exact h1.symm)⟩
            case measure => simp [intOf]; omega
        · have hjK : j = K2 := by have := hj.out; omega
          have d1 : decide ((j : Int) < 2 * (((n : Int) + 32 - 1) / 32)) = false := by rw [hK2n.out]; simpa using hlt
          have hjb : j ≤ 260 := by omega
          have hD2 : Hid (decR b = idsR n [] b p) := keep (by
            have h1 := hsk.out
            rw [hjK, Nat.sub_self, skipR] at h1
            exact hD.out.2 p h1.symm)
          clear hjK hD hsk
          go_upto_region 13 with fail
          go_loopw [5, 6, 9, 10, 11, 12] (fun at_ _ lv i _ _ wr => ∃ (acc : List Int) (p : Nat), i = .int .i64 acc.length ∧ at_ = .int .i64 p ∧ Hid (acc.length ≤ n) ∧ Hid (p ≤ b.length) ∧ Hid (∀ y ∈ acc, 0 ≤ y ∧ y ≤ 4096 * (acc.length : Int)) ∧
              wr.ownsRow w.heap.size 3 1 lv acc.length (acc.map (.int .i64)) ∧ Hid (decR b = idsR (n - acc.length) acc b p) ∧ Hid (Below w.heap.size w wr)) (fun _ _ _ i _ _ _ => 5000 - (intOf i).toNat)
          case atStart => exact ⟨[], p, rfl, rfl, keep (Nat.zero_le _), hp, keep (by simp), World.ownsRow_nil _ _ _ _, hD2, keep (Below.refl _ _)⟩
          case round =>
            obtain ⟨acc, p2, rfl, rfl, hacc, hp2, hval, hown, hid, hbr⟩ := hrel
            obtain ⟨Ao, co, hov, hco, _⟩ := (Sl.of_own hown).form
            subst hov
            have hal := hacc.out
            by_cases hlt2 : acc.length < n
            · have d2 : decide (acc.length < n) = true := by simpa using hlt2
              have hSb := HB.out.keep_ hbr.out
              have hst := hid.out
              rw [show n - acc.length = (n - (acc.length + 1)) + 1 by omega, idsR] at hst
              have hst := keep hst
              have HOW := keep hown
              go_wp2_with fail
              refine (getvar_any v b _ p2 wr hSb (by omega) hp2.out).mono ?_
              rintro e W1 ⟨rfl, rfl⟩
              have hle := getVar_le b p2 hp2.out
              obtain ⟨r, hr⟩ : ∃ r, getVar b p2 = r := ⟨_, rfl⟩
              rw [hr] at hle hst
              rw [hr]
              clear hr
              obtain ⟨x, p3, ok2⟩ := r
              simp only at hle hst
              obtain ⟨hx64, hp3⟩ := hle
              cases ok2 with
              | false =>
                have hno : Hid (decR b = none) := keep (by have h1 := hst.out; rw [if_neg (by simp)] at h1; exact h1)
                go_wp2_with fail
                refine bodyPost_ret (v := .tuple #[.slice none 0 0, .int .i64 22]) (by simp [results, Try.results30, go_sem]) rfl ?_
                exact .inr ⟨not_postR hno.out, rfl, hbr.out⟩
              | true =>
                by_cases hx4 : x < 4096
                · have d3 : decide ((4096 : Int) ≤ (x : Int)) = false := by simp; omega
                  have hst2 := keep (show decR b = idsR (n - (acc.length + 1)) (acc ++ [(x : Int) + prevR acc]) b p3 by have h1 := hst.out; rw [if_pos ⟨rfl, hx4⟩] at h1; exact h1)
                  have hx40 : (x : Int) < 4096 := by omega
                  have hal2 : acc.length ≤ 4096 := by omega
                  clear hst hown hx64
                  have hpr : Hid (0 ≤ prevR acc ∧ prevR acc ≤ 4096 * (acc.length : Int)) := keep (by
                    unfold prevR
                    split
                    · omega
                    · rename_i h0
                      have h1 : 0 < acc.length := by omega
                      rw [getLast_at h1]
                      exact hval.out _ (List.getElem_mem _))
                  have hnew : ∀ (y : Int), y = (x : Int) + prevR acc → Hid (∀ z ∈ acc ++ [y], 0 ≤ z ∧ z ≤ 4096 * ((acc ++ [y]).length : Int)) := fun y hy => keep (fun z hz => by
                    have h1 := hpr.out
                    rw [List.length_append, List.length_singleton]
                    rcases List.mem_append.1 hz with h | h
                    · have := hval.out z h; omega
                    · rw [List.mem_singleton.1 h, hy]; omega)
                  have HNEW := keep hnew
                  clear hnew
                  by_cases hmod : acc.length % 32 = 0
                  · have dm : ((acc.length : Int) % 32 != 0) = false := by simp; omega
                    have hp0' : Hid (prevR acc = 0) := keep (by unfold prevR; rw [if_pos hmod])
                    have hbs := hbr.out.size
                    clear hmod
                    go_wp2_with (refine wpList_push1 el26 rfl rfl _ _ _ rfl rfl rfl w.heap.size (.slice Ao acc.length co) (.int .i64 (x : Int)) acc.length _ rfl (fun _ => rfl) (fun _ => rfl) HOW.out rfl (by unfold maxLen; omega) (by omega) hbs ?_; intro g8 cap8 w8 hown8 hb8 _ _ _)
                    go_roundw
                    case rel =>
                      have hxe : (x : Int) = (x : Int) + prevR acc := by rw [hp0'.out]; omega
                      refine ⟨acc ++ [(x : Int)], p3, by rw [List.length_append]; go_num, rfl, keep (by simp; omega), keep hp3, HNEW.out _ hxe, ?_, keep ?_, keep (hbr.out.trans hb8)⟩
                      · rw [List.length_append, List.map_append]; exact hown8
                      · rw [List.length_append, hst2.out, ← hxe]; rfl
                    case measure => simp [intOf]; omega
                  · have dm : ((acc.length : Int) % 32 != 0) = true := by rw [bne_iff_ne]; omega
                    have h1 : 0 < acc.length := by omega
                    have hp0' : Hid (prevR acc = acc[acc.length - 1]) := keep (by unfold prevR; rw [if_neg hmod, getLast_at h1])
                    have hbs := hbr.out.size
                    obtain ⟨gA, oA, u, hvA, _, hge, hcell⟩ := (Sl.of_own HOW.out).at_ (k := acc.length - 1) (by omega)
                    have hu : u = .int .i64 acc[acc.length - 1] := by simpa [show acc.length - 1 < acc.length by omega] using hge.symm
                    subst hu hvA
                    have i1 : (1 : Int) ≤ (acc.length : Int) := by omega
                    have hvb := hval.out _ (List.getElem_mem (show acc.length - 1 < acc.length by omega))
                    obtain ⟨Y, hY⟩ : ∃ Y, acc[acc.length - 1] = Y := ⟨_, rfl⟩
                    rw [hY] at hcell hp0' hvb
                    have hY0 : 0 ≤ Y := hvb.1
                    have hY1 : Y ≤ 16777216 := by omega
                    clear hmod hge hY hvb
                    go_wp2_with (refine wpList_push1 el26 rfl rfl _ _ _ rfl rfl rfl w.heap.size (.slice (some ⟨gA, oA, none⟩) acc.length co) (.int .i64 ((x : Int) + Y)) acc.length _ rfl (fun _ => rfl) (fun _ => rfl) HOW.out rfl (by unfold maxLen; omega) (by omega) hbs ?_; intro g8 cap8 w8 hown8 hb8 _ _ _)
                    go_roundw
                    case rel =>
                      have hxe : (x : Int) + Y = (x : Int) + prevR acc := by rw [hp0'.out]
                      refine ⟨acc ++ [(x : Int) + Y], p3, by rw [List.length_append]; go_num, rfl, keep (by simp; omega), keep hp3, HNEW.out _ hxe, ?_, keep ?_, keep (hbr.out.trans hb8)⟩
                      · rw [List.length_append, List.map_append]; exact hown8
                      · rw [List.length_append, hst2.out, ← hxe]; rfl
                    case measure => simp [intOf]; omega
                · have d3 : decide ((4096 : Int) ≤ (x : Int)) = true := by simp; omega
                  have hno : Hid (decR b = none) := keep (by have h1 := hst.out; rw [if_neg (by rintro ⟨_, h⟩; omega)] at h1; exact h1)
                  clear hst hx4
                  go_wp2_with fail
                  refine bodyPost_ret (v := .tuple #[.slice none 0 0, .int .i64 22]) (by simp [results, Try.results30, go_sem]) rfl ?_
                  exact .inr ⟨not_postR hno.out, rfl, hbr.out⟩
            · have d2 : decide (acc.length < n) = false := by simpa using hlt2
              have hacn : acc.length = n := by omega
              have hyes : Hid (decR b = some acc) := keep (by rw [hid.out, hacn, Nat.sub_self]; rfl)
              have hbs := hbr.out.size
              have hSo : Sl wr (lt wr.heap.size) 1 (.slice Ao acc.length co) acc.length (acc.map (.int .i64)) := Sl.of_own hown
              have hEn := refEnc_any _ acc wr hSo (by unfold maxLen; omega)
              have HOW := keep hown
              obtain ⟨z, hz⟩ : ∃ z, checkOf acc = z := ⟨_, rfl⟩
              obtain ⟨LL, hLL⟩ : ∃ LL, (if checkOf acc = 0 then postB acc else []) = LL := ⟨_, rfl⟩
              have hfin : Hid ((z = 0 ∧ LL = b → IsPost b acc) ∧ (¬ (z = 0 ∧ LL = b) → ∀ l, ¬ IsPost b l)) := keep (by
                constructor
                · rintro ⟨h0, hb⟩
                  rw [← hz] at h0
                  rw [if_pos h0] at hLL
                  exact ⟨h0, hLL.trans hb⟩
                · intro hn
                  refine post_orR hyes.out (fun hc => hn ⟨by rw [← hz]; exact hc.1, ?_⟩)
                  rw [← hLL, if_pos hc.1]
                  exact hc.2)
              have hLLb : LL.length ≤ 1000000000 := by rw [← hLL]; exact Nat.le_trans (postB_bd acc) (by omega)
              unfold EncRes at hEn
              rw [hLL, hz] at hEn
              clear hacn hown hSo hz hLL hlt2
              have HEn := keep hEn
              clear hEn
              go_wp2_with fail
              refine HEn.out.mono ?_
              rintro e W2 ⟨v2, rfl, ho2, hb2⟩
              have hbw2 := hbr.out.trans (hb2.mono hbs)
              have HV2 := keep ho2.slt
              have HB2 := keep (show BSl W2 (lt W2.heap.size) v b from Sl.more (HB.out.keep_ hbw2) hbw2.size)
              clear ho2 HEn
              by_cases hz0 : z = 0
              · subst hz0
                go_wp2_with fail
                refine (sameB_any v2 v LL b _ HV2.out HB2.out hLLb).mono ?_
                rintro e W3 ⟨rfl, hb3⟩
                have hbw3 := hbw2.trans (hb3.mono hbw2.size)
                by_cases hlb : LL = b
                · have hP := keep (hfin.out.1 (by first | exact ⟨rfl, hlb⟩ | simpa using hlb))
                  have hd : decide (LL = b) = true := by simpa using hlb
                  rw [hd]
                  clear hlb hd hfin
                  go_wp2_with fail
                  refine bodyPost_ret (v := .tuple #[.slice Ao acc.length co, .int .i64 0]) (by simp [results, Try.results30, go_sem]) rfl ?_
                  refine .inl ⟨acc, _, hP.out, rfl, ?_, hbw3⟩
                  have hk : Below wr.heap.size wr W3 := hb2.trans (hb3.mono hb2.size)
                  exact HOW.out.kept (grownBy_of_below hk none) (by cases hv : Value.ownBlock (.slice Ao acc.length co) <;> simp)
                · have hP := keep (hfin.out.2 (fun h => hlb h.2))
                  have hd : decide (LL = b) = false := by simpa using hlb
                  rw [hd]
                  clear hlb hd hfin
                  go_wp2_with fail
                  refine bodyPost_ret (v := .tuple #[.slice none 0 0, .int .i64 22]) (by simp [results, Try.results30, go_sem]) rfl ?_
                  exact .inr ⟨hP.out, rfl, hbw3⟩
              · have hP := keep (hfin.out.2 (fun h => hz0 h.1))
                have hd : (z != 0) = true := by simpa using hz0
                clear hz0 hfin
                go_wp2_with fail
                refine bodyPost_ret (v := .tuple #[.slice none 0 0, .int .i64 22]) (by simp [results, Try.results30, go_sem]) rfl ?_
                exact .inr ⟨hP.out, rfl, hbw2⟩
end Go.Proofs.Ytihimbmbhmgjoaa
