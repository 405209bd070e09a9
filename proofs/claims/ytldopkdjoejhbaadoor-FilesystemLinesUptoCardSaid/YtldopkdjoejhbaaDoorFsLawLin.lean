/- FilesystemLines: the walk of the statement. -/
import Derived.Test.YtldopkdjoejhbaaDoorFsAwake
import Derived.Test.YtldopkdjoejhbaaDoorMakeData
import Derived.Test.YtldopkdjoejhbaaDoorLines
import Derived.Test.YtldopkdjoejhbaaDoorSub
namespace Go.Proofs.YtldopkdjoejhbaaDoor
open Go.RowKit

/-- Two slices in a literal of two. -/
structure Duo (w : World) (g : Nat) : Prop where
  h : ∀ k, k < 2 → ∃ (v : Value) (l : List UInt8), w.cell? ⟨g, k, none⟩ = some v ∧ BSl w (lt w.heap.size) v l ∧ l.length ≤ 2000000
theorem elBL : Elem Tryd.prog 22 5 1 1 (.int .u8 0) := ⟨Tryd.underlying22, by kernel_rfl, rfl, by decide⟩
theorem spV_len (p : Nat × Nat) : (spV p).length = 2 := rfl
theorem sp_cells {w : World} {S : Nat → Prop} {A : Option Addr} {c k : Nat} {L : List (Nat × Nat)} (h : Sl w S 2 (.slice A L.length c) L.length (L.flatMap spV)) (hk : k < L.length) :
    ∃ b o, A = some ⟨b, o, none⟩ ∧ S b ∧ w.cell? ⟨b, o + k * 2, none⟩ = some (.int .i64 L[k].1) ∧ w.cell? ⟨b, o + k * 2 + 1, none⟩ = some (.int .i64 L[k].2) := by
  obtain ⟨b, o, hA, hb, hrow⟩ := h.row (by omega)
  have q : ∀ j, j < 2 → ∀ u, (spV L[k])[j]? = some u → w.cell? ⟨b, o + k * 2 + j, none⟩ = some u := fun j hj u hu => by
    have := hrow _ _ ((rows_at spV_len L k hk j hj).trans hu)
    rwa [← Nat.add_assoc] at this
  exact ⟨b, o, hA, hb, q 0 (by omega) _ rfl, q 1 (by omega) _ rfl⟩
/-- Where the first k spans end. -/
def endAt (L : List (Nat × Nat)) : Nat → Nat
  | 0 => 0
  | k + 1 => (L.getD k (0, 0)).2
theorem span_at (m : List UInt8) (k : Nat) (hk : k < (spans m).length) : ∃ a b : Nat, (spans m)[k] = (a, b + 1) ∧ endAt (spans m) k = a ∧ endAt (spans m) (k + 1) = b + 1 ∧ b < m.length ∧ m.getD b 0 = 10 := by
  obtain ⟨h1, h2, h3⟩ := spans_ok m _ (List.getElem_mem hk)
  have h4 := Chn.at_ (spans m) 0 (spEnd m) k (spans_chn m) hk
  obtain ⟨b, hb⟩ : ∃ b, ((spans m)[k]).2 = b + 1 := ⟨((spans m)[k]).2 - 1, by omega⟩
  refine ⟨((spans m)[k]).1, b, by rw [← hb], ?_, by simp [endAt, hk, hb], by omega, (h3 b (by omega) (by omega)).2 (by omega)⟩
  rw [h4]
  cases k with
  | zero => rfl
  | succ k => simp [endAt, show k < (spans m).length by omega]
theorem endAt_all (m : List UInt8) : endAt (spans m) (spans m).length = spEnd m := by
  rcases Nat.eq_zero_or_pos (spans m).length with h | h
  · have h0 : spans m = [] := List.eq_nil_of_length_eq_zero h
    have h1 := spans_chn m
    rw [h0] at h1 ⊢
    exact h1
  · have h1 := Chn.last (spans m) 0 (spEnd m) (spans_chn m) h
    obtain ⟨n, hn⟩ : ∃ n, (spans m).length = n + 1 := ⟨(spans m).length - 1, by omega⟩
    rw [hn]
    simp only [hn, Nat.add_sub_cancel] at h1
    simp [endAt, ← h1, show n < (spans m).length by omega]
theorem rest_ne (m : List UInt8) (j : Nat) (hj : j < (m.drop (spEnd m)).length) : ((m.drop (spEnd m)).getD j 0).toNat ≠ 10 := by
  rw [List.length_drop] at hj
  have h := (lnS_ok m m.length (Nat.le_refl _)).2 (spEnd m + j) (by show spEnd m ≤ _; omega) (by omega)
  intro e
  apply h
  have e1 : (m.drop (spEnd m)).getD j 0 = m.getD (spEnd m + j) 0 := by simp [List.getD, List.getElem?_drop]
  rw [← e1]
  exact UInt8.toNat_inj.1 e

set_option maxRecDepth 100000 in
set_option maxHeartbeats 8000000 in
theorem law_lines (v vc : Value) (l : List UInt8) (cs : List Int) (w : World) (hg : Chg w) (h : BSl w (lt w.heap.size) v l) (hm : l.length ≤ 2000000) (hs : Sl w (lt w.heap.size) 1 vc cs.length (cs.map (.int .u8))) (hr : ∀ x ∈ cs, 0 ≤ x ∧ x ≤ 255) (hcm : cs.length ≤ maxLen) :
    Calls Tryd.prog 4 #[v, vc] w fun e w' => e = .returned (.bool true) ∧ Below w.heap.size w w' := by
  obtain ⟨A, c, rfl, hc, h⟩ := h.forms
  have HG := keep hg
  clear hg
  go_enter Tryd.func4, Tryd.ntmps4
  go_wp2_with fail
  refine (awake_any w HG.out).mono ?_
  rintro e w1 ⟨rfl, hb1⟩
  go_wp2_with fail
  refine (drawNew _ cs 100 _ ((hs.below hb1 (Nat.le_refl _)).more hb1.size) hr (by omega) hcm).mono ?_
  rintro e w2 ⟨gc, rfl, hgc, hC, hb2⟩
  go_wp2_with fail
  refine (drawNext gc 256 _ hC (by omega) (by omega)).mono ?_
  rintro e w3 ⟨r, rfl, hr0, hr1, _, hC3, hg3⟩
  go_wp2_with fail
  refine (makeData gc r 4 _ hC3 (by omega) (by omega)).mono ?_
  rintro e w4 ⟨vD, lD, rfl, hD, hD1, hD2, hC4, hg4⟩
  have hb4 : Below w1.heap.size w1 w4 := (hb2.grown hg3 hb2.size (fun k hk => by injection hk with hk; omega)).grown hg4 (Nat.le_trans hb2.size hg3.size) (fun k hk => by injection hk with hk; omega)
  obtain ⟨AD, cD, rfl, hcD, hD⟩ := hD.form
  have hl4 : BSl w4 (lt w4.heap.size) (.slice A l.length c) l := Sl.upW (Sl.upW h hb1) hb4
  have hal : Below w4.heap.size w4 (w4.alloc (.cells #[.slice A l.length c, .slice AD lD.length cD] 22)) := (Below.refl _ w4).alloc (Nat.le_refl _) _
  have hduo : Duo (w4.alloc (.cells #[.slice A l.length c, .slice AD lD.length cD] 22)) w4.heap.size := by
    refine ⟨fun k hk2 => ?_⟩
    rcases (show k = 0 ∨ k = 1 by omega) with rfl | rfl
    · exact ⟨_, l, by rw [(Blk.new w4 22 _).cell]; rfl, Sl.upW hl4 hal, hm⟩
    · exact ⟨_, lD, by rw [(Blk.new w4 22 _).cell]; rfl, Sl.upW hD.slt hal, by omega⟩
  have hb5 : Below w.heap.size w (w4.alloc (.cells #[.slice A l.length c, .slice AD lD.length cD] 22)) := bchain (bchain hb1 hb4) hal
  obtain ⟨W5, hW5⟩ : ∃ W5, w4.alloc (.cells #[.slice A l.length c, .slice AD lD.length cD] 22) = W5 := ⟨_, rfl⟩
  rw [hW5] at hduo hb5
  have HW5 := keep hW5
  have HB5 := keep hb5
  clear hW5 hb5 hal
  go_wp2_with fail
  rw [HW5.out]
  obtain ⟨g5, hg5⟩ : ∃ g5, w4.heap.size = g5 := ⟨_, rfl⟩
  rw [hg5] at hduo ⊢
  have hg5l : g5 < W5.heap.size := by rw [← HW5.out, ← hg5]; simp
  clear hg5 HW5 hl4 hD hC hC3 hC4 hg3 hg4 hb4 hb2 hb1 hs h
  go_loopw [25] (fun i wr => ∃ k : Nat, i = .int .i64 k ∧ k ≤ 2 ∧ Hid (Below W5.heap.size W5 wr)) (fun i _ => 2 - (intOf i).toNat)
  case atStart => exact ⟨0, rfl, by omega, keep (Below.refl _ _)⟩
  case round =>
    obtain ⟨k, rfl, hk, hb⟩ := hrel
    obtain ⟨wo, rfl⟩ : ∃ wo : World, wo = wr := ⟨_, rfl⟩
    by_cases hlt : k < 2
    · obtain ⟨v, m, hcell, hv, hml⟩ := hduo.h k hlt
      have hcell' := (hb.out.cell (p := ⟨g5, k, none⟩) hg5l).trans hcell
      have hv' : BSl wo (lt wo.heap.size) v m := Sl.upW hv hb.out
      obtain ⟨Am, cm, rfl, hcm2, hv'⟩ := hv'.forms
      have k0 : (0 : Int) ≤ (k : Int) := by omega
      have k1 : (k : Int) < (2 : Int) := by omega
      have HV := keep hv'
      clear hcell hv hv'
      go_wp2_with fail
      refine (lines_any _ m _ HV.out (by omega)).mono ?_
      rintro e w6 ⟨v1, rfl, ho1, hb6⟩
      have hv6 : BSl w6 (lt w6.heap.size) (.slice Am m.length cm) m := Sl.upW HV.out hb6
      obtain ⟨A1, c1, rfl, _⟩ := own_sl ho1
      have HR := keep (linesRef_any _ m _ hv6 (by omega))
      have HO1 := keep (Sl.of_own ho1)
      have HV6 := keep hv6
      have HB6 := keep (bchain hb.out hb6)
      clear hv6 ho1 hb6 HV hcell'
      go_wp2_with fail
      refine HR.out.mono ?_
      rintro e w7 ⟨v2, rfl, ho2, hb7⟩
      obtain ⟨A2, c2, rfl, _⟩ := own_sl ho2
      have HO2 := keep (Sl.of_own ho2)
      have HO1' := keep (Sl.upW HO1.out hb7)
      have HV7 : Hid (BSl w7 (lt w7.heap.size) (.slice Am m.length cm) m) := keep (Sl.upW HV6.out hb7)
      have HB7 := keep (bchain HB6.out hb7)
      have hsl := spans_len m
      have hnn : (((spans m).length : Int) != ((spans m).length : Int)) = false := by simp
      clear ho2 hb7 HO1 HV6 HB6 HR
      go_wp2_with fail
      go_loopw [10, 40] (fun q i wr => ∃ j : Nat, i = .int .i64 j ∧ q = .int .i64 ((endAt (spans m) j : Nat) : Int) ∧ j ≤ (spans m).length ∧ Hid (Below w7.heap.size w7 wr)) (fun _ i _ => (spans m).length - (intOf i).toNat)
      case atStart => exact ⟨0, rfl, rfl, Nat.zero_le _, keep (Below.refl _ _)⟩
      case round =>
        obtain ⟨j, rfl, rfl, hj, hbi⟩ := hrel
        obtain ⟨wi, rfl⟩ : ∃ wi : World, wi = wr := ⟨_, rfl⟩
        by_cases hjt : j < (spans m).length
        · obtain ⟨b1, o1, rfl, _, x0, x1⟩ := sp_cells (Sl.upW HO1'.out hbi.out) hjt
          obtain ⟨b2, o2, rfl, _, y0, y1⟩ := sp_cells (Sl.upW HO2.out hbi.out) hjt
          obtain ⟨a, b, hab, hea, heb, hbm, hten⟩ := span_at m j hjt
          have hvi : BSl wi (lt wi.heap.size) (.slice Am m.length cm) m := Sl.upW HV7.out hbi.out
          obtain ⟨b3, o3, rfl, _, z0⟩ := hvi.byte hbm
          rw [hten] at z0
          replace z0 : wi.cell? ⟨b3, o3 + b, none⟩ = some (.int .u8 10) := z0
          rw [hab] at x0 x1 y0 y1
          obtain ⟨T, hT⟩ : ∃ T : Int, T = (b : Int) + 1 := ⟨_, rfl⟩
          replace x1 : wi.cell? ⟨b1, o1 + j * 2 + 1, none⟩ = some (.int .i64 T) := by rw [hT]; exact x1
          replace y1 : wi.cell? ⟨b2, o2 + j * 2 + 1, none⟩ = some (.int .i64 T) := by rw [hT]; exact y1
          have hw : IntKind.i64.wrap (b : Int) = (b : Int) := IntWalk.i64_in _ (by omega)
          have hw2 : T - 1 = (b : Int) := by omega
          have a6 : (T != T) = false := by simp
          have HEB := keep heb
          rw [hea]
          have a0 : (0 : Int) ≤ (j : Int) := by omega
          have a1 : (j : Int) < ((spans m).length : Int) := by omega
          have a2 : ((a : Int) != (a : Int)) = false := by simp
          have a3 : decide ((m.length : Int) < T) = false := decide_eq_false (by omega)
          have HTT := keep hT
          have a4 : (b : Int) < (m.length : Int) := by omega
          have a5 : (0 : Int) ≤ (b : Int) := by omega
          clear hab hea heb hten hvi hT
          go_wp2_with fail
          go_quiet (fail)
          go_wp2_with fail
          go_roundw
          case rel => exact ⟨j + 1, by go_num, by rw [HEB.out, HTT.out]; go_num, by omega, keep (below_drewN hbi.out _)⟩
          case measure => simp [intOf]; omega
        · obtain rfl : j = (spans m).length := by omega
          rw [endAt_all m]
          have hle := spEnd_le m
          obtain ⟨q, hq⟩ : ∃ q, spEnd m = q := ⟨_, rfl⟩
          have HQ := keep hq
          rw [hq] at hle ⊢
          have hvi : BSl wi (lt wi.heap.size) (.slice Am m.length cm) m := Sl.upW HV7.out hbi.out
          obtain ⟨M, hM⟩ : ∃ M, m.drop q = M := ⟨_, rfl⟩
          have HN : Hid (∀ j, j < M.length → (M.getD j 0).toNat ≠ 10) := keep (by rw [← hM, ← HQ.out]; exact rest_ne m)
          have hMl : M.length ≤ m.length := by rw [← hM]; simp
          have HM := keep hM
          clear hq hM
          go_wp2_with (refine wpList_fromB elBL rfl _ _ rfl q rfl hvi rfl rfl hle ?_; intro v8 h8; rw [HM.out] at h8; obtain ⟨A8, c8, rfl, _, h8⟩ := h8.forms)
          go_loopw [93] (fun i wr => ∃ y : Nat, i = .int .i64 y ∧ y ≤ M.length ∧ wr = wi) (fun i _ => M.length - (intOf i).toNat)
          case atStart => exact ⟨0, rfl, Nat.zero_le _, rfl⟩
          case round =>
            obtain ⟨y, rfl, hy, rfl⟩ := hrel
            by_cases hyt : y < M.length
            · obtain ⟨b3, o3, rfl, _, z0⟩ := h8.byte hyt
              have hne := HN.out y hyt
              have a0 : (0 : Int) ≤ (y : Int) := by omega
              have a1 : (y : Int) < (M.length : Int) := by omega
              obtain ⟨x, hx⟩ : ∃ x, ((M.getD y 0).toNat : Int) = x := ⟨_, rfl⟩
              rw [hx] at z0
              have hxt : (x == 10) = false := by rw [beq_eq_false_iff_ne]; omega
              clear hne hx
              go_wp2_with fail
              go_roundw
              case rel => exact ⟨y + 1, by go_num, by omega, by trivial⟩
              case measure => simp [intOf]; omega
            · obtain rfl : y = M.length := by omega
              go_wp2_with fail
              go_roundw
              case rel => exact ⟨k + 1, by go_num, by omega, keep (bchain HB7.out hbi.out)⟩
              case measure => simp [intOf]; omega
    · obtain rfl : k = 2 := by omega
      go_wp2_with fail
      go_ret
      exact ⟨rfl, bchain HB5.out hb.out⟩
end Go.Proofs.YtldopkdjoejhbaaDoor
