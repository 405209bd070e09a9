/- The contract of postings.Encode. -/
import Derived.Test.YtihimbmbhmgjoaaEncI
namespace Go.Proofs.Ytihimbmbhmgjoaa
open Go.RowKit Go.Shelf

attribute [local go_sem] Oper.semAt_some

theorem chunk_make2 (a : Option Addr) (len cap : Nat) (w : World) (H : Nat) (hH : w.heap.size = H) :
    Calls Try.prog 47 #[.slice a len cap, .int .i64 32] w fun e w' => e = .returned (.func (.func 59) #[] #[.pointer (some ⟨H, 0, none⟩), .pointer (some ⟨H + 1, 0, none⟩)]) ∧ w' = (w.alloc (.cells #[.slice a len cap] 26)).alloc (.cells #[.int .i64 32] 3) := by
  subst hH
  exact callsIn_wide.1 (chunk_make Fence.wide 5 trivial rfl a len cap w)
theorem encI_start {w w2 : World} {v vs : Value} {l : List UInt8} (h : OwnB w2 w.heap.size v l) (hb : Below w.heap.size w w2) :
    EI w w2.heap.size (w2.heap.size + 1) (w2.heap.size + 2) (w2.heap.size + 3) vs v (.slice none 0 0) (l ++ []) [] ((((w2.alloc (.cells #[v] 22)).alloc (.cells #[.slice none 0 0] 22)).alloc (.cells #[vs] 26)).alloc (.cells #[.int .i64 32] 3)) := by
  have b0 := Boxed.new w2 22 v
  have b1 := Boxed.new (w2.alloc (.cells #[v] 22)) 22 (.slice none 0 0)
  have b2 := Boxed.new ((w2.alloc (.cells #[v] 22)).alloc (.cells #[.slice none 0 0] 22)) 26 vs
  have b3 := Boxed.new (((w2.alloc (.cells #[v] 22)).alloc (.cells #[.slice none 0 0] 22)).alloc (.cells #[vs] 26)) 3 (.int .i64 32)
  simp only [World.size_alloc] at b1 b2 b3
  have hs := hb.size
  refine ⟨((b0.alloc _).alloc _).alloc _, (b1.alloc _).alloc _, b2.alloc _, b3, ⟨?_, own_nil _ _, (fun k _ h => by cases h), ?_⟩, ⟨hs, by omega⟩, by omega⟩
  · rw [List.append_nil]
    exact (((h.alloc _).alloc _).alloc _).alloc _
  · exact (((hb.alloc hs _).alloc (by simp; omega) _).alloc (by simp; omega) _).alloc (by simp; omega) _

def EncInv (w : World) (H : Nat) (vs : Value) (l : List Int) (pre : List (ChAt l.length)) (W : World) : Prop :=
  ∃ vb vk, EI w H (H + 1) (H + 2) (H + 3) vs vb vk (uvar l.length ++ headsOf l (pre.map (·.1))) (bodiesOf l (pre.map (·.1))) W
theorem EncInv.own {w W W' : World} {H B : Nat} {vs : Value} {l : List Int} {pre : List (ChAt l.length)} {row : Option Nat} (h : EncInv w H vs l pre W) (hB : w.heap.size ≤ B) (hg : W.grownBy W' row)
    (hr : ∀ r, row = some r → B ≤ r ∧ ∃ o : Obj, W.heap[r]? = some o ∧ o.isCells = false) : EncInv w H vs l pre W' := by
  obtain ⟨vb, vk, h⟩ := h
  exact ⟨vb, vk, h.own hg (fun r e => ⟨Nat.le_trans hB (hr r e).1, (hr r e).2⟩)⟩

theorem flat_len {f : Nat → List UInt8} {m : Nat} : ∀ (st : List Nat) (_ : ∀ i ∈ st, (f i).length ≤ m), (st.flatMap f).length ≤ m * st.length
  | [], _ => by simp
  | i :: st, h => by
    have h1 := h i (by simp)
    have h2 := flat_len st (fun j hj => h j (by simp [hj]))
    rw [List.flatMap_cons, List.length_append, List.length_cons, Nat.mul_add]
    omega
theorem headsOf_len (l : List Int) (hr : Rise 0 l) (st : List Nat) : (headsOf l st).length ≤ 20 * st.length := by
  refine flat_len st (fun i _ => ?_)
  have h1 : Rise 0 (chk l i) := by rw [chk_take]; exact (hr.drop i (by omega)).take 32
  have h2 := entry_small (c := chk l i) (by rw [chk_take]; simp; omega) h1
  have h3 := uvar_len10 (n := ((chk l i).getLastD 0).toNat) (by omega)
  have h4 := uvar_len10 (n := (gaps 0 (chk l i)).length) (by omega)
  unfold entryB
  rw [List.length_append]
  omega
theorem bodiesOf_len (l : List Int) (hr : Rise 0 l) (st : List Nat) : (bodiesOf l st).length ≤ 64 * st.length := by
  refine flat_len st (fun i _ => ?_)
  have h1 : Rise 0 (chk l i) := by rw [chk_take]; exact (hr.drop i (by omega)).take 32
  exact (entry_small (c := chk l i) (by rw [chk_take]; simp; omega) h1).2

set_option maxRecDepth 100000 in
set_option maxHeartbeats 4000000 in
theorem enc_ok (A : Option Addr) (c : Nat) (l : List Int) (w : World) (h1 : Sl w (lt w.heap.size) 1 (.slice A l.length c) l.length (l.map (.int .i64))) (hc : l.length ≤ c) (hz : checkOf l = 0) :
    Calls Try.prog 25 #[.slice A l.length c] w (EncRes w l) := by
  have HZ := keep hz
  obtain ⟨q1, q2⟩ := rise_of_check hz
  have hck := check_any _ l w h1 (by unfold maxLen; omega)
  rw [hz] at hck
  have Q1 := keep q1
  have H1 := keep h1
  clear hz q1 h1
  refine (callsIn_wide (n := 6)).1 ?_
  refine callsIn_of_wp_marks Try.func25 rfl trivial ?_ rfl
  simp only [Try.ntmps25, List.size_toArray, List.length_cons, List.length_nil, Nat.reduceAdd, Nat.reduceSub, Array.replicate_succ, Array.replicate_zero, List.push_toArray, List.append_toArray, List.nil_append, List.cons_append]
  refine wpIn_wide.2 ?_
  go_wp2_with fail
  refine hck.mono ?_
  rintro e w1 ⟨rfl, hb1⟩
  clear hck
  go_wp2_with fail
  have hul := uvar_len10 (n := l.length) (by omega)
  refine (varint_any w.heap.size (.slice none 0 0) [] l.length w1 (own_nil _ _) hb1.size (by omega) (by simp; omega)).mono ?_
  rintro e w2 ⟨vb, rfl, hP⟩
  have hb2 := hb1.trans (hP.fresh.mono hb1.size)
  have ho := hP.o
  obtain ⟨A5, c5, rfl, hc5, ho⟩ := ho.form
  have HO := keep ho
  clear hP hb1 ho
  obtain ⟨b, o, hA, hrow⟩ : ∃ b o, (0 < l.length → A = some ⟨b, o, none⟩) ∧ (0 < l.length → b < w.heap.size ∧ Row w b o (l.map (.int .i64))) := by
    rcases Nat.eq_zero_or_pos l.length with h | h
    · exact ⟨0, 0, fun h' => absurd h' (by omega), fun h' => absurd h' (by omega)⟩
    · obtain ⟨b, o, e1, e2, e3⟩ := H1.out.row h
      exact ⟨b, o, fun _ => e1, fun _ => ⟨e2, e3⟩⟩
  have HA := keep hA
  have HR := keep hrow
  clear hA hrow
  go_wp2_with fail
  refine (chunk_make2 A l.length c _ (w2.heap.size + 2) (by simp)).mono ?_
  rintro e w' ⟨rfl, rfl⟩
  obtain ⟨W0, hW0⟩ : ∃ W0, (((w2.alloc (.cells #[.slice A5 (uvar l.length).length c5] 22)).alloc (.cells #[.slice none 0 0] 22)).alloc (.cells #[.slice A l.length c] 26)).alloc (.cells #[.int .i64 32] 3) = W0 := ⟨_, rfl⟩
  have hE0 : EI w w2.heap.size (w2.heap.size + 1) (w2.heap.size + 2) (w2.heap.size + 3) (.slice A l.length c) (.slice A5 (uvar l.length).length c5) (.slice none 0 0) (uvar l.length ++ headsOf l []) (bodiesOf l []) W0 := by
    rw [← hW0]
    exact encI_start HO.out hb2
  have hsz0 : W0.heap.size = w2.heap.size + 4 := by rw [← hW0]; simp
  have hE0' := keep hE0
  rw [hW0]
  clear hW0 hE0
  have hmx : Try.prog.follows .mixedOrders = true := by kernel_rfl
  go_wp2_with fail
  refine (wpIn_wide (n := 6)).1 ?_
  refine wpIn_rangeFunc_ownG (F := Fence.wide) (n := 6) rfl (by omega) (gf := 59) (lb := #[.pointer (some ⟨w2.heap.size + 2, 0, none⟩), .pointer (some ⟨w2.heap.size + 3, 0, none⟩)]) rfl trivial (enters_of Try.func59 (by kernel_rfl) rfl)
    (chunk_stops Fence.wide 5 trivial rfl (by omega) (w2.heap.size + 2) (w2.heap.size + 3) b o l.length c A HA.out (by omega) hc W0 (by omega) (by omega) hE0'.out.bs.cell hE0'.out.bn.cell)
    (fun h k => h.trans k) (Kp2.putObj (by omega) (by omega)) (Below.refl _ _) (fun _ => rfl)
    (EncInv w w2.heap.size (.slice A l.length c) l) (fun _ _ _ => False)
    (fun s X Y row hs hg hr => hs.own (by have := hb2.size; omega) hg hr) (fun _ _ _ _ _ hs _ _ => hs)
    ⟨_, _, hE0'.out⟩
    (fun x => { tmps := #[.slice A l.length c, undef, .slice none 0 0, .int .i64 0, .int .i64 0, .pointer (some ⟨w2.heap.size, 0, none⟩), .pointer (some ⟨w2.heap.size + 1, 0, none⟩), .slice (some ⟨b, o + x.1, none⟩) (chLen l.length x.1) (chLen l.length x.1), undef, undef, undef, undef,
      .slice A l.length c, .int .i64 0, .int .i64 0, .bool false, undef, .slice A l.length c, .int .i64 l.length, .slice A5 (uvar l.length).length c5, .slice A l.length c, .func (.func 59) #[] #[.pointer (some ⟨w2.heap.size + 2, 0, none⟩), .pointer (some ⟨w2.heap.size + 3, 0, none⟩)], .slice (some ⟨b, o + x.1, none⟩) (chLen l.length x.1) (chLen l.length x.1),
      undef, undef, undef, undef, undef, undef, undef, undef, undef, undef, undef, undef, undef, undef, undef, undef, undef, undef, undef, undef, undef, undef, undef, undef, undef, undef], defers := [] }) ?assign ?body ?done ?stop
  case assign =>
    intro lp x W K hK
    gi_wp2
    exact hK
  case body =>
    rintro lp pre ⟨n, hn32, hnl⟩ W ⟨vb', vk', hE⟩ hlt
    dsimp only
    obtain ⟨hAe, hbl, hrow⟩ := (show A = some ⟨b, o, none⟩ ∧ b < w.heap.size ∧ Row w b o (l.map (.int .i64)) from ⟨HA.out (by omega), HR.out (by omega)⟩)
    have HRW := keep hrow
    have hcl := chk_len hnl
    have hchle := chLen_le l.length n
    have hfit := (chLen_fit hnl).2
    obtain ⟨xs, hxs⟩ : ∃ xs, chk l n = xs := ⟨_, rfl⟩
    have hxr : Rise 0 xs := by rw [← hxs, chk_take]; exact (Q1.out.drop n (by omega)).take 32
    have HX := keep hxs
    have HXR := keep hxr
    rw [hxs] at hcl
    rw [← hcl]
    have hxpos : 0 < xs.length := by omega
    have hxle : xs.length ≤ 32 := by omega
    have hpl : pre.length ≤ 4096 := by omega
    have hbnd := headsOf_len l Q1.out (pre.map (·.1))
    have hbnd2 := bodiesOf_len l Q1.out (pre.map (·.1))
    rw [List.length_map] at hbnd hbnd2
    obtain ⟨LH, hLH⟩ : ∃ LH, uvar l.length ++ headsOf l (pre.map (·.1)) = LH := ⟨_, rfl⟩
    obtain ⟨LB, hLB⟩ : ∃ LB, bodiesOf l (pre.map (·.1)) = LB := ⟨_, rfl⟩
    have hLHl : LH.length ≤ 100000 := by rw [← hLH, List.length_append]; omega
    have hLBl : LB.length ≤ 300000 := by rw [← hLB]; omega
    rw [hLH, hLB] at hE
    have HLH := keep hLH
    have HLB := keep hLB
    have hsep := hE.t.b
    obtain ⟨Ak, ck, rfl, hck2, _⟩ := hsep.form
    have hcell := hE.bk.cell
    have HE := keep hE
    clear hrow hxs hxr hchle hfit hbnd hbnd2 hLH hLB hAe hsep hcl
    gi_wp2
    gi_loopw [9, 11, 27] (fun last _ i wr => ∃ (j : Nat) (vk : Value), i = .int .i64 j ∧ Hid (j ≤ xs.length) ∧ last = .int .i64 ((xs.take j).getLastD 0) ∧ Hid (EI w w2.heap.size (w2.heap.size + 1) (w2.heap.size + 2) (w2.heap.size + 3) (.slice A l.length c) vb' vk LH (LB ++ gaps 0 (xs.take j)) wr) ∧ Hid (KeepsOthers W wr))
      (fun _ _ i _ => 40 - (intOf i).toNat)
    case atStart => exact ⟨0, _, rfl, keep (by omega), rfl, keep (by simpa [gaps] using HE.out), keep (KeepsOthers.refl _)⟩
    case round =>
      obtain ⟨j, vk, rfl, hj, rfl, hEj, hKB⟩ := hrel
      have hrw : Row wr b o (l.map (.int .i64)) := HRW.out.keep (fun p hp => hEj.out.t.m.cell (by rw [hp]; exact hbl))
      have HRJ := keep hrw
      clear hrw
      have hszr := hEj.out.t.m.size
      by_cases hje : j < xs.length
      · have hje' : (j : Int) < (xs.length : Int) := by omega
        have hj0 : (0 : Int) ≤ (j : Int) := by omega
        have hcx := chk_cell HRJ.out HX.out hje
        have hg := gaps_take xs j hje
        have hat := HXR.out.at_ j hje
        have hl0 := HXR.out.last0 j
        have hlx := last_take xs j hje
        have hgl := gaps_short (xs.take j) 0 (by omega) (HXR.out.take j)
        have htl : (xs.take j).length ≤ 32 := by have := List.length_take_le j xs; omega
        obtain ⟨X, hX⟩ : ∃ X, xs[j] = X := ⟨_, rfl⟩
        obtain ⟨Y, hY⟩ : ∃ Y, (xs.take j).getLastD 0 = Y := ⟨_, rfl⟩
        obtain ⟨G, hG⟩ : ∃ G, LB ++ gaps 0 (xs.take j) = G := ⟨_, rfl⟩
        have hGl : G.length ≤ 300100 := by rw [← hG, List.length_append]; omega
        rw [hX] at hat hg hcx hlx
        rw [hY] at hat hg hl0
        rw [hY]
        rw [hG] at hEj
        obtain ⟨d, hd⟩ : ∃ d : Nat, X - Y = (d : Int) := ⟨(X - Y).toNat, by omega⟩
        rw [hd, Int.toNat_natCast] at hg
        have HG := keep (show LB ++ gaps 0 (xs.take (j + 1)) = G ++ uvar d by rw [hg, ← hG, List.append_assoc])
        have HD := keep hd
        have HLX := keep hlx
        have hdb : d < 4096 := by omega
        have hX0 : 0 ≤ X := by omega
        have hX1 : X < 4096 := hat.2
        have hYX : Y ≤ X := hat.1
        have hu := uvar_len10 (n := d) (by omega)
        obtain ⟨Aj, cj, rfl, hcj, _⟩ := hEj.out.t.b.form
        have hcell2 := hEj.out.bk.cell
        have HV := keep (varint_any w.heap.size (.slice Aj G.length cj) G d wr hEj.out.t.b hszr (by omega) (by omega))
        obtain ⟨G2, hG2⟩ : ∃ G2, G ++ uvar d = G2 := ⟨_, rfl⟩
        rw [hG2] at HV HG
        clear hg hd hX hY hat hgl htl hu hlx hcell hG hG2
        gi_wp2
        refine ⟨trivial, ?_⟩
        rw [HD.out]
        refine (CallsIn.inRound lp (callsIn_wide.2 HV.out)).mono ?_
        rintro e w5 ⟨v5, rfl, hP5⟩
        obtain ⟨A9, c9, rfl, _, _⟩ := hP5.o.form
        have hs1 := hEj.out.swap.put hP5
        have HS2 := keep (hEj.out.swap.store hs1).swap
        have hkk := hs1.k
        have hcb5 := hs1.bb.cell
        have hfb5 := hs1.bb.frozen
        have HKB := keep (show KeepsOthers W (w5.setCell ⟨w2.heap.size + 1, 0, none⟩ (.slice A9 G2.length c9)) from (hKB.out.trans hkk).trans (KeepsOthers.setCell _ _ _))
        clear hs1 hP5 hkk hKB hcell2 hcx
        gi_wp2
        go_roundw
        case rel => exact ⟨j + 1, _, by go_num, keep (by omega), by rw [HLX.out], keep (by rw [HG.out]; exact HS2.out), HKB⟩
        case measure => simp [intOf]; omega
      · have hjx : j = xs.length := by have := hj.out; omega
        have hxt : xs.take j = xs := List.take_of_length_le (by omega)
        rw [hxt] at hEj
        rw [hxt]
        have hsm := entry_small hxle HXR.out
        have hl0 := getLastD_rise xs 0 (by omega) (by omega) HXR.out
        have hje2 : (xs.length : Int) ≤ (j : Int) := by omega
        obtain ⟨X, hX⟩ : ∃ X, xs.getLastD 0 = X := ⟨_, rfl⟩
        rw [hX] at hsm hl0
        rw [hX]
        obtain ⟨d, rfl⟩ := Int.eq_ofNat_of_zero_le hl0.1
        rw [Int.toNat_natCast] at hsm
        obtain ⟨Q, hQ⟩ : ∃ Q, gaps 0 xs = Q := ⟨_, rfl⟩
        rw [hQ] at hsm hEj
        have hent : Hid (entryB xs = uvar d ++ uvar Q.length) := keep (by unfold entryB; rw [hX, Int.toNat_natCast, hQ])
        have HQ := keep hQ
        obtain ⟨G, hG⟩ : ∃ G, LB ++ Q = G := ⟨_, rfl⟩
        rw [hG] at hEj
        have hGl : G.length = LB.length + Q.length := by rw [← hG, List.length_append]
        have HG := keep hG
        have hd1 := hsm.1
        have hq1 := hsm.2
        have hwr : IntKind.i64.wrap ((G.length : Int) - (LB.length : Int)) = (Q.length : Int) := by
          rw [show ((G.length : Int) - (LB.length : Int)) = (Q.length : Int) by omega]
          exact IntWalk.i64_in _ (by omega)
        have hu := uvar_len10 (n := d) (by omega)
        have hu2 := uvar_len10 (n := Q.length) (by omega)
        have hwd : IntKind.i64.wrap (d : Int) = (d : Int) := IntWalk.i64_in _ (by omega)
        have HEJ := keep hEj.out.drew
        obtain ⟨L2, hL2⟩ : ∃ L2, LH ++ uvar d = L2 := ⟨_, rfl⟩
        have hL2l : L2.length ≤ 100010 := by rw [← hL2, List.length_append]; omega
        have HV1 := varint_any w.heap.size vb' LH d wr.drew HEJ.out.t.h HEJ.out.t.m.size (by omega) (by omega)
        rw [hL2] at HV1
        have HV2 := keep (fun v5 w5 (hP : Put1 wr.drew w.heap.size vb' v5 L2 w5) => varint_any w.heap.size v5 L2 Q.length w5 hP.o (Nat.le_trans HEJ.out.t.m.size hP.f.size) (by omega) (by omega))
        have HV1 := keep HV1
        obtain ⟨L3, hL3⟩ : ∃ L3, L2 ++ uvar Q.length = L3 := ⟨_, rfl⟩
        rw [hL3] at HV2
        have HL3 := keep (show L3 = LH ++ entryB xs by rw [hent.out, ← hL3, ← hL2, List.append_assoc])
        have HN1 : Hid (∀ hx, uvar l.length ++ headsOf l ((pre ++ [(⟨n, hx⟩ : ChAt l.length)]).map (·.1)) = L3) := keep (fun hx => by
          rw [List.map_append, List.map_singleton, headsOf_push, ← List.append_assoc, HLH.out, HX.out, HL3.out])
        have HN2 : Hid (∀ hx, bodiesOf l ((pre ++ [(⟨n, hx⟩ : ChAt l.length)]).map (·.1)) = G) := keep (fun hx => by
          rw [List.map_append, List.map_singleton, bodiesOf_push, HLB.out, HX.out, HQ.out, HG.out])
        have HKO := keep (hKB.out.trans (KeepsOthers.drew _))
        obtain ⟨Aj, cj, rfl, hcj, _⟩ := hEj.out.t.b.form
        obtain ⟨Ai, ci, rfl, hci, _⟩ := hEj.out.t.h.form
        have hcell2 := hEj.out.bk.cell
        have hcell3 := hEj.out.bb.cell
        have hGb : G.length ≤ 400000 := by omega
        clear hsm hl0 hX hQ hG hL2 hL3 hu hu2 hcell hxt hjx hGl
        gi_wp2
        gi_region_with_o (first
          | (refine ⟨trivial, ?_⟩; gi_at_call 46; (with_reducible refine (CallsIn.inRound lp (callsIn_wide.2 HV1.out)).mono ?_); rintro e w5 ⟨v5, rfl, hP5⟩; have hs5 := HEJ.out.put hP5; have hq5 := hs5.bk.cell; have hr5 := hs5.bb.cell)
          | (refine ⟨trivial, ?_⟩; gi_at_call 46; (with_reducible refine (CallsIn.inRound lp (callsIn_wide.2 (HV2.out _ _ hP5))).mono ?_); rintro e w6 ⟨v6, rfl, hP6⟩; obtain ⟨A9, c9, rfl, _, _⟩ := hP6.o.form; have hs6 := HEJ.out.put (hP5.trans hP6); have hq6 := hs6.bk.cell; have hr6 := hs6.bb.cell; have hf6 := hs6.bb.frozen))
        all_goals gi_wp2
        all_goals
          have hfin := HEJ.out.store hs6
          exact ⟨((HKO.out.trans hs6.k).trans (KeepsOthers.setCell _ _ _)).from _, HE.out.kp hfin, _, _, by rw [HN1.out, HN2.out]; exact hfin⟩
  case done =>
    rintro D ys W hD hAll ⟨vb', vk', hE⟩ hK
    have hys := hAll.starts
    rw [hys] at hE
    have hbnd := headsOf_len l Q1.out (starts l.length)
    have hbnd2 := bodiesOf_len l Q1.out (starts l.length)
    have hstl : (starts l.length).length ≤ 4096 := by unfold starts; rw [List.length_map, List.length_range]; omega
    have hpost : Hid (postB l = (uvar l.length ++ headsOf l (starts l.length)) ++ bodiesOf l (starts l.length)) := keep rfl
    have hLHl : (uvar l.length ++ headsOf l (starts l.length)).length ≤ 100000 := by rw [List.length_append]; omega
    have hLBl : (bodiesOf l (starts l.length)).length ≤ 300000 := by omega
    obtain ⟨LH, hLH⟩ : ∃ LH, uvar l.length ++ headsOf l (starts l.length) = LH := ⟨_, rfl⟩
    obtain ⟨LB, hLB⟩ : ∃ LB, bodiesOf l (starts l.length) = LB := ⟨_, rfl⟩
    rw [hLH, hLB] at hE hpost
    rw [hLH] at hLHl
    rw [hLB] at hLBl
    obtain ⟨A7, c7, rfl, hc7, h7⟩ := hE.t.h.form
    obtain ⟨A8, c8, rfl, hc8, h8⟩ := hE.t.b.form
    have hcb := hE.bb.cell
    have hck3 := hE.bk.cell
    have HT := keep hE.t
    have HK := keep hK
    have hbd := keep (show LH.length + LB.length ≤ 140737488355328 by omega)
    clear hys hbnd hbnd2 hstl hLH hLB hAll h7 h8 hE hK
    go_wp2_with (refine wpList_appendBb' elB rfl _ _ rfl w.heap.size (.slice A7 LH.length c7) LH rfl HT.out.h (lt W.heap.size) (.slice A8 LB.length c8) LB rfl HT.out.b.slt hbd.out HT.out.m.size ?_; intro v9 w9 hown9 hg9 hk9; have HP := keep (Put1.of_push hown9 hg9 hk9))
    have hK9 := (HP.out.others HT.out.h).same D _ HK.out rfl
    have hT9 := HT.out.onH HP.out
    refine ⟨by simp, .inl ⟨_, _, rfl, run_takeDeferred hK9, ?_⟩⟩
    refine ⟨.tuple #[v9, .int .i64 0], by simp [results, Try.results25, go_sem], v9, by rw [HZ.out], ?_, ?_⟩
    · rw [if_pos HZ.out, hpost.out]
      exact hT9.h.kept (grownBy_putObj' w9 D _) (own_row hT9.h (fun r e => by cases e; exact ⟨_, hK9, rfl⟩))
    · exact hT9.m.trans (belowK_b (w := w) (Nat.le_refl _) w9 D _ _ (by have := hb2.size; omega) hK9 rfl rfl)
  case stop =>
    rintro D cc pre W _ _ h _
    exact h.elim

set_option maxRecDepth 100000 in
theorem enc_any (v : Value) (l : List Int) (w : World) (h1 : Sl w (lt w.heap.size) 1 v l.length (l.map (.int .i64))) (hm : l.length ≤ maxLen) :
    Calls Try.prog 25 #[v] w (EncRes w l) := by
  obtain ⟨A, c, rfl, hc, h1⟩ := h1.form
  by_cases h0 : checkOf l = 0
  · exact enc_ok A c l w h1 hc h0
  · obtain ⟨z, hz⟩ : ∃ z, checkOf l = z := ⟨_, rfl⟩
    have HZ := keep hz
    have hck := check_any _ l w h1 hm
    rw [hz] at hck h0
    have hd : (z != 0) = true := by simpa using h0
    clear hz
    go_enter Try.func25, Try.ntmps25
    go_wp2_with fail
    refine hck.mono ?_
    rintro e w1 ⟨rfl, hb1⟩
    go_wp2_with fail
    refine bodyPost_ret (v := .tuple #[.slice none 0 0, .int .i64 z]) (by simp [results, Try.results25, go_sem]) rfl ?_
    exact ⟨.slice none 0 0, by rw [HZ.out], by rw [if_neg (by rw [HZ.out]; exact h0)]; exact own_nil _ _, hb1⟩
theorem postB_len {l : List Int} (h : checkOf l = 0) : (postB l).length ≤ 1000000 := by
  obtain ⟨q1, q2⟩ := rise_of_check h
  have h1 := uvar_len10 (n := l.length) (by omega)
  have h2 := headsOf_len l q1 (starts l.length)
  have h3 := bodiesOf_len l q1 (starts l.length)
  have h4 : (starts l.length).length ≤ 129 := by unfold starts; rw [List.length_map, List.length_range]; omega
  unfold postB
  rw [List.length_append, List.length_append]
  omega
theorem postB_bd (l : List Int) : (if checkOf l = 0 then postB l else []).length ≤ 1000000 := by
  split
  · rename_i h; exact postB_len h
  · simp
end Go.Proofs.Ytihimbmbhmgjoaa
