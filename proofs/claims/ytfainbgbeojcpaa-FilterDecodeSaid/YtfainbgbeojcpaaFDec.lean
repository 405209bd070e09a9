/- The contract of filter.Decode where the length is right. -/
import Derived.Test.YtfainbgbeojcpaaFDecI
namespace Go.Proofs.Ytfainbgbeojcpaa
open Go.RowKit Go.Shelf

attribute [local go_sem] Oper.semAt_some

theorem chunk_make2 (a : Option Addr) (len cap : Nat) (w : World) (H : Nat) (hH : w.heap.size = H) :
    Calls Try.prog 45 #[.slice a len cap, .int .i64 8] w fun e w' => e = .returned (.func (.func 53) #[] #[.pointer (some ⟨H, 0, none⟩), .pointer (some ⟨H + 1, 0, none⟩)]) ∧ w' = (w.alloc (.cells #[.slice a len cap] 36)).alloc (.cells #[.int .i64 8] 3) := by
  subst hH
  exact callsIn_wide.1 (chunk_make Fence.wide 5 trivial rfl a len cap w)
theorem back_make2 (a : Option Addr) (len cap : Nat) (w : World) (H : Nat) (hH : w.heap.size = H) :
    Calls Try.prog 46 #[.slice a len cap] w fun e w' => e = .returned (.func (.func 54) #[] #[.pointer (some ⟨H, 0, none⟩)]) ∧ w' = w.alloc (.cells #[.slice a len cap] 36) := by
  subst hH
  exact callsIn_wide.1 (back_make Fence.wide 5 trivial rfl a len cap w)
/-- The eight bytes from place j on. -/
def ckF (l : List UInt8) (j : Nat) : List UInt8 := (l.drop j).take 8

set_option maxRecDepth 100000 in
set_option maxHeartbeats 4000000 in
theorem decF_long (v : Value) (b : List UInt8) (w : World) (h : BSl w (lt w.heap.size) v b) (hm : b.length ≤ 1000000) (hk : okLen b = true) :
    Calls Try.prog 28 #[v] w (DecFRes w b) := by
  obtain ⟨A, c, rfl, hc, h⟩ := h.form
  have hk2 := hk
  unfold okLen at hk2
  simp only [Bool.and_eq_true, decide_eq_true_eq] at hk2
  obtain ⟨h3, hlen⟩ := hk2
  have d : decide ((b.length : Int) < 3) = false := by simp; omega
  obtain ⟨g, o, rfl, hg, hx1⟩ := h.at_ (k := 1) (by omega)
  have hx2 := h.cells (k := 2) (by omega)
  have hx0 := h.cells (k := 0) (by omega)
  have e0 : b.getD 0 0 = b[0] := by simp [show 0 < b.length by omega]
  have e1 : b.getD 1 0 = b[1] := by simp [show 1 < b.length by omega]
  have e2 : b.getD 2 0 = b[2] := by simp [show 2 < b.length by omega]
  rw [← e1] at hx1
  rw [← e2] at hx2
  rw [← e0] at hx0
  clear e0 e1 e2
  obtain ⟨X0, hX0⟩ : ∃ X0, b.getD 0 0 = X0 := ⟨_, rfl⟩
  obtain ⟨X1, hX1⟩ : ∃ X1, b.getD 1 0 = X1 := ⟨_, rfl⟩
  obtain ⟨X2, hX2⟩ : ∃ X2, b.getD 2 0 = X2 := ⟨_, rfl⟩
  have hdec : Hid (∀ n, b.length = 3 + 8 * n → decB b = ((X0.toNat : Int), wordsF (b.drop 3) n)) := keep (fun n hl => by
    have e : (b.length - 3) / 8 = n := by omega
    unfold decB
    rw [hX0, e])
  rw [hX0] at hx0
  rw [hX1] at hx1 hlen
  rw [hX2] at hx2 hlen
  have h0 := X0.toNat_lt
  have h1 := X1.toNat_lt
  have h2 := X2.toNat_lt
  have eo := or_len X1.toNat X2.toNat h1 h2
  obtain ⟨n, hn⟩ : ∃ n, X1.toNat * 256 + X2.toNat = n := ⟨_, rfl⟩
  rw [hn] at eo hlen
  have hn6 : n ≤ 65535 := by omega
  have dne : ((b.length : Int) != 3 + 8 * (n : Int)) = false := by rw [bne_eq_false_iff_eq]; omega
  have hspec : Hid (decSpec b = if fok (X0.toNat : Int) n = true then ((X0.toNat : Int), wordsF (b.drop 3) n, 0) else (0, [], 22)) := keep (by
    unfold decSpec
    rw [hdec.out n hlen]
    simp only [wordsF_len, hk, true_and])
  have hb0 : (X0.toNat : Int) < 256 := by omega
  have hb1 : (X1.toNat : Int) < 256 := by omega
  have hb2 : (X2.toNat : Int) < 256 := by omega
  have i0 : (0 : Int) < (b.length : Int) := by omega
  have i1 : (1 : Int) < (b.length : Int) := by omega
  have i2 : (2 : Int) < (b.length : Int) := by omega
  have HH := keep h
  have HLEN := keep hlen
  rw [Nat.add_zero] at hx0
  clear hk h1 h2 h0 hX0 hX1 hX2 hn hdec hlen h
  generalize X0.toNat = hh at *
  generalize X1.toNat = x at *
  generalize X2.toNat = y at *
  by_cases hc3 : c = 3
  · subst hc3
    refine (callsIn_wide (n := 6)).1 ?_
    refine callsIn_of_wp_marks Try.func28 rfl trivial ?_ rfl
    simp only [Try.ntmps28, List.size_toArray, List.length_cons, List.length_nil, Nat.reduceAdd, Nat.reduceSub, Array.replicate_succ, Array.replicate_zero, List.push_toArray, List.append_toArray, List.nil_append, List.cons_append]
    refine wpIn_wide.2 ?_
    go_wp2_with fail
    go_quiet (fail)
    go_upto_region 4 with fail
    have hF0 := FJ.start w hh nq (.slice (some ⟨g, o, none⟩) 0 0)
    have hsz1 : (((w.alloc (.cells #[.int .i64 0, .slice none 0 0] 27)).drewN nq).alloc (.cells #[.int .i64 hh, .slice none 0 0] 27)).heap.size = w.heap.size + 2 := by
      have e : ((w.alloc (.cells #[.int .i64 0, .slice none 0 0] 27)).drewN nq).heap.size = w.heap.size + 1 := World.size_alloc ..
      rw [World.size_alloc, e]
    obtain ⟨W1, hW1⟩ : ∃ W1, ((w.alloc (.cells #[.int .i64 0, .slice none 0 0] 27)).drewN nq).alloc (.cells #[.int .i64 hh, .slice none 0 0] 27) = W1 := ⟨_, rfl⟩
    rw [hW1] at hF0 hsz1
    rw [hW1]
    have HF0 := keep hF0
    have HSZ1 := keep hsz1
    clear hW1 hF0 hsz1 hx0 hx1 hx2 eo dne
    go_wp2_with fail
    refine (chunk_make2 (some ⟨g, o, none⟩) 0 0 _ (w.heap.size + 2) HSZ1.out).mono ?_
    rintro e w' ⟨rfl, rfl⟩
    obtain ⟨W0, hW0⟩ : ∃ W0, (W1.alloc (.cells #[(.slice (some ⟨g, o, none⟩) 0 0)] 36)).alloc (.cells #[.int .i64 8] 3) = W0 := ⟨_, rfl⟩
    have hsz : W0.heap.size = w.heap.size + 4 := by rw [← hW0]; simp; have := HSZ1.out; omega
    have hF1 := HF0.out
    rw [hW0] at hF1
    rw [hW0]
    clear hW0 HF0
    have hmx : Try.prog.follows .mixedOrders = true := by kernel_rfl
    go_wp2_with fail
    refine (wpIn_wide (n := 6)).1 ?_
    have hlc : 0 ≤ 0 := Nat.le_refl 0
    refine wpIn_rangeFunc_ownH (F := Fence.wide) (n := 6) rfl (by omega) (gf := 53) (lb := #[.pointer (some ⟨w.heap.size + 2, 0, none⟩), .pointer (some ⟨w.heap.size + 2 + 1, 0, none⟩)]) rfl trivial (enters_of Try.func53 (by kernel_rfl) rfl)
      (chunk_stops Fence.wide 5 trivial rfl (by omega) (w.heap.size + 2) (w.heap.size + 2 + 1) g (o) 0 0 (some ⟨g, o, none⟩) (fun _ => rfl) (by omega) hlc W0 (by omega) (by omega) hF1.bs.cell hF1.bn.cell)
      (fun h k => h.trans k) (Kp2.putObj (by omega) (by omega)) (Below.refl _ _) (fun _ => rfl)
      (fun pre W => ∃ vb, FJ w hh (.slice (some ⟨g, o, none⟩) 0 0) vb (pre.map (fun X => (wordF (ckF (b.drop 3) X.1) : Int))) W) (fun _ _ _ => False)
      (fun s X Y row hs hg hr => by obtain ⟨vb, hs⟩ := hs; exact ⟨vb, hs.own hg (fun r e => ⟨by have := (hr r e).1; omega, (hr r e).2⟩)⟩) (fun _ _ _ _ _ hs _ _ => hs)
      ⟨_, hF1⟩
      (fun X a' _ => a' = { tmps := #[.slice (some ⟨g, o, none⟩) b.length 3, undef, .pointer (some ⟨w.heap.size, 0, none⟩), .int .i64 0, .pointer (some ⟨w.heap.size + 1, 0, none⟩), .slice (some ⟨g, o + X.1, none⟩) (chLen 0 X.1) (chLen 0 X.1), undef, undef, undef, .slice (some ⟨g, o, none⟩) b.length 3, .int .i64 b.length, .bool false, .bool false, .slice (some ⟨g, o, none⟩) b.length 3, .int .i64 b.length, .slice (some ⟨g, o, none⟩) b.length 3, .pointer (some ⟨g, o + 1, none⟩), .int .u8 (x : Int), .int .i64 (x : Int), .int .i64 ((x : Int) * 256), .slice (some ⟨g, o, none⟩) b.length 3, .pointer (some ⟨g, o + 2, none⟩), .int .u8 (y : Int), .int .i64 (y : Int), .int .i64 (n : Int), .int .i64 (8 * (n : Int)), .int .i64 (3 + 8 * (n : Int)), .bool false, .bool false, undef, .slice (some ⟨g, o, none⟩) b.length 3, .pointer (some ⟨g, o, none⟩), .int .u8 (hh : Int), .int .i64 (hh : Int), .agg #[.int .i64 (hh : Int), .slice none 0 0], .slice (some ⟨g, o, none⟩) b.length 3, .slice (some ⟨g, o, none⟩) 0 0, .func (.func 53) #[] #[.pointer (some ⟨w.heap.size + 2, 0, none⟩), .pointer (some ⟨w.heap.size + 2 + 1, 0, none⟩)], .slice (some ⟨g, o + X.1, none⟩) (chLen 0 X.1) (chLen 0 X.1), undef, undef, undef, undef, undef, undef, undef, undef, undef, undef, undef, undef, undef, undef, undef, undef, undef, undef, undef, undef], defers := [] })
      (fun _ _ _ _ _ _ hs _ _ => hs) ?assign ?body ?done ?stop
    case assign =>
      rintro l pre X W K hi hK
      gi_wp2
      exact hK _ _ (KeepsFrom.refl _ _) (Kp2.refl _ _ _) hi rfl
    case body =>
      rintro l pre ⟨X, hX8, hXn⟩ a' W hl ⟨rr, hrr⟩ ⟨vb, hJ⟩ rfl hlt
      exact absurd hXn (Nat.not_lt_zero _)
    case done =>
      rintro D ys W hD hAll ⟨vb, hJ⟩ hK
      have hws : ys.map (fun X => (wordF (ckF (b.drop 3) X.1) : Int)) = wordsF (b.drop 3) n := by
        rw [show n = 0 by have := HLEN.out; omega]
        exact ChAll.words (n := 0) hAll (fun j => (wordF (ckF (b.drop 3) j) : Int))
      rw [hws] at hJ
      have HO := keep (show W.ownsRow (w.heap.size + 4) 67 1 vb n ((wordsF (b.drop 3) n).map (.int .u64)) from by have := hJ.o; rwa [wordsF_len] at this)
      obtain ⟨Av, cv, rfl, _, _⟩ := (Sl.of_own HO.out).form
      obtain ⟨d0, d1⟩ := hJ.f.cell2
      have HJ := keep hJ
      have HK := keep hK
      have hD4 : w.heap.size + 4 ≤ D := by omega
      clear hws hJ hK hAll HO
      go_wp2_with fail
      cases hfk : fok (hh : Int) n with
      | true =>
        have hsp := hspec.out
        rw [hfk, if_pos rfl] at hsp
        have HSP := keep hsp
        refine (check_ok (hh : Int) Av n cv W hfk).mono ?_
        rintro e w5 ⟨rfl, hb5⟩
        have hlr := HJ.out.r.lt
        have hlf := HJ.out.f.lt
        have hr5 := HJ.out.r.below hb5 hlr
        obtain ⟨c0, c1⟩ := hr5.cell2
        obtain ⟨f0, f1⟩ := (HJ.out.f.below hb5 hlf).cell2
        have z0 := hr5.frozen 0
        have z1 := hr5.frozen 1
        have HFD := keep (HJ.out.done (o' := .deferred none) hb5 hD4 HK.out)
        have hset1 := hr5.set_ 0 (.int .i64 hh)
        have hset2 := hset1.set_ 1 (.slice Av n cv)
        obtain ⟨y0, y1⟩ := hset2.cell2
        have HY := keep (And.intro y0 y1)
        clear hsp d0 d1 hfk hset1 hset2 hr5 y0 y1
        go_wp2_with fail
        have y0 : (((w5.setCell ⟨w.heap.size, 0, none⟩ (.int .i64 hh)).setCell ⟨w.heap.size, 1, none⟩ (.slice Av n cv)).putObj D (.deferred none)).cell? ⟨w.heap.size, 0, none⟩ = some (.int .i64 hh) := (World.cell?_of_block (World.putObj_heap_other (by simp; omega))).trans HY.out.1
        have y1 : (((w5.setCell ⟨w.heap.size, 0, none⟩ (.int .i64 hh)).setCell ⟨w.heap.size, 1, none⟩ (.slice Av n cv)).putObj D (.deferred none)).cell? ⟨w.heap.size, 1, none⟩ = some (.slice Av n cv) := (World.cell?_of_block (World.putObj_heap_other (by simp; omega))).trans HY.out.2
        refine ⟨by simp, .inl ⟨_, _, rfl, run_takeDeferred HFD.out.1, ?_⟩⟩
        refine ⟨.tuple #[.agg #[.int .i64 hh, .slice Av n cv], .int .i64 0], by simp [results, Try.results28, go_sem, y0, y1], ?_⟩
        unfold DecFRes UnionRes
        rw [HSP.out]
        exact ⟨_, rfl, by have := HFD.out.2.1; rwa [wordsF_len] at this ⊢, HFD.out.2.2⟩
      | false =>
        have hsp := hspec.out
        rw [hfk, if_neg (by simp)] at hsp
        have HSP := keep hsp
        refine (check_bad (hh : Int) Av n cv W hfk).mono ?_
        rintro e w5 ⟨rfl, hb5⟩
        have hlr := HJ.out.r.lt
        have hr5 := HJ.out.r.below hb5 hlr
        obtain ⟨c0, c1⟩ := hr5.cell2
        have z0 := hr5.frozen 0
        have z1 := hr5.frozen 1
        have HFD := keep (HJ.out.bad (o' := .deferred none) hb5 hD4 HK.out (.int .i64 0) (.slice none 0 0))
        have hset1 := hr5.set_ 0 (.int .i64 0)
        have hset2 := hset1.set_ 1 (.slice none 0 0)
        obtain ⟨y0, y1⟩ := hset2.cell2
        have HY := keep (And.intro y0 y1)
        clear hsp d0 d1 hfk hset1 hset2 hr5 y0 y1
        go_wp2_with fail
        have y0 : (((w5.setCell ⟨w.heap.size, 0, none⟩ (.int .i64 0)).setCell ⟨w.heap.size, 1, none⟩ (.slice none 0 0)).putObj D (.deferred none)).cell? ⟨w.heap.size, 0, none⟩ = some (.int .i64 0) := (World.cell?_of_block (World.putObj_heap_other (by simp; omega))).trans HY.out.1
        have y1 : (((w5.setCell ⟨w.heap.size, 0, none⟩ (.int .i64 0)).setCell ⟨w.heap.size, 1, none⟩ (.slice none 0 0)).putObj D (.deferred none)).cell? ⟨w.heap.size, 1, none⟩ = some (.slice none 0 0) := (World.cell?_of_block (World.putObj_heap_other (by simp; omega))).trans HY.out.2
        refine ⟨by simp, .inl ⟨_, _, rfl, run_takeDeferred HFD.out.1, ?_⟩⟩
        refine ⟨.tuple #[.agg #[.int .i64 0, .slice none 0 0], .int .i64 22], by simp [results, Try.results28, go_sem, y0, y1], ?_⟩
        unfold DecFRes UnionRes
        rw [HSP.out]
        exact ⟨_, rfl, Sl.nil _ _ _ _ _, HFD.out.2⟩
    case stop =>
      rintro D cc pre W _ _ h _
      exact h.elim
  have hc4 : 3 < c := by omega
  have hc5 : ¬ c - 3 = 0 := by omega
  have hc6 : ¬ c ≤ 3 := by omega
  refine (callsIn_wide (n := 6)).1 ?_
  refine callsIn_of_wp_marks Try.func28 rfl trivial ?_ rfl
  simp only [Try.ntmps28, List.size_toArray, List.length_cons, List.length_nil, Nat.reduceAdd, Nat.reduceSub, Array.replicate_succ, Array.replicate_zero, List.push_toArray, List.append_toArray, List.nil_append, List.cons_append]
  refine wpIn_wide.2 ?_
  go_wp2_with fail
  go_quiet (fail)
  go_upto_region 4 with fail
  have hF0 := FJ.start w hh nq (.slice (some ⟨g, o + 3, none⟩) (8 * n) (c - 3))
  have hsz1 : (((w.alloc (.cells #[.int .i64 0, .slice none 0 0] 27)).drewN nq).alloc (.cells #[.int .i64 hh, .slice none 0 0] 27)).heap.size = w.heap.size + 2 := by
    have e : ((w.alloc (.cells #[.int .i64 0, .slice none 0 0] 27)).drewN nq).heap.size = w.heap.size + 1 := World.size_alloc ..
    rw [World.size_alloc, e]
  obtain ⟨W1, hW1⟩ : ∃ W1, ((w.alloc (.cells #[.int .i64 0, .slice none 0 0] 27)).drewN nq).alloc (.cells #[.int .i64 hh, .slice none 0 0] 27) = W1 := ⟨_, rfl⟩
  rw [hW1] at hF0 hsz1
  rw [hW1]
  have HF0 := keep hF0
  have HSZ1 := keep hsz1
  clear hW1 hF0 hsz1 hx0 hx1 hx2 eo dne
  go_wp2_with fail
  rw [show b.length - 3 = 8 * n by have := HLEN.out; omega]
  refine (chunk_make2 (some ⟨g, o + 3, none⟩) (8 * n) (c - 3) _ (w.heap.size + 2) HSZ1.out).mono ?_
  rintro e w' ⟨rfl, rfl⟩
  obtain ⟨W0, hW0⟩ : ∃ W0, (W1.alloc (.cells #[(.slice (some ⟨g, o + 3, none⟩) (8 * n) (c - 3))] 36)).alloc (.cells #[.int .i64 8] 3) = W0 := ⟨_, rfl⟩
  have hsz : W0.heap.size = w.heap.size + 4 := by rw [← hW0]; simp; have := HSZ1.out; omega
  have hF1 := HF0.out
  rw [hW0] at hF1
  rw [hW0]
  clear hW0 HF0
  have hmx : Try.prog.follows .mixedOrders = true := by kernel_rfl
  go_wp2_with fail
  refine (wpIn_wide (n := 6)).1 ?_
  have hlc : 8 * n ≤ (c - 3) := by have := HLEN.out; omega
  refine wpIn_rangeFunc_ownH (F := Fence.wide) (n := 6) rfl (by omega) (gf := 53) (lb := #[.pointer (some ⟨w.heap.size + 2, 0, none⟩), .pointer (some ⟨w.heap.size + 2 + 1, 0, none⟩)]) rfl trivial (enters_of Try.func53 (by kernel_rfl) rfl)
    (chunk_stops Fence.wide 5 trivial rfl (by omega) (w.heap.size + 2) (w.heap.size + 2 + 1) g (o + 3) (8 * n) (c - 3) (some ⟨g, o + 3, none⟩) (fun _ => rfl) (by omega) hlc W0 (by omega) (by omega) hF1.bs.cell hF1.bn.cell)
    (fun h k => h.trans k) (Kp2.putObj (by omega) (by omega)) (Below.refl _ _) (fun _ => rfl)
    (fun pre W => ∃ vb, FJ w hh (.slice (some ⟨g, o + 3, none⟩) (8 * n) (c - 3)) vb (pre.map (fun X => (wordF (ckF (b.drop 3) X.1) : Int))) W) (fun _ _ _ => False)
    (fun s X Y row hs hg hr => by obtain ⟨vb, hs⟩ := hs; exact ⟨vb, hs.own hg (fun r e => ⟨by have := (hr r e).1; omega, (hr r e).2⟩)⟩) (fun _ _ _ _ _ hs _ _ => hs)
    ⟨_, hF1⟩
    (fun X a' _ => a' = { tmps := #[.slice (some ⟨g, o, none⟩) b.length c, undef, .pointer (some ⟨w.heap.size, 0, none⟩), .int .i64 0, .pointer (some ⟨w.heap.size + 1, 0, none⟩), .slice (some ⟨g, o + 3 + X.1, none⟩) (chLen (8 * n) X.1) (chLen (8 * n) X.1), undef, undef, undef, .slice (some ⟨g, o, none⟩) b.length c, .int .i64 b.length, .bool false, .bool false, .slice (some ⟨g, o, none⟩) b.length c, .int .i64 b.length, .slice (some ⟨g, o, none⟩) b.length c, .pointer (some ⟨g, o + 1, none⟩), .int .u8 (x : Int), .int .i64 (x : Int), .int .i64 ((x : Int) * 256), .slice (some ⟨g, o, none⟩) b.length c, .pointer (some ⟨g, o + 2, none⟩), .int .u8 (y : Int), .int .i64 (y : Int), .int .i64 (n : Int), .int .i64 (8 * (n : Int)), .int .i64 (3 + 8 * (n : Int)), .bool false, .bool false, undef, .slice (some ⟨g, o, none⟩) b.length c, .pointer (some ⟨g, o, none⟩), .int .u8 (hh : Int), .int .i64 (hh : Int), .agg #[.int .i64 (hh : Int), .slice none 0 0], .slice (some ⟨g, o, none⟩) b.length c, .slice (some ⟨g, o + 3, none⟩) (8 * n) (c - 3), .func (.func 53) #[] #[.pointer (some ⟨w.heap.size + 2, 0, none⟩), .pointer (some ⟨w.heap.size + 2 + 1, 0, none⟩)], .slice (some ⟨g, o + 3 + X.1, none⟩) (chLen (8 * n) X.1) (chLen (8 * n) X.1), undef, undef, undef, undef, undef, undef, undef, undef, undef, undef, undef, undef, undef, undef, undef, undef, undef, undef, undef, undef], defers := [] })
    (fun _ _ _ _ _ _ hs _ _ => hs) ?assign ?body ?done ?stop
  case assign =>
    rintro l pre X W K hi hK
    gi_wp2
    exact hK _ _ (KeepsFrom.refl _ _) (Kp2.refl _ _ _) hi rfl
  case body =>
    rintro l pre ⟨X, hX8, hXn⟩ a' W hl ⟨rr, hrr⟩ ⟨vb, hJ⟩ rfl hlt
    dsimp only
    have hcl : chLen (8 * n) X = 8 := by unfold chLen; rw [if_pos (by omega)]
    rw [hcl]
    obtain ⟨ws, hws⟩ : ∃ ws, pre.map (fun X => (wordF (ckF (b.drop 3) X.1) : Int)) = ws := ⟨_, rfl⟩
    have hwl : ws.length = pre.length := by rw [← hws, List.length_map]
    rw [hws] at hJ
    have HWS := keep hws
    have HWL := keep hwl
    clear hws hwl
    have HJ := keep hJ
    have hlw := (Array.getElem?_eq_some_iff.1 hrr).1
    obtain ⟨zs, hzs⟩ : ∃ zs, ckF (b.drop 3) X = zs := ⟨_, rfl⟩
    have hzl : zs.length = 8 := by rw [← hzs]; unfold ckF; have := HLEN.out; simp; omega
    have hcells : ∀ j, j < 8 → W.cell? ⟨g, o + 3 + X + j, none⟩ = some (.int .u8 ((zs[j]?.getD 0).toNat : Int)) := fun j hj => by
      have h1 := (HJ.out.b.cell (p := ⟨g, o + (3 + X + j), none⟩) hg).trans (HH.out.cells (k := 3 + X + j) (by have := HLEN.out; omega))
      have e : zs[j]? = some (b[3 + X + j]'(by have := HLEN.out; omega)) := by
        rw [← hzs]
        unfold ckF
        rw [List.getElem?_take, if_pos hj, List.getElem?_drop, List.getElem?_drop, List.getElem?_eq_getElem (by have := HLEN.out; omega)]
        congr 2
        omega
      rw [e, Option.getD_some, ← h1]
      congr 2
      omega
    have HC := keep hcells
    have HZS := keep hzs
    have HZL := keep hzl
    have hsep : vb.ownBlock ≠ some W.heap.size := fun e => by have := (hJ.o.lt _ e).2; omega
    have HSEP := keep hsep
    have hzW := hJ.z
    clear hcells hzs hzl hsep hJ hcl hl
    gi_wp2
    refine ⟨trivial, ?_⟩
    refine (CallsIn.inRound l (callsIn_wide.2 (back_make2 (some ⟨g, o + 3 + X, none⟩) 8 8 _ (W.heap.size + 1) (by simp)))).mono ?_
    rintro e w' ⟨rfl, rfl⟩
    gi_wp2
    obtain ⟨Av, nv, cv, rfl⟩ : ∃ A n c, vb = .slice A n c := by obtain ⟨A, c, h, _⟩ := (Sl.of_own HJ.out.o).form; exact ⟨A, _, c, h⟩
    have hJi := (HJ.out.alloc (.cells #[.int .u64 0] 67)).alloc (.cells #[.slice (some ⟨g, o + 3 + X, none⟩) 8 8] 36)
    have bX := (Boxed.new W 67 (.int .u64 0)).alloc (.cells #[.slice (some ⟨g, o + 3 + X, none⟩) 8 8] 36)
    have bS := Boxed.new (W.alloc (.cells #[.int .u64 0] 67)) 36 (.slice (some ⟨g, o + 3 + X, none⟩) 8 8)
    rw [World.size_alloc] at bS
    have hbi : Below W.heap.size W ((W.alloc (.cells #[.int .u64 0] 67)).alloc (.cells #[.slice (some ⟨g, o + 3 + X, none⟩) 8 8] 36)) := ((Below.refl _ W).alloc (Nat.le_refl _) _).alloc (by simp) _
    have hszi : ((W.alloc (.cells #[.int .u64 0] 67)).alloc (.cells #[.slice (some ⟨g, o + 3 + X, none⟩) 8 8] 36)).heap.size = W.heap.size + 2 := by simp
    have hki : KeepsFrom W0.heap.size W ((W.alloc (.cells #[.int .u64 0] 67)).alloc (.cells #[.slice (some ⟨g, o + 3 + X, none⟩) 8 8] 36)) := ((KeepsOthers.alloc _ _).trans (KeepsOthers.alloc _ _)).from _
    obtain ⟨Wi, hWi⟩ : ∃ Wi, (W.alloc (.cells #[.int .u64 0] 67)).alloc (.cells #[.slice (some ⟨g, o + 3 + X, none⟩) 8 8] 36) = Wi := ⟨_, rfl⟩
    rw [hWi] at hJi bX bS hbi hszi hki
    rw [hWi]
    clear hWi
    have hgW : g < W.heap.size := by have : g < w.heap.size := hg; omega
    have hCi : ∀ j, j < 8 → Wi.cell? ⟨g, o + 3 + X + j, none⟩ = some (.int .u8 ((zs[j]?.getD 0).toNat : Int)) := fun j hj => (hbi.cell (p := ⟨g, o + 3 + X + j, none⟩) hgW).trans (HC.out j hj)
    have hrr' : Wi.heap[l]? = some (.loop rr) := (hbi.block l hlw).trans hrr
    have HCI := keep hCi
    clear hCi
    refine wpIn_rangeFunc_ownN (l₀ := l) (r₀ := rr) rfl hrr' (by omega) (gf := 54) (lb := #[.pointer (some ⟨W.heap.size + 1, 0, none⟩)]) rfl trivial (enters_of Try.func54 (by kernel_rfl) rfl)
      ((back_stops Fence.wide 3 trivial rfl (by omega) (W.heap.size + 1) w.heap.size g (o + 3 + X) zs hg Wi (by omega) (by omega) bS.cell HCI.out).inRound l) (fun h k => h.trans k) (KpB.putObj (by omega) (by omega)) (Below.refl _ _) (fun _ => rfl)
      (fun pre' W' => (FJ w hh (.slice (some ⟨g, o + 3, none⟩) (8 * n) (c - 3)) (.slice Av nv cv) ws W' ∧ Boxed W' W.heap.size 67 (.int .u64 ((accF zs pre' : Nat) : Int))) ∧ KeepsFrom W0.heap.size W W')
      (fun _ _ _ => False)
      (OwnFrom.and (OwnFrom.and (fj_own (by omega)) (Own.from (boxed_own _ _ (fun pre' => Value.int .u64 ((accF zs pre' : Nat) : Int))) _)) (ownFrom_keepsFrom (by omega)))
      (fun _ _ _ _ _ hs _ _ => hs)
      ⟨⟨hJi, bX⟩, hki⟩
      (fun Y a'' _ => a'' = { tmps := #[.slice (some ⟨g, o, none⟩) b.length c, undef, .pointer (some ⟨w.heap.size, 0, none⟩), .int .i64 0, .pointer (some ⟨w.heap.size + 1, 0, none⟩), .slice (some ⟨g, o + 3 + X, none⟩) 8 8, .pointer (some ⟨W.heap.size, 0, none⟩), undef, .int .u8 ((zs[Y]?.getD 0).toNat : Int), .slice (some ⟨g, o, none⟩) b.length c, .int .i64 b.length, .bool false, .bool false, .slice (some ⟨g, o, none⟩) b.length c, .int .i64 b.length, .slice (some ⟨g, o, none⟩) b.length c, .pointer (some ⟨g, o + 1, none⟩), .int .u8 (x : Int), .int .i64 (x : Int), .int .i64 ((x : Int) * 256), .slice (some ⟨g, o, none⟩) b.length c, .pointer (some ⟨g, o + 2, none⟩), .int .u8 (y : Int), .int .i64 (y : Int), .int .i64 (n : Int), .int .i64 (8 * (n : Int)), .int .i64 (3 + 8 * (n : Int)), .bool false, .bool false, undef, .slice (some ⟨g, o, none⟩) b.length c, .pointer (some ⟨g, o, none⟩), .int .u8 (hh : Int), .int .i64 (hh : Int), .agg #[.int .i64 (hh : Int), .slice none 0 0], .slice (some ⟨g, o, none⟩) b.length c, .slice (some ⟨g, o + 3, none⟩) (8 * n) (c - 3), .func (.func 53) #[] #[.pointer (some ⟨w.heap.size + 2, 0, none⟩), .pointer (some ⟨w.heap.size + 2 + 1, 0, none⟩)], .slice (some ⟨g, o + 3 + X, none⟩) 8 8, .slice (some ⟨g, o + 3 + X, none⟩) 8 8, .func (.func 54) #[] #[.pointer (some ⟨W.heap.size + 1, 0, none⟩)], .int .i64 (Y : Int), .int .u8 ((zs[Y]?.getD 0).toNat : Int), undef, undef, undef, undef, undef, undef, undef, undef, undef, undef, undef, undef, undef, undef, undef, undef], defers := [] })
      (fun _ _ _ _ _ _ hs _ _ => hs) ?assign2 ?body2 ?done2 ?stop2
    case assign2 =>
      rintro l2 pre' Y W' K hi hK
      gi_wp2
      exact hK _ _ (KeepsFrom.refl _ _) (KpB.refl _ _ _) hi rfl
    case body2 =>
      rintro l2 pre' Y a'' W' _ _ ⟨⟨hJ2, bX2⟩, hKF⟩ rfl _
      have hap := accF_push zs pre' Y
      have hor := or_gen (accF zs pre') (zs[Y]?.getD 0).toNat (UInt8.toNat_lt _)
      obtain ⟨z, hz⟩ : ∃ z, (zs[Y]?.getD 0).toNat = z := ⟨_, rfl⟩
      obtain ⟨V, hV⟩ : ∃ V, accF zs pre' = V := ⟨_, rfl⟩
      have hzb : z < 256 := by rw [← hz]; exact UInt8.toNat_lt _
      rw [hz, hV] at hap hor
      rw [hV] at bX2
      rw [hz]
      have cX := bX2.cell
      have fX := bX2.frozen
      have HAP := keep hap
      have HOR := keep hor
      clear hap hor hz hV
      gi_wp2
      rw [HOR.out]
      refine ⟨(KeepsOthers.setCell _ _ _).from _, ⟨World.cell?_setCell_other _ _ _ _ (by simp), (Below.refl _ W').setCell (p := ⟨W.heap.size, 0, none⟩) (by simp; omega) _⟩, ⟨hJ2.store (by omega) HSEP.out _, ?_⟩, hKF.trans ((KeepsOthers.setCell _ _ _).from _)⟩
      rw [HAP.out]
      exact bX2.set _
    case done2 =>
      rintro ys' W' rfl ⟨⟨hJ2, bX2⟩, hKF⟩
      rw [accF_all zs HZL.out] at bX2
      obtain ⟨V, hV⟩ : ∃ V, wordF zs = V := ⟨_, rfl⟩
      rw [hV] at bX2
      have cX := bX2.cell
      obtain ⟨d0, d1⟩ := hJ2.f.cell2
      have hz2 := hJ2.z
      have HJ2 := keep hJ2
      have HV := keep hV
      have HKF := keep hKF
      have hpl : pre.length ≤ 524280 := by have : pre.length < 8 * n := hlt; omega
      have hbd1 : ws.length + 1 ≤ maxLen := by rw [HWL.out]; unfold maxLen; omega
      have hbd2 : (ws.length + 1) * 8 ≤ 140737488355328 := by rw [HWL.out]; omega
      have HBD := keep (And.intro hbd1 hbd2)
      have HJO := keep hJ2.o
      obtain ⟨i0, hi, hz0, hz1, hz3⟩ := info_parts el25.hi
      clear hV hJ2 hKF hbd1 hbd2
      gi_wp2_with (gi_at_builtin; refine wpListIn_append_own _ rfl _ _ 25 rfl (w.heap.size + 4) 67 i0 (.int .u64 0) 1 8 Try.underlying25 hi hz0 hz1 hz3 rfl (by decide) _ _ _ rfl (HJO.out.alloc _) ⟨W'.heap.size, 0, none⟩ 1 1 [.int .u64 (V : Int)] rfl rfl (cell_one_new _ _ _) (by simp [Value.oneCell']) HBD.out.1 HBD.out.2 (by simp; omega) ?_; intro v' w1 hown' hgrow _; obtain ⟨g', cap', rfl⟩ := ownsRow_succ hown'; obtain ⟨q1, q2, q3, q4⟩ := HJ2.out.push hown' hgrow)
      refine ⟨HKF.out.trans (q2.from _), HJ.out.kp q1, .slice (some ⟨g', 0, none⟩) (ws.length + 1) cap', ?_⟩
      rw [List.map_append, List.map_singleton, HWS.out, HZS.out, HV.out]
      exact q1
    case stop2 =>
      rintro c pre' W' _ h
      exact h.elim
  case done =>
    rintro D ys W hD hAll ⟨vb, hJ⟩ hK
    have hws : ys.map (fun X => (wordF (ckF (b.drop 3) X.1) : Int)) = wordsF (b.drop 3) n := hAll.words (fun j => (wordF (ckF (b.drop 3) j) : Int))
    rw [hws] at hJ
    have HO := keep (show W.ownsRow (w.heap.size + 4) 67 1 vb n ((wordsF (b.drop 3) n).map (.int .u64)) from by have := hJ.o; rwa [wordsF_len] at this)
    obtain ⟨Av, cv, rfl, _, _⟩ := (Sl.of_own HO.out).form
    obtain ⟨d0, d1⟩ := hJ.f.cell2
    have HJ := keep hJ
    have HK := keep hK
    have hD4 : w.heap.size + 4 ≤ D := by omega
    clear hws hJ hK hAll HO
    go_wp2_with fail
    cases hfk : fok (hh : Int) n with
    | true =>
      have hsp := hspec.out
      rw [hfk, if_pos rfl] at hsp
      have HSP := keep hsp
      refine (check_ok (hh : Int) Av n cv W hfk).mono ?_
      rintro e w5 ⟨rfl, hb5⟩
      have hlr := HJ.out.r.lt
      have hlf := HJ.out.f.lt
      have hr5 := HJ.out.r.below hb5 hlr
      obtain ⟨c0, c1⟩ := hr5.cell2
      obtain ⟨f0, f1⟩ := (HJ.out.f.below hb5 hlf).cell2
      have z0 := hr5.frozen 0
      have z1 := hr5.frozen 1
      have HFD := keep (HJ.out.done (o' := .deferred none) hb5 hD4 HK.out)
      have hset1 := hr5.set_ 0 (.int .i64 hh)
      have hset2 := hset1.set_ 1 (.slice Av n cv)
      obtain ⟨y0, y1⟩ := hset2.cell2
      have HY := keep (And.intro y0 y1)
      clear hsp d0 d1 hfk hset1 hset2 hr5 y0 y1
      go_wp2_with fail
      have y0 : (((w5.setCell ⟨w.heap.size, 0, none⟩ (.int .i64 hh)).setCell ⟨w.heap.size, 1, none⟩ (.slice Av n cv)).putObj D (.deferred none)).cell? ⟨w.heap.size, 0, none⟩ = some (.int .i64 hh) := (World.cell?_of_block (World.putObj_heap_other (by simp; omega))).trans HY.out.1
      have y1 : (((w5.setCell ⟨w.heap.size, 0, none⟩ (.int .i64 hh)).setCell ⟨w.heap.size, 1, none⟩ (.slice Av n cv)).putObj D (.deferred none)).cell? ⟨w.heap.size, 1, none⟩ = some (.slice Av n cv) := (World.cell?_of_block (World.putObj_heap_other (by simp; omega))).trans HY.out.2
      refine ⟨by simp, .inl ⟨_, _, rfl, run_takeDeferred HFD.out.1, ?_⟩⟩
      refine ⟨.tuple #[.agg #[.int .i64 hh, .slice Av n cv], .int .i64 0], by simp [results, Try.results28, go_sem, y0, y1], ?_⟩
      unfold DecFRes UnionRes
      rw [HSP.out]
      exact ⟨_, rfl, by have := HFD.out.2.1; rwa [wordsF_len] at this ⊢, HFD.out.2.2⟩
    | false =>
      have hsp := hspec.out
      rw [hfk, if_neg (by simp)] at hsp
      have HSP := keep hsp
      refine (check_bad (hh : Int) Av n cv W hfk).mono ?_
      rintro e w5 ⟨rfl, hb5⟩
      have hlr := HJ.out.r.lt
      have hr5 := HJ.out.r.below hb5 hlr
      obtain ⟨c0, c1⟩ := hr5.cell2
      have z0 := hr5.frozen 0
      have z1 := hr5.frozen 1
      have HFD := keep (HJ.out.bad (o' := .deferred none) hb5 hD4 HK.out (.int .i64 0) (.slice none 0 0))
      have hset1 := hr5.set_ 0 (.int .i64 0)
      have hset2 := hset1.set_ 1 (.slice none 0 0)
      obtain ⟨y0, y1⟩ := hset2.cell2
      have HY := keep (And.intro y0 y1)
      clear hsp d0 d1 hfk hset1 hset2 hr5 y0 y1
      go_wp2_with fail
      have y0 : (((w5.setCell ⟨w.heap.size, 0, none⟩ (.int .i64 0)).setCell ⟨w.heap.size, 1, none⟩ (.slice none 0 0)).putObj D (.deferred none)).cell? ⟨w.heap.size, 0, none⟩ = some (.int .i64 0) := (World.cell?_of_block (World.putObj_heap_other (by simp; omega))).trans HY.out.1
      have y1 : (((w5.setCell ⟨w.heap.size, 0, none⟩ (.int .i64 0)).setCell ⟨w.heap.size, 1, none⟩ (.slice none 0 0)).putObj D (.deferred none)).cell? ⟨w.heap.size, 1, none⟩ = some (.slice none 0 0) := (World.cell?_of_block (World.putObj_heap_other (by simp; omega))).trans HY.out.2
      refine ⟨by simp, .inl ⟨_, _, rfl, run_takeDeferred HFD.out.1, ?_⟩⟩
      refine ⟨.tuple #[.agg #[.int .i64 0, .slice none 0 0], .int .i64 22], by simp [results, Try.results28, go_sem, y0, y1], ?_⟩
      unfold DecFRes UnionRes
      rw [HSP.out]
      exact ⟨_, rfl, Sl.nil _ _ _ _ _, HFD.out.2⟩
  case stop =>
    rintro D cc pre W _ _ h _
    exact h.elim
end Go.Proofs.Ytfainbgbeojcpaa
