/- The walk of ManifestSurvivesTornWrites: what the statement's function returns. -/
import Derived.Test.YtkjhnipjhefndaaSlots
import Derived.Test.YtkjhnipjhefndaaDrawMod
import Derived.RegionTactic
namespace Go.Proofs.Ytkjhnipjhefndaa
open Go.RowKit

/-- A manifest that is right and small. -/
structure Fit (m : Man) : Prop where
  i : ManI m
  e : manErr m = 0
  t : Tiny m
theorem Good.fit {m : Man} (h : Good m) : Fit m := ⟨h.manI, h.err, h.tiny⟩
/-- The manifest with another number. -/
def renum (m : Man) (n : Int) : Man := ⟨n, m.nx, m.jo, m.segs, m.marks, m.tals, m.exps⟩
theorem Fit.renum {m : Man} (h : Fit m) {n : Int} (h0 : 0 ≤ n) (h1 : n ≤ 1000) : Fit (renum m n) := by
  obtain ⟨⟨a, b, c, d, e, f, g, i, j, k, l⟩, q, ⟨t1, t2, t3, t4, t5, t6⟩⟩ := h
  refine ⟨⟨⟨by show -9223372036854775808 ≤ n; omega, by show n ≤ 9223372036854775807; omega⟩, b, c, d, e, f, g, i, j, k, l⟩, ?_, ⟨t1, t2, t3, t4, t5, t6⟩⟩
  unfold manErr at q
  split at q
  · cases q
  · rename_i q1
    split at q
    · cases q
    · rename_i q2
      have q3 : ¬ (n < 0 ∨ m.nx < 0 ∨ m.jo < 0 ∨ m.segs.any (segBad m.nx) = true) := fun h => by
        rcases h with h | h
        · omega
        · exact q2 (.inr h)
      show (if 64 < m.segs.length then (4 : Int) else if n < 0 ∨ m.nx < 0 ∨ m.jo < 0 ∨ m.segs.any (segBad m.nx) = true then 2 else _) = 0
      rw [if_neg q1, if_neg q3]
      exact q
theorem Fit.smallP {m : Man} (h : Fit m) : SmallP m := by
  have t := h.t
  exact ⟨by have := t.s; omega, by have := t.m_; omega, by have := t.t; omega, by have := t.e; omega, fun x hx => by have := t.tb x hx; omega, fun x hx => by have := t.eb x hx; omega⟩
theorem Fit.len {m : Man} (h : Fit m) : (encB m).length ≤ 100000 := by rw [encB_len]; exact h.t.len
theorem Fit.decd {m m' : Man} {er : Int} (h : Fit m) (hD : Decd (encB m) m' er) : m' = m ∧ er = 0 := decd_enc h.i h.e (encB_ge m) (by have := h.len; omega) hD
theorem decd_nil {m : Man} {er : Int} (h : Decd [] m er) : m = manZero ∧ er ≠ 0 := by
  rcases h with ⟨_, h1, h2⟩ | ⟨h8, _⟩ | ⟨h8, _⟩
  · exact ⟨h1, by omega⟩
  · simp at h8
  · simp at h8
/-- A part of an encoding is no encoding. -/
theorem Fit.torn {m m' : Man} {er : Int} {n : Nat} (h : Fit m) (hn : n < (encB m).length) (hD : Decd ((encB m).take n) m' er) : er ≠ 0 := by
  have hl := h.len
  intro h0
  rcases hD with ⟨_, _, h2⟩ | ⟨_, _, _, h2⟩ | ⟨h8, _, m1, bad, hP, ⟨hF, _, _⟩ | ⟨_, _, h2⟩⟩
  · omega
  · omega
  · have hI := hP.in_ (by rw [List.length_drop, body_len h8, List.length_take]; omega)
    have e1 : encB m = encB m1 ++ (encB m).drop n := by rw [hF.2.2, List.take_append_drop]
    have := enc_prefix h.i hI e1
    have := congrArg List.length this
    rw [List.length_drop] at this
    simp at this
    omega
  · omega
theorem decd_set {m m' : Man} {er : Int} {i : Nat} {y : UInt8} (h : i < (encB m).length) (hy : y ≠ (encB m)[i]) (hD : Decd ((encB m).set i y) m' er) : er ≠ 0 := by
  have hlen : ((encB m).set i y).length - 4 = (encM m).length := by rw [List.length_set, encB_len]; omega
  have hs := sum_set (encM m) i y h hy
  have hne : crcB (crc (body ((encB m).set i y))) ≠ tail4 ((encB m).set i y) := by
    unfold body tail4
    rw [hlen]
    exact hs
  rcases hD with ⟨_, _, h3⟩ | ⟨_, _, h2, h3⟩ | ⟨_, k, _⟩
  · omega
  · omega
  · exact absurd k hne
theorem max_byte (y : UInt8) : ∃ z : UInt8, (if (y.toNat : Int) < 1 then (1 : Int) else (y.toNat : Int)) = (z.toNat : Int) ∧ z ≠ 0 := by
  by_cases h : (y.toNat : Int) < 1
  · exact ⟨1, by rw [if_pos h]; rfl, by decide⟩
  · refine ⟨y, by rw [if_neg h], fun e => ?_⟩
    rw [e] at h
    exact h (by decide)
theorem xor_ne (x z : UInt8) (h : z ≠ 0) : x ^^^ z ≠ x := by
  intro e
  apply h
  have e2 : x ^^^ (x ^^^ z) = x ^^^ x := by rw [e]
  rw [← UInt8.xor_assoc, UInt8.xor_self, UInt8.zero_xor] at e2
  exact e2
theorem slot_even {m : Man} {l0 l1 : List UInt8} (h : manErr m = 0) (h2 : m.nu % 2 = 0) : slotOut m l0 l1 = (encB m, l1) := by unfold slotOut; rw [if_pos h, if_pos h2]
theorem slot_odd {m : Man} {l0 l1 : List UInt8} (h : manErr m = 0) (h2 : m.nu % 2 = 1) : slotOut m l0 l1 = (l0, encB m) := by unfold slotOut; rw [if_pos h, if_neg (by omega)]
set_option maxHeartbeats 8000000 in
set_option maxRecDepth 100000 in
theorem law_torn (v : Value) (bs : List Int) (x : Int) (y : UInt8) (w : World) (hv : Sl w (lt w.heap.size) 1 v bs.length (bs.map (.int .u8))) (hr : ∀ x ∈ bs, 0 ≤ x ∧ x ≤ 255) (hm : bs.length ≤ maxLen) :
    Calls Try.prog 9 #[v, .int .i64 x, .int .u8 y.toNat] w fun e w' => e = .returned (.bool true) ∧ Below w.heap.size w w' := by
  obtain ⟨Av, cv, rfl, _, hv⟩ := hv.form
  obtain ⟨z, hz, hz0⟩ := max_byte y
  by_cases hy1 : (y.toNat : Int) < 1
  all_goals
    go_enter Try.func9, Try.ntmps9
    go_wp2_with fail
    refine (awake_any _).mono ?_
    rintro e w1 ⟨rfl, hb1⟩
    have hv1 := (hv.below hb1 (Nat.le_refl _)).more hb1.size
    clear hv
    go_wp2_with fail
    refine (drawNew _ bs 300 _ hv1 hr (by omega) hm).mono ?_
    rintro e w2 ⟨gc, rfl, hgc, hC2, hb2⟩
    have hbw2 := bchain hb1 hb2
    have hwg : w.heap.size ≤ gc := by have := hb1.size; omega
    clear hv1 hb1 hb2 hgc
    go_wp2_with fail
    refine (drawManifest gc _ hC2).mono ?_
    rintro e w3 ⟨old, mS, mM, mT, mE, rfl, hL, hG, hC3, hg3⟩
    have hbw3 := below_grown hbw2 hg3 hbw2.size hwg
    have hFo := hG.fit
    have ho0 := hG.u0
    have ho1 := hG.u1
    have hL3 : Lies w3 (btw (gc + 1) w3.heap.size) old mS mM mT mE := hL.mono (fun k hk => ⟨by have := hk.1; have := hC2.lt_; omega, hk.2⟩)
    obtain ⟨A1, c1, A2, c2, A3, c3, A4, c4, rfl, rfl, rfl, rfl⟩ := man_form hL3
    clear hC2 hg3 hbw2 hL hG
    go_upto_region 6 with fail
    rcases (by omega : old.nu % 2 = 0 ∨ old.nu % 2 = 1) with hp | hp
    · obtain ⟨gO, hgO⟩ : ∃ gO, gO = w3.heap.size := ⟨_, rfl⟩
      obtain ⟨gS, hgS⟩ : ∃ gS, gS = gO + 1 := ⟨_, rfl⟩
      have hgS' : gO + 1 = gS := hgS.symm
      obtain ⟨w5, hw5⟩ : ∃ w5, w5 = (w3.alloc (.cells #[.int .i64 old.nu, .int .i64 old.nx, .int .i64 old.jo, .slice A1 old.segs.length c1, .slice A2 old.marks.length c2, .slice A3 old.tals.length c3, .slice A4 old.exps.length c4] 28)).alloc (.cells #[.slice none 0 0, .slice none 0 0] 58) := ⟨_, rfl⟩
      rw [← hw5, ← hgO]
      simp only [hgS']
      have hb5 : Below w3.heap.size w3 w5 := by rw [hw5]; exact ((Below.refl _ _).alloc (Nat.le_refl _) _).alloc (by simp) _
      have hO5 : Blk w5 gO 28 #[.int .i64 old.nu, .int .i64 old.nx, .int .i64 old.jo, .slice A1 old.segs.length c1, .slice A2 old.marks.length c2, .slice A3 old.tals.length c3, .slice A4 old.exps.length c4] := by rw [hw5, hgO]; exact (Blk.new _ _ _).alloc _
      have hS5 : Blk w5 gS 58 #[.slice none 0 0, .slice none 0 0] := by
        rw [hw5, hgS, hgO]
        have := Blk.new (w3.alloc (.cells #[.int .i64 old.nu, .int .i64 old.nx, .int .i64 old.jo, .slice A1 old.segs.length c1, .slice A2 old.marks.length c2, .slice A3 old.tals.length c3, .slice A4 old.exps.length c4] 28)) 58 #[.slice none 0 0, .slice none 0 0]
        simpa using this
      have hC5 := hC3.under hb5 hC3.lt_
      have hgcO : gc < gO := by have := hC3.lt_; omega
      have hL5 : Lies w5 (btw (gc + 1) gO) old (.slice A1 old.segs.length c1) (.slice A2 old.marks.length c2) (.slice A3 old.tals.length c3) (.slice A4 old.exps.length c4) := by rw [hgO]; exact ⟨hL3.s.under hb5 (fun _ hk => hk.2), hL3.m_.under hb5 (fun _ hk => hk.2), hL3.t.under hb5 (fun _ hk => hk.2), hL3.e.under hb5 (fun _ hk => hk.2)⟩
      have hbw5 := bchain hbw3 hb5
      have hgOS : gO < gS := by omega
      clear hw5 hgO hgS hgS' hb5 hC3 hL3 hbw3
      obtain ⟨o0, o1, o2, o3, o4, o5, o6⟩ := hO5.cell7
      obtain ⟨s0, s1⟩ := hS5.cell2
      have hlO := hO5.lt
      have hlS := hS5.lt
      go_wp2_with fail
      refine (write_anyS _ _ [] [] old _ _ _ _ w5 (fun _ => False) (fun _ h => h.elim) (Sl.nil _ _ _ _ _) (Sl.nil _ _ _ _ _) (hL5.mono (fun _ hk => by have := hk.2; show _ < w5.heap.size; omega)) hFo.smallP.small hFo.smallP.len).mono ?_
      rintro e w6 ⟨u0, u1, rfl, hu0, hu1, hb6⟩
      rw [hFo.e]
      rw [slot_even hFo.e hp] at hu0 hu1
      obtain ⟨U0, p0, q0, rfl⟩ : ∃ A n c, u0 = .slice A n c := by obtain ⟨A, c, h, _⟩ := Sl.form hu0; exact ⟨A, _, c, h⟩
      obtain ⟨U1, p1, q1, rfl⟩ : ∃ A n c, u1 = .slice A n c := by obtain ⟨A, c, h, _⟩ := Sl.form hu1; exact ⟨A, _, c, h⟩
      obtain ⟨D0, hD0⟩ : ∃ D0, D0 = w5.heap.size := ⟨_, rfl⟩
      obtain ⟨D1, hD1⟩ : ∃ D1, D1 = w6.heap.size := ⟨_, rfl⟩
      have hu0' : BSl w6 (btw D0 D1) (.slice U0 p0 q0) (encB old) := Sl.mono hu0 (fun k hk => hk.elim (fun h => h.elim) (fun h => by rw [hD0, hD1]; exact h))
      have hu1' : BSl w6 (btw D0 D1) (.slice U1 p1 q1) ([]) := Sl.mono hu1 (fun k hk => hk.elim (fun h => h.elim) (fun h => by rw [hD0, hD1]; exact h))
      have hO6 := hO5.below hb6 hO5.lt
      have hS6 := hS5.below hb6 hS5.lt
      have hC6 := hC5.under hb6 hC5.lt_
      have hL6 : Lies w6 (btw (gc + 1) gO) old (.slice A1 old.segs.length c1) (.slice A2 old.marks.length c2) (.slice A3 old.tals.length c3) (.slice A4 old.exps.length c4) := ⟨hL5.s.under hb6 (fun _ hk => by have := hk.2; omega), hL5.m_.under hb6 (fun _ hk => by have := hk.2; omega), hL5.t.under hb6 (fun _ hk => by have := hk.2; omega), hL5.e.under hb6 (fun _ hk => by have := hk.2; omega)⟩
      have hbw6 := bchain hbw5 hb6
      have hz56 := hb6.size
      have hSD : gS < D0 := by omega
      clear hb6 hO5 hS5 hC5 hL5 hbw5 hu0 hu1 o0 o1 o2 o3 o4 o5 o6 s0 s1 hlO hlS
      obtain ⟨s0, s1⟩ := hS6.cell2
      have fs0 := hS6.frozen 0
      have fs1 := hS6.frozen 1
      go_upto_region 7 with fail
      obtain ⟨w7, hw7⟩ : ∃ w7, w7 = (w6.setCell ⟨gS, 0, none⟩ (.slice U0 p0 q0)).setCell ⟨gS, 1, none⟩ (.slice U1 p1 q1) := ⟨_, rfl⟩
      rw [← hw7]
      have hg7 : w6.grownBy w7 (some gS) := by rw [hw7]; exact grownBy_set (grownBy_set (World.grownBy.refl _ _) _ _) _ _
      have hS7 : Blk w7 gS 58 #[.slice U0 p0 q0, .slice U1 p1 q1] := by rw [hw7]; exact (hS6.set_ 0 _).set_ 1 _
      have hO7 := hO6.grown hg7 (fun e => by injection e; omega)
      have hC7 := hC6.grown hg7 (by omega)
      have hu07 : BSl w7 (btw D0 D1) (.slice U0 p0 q0) (encB old) := Sl.grown hu0' hg7 (fun k hk => ⟨by have := hk.2; omega, fun e => by injection e; have := hk.1; omega⟩)
      have hu17 : BSl w7 (btw D0 D1) (.slice U1 p1 q1) ([]) := Sl.grown hu1' hg7 (fun k hk => ⟨by have := hk.2; omega, fun e => by injection e; have := hk.1; omega⟩)
      have hlO6 := hO6.lt
      have hL7 := hL6.kept hg7 (fun k hk => ⟨by have := hk.2; omega, fun e => by injection e; have := hk.2; omega⟩)
      have hbw7 := below_grown hbw6 hg7 hbw6.size (by omega)
      have hz7 := hg7.size
      clear hw7 hg7 hS6 hO6 hC6 hu0' hu1' hL6 hbw6 s0 s1 fs0 fs1 hlO6
      go_wp2_with fail
      refine (drawManifest gc _ hC7).mono ?_
      rintro e w8 ⟨m, mS, mM, mT, mE, rfl, hLm, hGm, hC8, hg8⟩
      obtain ⟨E1, f1, E2, f2, E3, f3, E4, f4, rfl, rfl, rfl, rfl⟩ := man_form hLm
      have hFm : Fit (renum m (old.nu + 1)) := hGm.fit.renum (by omega) (by omega)
      have hS8 := hS7.grown hg8 (fun e => by injection e; omega)
      have hO8 := hO7.grown hg8 (fun e => by injection e; omega)
      have hu08 : BSl w8 (btw D0 D1) (.slice U0 p0 q0) (encB old) := Sl.grown hu07 hg8 (fun k hk => ⟨by have := hk.2; omega, fun e => by injection e; have := hk.1; omega⟩)
      have hu18 : BSl w8 (btw D0 D1) (.slice U1 p1 q1) ([]) := Sl.grown hu17 hg8 (fun k hk => ⟨by have := hk.2; omega, fun e => by injection e; have := hk.1; omega⟩)
      have hlO7 := hO7.lt
      have hL8 := hL7.kept hg8 (fun k hk => ⟨by have := hk.2; omega, fun e => by injection e; have := hk.1; omega⟩)
      have hbw8 := below_grown hbw7 hg8 hbw7.size hwg
      have hz8 := hg8.size
      clear hC7 hS7 hO7 hu07 hu17 hL7 hbw7 hg8 hGm hC8 hlO7
      go_upto_region 8 with fail
      obtain ⟨gM, hgM⟩ : ∃ gM, gM = w8.heap.size := ⟨_, rfl⟩
      obtain ⟨w9, hw9⟩ : ∃ w9, w9 = w8.alloc (.cells #[.int .i64 m.nu, .int .i64 m.nx, .int .i64 m.jo, .slice E1 m.segs.length f1, .slice E2 m.marks.length f2, .slice E3 m.tals.length f3, .slice E4 m.exps.length f4] 28) := ⟨_, rfl⟩
      rw [← hw9, ← hgM]
      have hb9 : Below w8.heap.size w8 w9 := by rw [hw9]; exact (Below.refl _ _).alloc (Nat.le_refl _) _
      have hM9 : Blk w9 gM 28 #[.int .i64 m.nu, .int .i64 m.nx, .int .i64 m.jo, .slice E1 m.segs.length f1, .slice E2 m.marks.length f2, .slice E3 m.tals.length f3, .slice E4 m.exps.length f4] := by rw [hw9, hgM]; exact Blk.new _ _ _
      have hS9 := hS8.below hb9 hS8.lt
      have hO9 := hO8.below hb9 hO8.lt
      have hu09 : BSl w9 (btw D0 D1) (.slice U0 p0 q0) (encB old) := Sl.under hu08 hb9 (fun k hk => by have := hk.2; omega)
      have hu19 : BSl w9 (btw D0 D1) (.slice U1 p1 q1) ([]) := Sl.under hu18 hb9 (fun k hk => by have := hk.2; omega)
      have hlO8 := hO8.lt
      have hL9 : Lies w9 (btw (gc + 1) gO) old (.slice A1 old.segs.length c1) (.slice A2 old.marks.length c2) (.slice A3 old.tals.length c3) (.slice A4 old.exps.length c4) := ⟨hL8.s.under hb9 (fun _ hk => by have := hk.2; omega), hL8.m_.under hb9 (fun _ hk => by have := hk.2; omega), hL8.t.under hb9 (fun _ hk => by have := hk.2; omega), hL8.e.under hb9 (fun _ hk => by have := hk.2; omega)⟩
      have hm9 : Lies w9 (btw w7.heap.size gM) m (.slice E1 m.segs.length f1) (.slice E2 m.marks.length f2) (.slice E3 m.tals.length f3) (.slice E4 m.exps.length f4) := by rw [hgM]; exact ⟨hLm.s.under hb9 (fun _ hk => hk.2), hLm.m_.under hb9 (fun _ hk => hk.2), hLm.t.under hb9 (fun _ hk => hk.2), hLm.e.under hb9 (fun _ hk => hk.2)⟩
      have hbw9 := bchain hbw8 hb9
      have hz9 := hb9.size
      have hOM : gO < gM := by omega
      have hSM : gS < gM := by omega
      have hD1M : D1 ≤ gM := by omega
      have h7M : w7.heap.size ≤ gM := by omega
      clear hw9 hgM hb9 hS8 hO8 hu08 hu18 hL8 hLm hbw8 hlO8
      have o0 := hO9.cell7.1
      have m0 := hM9.cell7.1
      have fm0 := hM9.frozen 0
      have hnu1 : (old.nu : Int) ≤ 8 := ho1
      go_upto_region 9 with fail
      obtain ⟨w10, hw10⟩ : ∃ w10, w10 = w9.setCell ⟨gM, 0, none⟩ (.int .i64 (old.nu + 1)) := ⟨_, rfl⟩
      rw [← hw10]
      have hg10 : w9.grownBy w10 (some gM) := by rw [hw10]; exact grownBy_set (World.grownBy.refl _ _) _ _
      obtain ⟨m1, hm1⟩ : ∃ m1, m1 = renum m (old.nu + 1) := ⟨_, rfl⟩
      have hM10 : Blk w10 gM 28 #[.int .i64 (old.nu + 1), .int .i64 m.nx, .int .i64 m.jo, .slice E1 m.segs.length f1, .slice E2 m.marks.length f2, .slice E3 m.tals.length f3, .slice E4 m.exps.length f4] := by rw [hw10]; exact hM9.set_ 0 _
      have hS10 := hS9.grown hg10 (fun e => by injection e; omega)
      have hO10 := hO9.grown hg10 (fun e => by injection e; omega)
      have hlM9 := hM9.lt
      have hu010 : BSl w10 (btw D0 D1) (.slice U0 p0 q0) (encB old) := Sl.grown hu09 hg10 (fun k hk => ⟨by have := hk.2; omega, fun e => by injection e; have := hk.2; omega⟩)
      have hu110 : BSl w10 (btw D0 D1) (.slice U1 p1 q1) ([]) := Sl.grown hu19 hg10 (fun k hk => ⟨by have := hk.2; omega, fun e => by injection e; have := hk.2; omega⟩)
      have hL10 := hL9.kept hg10 (fun k hk => ⟨by have := hk.2; omega, fun e => by injection e; have := hk.2; omega⟩)
      have hm10' := hm9.kept hg10 (fun k hk => ⟨by have := hk.2; omega, fun e => by injection e; have := hk.2; omega⟩)
      have hm10 : Lies w10 (btw w7.heap.size gM) m1 (.slice E1 m.segs.length f1) (.slice E2 m.marks.length f2) (.slice E3 m.tals.length f3) (.slice E4 m.exps.length f4) := by rw [hm1]; exact ⟨hm10'.s, hm10'.m_, hm10'.t, hm10'.e⟩
      have hbw10 := below_grown hbw9 hg10 hbw9.size (by omega)
      have hz10 := hg10.size
      rw [← hm1] at hFm
      have hnu : m1.nu = old.nu + 1 := by rw [hm1]; rfl
      have HNU := keep hnu
      have HM1 := keep hm1
      clear hw10 hg10 hM9 hS9 hO9 hu09 hu19 hL9 hm9 hm10' hbw9 o0 m0 fm0 hnu hm1
      obtain ⟨m0, m1_, m2, m3, m4, m5, m6⟩ := hM10.cell7
      obtain ⟨s0, s1⟩ := hS10.cell2
      have hlM := hM10.lt
      have hq : m1.nu % 2 = 1 := by rw [HNU.out]; omega
      go_wp2_with fail
      refine ((by have h := write_any _ _ (encB old) ([]) m1 _ _ _ _ w10 (Sl.mono hu010 (fun k hk => by have := hk.2; show k < w10.heap.size; omega)) (Sl.mono hu110 (fun k hk => by have := hk.2; show k < w10.heap.size; omega)) (hm10.mono (fun k hk => by have := hk.2; show k < w10.heap.size; omega)) hFm.smallP.small hFm.smallP.len; have hc : manCells m1 (.slice E1 m.segs.length f1) (.slice E2 m.marks.length f2) (.slice E3 m.tals.length f3) (.slice E4 m.exps.length f4) = #[.int .i64 (old.nu + 1), .int .i64 m.nx, .int .i64 m.jo, .slice E1 m.segs.length f1, .slice E2 m.marks.length f2, .slice E3 m.tals.length f3, .slice E4 m.exps.length f4] := (by rw [HM1.out]; first | done | rfl); rw [hc] at h; exact h) : Calls Try.prog 27 #[.agg #[.slice U0 p0 q0, .slice U1 p1 q1], .agg #[.int .i64 (old.nu + 1), .int .i64 m.nx, .int .i64 m.jo, .slice E1 m.segs.length f1, .slice E2 m.marks.length f2, .slice E3 m.tals.length f3, .slice E4 m.exps.length f4]] w10 (WriteRes w10 m1 (encB old) ([]))).mono ?_
      rintro e w11 ⟨t0, t1, rfl, ht0, ht1, hb11⟩
      rw [hFm.e]
      rw [slot_odd hFm.e hq] at ht0 ht1
      obtain ⟨T0, b0_, rfl, hcap0, _⟩ := (show Sl w11 _ 1 t0 (encB old).length ((encB old).map ub) from ht0).form
      obtain ⟨T1, b1_, rfl, hcap1, _⟩ := (show Sl w11 _ 1 t1 (encB m1).length ((encB m1).map ub) from ht1).form
      have hlen0 : Hid ((encB old).length ≤ 1000000) := keep (by have := hFo.len; omega)
      have hlen1 : Hid ((encB m1).length ≤ 1000000) := keep (by have := hFm.len; omega)
      have hM11 := hM10.below hb11 hM10.lt
      have hO11 := hO10.below hb11 hO10.lt
      have hL11 : Lies w11 (lt w11.heap.size) old (.slice A1 old.segs.length c1) (.slice A2 old.marks.length c2) (.slice A3 old.tals.length c3) (.slice A4 old.exps.length c4) := (hL10.mono (fun k hk => by have := hk.2; show k < w10.heap.size; omega) : Lies w10 (lt w10.heap.size) old _ _ _ _).below hb11
      have hm11 : Lies w11 (lt w11.heap.size) m1 (.slice E1 m.segs.length f1) (.slice E2 m.marks.length f2) (.slice E3 m.tals.length f3) (.slice E4 m.exps.length f4) := (hm10.mono (fun k hk => by have := hk.2; show k < w10.heap.size; omega) : Lies w10 (lt w10.heap.size) m1 _ _ _ _).below hb11
      have hbw11 := bchain hbw10 hb11
      clear hb11 hM10 hO10 hL10 hm10 hbw10 hu010 hu110 hS10 s0 s1 m0 m1_ m2 m3 m4 m5 m6 hlM hq
      go_upto_region 10 with fail
      obtain ⟨gN, hgN⟩ : ∃ gN, gN = w11.heap.size := ⟨_, rfl⟩
      obtain ⟨w12, hw12⟩ : ∃ w12, w12 = w11.alloc (.cells #[.slice T0 (encB old).length b0_, .slice T1 (encB m1).length b1_] 58) := ⟨_, rfl⟩
      rw [← hw12, ← hgN]
      have hb12 : Below w11.heap.size w11 w12 := by rw [hw12]; exact (Below.refl _ _).alloc (Nat.le_refl _) _
      have hN12 : Blk w12 gN 58 #[.slice T0 (encB old).length b0_, .slice T1 (encB m1).length b1_] := by rw [hw12, hgN]; exact Blk.new _ _ _
      have hT0 : BSl w12 (lt w11.heap.size) (.slice T0 (encB old).length b0_) (encB old) := Sl.below ht0 hb12 (Nat.le_refl _)
      have hT1 : BSl w12 (lt w11.heap.size) (.slice T1 (encB m1).length b1_) (encB m1) := Sl.below ht1 hb12 (Nat.le_refl _)
      have hNw : w11.heap.size ≤ gN := by omega
      have hz12 := hb12.size
      clear hw12 hgN ht0 ht1
      have hM12 := hM11.below hb12 hM11.lt
      have m0 := hM12.cell7.1
      have hq2 : (old.nu + 1) % 2 = 1 := by omega
      have hq3 : (0 : Int) ≤ old.nu + 1 := by omega
      obtain ⟨s0, s1⟩ := hN12.cell2
      have hlN := hN12.lt
      go_wp2_with fail
      refine (recover_any _ _ (encB old) (encB m1) w12 (Sl.more hT0 hz12) (Sl.more hT1 hz12) hlen0.out hlen1.out).mono ?_
      rintro e w13 ⟨ma, ea, mb, eb, vS, vM, vT, vE, hDa, hDb, rfl, hLx, hb13⟩
      obtain ⟨r1, r2⟩ := hFo.decd hDa
      obtain ⟨r3, r4⟩ := hFm.decd hDb
      have hrec : rec2 ma ea mb eb = (m1, true) := by
        rw [r1, r2, r3, r4]
        unfold rec2
        rw [if_neg (fun h => h.2.elim (fun h => h rfl) (fun h => by rw [HNU.out] at h; omega)), if_pos rfl]
      rw [hrec] at hLx ⊢
      simp only at hLx ⊢
      obtain ⟨X1, x1, X2, x2, X3, x3, X4, x4, rfl, rfl, rfl, rfl⟩ := man_form hLx
      clear hDa hDb r1 r2 r3 r4 hrec m0 hM12 s0 s1
      go_upto_region 14 with fail
      rw [hq2]
      obtain ⟨gX, hgX⟩ : ∃ gX, gX = w13.heap.size := ⟨_, rfl⟩
      obtain ⟨w14, hw14⟩ : ∃ w14, w14 = w13.alloc (.cells #[.int .i64 m1.nu, .int .i64 m1.nx, .int .i64 m1.jo, .slice X1 m1.segs.length x1, .slice X2 m1.marks.length x2, .slice X3 m1.tals.length x3, .slice X4 m1.exps.length x4] 28) := ⟨_, rfl⟩
      rw [← hw14, ← hgX]
      have hb14 : Below w13.heap.size w13 w14 := by rw [hw14]; exact (Below.refl _ _).alloc (Nat.le_refl _) _
      have hX14 : Blk w14 gX 28 #[.int .i64 m1.nu, .int .i64 m1.nx, .int .i64 m1.jo, .slice X1 m1.segs.length x1, .slice X2 m1.marks.length x2, .slice X3 m1.tals.length x3, .slice X4 m1.exps.length x4] := by rw [hw14, hgX]; exact Blk.new _ _ _
      have hLx14 : Lies w14 (lt w14.heap.size) m1 (.slice X1 m1.segs.length x1) (.slice X2 m1.marks.length x2) (.slice X3 m1.tals.length x3) (.slice X4 m1.exps.length x4) := (hLx.mono (fun k hk => hk.2) : Lies w13 (lt w13.heap.size) m1 _ _ _ _).below hb14
      have hb1214 := bchain hb13 hb14
      have hN14 := hN12.below hb1214 hN12.lt
      have hB14 := hb12.trans (hb1214.mono hb12.size)
      have hT014 : BSl w14 (lt w11.heap.size) (.slice T0 (encB old).length b0_) (encB old) := Sl.below hT0 hb1214 hz12
      have hT114 : BSl w14 (lt w11.heap.size) (.slice T1 (encB m1).length b1_) (encB m1) := Sl.below hT1 hb1214 hz12
      have hz14 := hB14.size
      clear hw14 hgX hb14 hLx hb13 hN12 hT0 hT1 hb12 hb1214
      obtain ⟨s0, s1⟩ := hN14.cell2
      have hlN14 := hN14.lt
      have hA1 : Blk ((w14.alloc (.cells #[.slice T0 (encB old).length b0_, .slice T1 (encB m1).length b1_] 58)).alloc (.cells #[.slice T0 (encB old).length b0_, .slice T1 (encB m1).length b1_] 58)).drew w14.heap.size 58 #[.slice T0 (encB old).length b0_, .slice T1 (encB m1).length b1_] := (Blk.new w14 58 #[.slice T0 (encB old).length b0_, .slice T1 (encB m1).length b1_]).alloc _
      have hA2' : Blk ((w14.alloc (.cells #[.slice T0 (encB old).length b0_, .slice T1 (encB m1).length b1_] 58)).alloc (.cells #[.slice T0 (encB old).length b0_, .slice T1 (encB m1).length b1_] 58)) (w14.heap.size + 1) 58 #[.slice T0 (encB old).length b0_, .slice T1 (encB m1).length b1_] := by
        have := Blk.new (w14.alloc (.cells #[.slice T0 (encB old).length b0_, .slice T1 (encB m1).length b1_] 58)) 58 #[.slice T0 (encB old).length b0_, .slice T1 (encB m1).length b1_]
        simpa using this
      have hA2 : Blk ((w14.alloc (.cells #[.slice T0 (encB old).length b0_, .slice T1 (encB m1).length b1_] 58)).alloc (.cells #[.slice T0 (encB old).length b0_, .slice T1 (encB m1).length b1_] 58)).drew (w14.heap.size + 1) 58 #[.slice T0 (encB old).length b0_, .slice T1 (encB m1).length b1_] := hA2'
      go_cut [17, 18] (fun a b wr => ∃ gT gD, a = .pointer (some ⟨gT, 0, none⟩) ∧ b = .pointer (some ⟨gD, 0, none⟩) ∧ gT ≠ gD ∧ w14.heap.size ≤ gT ∧ w14.heap.size ≤ gD ∧ Blk wr gT 58 #[.slice T0 (encB old).length b0_, .slice T1 (encB m1).length b1_] ∧ Blk wr gD 58 #[.slice T0 (encB old).length b0_, .slice T1 (encB m1).length b1_] ∧ Below w14.heap.size w14 wr)
      case first =>
        go_region
        all_goals
          go_wp2_with fail
          go_meet
          refine ⟨_, _, rfl, rfl, by omega, by omega, by omega, ?_, ?_, ?_⟩
          · first | exact hA1 | exact hA2
          · first | exact hA1 | exact hA2
          · exact (((Below.refl _ _).alloc (Nat.le_refl _) _).alloc (by simp) _).drew
      case rest =>
      obtain ⟨gT, gD, rfl, rfl, hTD, hTw, hDw, hTb, hDb, hbc⟩ := hcut
      obtain ⟨w15, rfl⟩ : ∃ w15 : World, w15 = wc := ⟨_, rfl⟩
      have hN15 := hN14.below hbc hN14.lt
      have hX15 := hX14.below hbc hX14.lt
      have hLx15 : Lies w15 (lt w14.heap.size) m1 (.slice X1 m1.segs.length x1) (.slice X2 m1.marks.length x2) (.slice X3 m1.tals.length x3) (.slice X4 m1.exps.length x4) := ⟨hLx14.s.under hbc (fun _ h => h), hLx14.m_.under hbc (fun _ h => h), hLx14.t.under hbc (fun _ h => h), hLx14.e.under hbc (fun _ h => h)⟩
      have hB15 := hB14.trans (hbc.mono hz14)
      have hT015 : BSl w15 (lt w11.heap.size) (.slice T0 (encB old).length b0_) (encB old) := Sl.below hT014 hbc hz14
      have hT115 : BSl w15 (lt w11.heap.size) (.slice T1 (encB m1).length b1_) (encB m1) := Sl.below hT114 hbc hz14
      have hz15 := hbc.size
      have hlX := hX14.lt
      clear hN14 hX14 hLx14 hB14 hT014 hT114 hbc s0 s1
      have hEl : ((encB m1).length : Int) ≤ 100000 := by have := hFm.len; omega
      have hEg : 1 ≤ ((encB m1).length : Int) := by have := encB_ge m1; omega
      obtain ⟨s0, s1⟩ := hN15.cell2
      go_upto_region 15 with fail
      go_wp2_with fail
      refine (drawMod x ((encB m1).length : Int) w15 (by omega)).mono ?_
      rintro e w16 ⟨r, rfl, r0, r1, rfl⟩
      have hi0 := r1 hEg
      clear r1
      obtain ⟨i, rfl⟩ := Int.eq_ofNat_of_zero_le r0
      have hi : i < (encB m1).length := by omega
      have hcapq : (i : Int) ≤ (b1_ : Int) := by omega
      obtain ⟨t0_, t1_⟩ := hTb.cell2
      have ft0 := hTb.frozen 0
      have ft1 := hTb.frozen 1
      have hlT := hTb.lt
      have hlD := hDb.lt
      go_upto_region 17 with fail
      obtain ⟨w17, hw17⟩ : ∃ w17, w17 = w15.setCell ⟨gT, 1, none⟩ (.slice T1 i b1_) := ⟨_, rfl⟩
      rw [← hw17]
      have hg17 : w15.grownBy w17 (some gT) := by rw [hw17]; exact grownBy_set (World.grownBy.refl _ _) _ _
      have hT17 : Blk w17 gT 58 #[.slice T0 (encB old).length b0_, .slice T1 i b1_] := by rw [hw17]; exact hTb.set_ 1 _
      have hD17 := hDb.grown hg17 (fun e => by injection e; omega)
      have hN17 := hN15.grown hg17 (fun e => by injection e; omega)
      have hX17 := hX15.grown hg17 (fun e => by injection e; omega)
      have hLx17 := hLx15.kept hg17 (fun k hk => by have hk' : k < w14.heap.size := hk; exact ⟨by omega, fun e => by injection e; omega⟩)
      have hB17 := below_grown hB15 hg17 (by omega) (by omega)
      have hK17 : ∀ {v l}, BSl w15 (lt w11.heap.size) v l → BSl w17 (lt w11.heap.size) v l := fun h => Sl.grown h hg17 (fun k hk => by have hk' : k < w11.heap.size := hk; exact ⟨by omega, fun e => by injection e; omega⟩)
      have hT017 := hK17 hT015
      have hT117 := hK17 hT115
      have hz17 := hg17.size
      clear hw17 hg17 hTb hDb hN15 hX15 hLx15 hB15 hK17 hT015 hT115 s0 s1 t0_ t1_ ft0 ft1
      obtain ⟨s0, s1⟩ := hN17.cell2
      have HD17 := keep hD17
      have hDl := hD17.lt
      go_upto_region 18 with (refine wpList_appendBb elB rfl _ _ rfl w17.heap.size (.slice none 0 0) [] rfl (OwnB.nil _ _) (lt w11.heap.size) _ (encB m1) rfl hT117 (by have := hFm.len; simp; omega) (Nat.le_refl _) ?_; intro v18 w18 hown18 hb18 hg18; rw [List.nil_append] at hown18; obtain ⟨A7, c7, rfl, hc7, hownA⟩ := hown18.form; have hD18 := HD17.out.below hb18 hDl; have d18 := hD18.cell2.2; have fd18 := hD18.frozen 1)
      obtain ⟨w19, hw19⟩ : ∃ w19, w19 = w18.setCell ⟨gD, 1, none⟩ (.slice A7 (encB m1).length c7) := ⟨_, rfl⟩
      rw [← hw19]
      have hg19 : w18.grownBy w19 (some gD) := by rw [hw19]; exact grownBy_set (World.grownBy.refl _ _) _ _
      have hown19 : OwnB w19 w17.heap.size (.slice A7 (encB m1).length c7) (encB m1) := by rw [hw19]; exact hownA.setCell (p := ⟨gD, 1, none⟩) hDl _
      have hD19 : Blk w19 gD 58 #[.slice T0 (encB old).length b0_, .slice A7 (encB m1).length c7] := by rw [hw19]; exact hD18.set_ 1 _
      have hz18 := hb18.size
      have hT19 := (hT17.below hb18 hT17.lt).grown hg19 (fun e => by injection e; omega)
      have hlX17 := hX17.lt
      have hX19 := (hX17.below hb18 hlX17).grown hg19 (fun e => by injection e; omega)
      have hLx18 : Lies w18 (lt w14.heap.size) m1 (.slice X1 m1.segs.length x1) (.slice X2 m1.marks.length x2) (.slice X3 m1.tals.length x3) (.slice X4 m1.exps.length x4) := ⟨hLx17.s.under hb18 (fun k hk => by have hk' : k < w14.heap.size := hk; omega), hLx17.m_.under hb18 (fun k hk => by have hk' : k < w14.heap.size := hk; omega), hLx17.t.under hb18 (fun k hk => by have hk' : k < w14.heap.size := hk; omega), hLx17.e.under hb18 (fun k hk => by have hk' : k < w14.heap.size := hk; omega)⟩
      have hLx19 := hLx18.kept hg19 (fun k hk => by have hk' : k < w14.heap.size := hk; exact ⟨by omega, fun e => by injection e; omega⟩)
      have hB18 := hB17.trans (hb18.mono (by omega))
      have hB19 := below_grown hB18 hg19 (by omega) (by omega)
      have hK19 : ∀ {v l}, BSl w17 (lt w11.heap.size) v l → BSl w19 (lt w11.heap.size) v l := fun h => Sl.grown (Sl.below h hb18 (by omega)) hg19 (fun k hk => by have hk' : k < w11.heap.size := hk; exact ⟨by omega, fun e => by injection e; omega⟩)
      have hT019 := hK19 hT017
      have hT119 := hK19 hT117
      have hz19 := hg19.size
      clear hw19 hg19 hown18 hb18 hg18 hownA hD18 hT17 hX17 hLx17 hLx18 hB17 hB18 hK19 hT017 hT117 d18 fd18 s0 s1 hN17 HD17 hD17
      obtain ⟨g7, rfl, hg7b, hg7l, _, hcell, hfz, hownS⟩ := hown19.setAt hi ((encB m1)[i] ^^^ z)
      have hx8 := xor_u8 (encB m1)[i] z
      have hne8 := xor_ne (encB m1)[i] z hz0
      have HSET := keep (fun (m' : Man) (er : Int) (hD : Decd ((encB m1).set i ((encB m1)[i] ^^^ z)) m' er) => decd_set hi hne8 hD)
      simp only [ub] at hcell hownS
      obtain ⟨O, hO⟩ : ∃ O, O = (encB m1).set i ((encB m1)[i] ^^^ z) := ⟨_, rfl⟩
      rw [← hO] at hownS HSET
      have hOl : O.length = (encB m1).length := by rw [hO, List.length_set]
      have HOL := keep (show O.length ≤ 1000000 by have := hFm.len; omega)
      clear hO hOl hown19 hne8
      generalize (encB m1)[i] ^^^ z = zz_ at *
      generalize (encB m1)[i] = e0 at *
      rw [← hz] at hx8
      first | rw [if_pos hy1] at hx8 | rw [if_neg (Int.not_lt.2 hy1)] at hx8
      obtain ⟨d0_, d1_⟩ := hD19.cell2
      go_upto_region 19 with fail
      obtain ⟨w20, hw20⟩ : ∃ w20, w20 = w19.setCell ⟨g7, i, none⟩ (.int .u8 (zz_.toNat : Int)) := ⟨_, rfl⟩
      rw [← hw20] at hownS ⊢
      have hg20 : w19.grownBy w20 (some g7) := by rw [hw20]; exact grownBy_set (World.grownBy.refl _ _) _ _
      have hT20 := hT19.grown hg20 (fun e => by injection e; omega)
      have hD20 := hD19.grown hg20 (fun e => by injection e; omega)
      have hX20 := hX19.grown hg20 (fun e => by injection e; omega)
      have hLx20 := hLx19.kept hg20 (fun k hk => by have hk' : k < w14.heap.size := hk; exact ⟨by omega, fun e => by injection e; omega⟩)
      have hB20 := below_grown hB19 hg20 (by omega) (by omega)
      have hK20 : ∀ {v l}, BSl w19 (lt w11.heap.size) v l → BSl w20 (lt w11.heap.size) v l := fun h => Sl.grown h hg20 (fun k hk => by have hk' : k < w11.heap.size := hk; exact ⟨by omega, fun e => by injection e; omega⟩)
      have hT020 := hK20 hT019
      have hT120 := hK20 hT119
      have hz20 := hg20.size
      have hO20 : BSl w20 (lt w20.heap.size) (.slice (some ⟨g7, 0, none⟩) (encB m1).length c7) O := hownS.slt
      have hTk : BSl w20 (lt w11.heap.size) (.slice T1 i b1_) ((encB m1).take i) := by
        have h' : Sl w20 (lt w11.heap.size) 1 (.slice T1 (encB m1).length b1_) (encB m1).length ((encB m1).map ub) := hT120
        have := h'.take (k := i) (by omega)
        unfold BSl
        rw [Nat.mul_one] at this
        rwa [List.map_take, show ((encB m1).take i).length = i by simp; omega]
      have HTORN := keep (fun (m' : Man) (er : Int) (hD : Decd ((encB m1).take i) m' er) => hFm.torn hi hD)
      have hlenT : Hid (((encB m1).take i).length ≤ 1000000) := keep (by rw [List.length_take]; have := hFm.len; omega)
      clear hw20 hg20 hT19 hD19 hX19 hLx19 hB19 hK20 hT019 hT119 hownS hcell hfz hx8 d0_ d1_ hi0 r0 hi
      obtain ⟨t0_, t1_⟩ := hT20.cell2
      go_wp2_with fail
      refine (recover_any _ _ (encB old) ((encB m1).take i) w20 (Sl.more (hT020) (by omega)) (Sl.more (hTk) (by omega)) (hlen0.out) (hlenT.out)).mono ?_
      rintro e w21 ⟨ma, ea, mb, eb, vS, vM, vT, vE, hDa, hDb, rfl, hLy, hb21⟩
      have hrec : rec2 ma ea mb eb = (old, true) := by
        obtain ⟨r1, r2⟩ := hFo.decd hDa
        have r3 := HTORN.out _ _ hDb
        rw [r1, r2]
        unfold rec2
        rw [if_pos ⟨rfl, .inl r3⟩]
      rw [hrec] at hLy ⊢
      simp only at hLy ⊢
      obtain ⟨Y1, y1, Y2, y2, Y3, y3, Y4, y4, rfl, rfl, rfl, rfl⟩ := man_form hLy
      clear hDa hDb hrec t0_ t1_
      go_upto_region 20 with fail
      obtain ⟨gY, hgY⟩ : ∃ gY, gY = w21.heap.size := ⟨_, rfl⟩
      obtain ⟨w22, hw22⟩ : ∃ w22, w22 = w21.alloc (.cells #[.int .i64 old.nu, .int .i64 old.nx, .int .i64 old.jo, .slice Y1 old.segs.length y1, .slice Y2 old.marks.length y2, .slice Y3 old.tals.length y3, .slice Y4 old.exps.length y4] 28) := ⟨_, rfl⟩
      rw [← hw22, ← hgY]
      have hb22 : Below w21.heap.size w21 w22 := by rw [hw22]; exact (Below.refl _ _).alloc (Nat.le_refl _) _
      have hY22 : Blk w22 gY 28 #[.int .i64 old.nu, .int .i64 old.nx, .int .i64 old.jo, .slice Y1 old.segs.length y1, .slice Y2 old.marks.length y2, .slice Y3 old.tals.length y3, .slice Y4 old.exps.length y4] := by rw [hw22, hgY]; exact Blk.new _ _ _
      have hLy22 : Lies w22 (lt w22.heap.size) old (.slice Y1 old.segs.length y1) (.slice Y2 old.marks.length y2) (.slice Y3 old.tals.length y3) (.slice Y4 old.exps.length y4) := (hLy.mono (fun k hk => hk.2) : Lies w21 (lt w21.heap.size) old _ _ _ _).below hb22
      have hb2022 := bchain hb21 hb22
      have hz22 := hb2022.size
      have hD22 := hD20.below hb2022 hD20.lt
      have hX22 := hX20.below hb2022 hX20.lt
      have hLx22 : Lies w22 (lt w22.heap.size) m1 (.slice X1 m1.segs.length x1) (.slice X2 m1.marks.length x2) (.slice X3 m1.tals.length x3) (.slice X4 m1.exps.length x4) := (hLx20.mono (fun k hk => by have hk' : k < w14.heap.size := hk; show k < w20.heap.size; omega) : Lies w20 (lt w20.heap.size) m1 _ _ _ _).below hb2022
      have hB22 := hB20.trans (hb2022.mono (by omega))
      have hO22 : BSl w22 (lt w22.heap.size) (.slice (some ⟨g7, 0, none⟩) (encB m1).length c7) O := Sl.more (Sl.below hO20 hb2022 (Nat.le_refl _)) hz22
      have hT022 : BSl w22 (lt w22.heap.size) (.slice T0 (encB old).length b0_) (encB old) := Sl.more (Sl.below hT020 hb2022 (by omega)) (by omega)
      have hT122 : BSl w22 (lt w22.heap.size) (.slice T1 (encB m1).length b1_) (encB m1) := Sl.more (Sl.below hT120 hb2022 (by omega)) (by omega)
      clear hw22 hgY hb22 hLy hb21 hD20 hX20 hLx20 hB20 hO20 hT020 hT120 hTk hT20 hb2022
      obtain ⟨d0_, d1_⟩ := hD22.cell2
      go_wp2_with fail
      refine (recover_any _ _ (encB old) (O) w22 hT022 hO22 (hlen0.out) (HOL.out)).mono ?_
      rintro e w23 ⟨ma, ea, mb, eb, vS, vM, vT, vE, hDa, hDb, rfl, hLz, hb23⟩
      have hrec : rec2 ma ea mb eb = (old, true) := by
        obtain ⟨r1, r2⟩ := hFo.decd hDa
        have r3 := HSET.out _ _ hDb
        rw [r1, r2]
        unfold rec2
        rw [if_pos ⟨rfl, .inl r3⟩]
      rw [hrec] at hLz ⊢
      simp only at hLz ⊢
      obtain ⟨Z1, k1, Z2, k2, Z3, k3, Z4, k4, rfl, rfl, rfl, rfl⟩ := man_form hLz
      clear hDa hDb hrec d0_ d1_
      go_upto_region 21 with fail
      obtain ⟨gZ, hgZ⟩ : ∃ gZ, gZ = w23.heap.size := ⟨_, rfl⟩
      obtain ⟨w24, hw24⟩ : ∃ w24, w24 = w23.alloc (.cells #[.int .i64 old.nu, .int .i64 old.nx, .int .i64 old.jo, .slice Z1 old.segs.length k1, .slice Z2 old.marks.length k2, .slice Z3 old.tals.length k3, .slice Z4 old.exps.length k4] 28) := ⟨_, rfl⟩
      rw [← hw24, ← hgZ]
      have hb24 : Below w23.heap.size w23 w24 := by rw [hw24]; exact (Below.refl _ _).alloc (Nat.le_refl _) _
      have hZ24 : Blk w24 gZ 28 #[.int .i64 old.nu, .int .i64 old.nx, .int .i64 old.jo, .slice Z1 old.segs.length k1, .slice Z2 old.marks.length k2, .slice Z3 old.tals.length k3, .slice Z4 old.exps.length k4] := by rw [hw24, hgZ]; exact Blk.new _ _ _
      have hLz24 : Lies w24 (lt w24.heap.size) old (.slice Z1 old.segs.length k1) (.slice Z2 old.marks.length k2) (.slice Z3 old.tals.length k3) (.slice Z4 old.exps.length k4) := (hLz.mono (fun k hk => hk.2) : Lies w23 (lt w23.heap.size) old _ _ _ _).below hb24
      have hb2224 := bchain hb23 hb24
      have hX24 := hX22.below hb2224 hX22.lt
      have hY24 := hY22.below hb2224 hY22.lt
      have hLx24 := hLx22.below hb2224
      have hLy24 := hLy22.below hb2224
      have hB24 := hB22.trans (hb2224.mono (by omega))
      have hM24 := hM11.below hB24 hM11.lt
      have hO24 := hO11.below hB24 hO11.lt
      have hLo24 := hL11.below hB24
      have hLm24 := hm11.below hB24
      have hbw24 := bchain hbw11 hB24
      clear hw24 hgZ hb24 hLz hb23 hX22 hY22 hLx22 hLy22 hB22 hb2224 hM11 hO11 hL11 hm11 hB24 hbw11 hD22 hO22 hT022 hT122 hEl hEg
      obtain ⟨x0_, x1_, x2_, x3_, x4_, x5_, x6_⟩ := hX24.cell7
      obtain ⟨m0_, m1_, m2_, m3_, m4_, m5_, m6_⟩ := hM24.cell7
      go_wp2_with fail
      refine ((by have h := same_refl m1 _ _ _ _ _ _ _ _ w24 hLx24 hLm24 hFm.smallP.small; have hc : manCells m1 (.slice E1 m.segs.length f1) (.slice E2 m.marks.length f2) (.slice E3 m.tals.length f3) (.slice E4 m.exps.length f4) = #[.int .i64 (old.nu + 1), .int .i64 m.nx, .int .i64 m.jo, .slice E1 m.segs.length f1, .slice E2 m.marks.length f2, .slice E3 m.tals.length f3, .slice E4 m.exps.length f4] := (by rw [HM1.out]; first | done | rfl); rw [hc] at h; exact h) : Calls Try.prog 26 #[.agg #[.int .i64 m1.nu, .int .i64 m1.nx, .int .i64 m1.jo, .slice X1 m1.segs.length x1, .slice X2 m1.marks.length x2, .slice X3 m1.tals.length x3, .slice X4 m1.exps.length x4], .agg #[.int .i64 (old.nu + 1), .int .i64 m.nx, .int .i64 m.jo, .slice E1 m.segs.length f1, .slice E2 m.marks.length f2, .slice E3 m.tals.length f3, .slice E4 m.exps.length f4]] w24 (fun e w' => e = .returned (.bool true) ∧ Below w24.heap.size w24 w')).mono ?_
      rintro e w25 ⟨rfl, hb25⟩
      have hY25 := hY24.below hb25 hY24.lt
      have hZ25 := hZ24.below hb25 hZ24.lt
      have hO25 := hO24.below hb25 hO24.lt
      have hLy25 := hLy24.below hb25
      have hLz25 := hLz24.below hb25
      have hLo25 := hLo24.below hb25
      have hbw25 := bchain hbw24 hb25
      clear hX24 hM24 hY24 hZ24 hO24 hLx24 hLm24 hLy24 hLz24 hLo24 hbw24 hb25 x0_ x1_ x2_ x3_ x4_ x5_ x6_ m0_ m1_ m2_ m3_ m4_ m5_ m6_
      obtain ⟨y0_, y1_, y2_, y3_, y4_, y5_, y6_⟩ := hY25.cell7
      obtain ⟨o0_, o1_, o2_, o3_, o4_, o5_, o6_⟩ := hO25.cell7
      go_wp2_with fail
      refine (same_refl old _ _ _ _ _ _ _ _ w25 hLy25 hLo25 hFo.smallP.small).mono ?_
      rintro e w26 ⟨rfl, hb26⟩
      have hZ26 := hZ25.below hb26 hZ25.lt
      have hO26 := hO25.below hb26 hO25.lt
      have hLz26 := hLz25.below hb26
      have hLo26 := hLo25.below hb26
      have hbw26 := bchain hbw25 hb26
      clear hY25 hZ25 hO25 hLy25 hLz25 hLo25 hbw25 hb26 y0_ y1_ y2_ y3_ y4_ y5_ y6_ o0_ o1_ o2_ o3_ o4_ o5_ o6_
      obtain ⟨z0_, z1_, z2_, z3_, z4_, z5_, z6_⟩ := hZ26.cell7
      obtain ⟨o0_, o1_, o2_, o3_, o4_, o5_, o6_⟩ := hO26.cell7
      go_wp2_with fail
      refine (same_refl old _ _ _ _ _ _ _ _ w26 hLz26 hLo26 hFo.smallP.small).mono ?_
      rintro e w27 ⟨rfl, hb27⟩
      have hbw27 := bchain hbw26 hb27
      clear hZ26 hO26 hLz26 hLo26 hbw26 hb27 z0_ z1_ z2_ z3_ z4_ z5_ z6_ o0_ o1_ o2_ o3_ o4_ o5_ o6_
      go_wp2_with fail
      go_ret
      exact ⟨rfl, hbw27⟩
    · obtain ⟨gO, hgO⟩ : ∃ gO, gO = w3.heap.size := ⟨_, rfl⟩
      obtain ⟨gS, hgS⟩ : ∃ gS, gS = gO + 1 := ⟨_, rfl⟩
      have hgS' : gO + 1 = gS := hgS.symm
      obtain ⟨w5, hw5⟩ : ∃ w5, w5 = (w3.alloc (.cells #[.int .i64 old.nu, .int .i64 old.nx, .int .i64 old.jo, .slice A1 old.segs.length c1, .slice A2 old.marks.length c2, .slice A3 old.tals.length c3, .slice A4 old.exps.length c4] 28)).alloc (.cells #[.slice none 0 0, .slice none 0 0] 58) := ⟨_, rfl⟩
      rw [← hw5, ← hgO]
      simp only [hgS']
      have hb5 : Below w3.heap.size w3 w5 := by rw [hw5]; exact ((Below.refl _ _).alloc (Nat.le_refl _) _).alloc (by simp) _
      have hO5 : Blk w5 gO 28 #[.int .i64 old.nu, .int .i64 old.nx, .int .i64 old.jo, .slice A1 old.segs.length c1, .slice A2 old.marks.length c2, .slice A3 old.tals.length c3, .slice A4 old.exps.length c4] := by rw [hw5, hgO]; exact (Blk.new _ _ _).alloc _
      have hS5 : Blk w5 gS 58 #[.slice none 0 0, .slice none 0 0] := by
        rw [hw5, hgS, hgO]
        have := Blk.new (w3.alloc (.cells #[.int .i64 old.nu, .int .i64 old.nx, .int .i64 old.jo, .slice A1 old.segs.length c1, .slice A2 old.marks.length c2, .slice A3 old.tals.length c3, .slice A4 old.exps.length c4] 28)) 58 #[.slice none 0 0, .slice none 0 0]
        simpa using this
      have hC5 := hC3.under hb5 hC3.lt_
      have hgcO : gc < gO := by have := hC3.lt_; omega
      have hL5 : Lies w5 (btw (gc + 1) gO) old (.slice A1 old.segs.length c1) (.slice A2 old.marks.length c2) (.slice A3 old.tals.length c3) (.slice A4 old.exps.length c4) := by rw [hgO]; exact ⟨hL3.s.under hb5 (fun _ hk => hk.2), hL3.m_.under hb5 (fun _ hk => hk.2), hL3.t.under hb5 (fun _ hk => hk.2), hL3.e.under hb5 (fun _ hk => hk.2)⟩
      have hbw5 := bchain hbw3 hb5
      have hgOS : gO < gS := by omega
      clear hw5 hgO hgS hgS' hb5 hC3 hL3 hbw3
      obtain ⟨o0, o1, o2, o3, o4, o5, o6⟩ := hO5.cell7
      obtain ⟨s0, s1⟩ := hS5.cell2
      have hlO := hO5.lt
      have hlS := hS5.lt
      go_wp2_with fail
      refine (write_anyS _ _ [] [] old _ _ _ _ w5 (fun _ => False) (fun _ h => h.elim) (Sl.nil _ _ _ _ _) (Sl.nil _ _ _ _ _) (hL5.mono (fun _ hk => by have := hk.2; show _ < w5.heap.size; omega)) hFo.smallP.small hFo.smallP.len).mono ?_
      rintro e w6 ⟨u0, u1, rfl, hu0, hu1, hb6⟩
      rw [hFo.e]
      rw [slot_odd hFo.e hp] at hu0 hu1
      obtain ⟨U0, p0, q0, rfl⟩ : ∃ A n c, u0 = .slice A n c := by obtain ⟨A, c, h, _⟩ := Sl.form hu0; exact ⟨A, _, c, h⟩
      obtain ⟨U1, p1, q1, rfl⟩ : ∃ A n c, u1 = .slice A n c := by obtain ⟨A, c, h, _⟩ := Sl.form hu1; exact ⟨A, _, c, h⟩
      obtain ⟨D0, hD0⟩ : ∃ D0, D0 = w5.heap.size := ⟨_, rfl⟩
      obtain ⟨D1, hD1⟩ : ∃ D1, D1 = w6.heap.size := ⟨_, rfl⟩
      have hu0' : BSl w6 (btw D0 D1) (.slice U0 p0 q0) ([]) := Sl.mono hu0 (fun k hk => hk.elim (fun h => h.elim) (fun h => by rw [hD0, hD1]; exact h))
      have hu1' : BSl w6 (btw D0 D1) (.slice U1 p1 q1) (encB old) := Sl.mono hu1 (fun k hk => hk.elim (fun h => h.elim) (fun h => by rw [hD0, hD1]; exact h))
      have hO6 := hO5.below hb6 hO5.lt
      have hS6 := hS5.below hb6 hS5.lt
      have hC6 := hC5.under hb6 hC5.lt_
      have hL6 : Lies w6 (btw (gc + 1) gO) old (.slice A1 old.segs.length c1) (.slice A2 old.marks.length c2) (.slice A3 old.tals.length c3) (.slice A4 old.exps.length c4) := ⟨hL5.s.under hb6 (fun _ hk => by have := hk.2; omega), hL5.m_.under hb6 (fun _ hk => by have := hk.2; omega), hL5.t.under hb6 (fun _ hk => by have := hk.2; omega), hL5.e.under hb6 (fun _ hk => by have := hk.2; omega)⟩
      have hbw6 := bchain hbw5 hb6
      have hz56 := hb6.size
      have hSD : gS < D0 := by omega
      clear hb6 hO5 hS5 hC5 hL5 hbw5 hu0 hu1 o0 o1 o2 o3 o4 o5 o6 s0 s1 hlO hlS
      obtain ⟨s0, s1⟩ := hS6.cell2
      have fs0 := hS6.frozen 0
      have fs1 := hS6.frozen 1
      go_upto_region 7 with fail
      obtain ⟨w7, hw7⟩ : ∃ w7, w7 = (w6.setCell ⟨gS, 0, none⟩ (.slice U0 p0 q0)).setCell ⟨gS, 1, none⟩ (.slice U1 p1 q1) := ⟨_, rfl⟩
      rw [← hw7]
      have hg7 : w6.grownBy w7 (some gS) := by rw [hw7]; exact grownBy_set (grownBy_set (World.grownBy.refl _ _) _ _) _ _
      have hS7 : Blk w7 gS 58 #[.slice U0 p0 q0, .slice U1 p1 q1] := by rw [hw7]; exact (hS6.set_ 0 _).set_ 1 _
      have hO7 := hO6.grown hg7 (fun e => by injection e; omega)
      have hC7 := hC6.grown hg7 (by omega)
      have hu07 : BSl w7 (btw D0 D1) (.slice U0 p0 q0) ([]) := Sl.grown hu0' hg7 (fun k hk => ⟨by have := hk.2; omega, fun e => by injection e; have := hk.1; omega⟩)
      have hu17 : BSl w7 (btw D0 D1) (.slice U1 p1 q1) (encB old) := Sl.grown hu1' hg7 (fun k hk => ⟨by have := hk.2; omega, fun e => by injection e; have := hk.1; omega⟩)
      have hlO6 := hO6.lt
      have hL7 := hL6.kept hg7 (fun k hk => ⟨by have := hk.2; omega, fun e => by injection e; have := hk.2; omega⟩)
      have hbw7 := below_grown hbw6 hg7 hbw6.size (by omega)
      have hz7 := hg7.size
      clear hw7 hg7 hS6 hO6 hC6 hu0' hu1' hL6 hbw6 s0 s1 fs0 fs1 hlO6
      go_wp2_with fail
      refine (drawManifest gc _ hC7).mono ?_
      rintro e w8 ⟨m, mS, mM, mT, mE, rfl, hLm, hGm, hC8, hg8⟩
      obtain ⟨E1, f1, E2, f2, E3, f3, E4, f4, rfl, rfl, rfl, rfl⟩ := man_form hLm
      have hFm : Fit (renum m (old.nu + 1)) := hGm.fit.renum (by omega) (by omega)
      have hS8 := hS7.grown hg8 (fun e => by injection e; omega)
      have hO8 := hO7.grown hg8 (fun e => by injection e; omega)
      have hu08 : BSl w8 (btw D0 D1) (.slice U0 p0 q0) ([]) := Sl.grown hu07 hg8 (fun k hk => ⟨by have := hk.2; omega, fun e => by injection e; have := hk.1; omega⟩)
      have hu18 : BSl w8 (btw D0 D1) (.slice U1 p1 q1) (encB old) := Sl.grown hu17 hg8 (fun k hk => ⟨by have := hk.2; omega, fun e => by injection e; have := hk.1; omega⟩)
      have hlO7 := hO7.lt
      have hL8 := hL7.kept hg8 (fun k hk => ⟨by have := hk.2; omega, fun e => by injection e; have := hk.1; omega⟩)
      have hbw8 := below_grown hbw7 hg8 hbw7.size hwg
      have hz8 := hg8.size
      clear hC7 hS7 hO7 hu07 hu17 hL7 hbw7 hg8 hGm hC8 hlO7
      go_upto_region 8 with fail
      obtain ⟨gM, hgM⟩ : ∃ gM, gM = w8.heap.size := ⟨_, rfl⟩
      obtain ⟨w9, hw9⟩ : ∃ w9, w9 = w8.alloc (.cells #[.int .i64 m.nu, .int .i64 m.nx, .int .i64 m.jo, .slice E1 m.segs.length f1, .slice E2 m.marks.length f2, .slice E3 m.tals.length f3, .slice E4 m.exps.length f4] 28) := ⟨_, rfl⟩
      rw [← hw9, ← hgM]
      have hb9 : Below w8.heap.size w8 w9 := by rw [hw9]; exact (Below.refl _ _).alloc (Nat.le_refl _) _
      have hM9 : Blk w9 gM 28 #[.int .i64 m.nu, .int .i64 m.nx, .int .i64 m.jo, .slice E1 m.segs.length f1, .slice E2 m.marks.length f2, .slice E3 m.tals.length f3, .slice E4 m.exps.length f4] := by rw [hw9, hgM]; exact Blk.new _ _ _
      have hS9 := hS8.below hb9 hS8.lt
      have hO9 := hO8.below hb9 hO8.lt
      have hu09 : BSl w9 (btw D0 D1) (.slice U0 p0 q0) ([]) := Sl.under hu08 hb9 (fun k hk => by have := hk.2; omega)
      have hu19 : BSl w9 (btw D0 D1) (.slice U1 p1 q1) (encB old) := Sl.under hu18 hb9 (fun k hk => by have := hk.2; omega)
      have hlO8 := hO8.lt
      have hL9 : Lies w9 (btw (gc + 1) gO) old (.slice A1 old.segs.length c1) (.slice A2 old.marks.length c2) (.slice A3 old.tals.length c3) (.slice A4 old.exps.length c4) := ⟨hL8.s.under hb9 (fun _ hk => by have := hk.2; omega), hL8.m_.under hb9 (fun _ hk => by have := hk.2; omega), hL8.t.under hb9 (fun _ hk => by have := hk.2; omega), hL8.e.under hb9 (fun _ hk => by have := hk.2; omega)⟩
      have hm9 : Lies w9 (btw w7.heap.size gM) m (.slice E1 m.segs.length f1) (.slice E2 m.marks.length f2) (.slice E3 m.tals.length f3) (.slice E4 m.exps.length f4) := by rw [hgM]; exact ⟨hLm.s.under hb9 (fun _ hk => hk.2), hLm.m_.under hb9 (fun _ hk => hk.2), hLm.t.under hb9 (fun _ hk => hk.2), hLm.e.under hb9 (fun _ hk => hk.2)⟩
      have hbw9 := bchain hbw8 hb9
      have hz9 := hb9.size
      have hOM : gO < gM := by omega
      have hSM : gS < gM := by omega
      have hD1M : D1 ≤ gM := by omega
      have h7M : w7.heap.size ≤ gM := by omega
      clear hw9 hgM hb9 hS8 hO8 hu08 hu18 hL8 hLm hbw8 hlO8
      have o0 := hO9.cell7.1
      have m0 := hM9.cell7.1
      have fm0 := hM9.frozen 0
      have hnu1 : (old.nu : Int) ≤ 8 := ho1
      go_upto_region 9 with fail
      obtain ⟨w10, hw10⟩ : ∃ w10, w10 = w9.setCell ⟨gM, 0, none⟩ (.int .i64 (old.nu + 1)) := ⟨_, rfl⟩
      rw [← hw10]
      have hg10 : w9.grownBy w10 (some gM) := by rw [hw10]; exact grownBy_set (World.grownBy.refl _ _) _ _
      obtain ⟨m1, hm1⟩ : ∃ m1, m1 = renum m (old.nu + 1) := ⟨_, rfl⟩
      have hM10 : Blk w10 gM 28 #[.int .i64 (old.nu + 1), .int .i64 m.nx, .int .i64 m.jo, .slice E1 m.segs.length f1, .slice E2 m.marks.length f2, .slice E3 m.tals.length f3, .slice E4 m.exps.length f4] := by rw [hw10]; exact hM9.set_ 0 _
      have hS10 := hS9.grown hg10 (fun e => by injection e; omega)
      have hO10 := hO9.grown hg10 (fun e => by injection e; omega)
      have hlM9 := hM9.lt
      have hu010 : BSl w10 (btw D0 D1) (.slice U0 p0 q0) ([]) := Sl.grown hu09 hg10 (fun k hk => ⟨by have := hk.2; omega, fun e => by injection e; have := hk.2; omega⟩)
      have hu110 : BSl w10 (btw D0 D1) (.slice U1 p1 q1) (encB old) := Sl.grown hu19 hg10 (fun k hk => ⟨by have := hk.2; omega, fun e => by injection e; have := hk.2; omega⟩)
      have hL10 := hL9.kept hg10 (fun k hk => ⟨by have := hk.2; omega, fun e => by injection e; have := hk.2; omega⟩)
      have hm10' := hm9.kept hg10 (fun k hk => ⟨by have := hk.2; omega, fun e => by injection e; have := hk.2; omega⟩)
      have hm10 : Lies w10 (btw w7.heap.size gM) m1 (.slice E1 m.segs.length f1) (.slice E2 m.marks.length f2) (.slice E3 m.tals.length f3) (.slice E4 m.exps.length f4) := by rw [hm1]; exact ⟨hm10'.s, hm10'.m_, hm10'.t, hm10'.e⟩
      have hbw10 := below_grown hbw9 hg10 hbw9.size (by omega)
      have hz10 := hg10.size
      rw [← hm1] at hFm
      have hnu : m1.nu = old.nu + 1 := by rw [hm1]; rfl
      have HNU := keep hnu
      have HM1 := keep hm1
      clear hw10 hg10 hM9 hS9 hO9 hu09 hu19 hL9 hm9 hm10' hbw9 o0 m0 fm0 hnu hm1
      obtain ⟨m0, m1_, m2, m3, m4, m5, m6⟩ := hM10.cell7
      obtain ⟨s0, s1⟩ := hS10.cell2
      have hlM := hM10.lt
      have hq : m1.nu % 2 = 0 := by rw [HNU.out]; omega
      go_wp2_with fail
      refine ((by have h := write_any _ _ ([]) (encB old) m1 _ _ _ _ w10 (Sl.mono hu010 (fun k hk => by have := hk.2; show k < w10.heap.size; omega)) (Sl.mono hu110 (fun k hk => by have := hk.2; show k < w10.heap.size; omega)) (hm10.mono (fun k hk => by have := hk.2; show k < w10.heap.size; omega)) hFm.smallP.small hFm.smallP.len; have hc : manCells m1 (.slice E1 m.segs.length f1) (.slice E2 m.marks.length f2) (.slice E3 m.tals.length f3) (.slice E4 m.exps.length f4) = #[.int .i64 (old.nu + 1), .int .i64 m.nx, .int .i64 m.jo, .slice E1 m.segs.length f1, .slice E2 m.marks.length f2, .slice E3 m.tals.length f3, .slice E4 m.exps.length f4] := (by rw [HM1.out]; first | done | rfl); rw [hc] at h; exact h) : Calls Try.prog 27 #[.agg #[.slice U0 p0 q0, .slice U1 p1 q1], .agg #[.int .i64 (old.nu + 1), .int .i64 m.nx, .int .i64 m.jo, .slice E1 m.segs.length f1, .slice E2 m.marks.length f2, .slice E3 m.tals.length f3, .slice E4 m.exps.length f4]] w10 (WriteRes w10 m1 ([]) (encB old))).mono ?_
      rintro e w11 ⟨t0, t1, rfl, ht0, ht1, hb11⟩
      rw [hFm.e]
      rw [slot_even hFm.e hq] at ht0 ht1
      obtain ⟨T0, b0_, rfl, hcap0, _⟩ := (show Sl w11 _ 1 t0 (encB m1).length ((encB m1).map ub) from ht0).form
      obtain ⟨T1, b1_, rfl, hcap1, _⟩ := (show Sl w11 _ 1 t1 (encB old).length ((encB old).map ub) from ht1).form
      have hlen0 : Hid ((encB m1).length ≤ 1000000) := keep (by have := hFm.len; omega)
      have hlen1 : Hid ((encB old).length ≤ 1000000) := keep (by have := hFo.len; omega)
      have hM11 := hM10.below hb11 hM10.lt
      have hO11 := hO10.below hb11 hO10.lt
      have hL11 : Lies w11 (lt w11.heap.size) old (.slice A1 old.segs.length c1) (.slice A2 old.marks.length c2) (.slice A3 old.tals.length c3) (.slice A4 old.exps.length c4) := (hL10.mono (fun k hk => by have := hk.2; show k < w10.heap.size; omega) : Lies w10 (lt w10.heap.size) old _ _ _ _).below hb11
      have hm11 : Lies w11 (lt w11.heap.size) m1 (.slice E1 m.segs.length f1) (.slice E2 m.marks.length f2) (.slice E3 m.tals.length f3) (.slice E4 m.exps.length f4) := (hm10.mono (fun k hk => by have := hk.2; show k < w10.heap.size; omega) : Lies w10 (lt w10.heap.size) m1 _ _ _ _).below hb11
      have hbw11 := bchain hbw10 hb11
      clear hb11 hM10 hO10 hL10 hm10 hbw10 hu010 hu110 hS10 s0 s1 m0 m1_ m2 m3 m4 m5 m6 hlM hq
      go_upto_region 10 with fail
      obtain ⟨gN, hgN⟩ : ∃ gN, gN = w11.heap.size := ⟨_, rfl⟩
      obtain ⟨w12, hw12⟩ : ∃ w12, w12 = w11.alloc (.cells #[.slice T0 (encB m1).length b0_, .slice T1 (encB old).length b1_] 58) := ⟨_, rfl⟩
      rw [← hw12, ← hgN]
      have hb12 : Below w11.heap.size w11 w12 := by rw [hw12]; exact (Below.refl _ _).alloc (Nat.le_refl _) _
      have hN12 : Blk w12 gN 58 #[.slice T0 (encB m1).length b0_, .slice T1 (encB old).length b1_] := by rw [hw12, hgN]; exact Blk.new _ _ _
      have hT0 : BSl w12 (lt w11.heap.size) (.slice T0 (encB m1).length b0_) (encB m1) := Sl.below ht0 hb12 (Nat.le_refl _)
      have hT1 : BSl w12 (lt w11.heap.size) (.slice T1 (encB old).length b1_) (encB old) := Sl.below ht1 hb12 (Nat.le_refl _)
      have hNw : w11.heap.size ≤ gN := by omega
      have hz12 := hb12.size
      clear hw12 hgN ht0 ht1
      have hM12 := hM11.below hb12 hM11.lt
      have m0 := hM12.cell7.1
      have hq2 : (old.nu + 1) % 2 = 0 := by omega
      have hq3 : (0 : Int) ≤ old.nu + 1 := by omega
      obtain ⟨s0, s1⟩ := hN12.cell2
      have hlN := hN12.lt
      go_wp2_with fail
      refine (recover_any _ _ (encB m1) (encB old) w12 (Sl.more hT0 hz12) (Sl.more hT1 hz12) hlen0.out hlen1.out).mono ?_
      rintro e w13 ⟨ma, ea, mb, eb, vS, vM, vT, vE, hDa, hDb, rfl, hLx, hb13⟩
      obtain ⟨r1, r2⟩ := hFm.decd hDa
      obtain ⟨r3, r4⟩ := hFo.decd hDb
      have hrec : rec2 ma ea mb eb = (m1, true) := by
        rw [r1, r2, r3, r4]
        unfold rec2
        rw [if_pos ⟨rfl, .inr (by rw [HNU.out]; omega)⟩]
      rw [hrec] at hLx ⊢
      simp only at hLx ⊢
      obtain ⟨X1, x1, X2, x2, X3, x3, X4, x4, rfl, rfl, rfl, rfl⟩ := man_form hLx
      clear hDa hDb r1 r2 r3 r4 hrec m0 hM12 s0 s1
      go_upto_region 14 with fail
      rw [hq2]
      obtain ⟨gX, hgX⟩ : ∃ gX, gX = w13.heap.size := ⟨_, rfl⟩
      obtain ⟨w14, hw14⟩ : ∃ w14, w14 = w13.alloc (.cells #[.int .i64 m1.nu, .int .i64 m1.nx, .int .i64 m1.jo, .slice X1 m1.segs.length x1, .slice X2 m1.marks.length x2, .slice X3 m1.tals.length x3, .slice X4 m1.exps.length x4] 28) := ⟨_, rfl⟩
      rw [← hw14, ← hgX]
      have hb14 : Below w13.heap.size w13 w14 := by rw [hw14]; exact (Below.refl _ _).alloc (Nat.le_refl _) _
      have hX14 : Blk w14 gX 28 #[.int .i64 m1.nu, .int .i64 m1.nx, .int .i64 m1.jo, .slice X1 m1.segs.length x1, .slice X2 m1.marks.length x2, .slice X3 m1.tals.length x3, .slice X4 m1.exps.length x4] := by rw [hw14, hgX]; exact Blk.new _ _ _
      have hLx14 : Lies w14 (lt w14.heap.size) m1 (.slice X1 m1.segs.length x1) (.slice X2 m1.marks.length x2) (.slice X3 m1.tals.length x3) (.slice X4 m1.exps.length x4) := (hLx.mono (fun k hk => hk.2) : Lies w13 (lt w13.heap.size) m1 _ _ _ _).below hb14
      have hb1214 := bchain hb13 hb14
      have hN14 := hN12.below hb1214 hN12.lt
      have hB14 := hb12.trans (hb1214.mono hb12.size)
      have hT014 : BSl w14 (lt w11.heap.size) (.slice T0 (encB m1).length b0_) (encB m1) := Sl.below hT0 hb1214 hz12
      have hT114 : BSl w14 (lt w11.heap.size) (.slice T1 (encB old).length b1_) (encB old) := Sl.below hT1 hb1214 hz12
      have hz14 := hB14.size
      clear hw14 hgX hb14 hLx hb13 hN12 hT0 hT1 hb12 hb1214
      obtain ⟨s0, s1⟩ := hN14.cell2
      have hlN14 := hN14.lt
      have hA1 : Blk ((w14.alloc (.cells #[.slice T0 (encB m1).length b0_, .slice T1 (encB old).length b1_] 58)).alloc (.cells #[.slice T0 (encB m1).length b0_, .slice T1 (encB old).length b1_] 58)).drew w14.heap.size 58 #[.slice T0 (encB m1).length b0_, .slice T1 (encB old).length b1_] := (Blk.new w14 58 #[.slice T0 (encB m1).length b0_, .slice T1 (encB old).length b1_]).alloc _
      have hA2' : Blk ((w14.alloc (.cells #[.slice T0 (encB m1).length b0_, .slice T1 (encB old).length b1_] 58)).alloc (.cells #[.slice T0 (encB m1).length b0_, .slice T1 (encB old).length b1_] 58)) (w14.heap.size + 1) 58 #[.slice T0 (encB m1).length b0_, .slice T1 (encB old).length b1_] := by
        have := Blk.new (w14.alloc (.cells #[.slice T0 (encB m1).length b0_, .slice T1 (encB old).length b1_] 58)) 58 #[.slice T0 (encB m1).length b0_, .slice T1 (encB old).length b1_]
        simpa using this
      have hA2 : Blk ((w14.alloc (.cells #[.slice T0 (encB m1).length b0_, .slice T1 (encB old).length b1_] 58)).alloc (.cells #[.slice T0 (encB m1).length b0_, .slice T1 (encB old).length b1_] 58)).drew (w14.heap.size + 1) 58 #[.slice T0 (encB m1).length b0_, .slice T1 (encB old).length b1_] := hA2'
      go_cut [17, 18] (fun a b wr => ∃ gT gD, a = .pointer (some ⟨gT, 0, none⟩) ∧ b = .pointer (some ⟨gD, 0, none⟩) ∧ gT ≠ gD ∧ w14.heap.size ≤ gT ∧ w14.heap.size ≤ gD ∧ Blk wr gT 58 #[.slice T0 (encB m1).length b0_, .slice T1 (encB old).length b1_] ∧ Blk wr gD 58 #[.slice T0 (encB m1).length b0_, .slice T1 (encB old).length b1_] ∧ Below w14.heap.size w14 wr)
      case first =>
        go_region
        all_goals
          go_wp2_with fail
          go_meet
          refine ⟨_, _, rfl, rfl, by omega, by omega, by omega, ?_, ?_, ?_⟩
          · first | exact hA1 | exact hA2
          · first | exact hA1 | exact hA2
          · exact (((Below.refl _ _).alloc (Nat.le_refl _) _).alloc (by simp) _).drew
      case rest =>
      obtain ⟨gT, gD, rfl, rfl, hTD, hTw, hDw, hTb, hDb, hbc⟩ := hcut
      obtain ⟨w15, rfl⟩ : ∃ w15 : World, w15 = wc := ⟨_, rfl⟩
      have hN15 := hN14.below hbc hN14.lt
      have hX15 := hX14.below hbc hX14.lt
      have hLx15 : Lies w15 (lt w14.heap.size) m1 (.slice X1 m1.segs.length x1) (.slice X2 m1.marks.length x2) (.slice X3 m1.tals.length x3) (.slice X4 m1.exps.length x4) := ⟨hLx14.s.under hbc (fun _ h => h), hLx14.m_.under hbc (fun _ h => h), hLx14.t.under hbc (fun _ h => h), hLx14.e.under hbc (fun _ h => h)⟩
      have hB15 := hB14.trans (hbc.mono hz14)
      have hT015 : BSl w15 (lt w11.heap.size) (.slice T0 (encB m1).length b0_) (encB m1) := Sl.below hT014 hbc hz14
      have hT115 : BSl w15 (lt w11.heap.size) (.slice T1 (encB old).length b1_) (encB old) := Sl.below hT114 hbc hz14
      have hz15 := hbc.size
      have hlX := hX14.lt
      clear hN14 hX14 hLx14 hB14 hT014 hT114 hbc s0 s1
      have hEl : ((encB m1).length : Int) ≤ 100000 := by have := hFm.len; omega
      have hEg : 1 ≤ ((encB m1).length : Int) := by have := encB_ge m1; omega
      obtain ⟨s0, s1⟩ := hN15.cell2
      go_upto_region 15 with fail
      go_wp2_with fail
      refine (drawMod x ((encB m1).length : Int) w15 (by omega)).mono ?_
      rintro e w16 ⟨r, rfl, r0, r1, rfl⟩
      have hi0 := r1 hEg
      clear r1
      obtain ⟨i, rfl⟩ := Int.eq_ofNat_of_zero_le r0
      have hi : i < (encB m1).length := by omega
      have hcapq : (i : Int) ≤ (b0_ : Int) := by omega
      obtain ⟨t0_, t1_⟩ := hTb.cell2
      have ft0 := hTb.frozen 0
      have ft1 := hTb.frozen 1
      have hlT := hTb.lt
      have hlD := hDb.lt
      go_upto_region 17 with fail
      obtain ⟨w17, hw17⟩ : ∃ w17, w17 = w15.setCell ⟨gT, 0, none⟩ (.slice T0 i b0_) := ⟨_, rfl⟩
      rw [← hw17]
      have hg17 : w15.grownBy w17 (some gT) := by rw [hw17]; exact grownBy_set (World.grownBy.refl _ _) _ _
      have hT17 : Blk w17 gT 58 #[.slice T0 i b0_, .slice T1 (encB old).length b1_] := by rw [hw17]; exact hTb.set_ 0 _
      have hD17 := hDb.grown hg17 (fun e => by injection e; omega)
      have hN17 := hN15.grown hg17 (fun e => by injection e; omega)
      have hX17 := hX15.grown hg17 (fun e => by injection e; omega)
      have hLx17 := hLx15.kept hg17 (fun k hk => by have hk' : k < w14.heap.size := hk; exact ⟨by omega, fun e => by injection e; omega⟩)
      have hB17 := below_grown hB15 hg17 (by omega) (by omega)
      have hK17 : ∀ {v l}, BSl w15 (lt w11.heap.size) v l → BSl w17 (lt w11.heap.size) v l := fun h => Sl.grown h hg17 (fun k hk => by have hk' : k < w11.heap.size := hk; exact ⟨by omega, fun e => by injection e; omega⟩)
      have hT017 := hK17 hT015
      have hT117 := hK17 hT115
      have hz17 := hg17.size
      clear hw17 hg17 hTb hDb hN15 hX15 hLx15 hB15 hK17 hT015 hT115 s0 s1 t0_ t1_ ft0 ft1
      obtain ⟨s0, s1⟩ := hN17.cell2
      have HD17 := keep hD17
      have hDl := hD17.lt
      go_upto_region 18 with (refine wpList_appendBb elB rfl _ _ rfl w17.heap.size (.slice none 0 0) [] rfl (OwnB.nil _ _) (lt w11.heap.size) _ (encB m1) rfl hT017 (by have := hFm.len; simp; omega) (Nat.le_refl _) ?_; intro v18 w18 hown18 hb18 hg18; rw [List.nil_append] at hown18; obtain ⟨A7, c7, rfl, hc7, hownA⟩ := hown18.form; have hD18 := HD17.out.below hb18 hDl; have d18 := hD18.cell2.1; have fd18 := hD18.frozen 0)
      obtain ⟨w19, hw19⟩ : ∃ w19, w19 = w18.setCell ⟨gD, 0, none⟩ (.slice A7 (encB m1).length c7) := ⟨_, rfl⟩
      rw [← hw19]
      have hg19 : w18.grownBy w19 (some gD) := by rw [hw19]; exact grownBy_set (World.grownBy.refl _ _) _ _
      have hown19 : OwnB w19 w17.heap.size (.slice A7 (encB m1).length c7) (encB m1) := by rw [hw19]; exact hownA.setCell (p := ⟨gD, 0, none⟩) hDl _
      have hD19 : Blk w19 gD 58 #[.slice A7 (encB m1).length c7, .slice T1 (encB old).length b1_] := by rw [hw19]; exact hD18.set_ 0 _
      have hz18 := hb18.size
      have hT19 := (hT17.below hb18 hT17.lt).grown hg19 (fun e => by injection e; omega)
      have hlX17 := hX17.lt
      have hX19 := (hX17.below hb18 hlX17).grown hg19 (fun e => by injection e; omega)
      have hLx18 : Lies w18 (lt w14.heap.size) m1 (.slice X1 m1.segs.length x1) (.slice X2 m1.marks.length x2) (.slice X3 m1.tals.length x3) (.slice X4 m1.exps.length x4) := ⟨hLx17.s.under hb18 (fun k hk => by have hk' : k < w14.heap.size := hk; omega), hLx17.m_.under hb18 (fun k hk => by have hk' : k < w14.heap.size := hk; omega), hLx17.t.under hb18 (fun k hk => by have hk' : k < w14.heap.size := hk; omega), hLx17.e.under hb18 (fun k hk => by have hk' : k < w14.heap.size := hk; omega)⟩
      have hLx19 := hLx18.kept hg19 (fun k hk => by have hk' : k < w14.heap.size := hk; exact ⟨by omega, fun e => by injection e; omega⟩)
      have hB18 := hB17.trans (hb18.mono (by omega))
      have hB19 := below_grown hB18 hg19 (by omega) (by omega)
      have hK19 : ∀ {v l}, BSl w17 (lt w11.heap.size) v l → BSl w19 (lt w11.heap.size) v l := fun h => Sl.grown (Sl.below h hb18 (by omega)) hg19 (fun k hk => by have hk' : k < w11.heap.size := hk; exact ⟨by omega, fun e => by injection e; omega⟩)
      have hT019 := hK19 hT017
      have hT119 := hK19 hT117
      have hz19 := hg19.size
      clear hw19 hg19 hown18 hb18 hg18 hownA hD18 hT17 hX17 hLx17 hLx18 hB17 hB18 hK19 hT017 hT117 d18 fd18 s0 s1 hN17 HD17 hD17
      obtain ⟨g7, rfl, hg7b, hg7l, _, hcell, hfz, hownS⟩ := hown19.setAt hi ((encB m1)[i] ^^^ z)
      have hx8 := xor_u8 (encB m1)[i] z
      have hne8 := xor_ne (encB m1)[i] z hz0
      have HSET := keep (fun (m' : Man) (er : Int) (hD : Decd ((encB m1).set i ((encB m1)[i] ^^^ z)) m' er) => decd_set hi hne8 hD)
      simp only [ub] at hcell hownS
      obtain ⟨O, hO⟩ : ∃ O, O = (encB m1).set i ((encB m1)[i] ^^^ z) := ⟨_, rfl⟩
      rw [← hO] at hownS HSET
      have hOl : O.length = (encB m1).length := by rw [hO, List.length_set]
      have HOL := keep (show O.length ≤ 1000000 by have := hFm.len; omega)
      clear hO hOl hown19 hne8
      generalize (encB m1)[i] ^^^ z = zz_ at *
      generalize (encB m1)[i] = e0 at *
      rw [← hz] at hx8
      first | rw [if_pos hy1] at hx8 | rw [if_neg (Int.not_lt.2 hy1)] at hx8
      obtain ⟨d0_, d1_⟩ := hD19.cell2
      go_upto_region 19 with fail
      obtain ⟨w20, hw20⟩ : ∃ w20, w20 = w19.setCell ⟨g7, i, none⟩ (.int .u8 (zz_.toNat : Int)) := ⟨_, rfl⟩
      rw [← hw20] at hownS ⊢
      have hg20 : w19.grownBy w20 (some g7) := by rw [hw20]; exact grownBy_set (World.grownBy.refl _ _) _ _
      have hT20 := hT19.grown hg20 (fun e => by injection e; omega)
      have hD20 := hD19.grown hg20 (fun e => by injection e; omega)
      have hX20 := hX19.grown hg20 (fun e => by injection e; omega)
      have hLx20 := hLx19.kept hg20 (fun k hk => by have hk' : k < w14.heap.size := hk; exact ⟨by omega, fun e => by injection e; omega⟩)
      have hB20 := below_grown hB19 hg20 (by omega) (by omega)
      have hK20 : ∀ {v l}, BSl w19 (lt w11.heap.size) v l → BSl w20 (lt w11.heap.size) v l := fun h => Sl.grown h hg20 (fun k hk => by have hk' : k < w11.heap.size := hk; exact ⟨by omega, fun e => by injection e; omega⟩)
      have hT020 := hK20 hT019
      have hT120 := hK20 hT119
      have hz20 := hg20.size
      have hO20 : BSl w20 (lt w20.heap.size) (.slice (some ⟨g7, 0, none⟩) (encB m1).length c7) O := hownS.slt
      have hTk : BSl w20 (lt w11.heap.size) (.slice T0 i b0_) ((encB m1).take i) := by
        have h' : Sl w20 (lt w11.heap.size) 1 (.slice T0 (encB m1).length b0_) (encB m1).length ((encB m1).map ub) := hT020
        have := h'.take (k := i) (by omega)
        unfold BSl
        rw [Nat.mul_one] at this
        rwa [List.map_take, show ((encB m1).take i).length = i by simp; omega]
      have HTORN := keep (fun (m' : Man) (er : Int) (hD : Decd ((encB m1).take i) m' er) => hFm.torn hi hD)
      have hlenT : Hid (((encB m1).take i).length ≤ 1000000) := keep (by rw [List.length_take]; have := hFm.len; omega)
      clear hw20 hg20 hT19 hD19 hX19 hLx19 hB19 hK20 hT019 hT119 hownS hcell hfz hx8 d0_ d1_ hi0 r0 hi
      obtain ⟨t0_, t1_⟩ := hT20.cell2
      go_wp2_with fail
      refine (recover_any _ _ ((encB m1).take i) (encB old) w20 (Sl.more (hTk) (by omega)) (Sl.more (hT120) (by omega)) (hlenT.out) (hlen1.out)).mono ?_
      rintro e w21 ⟨ma, ea, mb, eb, vS, vM, vT, vE, hDa, hDb, rfl, hLy, hb21⟩
      have hrec : rec2 ma ea mb eb = (old, true) := by
        obtain ⟨r1, r2⟩ := hFo.decd hDb
        have r3 := HTORN.out _ _ hDa
        rw [r1, r2]
        unfold rec2
        rw [if_neg (fun h => r3 h.1), if_pos rfl]
      rw [hrec] at hLy ⊢
      simp only at hLy ⊢
      obtain ⟨Y1, y1, Y2, y2, Y3, y3, Y4, y4, rfl, rfl, rfl, rfl⟩ := man_form hLy
      clear hDa hDb hrec t0_ t1_
      go_upto_region 20 with fail
      obtain ⟨gY, hgY⟩ : ∃ gY, gY = w21.heap.size := ⟨_, rfl⟩
      obtain ⟨w22, hw22⟩ : ∃ w22, w22 = w21.alloc (.cells #[.int .i64 old.nu, .int .i64 old.nx, .int .i64 old.jo, .slice Y1 old.segs.length y1, .slice Y2 old.marks.length y2, .slice Y3 old.tals.length y3, .slice Y4 old.exps.length y4] 28) := ⟨_, rfl⟩
      rw [← hw22, ← hgY]
      have hb22 : Below w21.heap.size w21 w22 := by rw [hw22]; exact (Below.refl _ _).alloc (Nat.le_refl _) _
      have hY22 : Blk w22 gY 28 #[.int .i64 old.nu, .int .i64 old.nx, .int .i64 old.jo, .slice Y1 old.segs.length y1, .slice Y2 old.marks.length y2, .slice Y3 old.tals.length y3, .slice Y4 old.exps.length y4] := by rw [hw22, hgY]; exact Blk.new _ _ _
      have hLy22 : Lies w22 (lt w22.heap.size) old (.slice Y1 old.segs.length y1) (.slice Y2 old.marks.length y2) (.slice Y3 old.tals.length y3) (.slice Y4 old.exps.length y4) := (hLy.mono (fun k hk => hk.2) : Lies w21 (lt w21.heap.size) old _ _ _ _).below hb22
      have hb2022 := bchain hb21 hb22
      have hz22 := hb2022.size
      have hD22 := hD20.below hb2022 hD20.lt
      have hX22 := hX20.below hb2022 hX20.lt
      have hLx22 : Lies w22 (lt w22.heap.size) m1 (.slice X1 m1.segs.length x1) (.slice X2 m1.marks.length x2) (.slice X3 m1.tals.length x3) (.slice X4 m1.exps.length x4) := (hLx20.mono (fun k hk => by have hk' : k < w14.heap.size := hk; show k < w20.heap.size; omega) : Lies w20 (lt w20.heap.size) m1 _ _ _ _).below hb2022
      have hB22 := hB20.trans (hb2022.mono (by omega))
      have hO22 : BSl w22 (lt w22.heap.size) (.slice (some ⟨g7, 0, none⟩) (encB m1).length c7) O := Sl.more (Sl.below hO20 hb2022 (Nat.le_refl _)) hz22
      have hT022 : BSl w22 (lt w22.heap.size) (.slice T0 (encB m1).length b0_) (encB m1) := Sl.more (Sl.below hT020 hb2022 (by omega)) (by omega)
      have hT122 : BSl w22 (lt w22.heap.size) (.slice T1 (encB old).length b1_) (encB old) := Sl.more (Sl.below hT120 hb2022 (by omega)) (by omega)
      clear hw22 hgY hb22 hLy hb21 hD20 hX20 hLx20 hB20 hO20 hT020 hT120 hTk hT20 hb2022
      obtain ⟨d0_, d1_⟩ := hD22.cell2
      go_wp2_with fail
      refine (recover_any _ _ (O) (encB old) w22 hO22 hT122 (HOL.out) (hlen1.out)).mono ?_
      rintro e w23 ⟨ma, ea, mb, eb, vS, vM, vT, vE, hDa, hDb, rfl, hLz, hb23⟩
      have hrec : rec2 ma ea mb eb = (old, true) := by
        obtain ⟨r1, r2⟩ := hFo.decd hDb
        have r3 := HSET.out _ _ hDa
        rw [r1, r2]
        unfold rec2
        rw [if_neg (fun h => r3 h.1), if_pos rfl]
      rw [hrec] at hLz ⊢
      simp only at hLz ⊢
      obtain ⟨Z1, k1, Z2, k2, Z3, k3, Z4, k4, rfl, rfl, rfl, rfl⟩ := man_form hLz
      clear hDa hDb hrec d0_ d1_
      go_upto_region 21 with fail
      obtain ⟨gZ, hgZ⟩ : ∃ gZ, gZ = w23.heap.size := ⟨_, rfl⟩
      obtain ⟨w24, hw24⟩ : ∃ w24, w24 = w23.alloc (.cells #[.int .i64 old.nu, .int .i64 old.nx, .int .i64 old.jo, .slice Z1 old.segs.length k1, .slice Z2 old.marks.length k2, .slice Z3 old.tals.length k3, .slice Z4 old.exps.length k4] 28) := ⟨_, rfl⟩
      rw [← hw24, ← hgZ]
      have hb24 : Below w23.heap.size w23 w24 := by rw [hw24]; exact (Below.refl _ _).alloc (Nat.le_refl _) _
      have hZ24 : Blk w24 gZ 28 #[.int .i64 old.nu, .int .i64 old.nx, .int .i64 old.jo, .slice Z1 old.segs.length k1, .slice Z2 old.marks.length k2, .slice Z3 old.tals.length k3, .slice Z4 old.exps.length k4] := by rw [hw24, hgZ]; exact Blk.new _ _ _
      have hLz24 : Lies w24 (lt w24.heap.size) old (.slice Z1 old.segs.length k1) (.slice Z2 old.marks.length k2) (.slice Z3 old.tals.length k3) (.slice Z4 old.exps.length k4) := (hLz.mono (fun k hk => hk.2) : Lies w23 (lt w23.heap.size) old _ _ _ _).below hb24
      have hb2224 := bchain hb23 hb24
      have hX24 := hX22.below hb2224 hX22.lt
      have hY24 := hY22.below hb2224 hY22.lt
      have hLx24 := hLx22.below hb2224
      have hLy24 := hLy22.below hb2224
      have hB24 := hB22.trans (hb2224.mono (by omega))
      have hM24 := hM11.below hB24 hM11.lt
      have hO24 := hO11.below hB24 hO11.lt
      have hLo24 := hL11.below hB24
      have hLm24 := hm11.below hB24
      have hbw24 := bchain hbw11 hB24
      clear hw24 hgZ hb24 hLz hb23 hX22 hY22 hLx22 hLy22 hB22 hb2224 hM11 hO11 hL11 hm11 hB24 hbw11 hD22 hO22 hT022 hT122 hEl hEg
      obtain ⟨x0_, x1_, x2_, x3_, x4_, x5_, x6_⟩ := hX24.cell7
      obtain ⟨m0_, m1_, m2_, m3_, m4_, m5_, m6_⟩ := hM24.cell7
      go_wp2_with fail
      refine ((by have h := same_refl m1 _ _ _ _ _ _ _ _ w24 hLx24 hLm24 hFm.smallP.small; have hc : manCells m1 (.slice E1 m.segs.length f1) (.slice E2 m.marks.length f2) (.slice E3 m.tals.length f3) (.slice E4 m.exps.length f4) = #[.int .i64 (old.nu + 1), .int .i64 m.nx, .int .i64 m.jo, .slice E1 m.segs.length f1, .slice E2 m.marks.length f2, .slice E3 m.tals.length f3, .slice E4 m.exps.length f4] := (by rw [HM1.out]; first | done | rfl); rw [hc] at h; exact h) : Calls Try.prog 26 #[.agg #[.int .i64 m1.nu, .int .i64 m1.nx, .int .i64 m1.jo, .slice X1 m1.segs.length x1, .slice X2 m1.marks.length x2, .slice X3 m1.tals.length x3, .slice X4 m1.exps.length x4], .agg #[.int .i64 (old.nu + 1), .int .i64 m.nx, .int .i64 m.jo, .slice E1 m.segs.length f1, .slice E2 m.marks.length f2, .slice E3 m.tals.length f3, .slice E4 m.exps.length f4]] w24 (fun e w' => e = .returned (.bool true) ∧ Below w24.heap.size w24 w')).mono ?_
      rintro e w25 ⟨rfl, hb25⟩
      have hY25 := hY24.below hb25 hY24.lt
      have hZ25 := hZ24.below hb25 hZ24.lt
      have hO25 := hO24.below hb25 hO24.lt
      have hLy25 := hLy24.below hb25
      have hLz25 := hLz24.below hb25
      have hLo25 := hLo24.below hb25
      have hbw25 := bchain hbw24 hb25
      clear hX24 hM24 hY24 hZ24 hO24 hLx24 hLm24 hLy24 hLz24 hLo24 hbw24 hb25 x0_ x1_ x2_ x3_ x4_ x5_ x6_ m0_ m1_ m2_ m3_ m4_ m5_ m6_
      obtain ⟨y0_, y1_, y2_, y3_, y4_, y5_, y6_⟩ := hY25.cell7
      obtain ⟨o0_, o1_, o2_, o3_, o4_, o5_, o6_⟩ := hO25.cell7
      go_wp2_with fail
      refine (same_refl old _ _ _ _ _ _ _ _ w25 hLy25 hLo25 hFo.smallP.small).mono ?_
      rintro e w26 ⟨rfl, hb26⟩
      have hZ26 := hZ25.below hb26 hZ25.lt
      have hO26 := hO25.below hb26 hO25.lt
      have hLz26 := hLz25.below hb26
      have hLo26 := hLo25.below hb26
      have hbw26 := bchain hbw25 hb26
      clear hY25 hZ25 hO25 hLy25 hLz25 hLo25 hbw25 hb26 y0_ y1_ y2_ y3_ y4_ y5_ y6_ o0_ o1_ o2_ o3_ o4_ o5_ o6_
      obtain ⟨z0_, z1_, z2_, z3_, z4_, z5_, z6_⟩ := hZ26.cell7
      obtain ⟨o0_, o1_, o2_, o3_, o4_, o5_, o6_⟩ := hO26.cell7
      go_wp2_with fail
      refine (same_refl old _ _ _ _ _ _ _ _ w26 hLz26 hLo26 hFo.smallP.small).mono ?_
      rintro e w27 ⟨rfl, hb27⟩
      have hbw27 := bchain hbw26 hb27
      clear hZ26 hO26 hLz26 hLo26 hbw26 hb27 z0_ z1_ z2_ z3_ z4_ z5_ z6_ o0_ o1_ o2_ o3_ o4_ o5_ o6_
      go_wp2_with fail
      go_ret
      exact ⟨rfl, hbw27⟩
theorem law_torn_int (v : Value) (bs : List Int) (x y : Int) (w : World) (hv : Sl w (lt w.heap.size) 1 v bs.length (bs.map (.int .u8))) (hr : ∀ x ∈ bs, 0 ≤ x ∧ x ≤ 255) (hm : bs.length ≤ maxLen) (hy : 0 ≤ y ∧ y ≤ 255) :
    Calls Try.prog 9 #[v, .int .i64 x, .int .u8 y] w fun e w' => e = .returned (.bool true) ∧ Below w.heap.size w w' := by
  obtain ⟨z, rfl⟩ : ∃ z : UInt8, y = (z.toNat : Int) := ⟨UInt8.ofNat y.toNat, by rw [UInt8.toNat_ofNat']; omega⟩
  exact law_torn v bs x z w hv hr hm
end Go.Proofs.Ytkjhnipjhefndaa
