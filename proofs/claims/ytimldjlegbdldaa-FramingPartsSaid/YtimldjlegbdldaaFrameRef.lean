/- The contract of the reference's Frame. -/
import Derived.Test.YtimldjlegbdldaaFrames
namespace Go.Proofs.Ytimldjlegbdldaa
open Go.RowKit

theorem frameRef_no (v : Value) (l : List UInt8) (off lim : Int) (w : World) (h : BSl w (lt w.heap.size) v l) (hk : frOk l off = false) :
    Calls Try.prog 14 #[v, .int .i64 off, .int .i64 lim] w (FrameRes w l off lim) := by
  obtain ⟨A, c, rfl, hc, h⟩ := h.forms
  have he : frEnd l off = off ∧ frSp l off = [] ∧ frL l off lim = [] := by
    have e2 : frSp l off = [] := by unfold frSp; rw [hk]; rfl
    exact ⟨by unfold frEnd; rw [hk]; rfl, e2, by unfold frL; rw [e2]; rfl⟩
  have HE := keep he
  clear he
  unfold frOk at hk
  by_cases h0 : off < 0
  · have d0 : decide (off < 0) = true := by simpa using h0
    clear hk
    go_enter Try.func14, Try.ntmps14
    go_wp2
    go_ret2
    exact ⟨.slice none 0 0, by rw [HE.out.1]; rfl, by rw [HE.out.2.1, HE.out.2.2]; exact World.ownsRow_nil _ _ _ _, Below.refl _ _⟩
  · have d0 : decide (off < 0) = false := by simpa using h0
    have d1 : decide ((l.length : Int) < off) = true := by
      rw [decide_eq_true (show 0 ≤ off by omega)] at hk
      simp at hk
      simpa using hk
    clear hk
    go_enter Try.func14, Try.ntmps14
    go_wp2
    go_ret2
    exact ⟨.slice none 0 0, by rw [HE.out.1]; rfl, by rw [HE.out.2.1, HE.out.2.2]; exact World.ownsRow_nil _ _ _ _, Below.refl _ _⟩

set_option maxRecDepth 100000 in
set_option maxHeartbeats 4000000 in
theorem frameRef_yes (v : Value) (l : List UInt8) (d : Nat) (lim : Int) (w : World) (h : BSl w (lt w.heap.size) v l) (hm : l.length ≤ 1000000000) (hk : d ≤ l.length) :
    Calls Try.prog 14 #[v, .int .i64 d, .int .i64 lim] w (FrameRes w l d lim) := by
  obtain ⟨A, c, rfl, hc, h⟩ := h.forms
  have he := frEnd_eq hk
  have d0 : decide ((d : Int) < 0) = false := by simp
  have d1 : decide (l.length < d) = false := by simp; omega
  obtain ⟨ps, hps⟩ : ∃ ps, spans (l.drop d) = ps := ⟨_, rfl⟩
  have hin : ∀ p ∈ ps, p.1 < p.2 ∧ d + p.2 ≤ l.length := by rw [← hps]; exact fun p hp => span_in hk hp
  have hpl : ps.length ≤ 1000000000 := by rw [← hps]; have := spans_len (l.drop d); rw [List.length_drop] at this; omega
  have hend : endK d ps ps.length = d + spEnd (l.drop d) := by rw [← hps]; exact endK_all
  rw [hps] at he
  have HE := keep (And.intro he hend)
  have HPS := keep hps
  have HIN := keep hin
  clear he hend hps hin
  go_enter Try.func14, Try.ntmps14
  go_wp2_with (refine wpList_fromB elB rfl _ _ rfl d rfl h rfl rfl hk ?_; intro v1 h1)
  refine (linesRef_any _ _ _ h1 (by rw [List.length_drop]; omega)).mono ?_
  rintro e w1 ⟨vS, rfl, hS, hb1⟩
  rw [HPS.out] at hS
  have hSl := Sl.of_own hS
  obtain ⟨AS, cS, rfl, _, hSl⟩ := hSl.form
  have hL : BSl w1 (lt w1.heap.size) (.slice A l.length c) l := (h.below hb1 (Nat.le_refl _)).up hb1.size
  clear hS h1
  go_wp2_with fail
  go_loopw [9, 10, 11, 12] (fun out en i _ wr => ∃ k : Nat, i = .int .i64 k ∧ k ≤ ps.length ∧ en = .int .i64 (endK d ps k : Nat) ∧ wr.ownsRow w1.heap.size 41 5 out k ((ps.take k).flatMap (frV l d lim)) ∧ Below w1.heap.size w1 wr)
    (fun _ _ i _ _ => ps.length - (intOf i).toNat)
  case atStart => exact ⟨0, rfl, Nat.zero_le _, rfl, World.ownsRow_nil _ _ _ _, Below.refl _ _⟩
  case round =>
    obtain ⟨k, rfl, hkn, rfl, hown, hb⟩ := hrel
    have hz := hb.size
    by_cases hlt : k < ps.length
    · have hSr := hSl.below hb (Nat.le_refl _)
      obtain ⟨b, o, rfl, hbb, c0, c1⟩ := sp_cells hSr hlt
      obtain ⟨p, hp⟩ : ∃ p, ps[k] = p := ⟨_, rfl⟩
      obtain ⟨p1, p2⟩ := HIN.out p (by rw [← hp]; exact List.getElem_mem _)
      rw [hp] at c0 c1
      have HP := keep hp
      have a0 : (0 : Int) ≤ (k : Int) := by omega
      have a1 : (k : Int) < (ps.length : Int) := by omega
      obtain ⟨f, t⟩ := p
      dsimp only at c0 c1 p1 p2
      clear hp
      obtain ⟨g, hg⟩ : ∃ g, d + f = g := ⟨_, rfl⟩
      obtain ⟨n, hn⟩ : ∃ n, t - f = n := ⟨_, rfl⟩
      have hw1 : IntKind.i64.wrap ((d : Int) + (f : Int)) = (g : Int) := by rw [show (d : Int) + (f : Int) = (g : Int) by omega]; exact IntWalk.i64_in _ (by omega)
      have hw2 : IntKind.i64.wrap ((t : Int) - (f : Int)) = (n : Int) := by rw [show (t : Int) - (f : Int) = (n : Int) by omega]; exact IntWalk.i64_in _ (by omega)
      have HG := keep (And.intro hg hn)
      have hwn := World.new_ne wr _ c0
      have hwn2 := World.new_ne wr _ c1
      clear hg hn
      go_wp2_with fail
      go_region_held3 (fun w' : World => w'.cell? ⟨b, o + k * 2, none⟩ = some (.int .i64 (f : Int)) ∧ w'.cell? ⟨b, o + k * 2 + 1, none⟩ = some (.int .i64 (t : Int))) (first | exact ⟨c0, c1⟩ | go_keep) (fail)
      have hb2 : Below w1.heap.size w1 (wr.alloc (.cells #[.int .i64 (g : Int), .int .i64 (n : Int), .string ⟨#[]⟩, .int .i64 0, .bool false] 41)).drew := (hb.alloc hz _).drew
      have hown2 : (wr.alloc (.cells #[.int .i64 (g : Int), .int .i64 (n : Int), .string ⟨#[]⟩, .int .i64 0, .bool false] 41)).drew.ownsRow w1.heap.size 41 5 u9 k ((ps.take k).flatMap (frV l d lim)) := hown.alloc _
      have hx2 : Blk (wr.alloc (.cells #[.int .i64 (g : Int), .int .i64 (n : Int), .string ⟨#[]⟩, .int .i64 0, .bool false] 41)).drew wr.heap.size 41 #[.int .i64 (g : Int), .int .i64 (n : Int), .string ⟨#[]⟩, .int .i64 0, .bool false] := Blk.new wr _ _
      have hne : u9.ownBlock ≠ some wr.heap.size := fun e => by have := (hown.lt _ e).2; omega
      have hz2 : wr.heap.size < (wr.alloc (.cells #[.int .i64 (g : Int), .int .i64 (n : Int), .string ⟨#[]⟩, .int .i64 0, .bool false] 41)).drew.heap.size := hx2.lt
      obtain ⟨W2, hW2⟩ : ∃ W2, (wr.alloc (.cells #[.int .i64 (g : Int), .int .i64 (n : Int), .string ⟨#[]⟩, .int .i64 0, .bool false] 41)).drew = W2 := ⟨_, rfl⟩
      rw [hW2] at hb2 hown2 hx2 hz2 ⊢
      clear hW2 hwn hwn2 c0 c1 hSr hown hw1 hw2
      obtain ⟨gx, hgx⟩ : ∃ gx, wr.heap.size = gx := ⟨_, rfl⟩
      rw [hgx] at hx2 hne hz2 hz ⊢
      clear hgx
      have hgb : g + n ≤ l.length := by have := HG.out; omega
      have hlb : (g : Int) + (n : Int) ≤ (l.length : Int) := by omega
      have hg0 : (g : Int) ≤ 1000000000 := by omega
      have hn0 : (n : Int) ≤ 1000000000 := by omega
      have hn1 : (n : Int) ≤ ((l.length : Nat) : Int) := by omega
      have hkb : k + 1 ≤ maxLen := by unfold maxLen; omega
      have hL2 := hL.below hb2 (Nat.le_refl _)
      have HE1 : Hid (endK d ps (k + 1) = g + n) := keep (by
        unfold endK
        rw [if_neg (by omega), Nat.add_sub_cancel, List.getD_eq_getElem?_getD, List.getElem?_eq_getElem hlt, Option.getD_some, HP.out]
        have := HG.out
        dsimp only
        omega)
      have HF1 : Hid ((ps.take (k + 1)).flatMap (frV l d lim) = (ps.take k).flatMap (frV l d lim) ++ frV l d lim (f, t)) := keep (by
        rw [List.take_succ_eq_append_getElem hlt, HP.out, List.flatMap_append]
        simp)
      have HB2 := keep hb2
      by_cases hlim : lim < (n : Int)
      · have HV : Hid (frV l d lim (f, t) = [.int .i64 (g : Int), .int .i64 (n : Int), .string ⟨#[]⟩, .int .i64 0, .bool true]) := keep (by
          unfold frV
          dsimp only
          rw [HG.out.1, HG.out.2, if_pos hlim])
        have hx3 : Blk (W2.setCell ⟨gx, 4, none⟩ (.bool true)) gx 41 #[.int .i64 (g : Int), .int .i64 (n : Int), .string ⟨#[]⟩, .int .i64 0, .bool true] := by simpa using hx2.set_ 4 (.bool true)
        have hown3 : (W2.setCell ⟨gx, 4, none⟩ (.bool true)).ownsRow w1.heap.size 41 5 u9 k ((ps.take k).flatMap (frV l d lim)) := hown2.kept (row := some gx) (grownBy_set (World.grownBy.refl W2 (some gx)) 4 _) (.inr hne)
        have hb3 : Below w1.heap.size w1 (W2.setCell ⟨gx, 4, none⟩ (.bool true)) := hb2.setCell (p := ⟨gx, 4, none⟩) hz _
        have x1 : W2.cell? ⟨gx, 1, none⟩ = some (.int .i64 (n : Int)) := by rw [hx2.cell]; rfl
        have x4 : W2.cell? ⟨gx, 4, none⟩ = some (.bool false) := by rw [hx2.cell]; rfl
        have f4 := hx2.frozen 4
        obtain ⟨W3, hW3⟩ : ∃ W3, W2.setCell ⟨gx, 4, none⟩ (.bool true) = W3 := ⟨_, rfl⟩
        rw [hW3] at hx3 hown3 hb3
        have y0 : W3.cell? ⟨gx, 0, none⟩ = some (.int .i64 (g : Int)) := by rw [hx3.cell]; rfl
        have y1 : W3.cell? ⟨gx, 1, none⟩ = some (.int .i64 (n : Int)) := by rw [hx3.cell]; rfl
        have y2 : W3.cell? ⟨gx, 2, none⟩ = some (.string ⟨#[]⟩) := by rw [hx3.cell]; rfl
        have y3 : W3.cell? ⟨gx, 3, none⟩ = some (.int .i64 0) := by rw [hx3.cell]; rfl
        have y4 : W3.cell? ⟨gx, 4, none⟩ = some (.bool true) := by rw [hx3.cell]; rfl
        go_upto_region 13 with fail
        clear hW3 x1 x4 f4 hx2 hown2
        go_wp2_with (refine wpList_push elFramed rfl rfl _ _ 74 rfl rfl rfl w1.heap.size u9 (.agg #[.int .i64 (g : Int), .int .i64 (n : Int), .string ⟨#[]⟩, .int .i64 0, .bool true]) k _ rfl (fun _ => rfl) (fun _ => rfl) hown3 rfl (by intro c hc; simp [Value.cells] at hc; rcases hc with rfl | rfl | rfl | rfl | rfl <;> rfl) (by decide) hkb (by omega) hb3.size ?_; intro g9 cap9 w9 hown9 hb9 hg9 _ _; have hx9 := hx3.grown hg9 (fun e => hne e.symm); have z0 : w9.cell? ⟨gx, 0, none⟩ = some (.int .i64 (g : Int)) := (by rw [hx9.cell]; rfl); have z1 : w9.cell? ⟨gx, 1, none⟩ = some (.int .i64 (n : Int)) := (by rw [hx9.cell]; rfl))
        go_roundw
        case rel => exact ⟨k + 1, by go_num, by omega, by rw [HE1.out]; go_num, by rw [HF1.out, HV.out]; exact hown9, hb3.trans hb9⟩
        case measure => simp [intOf]; omega
      · have hsg : ((l.drop g).take (g + n - g)).length ≤ 1000000000 := by rw [List.length_take, List.length_drop]; omega
        obtain ⟨sg, hsgd⟩ : ∃ sg, (l.drop g).take (g + n - g) = sg := ⟨_, rfl⟩
        rw [hsgd] at hsg
        obtain ⟨r1, hr1⟩ : ∃ r1, (rep (stripB sg)).1 = r1 := ⟨_, rfl⟩
        obtain ⟨r2, hr2⟩ : ∃ r2, (rep (stripB sg)).2 = r2 := ⟨_, rfl⟩
        have HV : Hid (frV l d lim (f, t) = [.int .i64 (g : Int), .int .i64 (n : Int), .string ⟨r1.toArray⟩, .int .i64 r2, .bool false]) := keep (by
          unfold frV segB
          dsimp only
          rw [HG.out.1, HG.out.2, if_neg hlim]
          rw [Nat.add_sub_cancel_left] at hsgd
          rw [hsgd, hr1, hr2])
        have x0 : W2.cell? ⟨gx, 0, none⟩ = some (.int .i64 (g : Int)) := by rw [hx2.cell]; rfl
        have x1 : W2.cell? ⟨gx, 1, none⟩ = some (.int .i64 (n : Int)) := by rw [hx2.cell]; rfl
        have HSG := keep hsgd
        have HR := keep (And.intro hr1 hr2)
        clear hsgd hr1 hr2
        go_wp2_with (refine wpList_subB elB rfl _ _ _ rfl g (g + n) rfl hL2 rfl rfl rfl (by omega) (by omega) hgb ?_; intro v8 hs8; rw [HSG.out] at hs8)
        refine (textRef_any _ _ _ (hs8.up hb2.size) hsg).mono ?_
        rintro e w5 ⟨rfl, hb5⟩
        rw [HR.out.1, HR.out.2]
        have hx5 := hx2.below hb5 hz2
        have hown5 := hown2.kept (grownBy_of_below hb5 none) (by cases hv : u9.ownBlock <;> simp)
        have q2 : w5.cell? ⟨gx, 2, none⟩ = some (.string ⟨#[]⟩) := by rw [hx5.cell]; rfl
        have q3 : w5.cell? ⟨gx, 3, none⟩ = some (.int .i64 0) := by rw [hx5.cell]; rfl
        have f2 := hx5.frozen 2
        have f3 := hx5.frozen 3
        have hx3 : Blk ((w5.setCell ⟨gx, 2, none⟩ (.string ⟨r1.toArray⟩)).setCell ⟨gx, 3, none⟩ (.int .i64 r2)) gx 41 #[.int .i64 (g : Int), .int .i64 (n : Int), .string ⟨r1.toArray⟩, .int .i64 r2, .bool false] := by simpa using (hx5.set_ 2 (.string ⟨r1.toArray⟩)).set_ 3 (.int .i64 r2)
        have hown3 : ((w5.setCell ⟨gx, 2, none⟩ (.string ⟨r1.toArray⟩)).setCell ⟨gx, 3, none⟩ (.int .i64 r2)).ownsRow w1.heap.size 41 5 u9 k ((ps.take k).flatMap (frV l d lim)) :=
          hown5.kept (row := some gx) (grownBy_set (grownBy_set (World.grownBy.refl w5 (some gx)) 2 _) 3 _) (.inr hne)
        have hb3 : Below w1.heap.size w1 ((w5.setCell ⟨gx, 2, none⟩ (.string ⟨r1.toArray⟩)).setCell ⟨gx, 3, none⟩ (.int .i64 r2)) := ((hb2.trans (hb5.mono hb2.size)).setCell (p := ⟨gx, 2, none⟩) hz _).setCell (p := ⟨gx, 3, none⟩) hz _
        obtain ⟨W3, hW3⟩ : ∃ W3, (w5.setCell ⟨gx, 2, none⟩ (.string ⟨r1.toArray⟩)).setCell ⟨gx, 3, none⟩ (.int .i64 r2) = W3 := ⟨_, rfl⟩
        rw [hW3] at hx3 hown3 hb3
        have y0 : W3.cell? ⟨gx, 0, none⟩ = some (.int .i64 (g : Int)) := by rw [hx3.cell]; rfl
        have y1 : W3.cell? ⟨gx, 1, none⟩ = some (.int .i64 (n : Int)) := by rw [hx3.cell]; rfl
        have y2 : W3.cell? ⟨gx, 2, none⟩ = some (.string ⟨r1.toArray⟩) := by rw [hx3.cell]; rfl
        have y3 : W3.cell? ⟨gx, 3, none⟩ = some (.int .i64 r2) := by rw [hx3.cell]; rfl
        have y4 : W3.cell? ⟨gx, 4, none⟩ = some (.bool false) := by rw [hx3.cell]; rfl
        go_upto_region 13 with fail
        clear hW3 x0 x1 q2 q3 f2 f3 hx2 hown2 hx5 hown5
        go_wp2_with (refine wpList_push elFramed rfl rfl _ _ 74 rfl rfl rfl w1.heap.size u9 (.agg #[.int .i64 (g : Int), .int .i64 (n : Int), .string ⟨r1.toArray⟩, .int .i64 r2, .bool false]) k _ rfl (fun _ => rfl) (fun _ => rfl) hown3 rfl (by intro c hc; simp [Value.cells] at hc; rcases hc with rfl | rfl | rfl | rfl | rfl <;> rfl) (by decide) hkb (by omega) hb3.size ?_; intro g9 cap9 w9 hown9 hb9 hg9 _ _; have hx9 := hx3.grown hg9 (fun e => hne e.symm); have z0 : w9.cell? ⟨gx, 0, none⟩ = some (.int .i64 (g : Int)) := (by rw [hx9.cell]; rfl); have z1 : w9.cell? ⟨gx, 1, none⟩ = some (.int .i64 (n : Int)) := (by rw [hx9.cell]; rfl))
        go_roundw
        case rel => exact ⟨k + 1, by go_num, by omega, by rw [HE1.out]; go_num, by rw [HF1.out, HV.out]; exact hown9, hb3.trans hb9⟩
        case measure => simp [intOf]; omega
    · obtain rfl : k = ps.length := by omega
      rw [List.take_length] at hown
      go_wp2
      go_ret2
      exact ⟨_, by rw [HE.out.1.1, HE.out.2]; rfl, own_base (by rw [HE.out.1.2]; unfold frL; rw [HE.out.1.2, Int.toNat_natCast]; exact hown) hb1.size, hb1.trans (hb.mono hb1.size)⟩
theorem frameRef_any (v : Value) (l : List UInt8) (off lim : Int) (w : World) (h : BSl w (lt w.heap.size) v l) (hm : l.length ≤ 1000000000) :
    Calls Try.prog 14 #[v, .int .i64 off, .int .i64 lim] w (FrameRes w l off lim) := by
  by_cases hk : frOk l off = true
  · have hk' := hk
    simp [frOk] at hk'
    obtain ⟨d, rfl⟩ := Int.eq_ofNat_of_zero_le hk'.1
    exact frameRef_yes v l d lim w h hm (by omega)
  · exact frameRef_no v l off lim w h (by simpa using hk)
end Go.Proofs.Ytimldjlegbdldaa
