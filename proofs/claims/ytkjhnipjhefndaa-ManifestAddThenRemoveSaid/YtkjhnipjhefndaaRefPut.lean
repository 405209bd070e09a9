/- The reference's putTallies and Put; SameBytes. -/
import Derived.Test.YtkjhnipjhefndaaSum
import Derived.Test.YtkjhnipjhefndaaTalsW
namespace Go.Proofs.Ytkjhnipjhefndaa
open Go.RowKit

/-- The reference's ints at a list just made. -/
theorem refInts_lit (B : Nat) (v : Value) (l : List UInt8) (xs : List Int) (w : World) (h : OwnB w B v l) (hB : B ≤ w.heap.size) (hl : l.length + (encI xs).length ≤ 140737488355328) (hm : xs.length ≤ 1000) (n : Nat) (hn : n = xs.length) (a : Array Value) (ha : a = (xs.map (Value.int .i64)).toArray) (H : Nat) (hH : H = w.heap.size) :
    Calls Try.prog 49 #[v, .slice (some ⟨H, 0, none⟩) n n] (w.alloc (.cells a 3)) (PutRes w B v (l ++ encI xs)) := by
  subst hn ha hH
  refine (refInts_any B v l xs _ (fun b => b = w.heap.size) _ (h.alloc _) (by simp; omega) (lit_ints w xs) (fun i hi => ⟨by simp; omega, fun hs => by have := (h.in_ i hs).2; omega⟩) hl hm).mono ?_
  rintro e w1 ⟨v1, rfl, hP⟩
  exact ⟨v1, rfl, hP.alloc _⟩

theorem push_cells {w w1 : World} {B b o1 o2 : Nat} {v v1 c1 c2 : Value} {l : List UInt8} (h : OwnB w1 B v1 l) (hg : w.grownBy w1 v.ownBlock) (hk : ∀ k, v1.ownBlock = some k → v.ownBlock = some k ∨ w.heap.size ≤ k)
    (hb : b < w.heap.size) (hn : ¬ Oset v b) (e1 : w.cell? ⟨b, o1, none⟩ = some c1) (e2 : w.cell? ⟨b, o2, none⟩ = some c2) : Put1 w B v v1 l w1 ∧ w1.cell? ⟨b, o1, none⟩ = some c1 ∧ w1.cell? ⟨b, o2, none⟩ = some c2 := by
  have hP := Put1.of_push h hg hk
  exact ⟨hP, (hP.f.cell (p := ⟨b, o1, none⟩) hb hn).trans e1, (hP.f.cell (p := ⟨b, o2, none⟩) hb hn).trans e2⟩
set_option maxRecDepth 100000 in
theorem putTals_any (B : Nat) (v : Value) (l : List UInt8) (ts : List Tl) (vx : Value) (S : Nat → Prop) (w : World) (h : OwnB w B v l) (hB : B ≤ w.heap.size) (hx : Sl w S 3 vx ts.length (ts.flatMap Tl.vals)) (hS : ∀ i, S i → i < w.heap.size ∧ ¬ Oset v i)
    (hl : l.length + (encT ts).length ≤ 140737488355328) (hm : ts.length ≤ 1000000) :
    Calls Try.prog 50 #[v, vx] w (PutRes w B v (l ++ encT ts)) := by
  obtain ⟨A, c, rfl, hc, hx⟩ := hx.form
  have HL := keep hl
  have hl0 : Hid (l.length + (encI [(ts.length : Int)]).length ≤ 140737488355328) := keep (by
    rw [encI_one]; unfold encT at hl; rw [List.length_append] at hl; omega)
  clear hl
  go_enter Try.func50, Try.ntmps50
  go_wp2_with fail
  refine (refInts_lit B v l [(ts.length : Int)] w h hB hl0.out (by simp) 1 rfl _ rfl _ rfl).mono ?_
  rintro e w1 ⟨v1, rfl, hP1⟩
  go_wp2_with fail
  go_loopw [0, 5] (fun v' i wr => ∃ (k : Nat), i = .int .i64 k ∧ k ≤ ts.length ∧ Put1 w B v v' (l ++ (uvar (zz ts.length) ++ (ts.take k).flatMap encT1)) wr) (fun _ i _ => ts.length - (intOf i).toNat)
  case atStart => exact ⟨0, rfl, Nat.zero_le _, by simpa [encI] using hP1⟩
  case round =>
    obtain ⟨k, rfl, hk, hP⟩ := hrel
    clear hP1
    by_cases hlt : k < ts.length
    · have hx2 := hx.off hP.f hS
      obtain ⟨b, o, rfl, hb, t0, t1, t2⟩ := tals_cells hx2 hlt
      have hE := keep (encT_snoc ts k hlt)
      have hE2 := keep (flatMap_take_le encT1 ts (k + 1))
      generalize ts[k] = t at *
      obtain ⟨L, hL⟩ : ∃ L, L = l ++ (uvar (zz ts.length) ++ (ts.take k).flatMap encT1) := ⟨_, rfl⟩
      have hlen : L.length + (encT1 t).length ≤ 140737488355328 := by
        have h1 := HL.out
        have h2 := hE2.out
        rw [hE.out] at h2
        rw [hL]
        unfold encT at h1
        simp only [List.length_append] at h1 h2 ⊢
        omega
      have hfin : Hid (L ++ encT1 t = l ++ (uvar (zz ts.length) ++ (ts.take (k + 1)).flatMap encT1)) := by
        rw [hL, hE.out]
        exact keep (by simp [List.append_assoc])
      rw [← hL] at hP
      have hrs : t.rule.size ≤ 140737488355328 := by unfold encT1 at hlen; simp only [List.length_append, Array.length_toList, ByteArray.size_data] at hlen; omega
      have HLN := keep hlen
      obtain ⟨hSb1, hSb2⟩ := hS b hb
      have hnb : ∀ {wa : World} {va : Value} {la : List UInt8}, Put1 w B v va la wa → ¬ Oset va b := fun hp hs => by
        rcases hp.s b hs with h1 | h1
        · exact hSb2 h1
        · omega
      have HNB : Hid (∀ {wa : World} {va : Value} {la : List UInt8}, Put1 w B v va la wa → ¬ Oset va b) := hnb
      have hsz := keep (Nat.le_trans hB hP.f.size)
      have hbw := keep (Nat.lt_of_lt_of_le hSb1 hP.f.size)
      have hbr := hbw.out
      clear hx2 hlen hE hE2 hL hx HL hl0 hnb
      have i1 : (k : Int) < (ts.length : Int) := by omega
      go_wp2_with fail
      refine (refInts_lit B _ L [t.host] _ hP.o hsz.out (by rw [encI_one]; have := HLN.out; unfold encT1 at this; simp only [List.length_append] at this; omega) (by simp) 1 rfl _ rfl _ rfl).mono ?_
      rintro e w2 ⟨v2, rfl, hP2'⟩
      have t1a := hP2'.f.cell (p := ⟨b, o + k * 3 + 1, none⟩) hbw.out (HNB.out hP)
      have t2a := hP2'.f.cell (p := ⟨b, o + k * 3 + 2, none⟩) hbw.out (HNB.out hP)
      rw [t1] at t1a
      rw [t2] at t2a
      have hP2 := hP.trans hP2'
      have hz2 := keep (Nat.le_trans hB hP2.f.size)
      rw [encI_one] at hP2
      have hb2 := Nat.lt_of_lt_of_le hSb1 hP2.f.size
      clear t0 t1 t2 hP2'
      have q1 : Hid (t.rule.size < 18446744073709551616) := keep (by omega)
      have q2 : Hid ((L ++ uvar (zz t.host)).length + (uvar t.rule.size).length ≤ 140737488355328) := keep (by have := HLN.out; unfold encT1 at this; simp only [List.length_append] at this ⊢; omega)
      have q3 : Hid ((L ++ uvar (zz t.host) ++ uvar t.rule.size).length + t.rule.size ≤ 140737488355328) := keep (by have := HLN.out; unfold encT1 at this; simp only [List.length_append, Array.length_toList, ByteArray.size_data] at this ⊢; omega)
      have hown2 := hP2.o.drew
      have hz2d : Hid (B ≤ w2.drew.heap.size) := hz2
      have HWR : Hid (IntKind.u64.wrap (t.rule.size : Int) = (t.rule.size : Int)) := keep (by simp [IntKind.wrap, IntKind.bits, IntKind.signed]; omega)
      have hT := keep t1a
      have hT2 := keep t2a
      have hP2d : Put1 w B v v2 (L ++ uvar (zz t.host)) w2.drew := ⟨hP2.o.drew, hP2.f.drew, hP2.s⟩
      have hA1 : Hid (∀ w3 v3, Put1 w2.drew B v2 v3 (L ++ uvar (zz t.host) ++ uvar t.rule.size) w3 → w3.cell? ⟨b, o + k * 3 + 1, none⟩ = some (.string t.rule) ∧ w3.cell? ⟨b, o + k * 3 + 2, none⟩ = some (.int .i64 t.lines) ∧ ¬ Oset v3 b ∧ B ≤ w3.heap.size ∧ b < w3.heap.size) := by
        intro w3 v3 hp
        exact ⟨(hp.f.cell (p := ⟨b, o + k * 3 + 1, none⟩) hb2 (HNB.out hP2)).trans t1a, (hp.f.cell (p := ⟨b, o + k * 3 + 2, none⟩) hb2 (HNB.out hP2)).trans t2a, HNB.out (hP2d.trans hp), Nat.le_trans hz2.out hp.f.size, Nat.lt_of_lt_of_le hb2 hp.f.size⟩
      go_upto_region 6 with fail
      go_region_held3 (fun w' : World => w'.cell? ⟨b, o + k * 3 + 1, none⟩ = some (.string t.rule)) (first | exact t1a | exact t1b | exact t1c)
        (first
          | (go_at_call 77; (try rw [HWR.out]); (with_reducible refine (putVarint_any B _ _ t.rule.size _ hown2 hz2d.out q1.out q2.out).mono ?_); rintro e w3 ⟨v3, rfl, hP3⟩; obtain ⟨t1b, t2b, hNB3, hz3, hb3⟩ := hA1.out _ _ hP3)
          | (refine step_appendBs elB Try.underlying9 rfl (.tmp 33) (.tmp 38) rfl B _ _ rfl hP3.o t.rule rfl q3.out hz3 ?_; intro v4 w4 hown4 hg4 hk4; obtain ⟨hP4, t1c, t2c⟩ := push_cells hown4 hg4 hk4 hb3 hNB3 t1b t2b)
          | fail)
      all_goals
        have hPf := keep ((hP2d.trans hP3).trans hP4)
        have hz4 := keep (Nat.le_trans hB hPf.out.f.size)
        have hb4 := Nat.lt_of_lt_of_le hSb1 hPf.out.f.size
        clear hP3 hP4 hP2d t1a t1b t2a t2b t1c hown4 hg4 hk4 hA1
        go_wp2_with fail
        refine (refInts_lit B _ _ [t.lines] _ hPf.out.o hz4.out (by rw [encI_one]; have := HLN.out; unfold encT1 at this; simp only [List.length_append] at this ⊢; omega) (by simp) 1 rfl _ rfl _ rfl).mono ?_
        rintro e w6 ⟨v6, rfl, hP6⟩
        rw [encI_one] at hP6
        have hf := hfin.out
        simp only [encT1, List.append_assoc] at hf hP6
        rw [hf] at hP6
        have hPg := keep (hPf.out.trans hP6)
        clear hP6
        go_wp2_with fail
        go_roundw
        case rel => exact ⟨k + 1, by go_num, by omega, hPg.out⟩
        case measure => simp [intOf]; omega
    · go_wp2_with fail
      go_ret
      rw [List.take_of_length_le (by omega)] at hP
      exact ⟨_, rfl, hP⟩
end Go.Proofs.Ytkjhnipjhefndaa
