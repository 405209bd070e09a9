/- The contract of manifest.Encode. -/
import Derived.Test.YtkjhnipjhefndaaPut
import Derived.Test.YtkjhnipjhefndaaCheckP
import Derived.Lib.SlBytesConst
namespace Go.Proofs.Ytkjhnipjhefndaa
open Go.RowKit

def encS (s : Seg) : List UInt8 := encI [s.id, s.level, s.tier, s.count, s.lo, s.hi, s.size]
def encK (x : Mk) : List UInt8 := encI [x.host, x.file, x.off]
def magicB : List UInt8 := [76, 84, 77, 49]
def en1 (m : Man) : List UInt8 := magicB ++ encI [m.nu, m.nx, m.jo, (m.segs.length : Int)]
def en2 (m : Man) : List UInt8 := en1 m ++ m.segs.flatMap encS
def en3 (m : Man) : List UInt8 := en2 m ++ encI [(m.marks.length : Int)]
def en4 (m : Man) : List UInt8 := en3 m ++ m.marks.flatMap encK
def en5 (m : Man) : List UInt8 := en4 m ++ encT m.tals
/-- The bytes of a manifest, but for the checksum. -/
def encM (m : Man) : List UInt8 := en5 m ++ encT m.exps
def encB (m : Man) : List UInt8 := encM m ++ crcB (crc (encM m))
/-- What Encode returns. -/
def encOut (m : Man) : List UInt8 := if manErr m = 0 then encB m else []
def EncRes (w : World) (m : Man) (e : Ending) (w' : World) : Prop := ∃ v, e = .returned (.tuple #[v, .int .i64 (manErr m)]) ∧ OwnB w' w.heap.size v (encOut m) ∧ Below w.heap.size w w'
theorem Lies.off {w w' : World} {S T : Nat → Prop} {m : Man} {vS vM vT vE : Value} (h : Lies w S m vS vM vT vE) (ho : Off T w w') (hS : ∀ b, S b → b < w.heap.size ∧ ¬ T b) : Lies w' S m vS vM vT vE :=
  ⟨h.s.off ho hS, h.m_.off ho hS, h.t.off ho hS, h.e.off ho hS⟩
theorem len_en (m : Man) (h : (encM m).length + 4 ≤ 140737488355328) :
    magicB.length + (encI [m.nu, m.nx, m.jo, (m.segs.length : Int)]).length ≤ 140737488355328 ∧ (en1 m).length + (m.segs.flatMap encS).length ≤ 140737488355328 ∧ (en2 m).length + (encI [(m.marks.length : Int)]).length ≤ 140737488355328 ∧
      (en3 m).length + (m.marks.flatMap encK).length ≤ 140737488355328 ∧ (en4 m).length + (encT m.tals).length ≤ 140737488355328 ∧ (en5 m).length + (encT m.exps).length ≤ 140737488355328 := by
  simp only [encM, en5, en4, en3, en2, en1, List.length_append] at h ⊢
  omega
theorem flatMap_snoc {α β : Type} (f : α → List β) (l : List α) (k : Nat) (h : k < l.length) : (l.take (k + 1)).flatMap f = (l.take k).flatMap f ++ f l[k] := by
  rw [List.take_succ_eq_append_getElem h, List.flatMap_append]
  simp
abbrev magicO : Obj := .cells #[.int .u8 76, .int .u8 84, .int .u8 77, .int .u8 49] 5 (4, 5)
theorem own_bytes_lit (w : World) : OwnB (w.alloc magicO) w.heap.size (.slice (some ⟨w.heap.size, 0, none⟩) 4 4) magicB :=
  .inr ⟨w.heap.size, 4, _, (4, 5), rfl, Nat.le_refl _, heap_alloc_new w _, .inr (Nat.le_refl _), Nat.le_refl _, by unfold maxLen; omega, rfl, rfl⟩
theorem conv29 (w : World) (C : Array Value) (n c : Nat) : (convert 29 29 (.slice (some ⟨w.heap.size, 0, none⟩) n c)).run Try.prog (w.alloc (.cells C 5)) = .ok (.slice (some ⟨w.heap.size, 0, none⟩) n c) (w.alloc (.cells C 5 (C.size, C.size + 1))) :=
  Lib.run_convert_bytes_const (P := Try.prog) w 29 5 C n c Try.underlying29 Try.underlying5
/-- The writer just made. -/
theorem Wri.new (w : World) (B : Nat) (hB : B ≤ w.heap.size) : Wri ((w.alloc magicO).alloc (.cells #[.slice (some ⟨w.heap.size, 0, none⟩) 4 4] 86)) B (w.heap.size + 1) (.slice (some ⟨w.heap.size, 0, none⟩) 4 4) magicB := by
  refine ⟨?_, ((own_bytes_lit w).alloc _).base_ hB, ?_⟩
  · have := Blk.new (w.alloc magicO) 86 #[.slice (some ⟨w.heap.size, 0, none⟩) 4 4]
    simpa using this
  · simp [Value.ownBlock]

set_option maxHeartbeats 4000000 in
set_option maxRecDepth 100000 in
theorem encode_any (m : Man) (vS vM vT vE : Value) (w : World) (hL : Lies w (lt w.heap.size) m vS vM vT vE) (hsm : Small m) (hT : (encM m).length + 4 ≤ 140737488355328) :
    Calls Try.prog 17 #[.agg (manCells m vS vM vT vE)] w (EncRes w m) := by
  obtain ⟨AS, cS, rfl, _, _⟩ := hL.s.form
  obtain ⟨AM, cM, rfl, _, _⟩ := hL.m_.form
  obtain ⟨AT, cT, rfl, _, _⟩ := hL.t.form
  obtain ⟨AE, cE, rfl, _, _⟩ := hL.e.form
  obtain ⟨W, hW⟩ : ∃ W, W = w.alloc (.cells (manCells m (.slice AS m.segs.length cS) (.slice AM m.marks.length cM) (.slice AT m.tals.length cT) (.slice AE m.exps.length cE)) 28) := ⟨_, rfl⟩
  have hba : Below w.heap.size w W := by rw [hW]; exact (Below.refl _ _).alloc (Nat.le_refl _) _
  obtain ⟨g0, hg0⟩ : ∃ g, g = w.heap.size := ⟨_, rfl⟩
  have hBg : Blk W g0 28 (manCells m (.slice AS m.segs.length cS) (.slice AM m.marks.length cM) (.slice AT m.tals.length cT) (.slice AE m.exps.length cE)) := by rw [hW, hg0]; exact Blk.new _ _ _
  have HT := keep (len_en m hT)
  have HT' := keep hT
  have HG := keep hg0
  have hLa := hL.below hba
  clear hT
  obtain ⟨r, hr⟩ : ∃ r, manErr m = r := ⟨_, rfl⟩
  have HR := keep hr
  clear hr
  have kc := conv29
  go_enter Try.func17, Try.ntmps17
  go_upto_region 1 with fail
  rw [← hW, ← hg0]
  clear hW hg0
  have hlg := hBg.lt
  obtain ⟨a0, a1, a2, a3, a4, a5, a6⟩ := hBg.cell7
  go_wp2_with fail
  refine (check_any m _ _ _ _ _ hLa hsm).mono ?_
  rintro e w1 ⟨rfl, hb1⟩
  rw [HR.out]
  have hB1 := hBg.below hb1 hlg
  have hbw := bchain hba hb1
  clear a0 a1 a2 a3 a4 a5 a6
  by_cases hr0 : r = 0
  · subst hr0
    have hL1 : Lies w1 (lt w.heap.size) m (.slice AS m.segs.length cS) (.slice AM m.marks.length cM) (.slice AT m.tals.length cT) (.slice AE m.exps.length cE) :=
      ⟨hL.s.below hbw (Nat.le_refl _), hL.m_.below hbw (Nat.le_refl _), hL.t.below hbw (Nat.le_refl _), hL.e.below hbw (Nat.le_refl _)⟩
    clear hLa hL hBg hb1 hba hlg
    go_upto_region 5 with fail
    obtain ⟨W1, hW1⟩ : ∃ W1, W1 = (w1.alloc magicO).alloc (.cells #[.slice (some ⟨w1.heap.size, 0, none⟩) 4 4] 86) := ⟨_, rfl⟩
    obtain ⟨g, hg⟩ : ∃ g, g = w1.heap.size + 1 := ⟨_, rfl⟩
    obtain ⟨v0, hv0⟩ : ∃ v0, v0 = Value.slice (some ⟨w1.heap.size, 0, none⟩) 4 4 := ⟨_, rfl⟩
    have hWr : Wri W1 w.heap.size g v0 magicB := by rw [hW1, hg, hv0]; exact Wri.new w1 _ hbw.size
    have hbW : Below w1.heap.size w1 W1 := by rw [hW1]; exact ((Below.refl _ _).alloc (Nat.le_refl _) _).alloc (by simp) _
    have hset : Hid (∀ k, Wset g v0 k → w1.heap.size ≤ k) := fun k hk => by
      rcases hk with rfl | hk
      · omega
      · rw [hv0] at hk; simp [Value.ownBlock] at hk; omega
    rw [← hW1, ← hg, ← hv0]
    clear hW1 hg hv0
    have hlg1 := hB1.lt
    have hM := hB1.below hbW hlg1
    have hL2 : Lies W1 (lt w.heap.size) m (.slice AS m.segs.length cS) (.slice AM m.marks.length cM) (.slice AT m.tals.length cT) (.slice AE m.exps.length cE) :=
      ⟨hL1.s.below hbW hbw.size, hL1.m_.below hbW hbw.size, hL1.t.below hbW hbw.size, hL1.e.below hbW hbw.size⟩
    have hbw2 := bchain hbw hbW
    have hg0 : Hid (¬ Wset g v0 g0) := fun hs => by have := hset.out _ hs; omega
    have hold : Hid (∀ b, lt w.heap.size b → b < W1.heap.size ∧ ¬ Wset g v0 b) := fun b hb => by
      have h1 : b < w.heap.size := hb
      have h2 := hbw.size
      have h3 := hbw2.size
      exact ⟨by omega, fun hs => by have := hset.out b hs; omega⟩
    have hzW := keep hbw2.size
    clear hL1 hB1 hbw hbW hlg1
    obtain ⟨a0, a1, a2, a3, a4, a5, a6⟩ := hM.cell7
    go_wp2_with fail
    refine (ints_lit w.heap.size g v0 magicB [m.nu, m.nx, m.jo, (m.segs.length : Int)] W1 hWr hzW.out HT.out.1 (by simp) 4 rfl _ rfl _ rfl).mono ?_
    rintro e w2 ⟨rfl, v2, hW2, hO2, hS2⟩
    have hM2 := hM.off hO2 hg0.out
    clear a0 a1 a2 a3 a4 a5 a6
    obtain ⟨a0, a1, a2, a3, a4, a5, a6⟩ := hM2.cell7
    have hW2' : Wri w2 w.heap.size g v2 (en1 m) := hW2
    clear hW2 hM2
    go_wp2_with fail
    clear a0 a1 a2 a3 a4 a5 a6
    go_loopw [7, 34] (fun _ i wr => ∃ (k : Nat) (v' : Value), i = .int .i64 k ∧ k ≤ m.segs.length ∧ Wri wr w.heap.size g v' (en1 m ++ (m.segs.take k).flatMap encS) ∧ Off (Wset g v0) W1 wr ∧ Hid (∀ j, Wset g v' j → Wset g v0 j ∨ W1.heap.size ≤ j)) (fun _ i _ => m.segs.length - (intOf i).toNat)
    case atStart => exact ⟨0, v2, rfl, Nat.zero_le _, by simpa using hW2', hO2, hS2⟩
    case round =>
      obtain ⟨k, v', rfl, hk, hWk, hO, hSS⟩ := hrel
      clear hW2' hO2 hS2
      by_cases hlt : k < m.segs.length
      · obtain ⟨b, o, rfl, hb, t0, t1, t2, t3, t4, t5, t6⟩ := segs_cells (hL2.s.off hO hold.out) hlt
        have hE := keep (flatMap_snoc encS m.segs k hlt)
        have hE2 := keep (flatMap_take_le encS m.segs (k + 1))
        have hblt : b < wr.heap.size := Nat.lt_of_lt_of_le (hold.out b hb).1 hO.size
        generalize m.segs[k] = y at *
        have hlen : Hid ((en1 m ++ (m.segs.take k).flatMap encS).length + (encS y).length ≤ 140737488355328) := keep (by
          have h1 := HT.out.2.1
          have h2 := hE2.out
          rw [hE.out] at h2
          simp only [List.length_append] at h2 ⊢
          omega)
        have hzk := keep (Nat.le_trans hzW.out hO.size)
        have i1 : (k : Int) < (m.segs.length : Int) := by omega
        have hsm1 := hsm.s
        go_wp2_with fail
        refine (ints_lit w.heap.size g v' _ [y.id, y.level, y.tier, y.count, y.lo, y.hi, y.size] _ (hWk.alloc _) (by have := hzk.out; simp; omega) hlen.out (by simp) 7 rfl _ rfl _ (by simp)).mono ?_
        rintro e w3 ⟨rfl, v3, hW3, hO3, hS3⟩
        have hW3' : Wri w3 w.heap.size g v3 (en1 m ++ (m.segs.take (k + 1)).flatMap encS) := by rw [hE.out, ← List.append_assoc]; exact hW3
        have hO3' : Off (Wset g v') wr w3 := (Off.alloc (Off.refl _ wr) _).trans hO3 (fun _ _ t => t)
        have hS3' : ∀ j, Wset g v3 j → Wset g v' j ∨ wr.heap.size ≤ j := fun j hj => (hS3 j hj).imp id (fun h => by simp at h; omega)
        obtain ⟨hOa, hSa⟩ := Wri.chain hO hSS.out hO3' hS3'
        clear hW3 hO3 hS3 hO3' hS3' hO hSS hWk t0 t1 t2 t3 t4 t5 t6
        go_wp2_with fail
        go_roundw
        case rel => exact ⟨k + 1, v3, by go_num, by omega, hW3', hOa, hSa⟩
        case measure => simp [intOf]; omega
      · have hWk' : Wri wr w.heap.size g v' (en2 m) := by
          rw [List.take_of_length_le (by omega)] at hWk
          exact hWk
        have hMk := hM.off hO hg0.out
        obtain ⟨a0, a1, a2, a3, a4, a5, a6⟩ := hMk.cell7
        have hzk := keep (Nat.le_trans hzW.out hO.size)
        clear hWk
        go_wp2_with fail
        refine (ints_lit w.heap.size g v' (en2 m) [(m.marks.length : Int)] wr hWk' hzk.out HT.out.2.2.1 (by simp) 1 rfl _ rfl _ rfl).mono ?_
        rintro e w3 ⟨rfl, v3, hW3, hO3, hS3⟩
        obtain ⟨hOa, hSa⟩ := Wri.chain hO hSS.out hO3 hS3
        have hW3' : Wri w3 w.heap.size g v3 (en3 m) := hW3
        clear hW3 hO3 hS3 hO hSS hWk' hMk a0 a1 a2 a3 a4 a5 a6
        have hM3 := hM.off hOa hg0.out
        obtain ⟨a0, a1, a2, a3, a4, a5, a6⟩ := hM3.cell7
        clear hM3
        go_wp2_with fail
        clear a0 a1 a2 a3 a4 a5 a6
        go_loopw [9, 67] (fun _ i wr => ∃ (k : Nat) (v' : Value), i = .int .i64 k ∧ k ≤ m.marks.length ∧ Wri wr w.heap.size g v' (en3 m ++ (m.marks.take k).flatMap encK) ∧ Off (Wset g v0) W1 wr ∧ Hid (∀ j, Wset g v' j → Wset g v0 j ∨ W1.heap.size ≤ j)) (fun _ i _ => m.marks.length - (intOf i).toNat)
        case atStart => exact ⟨0, v3, rfl, Nat.zero_le _, by simpa using hW3', hOa, hSa⟩
        case round =>
          obtain ⟨k2, v5, rfl, hk2, hWk, hO, hSS⟩ := hrel
          clear hW3' hOa hSa hzk
          by_cases hlt2 : k2 < m.marks.length
          · obtain ⟨b, o, rfl, hb, t0, t1, t2⟩ := marks_cells (hL2.m_.off hO hold.out) hlt2
            have hE := keep (flatMap_snoc encK m.marks k2 hlt2)
            have hE2 := keep (flatMap_take_le encK m.marks (k2 + 1))
            generalize m.marks[k2] = y at *
            obtain ⟨wq, rfl⟩ : ∃ wq : World, wq = wr := ⟨_, rfl⟩
            have hlen : Hid ((en3 m ++ (m.marks.take k2).flatMap encK).length + (encK y).length ≤ 140737488355328) := keep (by
              have h1 := HT.out.2.2.2.1
              have h2 := hE2.out
              rw [hE.out] at h2
              simp only [List.length_append] at h2 ⊢
              omega)
            have hzk := keep (Nat.le_trans hzW.out hO.size)
            have i1 : (k2 : Int) < (m.marks.length : Int) := by omega
            have hsm1 := hsm.m_
            go_wp2_with fail
            refine (ints_lit w.heap.size g v5 _ [y.host, y.file, y.off] _ (hWk.alloc _) (by have := hzk.out; simp; omega) hlen.out (by simp) 3 rfl _ rfl _ (by simp)).mono ?_
            rintro e w6 ⟨rfl, v6, hW6, hO6, hS6⟩
            have hW6' : Wri w6 w.heap.size g v6 (en3 m ++ (m.marks.take (k2 + 1)).flatMap encK) := by rw [hE.out, ← List.append_assoc]; exact hW6
            have hO6' : Off (Wset g v5) wq w6 := (Off.alloc (Off.refl _ wq) _).trans hO6 (fun _ _ t => t)
            have hS6' : ∀ j, Wset g v6 j → Wset g v5 j ∨ wq.heap.size ≤ j := fun j hj => (hS6 j hj).imp id (fun h => by simp at h; omega)
            obtain ⟨hOa, hSa⟩ := Wri.chain hO hSS.out hO6' hS6'
            clear hW6 hO6 hS6 hO6' hS6' hO hSS hWk t0 t1 t2
            go_wp2_with fail
            go_roundw
            case rel => exact ⟨k2 + 1, v6, by go_num, by omega, hW6', hOa, hSa⟩
            case measure => simp [intOf]; omega
          · obtain ⟨wq, rfl⟩ : ∃ wq : World, wq = wr := ⟨_, rfl⟩
            have hWk' : Wri wq w.heap.size g v5 (en4 m) := by
              rw [List.take_of_length_le (by omega)] at hWk
              exact hWk
            have hMk := hM.off hO hg0.out
            obtain ⟨a0, a1, a2, a3, a4, a5, a6⟩ := hMk.cell7
            have hzk := keep (Nat.le_trans hzW.out hO.size)
            have hLk := hL2.off hO hold.out
            have holdk : Hid (∀ b, lt w.heap.size b → b < wq.heap.size ∧ ¬ Wset g v5 b) := fun b hb => by
              have h1 := hold.out b hb
              refine ⟨Nat.lt_of_lt_of_le h1.1 hO.size, fun hs => ?_⟩
              rcases hSS.out b hs with h | h
              · exact h1.2 h
              · omega
            clear hWk hMk
            go_wp2_with fail
            refine (talsW_any w.heap.size g v5 (en4 m) m.tals _ _ wq hWk' hzk.out hLk.t holdk.out HT.out.2.2.2.2.1 hsm.t).mono ?_
            rintro e w3 ⟨rfl, v3, hW3, hO3, hS3⟩
            obtain ⟨hOa, hSa⟩ := Wri.chain hO hSS.out hO3 hS3
            have hW3' : Wri w3 w.heap.size g v3 (en5 m) := hW3
            clear hW3 hO3 hS3 hO hSS hWk' a0 a1 a2 a3 a4 a5 a6 hLk holdk hzk
            have hMk := hM.off hOa hg0.out
            obtain ⟨a0, a1, a2, a3, a4, a5, a6⟩ := hMk.cell7
            have hzk := keep (Nat.le_trans hzW.out hOa.size)
            have hLk := hL2.off hOa hold.out
            have holdk : Hid (∀ b, lt w.heap.size b → b < w3.heap.size ∧ ¬ Wset g v3 b) := fun b hb => by
              have h1 := hold.out b hb
              refine ⟨Nat.lt_of_lt_of_le h1.1 hOa.size, fun hs => ?_⟩
              rcases hSa b hs with h | h
              · exact h1.2 h
              · omega
            have HSa := keep hSa
            clear hMk hSa
            go_wp2_with fail
            refine (talsW_any w.heap.size g v3 (en5 m) m.exps _ _ w3 hW3' hzk.out hLk.e holdk.out HT.out.2.2.2.2.2 hsm.e).mono ?_
            rintro e w4 ⟨rfl, v4, hW4, hO4, hS4⟩
            obtain ⟨hOb, hSb⟩ := Wri.chain hOa HSa.out hO4 hS4
            have hW4' : Wri w4 w.heap.size g v4 (encM m) := hW4
            clear hW4 hO4 hS4 hOa HSa hW3' a0 a1 a2 a3 a4 a5 a6 hLk holdk hzk
            have hbf : Below w.heap.size w w4 := hbw2.trans (hOb.below hbw2.size (fun i hi => (hold.out i hi).2))
            have hnv := hW4'.n
            have p0 := hW4'.b.cell 0
            simp only [List.getElem?_toArray, List.getElem?_cons_zero] at p0
            have hown := hW4'.o.drew
            have hsrc : Hid (∀ wa, Below w4.drew.heap.size w4.drew wa → OwnB wa w.heap.size v4 (encM m) ∧ wa.cell? ⟨g, 0, none⟩ = some v4 ∧ w.heap.size ≤ wa.heap.size) := fun wa hwa =>
              ⟨hown.below hwa, (hwa.cell (p := ⟨g, 0, none⟩) hW4'.b.lt).trans p0, Nat.le_trans hbf.size hwa.size⟩
            have hlM := keep hW4'.o.len
            have q4 : Hid ((encM m).length + (crcB (crc (encM m))).length ≤ 140737488355328) := HT'
            have hB4 : Hid (w4.drew.heap.size ≤ w4.drew.heap.size) := keep (Nat.le_refl _)
            clear hsm hold hg0 hzW hset hL2 hM hbw2 hSb
            have hbs := keep hown.slt
            obtain ⟨eM, heM⟩ : ∃ eM, eM = encM m := ⟨_, rfl⟩
            have hf19 : ∀ v5 w5 w6, Below w4.drew.heap.size w4.drew w5 → OwnB w6 w.heap.size v5 (encM m ++ crcB (crc (encM m))) → w5.grownBy w6 v4.ownBlock → EncRes w m (.returned (.tuple #[v5, .int .i64 0])) w6 := fun v5 w5 w6 h1 h2 h3 => by
              refine ⟨v5, by rw [HR.out], ?_, ?_⟩
              · unfold encOut
                rw [if_pos HR.out]
                exact h2
              · have hb5 : Below w.heap.size w w5 := hbf.trans ((Below.refl _ w4).drew.trans (h1.mono hbf.size))
                refine ⟨h3.os.trans hb5.os, h3.tape.trans hb5.tape, h3.output.trans hb5.output, Nat.le_trans hb5.size h3.size, fun i hi => ?_⟩
                refine (h3.block i (Nat.lt_of_lt_of_le hi hb5.size) (fun e => ?_)).trans (hb5.block i hi)
                have := (hW4'.o.in_ i e.symm).1
                omega
            have HF := keep hf19
            clear hf19 hbf hOb hW4' hown
            go_upto_region 19 with fail
            go_region_held3 (fun w' : World => w'.cell? ⟨g, 0, none⟩ = some v4) (first | exact p0 | exact p1 | exact p2)
              (first
                | (go_at_call 48; (with_reducible refine (sum_any v4 (encM m) _ _ hbs.out hlM.out).mono ?_); rintro e w5 ⟨v5, rfl, hown5, hb5⟩; obtain ⟨ho5, p1, hz5⟩ := hsrc.out _ hb5; have hsl5 := hown5.slt)
                | (refine step_appendBb elB rfl (.tmp 93) (.tmp 98) rfl w.heap.size _ _ rfl ho5 _ _ _ rfl hsl5 q4.out hz5 ?_; intro v6 w6 hown6 hg6 hk6; have p2 := hg6.cell p1 (by exact fun e => hnv e.symm))
                | fail)
            all_goals
              go_wp2_with fail
              go_ret2
              exact HF.out _ _ _ hb5 hown6 hg6
  · have HN : Hid (EncRes w m (.returned (.tuple #[.slice none 0 0, .int .i64 r])) w1) := by
      refine ⟨_, by rw [HR.out], ?_, hbw⟩
      unfold encOut
      rw [if_neg (by rw [HR.out]; exact hr0)]
      exact OwnB.nil _ _
    go_wp2_with fail
    go_ret2
    exact HN.out
end Go.Proofs.Ytkjhnipjhefndaa
