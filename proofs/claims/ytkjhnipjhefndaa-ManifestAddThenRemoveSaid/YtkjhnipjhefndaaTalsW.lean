/- The contract of the writer's tallies. -/
import Derived.Test.YtkjhnipjhefndaaInts
import Derived.Test.YtkjhnipjhefndaaSorted
import Derived.Deep.RegionLaw
namespace Go.Proofs.Ytkjhnipjhefndaa
open Go.RowKit

def encT1 (t : Tl) : List UInt8 := uvar (zz t.host) ++ uvar t.rule.size ++ t.rule.data.toList ++ uvar (zz t.lines)
/-- The bytes of a list of tallies. -/
def encT (l : List Tl) : List UInt8 := uvar (zz l.length) ++ l.flatMap encT1
theorem Wri.alloc {w : World} {B g : Nat} {v : Value} {l : List UInt8} (h : Wri w B g v l) (o : Obj) : Wri (w.alloc o) B g v l := ⟨h.b.alloc o, h.o.alloc o, h.n⟩
theorem Wri.drew {w : World} {B g : Nat} {v : Value} {l : List UInt8} (h : Wri w B g v l) : Wri w.drew B g v l := ⟨h.b, h.o.drew, h.n⟩
theorem Wri.lt {w : World} {B g : Nat} {v : Value} {l : List UInt8} (h : Wri w B g v l) : ∀ k, Wset g v k → k < w.heap.size := by
  intro k hk
  rcases hk with rfl | hk
  · exact h.b.lt
  · exact (h.o.in_ k hk).2
theorem lit_ints (w : World) (xs : List Int) : Sl (w.alloc (.cells (xs.map (Value.int .i64)).toArray 3)) (fun b => b = w.heap.size) 1 (.slice (some ⟨w.heap.size, 0, none⟩) xs.length xs.length) xs.length (xs.map (.int .i64)) := by
  refine ⟨by simp, _, xs.length, rfl, Nat.le_refl _, fun _ => ⟨w.heap.size, 0, rfl, rfl, fun j u hu => ?_⟩⟩
  rw [Nat.zero_add, (Blk.new w 3 _).cell]
  simpa using hu
theorem encI_one (x : Int) : encI [x] = uvar (zz x) := by simp [encI]
/-- ints at a list just made. -/
theorem ints_lit (B g : Nat) (v : Value) (l : List UInt8) (xs : List Int) (w : World) (h : Wri w B g v l) (hB : B ≤ w.heap.size) (hl : l.length + (encI xs).length ≤ 140737488355328) (hm : xs.length ≤ 1000) (n : Nat) (hn : n = xs.length) (a : Array Value) (ha : a = (xs.map (Value.int .i64)).toArray) (H : Nat) (hH : H = w.heap.size) :
    Calls Try.prog 46 #[.pointer (some ⟨g, 0, none⟩), .slice (some ⟨H, 0, none⟩) n n] (w.alloc (.cells a 3)) (WriRes w B g v (l ++ encI xs)) := by
  subst hn ha hH
  refine (ints_any B g v l xs _ (fun b => b = w.heap.size) _ (h.alloc _) (by simp; omega) (lit_ints w xs) (fun i hi => ⟨by simp; omega, fun hs => by have := h.lt i hs; omega⟩) hl hm).mono ?_
  rintro e w1 ⟨rfl, v1, hW, hO, hS⟩
  refine ⟨rfl, v1, hW, ?_, fun j hj => ?_⟩
  · exact (Off.alloc (Off.refl _ w) _).trans hO (fun _ _ t => t)
  · rcases hS j hj with h | h
    · exact .inl h
    · exact .inr (by simp at h; omega)

theorem encT_snoc (ts : List Tl) (k : Nat) (h : k < ts.length) : (ts.take (k + 1)).flatMap encT1 = (ts.take k).flatMap encT1 ++ encT1 ts[k] := by
  rw [List.take_succ_eq_append_getElem h, List.flatMap_append]
  simp
set_option maxRecDepth 100000 in
theorem talsW_any (B g : Nat) (v : Value) (l : List UInt8) (ts : List Tl) (vx : Value) (S : Nat → Prop) (w : World) (h : Wri w B g v l) (hB : B ≤ w.heap.size) (hx : Sl w S 3 vx ts.length (ts.flatMap Tl.vals)) (hS : ∀ i, S i → i < w.heap.size ∧ ¬ Wset g v i)
    (hl : l.length + (encT ts).length ≤ 140737488355328) (hm : ts.length ≤ 1000000) :
    Calls Try.prog 47 #[.pointer (some ⟨g, 0, none⟩), vx] w (WriRes w B g v (l ++ encT ts)) := by
  obtain ⟨A, c, rfl, hc, hx⟩ := hx.form
  have HL := keep hl
  have hl0 : Hid (l.length + (encI [(ts.length : Int)]).length ≤ 140737488355328) := keep (by
    rw [encI_one]; unfold encT at hl; rw [List.length_append] at hl; omega)
  clear hl
  have hsh := h.o.shape
  go_enter Try.func47, Try.ntmps47
  go_wp2_with fail
  refine (ints_lit B g v l [(ts.length : Int)] w h hB hl0.out (by simp) 1 rfl _ rfl _ rfl).mono ?_
  rintro e w1 ⟨rfl, v1, hW1, hO1, hS1⟩
  go_wp2_with fail
  go_loopw [5, 13] (fun _ i wr => ∃ (k : Nat) (v' : Value), i = .int .i64 k ∧ k ≤ ts.length ∧ Wri wr B g v' (l ++ (uvar (zz ts.length) ++ (ts.take k).flatMap encT1)) ∧ Off (Wset g v) w wr ∧ Hid (∀ j, Wset g v' j → Wset g v j ∨ w.heap.size ≤ j)) (fun _ i _ => ts.length - (intOf i).toNat)
  case atStart => exact ⟨0, v1, rfl, Nat.zero_le _, by simpa [encI] using hW1, hO1, hS1⟩
  case round =>
    obtain ⟨k, v', rfl, hk, hW, hO, hSS⟩ := hrel
    clear hsh hW1 hO1 hS1
    by_cases hlt : k < ts.length
    · have hx2 := hx.off hO hS
      obtain ⟨b, o, rfl, hb, t0, t1, t2⟩ := tals_cells hx2 hlt
      have hE := keep (encT_snoc ts k hlt)
      have hE2 := keep (flatMap_take_le encT1 ts (k + 1))
      generalize ts[k] = t at *
      obtain ⟨L, hL⟩ : ∃ L, L = l ++ (uvar (zz ts.length) ++ (ts.take k).flatMap encT1) := ⟨_, rfl⟩
      have hlen : L.length + (encT1 t).length ≤ 140737488355328 := by
        have h1 := HL.out
        have h2 := hE2.out
        rw [hE.out] at h2
        rw [hL]
        unfold encT at h1
        simp only [List.length_append] at h1 h2 ⊢
        omega
      have hfin : Hid (L ++ encT1 t = l ++ (uvar (zz ts.length) ++ (ts.take (k + 1)).flatMap encT1)) := by
        rw [hL, hE.out]
        exact keep (by simp [List.append_assoc])
      rw [← hL] at hW
      have hrs : t.rule.size ≤ 140737488355328 := by unfold encT1 at hlen; simp only [List.length_append, Array.length_toList, ByteArray.size_data] at hlen; omega
      have HLN := keep hlen
      have hsz := keep (Nat.le_trans hB hO.size)
      clear hx2 hlen hE hE2 hL hx HL hl0
      go_wp2_with fail
      refine (ints_lit B g v' L [t.host] _ (hW.alloc _) (by have := hsz.out; simp; omega) (by rw [encI_one]; have := HLN.out; unfold encT1 at this; simp only [List.length_append] at this; omega) (by simp) 1 rfl _ rfl _ (by simp)).mono ?_
      rintro e w2 ⟨rfl, v2, hW2, hO2, hS2⟩
      have hB2 := (Blk.new wr 116 #[.int .i64 t.host, .string t.rule, .int .i64 t.lines]).off hO2 (by intro hs; have := hW.lt _ hs; omega)
      have q0 := hB2.cell 0
      have q1 := hB2.cell 1
      have q2 := hB2.cell 2
      simp only [List.getElem?_toArray, List.getElem?_cons_zero, List.getElem?_cons_succ] at q0 q1 q2
      rw [encI_one] at hW2
      have hO2' : Off (Wset g v') wr w2 := (Off.alloc (Off.refl _ wr) _).trans hO2 (fun _ _ t => t)
      have hS2' : ∀ j, Wset g v2 j → Wset g v' j ∨ wr.heap.size ≤ j := fun j hj => (hS2 j hj).imp id (fun h => by simp at h; omega)
      obtain ⟨hOa, hSa⟩ := Wri.chain hO hSS.out hO2' hS2'
      have hza := keep (Nat.le_trans hsz.out hO2'.size)
      have hne : Hid (¬ Wset g v2 wr.heap.size ∧ wr.heap.size < w2.heap.size) := ⟨fun hs => by
        rcases hS2 _ hs with h | h
        · have := hW.lt _ h; omega
        · simp at h; omega, hB2.lt⟩
      clear hO2 hS2 hO2' hS2' hO hSS hW t0 t1 t2
      go_wp2_with fail
      refine (varint_any B g v2 _ t.rule.size w2 hW2 hza.out (by omega) (by have := HLN.out; unfold encT1 at this; simp only [List.length_append] at this ⊢; omega)).mono ?_
      rintro e w3 ⟨rfl, v3, hW3, hO3, hS3⟩
      have hB3 := hB2.off hO3 hne.out.1
      have hne3 : Hid (¬ Wset g v3 wr.heap.size ∧ wr.heap.size < w3.heap.size) := ⟨fun hs => by
        rcases hS3 _ hs with h | h
        · exact hne.out.1 h
        · have := hne.out.2; omega, hB3.lt⟩
      obtain ⟨hOb, hSb⟩ := Wri.chain hOa hSa hO3 hS3
      have hzb := keep (Nat.le_trans hza.out hO3.size)
      clear hO3 hS3 hOa hSa q0 q1 q2 hB2
      have q0 := hB3.cell 0
      have q1 := hB3.cell 1
      have q2 := hB3.cell 2
      simp only [List.getElem?_toArray, List.getElem?_cons_zero, List.getElem?_cons_succ] at q0 q1 q2
      have p0 := hW3.b.cell 0
      simp only [List.getElem?_toArray, List.getElem?_cons_zero] at p0
      have hlA := keep (show (L ++ uvar (zz t.host) ++ uvar t.rule.size).length + t.rule.size ≤ 140737488355328 by have := HLN.out; unfold encT1 at this; simp only [List.length_append, Array.length_toList, ByteArray.size_data] at this ⊢; omega)
      go_upto_region 6 with fail
      go_region_law (refine step_appendBs elB Try.underlying9 rfl (.tmp 32) (.tmp 34) rfl B v3 _ rfl hW3.o.drew t.rule rfl hlA.out hzb.out ?_; intro v4 w4 hown4 hg4 hk4; have HR := keep (hW3.drew.step hown4 hg4 hk4); obtain ⟨A4, n4, c4, rfl⟩ := hown4.shape; have p4 := hg4.cell (show w3.drew.cell? ⟨g, 0, none⟩ = some v3 from p0) (by exact fun e => hW3.n e.symm); have f4 : w4.frozen? ⟨g, 0, none⟩ = false := (hW3.drew.b.grown hg4 (by exact fun e => hW3.n e.symm)).frozen 0)
      all_goals
        obtain ⟨R1, R2, R3⟩ := HR.out
        have hW5 := R1
        have hO5 : Off (Wset g v3) w3 _ := ⟨R2.os, R2.tape, R2.output, R2.size, R2.block⟩
        have hB5 := hB3.off hO5 hne3.out.1
        obtain ⟨hOc, hSc⟩ := Wri.chain hOb hSb hO5 R3
        have hne5 : Hid (¬ Wset g (Value.slice A4 n4 c4) wr.heap.size) := fun hs => by
          rcases R3 _ hs with h | h
          · exact hne3.out.1 h
          · have := hne3.out.2; have : w3.heap.size ≤ wr.heap.size := h; omega
        have hzc := keep (Nat.le_trans hzb.out hO5.size)
        clear HR R1 R2 R3 hO5 hOb hSb hown4 hg4 p4 f4 q0 q1 q2 p0 hB3 hW3
        generalize hw5 : w4.setCell ⟨g, 0, none⟩ (Value.slice A4 n4 c4) = w5 at *
        generalize Value.slice A4 n4 c4 = v5 at *
        clear hw5
        have q2 := hB5.cell 2
        simp only [List.getElem?_toArray, List.getElem?_cons_zero, List.getElem?_cons_succ] at q2
        go_wp2_with fail
        refine (ints_lit B g v5 _ [t.lines] w5 hW5 hzc.out (by rw [encI_one]; have := HLN.out; unfold encT1 at this; simp only [List.length_append] at this ⊢; omega) (by simp) 1 rfl _ rfl _ rfl).mono ?_
        rintro e w6 ⟨rfl, v6, hW6, hO6, hS6⟩
        obtain ⟨hOd, hSd⟩ := Wri.chain hOc hSc hO6 hS6
        rw [encI_one] at hW6
        have hf := hfin.out
        simp only [encT1, List.append_assoc] at hf hW6
        rw [hf] at hW6
        clear hO6 hS6 hOc hSc q2
        go_wp2_with fail
        go_roundw
        case rel => exact ⟨k + 1, v6, by go_num, by omega, hW6, hOd, hSd⟩
        case measure => simp [intOf]; omega
    · go_wp2_with fail
      go_end0
      rw [List.take_of_length_le (by omega)] at hW
      exact ⟨rfl, v', hW, hO, hSS.out⟩
end Go.Proofs.Ytkjhnipjhefndaa
