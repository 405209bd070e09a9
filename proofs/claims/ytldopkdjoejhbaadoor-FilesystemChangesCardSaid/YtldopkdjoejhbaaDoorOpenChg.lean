/- Arguments opened: a change of a directory that came in. -/
import Derived.Test.YtldopkdjoejhbaaDoorOpen
import Derived.Test.YtldopkdjoejhbaaDoorFsRun
namespace Go.Proofs.YtldopkdjoejhbaaDoor
open Go.ChangeShapes Go.WideShapes Go.ChangeAt Go.RowKit

section
variable {H : Type} {enc : TypeId × Value → H} {w : World}
theorem bys_of (l : List Int) (h : ∀ n ∈ l, (Lit.int .u8 n).wf = true) : ∃ d : List UInt8, l.map (Value.int .u8) = bys d ∧ d.length = l.length := by
  refine ⟨l.map fun z => UInt8.ofNat z.toNat, ?_, by simp⟩
  unfold bys
  rw [List.map_map]
  apply List.map_congr_left
  intro z hz
  have hb : 0 ≤ z ∧ z ≤ 255 := by simpa [Lit.wf, IntKind.min, IntKind.max, IntKind.signed, IntKind.bits] using h z hz
  simp only [Function.comp_apply, UInt8.toNat_ofNat']
  congr 1
  omega
theorem cc_int : Tryd.prog.cellsOf 3 = 1 := by kernel_rfl
theorem cc_str : Tryd.prog.cellsOf 9 = 1 := by kernel_rfl
theorem cc_byt : Tryd.prog.cellsOf 22 = 1 := by kernel_rfl
theorem cc_chg : Tryd.prog.cellsOf 37 = 5 := by kernel_rfl
set_option maxRecDepth 100000 in
theorem chg_int {n : Nat} {c : Value} {o : Option (DataW H × List MemPlace)} (ho : o.isSome = true) (h : DataW.trod enc Tryd.prog w 0 (fun _ => true) true n 3 [c] = o) : ∃ z, c = .int .i64 z ∧ (Lit.int .i64 z).wf = true := by
  obtain ⟨y, rfl⟩ := Option.isSome_iff_exists.1 ho
  obtain ⟨z, hz, _, hw⟩ := DataW.trod_int Tryd.underlying3 h
  simp at hz
  exact ⟨z, hz, hw⟩
set_option maxRecDepth 100000 in
theorem chg_str {n : Nat} {c : Value} {o : Option (DataW H × List MemPlace)} (ho : o.isSome = true) (h : DataW.trod enc Tryd.prog w 0 (fun _ => true) true n 9 [c] = o) : ∃ z, c = .string z ∧ z.size ≤ maxLen := by
  obtain ⟨y, rfl⟩ := Option.isSome_iff_exists.1 ho
  obtain ⟨z, hz, _, hw⟩ := DataW.trod_string Tryd.underlying9 h
  simp at hz
  exact ⟨z, hz, hw⟩
set_option maxRecDepth 100000 in
theorem open_chg {b0 : Nat} {r : Reach} {v : Value} {d : DataW H} {p : List MemPlace} (hv : Value.okWide Tryd.prog w r b0 37 v) (h : DataW.Trod enc Tryd.prog w 0 (fun _ => true) true 37 v d p) :
    ∃ c : Ch, v = .agg (chV c) ∧ BR w c.dv c.data ∧ c.data.length ≤ maxLen ∧ c.n ≤ 9223372036854775807 ∧ c.name.size ≤ 9223372036854775807 ∧ c.dst.size ≤ 9223372036854775807 := by
  obtain ⟨cs, rfl, hsz⟩ := okWide_struct Tryd.underlying37 hv
  rw [cc_chg] at hsz
  obtain ⟨l⟩ := cs
  obtain ⟨fuel, hf0⟩ := h
  match l, hsz with
  | [k0, k1, k2, k3, k4], _ =>
    have hf1 : DataW.trod enc Tryd.prog w 0 (fun _ => true) true fuel 37 [k0, k1, k2, k3, k4] = some (d, p) := hf0
    obtain ⟨xs, n', _, _, _, hxs, hf⟩ := DataW.trod_struct Tryd.underlying37 hf1
    have hxl : xs.length = 5 := hxs
    obtain ⟨z0, rfl, w0⟩ := chg_int (c := k0) (o := xs[0]?) (by simp [hxl]) (by simpa [cc_int] using hf 0 _ rfl)
    obtain ⟨z1, rfl, w1⟩ := chg_str (c := k1) (o := xs[1]?) (by simp [hxl]) (by simpa [cc_str] using hf 1 _ rfl)
    obtain ⟨z2, rfl, w2⟩ := chg_str (c := k2) (o := xs[2]?) (by simp [hxl]) (by simpa [cc_str] using hf 2 _ rfl)
    obtain ⟨y3, hy3⟩ : ∃ y, xs[3]? = some y := ⟨xs[3]'(by omega), List.getElem?_eq_getElem _⟩
    have h3 : DataW.trod enc Tryd.prog w 0 (fun _ => true) true n' 22 [k3] = some y3 := by rw [← hy3]; simpa [cc_byt] using hf 3 _ rfl
    obtain ⟨z4, rfl, w4⟩ := chg_int (c := k4) (o := xs[4]?) (by simp [hxl]) (by simpa [cc_int] using hf 4 _ rfl)
    obtain ⟨l3, s3, m3, r3⟩ := sl_ints Tryd.underlying22 Tryd.underlying5 (by kernel_rfl) h3
    obtain ⟨dd, hd, hdl⟩ := bys_of l3 r3
    rw [hd, ← hdl] at s3
    refine ⟨⟨z0, z1, z2, k3, dd, z4⟩, rfl, s3, by rw [hdl]; exact m3, ?_, ?_, ?_⟩
    · have : -9223372036854775808 ≤ z4 ∧ z4 ≤ 9223372036854775807 := by simpa [Lit.wf, IntKind.min, IntKind.max, IntKind.signed, IntKind.bits] using w4
      exact this.2
    · unfold maxLen at w1; show z1.size ≤ _; omega
    · unfold maxLen at w2; show z2.size ≤ _; omega
end
end Go.Proofs.YtldopkdjoejhbaaDoor
