/- The framed lines of some bytes: plain Lean; what Frame hands back. -/
import Derived.Test.YtimldjlegbdldaaLines
import Derived.Test.YtimldjlegbdldaaTextRef
namespace Go.Proofs.Ytimldjlegbdldaa
open Go.RowKit

/-- The bytes of a span that begins behind off. -/
def segB (data : List UInt8) (off : Nat) (p : Nat × Nat) : List UInt8 := (data.drop (off + p.1)).take (p.2 - p.1)
/-- The cells of a framed line. -/
def frV (data : List UInt8) (off : Nat) (lim : Int) (p : Nat × Nat) : List Value :=
  if lim < ((p.2 - p.1 : Nat) : Int) then [.int .i64 ((off + p.1 : Nat) : Int), .int .i64 ((p.2 - p.1 : Nat) : Int), .string ⟨#[]⟩, .int .i64 0, .bool true]
  else [.int .i64 ((off + p.1 : Nat) : Int), .int .i64 ((p.2 - p.1 : Nat) : Int), .string ⟨(rep (stripB (segB data off p))).1.toArray⟩, .int .i64 ((rep (stripB (segB data off p))).2 : Nat), .bool false]
theorem frV_len (data : List UInt8) (off : Nat) (lim : Int) (p : Nat × Nat) : (frV data off lim p).length = 5 := by unfold frV; split <;> rfl
def frOk (data : List UInt8) (off : Int) : Bool := decide (0 ≤ off) && decide (off ≤ (data.length : Int))
def frSp (data : List UInt8) (off : Int) : List (Nat × Nat) := if frOk data off then spans (data.drop off.toNat) else []
def frEnd (data : List UInt8) (off : Int) : Int := if frOk data off then off + (spEnd (data.drop off.toNat) : Nat) else off
def frL (data : List UInt8) (off lim : Int) : List Value := (frSp data off).flatMap (frV data off.toNat lim)
theorem elFramed : Elem Try.prog 34 41 5 48 (.agg #[.int .i64 0, .int .i64 0, .string ⟨#[]⟩, .int .i64 0, .bool false]) := ⟨Try.underlying34, by kernel_rfl, rfl, by decide⟩
/-- What Frame hands back. -/
def FrameRes (w : World) (data : List UInt8) (off lim : Int) (e : Ending) (w' : World) : Prop :=
  ∃ v, e = .returned (.tuple #[v, .int .i64 (frEnd data off)]) ∧ w'.ownsRow w.heap.size 41 5 v (frSp data off).length (frL data off lim) ∧ Below w.heap.size w w'
theorem frSp_len (data : List UInt8) (off : Int) : (frSp data off).length ≤ data.length := by
  unfold frSp
  split
  · have h1 := spans_len (data.drop off.toNat)
    rw [List.length_drop] at h1
    omega
  · simp
theorem frEnd_eq {data : List UInt8} {off : Nat} (h : off ≤ data.length) : frEnd data off = ((off + spEnd (data.drop off) : Nat) : Int) ∧ frSp data off = spans (data.drop off) := by
  have hk : frOk data off = true := by simp [frOk]; omega
  unfold frEnd frSp
  rw [hk, if_pos rfl, if_pos rfl, Int.toNat_natCast]
  exact ⟨by omega, rfl⟩
/-- A span of the rest lies in the data. -/
theorem span_in {data : List UInt8} {off : Nat} (h : off ≤ data.length) {p : Nat × Nat} (hp : p ∈ spans (data.drop off)) : p.1 < p.2 ∧ off + p.2 ≤ data.length := by
  obtain ⟨h1, h2, _⟩ := spans_ok _ p hp
  rw [List.length_drop] at h2
  omega
/-- The framed line that a program makes of a span, in one struct. -/
def frA (data : List UInt8) (off : Nat) (lim : Int) (p : Nat × Nat) : Value := .agg (frV data off lim p).toArray
/-- The end, line by line. -/
def endK (off : Nat) (ps : List (Nat × Nat)) (k : Nat) : Nat := if k = 0 then off else off + (ps.getD (k - 1) (0, 0)).2
theorem endK_all {data : List UInt8} {off : Nat} : endK off (spans (data.drop off)) (spans (data.drop off)).length = off + spEnd (data.drop off) := by
  have hc := spans_chn (data.drop off)
  obtain ⟨ps, hps⟩ : ∃ ps, spans (data.drop off) = ps := ⟨_, rfl⟩
  rw [hps] at hc ⊢
  unfold endK
  rcases Nat.eq_zero_or_pos ps.length with h0 | h0
  · obtain rfl : ps = [] := List.eq_nil_of_length_eq_zero h0
    rw [if_pos h0]
    have : 0 = spEnd (data.drop off) := hc
    omega
  · rw [if_neg (by omega)]
    have h1 := Chn.last ps 0 _ hc h0
    have e : ps.getD (ps.length - 1) (0, 0) = ps[ps.length - 1]'(by omega) := by simp [show ps.length - 1 < ps.length by omega]
    rw [e, h1]
/-- The cells of a span. -/
theorem sp_cells {w : World} {S : Nat → Prop} {A : Option Addr} {c k : Nat} {ps : List (Nat × Nat)} (h : Sl w S 2 (.slice A ps.length c) ps.length (ps.flatMap spV)) (hk : k < ps.length) :
    ∃ b o, A = some ⟨b, o, none⟩ ∧ S b ∧ w.cell? ⟨b, o + k * 2, none⟩ = some (.int .i64 ((ps[k]).1 : Nat)) ∧ w.cell? ⟨b, o + k * 2 + 1, none⟩ = some (.int .i64 ((ps[k]).2 : Nat)) := by
  obtain ⟨b, o, hA, hb, hrow⟩ := h.row (by omega)
  have hf : ∀ (qs : List (Nat × Nat)) (j : Nat) (hj : j < qs.length), (qs.flatMap spV)[j * 2]? = some (.int .i64 ((qs[j]).1 : Nat)) ∧ (qs.flatMap spV)[j * 2 + 1]? = some (.int .i64 ((qs[j]).2 : Nat)) := by
    intro qs
    induction qs with
    | nil => intro j hj; simp at hj
    | cons q qs ih =>
      intro j hj
      cases j with
      | zero => exact ⟨rfl, rfl⟩
      | succ j =>
        have := ih j (by simpa using hj)
        rw [List.flatMap_cons, List.getElem?_append_right (by simp [spV]; omega), List.getElem?_append_right (by simp [spV]; omega)]
        rw [show (j + 1) * 2 - (spV q).length = j * 2 by simp [spV]; omega, show (j + 1) * 2 + 1 - (spV q).length = j * 2 + 1 by simp [spV]; omega]
        simpa using this
  obtain ⟨h1, h2⟩ := hf ps k hk
  exact ⟨b, o, hA, hb, hrow _ _ h1, by have := hrow _ _ h2; rwa [← Nat.add_assoc] at this⟩
end Go.Proofs.Ytimldjlegbdldaa
