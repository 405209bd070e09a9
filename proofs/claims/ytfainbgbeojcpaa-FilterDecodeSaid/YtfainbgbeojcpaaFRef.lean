/- The contract of logtideref26.Decode. -/
import Derived.Test.YtfainbgbeojcpaaFEnc
import Derived.IntWalk
namespace Go.Proofs.Ytfainbgbeojcpaa
open Go.RowKit

theorem i64_or_nat (a b : Nat) (ha : a < 4611686018427387904) (hb : b < 4611686018427387904) : bits .or .i64 (a : Int) (b : Int) = ((a ||| b : Nat) : Int) := by
  have hx : a ||| b < 2 ^ 62 := Nat.or_lt_two_pow (by omega) (by omega)
  show IntKind.i64.wrap ((BitVec.ofInt 64 (a : Int) ||| BitVec.ofInt 64 (b : Int)).toNat : Int) = _
  rw [BitVec.toNat_or, ofInt_u64 a (by omega), ofInt_u64 b (by omega)]
  exact IntWalk.i64_in _ (by omega)
theorem or_len (x y : Nat) (hx : x < 256) (hy : y < 256) : bits .or .i64 ((x : Int) * 256) (y : Int) = ((x * 256 + y : Nat) : Int) := by
  have h := i64_or_nat (x * 256) y (by omega) (by omega)
  have e : x * 256 ||| y = x * 256 + y := by
    have := Nat.shiftLeft_add_eq_or_of_lt (i := 8) (b := y) (by omega) x
    rw [Nat.shiftLeft_eq] at this
    exact this.symm
  rw [e] at h
  simpa using h
theorem BSl.at_ {w : World} {S : Nat → Prop} {A : Option Addr} {c k : Nat} {l : List UInt8} (h : BSl w S (.slice A l.length c) l) (hk : k < l.length) :
    ∃ b o, A = some ⟨b, o, none⟩ ∧ S b ∧ w.cell? ⟨b, o + k, none⟩ = some (.int .u8 (l[k].toNat : Int)) := by
  have h' : Sl w S 1 (.slice A l.length c) l.length (l.map ub) := h
  obtain ⟨b, o, u, hA, hb, hx, hc⟩ := h'.at_ hk
  have : u = ub l[k] := by simpa [hk] using hx.symm
  subst this
  exact ⟨b, o, hA, hb, hc⟩
theorem BSl.cells {w : World} {S : Nat → Prop} {b o c : Nat} {l : List UInt8} (h : BSl w S (.slice (some ⟨b, o, none⟩) l.length c) l) {k : Nat} (hk : k < l.length) :
    w.cell? ⟨b, o + k, none⟩ = some (.int .u8 (l[k].toNat : Int)) := by
  obtain ⟨b', o', e, _, hc⟩ := h.at_ hk
  injection e with e
  injection e with e1 e2
  subst e1 e2
  exact hc
theorem BSl.form {w : World} {S : Nat → Prop} {v : Value} {l : List UInt8} (h : BSl w S v l) : ∃ A c, v = .slice A l.length c ∧ l.length ≤ c ∧ BSl w S (.slice A l.length c) l := Sl.form h
def DecFRes (w : World) (b : List UInt8) (e : Ending) (w' : World) : Prop := UnionRes w (decSpec b) e w'
theorem decF_len (b : List UInt8) (h : okLen b = false) : decSpec b = (0, [], 22) := by
  unfold decSpec
  rw [if_neg (by rw [h]; simp)]
set_option maxRecDepth 100000 in
theorem refDecF_short (v : Value) (b : List UInt8) (w : World) (h : BSl w (lt w.heap.size) v b) (hm : b.length ≤ 1000000) (hk : okLen b = false) :
    Calls Try.prog 29 #[v] w (DecFRes w b) := by
  obtain ⟨A, c, rfl, hc, h⟩ := h.form
  have HD := keep (decF_len b hk)
  by_cases h3 : b.length < 3
  · have d : decide ((b.length : Int) < 3) = true := by simp; omega
    clear hk
    go_enter Try.func29, Try.ntmps29
    go_wp2_with fail
    go_quiet (fail)
    go_wp2_with fail
    refine bodyPost_ret (v := .tuple #[.agg #[.int .i64 0, .slice none 0 0], .int .i64 22]) (by simp [results, Try.results29, go_sem]) rfl ?_
    unfold DecFRes
    rw [HD.out]
    exact ⟨_, rfl, Sl.nil _ _ _ _ _, ((below_drewN ((Below.refl _ w).alloc (Nat.le_refl _) _) _).setCell (p := ⟨w.heap.size, 0, none⟩) (Nat.le_refl _) _).setCell (p := ⟨w.heap.size, 1, none⟩) (Nat.le_refl _) _⟩
  · have d : decide ((b.length : Int) < 3) = false := by simp; omega
    obtain ⟨g, o, rfl, hg, hx1⟩ := h.at_ (k := 1) (by omega)
    have hx2 := h.cells (k := 2) (by omega)
    have e1 : b.getD 1 0 = b[1] := by simp [show 1 < b.length by omega]
    have e2 : b.getD 2 0 = b[2] := by simp [show 2 < b.length by omega]
    have h1 := b[1].toNat_lt
    have h2 := b[2].toNat_lt
    have eo := or_len b[1].toNat b[2].toNat h1 h2
    have hne : ¬ b.length = 3 + 8 * (b[1].toNat * 256 + b[2].toNat) := by
      unfold okLen at hk
      rw [e1, e2] at hk
      simp only [Bool.and_eq_false_iff, decide_eq_false_iff_not] at hk
      omega
    obtain ⟨n, hn⟩ : ∃ n, b[1].toNat * 256 + b[2].toNat = n := ⟨_, rfl⟩
    rw [hn] at eo hne
    have hn6 : n ≤ 65535 := by omega
    have dne : ((b.length : Int) != 3 + 8 * (n : Int)) = true := by rw [bne_iff_ne]; omega
    have hxx1 : ∀ k, ((w.alloc (.cells #[.int .i64 0, .slice none 0 0] 27)).drewN k).cell? ⟨g, o + 1, none⟩ = some (.int .u8 (b[1].toNat : Int)) := fun k => (((Below.refl w.heap.size w).alloc (Nat.le_refl _) _).cell (p := ⟨g, o + 1, none⟩) hg).trans hx1
    have i1 : (1 : Int) < (b.length : Int) := by omega
    have i2 : (2 : Int) < (b.length : Int) := by omega
    have hb1 : (b[1].toNat : Int) < 256 := by omega
    have hb2 : (b[2].toNat : Int) < 256 := by omega
    clear hk h1 h2 e1 e2 hn hne hxx1
    generalize b[1].toNat = x at *
    generalize b[2].toNat = y at *
    go_enter Try.func29, Try.ntmps29
    go_wp2_with fail
    go_quiet (fail)
    go_wp2_with fail
    refine bodyPost_ret (v := .tuple #[.agg #[.int .i64 0, .slice none 0 0], .int .i64 22]) (by simp [results, Try.results29, go_sem]) rfl ?_
    unfold DecFRes
    rw [HD.out]
    exact ⟨_, rfl, Sl.nil _ _ _ _ _, ((below_drewN ((Below.refl _ w).alloc (Nat.le_refl _) _) _).setCell (p := ⟨w.heap.size, 0, none⟩) (Nat.le_refl _) _).setCell (p := ⟨w.heap.size, 1, none⟩) (Nat.le_refl _) _⟩
end Go.Proofs.Ytfainbgbeojcpaa
