/- The reader of package manifest: varint, int, size, count, text. -/
import Derived.Test.YtkjhnipjhefndaaOff
import Derived.Test.YtkjhnipjhefndaaProg
import Derived.Laws.BitsAllLaws
namespace Go.Proofs.Ytkjhnipjhefndaa
open Go.RowKit

/-- Reading an unsigned varint: the number and what is left. -/
def rdGo : Nat → Nat → List UInt8 → Option (Nat × List UInt8)
  | _, _, [] => none
  | i, acc, c :: t => if 9 < i then none else if c.toNat < 128 then some (acc ||| (c.toNat % 128 * 2 ^ (7 * i) % 18446744073709551616), t) else rdGo (i + 1) (acc ||| (c.toNat % 128 * 2 ^ (7 * i) % 18446744073709551616)) t
def rdVar (l : List UInt8) : Option (Nat × List UInt8) := rdGo 0 0 l
/-- The reader at block gr: what is left, and whether it is bad. -/
structure Rd (w : World) (B gr : Nat) (v : Value) (l : List UInt8) (bad : Bool) : Prop where
  b : Blk w gr 104 #[v, .bool bad]
  s : BSl w (lt B) v l
  o : B ≤ gr
/-- What is behind a read of a varint. -/
def varS (l : List UInt8) (bad : Bool) : Nat × List UInt8 × Bool :=
  match rdVar l with
  | some (n, t) => (n, t, bad)
  | none => (0, [], true)
def RdRes (w : World) (B gr : Nat) (u : Value) (l : List UInt8) (bad : Bool) (e : Ending) (w' : World) : Prop :=
  e = .returned u ∧ ∃ v', Rd w' B gr v' l bad ∧ w.grownBy w' (some gr)

theorem varS_none {l : List UInt8} (bad : Bool) (h : rdVar l = none) : varS l bad = (0, [], true) := by unfold varS; rw [h]
theorem varS_some {l t : List UInt8} {n : Nat} (bad : Bool) (h : rdVar l = some (n, t)) : varS l bad = (n, t, bad) := by unfold varS; rw [h]
section
variable {w : World} {S : Nat → Prop} {b o n c k size : Nat} {xs : List Value}
theorem Sl.tail1 (h : Sl w S 1 (.slice (some ⟨b, o, none⟩) n k) n xs) (hk : k ≤ n) : Sl w S 1 (.slice (some ⟨b, o, none⟩) (n - k) 0) (n - k) (xs.drop k) := by
  have := h.drop hk
  rwa [if_pos rfl, Nat.sub_self, Nat.mul_one] at this
theorem Sl.tail2 (h : Sl w S 1 (.slice (some ⟨b, o, none⟩) n c) n xs) (hk : k ≤ n) (hc : c ≠ k) : Sl w S 1 (.slice (some ⟨b, o + k, none⟩) (n - k) (c - k)) (n - k) (xs.drop k) := by
  have := h.drop hk
  rw [if_neg hc, Nat.mul_one] at this
  have e : (some (⟨b, o, none⟩ : Addr)).map (·.add k) = some ⟨b, o + k, none⟩ := by
    show some ((⟨b, o, none⟩ : Addr).add k) = _
    rw [Addr.add_lit]
  rwa [e] at this
end
section
variable {w : World} {B gr : Nat} {v : Value} {l : List UInt8} {bad : Bool}
theorem bsl_set {u : Value} {t : List UInt8} {p : Addr} {x : Value} (h : BSl w (lt B) u t) (hp : B ≤ p.block) : BSl (w.setCell p x) (lt B) u t :=
  Sl.keep h fun q hq => World.cell?_of_block (Below.heap_setCell w p x q.block (by intro e; have : q.block < B := hq; omega))
theorem Rd.ok (h : Rd w B gr v l bad) {v' : Value} {t : List UInt8} (ht : BSl w (lt B) v' t) : Rd (w.setCell ⟨gr, 0, none⟩ v') B gr v' t bad ∧ w.grownBy (w.setCell ⟨gr, 0, none⟩ v') (some gr) :=
  ⟨⟨h.b.set_ 0 _, bsl_set ht h.o, h.o⟩, grownBy_set (World.grownBy.refl _ _) _ _⟩
theorem Rd.fail (h : Rd w B gr v l bad) : Rd ((w.setCell ⟨gr, 0, none⟩ (.slice none 0 0)).setCell ⟨gr, 1, none⟩ (.bool true)) B gr (.slice none 0 0) [] true ∧ w.grownBy ((w.setCell ⟨gr, 0, none⟩ (.slice none 0 0)).setCell ⟨gr, 1, none⟩ (.bool true)) (some gr) :=
  ⟨⟨(h.b.set_ 0 _).set_ 1 _, Sl.nil _ _ _ _ _, h.o⟩, grownBy_set (grownBy_set (World.grownBy.refl _ _) _ _) _ _⟩
end
theorem accN (acc k : Nat) (y : UInt8) (ha : acc < 18446744073709551616) : bits .or .u64 (acc : Int) (IntKind.u64.wrap (IntKind.u64.wrap (bits .and .u8 (y.toNat : Int) 127) * 2 ^ (7 * k))) = ((acc ||| (y.toNat % 128 * 2 ^ (7 * k) % 18446744073709551616) : Nat) : Int) ∧ acc ||| (y.toNat % 128 * 2 ^ (7 * k) % 18446744073709551616) < 18446744073709551616 := by
  have hy := y.toNat_lt
  have h1 : bits .and .u8 (y.toNat : Int) 127 = ((y.toNat % 128 : Nat) : Int) := by
    have := u8_and_nat y.toNat 127 (by omega) (by omega)
    rw [show (127 : Int) = ((127 : Nat) : Int) from rfl, this, nat_mask7]
  have h2 : IntKind.u64.wrap ((y.toNat % 128 : Nat) : Int) = ((y.toNat % 128 : Nat) : Int) := by simp [IntKind.wrap, IntKind.bits, IntKind.signed]; omega
  have h3 : IntKind.u64.wrap (((y.toNat % 128 : Nat) : Int) * 2 ^ (7 * k)) = ((y.toNat % 128 * 2 ^ (7 * k) % 18446744073709551616 : Nat) : Int) := by
    simp [IntKind.wrap, IntKind.bits, IntKind.signed]
  rw [h1, h2, h3]
  exact ⟨u64_or_nat _ _ ha (Nat.mod_lt _ (by omega)), Nat.or_lt_two_pow (n := 64) ha (Nat.mod_lt _ (by omega))⟩
theorem rdGo_nil (k acc : Nat) : rdGo k acc [] = none := by rw [rdGo]
theorem rdGo_long (k acc : Nat) (l : List UInt8) (h : 9 < k) : rdGo k acc l = none := by
  cases l with
  | nil => rw [rdGo]
  | cons c t => rw [rdGo, if_pos h]

set_option maxRecDepth 100000 in
theorem rvarint_any (B gr : Nat) (v : Value) (l : List UInt8) (bad : Bool) (w : World) (h : Rd w B gr v l bad) (_hm : l.length ≤ 1000000) :
    Calls Try.prog 80 #[.pointer (some ⟨gr, 0, none⟩)] w (RdRes w B gr (.int .u64 (varS l bad).1) (varS l bad).2.1 (varS l bad).2.2) := by
  have hs' : Sl w (lt B) 1 v l.length (l.map ub) := h.s
  obtain ⟨A, c, rfl, hc, hs⟩ := hs'.form
  obtain ⟨p0, p1⟩ := h.b.cell2
  have f0 := h.b.frozen 0
  have f1 := h.b.frozen 1
  have HB := keep (fun (e : rdVar l = none) => (by
    rw [varS_none bad e]
    exact ⟨rfl, _, h.fail⟩ : RdRes w B gr (.int .u64 (varS l bad).1) (varS l bad).2.1 (varS l bad).2.2 (.returned (.int .u64 0)) ((w.setCell ⟨gr, 0, none⟩ (.slice none 0 0)).setCell ⟨gr, 1, none⟩ (.bool true))))
  have HG := keep (fun (n : Nat) (t : List UInt8) (v' : Value) (e : rdVar l = some (n, t)) (ht : BSl w (lt B) v' t) => (by
    rw [varS_some bad e]
    exact ⟨rfl, _, h.ok ht⟩ : RdRes w B gr (.int .u64 (varS l bad).1) (varS l bad).2.1 (varS l bad).2.2 (.returned (.int .u64 n)) (w.setCell ⟨gr, 0, none⟩ v')))
  clear hs'
  generalize (varS l bad).1 = n1 at *
  generalize (varS l bad).2.1 = t1 at *
  generalize (varS l bad).2.2 = bad1 at *
  go_enter Try.func80, Try.ntmps80
  go_wp2_with fail
  go_loopw [3, 4, 5, 11] (fun n _ _ i wr => ∃ (k acc : Nat), k ≤ l.length ∧ acc < 18446744073709551616 ∧ Hid (rdGo k acc (l.drop k) = rdVar l) ∧ i = .int .i64 k ∧ n = .int .u64 acc ∧ wr = w) (fun _ _ _ i _ => l.length - (intOf i).toNat)
  case atStart => exact ⟨0, 0, Nat.zero_le _, by omega, rfl, rfl, rfl, rfl⟩
  case round =>
    obtain ⟨k, acc, hk, ha, hR, rfl, rfl, rfl⟩ := hrel
    by_cases hlt : k < l.length
    · obtain ⟨b, o, u, rfl, hb, hu, hcell⟩ := hs.at_ hlt
      have hu' : u = ub l[k] := by simpa [hlt] using hu.symm
      subst hu'
      simp only [ub] at hcell
      by_cases h9 : (9 : Int) < (k : Int)
      · have HE := keep (HB.out (hR.out.symm.trans (rdGo_long k acc _ (by omega))))
        go_wp2_with fail
        go_ret
        exact HE.out
      · have hR' := hR.out
        rw [List.drop_eq_getElem_cons hlt, rdGo, if_neg (by omega)] at hR'
        have hR2 := keep hR'
        clear hR' hR
        generalize l[k] = y at *
        obtain ⟨ea, eb⟩ := accN acc k y ha
        have hy := y.toNat_lt
        generalize acc ||| (y.toNat % 128 * 2 ^ (7 * k) % 18446744073709551616) = acc2 at *
        by_cases h128 : (y.toNat : Int) < 128
        · have hR3 := hR2.out
          rw [if_pos (by omega)] at hR3
          have hsd : Sl wr (lt B) 1 _ _ _ := hs
          by_cases hck : c = k + 1
          · subst hck
            have ht := hs.tail1 (k := k + 1) (by omega)
            have hl0 : l.length - (k + 1) = 0 := by omega
            have ht' : BSl wr (lt B) (.slice (some ⟨b, o, none⟩) 0 0) (l.drop (k + 1)) := by
              unfold BSl
              rw [List.map_drop, List.length_drop]
              rw [hl0] at ht ⊢
              exact ht
            have HE := keep (HG.out _ _ _ hR3.symm ht')
            clear ht ht' hR3 hsd hl0
            go_wp2_with fail
            go_ret
            exact HE.out
          · have ht := hs.tail2 (k := k + 1) (by omega) hck
            have ht' : BSl wr (lt B) (.slice (some ⟨b, o + (k + 1), none⟩) (l.length - (k + 1)) (c - (k + 1))) (l.drop (k + 1)) := by
              unfold BSl
              rw [List.map_drop, List.length_drop]
              exact ht
            have HE := keep (HG.out _ _ _ hR3.symm ht')
            clear ht ht' hR3 hsd
            go_wp2_with fail
            go_ret
            exact HE.out
        · have hR3 := hR2.out
          rw [if_neg (by omega)] at hR3
          have HR3 := keep hR3
          clear hR3
          go_wp2_with fail
          go_roundw
          case rel => exact ⟨k + 1, acc2, by omega, eb, HR3, by go_num, rfl, trivial⟩
          case measure => simp [intOf]; omega
    · have HE := keep (HB.out (by
        have := hR.out
        rw [List.drop_of_length_le (by omega), rdGo_nil] at this
        exact this.symm))
      go_wp2_with fail
      go_ret
      exact HE.out
end Go.Proofs.Ytkjhnipjhefndaa
