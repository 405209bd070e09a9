/- Contracts of package sample: Valid, Hash, Keep; the package's table is a premise on memory. -/
import Derived.Test.YtncmbdcicjolcaaDoorSearch
import Derived.Test.YtncmbdcicjolcaaDoorBytes
namespace Go.Proofs.YtncmbdcicjolcaaDoor
open Go.RowKit

def divs : List Int := [1, 2, 3, 4, 5, 6, 7, 8, 9, 10, 12, 14, 15, 16, 18, 20, 21, 24, 28, 30, 35, 36, 40, 42, 45, 48, 56, 60, 63, 70,
  72, 80, 84, 90, 105, 112, 120, 126, 140, 144, 168, 180, 210, 240, 252, 280, 315, 336, 360, 420, 504, 560, 630, 720, 840, 1008, 1260, 1680, 2520, 5040]
theorem divs_asc : AscI divs := by
  have h : divs.Pairwise (· < ·) := by decide
  intro i j hi hj hij
  exact List.pairwise_iff_getElem.1 h i j hi hj hij
theorem divs_bd : ∀ x ∈ divs, 1 ≤ x ∧ x ≤ 5040 := by decide
def vld (x : Int) : Bool := decide (x ∈ divs)
theorem vld_bd {x : Int} (h : vld x = true) : 1 ≤ x ∧ x ≤ 5040 := divs_bd x (by simpa [vld] using h)

/-- The package's table lies in blocks below B. -/
def Divs (w : World) (B : Nat) : Prop := ∃ A c, 0 < B ∧ w.cell? ⟨0, 0, none⟩ = some (.slice A 60 c) ∧ Sl w (lt B) 1 (.slice A 60 c) 60 (divs.map (.int .i64))
theorem Divs.below {w w' : World} {B : Nat} (h : Divs w B) (hb : Below B w w') : Divs w' B := by
  obtain ⟨A, c, h0, h1, h2⟩ := h
  exact ⟨A, c, h0, (hb.cell (p := ⟨0, 0, none⟩) h0).trans h1, h2.keep fun _ hp => hb.cell hp⟩
theorem Divs.grown {w w' : World} {B g : Nat} (h : Divs w B) (hg : w.grownBy w' (some g)) (hB : B ≤ g) (hw : B ≤ w.heap.size) : Divs w' B :=
  h.below ⟨hg.os, hg.tape, hg.output, hg.size, fun k hk => hg.block k (by omega) (fun e => by injection e; omega)⟩

theorem valid_any (x : Int) (w : World) (B : Nat) (h : Divs w B) : Calls Tryd.prog 19 #[.int .i64 x] w fun e w' => e = .returned (.bool (vld x)) ∧ w = w' := by
  obtain ⟨A, c, h0, h1, h2⟩ := h
  go_enter Tryd.func19, Tryd.ntmps19
  go_wp2_with fail
  refine (bsearch_any _ divs x _ (lt B) h2 divs_asc (by decide)).mono ?_
  rintro e w1 ⟨i, rfl, _, _, _, rfl⟩
  go_wp2_with fail
  go_ret
  exact ⟨rfl, rfl⟩

def sstep (h : Int) (c : UInt8) : Int := (h * 263 + (c.toNat : Int) + 1) % 1000003
def sfold (l : List UInt8) : Int := l.foldl sstep 0
theorem sfold_snoc (l : List UInt8) (b : UInt8) : sfold (l ++ [b]) = sstep (sfold l) b := by simp [sfold]
theorem sfold_bd (l : List UInt8) : 0 ≤ sfold l ∧ sfold l < 1000003 := by
  rcases List.eq_nil_or_concat l with rfl | ⟨m, b, rfl⟩
  · simp [sfold]
  · rw [List.concat_eq_append, sfold_snoc]; unfold sstep; omega
/-- The hash of a trace. -/
def shash (s : ByteArray) : Int := sfold s.data.toList % 5040
theorem shash_bd (s : ByteArray) : 0 ≤ shash s ∧ shash s < 5040 := by unfold shash; omega
theorem stake_snoc (s : ByteArray) (k : Nat) (h : k < s.size) : s.data.toList.take (k + 1) = s.data.toList.take k ++ [s[k]] := by
  rw [List.take_succ_eq_append_getElem (by simpa using h)]; rfl

theorem shash_any (s : ByteArray) (w : World) (hs : s.size ≤ maxLen) :
    Calls Tryd.prog 16 #[.string s] w fun e w' => e = .returned (.int .i64 (shash s)) ∧ Below w.heap.size w w' := by
  unfold maxLen at hs
  go_enter Tryd.func16, Tryd.ntmps16
  go_wp2_with (refine wpList_bytes rfl _ _ 5 _ rfl _ rfl Tryd.underlying9 Tryd.underlying26 Tryd.underlying5 ?_; intro c w1 hc hb hlt hrow)
  go_loop [3, 5, 9] (fun h _ i => ∃ k : Nat, k ≤ s.size ∧ i = .int .i64 k ∧ h = .int .i64 (sfold (s.data.toList.take k))) (fun _ _ i => s.size - (intOf i).toNat)
  case atStart => exact ⟨0, Nat.zero_le _, rfl, rfl⟩
  case round =>
    obtain ⟨k, hk, rfl, rfl⟩ := hrel
    have hbd := sfold_bd (s.data.toList.take k)
    by_cases hlt : k < s.size
    · have hcell : w1.cell? ⟨w.heap.size, k, none⟩ = some (.int .u8 (s[k].toNat : Int)) := by
        have := hrow k (.int .u8 (s[k].toNat : Int)) (by simp [List.getElem?_eq_getElem (show k < s.data.toList.length by simpa using hlt)]; rfl)
        simpa using this
      have hsn : sfold (s.data.toList.take (k + 1)) = (sfold (s.data.toList.take k) * 263 + (s[k].toNat : Int) + 1) % 1000003 := by rw [stake_snoc s k hlt, sfold_snoc]; rfl
      have HS := keep hsn
      have hu : (s[k].toNat : Int) < 256 := by have := s[k].toNat_lt; omega
      have hu0 : (0 : Int) ≤ (s[k].toNat : Int) := by omega
      clear hsn hrow
      generalize sfold (s.data.toList.take k) = x at *
      generalize (s[k].toNat : Int) = y at *
      go_wp2
      go_round
      case rel => exact ⟨k + 1, by omega, by go_num, by rw [HS.out]⟩
      case measure => simp [intOf]; omega
    · have ht : sfold (s.data.toList.take k) = sfold s.data.toList := by rw [List.take_of_length_le (by simp; omega)]
      have HT := keep ht
      clear ht
      generalize sfold (s.data.toList.take k) = x at *
      go_wp2
      go_ret
      exact ⟨ret_int (by rw [shash, ← HT.out]), hb⟩

theorem tmod5040 (key : Int) : (key.tmod 5040 + 5040) % 5040 = key % 5040 := by
  have := Int.mul_tdiv_add_tmod key 5040
  omega
/-- Is a trace kept, with a weight that is valid? -/
def keepB (key : Int) (s : ByteArray) (weight : Int) : Bool := decide ((shash s + key % 5040) % 5040 < 5040 / weight)

theorem keep_no (key weight : Int) (s : ByteArray) (w : World) (B : Nat) (h : Divs w B) (hv : vld weight = false) :
    Calls Tryd.prog 9 #[.int .i64 key, .string s, .int .i64 weight] w fun e w' => e = .returned (.bool false) ∧ w = w' := by
  have HV := keep hv
  clear hv
  go_enter Tryd.func9, Tryd.ntmps9
  go_wp2_with fail
  refine (valid_any weight _ B h).mono ?_
  rintro e w1 ⟨he, rfl⟩
  rw [HV.out] at he
  subst he
  go_wp2_with fail
  go_ret
  exact ⟨rfl, rfl⟩

theorem keep_yes (key weight : Int) (s : ByteArray) (w : World) (B : Nat) (h : Divs w B) (hs : s.size ≤ maxLen) (hv : vld weight = true) :
    Calls Tryd.prog 9 #[.int .i64 key, .string s, .int .i64 weight] w fun e w' => e = .returned (.bool (keepB key s weight)) ∧ Below w.heap.size w w' := by
  obtain ⟨v1, v2⟩ := vld_bd hv
  have HV := keep hv
  clear hv
  have t1 : key.tmod 5040 < 5040 := Int.tmod_lt_of_pos key (by omega)
  have t0 : -5040 < key.tmod 5040 := Int.lt_tmod_of_pos key (by omega)
  have hkk := keep (tmod5040 key)
  have hb := shash_bd s
  go_enter Tryd.func9, Tryd.ntmps9
  go_wp2_with fail
  refine (valid_any weight _ B h).mono ?_
  rintro e w1 ⟨he, rfl⟩
  rw [HV.out] at he
  subst he
  go_upto_region 4 with fail
  rw [hkk.out]
  have hk0 : 0 ≤ key % 5040 := by omega
  have hk1 : key % 5040 < 5040 := by omega
  generalize hkq : key % 5040 = kk at *
  have HKQ := keep hkq
  clear hkq hkk t0 t1
  generalize hsq : shash s = sh at *
  have HSQ := keep hsq
  clear hsq
  have e1 : IntKind.i64.wrap (sh + kk) = sh + kk := IntWalk.i64_in _ (by omega)
  have e2 : (sh + kk).tmod 5040 = (sh + kk) % 5040 := Int.tmod_eq_emod_of_nonneg (by omega)
  have e3 : Int.tdiv 5040 weight = 5040 / weight := Int.tdiv_eq_ediv_of_nonneg (by omega)
  have e4 : ¬ weight = 0 := by omega
  have d0 : 0 ≤ 5040 / weight := Int.ediv_nonneg (by omega) (by omega)
  have d1 : 5040 / weight ≤ 5040 := Int.ediv_le_self _ (by omega)
  have e5 : IntKind.i64.wrap (5040 / weight) = 5040 / weight := IntWalk.i64_in _ (by omega)
  go_region_held3 (Held w.heap.size w) (first | exact Held.start _ _ | exact Held.call (by assumption) (by assumption) (Nat.le_refl _) | assumption)
    (first | (go_at_call 16; refine (shash_any _ _ hs).mono ?_; rw [HSQ.out]; rintro e w2 ⟨rfl, hb2⟩))
  have hH : Held w.heap.size w w2 := by assumption
  go_wp2_with fail
  go_ret
  exact ⟨ret_bool (by rw [keepB, HSQ.out, HKQ.out]), hH.2.2⟩
end Go.Proofs.YtncmbdcicjolcaaDoor
