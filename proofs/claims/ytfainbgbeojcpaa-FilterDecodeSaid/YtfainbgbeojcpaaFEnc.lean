/- The contracts of filter.Encode and of its reference. -/
import Derived.Test.YtfainbgbeojcpaaFData
namespace Go.Proofs.Ytfainbgbeojcpaa
open Go.RowKit

theorem elB : Elem Try.prog 36 5 1 1 (.int .u8 0) := ⟨Try.underlying36, by kernel_rfl, rfl, by decide⟩
theorem ubI (y : Int) (n : Nat) (h : y = ((n % 256 : Nat) : Int)) : Value.int .u8 y = ub (UInt8.ofNat n) := by rw [ub, UInt8.toNat_ofNat', h]
theorem own_lit3 (w : World) (a b c : UInt8) : OwnB (w.alloc (.cells #[ub a, ub b, ub c] 5)) w.heap.size (.slice (some ⟨w.heap.size, 0, none⟩) 3 3) [a, b, c] :=
  .inr ⟨w.heap.size, 3, #[ub a, ub b, ub c], (0, 0), rfl, Nat.le_refl _, heap_alloc_new w _, .inl rfl, Nat.le_refl _, by unfold maxLen; omega, rfl, rfl⟩
def EncFRes (w : World) (h : Int) (l : List Int) (e : Ending) (w' : World) : Prop :=
  ∃ v, e = .returned (.tuple #[v, .int .i64 (if fok h l.length = true then 0 else 2)]) ∧ OwnB w' w.heap.size v (if fok h l.length = true then encF h l else []) ∧ Below w.heap.size w w'
theorem bodyF_take (l : List Int) (i : Nat) (hi : i < l.length) : bodyF (l.take (i + 1)) = bodyF (l.take i) ++ leT l[i].toNat 8 := by
  rw [List.take_succ_eq_append_getElem hi, bodyF_push]
set_option maxRecDepth 100000 in
set_option maxHeartbeats 2000000 in
theorem encF_ok (h : Int) (A : Option Addr) (c : Nat) (l : List Int) (w : World) (hs : Sl w (lt w.heap.size) 1 (.slice A l.length c) l.length (l.map (.int .u64))) (hl : ∀ x ∈ l, 0 ≤ x ∧ x < 18446744073709551616) (hf : fok h l.length = true) :
    Calls Try.prog 25 #[.agg #[.int .i64 h, .slice A l.length c]] w (EncFRes w h l) := by
  have hv' : ((1 ≤ h ∧ h ≤ 8) ∧ 1 ≤ l.length) ∧ l.length ≤ 1024 := by simpa [fok] using hf
  obtain ⟨⟨⟨h1, h8⟩, n1⟩, n2⟩ := hv'
  have HF := keep hf
  have HL := keep hl
  have H1k := keep hs
  clear hl
  go_enter Try.func25, Try.ntmps25
  go_wp2_with fail
  obtain ⟨W0, hW0⟩ : ∃ W0, w.alloc (.cells #[.int .i64 h, .slice A l.length c] 27) = W0 := ⟨_, rfl⟩
  have hBk : Blk W0 w.heap.size 27 #[.int .i64 h, .slice A l.length c] := hW0 ▸ Blk.new _ _ _
  have hb0 : Below w.heap.size w W0 := hW0 ▸ (Below.refl _ w).alloc (Nat.le_refl _) _
  have hgl := hBk.lt
  rw [hW0]
  clear hW0
  refine (check_ok h A l.length c W0 hf).mono ?_
  rintro e W1 ⟨rfl, hb1⟩
  have hBk1 := hBk.below hb1 hgl
  obtain ⟨c0, c1⟩ := hBk1.cell2
  have hbw1 := bchain hb0 hb1
  have hS1 := hs.below hbw1 (Nat.le_refl _)
  clear hf hs hBk hb0 hb1
  go_upto_region 6 with fail
  obtain ⟨W2, hW2⟩ : ∃ W2, W1.alloc (.cells #[.int .u8 h, .int .u8 ((l.length : Int) / 256), .int .u8 ((l.length : Int) % 256)] 5) = W2 := ⟨_, rfl⟩
  have hO0 : OwnB W2 W1.heap.size (.slice (some ⟨W1.heap.size, 0, none⟩) 3 3) (headF h l.length) := by
    rw [← hW2, ubI h (h % 256).toNat (by omega), ubI ((l.length : Int) / 256) (l.length / 256) (by omega), ubI ((l.length : Int) % 256) l.length (by omega)]
    exact own_lit3 W1 _ _ _
  have hb12 : Below W1.heap.size W1 W2 := hW2 ▸ (Below.refl _ W1).alloc (Nat.le_refl _) _
  have hbw2 := hbw1.trans (hb12.mono hbw1.size)
  have hBk2 := hBk1.below hb12 hBk1.lt
  obtain ⟨c0, c1⟩ := hBk2.cell2
  have hO0' := hO0.base_ (base' := w.heap.size) hbw1.size
  have hhd : Hid ((headF h l.length).length = 3) := keep rfl
  rw [hW2]
  clear hW2 hBk1 hb12 hO0 hS1
  have hS2 := keep (H1k.out.below hbw2 (Nat.le_refl _))
  obtain ⟨HD, hHD⟩ : ∃ HD, headF h l.length = HD := ⟨_, rfl⟩
  rw [hHD] at hO0' hhd
  have HHD := keep hHD
  clear hHD
  go_wp2_with fail
  go_loopw [6, 8, 9, 30, 34] (fun v6 _ _ i _ wr => ∃ (k : Nat), i = .int .i64 k ∧ Hid (k ≤ l.length) ∧ Hid (OwnB wr w.heap.size v6 (HD ++ bodyF (l.take k))) ∧ Hid (Below w.heap.size w wr)) (fun _ _ _ i _ _ => 2000 - (intOf i).toNat)
  case atStart => exact ⟨0, rfl, keep (Nat.zero_le _), keep (by simpa [bodyF] using hO0'), keep hbw2⟩
  case round =>
    obtain ⟨k, rfl, hk, hO, hb⟩ := hrel
    clear hO0'
    by_cases hlt : k < l.length
    · obtain ⟨b1, o1, u1, rfl, hb1, hx1, hc1⟩ := (H1k.out.below hb.out (Nat.le_refl _)).at_ hlt
      have hu : u1 = .int .u64 l[k] := by simpa [hlt] using hx1.symm
      subst hu
      have hi1 : (0 : Int) ≤ (k : Int) := by omega
      have hi2 : (k : Int) < (l.length : Int) := by omega
      have hxb := HL.out l[k] (List.getElem_mem _)
      have hbt := bodyF_take l k hlt
      obtain ⟨X, hX⟩ : ∃ X, l[k] = X := ⟨_, rfl⟩
      rw [hX] at hc1 hxb hbt
      obtain ⟨x, hx⟩ : ∃ x : Nat, X.toNat = x := ⟨_, rfl⟩
      have HXE := keep (show X = (x : Int) by have := hxb.1; omega)
      rw [hx] at hbt
      have HBT := keep hbt
      have hx64 : x < 18446744073709551616 := by have := hxb.2; omega
      have hPl : (HD ++ bodyF (l.take k)).length ≤ 10000 := by
        rw [List.length_append, bodyF_len, hhd.out, List.length_take]
        omega
      obtain ⟨PR, hPR⟩ : ∃ PR, HD ++ bodyF (l.take k) = PR := ⟨_, rfl⟩
      rw [hPR] at hO hPl
      have HPR := keep hPR
      have HXB := keep hx64
      clear hx1 hX hxb hbt hPR hx64 hx
      go_wp2_with fail
      obtain ⟨wo, rfl⟩ : ∃ wo : World, wo = wr := ⟨_, rfl⟩
      go_loopw [6, 9, 34] (fun v6 _ i wr => ∃ (j : Nat), i = .int .i64 j ∧ Hid (j ≤ 8) ∧ Hid (OwnB wr w.heap.size v6 (PR ++ leT x j)) ∧ Hid (Below w.heap.size w wr)) (fun _ _ i _ => 9 - (intOf i).toNat)
      case atStart => exact ⟨0, rfl, keep (by omega), keep (by simpa [leT] using hO.out), hb⟩
      case round =>
        obtain ⟨j, rfl, hj, hO2, hb2⟩ := hrel
        by_cases hj8 : j < 8
        · have hj1 : (j : Int) < 8 := by omega
          have hj0 : (0 : Int) ≤ (j : Int) := by omega
          obtain ⟨sh, hsh⟩ : ∃ sh : Nat, 8 * j = sh := ⟨_, rfl⟩
          have HLE := keep (by have := leT_succ x j; rw [hsh] at this; exact this)
          have hqb : Hid (Value.int .u8 (X / 2 ^ sh % 256) = ub (UInt8.ofNat (x / 2 ^ sh))) := keep (ubI _ _ (by rw [HXE.out]; simp))
          have hsh2 : 8 * (j : Int) = (sh : Int) := by omega
          have hsh64 : sh < 64 := by omega
          clear hsh
          have hql := keep (show (PR ++ leT x j).length + 1 ≤ 140737488355328 by rw [List.length_append, leT_len]; omega)
          have hbs := hb2.out.size
          go_wp2_with (refine wpList_pushB elB rfl rfl _ _ 43 rfl rfl rfl w.heap.size u6 (UInt8.ofNat (x / 2 ^ sh)) (PR ++ leT x j) hqb.out (fun _ => rfl) (fun _ => rfl) hO2.out hql.out hbs ?_; intro q v9 w9 hown9 hb9 hg9)
          go_roundw
          case rel => exact ⟨j + 1, by go_num, keep (by omega), keep (by rw [HLE.out, ← List.append_assoc]; exact hown9), keep (hb2.out.trans hb9)⟩
          case measure => simp [intOf]; omega
        · have hje : j = 8 := by have := hj.out; omega
          subst hje
          have hfin : Hid (OwnB wr w.heap.size u6 (HD ++ bodyF (l.take (k + 1)))) := keep (by rw [HBT.out, ← List.append_assoc, HPR.out]; exact hO2.out)
          go_wp2_with fail
          go_roundw
          case rel => exact ⟨k + 1, by go_num, keep (by omega), hfin, hb2⟩
          case measure => simp [intOf]; omega
    · have hke : k = l.length := by have := hk.out; omega
      have hi2 : ¬ (k : Int) < (l.length : Int) := by omega
      have hfin : Hid (OwnB wr w.heap.size u6 (encF h l)) := keep (by
        have := hO.out
        rw [hke, List.take_length, ← HHD.out] at this
        exact this)
      clear hke
      obtain ⟨A6, n6, c6, rfl⟩ := hfin.out.shape
      go_wp2_with fail
      refine bodyPost_ret (v := .tuple #[.slice A6 n6 c6, .int .i64 0]) (by simp [results, Try.results25, go_sem]) rfl ?_
      exact ⟨_, by rw [if_pos HF.out], by rw [if_pos HF.out]; exact hfin.out, hb.out⟩
set_option maxRecDepth 100000 in
set_option maxHeartbeats 2000000 in
theorem refEncF_ok (h : Int) (A : Option Addr) (c : Nat) (l : List Int) (w : World) (hs : Sl w (lt w.heap.size) 1 (.slice A l.length c) l.length (l.map (.int .u64))) (hl : ∀ x ∈ l, 0 ≤ x ∧ x < 18446744073709551616) (hf : fok h l.length = true) :
    Calls Try.prog 26 #[.agg #[.int .i64 h, .slice A l.length c]] w (EncFRes w h l) := by
  have hv' : ((1 ≤ h ∧ h ≤ 8) ∧ 1 ≤ l.length) ∧ l.length ≤ 1024 := by simpa [fok] using hf
  obtain ⟨⟨⟨h1, h8⟩, n1⟩, n2⟩ := hv'
  have HF := keep hf
  have HL := keep hl
  clear hl
  go_enter Try.func26, Try.ntmps26
  go_wp2_with fail
  obtain ⟨W0, hW0⟩ : ∃ W0, w.alloc (.cells #[.int .i64 h, .slice A l.length c] 27) = W0 := ⟨_, rfl⟩
  have hBk : Blk W0 w.heap.size 27 #[.int .i64 h, .slice A l.length c] := hW0 ▸ Blk.new _ _ _
  have hb0 : Below w.heap.size w W0 := hW0 ▸ (Below.refl _ w).alloc (Nat.le_refl _) _
  have hgl := hBk.lt
  rw [hW0]
  clear hW0
  refine (refCheck_ok h A l.length c W0 hf).mono ?_
  rintro e W1 ⟨rfl, hb1⟩
  have hBk1 := hBk.below hb1 hgl
  have HBK1 := keep hBk1
  obtain ⟨c0, c1⟩ := hBk1.cell2
  have hbw1 := bchain hb0 hb1
  have H1k := keep (hs.below hbw1 (Nat.le_refl _))
  have hgl1 : w.heap.size < W1.heap.size := hBk1.lt
  clear hf hs hBk hb0 hb1
  go_upto_region 5 with fail
  obtain ⟨W2, hW2⟩ : ∃ W2, W1.alloc (.cells #[.int .u8 h, .int .u8 ((l.length : Int) / 256), .int .u8 ((l.length : Int) % 256)] 5) = W2 := ⟨_, rfl⟩
  have hO0 : OwnB W2 W1.heap.size (.slice (some ⟨W1.heap.size, 0, none⟩) 3 3) (headF h l.length) := by
    rw [← hW2, ubI h (h % 256).toNat (by omega), ubI ((l.length : Int) / 256) (l.length / 256) (by omega), ubI ((l.length : Int) % 256) l.length (by omega)]
    exact own_lit3 W1 _ _ _
  have hb12 : Below W1.heap.size W1 W2 := hW2 ▸ (Below.refl _ W1).alloc (Nat.le_refl _) _
  have hhd : Hid ((headF h l.length).length = 3) := keep rfl
  rw [hW2]
  clear hW2 hBk1 c0 c1
  obtain ⟨HD, hHD⟩ : ∃ HD, headF h l.length = HD := ⟨_, rfl⟩
  rw [hHD] at hO0 hhd
  have HHD := keep hHD
  clear hHD
  go_upto_region 6 with fail
  go_loopw [5, 6, 7] (fun v6 i _ wr => ∃ (k : Nat), i = .int .i64 k ∧ Hid (k ≤ l.length) ∧ Hid (OwnB wr W1.heap.size v6 (HD ++ bodyF (l.take k))) ∧ Hid (Below W1.heap.size W1 wr)) (fun _ i _ _ => 2000 - (intOf i).toNat)
  case atStart => exact ⟨0, rfl, keep (Nat.zero_le _), keep (by simpa [bodyF] using hO0), keep hb12⟩
  case round =>
    obtain ⟨k, rfl, hk, hO, hb⟩ := hrel
    clear hO0
    have hB2 := HBK1.out.below hb.out hgl1
    obtain ⟨c0, c1⟩ := hB2.cell2
    by_cases hlt : k < l.length
    · have hw1 : w.heap.size ≤ W1.heap.size := by omega
      obtain ⟨b1, o1, u1, rfl, hb1, hx1, hc1⟩ := H1k.out.at_ hlt
      have hu : u1 = .int .u64 l[k] := by simpa [hlt] using hx1.symm
      subst hu
      have hb1' : b1 < W1.heap.size := Nat.lt_of_lt_of_le hb1 hw1
      have hi1 : (0 : Int) ≤ (k : Int) := by omega
      have hi2 : (k : Int) < (l.length : Int) := by omega
      have hxb := HL.out l[k] (List.getElem_mem _)
      have hbt := bodyF_take l k hlt
      obtain ⟨X, hX⟩ : ∃ X, l[k] = X := ⟨_, rfl⟩
      rw [hX] at hc1 hxb hbt
      obtain ⟨x, hx⟩ : ∃ x : Nat, X.toNat = x := ⟨_, rfl⟩
      have HXE := keep (show X = (x : Int) by have := hxb.1; omega)
      rw [hx] at hbt
      have HBT := keep hbt
      have hPl : (HD ++ bodyF (l.take k)).length ≤ 10000 := by
        rw [List.length_append, bodyF_len, hhd.out, List.length_take]
        omega
      obtain ⟨PR, hPR⟩ : ∃ PR, HD ++ bodyF (l.take k) = PR := ⟨_, rfl⟩
      rw [hPR] at hO hPl
      have HPR := keep hPR
      clear hx1 hX hxb hbt hPR hx hB2
      go_upto_region 9 with fail
      obtain ⟨wo, rfl⟩ : ∃ wo : World, wo = wr := ⟨_, rfl⟩
      go_loopw [5, 7] (fun v6 i wr => ∃ (j : Nat), i = .int .i64 j ∧ Hid (j ≤ 8) ∧ Hid (OwnB wr W1.heap.size v6 (PR ++ leT x j)) ∧ Hid (Below W1.heap.size W1 wr)) (fun _ i _ => 9 - (intOf i).toNat)
      case atStart => exact ⟨0, rfl, keep (by omega), keep (by simpa [leT] using hO.out), hb⟩
      case round =>
        obtain ⟨j, rfl, hj, hO2, hb2⟩ := hrel
        by_cases hj8 : j < 8
        · have hj1 : (j : Int) < 8 := by omega
          have hj0 : (0 : Int) ≤ (j : Int) := by omega
          obtain ⟨d0, d1⟩ := (HBK1.out.below hb2.out hgl1).cell2
          have hc2 := (hb2.out.cell (p := ⟨b1, o1 + k, none⟩) hb1').trans hc1
          obtain ⟨sh, hsh⟩ : ∃ sh : Nat, 8 * j = sh := ⟨_, rfl⟩
          have HLE := keep (by have := leT_succ x j; rw [hsh] at this; exact this)
          have hqb : Hid (Value.int .u8 (X / 2 ^ sh % 256) = ub (UInt8.ofNat (x / 2 ^ sh))) := keep (ubI _ _ (by rw [HXE.out]; simp))
          have hsh2 : 8 * (j : Int) = (sh : Int) := by omega
          have hsh64 : sh < 64 := by omega
          have hql := keep (show (PR ++ leT x j).length + 1 ≤ 140737488355328 by rw [List.length_append, leT_len]; omega)
          have hbs := hb2.out.size
          clear hsh
          go_wp2_with (refine wpList_pushB elB rfl rfl _ _ 47 rfl rfl rfl W1.heap.size u5 (UInt8.ofNat (x / 2 ^ sh)) (PR ++ leT x j) hqb.out (fun _ => rfl) (fun _ => rfl) hO2.out hql.out hbs ?_; intro q v9 w9 hown9 hb9 hg9)
          go_roundw
          case rel => exact ⟨j + 1, by go_num, keep (by omega), keep (by rw [HLE.out, ← List.append_assoc]; exact hown9), keep (hb2.out.trans hb9)⟩
          case measure => simp [intOf]; omega
        · have hje : j = 8 := by have := hj.out; omega
          subst hje
          have hfin : Hid (OwnB wr W1.heap.size u5 (HD ++ bodyF (l.take (k + 1)))) := keep (by rw [HBT.out, ← List.append_assoc, HPR.out]; exact hO2.out)
          go_wp2_with fail
          go_roundw
          case rel => exact ⟨k + 1, by go_num, keep (by omega), hfin, hb2⟩
          case measure => simp [intOf]; omega
    · have hke : k = l.length := by have := hk.out; omega
      have hi2 : ¬ (k : Int) < (l.length : Int) := by omega
      have hfin : Hid (OwnB wr W1.heap.size u5 (encF h l)) := keep (by
        have := hO.out
        rw [hke, List.take_length, ← HHD.out] at this
        exact this)
      clear hke
      obtain ⟨A6, n6, c6, rfl⟩ := hfin.out.shape
      go_wp2_with fail
      refine bodyPost_ret (v := .tuple #[.slice A6 n6 c6, .int .i64 0]) (by simp [results, Try.results26, go_sem]) rfl ?_
      exact ⟨_, by rw [if_pos HF.out], by rw [if_pos HF.out]; exact hfin.out.base_ (by omega), bchain hbw1 hb.out⟩
theorem encF_bad (h : Int) (A : Option Addr) (c n : Nat) (w : World) (hf : fok h n = false) :
    Calls Try.prog 25 #[.agg #[.int .i64 h, .slice A n c]] w fun e w' => e = .returned (.tuple #[.slice none 0 0, .int .i64 2]) ∧ Below w.heap.size w w' := by
  go_enter Try.func25, Try.ntmps25
  go_wp2_with fail
  refine (check_bad h A n c _ hf).mono ?_
  rintro e W1 ⟨rfl, hb1⟩
  go_wp2_with fail
  refine bodyPost_ret (v := .tuple #[.slice none 0 0, .int .i64 2]) (by simp [results, Try.results25, go_sem]) rfl ?_
  exact ⟨rfl, bchain ((Below.refl _ w).alloc (Nat.le_refl _) _) hb1⟩
theorem refEncF_bad (h : Int) (A : Option Addr) (c n : Nat) (w : World) (hf : fok h n = false) :
    Calls Try.prog 26 #[.agg #[.int .i64 h, .slice A n c]] w fun e w' => e = .returned (.tuple #[.slice none 0 0, .int .i64 2]) ∧ Below w.heap.size w w' := by
  go_enter Try.func26, Try.ntmps26
  go_wp2_with fail
  refine (refCheck_bad h A n c _ hf).mono ?_
  rintro e W1 ⟨rfl, hb1⟩
  go_wp2_with fail
  refine bodyPost_ret (v := .tuple #[.slice none 0 0, .int .i64 2]) (by simp [results, Try.results26, go_sem]) rfl ?_
  exact ⟨rfl, bchain ((Below.refl _ w).alloc (Nat.le_refl _) _) hb1⟩
theorem encF_any (h : Int) (A : Option Addr) (c : Nat) (l : List Int) (w : World) (hs : Sl w (lt w.heap.size) 1 (.slice A l.length c) l.length (l.map (.int .u64))) (hl : ∀ x ∈ l, 0 ≤ x ∧ x < 18446744073709551616) :
    Calls Try.prog 25 #[.agg #[.int .i64 h, .slice A l.length c]] w (EncFRes w h l) := by
  cases hf : fok h l.length with
  | true => exact encF_ok h A c l w hs hl hf
  | false =>
    refine (encF_bad h A c l.length w hf).mono ?_
    rintro e w' ⟨rfl, hb⟩
    exact ⟨_, by rw [hf]; rfl, by rw [hf]; exact OwnB.nil _ _, hb⟩
theorem refEncF_any (h : Int) (A : Option Addr) (c : Nat) (l : List Int) (w : World) (hs : Sl w (lt w.heap.size) 1 (.slice A l.length c) l.length (l.map (.int .u64))) (hl : ∀ x ∈ l, 0 ≤ x ∧ x < 18446744073709551616) :
    Calls Try.prog 26 #[.agg #[.int .i64 h, .slice A l.length c]] w (EncFRes w h l) := by
  cases hf : fok h l.length with
  | true => exact refEncF_ok h A c l w hs hl hf
  | false =>
    refine (refEncF_bad h A c l.length w hf).mono ?_
    rintro e w' ⟨rfl, hb⟩
    exact ⟨_, by rw [hf]; rfl, by rw [hf]; exact OwnB.nil _ _, hb⟩
end Go.Proofs.Ytfainbgbeojcpaa
