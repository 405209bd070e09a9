/- The contract of logtideref26.Decode where the length is right. -/
import Derived.Test.YtfainbgbeojcpaaFRef
namespace Go.Proofs.Ytfainbgbeojcpaa
open Go.RowKit

theorem wrap_u64_f (n : Int) (h0 : 0 ≤ n) (h1 : n < 18446744073709551616) : IntKind.u64.wrap n = n := by
  simp only [IntKind.wrap, IntKind.bits, IntKind.signed]
  simp
  omega
theorem or_step (y z : Nat) (hy : y < 72057594037927936) (hz : z < 256) : bits .or .u64 (IntKind.u64.wrap ((y : Int) * 256)) (IntKind.u64.wrap (z : Int)) = ((y * 256 + z : Nat) : Int) := by
  rw [wrap_u64_f _ (by omega) (by omega), wrap_u64_f _ (by omega) (by omega)]
  exact or_shl8 y z hy hz
/-- The filter under way lies behind the result's block. -/
structure FI (w : World) (hh : Nat) (vb : Value) (ws : List Int) (wr : World) : Prop where
  f : Blk wr (w.heap.size + 1) 27 #[.int .i64 hh, vb]
  r : Blk wr w.heap.size 27 #[.int .i64 0, .slice none 0 0]
  o : wr.ownsRow (w.heap.size + 2) 67 1 vb ws.length (ws.map (.int .u64))
  b : Below w.heap.size w wr
theorem FI.z {w wr : World} {hh : Nat} {vb : Value} {ws : List Int} (h : FI w hh vb ws wr) : w.heap.size + 2 ≤ wr.heap.size := by have := h.f.lt; omega
theorem FI.start (w : World) (hh q : Nat) : FI w hh (.slice none 0 0) [] (((w.alloc (.cells #[.int .i64 0, .slice none 0 0] 27)).drewN q).alloc (.cells #[.int .i64 hh, .slice none 0 0] 27)) := by
  have hr : Blk ((w.alloc (.cells #[.int .i64 0, .slice none 0 0] 27)).drewN q) w.heap.size 27 #[.int .i64 0, .slice none 0 0] := Blk.new w 27 _
  have hb : Below w.heap.size w ((w.alloc (.cells #[.int .i64 0, .slice none 0 0] 27)).drewN q) := below_drewN ((Below.refl _ w).alloc (Nat.le_refl _) _) q
  have hf := Blk.new ((w.alloc (.cells #[.int .i64 0, .slice none 0 0] 27)).drewN q) 27 #[.int .i64 hh, .slice none 0 0]
  have e : ((w.alloc (.cells #[.int .i64 0, .slice none 0 0] 27)).drewN q).heap.size = w.heap.size + 1 := World.size_alloc ..
  rw [e] at hf
  exact ⟨hf, hr.alloc _, World.ownsRow_nil _ _ _ _, hb.alloc (by rw [e]; omega) _⟩
theorem FI.push {w wr w' : World} {hh : Nat} {vb v' : Value} {ws : List Int} {x : Int} (h : FI w hh vb ws wr) (ho : w'.ownsRow (w.heap.size + 2) 67 1 v' (ws.length + 1) (ws.map (.int .u64) ++ [.int .u64 x])) (hb : Below (w.heap.size + 2) wr w') :
    FI w hh v' (ws ++ [x]) (w'.setCell ⟨w.heap.size + 1, 1, none⟩ v') ∧ w'.cell? ⟨w.heap.size + 1, 1, none⟩ = some vb ∧ w'.frozen? ⟨w.heap.size + 1, 1, none⟩ = false := by
  have hf := h.f.below hb (by omega)
  have hr := h.r.below hb (by omega)
  refine ⟨⟨hf.set_ 1 v', hr.far (p := ⟨w.heap.size + 1, 1, none⟩) (by simp) v', ?_, (h.b.trans (hb.mono (by omega))).setCell (p := ⟨w.heap.size + 1, 1, none⟩) (by simp) v'⟩, hf.cell2.2, hf.frozen 1⟩
  have := ho.kept (grownBy_set (World.grownBy.refl w' (some (w.heap.size + 1))) 1 v') (Or.inr (fun e => by have := (ho.lt _ e).1; omega))
  rw [List.length_append, List.map_append]
  exact this

theorem FI.done {w wr w5 : World} {hh : Nat} {A : Option Addr} {m c : Nat} {ws : List Int} (h : FI w hh (.slice A m c) ws wr) (_ : ws.length = m) (hb : Below wr.heap.size wr w5) :
    Sl ((w5.setCell ⟨w.heap.size, 0, none⟩ (.int .i64 hh)).setCell ⟨w.heap.size, 1, none⟩ (.slice A m c)) (btw w.heap.size ((w5.setCell ⟨w.heap.size, 0, none⟩ (.int .i64 hh)).setCell ⟨w.heap.size, 1, none⟩ (.slice A m c)).heap.size) 1 (.slice A m c) ws.length (ws.map (.int .u64)) ∧
    Below w.heap.size w ((w5.setCell ⟨w.heap.size, 0, none⟩ (.int .i64 hh)).setCell ⟨w.heap.size, 1, none⟩ (.slice A m c)) := by
  have hz := h.z
  have hbw := h.b.trans (hb.mono (by omega))
  refine ⟨?_, (hbw.setCell (p := ⟨w.heap.size, 0, none⟩) (Nat.le_refl _) _).setCell (p := ⟨w.heap.size, 1, none⟩) (Nat.le_refl _) _⟩
  have k1 := h.o.kept (grownBy_of_below hb none) (by cases hv : Value.ownBlock (.slice A m c) <;> simp)
  have k2 := k1.kept (grownBy_set (World.grownBy.refl w5 (some w.heap.size)) 0 (.int .i64 hh)) (Or.inr (fun e => by have := (k1.lt _ e).1; omega))
  have k3 := k2.kept (grownBy_set (World.grownBy.refl (w5.setCell ⟨w.heap.size, 0, none⟩ (.int .i64 hh)) (some w.heap.size)) 1 (.slice A m c)) (Or.inr (fun e => by have := (k2.lt _ e).1; omega))
  exact (Sl.of_own_btw k3).mono (fun b hb => ⟨by have := hb.1; omega, hb.2⟩)

set_option maxRecDepth 100000 in
set_option maxHeartbeats 2000000 in
theorem refDecF_long (v : Value) (b : List UInt8) (w : World) (h : BSl w (lt w.heap.size) v b) (hm : b.length ≤ 1000000) (hk : okLen b = true) :
    Calls Try.prog 29 #[v] w (DecFRes w b) := by
  obtain ⟨A, c, rfl, hc, h⟩ := h.form
  have hk2 := hk
  unfold okLen at hk2
  simp only [Bool.and_eq_true, decide_eq_true_eq] at hk2
  obtain ⟨h3, hlen⟩ := hk2
  have d : decide ((b.length : Int) < 3) = false := by simp; omega
  obtain ⟨g, o, rfl, hg, hx1⟩ := h.at_ (k := 1) (by omega)
  have hx2 := h.cells (k := 2) (by omega)
  have hx0 := h.cells (k := 0) (by omega)
  have e0 : b.getD 0 0 = b[0] := by simp [show 0 < b.length by omega]
  have e1 : b.getD 1 0 = b[1] := by simp [show 1 < b.length by omega]
  have e2 : b.getD 2 0 = b[2] := by simp [show 2 < b.length by omega]
  rw [← e1] at hx1
  rw [← e2] at hx2
  rw [← e0] at hx0
  clear e0 e1 e2
  obtain ⟨X0, hX0⟩ : ∃ X0, b.getD 0 0 = X0 := ⟨_, rfl⟩
  obtain ⟨X1, hX1⟩ : ∃ X1, b.getD 1 0 = X1 := ⟨_, rfl⟩
  obtain ⟨X2, hX2⟩ : ∃ X2, b.getD 2 0 = X2 := ⟨_, rfl⟩
  have hdec : Hid (∀ n, b.length = 3 + 8 * n → decB b = ((X0.toNat : Int), wordsF (b.drop 3) n)) := keep (fun n hl => by
    have e : (b.length - 3) / 8 = n := by omega
    unfold decB
    rw [hX0, e])
  rw [hX0] at hx0
  rw [hX1] at hx1 hlen
  rw [hX2] at hx2 hlen
  have h0 := X0.toNat_lt
  have h1 := X1.toNat_lt
  have h2 := X2.toNat_lt
  have eo := or_len X1.toNat X2.toNat h1 h2
  obtain ⟨n, hn⟩ : ∃ n, X1.toNat * 256 + X2.toNat = n := ⟨_, rfl⟩
  rw [hn] at eo hlen
  have hn6 : n ≤ 65535 := by omega
  have dne : ((b.length : Int) != 3 + 8 * (n : Int)) = false := by rw [bne_eq_false_iff_eq]; omega
  have hspec : Hid (decSpec b = if fok (X0.toNat : Int) n = true then ((X0.toNat : Int), wordsF (b.drop 3) n, 0) else (0, [], 22)) := keep (by
    unfold decSpec
    rw [hdec.out n hlen]
    simp only [wordsF_len, hk, true_and])
  have hb0 : (X0.toNat : Int) < 256 := by omega
  have hb1 : (X1.toNat : Int) < 256 := by omega
  have hb2 : (X2.toNat : Int) < 256 := by omega
  have i0 : (0 : Int) < (b.length : Int) := by omega
  have i1 : (1 : Int) < (b.length : Int) := by omega
  have i2 : (2 : Int) < (b.length : Int) := by omega
  have HH := keep h
  have HLEN := keep hlen
  rw [Nat.add_zero] at hx0
  clear hk h1 h2 h0 hX0 hX1 hX2 hn hdec hlen h
  generalize X0.toNat = hh at *
  generalize X1.toNat = x at *
  generalize X2.toNat = y at *
  go_enter Try.func29, Try.ntmps29
  go_wp2_with fail
  go_quiet (fail)
  go_upto_region 5 with fail
  have hF0 := FI.start w hh nq
  obtain ⟨W1, hW1⟩ : ∃ W1, ((w.alloc (.cells #[.int .i64 0, .slice none 0 0] 27)).drewN nq).alloc (.cells #[.int .i64 hh, .slice none 0 0] 27) = W1 := ⟨_, rfl⟩
  rw [hW1] at hF0
  rw [hW1]
  have HF0 := keep hF0
  clear hW1 hF0 hx0 hx1 hx2 eo dne
  go_loopw [5, 6, 7] (fun i _ _ wr => ∃ (p m : Nat) (vb : Value), i = .int .i64 p ∧ Hid (p = 3 + 8 * m ∧ m ≤ n) ∧ Hid (FI w hh vb (wordsF (b.drop 3) m) wr)) (fun i _ _ _ => 1000100 - (intOf i).toNat)
  case atStart => exact ⟨3, 0, _, rfl, keep ⟨rfl, by omega⟩, HF0⟩
  case round =>
    obtain ⟨p, m, vb, rfl, hpm, hI⟩ := hrel
    clear HF0
    by_cases hlt : m < n
    · have hp := hpm.out.1
      have hpl : p + 8 ≤ b.length := by have := HLEN.out; omega
      have i3 : (p : Int) < (b.length : Int) := by omega
      obtain ⟨ch, hch⟩ : ∃ ch, chk8 (b.drop 3) m = ch := ⟨_, rfl⟩
      have hcl : ch.length = 8 := by rw [← hch]; unfold chk8; have := HLEN.out; simp; omega
      have HCL := keep hcl
      have hat : Hid (∀ j (hj : j < 8), wr.cell? ⟨g, o + (p + j), none⟩ = some (.int .u8 ((ch[j]'(by rw [HCL.out]; exact hj)).toNat : Int))) := keep (fun j hj => by
        have h1 := (hI.out.b.cell (p := ⟨g, o + (p + j), none⟩) hg).trans (HH.out.cells (k := p + j) (by omega))
        rw [h1]
        congr 3
        have e : (chk8 (b.drop 3) m)[j]? = some b[p + j] := by
          unfold chk8
          rw [List.getElem?_take, if_pos hj, List.getElem?_drop, List.getElem?_drop, List.getElem?_eq_getElem (by omega)]
          congr 2
          omega
        rw [hch] at e
        exact congrArg UInt8.toNat ((List.getElem?_eq_some_iff.1 e).2).symm)
      have HCH := keep hch
      clear hp hch hcl
      go_upto_region 9 with fail
      obtain ⟨wo, rfl⟩ : ∃ wo : World, wo = wr := ⟨_, rfl⟩
      go_loop [6, 7] (fun x k => ∃ (j y : Nat), k = .int .i64 ((j : Int) - 1) ∧ x = .int .u64 y ∧ Hid (j ≤ 8) ∧ Hid (y = wordF (ch.drop j))) (fun _ k => ((intOf k) + 1).toNat)
      case atStart => exact ⟨8, 0, rfl, rfl, keep (by omega), keep (by rw [List.drop_of_length_le (by rw [HCL.out]; omega)]; rfl)⟩
      case round =>
        obtain ⟨j, y, rfl, rfl, hj, hy⟩ := hrel
        rcases j with _ | j
        · rw [show (((0 : Nat) : Int) - 1) = -1 from rfl]
          have hyf : y = wordF ch := by have := hy.out; rwa [List.drop_zero] at this
          have hc1 := hI.out.f.cell2
          obtain ⟨d0, d1⟩ := hc1
          have hwl : (wordsF (b.drop 3) m).length = m := wordsF_len _ _
          have hob : m + 1 ≤ maxLen := by have := hpm.out; unfold maxLen; omega
          have hob2 : (m + 1) * 8 ≤ 140737488355328 := by have := hpm.out; omega
          have hoz := hI.out.z
          have HO := keep (show wo.ownsRow (w.heap.size + 2) 67 1 vb m ((wordsF (b.drop 3) m).map (.int .u64)) from by have := hI.out.o; rwa [hwl] at this)
          have HOB := keep (And.intro hob hob2)
          have HYF := keep hyf
          have HWL := keep hwl
          have HOZ := keep hoz
          clear hob hob2 hyf hwl hoz
          obtain ⟨Av, nv, cv, rfl⟩ : ∃ A n c, vb = .slice A n c := by obtain ⟨A, c, h, _⟩ := (Sl.of_own HO.out).form; exact ⟨A, _, c, h⟩
          go_wp2_with (refine wpList_push1 el25 rfl rfl _ _ 57 rfl rfl rfl (w.heap.size + 2) (.slice Av nv cv) (.int .u64 (y : Int)) m _ rfl (fun _ => rfl) (fun _ => rfl) HO.out rfl HOB.out.1 HOB.out.2 HOZ.out ?_; intro g8 cap8 w8 hown8 hb8 _ _ _; have hpu := FI.push (x := (y : Int)) hI.out (by rw [HWL.out]; exact hown8) hb8; obtain ⟨q1, q2, q3⟩ := hpu; have HQ := keep q1)
          refine ⟨⟨p + 8, m + 1, _, rfl, keep (by have := hpm.out; omega), keep (by
            rw [wordsF_succ, HCH.out, ← HYF.out]
            exact HQ.out)⟩, by simp [intOf]; omega⟩
        · have hj8 : j < 8 := by have := hj.out; omega
          have hcj := hat.out j hj8
          have hjn : ((j + 1 : Nat) : Int) - 1 = (j : Int) := by omega
          rw [hjn]
          have hwd := wordF_drop ch j (by rw [HCL.out]; exact hj8)
          obtain ⟨z, hz⟩ : ∃ z, (ch[j]'(by rw [HCL.out]; exact hj8)).toNat = z := ⟨_, rfl⟩
          rw [hz] at hwd hcj
          have hzl : z < 256 := by rw [← hz]; exact UInt8.toNat_lt _
          have hyl : y < 72057594037927936 := by
            rw [hy.out]
            have := wordF_lt (ch.drop (j + 1)) 7 (by rw [List.length_drop, HCL.out]; omega)
            simpa using this
          rw [← hy.out] at hwd
          have HST := keep (or_step y z hyl hzl)
          have HWD := keep hwd.symm
          clear hjn hz hyl hzl hwd
          go_wp2_with fail
          exact ⟨⟨j, y * 256 + z, rfl, by rw [HST.out], keep (by omega), HWD⟩, by simp [intOf]⟩
    · have hmn : m = n := by have := hpm.out; omega
      have i3 : (b.length : Int) ≤ (p : Int) := by have := hpm.out; have := HLEN.out; omega
      obtain ⟨d0, d1⟩ := hI.out.f.cell2
      have hwl : (wordsF (b.drop 3) m).length = m := wordsF_len _ _
      have HO := keep (show wr.ownsRow (w.heap.size + 2) 67 1 vb m ((wordsF (b.drop 3) m).map (.int .u64)) from by have := hI.out.o; rwa [hwl] at this)
      obtain ⟨Av, cv, rfl, _, _⟩ := (Sl.of_own HO.out).form
      subst hmn
      have hoz := hI.out.z
      have HOZ := keep hoz
      clear hwl hoz
      go_wp2_with fail
      cases hfk : fok (hh : Int) m with
      | true =>
        have hsp := hspec.out
        rw [hfk, if_pos rfl] at hsp
        have HSP := keep hsp
        refine (refCheck_ok (hh : Int) Av m cv wr hfk).mono ?_
        rintro e w5 ⟨rfl, hb5⟩
        have hlr := hI.out.r.lt
        have hlf := hI.out.f.lt
        obtain ⟨c0, c1⟩ := (hI.out.r.below hb5 hlr).cell2
        obtain ⟨f0, f1⟩ := (hI.out.f.below hb5 hlf).cell2
        have z0 := (hI.out.r.below hb5 hlr).frozen 0
        have z1 := (hI.out.r.below hb5 hlr).frozen 1
        have HFD := keep (hI.out.done (wordsF_len _ _) hb5)
        clear hsp d0 d1 hfk
        go_wp2_with fail
        have hr5 := hI.out.r.below hb5 hlr
        have hset1 := hr5.set_ 0 (.int .i64 hh)
        have hset2 := hset1.set_ 1 (.slice Av m cv)
        obtain ⟨y0, y1⟩ := hset2.cell2
        refine bodyPost_ret (v := .tuple #[.agg #[.int .i64 hh, .slice Av m cv], .int .i64 0]) (by simp [results, Try.results29, go_sem, y0, y1]) rfl ?_
        unfold DecFRes UnionRes
        rw [HSP.out]
        exact ⟨_, rfl, HFD.out.1, HFD.out.2⟩
      | false =>
        have hsp := hspec.out
        rw [hfk, if_neg (by simp)] at hsp
        have HSP := keep hsp
        refine (refCheck_bad (hh : Int) Av m cv wr hfk).mono ?_
        rintro e w5 ⟨rfl, hb5⟩
        have hlr := hI.out.r.lt
        have hbw5 := hI.out.b.trans (hb5.mono (by have := HOZ.out; omega))
        obtain ⟨c0, c1⟩ := (hI.out.r.below hb5 hlr).cell2
        have z0 := (hI.out.r.below hb5 hlr).frozen 0
        have z1 := (hI.out.r.below hb5 hlr).frozen 1
        clear hsp d0 d1 hfk
        go_wp2_with fail
        have hr5 := hI.out.r.below hb5 hlr
        have hset1 := hr5.set_ 0 (.int .i64 0)
        have hset2 := hset1.set_ 1 (.slice none 0 0)
        obtain ⟨y0, y1⟩ := hset2.cell2
        refine bodyPost_ret (v := .tuple #[.agg #[.int .i64 0, .slice none 0 0], .int .i64 22]) (by simp [results, Try.results29, go_sem, y0, y1]) rfl ?_
        unfold DecFRes UnionRes
        rw [HSP.out]
        exact ⟨_, rfl, Sl.nil _ _ _ _ _, (hbw5.setCell (p := ⟨w.heap.size, 0, none⟩) (Nat.le_refl _) _).setCell (p := ⟨w.heap.size, 1, none⟩) (Nat.le_refl _) _⟩
end Go.Proofs.Ytfainbgbeojcpaa
