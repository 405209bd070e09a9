/- The method create. -/
import Derived.Test.YtldopkdjoejhbaaDoorFsTrunc
namespace Go.Proofs.YtldopkdjoejhbaaDoor
open Go.RowKit

/-- A box of a type of its own, across what a directory's methods change. -/
abbrev HX (x : Nat) (W w' : World) : Prop := (∀ o, w'.cell? ⟨x, o, none⟩ = W.cell? ⟨x, o, none⟩) ∧ TyKeep W w'
theorem HX.of {x : Nat} {W w' : World} {cs : Array Value} {t : TypeId} (hb : Blk W x t cs) (h2 : t ≠ 81) (h3 : t ≠ 45) (h4 : t ≠ 69) (h : TyKeep W w') : HX x W w' :=
  ⟨fun o => by
    have hw : Blk w' x t cs := h.2 x cs t (0, 0) hb h2 h3 h4
    rw [hw.cell, hb.cell], h⟩
theorem HX.start (x : Nat) (W : World) : HX x W W.drew := ⟨fun _ => rfl, TyKeep.of_below (Below.refl _ W).drew⟩
theorem TyKeep.blk {x : Nat} {W w' : World} {cs : Array Value} {t : TypeId} (h : TyKeep W w') (hb : Blk W x t cs) (h2 : t ≠ 81) (h3 : t ≠ 45) (h4 : t ≠ 69) : Blk w' x t cs := h.2 x cs t (0, 0) hb h2 h3 h4
theorem putFile_len (F : List Fi) (k : Nat) (t : Fi) : (putFile F k t).length ≤ F.length + 1 := by
  unfold putFile
  rw [List.length_append, List.length_cons, List.length_take, List.length_drop]; omega
theorem Small.put {fs : FS} (h : Small fs) (h2 : fs.F.length ≤ 900) (k : Nat) (t : Fi) : Small ⟨fs.N, putFile fs.F k t, fs.O⟩ :=
  ⟨h.n, Nat.le_trans (putFile_len _ _ _) (by omega), h.o⟩
/-- What create does. -/
def CreateSt (fs : FS) (c : Ch) (e : Int) (fs' : FS) : Prop :=
  ((∃ t ∈ fs.N, t.nm = c.name) ∧ e = 11 ∧ fs' = fs) ∨ ((∀ t ∈ fs.N, t.nm ≠ c.name) ∧
    ((40 ≤ fs.N.length ∧ e = 4 ∧ fs' = fs) ∨ (fs.N.length < 40 ∧ 60000 < c.data.length ∧ e = 3 ∧ fs' = fs) ∨
     (fs.N.length < 40 ∧ c.data.length ≤ 60000 ∧ e = 0 ∧ ∃ (k : Nat) (dv : Value), Gap fs.F k ∧ fs' = ⟨putName fs.N ⟨c.name, (k : Int) + 1⟩, putFile fs.F k ⟨0, dv, c.data, false, true, 0⟩, fs.O⟩)))
theorem addFresh (gd B : Nat) (fs : FS) (dv : Value) (l : List UInt8) (w : World) (hB : B ≤ w.heap.size) (h : Dir w B gd fs) (ht : FiR w ⟨0, dv, l, false, true, 0⟩) (hm : Small fs) :
    Calls Tryd.prog 109 #[.pointer (some ⟨gd, 0, none⟩), .agg #[.int .i64 0, dv, .bool false, .bool true, .int .i64 0]] w (AddRes B gd fs ⟨0, dv, l, false, true, 0⟩ w) :=
  addFile_any gd B fs ⟨0, dv, l, false, true, 0⟩ w hB h ht hm
set_option maxHeartbeats 4000000 in
set_option maxRecDepth 100000 in
theorem create_any (gd B : Nat) (fs : FS) (c : Ch) (w : World) (hB : B ≤ w.heap.size) (h : Dir w B gd fs) (hs : NSrt fs.N) (hm : Small fs) (hm2 : fs.F.length ≤ 900) (hc : BR w c.dv c.data) (hcl : c.data.length ≤ 1000000) :
    Calls Tryd.prog 100 #[.pointer (some ⟨gd, 0, none⟩), .agg (chV c)] w fun x w' => ∃ e fs', CreateSt fs c e fs' ∧ MetRes B gd e fs' w x w' := by
  obtain ⟨A, cc, hv, _, _⟩ := Sl.form hc
  obtain ⟨kind, name, dst, dv, data, n⟩ := c
  simp only at hv hcl
  subst hv
  simp only [chV]
  obtain ⟨W, hW⟩ : ∃ W, W = w.alloc (.cells #[.int .i64 kind, .string name, .string dst, .slice A data.length cc, .int .i64 n] 37) := ⟨_, rfl⟩
  have hBx : Blk W w.heap.size 37 #[.int .i64 kind, .string name, .string dst, .slice A data.length cc, .int .i64 n] := hW ▸ Blk.new _ _ _
  have hb : Below w.heap.size w W := hW ▸ (Below.refl _ w).alloc (Nat.le_refl _) _
  have k1 : W.cell? ⟨w.heap.size, 1, none⟩ = some (.string name) := (hBx.cell 1).trans rfl
  have hD := h.up hb
  have hC := hc.up hb
  obtain ⟨_, vN, vF, vO, hBk, hO⟩ := id hD
  have hq := name_any gd name _ fs.N W ((hBk.cell 0).trans rfl) hO.r.n hs (by have := hm.n; omega)
  have HQ := keep hq
  have HD := keep hD
  have HB := keep hb
  have HBX := keep hBx
  have HC := keep hC
  have HM := keep hm
  clear hq hD hBk hO hb h hBx hC hc hm
  go_enter Tryd.func100, Tryd.ntmps100
  go_wp2_with fail
  rw [← hW]
  clear hW
  go_wp2_with fail
  refine HQ.out.mono ?_
  rintro e w1 ⟨i, hA, rfl, hb1⟩
  have hD1 := HD.out.up hb1
  have hB1 := bchain HB.out hb1
  have hC1 := HC.out.up hb1
  have hX1 := HBX.out.below hb1 HBX.out.lt
  obtain ⟨_, vN1, vF1, vO1, hBk1, hO1⟩ := id hD1
  obtain ⟨A1, c1, rfl, _⟩ := own_sl hO1.n
  by_cases hc : cfAt_nm (cfn name) fs.N i = 0
  · rw [decide_eq_true hc]
    obtain ⟨hi, hnm, _⟩ := at_rm_yes hs hc
    have HNM := keep hnm
    have HD1 := keep hD1
    have HB1 := keep (hB1.mono hB)
    clear hc hA hB1 hD1 hb1 hC1 hX1 hBk1 hO1 hnm
    go_wp2_with fail
    go_ret
    exact ⟨11, _, .inl ⟨⟨_, List.getElem_mem hi, HNM.out⟩, rfl, rfl⟩, rfl, HD1.out, HB1.out⟩
  · rw [decide_eq_false hc]
    have HNO := keep (at_rm_no hs hA hc)
    have q0 : w1.cell? ⟨gd, 0, none⟩ = some (.slice A1 fs.N.length c1) := (hBk1.cell 0).trans rfl
    by_cases h40 : 40 ≤ fs.N.length
    · have d1 : decide ((40 : Int) ≤ (fs.N.length : Int)) = true := decide_eq_true (by omega)
      have HD1 := keep hD1
      have HB1 := keep (hB1.mono hB)
      clear hc hA hB1 hD1 hb1 hC1 hX1 hBk1 hO1
      go_wp2_with fail
      go_ret
      exact ⟨4, _, .inr ⟨HNO.out, .inl ⟨h40, rfl, rfl⟩⟩, rfl, HD1.out, HB1.out⟩
    · have d1 : decide ((40 : Int) ≤ (fs.N.length : Int)) = false := decide_eq_false (by omega)
      have q3 : w1.cell? ⟨w.heap.size, 3, none⟩ = some (.slice A data.length cc) := (hX1.cell 3).trans rfl
      have q1 : w1.cell? ⟨w.heap.size, 1, none⟩ = some (.string name) := (hX1.cell 1).trans rfl
      by_cases h60 : 60000 < data.length
      · have d2 : decide ((60000 : Int) < (data.length : Int)) = true := decide_eq_true (by omega)
        have HD1 := keep hD1
        have HB1 := keep (hB1.mono hB)
        clear hc hA hB1 hD1 hb1 hC1 hX1 hBk1 hO1
        go_wp2_with fail
        go_ret
        exact ⟨3, _, .inr ⟨HNO.out, .inr (.inl ⟨by omega, h60, rfl, rfl⟩)⟩, rfl, HD1.out, HB1.out⟩
      · have d2 : decide ((60000 : Int) < (data.length : Int)) = false := decide_eq_false (by omega)
        have hfr := fresh_any _ data w1.drew (hC1.up (Below.refl _ w1).drew) hcl
        have HFR := keep hfr
        have HD1 := keep hD1
        have HX1 := keep hX1
        have HB1 := keep hB1
        clear hc hA hB1 hD1 hb1 hC1 hX1 hBk1 hO1 hfr
        go_wp2_with fail
        go_region_held3 (HX w.heap.size w1) (first | exact HX.start _ _ | assumption)
          (first
            | (go_at_call 110; (with_reducible refine HFR.out.mono ?_); rintro e w5 ⟨dv5, rfl, hF5, hb5⟩
               have hb5' : Below w1.heap.size w1 w5 := ⟨hb5.os, hb5.tape, hb5.output, hb5.size, hb5.block⟩
               have hT5 := TyKeep.of_below hb5'
               have hx5 := HX.of HX1.out (by decide) (by decide) (by decide) hT5
               have hD5 := HD1.out.up hb5'
               have hB5 : B ≤ w5.heap.size := by have := hb5'.size; have := HB1.out.size; omega)
            | (go_at_call 109; (with_reducible refine (addFresh gd B fs dv5 data _ hB5 hD5 hF5 HM.out).mono ?_); rintro e w6 ⟨k, hgap, rfl, hD6, hb6, ht6, _⟩
               have hT6 := hT5.trans ht6
               have hx6 := HX.of HX1.out (by decide) (by decide) (by decide) hT6
               have hB6 : B ≤ w6.heap.size := Nat.le_trans hB5 hb6.size
               have HLK := keep (link_any gd B _ name ((k : Int) + 1) w6 hB6 hD6 hs (HM.out.put hm2 _ _)))
            | (go_at_call 108; (with_reducible refine HLK.out.mono ?_); rintro e w7 ⟨rfl, hD7, hb7, ht7⟩
               have hT7 := hT6.trans ht7
               have hx7 := HX.of HX1.out (by decide) (by decide) (by decide) hT7)
            | fail)
        go_wp2_with fail
        go_ret
        exact ⟨0, _, .inr ⟨HNO.out, .inr (.inr ⟨by omega, Nat.not_lt.1 h60, rfl, k, dv5, hgap, rfl⟩)⟩, rfl, hD7, (((HB1.out.mono hB).trans (hb5'.mono (Nat.le_trans hB HB1.out.size))).trans hb6).trans hb7⟩
end Go.Proofs.YtldopkdjoejhbaaDoor
