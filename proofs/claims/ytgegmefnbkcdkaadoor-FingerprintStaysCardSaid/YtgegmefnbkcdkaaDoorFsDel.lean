/- slices.DeleteFunc of files, in place. -/
import Derived.Test.YtgegmefnbkcdkaaDoorFsSrch
namespace Go.Proofs.YtgegmefnbkcdkaaDoor
open Go.RowKit
theorem fis_set (X : List Fi) (i : Nat) (h : i < X.length) (a : Fi) : (fis X).take (i * 5) ++ fiV a ++ (fis X).drop (i * 5 + (fiV a).length) = fis (X.set i a) := by
  have e2 : X.set i a = X.take i ++ a :: X.drop (i + 1) := by rw [List.set_eq_take_append_cons_drop, if_pos h]
  have e3 : i * 5 + (fiV a).length = (i + 1) * 5 := by rw [fiV_len]; omega
  rw [e2, e3, show fis X = X.flatMap fiV from rfl, rows_take fiV_len X i (by omega), rows_drop fiV_len X (i + 1) (by omega)]
  simp [fis]
theorem own_fi {w : World} {B n g : Nat} {v : Value} {X : List Fi} (h : w.ownsRow B 60 5 v n (fis X)) (hg : v.ownBlock = some g) (hn : n = X.length) (i : Nat) (hi : i < X.length) (a : Fi) :
    (w.setCells g (i * 5) (fiV a)).ownsRow B 60 5 v n (fis (X.set i a)) := by
  have := own_stores (fiV a) (i * 5) h hg (by rw [fiV_len]; omega)
  rwa [fis_set X i hi a] at this
def DelRes (B : Nat) (L : List Fi) (w : World) (v : Value) (x : Ending) (w' : World) : Prop := ∃ v', x = .returned v' ∧ w'.ownsRow B 60 5 v' L.length (fis L) ∧ w.grownBy w' v.ownBlock
theorem fst_del {p : Fi → Bool} {L : List Fi} {i : Nat} (hi : i < L.length) (h1 : p L[i] = true) (h2 : ∀ j, (hj : j < i) → p (L[j]'(by omega)) = false) : L.take i = (L.take (i + 1)).filter fun t => !p t := by
  rw [List.take_succ_eq_append_getElem hi, List.filter_append, List.filter_cons, if_neg (by simp [h1]), List.filter_nil, List.append_nil]
  symm
  rw [List.filter_eq_self]
  intro t ht
  obtain ⟨j, hj, rfl⟩ := List.getElem_of_mem ht
  rw [List.length_take] at hj
  rw [List.getElem_take]
  rw [h2 j (by omega)]
  rfl
theorem own_fiCells {w : World} {B g c n : Nat} {X : List Fi} (h : w.ownsRow B 60 5 (.slice (some ⟨g, 0, none⟩) n c) n (fis X)) (hn : X.length = n) {k : Nat} (hk : k < X.length) :
    w.cell? ⟨g, k * 5, none⟩ = some (.int .i64 X[k].ino) ∧ w.cell? ⟨g, k * 5 + 1, none⟩ = some X[k].dv ∧ w.cell? ⟨g, k * 5 + 2, none⟩ = some (.bool X[k].cp) ∧ w.cell? ⟨g, k * 5 + 3, none⟩ = some (.bool X[k].wh) ∧ w.cell? ⟨g, k * 5 + 4, none⟩ = some (.int .i64 X[k].left) := by
  have q : ∀ j, j < 5 → w.cell? ⟨g, k * 5 + j, none⟩ = (fiV X[k])[j]? := fun j hj => by
    rw [own_cell h rfl (k * 5 + j) (by omega)]
    exact rows_at fiV_len X k hk j hj
  exact ⟨q 0 (by omega), q 1 (by omega), q 2 (by omega), q 3 (by omega), q 4 (by omega)⟩
theorem drop_get {α : Type} {X L : List α} {b : Nat} (h : X.drop b = L.drop b) (hX : b < X.length) (hL : b < L.length) : X[b] = L[b] := by
  have h1 := congrArg (fun l => l[0]?) h
  simp only [List.getElem?_drop, Nat.add_zero] at h1
  rw [List.getElem?_eq_getElem hX, List.getElem?_eq_getElem hL] at h1
  exact Option.some.inj h1
theorem drop_succ' {α : Type} {X L : List α} {b : Nat} (h : X.drop b = L.drop b) : X.drop (b + 1) = L.drop (b + 1) := by
  have := congrArg (List.drop 1) h
  rwa [List.drop_drop, List.drop_drop] at this
set_option maxHeartbeats 8000000 in
set_option maxRecDepth 100000 in
theorem delete_fi (fn : FuncId) (v : Value) (cb : Array Value) (p : Fi → Bool) (L : List Fi) (w : World) (B : Nat) (eg : ∀ args w, (callFunc fn args).run Tryd.prog w = .ok (.enter fn args) w) (hown : w.ownsRow B 60 5 v L.length (fis L)) (hT : ∀ t ∈ L, FiR w t)
    (hc : ∀ t ∈ L, ∀ W, w.grownBy W v.ownBlock → Calls Tryd.prog fn (#[.agg (fiV t).toArray] ++ cb) W fun e W' => e = .returned (.bool (p t)) ∧ Below W.heap.size W W') (hm : L.length ≤ 1000000) :
    Calls Tryd.prog 36 #[v, .func (.func fn) #[] cb] w (DelRes B (L.filter fun t => !p t) w v) := by
  have hix := index_fi fn v cb p L w eg (Sl.of_own hown) (fun t ht W hb => hc t ht W (grownBy_of_below hb _)) hm
  have HIX := keep hix
  have HOWN := keep hown
  have HC := keep hc
  have HT := keep hT
  obtain ⟨A0, c0, hv0, _⟩ := own_sl hown
  clear hix hown hc hT
  subst hv0
  go_enter Tryd.func36, Tryd.ntmps36
  go_wp2_with fail
  refine HIX.out.mono ?_
  rintro e w1 ⟨r, rfl, hf, hb1⟩
  rcases hf with ⟨rfl, hno⟩ | ⟨i0, rfl, hi0, hp0, hbef⟩
  · have e : (L.filter fun t => !p t) = L := List.filter_eq_self.2 fun t ht => by rw [hno t ht]; rfl
    have HE := keep e
    have HB1 := keep hb1
    clear e hno hb1
    go_wp2_with fail
    go_ret
    exact ⟨_, rfl, by rw [HE.out]; exact own_bel HOWN.out HB1.out, grownBy_of_below HB1.out _⟩
  · have hfst := fst_del hi0 hp0 hbef
    have hlen : 0 < L.length := by omega
    obtain ⟨g, cap, hA, hncap⟩ : ∃ g cap, Value.slice A0 L.length c0 = .slice (some ⟨g, 0, none⟩) L.length cap ∧ L.length ≤ cap := by
      rcases HOWN.out.2 with ⟨_, h0⟩ | ⟨g, cap, cur, h1, _, _, h2, _⟩
      · omega
      · exact ⟨g, cap, h1, h2⟩
    injection hA with hA _ hcc
    subst hA hcc
    have hgl : g < w.heap.size := by
      obtain ⟨_, _, _, _, h2, _⟩ := own_at HOWN.out rfl
      exact (Array.getElem?_eq_some_iff.1 h2).1
    have hO1 := own_bel HOWN.out hb1
    have hG1 := grownBy_of_below hb1 (some g)
    have HFST := keep hfst
    have HO1 := keep hO1
    have HG1 := keep hG1
    have hi0' : (i0 : Int) < (L.length : Int) := by omega
    have hi1' : (i0 : Int) ≤ 1000000 := by omega
    have hi2 : ((i0 : Int) == -1) = false := by rw [beq_eq_false_iff_ne]; omega
    clear hfst hO1 hG1 hb1 hp0 hbef
    go_wp2_with fail
    go_loopw [5, 6, 7] (fun i j _ wr => ∃ (a b : Nat) (X : List Fi), a < b ∧ b ≤ L.length ∧ i = .int .i64 a ∧ j = .int .i64 b ∧ X.length = L.length ∧ Hid (wr.ownsRow B 60 5 (.slice (some ⟨g, 0, none⟩) L.length c0) L.length (fis X)) ∧ Hid (X.take a = (L.take b).filter fun t => !p t) ∧ Hid (X.drop b = L.drop b) ∧ Hid (w.grownBy wr (some g))) (fun _ j _ _ => L.length - (intOf j).toNat)
    case atStart => exact ⟨i0, i0 + 1, L, by omega, by omega, rfl, by go_num, rfl, HO1, HFST, keep rfl, HG1⟩
    case round =>
      obtain ⟨a, b, X, hab, hbl, rfl, rfl, hXl, hO, hF, hD, hG⟩ := hrel
      obtain ⟨wo, rfl⟩ : ∃ wo : World, wo = wr := ⟨_, rfl⟩
      by_cases hlt : b < L.length
      · have hbX : b < X.length := by omega
        have haX : a < X.length := by omega
        obtain ⟨c0', c1, c2, c3, c4⟩ := own_fiCells hO.out hXl hbX
        have hXb := drop_get hD.out hbX hlt
        have htk := HT.out _ (List.getElem_mem hlt)
        have hmem := List.getElem_mem hlt
        rw [hXb] at c0' c1 c2 c3 c4
        have hstep : ∀ q : Bool, p L[b] = q → (X.take a ++ if q then [] else [L[b]]) = (L.take (b + 1)).filter fun t => !p t := fun q hq => by
          rw [List.take_succ_eq_append_getElem hlt, List.filter_append, ← hF.out, List.filter_cons, hq, List.filter_nil]
          cases q <;> rfl
        have hC := HC.out _ hmem
        obtain ⟨A1, cc1, hdv⟩ := htk.form
        obtain ⟨t, ht⟩ : ∃ t, L[b] = t := ⟨_, rfl⟩
        rw [ht] at c0' c1 c2 c3 c4 hstep hC hdv
        obtain ⟨ino, dv, data, cp, wh, left⟩ := t
        simp only at hdv c0' c1 c2 c3 c4
        subst hdv
        obtain ⟨Wb, hWb⟩ : ∃ Wb, Wb = wo.alloc (.cells #[.int .i64 ino, .slice A1 data.length cc1, .bool cp, .bool wh, .int .i64 left] 60) := ⟨_, rfl⟩
        have hBk : Blk Wb wo.heap.size 60 #[.int .i64 ino, .slice A1 data.length cc1, .bool cp, .bool wh, .int .i64 left] := hWb ▸ Blk.new _ _ _
        have hbb : Below wo.heap.size wo Wb := hWb ▸ (Below.refl _ wo).alloc (Nat.le_refl _) _
        have hGb : w.grownBy Wb (some g) := grownBy_trans hG.out (grownBy_of_below hbb _)
        have hcl := hC Wb hGb
        obtain ⟨q, hq⟩ : ∃ q, p ⟨ino, .slice A1 data.length cc1, data, cp, wh, left⟩ = q := ⟨_, rfl⟩
        rw [hq] at hcl
        have hst := hstep q hq
        have hOb := own_bel hO.out hbb
        have e0 : Wb.cell? ⟨wo.heap.size, 0, none⟩ = some (.int .i64 ino) := (hBk.cell 0).trans rfl
        have e1 : Wb.cell? ⟨wo.heap.size, 1, none⟩ = some (.slice A1 data.length cc1) := (hBk.cell 1).trans rfl
        have e2 : Wb.cell? ⟨wo.heap.size, 2, none⟩ = some (.bool cp) := (hBk.cell 2).trans rfl
        have e3 : Wb.cell? ⟨wo.heap.size, 3, none⟩ = some (.bool wh) := (hBk.cell 3).trans rfl
        have e4 : Wb.cell? ⟨wo.heap.size, 4, none⟩ = some (.int .i64 left) := (hBk.cell 4).trans rfl
        have HCL := keep hcl
        have HST := keep hst
        have HOB := keep hOb
        have HGB := keep hGb
        have HBK := keep hBk
        have HTT := keep ht
        have i1 : (b : Int) < (L.length : Int) := by omega
        have i2 : (b : Int) ≤ 1000000 := by omega
        have i3 : (a : Int) < (L.length : Int) := by omega
        clear hcl hst hOb hGb hBk hstep hC htk hmem hq hbb hXb ht
        go_wp2_with fail
        rw [← hWb]
        clear hWb
        go_wp2_with fail
        refine HCL.out.mono ?_
        rintro e w3 ⟨rfl, hb3⟩
        have hO3 := own_bel HOB.out hb3
        have hG3 := grownBy_trans HGB.out (grownBy_of_below hb3 (some g))
        have hB3 := HBK.out.below hb3 HBK.out.lt
        cases q with
        | true =>
          have HO3 := keep hO3
          have HG3 := keep hG3
          have HD3 := keep (drop_succ' hD.out)
          have hst := HST.out
          simp only [if_true, List.append_nil] at hst
          have HST3 := keep hst
          clear hO3 hG3 hB3 hb3 hst
          go_wp2_with fail
          go_roundw
          case rel => exact ⟨a, b + 1, X, by omega, by omega, rfl, by go_num, hXl, HO3, HST3, HD3, HG3⟩
          case measure => simp [intOf]; omega
        | false =>
          obtain ⟨k0, k1, k2, k3, k4⟩ := own_fiCells hO3 hXl haX
          have f0 : w3.frozen? ⟨g, a * 5, none⟩ = false := own_frozen hO3 rfl _
          have f1 : w3.frozen? ⟨g, a * 5 + 1, none⟩ = false := own_frozen hO3 rfl _
          have f2 : w3.frozen? ⟨g, a * 5 + 2, none⟩ = false := own_frozen hO3 rfl _
          have f3 : w3.frozen? ⟨g, a * 5 + 3, none⟩ = false := own_frozen hO3 rfl _
          have f4 : w3.frozen? ⟨g, a * 5 + 4, none⟩ = false := own_frozen hO3 rfl _
          have m0 : w3.cell? ⟨wo.heap.size, 0, none⟩ = some (.int .i64 ino) := (hB3.cell 0).trans rfl
          have m1 : w3.cell? ⟨wo.heap.size, 1, none⟩ = some (.slice A1 data.length cc1) := (hB3.cell 1).trans rfl
          have m2 : w3.cell? ⟨wo.heap.size, 2, none⟩ = some (.bool cp) := (hB3.cell 2).trans rfl
          have m3 : w3.cell? ⟨wo.heap.size, 3, none⟩ = some (.bool wh) := (hB3.cell 3).trans rfl
          have m4 : w3.cell? ⟨wo.heap.size, 4, none⟩ = some (.int .i64 left) := (hB3.cell 4).trans rfl
          have hO4 := own_fi hO3 rfl hXl.symm a haX ⟨ino, .slice A1 data.length cc1, data, cp, wh, left⟩
          have hG4 := grownBy_trans hG3 (grown_stores g (fiV ⟨ino, .slice A1 data.length cc1, data, cp, wh, left⟩) (a * 5) w3)
          have HO4 := keep hO4
          have HG4 := keep hG4
          have hst := HST.out
          have hD4 : (X.set a ⟨ino, .slice A1 data.length cc1, data, cp, wh, left⟩).drop (b + 1) = L.drop (b + 1) := by
            rw [List.drop_set_of_lt (by omega)]; exact drop_succ' hD.out
          have hF4 : (X.set a ⟨ino, .slice A1 data.length cc1, data, cp, wh, left⟩).take (a + 1) = (L.take (b + 1)).filter fun t => !p t := by
            rw [← hst, List.take_succ_eq_append_getElem (by simpa using haX), List.getElem_set_self, List.take_set_of_le (Nat.le_refl _)]
            simp
          have HD4 := keep hD4
          have HF4 := keep hF4
          clear hO3 hG3 hB3 hb3 hst hO4 hG4 hD4 hF4 c0' c1 c2 c3 c4 e0 e1 e2 e3 e4
          go_wp2_with fail
          go_roundw
          case rel => exact ⟨a + 1, b + 1, _, by omega, by omega, by go_num, by go_num, by simpa using hXl, HO4, HF4, HD4, HG4⟩
          case measure => simp [intOf]; omega
      · obtain rfl : b = L.length := by omega
        have hF' := hF.out
        rw [List.take_length] at hF'
        have hfit : a * 5 + (L.length - a) * 5 ≤ L.length * 5 := by omega
        have HF' := keep hF'
        have HFIT := keep hfit
        have i3 : (a : Int) < (L.length : Int) := by omega
        have i4 : (a : Int) ≤ (L.length : Int) := by omega
        have i5 : (a : Int) ≤ 1000000 := by omega
        have hcap : ¬ (c0 = a) := by omega
        clear hF' hfit
        go_wp2_with (refine wpList_clearOwn elFi zcFi _ rfl _ rfl hO.out rfl (a * 5) (L.length - a) (c0 - a) rfl (by omega) HFIT.out ?_; intro w2 zs hzl hown2 hgr2)
        go_ret
        have hsh := own_shorter (k := a) hown2 (by omega)
        have hlen : (fis X).length = L.length * 5 := by rw [fis_len, hXl]
        have e1 : ((fis X).take (a * 5) ++ zs ++ (fis X).drop (a * 5 + zs.length)).take (a * 5) = fis (X.take a) := by
          rw [List.append_assoc, List.take_append_of_le_length (by rw [List.length_take]; omega), List.take_take, Nat.min_self]
          exact rows_take fiV_len X a (by omega)
        have e2 : a = (L.filter fun t => !p t).length := by rw [← HF'.out, List.length_take]; omega
        rw [e1, HF'.out] at hsh
        refine ⟨_, rfl, ?_, grownBy_trans hG.out hgr2⟩
        rw [← e2]
        exact hsh
end Go.Proofs.YtgegmefnbkcdkaaDoor
