/- template.Of: the walk. -/
import Derived.Test.YtigogjlbemkhdaaGreatTmSort
namespace Go.Proofs.YtigogjlbemkhdaaGreat
open Go.RowKit Go.Maps
variable {oB : Nat}
/-- The step of a range over a map of slices. -/
theorem wpList_next_V (w : World) {ops : Array Oper} {rest : List Oper} {o : Oper} {a : Act} {Q : Exit → Act → World → Prop} (hg : o.guard = none) (it : Operand) (hop : o.op = Op.next it false)
    (b r n : Nat) (D : DataW Value) (left : Lit → Bool) (cnt : Nat) (hit : a.eval it = .pointer (some ⟨r, 0, none⟩)) (h : w.ranges Tryz.prog 3 rdV b r n D left cnt)
    (hDone : cnt = 0 → (∀ kl, left kl = false) → wpList Tryz.prog ops Q rest (a.put o.dst (.tuple #[.bool false])) w)
    (hMore : ∀ (x : Int) (v : Value) (w' : World) (cnt' : Nat), left (.int .i64 x) = true → (∀ zd, D.atKey (.int .i64 x) zd = .held v) → w'.ranges Tryz.prog 3 rdV b r n D (fun z => left z && !z.sameKey (.int .i64 x)) cnt' → cnt' < cnt →
      w.grownBy w' (some r) → w'.heap.size = w.heap.size → (Instr.entry (.pointer (some ⟨r, 0, none⟩))).run Tryz.prog w' = .ok (.tuple #[.int .i64 x, v]) w' → wpList Tryz.prog ops Q rest (a.put o.dst (.tuple #[.bool true, .int .i64 x, v])) w') :
    wpList Tryz.prog ops Q (o :: rest) a w :=
  wpList_next_ranges w hg it hop 3 lawN rdV (Value.int .i64) id (fun key kl hkey => by obtain ⟨x, rfl, _⟩ := Maps.keyOf_int_inv Tryz.underlying3 hkey; exact ⟨x, rfl⟩) (fun v y _ => ⟨v, rfl⟩)
    b r n D left cnt hit h (fun h0 hl => hDone h0 hl) (fun x c kl y w' cnt' hkey hlk hv hat hrg hlt hgr hsz hen => by
      obtain ⟨x', ex, rfl, hx⟩ := Maps.keyOf_int_inv Tryz.underlying3 hkey
      cases ex
      have hy : y = (.held c, []) := (Option.some.inj hv).symm
      subst hy
      exact hMore x c w' cnt' hlk hat hrg hlt hgr hsz hen)
/-- A map's block and the block of its range are no block of cells. -/
theorem ranges_ne {w : World} {b r n g e cnt : Nat} {D : DataW Value} {left : Lit → Bool} {cs : Array Value} (h : w.ranges Tryz.prog 3 rdV b r n D left cnt) (hb : Blk w g e cs) : b ≠ g ∧ r ≠ g := by
  obtain ⟨es, clock, since, seen, c0, h1, _, _, _, h2, _⟩ := h
  unfold Blk at hb
  constructor
  · rintro rfl
    rw [h1] at hb
    cases hb
  · rintro rfl
    rw [h2] at hb
    cases hb
theorem owns_ne {w : World} {b n e size k base : Nat} {D : DataW Value} {v : Value} {xs : List Value} (h : w.ownsMap Tryz.prog 3 rdV b n D) (ho : w.ownsRow base e size v k xs) : some b ≠ v.ownBlock := by
  obtain ⟨es, clock, h1, _⟩ := h
  rcases ho.2 with ⟨rfl, _⟩ | ⟨q, cap, cur, rfl, _, hg, _⟩
  · intro e; cases e
  · intro e
    have : b = q := by simpa [Value.ownBlock] using e
    subst this
    rw [h1] at hg
    cases hg
theorem ranges_own {w : World} {b r n e size k base cnt : Nat} {D : DataW Value} {left : Lit → Bool} {v : Value} {xs : List Value} (h : w.ranges Tryz.prog 3 rdV b r n D left cnt) (ho : w.ownsRow base e size v k xs) : some r ≠ v.ownBlock := by
  obtain ⟨es, clock, since, seen, c0, _, _, _, _, h2, _⟩ := h
  rcases ho.2 with ⟨rfl, _⟩ | ⟨q, cap, cur, rfl, _, hg, _⟩
  · intro e; cases e
  · intro e
    have : r = q := by simpa [Value.ownBlock] using e
    subst this
    rw [h2] at hg
    cases hg
theorem own_ne {v : Value} {b : Nat} (h : some b ≠ v.ownBlock) : v.ownBlock = none ∨ v.ownBlock ≠ some b := .inr fun e => h e.symm
/-- The templates of all groups: no two with the same tokens, none without tokens. -/
theorem groups_apart {ks : List Nat} {L R : List Tm} (hn : ks.Nodup) (hk : ∀ i, i ∈ ks → grpT i L ≠ []) (hP : (tpL R).Perm (ks.flatMap fun n => tplF n FUEL (tpL (grpT n L)))) : Apart R := by
  have hne : ∀ i, i ∈ ks → tpL (grpT i L) ≠ [] := fun i hi e => hk i hi (List.map_eq_nil_iff.1 e)
  constructor
  · have e : (R.map fun t => strs t.tk) = (tpL R).map (·.1) := by
      unfold tpL
      rw [List.map_map]
      rfl
    rw [e]
    refine (hP.map _).nodup_iff.2 ?_
    rw [List.map_flatMap, List.Nodup, List.pairwise_flatMap]
    refine ⟨fun i hi => tplF_nodup i FUEL _ (hne i hi), ?_⟩
    refine List.Pairwise.imp_of_mem (fun {a b} ha hb hab x hx y hy e => ?_) hn
    obtain ⟨r, hr, rfl⟩ := List.mem_map.1 hx
    obtain ⟨q, hq, hrq⟩ := List.mem_map.1 hy
    have e1 := (tplF_tok a FUEL _ (hne a ha) r hr).1
    have e2 := (tplF_tok b FUEL _ (hne b hb) q hq).1
    exact hab (by rw [← e1, ← e2, hrq, e])
  · intro t ht e
    have hm : (strs t.tk, t.ct) ∈ ks.flatMap fun n => tplF n FUEL (tpL (grpT n L)) := hP.mem_iff.1 (List.mem_map.2 ⟨t, ht, rfl⟩)
    obtain ⟨i, hi, hr⟩ := List.mem_flatMap.1 hm
    have e1 := (tplF_tok i FUEL _ (hne i hi) _ hr).1
    have := (grpT_bnd (hk i hi)).1
    rw [e] at e1
    simp [strs] at e1
    omega
/-- What Of gives. -/
def OfOut (L : List Tm) (w : World) (x : Ending) (w' : World) : Prop :=
  ∃ v' R, x = .returned v' ∧ w'.ownsRow w.heap.size 32 2 v' R.length (tms R) ∧ (∀ t ∈ R, TkM w' w.heap.size t) ∧ (tpL R).Perm (ofA (tpL L)) ∧ Srt (tpL R) ∧ R.length ≤ L.length ∧ Below w.heap.size w w'
set_option maxHeartbeats 4000000 in
set_option maxRecDepth 100000 in
theorem of_any (v : Value) (L : List Tm) (w : World) (hs : Sl w (lt w.heap.size) 2 v L.length (tms L)) (hT : ∀ t ∈ L, TkR oB w t) (hc : ∀ t ∈ L, t.ct ≤ 9223372036854775807) (hm : L.length ≤ 100000) (ho : oB ≤ w.heap.size) :
    Calls Tryz.prog 34 #[v] w (OfOut L w) := by
  obtain ⟨A0, c0, rfl, _, hs⟩ := hs.form
  have HSL := keep hs
  have HT := keep hT
  have HCT := keep hc
  have HMB := keep (World.ownsMap_made (H := Value) w Tryz.prog 3 rdV)
  have hmm := @run_makeMap Tryz.prog
  obtain ⟨B, hB⟩ : ∃ B, B = w.heap.size := ⟨_, rfl⟩
  have HB0 := keep ((Below.refl _ w).alloc (Nat.le_refl _) (.map #[] 0))
  have HRG := keep (RowG.start (w.alloc (.map #[] 0)) w.heap.size)
  clear hs hT hc
  go_enter Tryz.func34, Tryz.ntmps34
  go_wp2_with fail
  clear hmm
  rw [← hB] at HMB HB0 HRG ⊢
  have HBE := keep hB
  clear hB
  go_loopw [13] (fun i wr => ∃ (j : Nat) (D : DataW Value) (gs : Nat → Value), j ≤ L.length ∧ i = .int .i64 j ∧ Hid (wr.ownsMap Tryz.prog 3 rdV B j D) ∧ Hid (MapG D gs (L.take j)) ∧ Hid (RowG wr B gs (L.take j)) ∧ Hid (Below B w wr)) (fun i _ => L.length - (intOf i).toNat)
  case atStart => exact ⟨0, .map [], _, Nat.zero_le _, rfl, HMB, keep MapG.start, HRG, HB0⟩
  case round =>
    obtain ⟨j, D, gs, hj, rfl, hM, hG, hRow, hBr⟩ := hrel
    obtain ⟨wo, rfl⟩ : ∃ wo : World, wo = wr := ⟨_, rfl⟩
    have HBw : Hid (Below w.heap.size w wo) := keep (HBE.out ▸ hBr.out)
    have hBz : B ≤ wo.heap.size := by rw [HBE.out]; exact HBw.out.size
    by_cases hlt : j < L.length
    · obtain ⟨b9, o9, rfl, _, d0, d1⟩ := tm_cells (HSL.out.below HBw.out (Nat.le_refl _)) hlt
      have hT1 := (HT.out _ (List.getElem_mem hlt))
      obtain ⟨ya, yn, yc, hyv⟩ := hT1.form
      obtain ⟨ct, hct⟩ : ∃ x, x = L[j].ct := ⟨_, rfl⟩
      have hyn : yn = L[j].tk.length := by
        have h := hT1.1
        rw [hyv] at h
        obtain ⟨_, _, _, hv, _⟩ := h
        injection hv
      have hyl : yn ≤ 1048576 := by rw [hyn]; exact hT1.2
      rw [hyv] at d0
      rw [← hct] at d1
      have hcm : ct ≤ 9223372036854775807 := by rw [hct]; exact HCT.out _ (List.getElem_mem hlt)
      have HYV := keep hyv
      have HYN := keep hyn
      have HC := keep hct
      have hal : Below wo.heap.size wo (wo.alloc (.cells #[.slice ya yn yc, .int .i64 ct] 32)) := (Below.refl _ wo).alloc (Nat.le_refl _) _
      have HAL := keep hal
      have HMa := keep (hM.out.alloc (.cells #[.slice ya yn yc, .int .i64 ct] 32))
      have HRa := keep (hRow.out.kept (grownBy_of_below hal none) (by simp))
      have HBa := keep (hBr.out.trans (hal.mono hBz))
      have i1 : (j : Int) < (L.length : Int) := by omega
      have i2 : (j : Int) ≤ 1048576 := by omega
      have i3 : (yn : Int) ≤ 1048576 := by omega
      clear hyv hyn hct hT1 hal
      by_cases hok : okT yn L[j] = true
      · have hk := okT_iff.1 hok
        have g1 : (1 : Int) ≤ ct := by rw [HC.out]; exact hk.2.1
        have g2 : (1 : Int) ≤ (yn : Int) := by omega
        have g3 : (yn : Int) ≤ 60 := by omega
        have hrun : (Instr.lookup 68 (.map (some B)) (.int .i64 (yn : Int)) false).run Tryz.prog (wo.alloc (.cells #[.slice ya yn yc, .int .i64 ct] 32)) = .ok (gs yn) (wo.alloc (.cells #[.slice ya yn yc, .int .i64 ct] 32)) := by
          obtain ⟨v, ps, hr, hv⟩ := HMa.out.lookup lawN Tryz.underlying68 (Tryz.zeroValue23 _) (show rdV (.slice none 0 0) = some (.held (.slice none 0 0), []) from rfl) (keyN hyl)
          rw [hG.out.get] at hv
          have e : (DataW.held v, ([] : List MemPlace)) = (.held (gs yn), ps) := Option.some.inj hv
          injection e with e1
          injection e1 with e2
          rw [← e2]
          exact hr
        have HOW := keep (HRa.out.own yn)
        have hGl : (grpT yn (L.take j)).length ≤ 100000 := by
          have h1 : (grpT yn (L.take j)).length ≤ (L.take j).length := List.length_filter_le _ _
          rw [List.length_take] at h1
          omega
        have hx1 : ∀ c ∈ (Value.agg #[.slice ya yn yc, .int .i64 ct]).cells.toList, c.oneCell' = true := by
          intro c hc
          simp [Value.cells] at hc
          rcases hc with rfl | rfl <;> rfl
        have HX1 := keep hx1
        have HKEY := keep (keyN hyl)
        have hjm : j < maxLen := by unfold maxLen; omega
        have hBa : B ≤ (wo.alloc (.cells #[.slice ya yn yc, .int .i64 ct] 32)).heap.size := by simp; omega
        clear hk hx1
        go_wp2_with (refine wpList_push elTm rfl rfl (.tmp 36) (.tmp 35) 37 rfl rfl rfl B (gs yn) (.agg #[.slice ya yn yc, .int .i64 ct]) (grpT yn (L.take j)).length (tms (grpT yn (L.take j))) ?_ ?_ ?_ ?_ ?_ ?_ ?_ ?_ ?_ ?_ ?_)
        case refine_1 => rfl
        case refine_2 => intro q; rfl
        case refine_3 => intro q; rfl
        case refine_4 => exact HOW.out
        case refine_5 => rfl
        case refine_6 => exact HX1.out
        case refine_7 => decide
        case refine_8 => unfold maxLen; omega
        case refine_9 => omega
        case refine_10 => exact hBa
        case refine_11 =>
          intro g cap w9 hown9 hb9 hg9 hn9 hgl9
          have HM9 := keep (HMa.out.kept hg9 (owns_ne HMa.out HOW.out))
          have HR9 : Hid (RowG w9 B (putG gs yn (.slice (some ⟨g, 0, none⟩) ((grpT yn (L.take j)).length + 1) cap)) (L.take j ++ [L[j]])) := keep (HRa.out.put hok hg9 (by
            have e : tmV L[j] = (Value.agg #[.slice ya yn yc, .int .i64 ct]).cells.toList := by
              simp [tmV, Value.cells, HYV.out, HC.out]
            rw [e]
            exact hown9) (fun q hq => by
            have : g = q := by simpa [Value.ownBlock] using hq
            subst this
            simpa using hn9))
          have HG9 : Hid (MapG (D.put (.int .i64 (yn : Int)) (.held (.slice (some ⟨g, 0, none⟩) ((grpT yn (L.take j)).length + 1) cap))) (putG gs yn (.slice (some ⟨g, 0, none⟩) ((grpT yn (L.take j)).length + 1) cap)) (L.take j ++ [L[j]])) := keep (hG.out.put hM.out.isMap hok _)
          have HB9 := keep (HBa.out.trans hb9)
          clear hown9 hb9 hg9 hn9 hgl9
          go_wp2_with (at_mapUpdate; refine wpList_mapUpdate_own _ rfl _ _ _ 68 rfl 3 23 lawN Tryz.underlying68 rdV B j D rfl HM9.out hjm _ _ _ rfl rfl HKEY.out _ [] rfl ?_; intro w10 hown10 hgr10)
          have HM10 := keep hown10
          have HR10 := keep (HR9.out.kept hgr10 (fun i q hq e => owns_ne HM9.out (HR9.out.own i) (e.trans hq.symm)))
          have HB10 := keep (below_grown HB9.out hgr10 (by rw [HBE.out]; exact HB9.out.size) (Nat.le_refl _))
          clear hown10 hgr10
          go_roundw
          case rel => exact ⟨j + 1, _, _, by omega, by go_num, HM10, keep (by rw [List.take_succ_eq_append_getElem hlt]; exact HG9.out), keep (by rw [List.take_succ_eq_append_getElem hlt]; exact HR10.out), HB10⟩
          case measure => simp [intOf]; omega
      · have hall : ∀ i, okT i L[j] = false := fun i => by
          cases h : okT i L[j] with
          | false => rfl
          | true =>
            have h1 := (okT_iff.1 h).1
            have h2 : i = yn := by rw [HYN.out]; exact h1.symm
            rw [h2] at h
            exact absurd h hok
        have HG7 : Hid (MapG D gs (L.take (j + 1))) := keep (by rw [List.take_succ_eq_append_getElem hlt]; exact hG.out.skip hall)
        have HR7 : Hid (RowG (wo.alloc (.cells #[.slice ya yn yc, .int .i64 ct] 32)) B gs (L.take (j + 1))) := keep (by rw [List.take_succ_eq_append_getElem hlt]; exact HRa.out.skip hall)
        have HM7 := keep (HMa.out.mono (show j ≤ j + 1 by omega))
        have hno : ¬ (1 ≤ ct ∧ 1 ≤ yn ∧ yn ≤ 60) := fun h => hok (okT_iff.2 ⟨HYN.out.symm, by rw [← HC.out]; exact h.1, h.2.1, h.2.2⟩)
        have HNO := keep hno
        clear hok hall hno
        by_cases g1 : (1 : Int) ≤ ct
        · by_cases g2 : (1 : Int) ≤ (yn : Int)
          · have g3 : ¬ (yn : Int) ≤ 60 := fun h => HNO.out ⟨g1, by omega, by omega⟩
            go_wp2_with fail
            go_roundw
            case rel => exact ⟨j + 1, _, _, by omega, by go_num, HM7, HG7, HR7, HBa⟩
            case measure => simp [intOf]; omega
          · go_wp2_with fail
            go_roundw
            case rel => exact ⟨j + 1, _, _, by omega, by go_num, HM7, HG7, HR7, HBa⟩
            case measure => simp [intOf]; omega
        · go_wp2_with fail
          go_roundw
          case rel => exact ⟨j + 1, _, _, by omega, by go_num, HM7, HG7, HR7, HBa⟩
          case measure => simp [intOf]; omega
    · obtain rfl : j = L.length := by omega
      have HGA : Hid (MapG D gs L) := keep (by have h := hG.out; rwa [List.take_length] at h)
      have HRA : Hid (RowG wo B gs L) := keep (by have h := hRow.out; rwa [List.take_length] at h)
      clear hG hRow hlt hj
      go_wp2_with (at_range; refine wpList_range_own _ rfl _ 68 rfl 3 23 lawN Tryz.underlying68 rdV B L.length D rfl hM.out ?_; intro w0 hrg0 hg0 hs0)
      go_frame
      obtain ⟨R0, hR0⟩ : ∃ R0, wo.heap.size = R0 := ⟨_, rfl⟩
      have hBl : B < wo.heap.size := hM.out.lt
      have hb0 := below_of_none hg0
      have HB0 := keep (hBr.out.trans (hb0.mono hBz))
      have HRW0 : Hid (RowG w0 B gs L) := keep (HRA.out.kept hg0 (by simp))
      have HGL : Hid (∀ i g, (gs i).ownBlock = some g → g < w0.heap.size) := keep (fun i g hg => ((HRW0.out.own i).lt g hg).2)
      rw [hR0] at hrg0 hBl hs0 ⊢
      have HRG0 := keep hrg0
      have hRb : R0 < w0.heap.size := by omega
      have hBb : B < w0.heap.size := by omega
      have hN0 : Hid (w0.ownsRow w0.heap.size 32 2 (.slice none 0 0) 0 (tms [])) := keep (World.ownsRow_nil _ _ _ _)
      clear hM hrg0 hg0 hs0 hb0 hR0 hBr
      go_loopw [7] (fun u7 wr => ∃ (left : Lit → Bool) (cnt : Nat) (ks : List Nat) (ov : Value) (R : List Tm), u7 = ov ∧ Hid (wr.ranges Tryz.prog 3 rdV B R0 L.length D left cnt) ∧ Hid (VisN D left ks) ∧ Hid (∀ i, i ∈ ks → grpT i L ≠ []) ∧ Hid (wr.ownsRow w0.heap.size 32 2 ov R.length (tms R)) ∧ Hid (∀ t ∈ R, TkM wr w0.heap.size t) ∧ Hid ((tpL R).Perm (ks.flatMap fun n => tplF n FUEL (tpL (grpT n L)))) ∧ Hid (R.length ≤ (ks.map fun i => (grpT i L).length).sum) ∧ Hid (∀ i, i ∉ ks → wr.ownsRow B 32 2 (gs i) (grpT i L).length (tms (grpT i L))) ∧ Hid (Below B w wr) ∧ Hid (w0.heap.size ≤ wr.heap.size)) (fun _ wr => wr.rangeLeft B R0)
      case atStart => exact ⟨_, _, [], _, [], rfl, HRG0, keep (VisN.start D), keep (by intro i hi; cases hi), hN0, keep (by intro t ht; cases ht), keep (List.Perm.refl _), keep (Nat.le_refl _), keep (fun i _ => HRW0.out.own i), HB0, keep (Nat.le_refl _)⟩
      case round =>
        clear HRG0 hN0 HB0
        obtain ⟨left, cnt, ks, ov, R, rfl, hrg, hV, hK, hO, hTk, hP, hLe, hRw, hBr, hZr⟩ := hrel
        obtain ⟨wq, rfl⟩ : ∃ wq : World, wq = wr := ⟨_, rfl⟩
        obtain ⟨OA, OC, rfl, _⟩ := own_sl hO.out
        have HLN : Hid (R.length ≤ L.length) := keep (Nat.le_trans hLe.out (grp_sum hV.out.1 L))
        go_wp2_with (at_next; refine wpList_next_V _ rfl _ rfl B R0 L.length D left cnt rfl hrg.out ?_ ?_)
        · intro _ hdone
          have HPA : Hid ((tpL R).Perm (ofA (tpL L))) := keep (hP.out.trans (keys_ofA hV.out.1 fun i => ⟨hK.out i, fun h => hV.out.done hdone (HGA.out.has i h)⟩))
          have HSORT := keep (sort_tm (.slice OA R.length OC) R w0.heap.size wq hO.out (fun t ht => (hTk.out t ht).r) (groups_apart hV.out.1 hK.out hP.out) (by have := HLN.out; omega))
          clear hdone hrg
          go_wp2_with fail
          refine HSORT.out.mono ?_
          rintro e w5 ⟨rfl, R', hp5, hs5, ho5, hg5⟩
          have hBB : w.heap.size ≤ w0.heap.size := by rw [← HBE.out]; omega
          have hbw : Below w.heap.size w w5 := (HBE.out ▸ hBr.out : Below w.heap.size w wq).trans ⟨hg5.os, hg5.tape, hg5.output, hg5.size, fun i hi => hg5.block i (by have := hZr.out; omega) (fun e => by have := (hO.out.lt i e.symm).1; omega)⟩
          have HOUT : Hid (OfOut L w (.returned (.slice OA R.length OC)) w5) := keep ⟨_, R', rfl, own_base ho5 hBB, fun t ht => by
            have h1 := hTk.out t (hp5.mem_iff.1 ht)
            exact ⟨own_base (h1.1.kept hg5 (own_part h1.1 hO.out (by decide))) hBB, h1.2⟩, (hp5.map _).trans HPA.out, hs5, by rw [hp5.length_eq]; exact HLN.out, hbw⟩
          clear hp5 hs5 ho5 hg5 hbw
          go_wp2_with fail
          go_ret
          exact HOUT.out
        · intro x c w1 cnt1 hl hat hrg1 hlt1 hg1 hs1 hen
          have hhas : Maps.has D (.int .i64 x) = true := by
            have h := hV.out.2 (.int .i64 x)
            rw [hl] at h
            exact (Bool.and_eq_true _ _ ▸ h.symm : _ ∧ _).1
          obtain ⟨i, hxi, hi⟩ := HGA.out.key _ hhas
          obtain rfl : x = (i : Int) := by injection hxi
          have hci : c = gs i := by
            have h := hat (.held (.slice none 0 0))
            rw [HGA.out.get] at h
            injection h with h
            exact h.symm
          subst hci
          have hik := (hV.out.new hl).2
          obtain ⟨hi1, hi6⟩ := grpT_bnd hi
          have hrow1 : ∀ j, j ∉ ks → w1.ownsRow B 32 2 (gs j) (grpT j L).length (tms (grpT j L)) := fun j hj => (hRw.out j hj).kept hg1 (own_ne (ranges_own hrg.out (hRw.out j hj)))
          obtain ⟨g, cc, Y, hgs, hBg, hcc, hMid⟩ := mid_of_own (hrow1 i hik) hi
          have hgw0 := HGL.out i g (by rw [hgs]; rfl)
          have hb1 : Below B w w1 := below_grown hBr.out hg1 (by have := hZr.out; omega) (by omega)
          have hgl : (grpT i L).length ≤ L.length := List.length_filter_le _ _
          have hb1w : Below w.heap.size w w1 := HBE.out ▸ hb1
          have HMINE := keep (mine_any i hi1 hi6 (grpT i L) g cc Y w1 hi hMid hcc (fun t ht => ⟨(grpT_mem ht).2.2.1, HCT.out t (grpT_mem ht).1⟩) (fun t ht => ⟨(HT.out t (grpT_mem ht).1).up hb1w, (grpT_mem ht).2.1⟩) (by omega) (by have h7 := HBE.out; have h8 := hb1w.size; omega) (by have h7 := HBE.out; have h8 := hBg; omega))
          have HLE := keep hrg.out.left_eq
          have HRG1 := keep hrg1
          have HRNE := keep (ranges_ne hrg1 (show Blk w1 g 32 _ from hMid))
          have HV1 := keep (hV.out.step hl)
          have HO1 := keep (own_grown hO.out hg1 hRb)
          have HT1 : Hid (∀ t ∈ R, TkM w1 w0.heap.size t) := keep (fun t ht => ⟨own_grown (hTk.out t ht).1 hg1 hRb, (hTk.out t ht).2⟩)
          have HROW1 := keep hrow1
          have HB1 := keep hb1
          have HLT1 := keep hlt1
          have HGS := keep hgs
          have HI := keep hi
          have HIK := keep hik
          have hz1 : w0.heap.size ≤ w1.heap.size := by rw [hs1]; exact hZr.out
          rw [hgs] at hen ⊢
          clear hl hat hrg1 hlt1 hg1 hs1 hhas hxi hrow1 hMid hb1 hb1w hgs hi hik hcc
          go_wp2_with fail
          refine HMINE.out.mono ?_
          rintro e w5 ⟨v5, R5, rfl, ho5, ht5, hp5, hl5, hg5⟩
          obtain ⟨VA, VC, rfl, _⟩ := own_sl ho5
          have HO5 := keep (own_grown HO1.out hg5 hgw0)
          have HT5 : Hid (∀ t ∈ R, TkM w5 w0.heap.size t) := keep (fun t ht => ⟨own_grown (HT1.out t ht).1 hg5 hgw0, (HT1.out t ht).2⟩)
          have HU5 : Hid (∀ t ∈ R5, TkM w5 w0.heap.size t) := keep (fun t ht => ⟨own_base (ht5 t ht).1 hz1, (ht5 t ht).2⟩)
          have HONE := keep (tms_one R5 fun t ht => ((ht5 t ht).r (oB := 0)).form)
          have HS5 := keep (Sl.of_own ho5)
          have hz5 : w0.heap.size ≤ w5.heap.size := Nat.le_trans hz1 hg5.size
          have HG5 := keep hg5
          have HP5 := keep hp5
          have HL5 := keep hl5
          have HA : Hid (R.length + R5.length ≤ maxLen) := keep (by have := HLN.out; unfold maxLen; omega)
          have HC : Hid ((R.length + R5.length) * 32 ≤ 140737488355328) := keep (by have := HLN.out; omega)
          clear ho5 ht5 hp5 hg5 hl5
          go_wp2_with (refine wpList_appendS elTm rfl (.tmp 46) (.tmp 48) rfl w0.heap.size (.slice OA R.length OC) R.length (tms R) rfl HO5.out _ (.slice VA R5.length VC) R5.length (tms R5) rfl HS5.out HONE.out HA.out HC.out hz5 ?_; intro v6 w6 hown6 hb6 hg6)
          have hnR : ∀ j, j < w0.heap.size → some j ≠ (Value.slice OA R.length OC).ownBlock := fun j hj e => by have := (HO5.out.lt j e.symm).1; omega
          have hrg6 := (HRG1.out.kept HG5.out (fun e => HRNE.out.1 (by injection e)) (fun e => HRNE.out.2 (by injection e))).kept hg6 (hnR B hBb) (hnR R0 hRb)
          have HRG6 := keep hrg6
          have HLE6 := keep hrg6.left_eq
          have HO6 : Hid (w6.ownsRow w0.heap.size 32 2 v6 (R ++ R5).length (tms (R ++ R5))) := keep (by
            rw [List.length_append, tms_append]
            exact hown6)
          have HT6 : Hid (∀ t ∈ R ++ R5, TkM w6 w0.heap.size t) := keep (fun t ht => by
            have h1 : TkM w5 w0.heap.size t := (List.mem_append.1 ht).elim (HT5.out t) (HU5.out t)
            exact ⟨h1.1.kept hg6 (own_part h1.1 HO5.out (by decide)), h1.2⟩)
          have HP6 : Hid ((tpL (R ++ R5)).Perm ((ks ++ [i]).flatMap fun n => tplF n FUEL (tpL (grpT n L)))) := keep (by
            rw [List.flatMap_append]
            unfold tpL
            rw [List.map_append]
            refine hP.out.append (HP5.out.trans ?_)
            simp only [List.flatMap_cons, List.flatMap_nil, List.append_nil]
            exact List.Perm.refl _)
          have HL6 : Hid ((R ++ R5).length ≤ ((ks ++ [i]).map fun i => (grpT i L).length).sum) := keep (by
            have h1 := hLe.out
            have h2 := HL5.out
            rw [List.length_append, List.map_append, List.sum_append]
            simp only [List.map_cons, List.map_nil, List.sum_cons, List.sum_nil]
            omega)
          have HR6 : Hid (∀ j, j ∉ ks ++ [i] → w6.ownsRow B 32 2 (gs j) (grpT j L).length (tms (grpT j L))) := keep (fun j hj => by
            have hj1 : j ∉ ks := fun h => hj (List.mem_append_left _ h)
            have hj2 : j ≠ i := fun h => hj (by rw [h]; simp)
            have h5 := (HROW1.out j hj1).kept HG5.out (.inr fun e => HRW0.out.ne j i hj2 g e (by rw [HGS.out]; rfl))
            refine h5.kept hg6 ?_
            cases hb : (gs j).ownBlock with
            | none => exact .inl rfl
            | some q => exact .inr fun e => hnR q (HGL.out j q hb) e)
          have HB6 : Hid (Below B w w6) := keep ((below_grown HB1.out HG5.out (by omega) hBg).trans (hb6.mono (by omega)))
          have HK6 : Hid (∀ j, j ∈ ks ++ [i] → grpT j L ≠ []) := keep (fun j hj => by
            rcases List.mem_append.1 hj with h | h
            · exact hK.out j h
            · rw [List.mem_singleton.1 h]; exact HI.out)
          have HZ6 : Hid (w0.heap.size ≤ w6.heap.size) := keep (Nat.le_trans hz5 hg6.size)
          clear hrg6 hown6 hb6 hg6 hnR
          go_wp2_with fail
          go_roundw
          case rel => exact ⟨_, _, ks ++ [i], _, R ++ R5, rfl, HRG6, HV1, HK6, HO6, HT6, HP6, HL6, HR6, HB6, HZ6⟩
          case measure => rw [HLE6.out, HLE.out]; exact HLT1.out
end Go.Proofs.YtigogjlbemkhdaaGreat
