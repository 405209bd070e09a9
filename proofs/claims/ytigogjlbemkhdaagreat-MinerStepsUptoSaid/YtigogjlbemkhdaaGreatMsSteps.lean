/- MinerSteps: the walk. -/
import Derived.Test.YtigogjlbemkhdaaGreatMsAll
namespace Go.Proofs.YtigogjlbemkhdaaGreat
open Go.RowKit

theorem grownBy_setN {a w : World} {g : Nat} {row : Option Nat} (h : a.grownBy w row) (hg : a.heap.size ≤ g) (i : Nat) (u : Value) : a.grownBy (w.setCell ⟨g, i, none⟩ u) row :=
  ⟨h.os, h.tape, h.output, by simpa [World.setCell] using h.size, fun k hk hne => (Below.heap_setCell w _ u k (by intro e; have e2 : k = g := e; omega)).trans (h.block k hk hne)⟩
theorem sp_lenZ : ∀ (l cur : List UInt8), ∀ w ∈ sp l cur, w.length ≤ l.length + cur.length
  | [], cur, w, hw => by
    unfold sp at hw
    split at hw
    · cases hw
    · rw [List.mem_singleton.1 hw]; simp
  | x :: l, cur, w, hw => by
    unfold sp at hw
    rw [List.length_cons]
    split at hw
    · split at hw
      · have := sp_lenZ l [] w hw
        simp at this
        omega
      · rcases List.mem_cons.1 hw with h | h
        · rw [h]; omega
        · have := sp_lenZ l [] w h
          simp at this
          omega
    · have := sp_lenZ l (cur ++ [x]) w hw
      rw [List.length_append] at this
      simp at this
      omega
theorem tokW_lenZ {l : List UInt8} {U : List (List UInt8)} (h : tokW l = some U) : ∀ u ∈ U, u.length ≤ l.length := by
  intro u hu
  unfold tokW at h
  split at h
  · cases h
  · have hU : (words l).map vrL = U := Option.some.inj h
    subst hU
    obtain ⟨w, hw, rfl⟩ := List.mem_map.1 hu
    have h1 := sp_lenZ l [] w hw
    unfold vrL
    split
    · simp
    · simpa using h1
theorem state_small {L : List Tm} {S : List ByteArray} {n : Int} (hG : Good (st L) n) (hK : ∀ U, cnt (st L) U = cntS S U) (hZ : ∀ s ∈ S, s.size ≤ 1000) : ∀ t ∈ L, ∀ x ∈ t.tk, x.size ≤ 1000 := by
  intro t ht x hx
  obtain ⟨i, hi, rfl⟩ := List.getElem_of_mem ht
  have h1 := cnt_at hi hG.s
  have h2 := hG.p _ (List.mem_map.2 ⟨L[i], List.getElem_mem hi, rfl⟩)
  simp only at h2
  rw [hK] at h1
  obtain ⟨s, hs, hw⟩ := cntS_pos (T := S) (U := strs L[i].tk) (by omega)
  have h3 := tokW_lenZ hw (lb x) (List.mem_map.2 ⟨x, hx, rfl⟩)
  have h4 := hZ s hs
  have e1 : (lb x).length = x.size := rfl
  have e2 : (lb s).length = s.size := rfl
  omega
theorem wpList_appendG {P : Program} {t e size bytes : Nat} {z : Value} (E : Elem P t e size bytes z) {ops : Array Oper} {rest : List Oper} {o : Oper} {a : Act} {w : World} {Q : Exit → Act → World → Prop} (hw : Region.wanted o (yielded ops a.tmps) = true)
    (s x : Operand) (ho : o.op = .call { callee := .builtin .append, args := #[s, x], argTypes := #[t, t] })
    (base : Nat) (v : Value) (n : Nat) (xs : List Value) (hs : a.eval s = v) (hown : w.ownsRow base e size v n xs)
    (S : Nat → Prop) (vx : Value) (m : Nat) (news : List Value) (hx : a.eval x = vx) (hsrc : Sl w S size vx m news) (h1 : ∀ u ∈ news, u.oneCell' = true)
    (h63 : n + m ≤ maxLen) (hby : (n + m) * bytes ≤ 140737488355328) (hbase : base ≤ w.heap.size)
    (h : ∀ v' w', w'.ownsRow base e size v' (n + m) (xs ++ news) → Below base w w' → w.grownBy w' v.ownBlock → wpList P ops Q rest (a.put o.dst v') w') : wpList P ops Q (o :: rest) a w :=
  wpList_step fun K hK => by
    rw [if_pos hw]
    exact wp_appendS E s x ho base v n xs hs hown S vx m news hx hsrc h1 h63 hby hbase fun v' w' h2 h3 h4 => hK _ _ (h v' w' h2 h3 h4)
set_option maxHeartbeats 16000000 in
set_option maxRecDepth 100000 in
theorem law_steps (vc v2 : Value) (bs : List Int) (s : ByteArray) (R0 : List Tm) (w : World)
    (hsc : Sl w (lt w.heap.size) 1 vc bs.length (bs.map (.int .u8))) (hr : ∀ x ∈ bs, 0 ≤ x ∧ x ≤ 255) (hm : bs.length ≤ maxLen) (hss : s.size ≤ 1048576)
    (hs0 : Sl w (lt w.heap.size) 2 v2 R0.length (tms R0)) (ht0 : ∀ t ∈ R0, Sl w (lt w.heap.size) 1 t.tv t.tk.length (t.tk.map .string) ∧ t.tk.length ≤ 1048576 ∧ ∀ x ∈ t.tk, x.size ≤ 1048576) :
    Calls Tryz.prog 3 #[vc, .string s, v2] w fun e w' => e = .returned (.bool true) ∧ Below w.heap.size w w' := by
  obtain ⟨A0, c0, rfl, _, hs0⟩ := hs0.form
  have HS0 := keep hs0
  have HT0 := keep ht0
  have HR := keep hr
  clear hs0 ht0 hr
  go_enter Tryz.func3, Tryz.ntmps3
  go_wp2_with fail
  refine (awake_true _).mono ?_
  rintro e w1 ⟨rfl, hb1⟩
  have HSC := keep (hsc.upW hb1)
  have HB1 := keep hb1
  clear hsc hb1
  by_cases h20 : (20 : Int) < (R0.length : Int)
  · go_wp2_with fail
    go_ret
    exact ⟨rfl, HB1.out⟩
  · go_wp2_with fail
    refine (drawNew _ bs 240 _ HSC.out HR.out (by omega) hm).mono ?_
    rintro e w2 ⟨gc, rfl, hgc, hC2, hb2⟩
    have HB2 := keep (HB1.out.trans (hb2.mono HB1.out.size))
    have hgl := hC2.lt_
    have hgw : w.heap.size ≤ gc := Nat.le_trans HB1.out.size hgc
    clear hb2
    go_wp2_with fail
    refine (stateY_any gc 12 _ hC2 (by omega)).mono ?_
    rintro e w3 ⟨vm, vl, L, S, rfl, hSl, hSz, hG, hK, hO, hX, hV, hC3, hg3⟩
    obtain ⟨Am, cm, rfl, _⟩ := own_sl hO
    obtain ⟨Al, cl, rfl, _⟩ := own_sl hV
    have HB3 := keep (below_grown HB2.out hg3 HB2.out.size hgw)
    have HOK := keep (oks_good hG hSl)
    have HCH := keep (chk_state hG hK)
    have HTZ := keep (state_small hG hK hSz)
    have hL12 : L.length ≤ 12 := by have := HOK.out.len; omega
    obtain ⟨Av, hAv⟩ : ∃ Av : Nat → Prop, Av = fun b => b = gc ∨ some b = (Value.slice Al S.length cl).ownBlock := ⟨_, rfl⟩
    have HAG : Hid (Av gc) := keep (by rw [hAv]; exact .inl rfl)
    have HAL : Hid (∀ b, some b = (Value.slice Al S.length cl).ownBlock → Av b) := keep (fun b e => by rw [hAv]; exact .inr e)
    have HAI : Hid (∀ b, Av b → b = gc ∨ some b = (Value.slice Al S.length cl).ownBlock) := keep (fun b h => by rw [hAv] at h; exact h)
    have HAS : Hid (∀ b, Av b → b < w3.heap.size) := keep (fun b h => by
      rcases HAI.out b h with rfl | e
      · exact hC3.lt_
      · exact (hV.lt b e.symm).2)
    have HXL : Hid (XAv Av w3 (.slice Am L.length cm) L) := keep (XAv.of_own hO hX (fun b hb ha => by
      rcases HAI.out b ha with rfl | e
      · omega
      · exact e) (fun b hb ha => by
      rcases HAI.out b ha with rfl | e
      · have := (hO.lt b hb).1; omega
      · rcases own_apart hO hV (by decide) with h | h
        · rw [h] at hb; cases hb
        · exact h (by rw [hb, e])))
    have HV3 := keep hV
    have HZ := keep hSz
    have hw23 := hg3.size
    clear hG hK hO hX hV hSz hg3 hC2 hAv
    go_wp2_with fail
    refine (stateY_any gc 8 _ hC3 (by omega)).mono ?_
    rintro e w4 ⟨vo, vl2, M, S2, rfl, hSl2, _, hG2, _, hO2, hX2, _, hC4, hg4⟩
    obtain ⟨Ao, co, rfl, _⟩ := own_sl hO2
    have HB4 := keep (below_grown HB3.out hg4 HB3.out.size hgw)
    have HOK2 := keep (oks_good hG2 (by omega))
    have HXL4 := keep (HXL.out.grown hg4 (fun b e => by injection e with e; rw [e]; exact HAG.out))
    have HXM4 : Hid (XAv Av w4 (.slice Ao M.length co) M) := keep (XAv.of_own hO2 hX2 (fun b hb ha => by have := HAS.out b ha; omega) (fun b hb ha => by have := HAS.out b ha; have := (hO2.lt b hb).1; omega))
    have HV4 := keep (own_grown HV3.out hg4 hgl)
    have hM12 : M.length ≤ 12 := by have := HOK2.out.len; omega
    have hw34 := hg4.size
    have HC4 := keep hC4
    clear hG2 hO2 hX2 hg4 hC3 hC4
    go_upto_region 8 with fail
    go_cut [42] (fun u42 wm => ∃ b : Bool, u42 = .bool b ∧ (b = true → 0 < L.length) ∧ Hid (XAv Av wm (.slice Am L.length cm) L) ∧ Hid (XAv Av wm (.slice Ao M.length co) M) ∧ Hid (wm.ownsRow w2.heap.size 9 1 (.slice Al S.length cl) S.length (S.map .string)) ∧ Hid (Codes wm gc) ∧ Hid (Below w.heap.size w wm) ∧ w4.heap.size ≤ wm.heap.size)
    case first =>
      by_cases hL0 : 0 < L.length
      · have hLd : decide (0 < L.length) = true := decide_eq_true hL0
        have HN := keep (drawNext gc 5 w4 HC4.out (by omega) (by omega))
        go_wp2_with fail
        refine HN.out.mono ?_
        rintro e w5 ⟨r, rfl, _, _, _, hC5, hg5⟩
        have HX5 := keep (HXL4.out.grown hg5 (fun b e => by injection e with e; rw [e]; exact HAG.out))
        have HM5 := keep (HXM4.out.grown hg5 (fun b e => by injection e with e; rw [e]; exact HAG.out))
        have HV5 := keep (own_grown HV4.out hg5 hgl)
        have HB5 := keep (below_grown HB4.out hg5 HB4.out.size hgw)
        have HC5 := keep hC5
        have hz5 := hg5.size
        clear hg5 hC5 HN
        go_wp2_with fail
        go_meet
        case rel => exact ⟨_, rfl, fun _ => hL0, HX5, HM5, HV5, HC5, HB5, hz5⟩
      · have hLd : decide (0 < L.length) = false := decide_eq_false hL0
        go_wp2_with fail
        go_meet
        case rel => exact ⟨_, rfl, (fun h => by simp at h), HXL4, HXM4, HV4, HC4, HB4, Nat.le_refl _⟩
    case rest =>
      obtain ⟨b, rfl, hb0, hX5, hM5, hV5, hC5, hB5, hz5⟩ := hcut
      obtain ⟨w5, rfl⟩ : ∃ w5 : World, w5 = wc := ⟨_, rfl⟩
      go_upto_if 42 with fail
      go_cut [8] (fun u8 wm => ∃ (L' : List Tm) (A' : Option Addr) (c' : Nat), u8 = .slice A' L'.length c' ∧ Hid (XAv Av wm (.slice A' L'.length c') L') ∧ Hid (XAv Av wm (.slice Ao M.length co) M) ∧ Hid (wm.ownsRow w2.heap.size 9 1 (.slice Al S.length cl) S.length (S.map .string)) ∧ Hid (Codes wm gc) ∧ Hid (Below w.heap.size w wm) ∧ Hid (OkS (st L') 12) ∧ Hid (ChkL L') ∧ Hid (∀ t ∈ L', ∀ x ∈ t.tk, x.size ≤ 1000) ∧ w4.heap.size ≤ wm.heap.size)
      case first =>
        cases b with
        | false =>
          go_wp2_with fail
          go_meet
          case rel => exact ⟨L, Am, cm, rfl, hX5, hM5, hV5, hC5, hB5, HOK, HCH, HTZ, hz5⟩
        | true =>
          have hL0 := hb0 rfl
          have HONE := keep (tms_one L fun t ht => (hX5.out.ms.2 t ht).form)
          have HLA : Hid (0 + L.length ≤ maxLen) := keep (by unfold maxLen; omega)
          have HLB : Hid ((0 + L.length) * 32 ≤ 140737488355328) := keep (by omega)
          have HSRC := keep hX5.out.ms.1
          go_wp2_with (refine wpList_appendS elTm rfl (.const (.slice none 0 0)) (.tmp 43) rfl w5.heap.size (.slice none 0 0) 0 [] rfl (World.ownsRow_nil _ _ _ _) _ (.slice Am L.length cm) L.length (tms L) rfl HSRC.out HONE.out HLA.out HLB.out (Nat.le_refl _) ?_; intro v6 w6 hown6 hb6 _; rw [Nat.zero_add, List.nil_append] at hown6; obtain ⟨g, c6, rfl⟩ := own_some (by omega) hown6; have HO6 := keep hown6; have HB6 := keep hb6; have hgl6 := (hown6.lt g rfl).1; clear hown6 hb6)
          have HC6 := keep (hC5.out.under HB6.out hC5.out.lt_)
          refine (drawNext gc L.length w6 HC6.out (by omega) (by omega)).mono ?_
          rintro e w7 ⟨r, rfl, r0, r1, _, hC7, hg7⟩
          obtain ⟨k, rfl⟩ := Int.eq_ofNat_of_zero_le r0
          have hkL : k < L.length := by have := r1 (by omega); omega
          have hAG : ∀ b, some b = some gc → Av b := fun b e => by injection e with e; rw [e]; exact HAG.out
          have ho7 := own_grown HO6.out hg7 hC5.out.lt_
          have hst := own_store ho7 rfl (k * 2 + 1) (.int .i64 9223372036854775807)
          rw [tms_set hkL] at hst
          have f1 : w7.frozen? ⟨g, k * 2 + 1, none⟩ = false := own_frozen ho7 rfl _
          have q1 := (tm_cells (Sl.of_own ho7) hkL)
          obtain ⟨bq, oq, hAq, _, _, e1⟩ := q1
          injection hAq with hAq
          injection hAq with eq1 eq2 _
          subst eq1
          subst eq2
          simp only [Nat.zero_add] at e1
          have hgr : w5.grownBy (w7.setCell ⟨g, k * 2 + 1, none⟩ (.int .i64 9223372036854775807)) (some gc) := grownBy_setN (grownBy_trans (grownBy_of_below HB6.out (some gc)) hg7) hgl6 _ _
          have hxo := hX5.out.grown hgr hAG
          have hl' : (L.set k ⟨L[k].tv, L[k].tk, 9223372036854775807⟩).length = L.length := List.length_set
          have HXF : Hid (XAv Av (w7.setCell ⟨g, k * 2 + 1, none⟩ (.int .i64 9223372036854775807)) (.slice (some ⟨g, 0, none⟩) (L.set k ⟨L[k].tv, L[k].tk, 9223372036854775807⟩).length c6) (L.set k ⟨L[k].tv, L[k].tk, 9223372036854775807⟩)) := keep (by
            refine ⟨?_, fun t ht => ?_⟩
            · rw [hl']
              exact (Sl.of_own_btw hst).mono fun b hb => ⟨hb.2, fun ha => by have h1 := HAS.out b ha; have h2 := hb.1; omega⟩
            · rcases List.mem_or_eq_of_mem_set ht with ht | rfl
              · exact hxo.2 t ht
              · exact hxo.2 L[k] (List.getElem_mem hkL))
          have HMF := keep (hM5.out.grown hgr hAG)
          have HVF := keep (own_grown hV5.out hgr hgl)
          have HCF := keep (hC7.grown (grownBy_set (World.grownBy.refl w7 (some g)) (k * 2 + 1) (.int .i64 9223372036854775807)) (by have := hC5.out.lt_; omega))
          have HBF := keep (below_grown hB5.out hgr hB5.out.size hgw)
          have HOKF := keep (oks_max HOK.out hkL)
          have HCHF := keep (chk_max HCH.out hkL)
          have HTZF : Hid (∀ t ∈ L.set k ⟨L[k].tv, L[k].tk, 9223372036854775807⟩, ∀ x ∈ t.tk, x.size ≤ 1000) := keep (fun t ht => by
            rcases List.mem_or_eq_of_mem_set ht with ht | rfl
            · exact HTZ.out t ht
            · exact HTZ.out L[k] (List.getElem_mem hkL))
          have hzF := hgr.size
          have k1 : (k : Int) < (L.length : Int) := by omega
          have k2 : (k : Int) ≤ 12 := by omega
          clear hC7 hg7 ho7 hst hgr hxo r0 r1 hAG
          go_wp2_with fail
          go_meet
          case rel => exact ⟨_, some ⟨g, 0, none⟩, c6, by rw [hl'], HXF, HMF, HVF, HCF, HBF, HOKF, HCHF, HTZF, Nat.le_trans hz5 hzF⟩
      case rest =>
        obtain ⟨L', A', c', rfl, hX6, hM6, hV6, hC6, hB6, hOK6, hCH6, hTZ6, hz6⟩ := hcut
        obtain ⟨w6, rfl⟩ : ∃ w6 : World, w6 = wc := ⟨_, rfl⟩
        have HLN := keep (makeLine gc w6 hC6.out)
        go_wp2_with fail
        refine HLN.out.mono ?_
        rintro e w7 ⟨y, rfl, hyl, hC7, hg7⟩
        obtain ⟨w8, hw8⟩ : ∃ w8, w8 = w7.alloc (.cells #[.string s, .string y] 9) := ⟨_, rfl⟩
        have hal : Below w7.heap.size w7 w8 := hw8 ▸ (Below.refl _ w7).alloc (Nat.le_refl _) _
        have hbk : Blk w8 w7.heap.size 9 #[.string s, .string y] := hw8 ▸ Blk.new w7 _ _
        have hsrc : Sl w8 (lt w8.heap.size) 1 (.slice (some ⟨w7.heap.size, 0, none⟩) 2 2) 2 (([s, y] : List ByteArray).map .string) :=
          ⟨rfl, _, _, rfl, Nat.le_refl _, fun _ => ⟨_, 0, rfl, hbk.lt, fun j u hu => by rw [Nat.zero_add]; exact (hbk.cell j).trans (by simpa using hu)⟩⟩
        have hAG : ∀ b, some b = some gc → Av b := fun b e => by injection e with e; rw [e]; exact HAG.out
        have HX8 := keep ((hX6.out.grown hg7 hAG).up hal)
        have HM8 := keep ((hM6.out.grown hg7 hAG).up hal)
        have HV8 := keep (own_bel (own_grown hV6.out hg7 hgl) hal)
        have HB8 := keep ((below_grown hB6.out hg7 hB6.out.size hgw).trans (hal.mono (below_grown hB6.out hg7 hB6.out.size hgw).size))
        have HSRC := keep hsrc
        have HW8 := keep hw8
        have hyl2 : y.size ≤ 1048576 := by omega
        have hz8 : w4.heap.size ≤ w8.heap.size := Nat.le_trans hz6 (Nat.le_trans hg7.size hal.size)
        have hw28 : w2.heap.size ≤ w8.heap.size := by omega
        clear hX6 hM6 hV6 hC6 hB6 hg7 hC7 hal hbk hsrc hw8 hAG HLN
        have HONS := keep (oneCells (fun s : ByteArray => Value.string s) (fun _ => rfl) [s, y])
        have HLA : Hid (S.length + 2 ≤ maxLen) := keep (by unfold maxLen; omega)
        have HLB : Hid ((S.length + 2) * 16 ≤ 140737488355328) := keep (by omega)
        go_wp2_with (refine wpList_appendS elSg rfl (.tmp 52) (.tmp 56) rfl w2.heap.size (.slice Al S.length cl) S.length (S.map .string) rfl ?_ (lt w8.heap.size) (.slice (some ⟨w7.heap.size, 0, none⟩) 2 2) 2 (([s, y] : List ByteArray).map .string) rfl ?_ HONS.out HLA.out HLB.out ?_ ?_)
        case refine_1 => rw [← HW8.out]; exact HV8.out
        case refine_2 => rw [← HW8.out]; exact HSRC.out
        case refine_3 => rw [← HW8.out]; exact hw28
        case refine_4 =>
          intro v9 w9 hown9 hb9 hg9
          rw [← HW8.out] at hg9
          rw [← HW8.out] at hb9
          have HX9 := keep (HX8.out.grown hg9 HAL.out)
          have HM9 := keep (HM8.out.grown hg9 HAL.out)
          have HB9 := keep (HB8.out.trans (hb9.mono HB2.out.size))
          obtain ⟨Z, hZ⟩ : ∃ Z, Z = S ++ [s, y] := ⟨_, rfl⟩
          have hZl : Z.length = S.length + 2 := by rw [hZ]; simp
          have HZS : Hid (∀ x ∈ Z, x.size ≤ 1048576) := keep (fun x hx => by
            rw [hZ] at hx
            rcases List.mem_append.1 hx with hx | hx
            · have := HZ.out x hx; omega
            · simp at hx
              rcases hx with rfl | rfl
              · exact hss
              · exact hyl2)
          have hmap : S.map Value.string ++ [Value.string s, Value.string y] = Z.map .string := by rw [hZ]; simp
          rw [hmap, ← hZl] at hown9
          obtain ⟨A9, c9, rfl, _⟩ := own_sl hown9
          have HSZ := keep (Sl.of_own hown9)
          have hZ14 : Z.length ≤ 14 := by omega
          have hll := fun (w : World) => run_len_slice (P := Tryz.prog) w 27 3 A9 Z.length c9 (by kernel_rfl)
          clear hown9 hb9 hg9 hZ hZl hmap HX8 HM8 HV8 HSRC
          go_wp2_with fail
          clear hll
          go_loopw [59] (fun u59 wr => ∃ k : Nat, k ≤ Z.length ∧ u59 = .int .i64 k ∧ Hid (Below w9.heap.size w9 wr)) (fun u59 _ => Z.length - (intOf u59).toNat)
          case atStart => exact ⟨0, Nat.zero_le _, rfl, keep (Below.refl _ _)⟩
          case round =>
            obtain ⟨k, hk, rfl, hB⟩ := hrel
            obtain ⟨wo, rfl⟩ : ∃ wo : World, wo = wr := ⟨_, rfl⟩
            by_cases hlt : k < Z.length
            · obtain ⟨b1, o1, hAe, _, q0⟩ := str_at (HSZ.out.upW hB.out) hlt
              subst hAe
              have hsz := HZS.out _ (List.getElem_mem hlt)
              obtain ⟨x, hx⟩ : ∃ x, Z[k] = x := ⟨_, rfl⟩
              rw [hx] at q0 hsz
              have HXo := keep (HX9.out.up hB.out)
              have HR1 := keep (removeLineS (.slice A' L'.length c') L' x wo HXo.out.ms (hOK6.out.more (by omega)) (by omega))
              have k1 : (k : Int) < (Z.length : Int) := by omega
              have k2 : (k : Int) ≤ 14 := by omega
              clear hx
              go_wp2_with fail
              refine HR1.out.mono ?_
              rintro e wa ⟨va, La, oka, rfl, hna, hra⟩
              obtain ⟨Aa, ca, rfl, _⟩ := own_sl hna.1
              have HXa := keep (HXo.out.up hna.2.2)
              have HMa := keep hna.ms
              have HRa := keep hra
              have HBa := keep (hB.out.trans (hna.2.2.mono hB.out.size))
              have HR2 := keep (refRemS_any (.slice A' L'.length c') L' x wa HXa.out.ms (hOK6.out.more (by omega)) (by omega))
              clear hna hra HR1
              go_wp2_with fail
              refine HR2.out.mono ?_
              rintro e wb ⟨vb, Lb, okb, rfl, hmb, hrb, hlb, hbb⟩
              obtain ⟨Ab, cb, rfl, _, _⟩ := hmb.1.form
              obtain ⟨rfl, hst⟩ := RemStep.uniq HRa.out hrb
              have HXb := keep (HXa.out.up hbb)
              have HBb := keep (HBa.out.trans (hbb.mono HBa.out.size))
              have hll : La.length = Lb.length := by rw [← st_len, hst, st_len]
              rw [st_len] at hlb
              have hL6 := hOK6.out.len
              have HSA := keep (same_any (.slice Aa La.length ca) (.slice Ab Lb.length cb) La Lb wb (HMa.out.up hbb) hmb hst (by omega))
              have hne : (oka != oka) = false := by simp
              clear hmb hrb hlb hbb HR2 hst hll HMa HRa
              go_wp2_with fail
              refine HSA.out.mono ?_
              rintro e wc ⟨rfl, hbc⟩
              have HXc := keep (HXb.out.up hbc)
              have HBc := keep (HBb.out.trans (hbc.mono HBb.out.size))
              have HA1 := keep (addLineS (.slice A' L'.length c') L' x wc HXc.out.ms (hOK6.out.more (by omega)) (by omega))
              clear hbc HSA
              go_wp2_with fail
              refine HA1.out.mono ?_
              rintro e wd ⟨vd, Ld, rfl, hnd, had⟩
              obtain ⟨Ad, cd, rfl, _⟩ := own_sl hnd.1
              have HXd := keep (HXc.out.up hnd.2.2)
              have HMd := keep hnd.ms
              have HAd := keep had
              have HBd := keep (HBc.out.trans (hnd.2.2.mono HBc.out.size))
              have HA2 := keep (refAddS_any (.slice A' L'.length c') L' x wd HXd.out.ms (hOK6.out.more (by omega)) (by omega))
              clear hnd had HA1
              go_wp2_with fail
              refine HA2.out.mono ?_
              rintro e we ⟨ve, Le, rfl, hme, hae, hbe⟩
              obtain ⟨Ae, ce, rfl, _, _⟩ := hme.1.form
              have hst2 := AddStepS.uniq HAd.out hae
              have hll2 : Ld.length = Le.length := by rw [← st_len, hst2, st_len]
              have HBe := keep (HBd.out.trans (hbe.mono HBd.out.size))
              have hLd : Ld.length ≤ 1048576 := by
                have h1 := HAd.out
                unfold AddStepS at h1
                split at h1
                · have h2 := congrArg List.length h1
                  rw [st_len, st_len] at h2
                  omega
                · have h2 := h1.l
                  rw [st_len, st_len] at h2
                  omega
              have HSB := keep (same_any (.slice Ad Ld.length cd) (.slice Ae Le.length ce) Ld Le we (HMd.out.up hbe) hme hst2 hLd)
              clear hme hae hbe HA2 hst2 hll2 HMd HAd hLd
              go_wp2_with fail
              refine HSB.out.mono ?_
              rintro e wf ⟨rfl, hbf⟩
              have HBf := keep (HBe.out.trans (hbf.mono HBe.out.size))
              clear hbf HSB
              go_wp2_with fail
              go_roundw
              case rel => exact ⟨k + 1, by omega, by go_num, HBf⟩
              case measure => simp [intOf]; omega
            · obtain rfl : k = Z.length := by omega
              have HXo := keep (HX9.out.up hB.out)
              have HMo := keep (HM9.out.up hB.out)
              have HBo := keep (HB9.out.trans (hB.out.mono HB9.out.size))
              have hLl : L'.length ≤ 12 := hOK6.out.len
              have HCTL : Hid (∀ t ∈ L', t.ct ≤ 9223372036854775807) := keep (fun t ht => hOK6.out.m _ (List.mem_map.2 ⟨t, ht, rfl⟩))
              have HOKL := keep (hOK6.out.more (show 12 ≤ 1000 by omega))
              have HOKM := keep (HOK2.out.more (show 12 ≤ 1000 by omega))
              have HG1 := keep (mergeS_any (.slice A' L'.length c') (.slice Ao M.length co) L' M wo HXo.out.ms HMo.out.ms HOKL.out HOKM.out)
              go_wp2_with fail
              refine HG1.out.mono ?_
              rintro e x1 ⟨v1, P1, rfl, hn1, hm1⟩
              obtain ⟨B1, d1, rfl, _⟩ := own_sl hn1.1
              have HX1 := keep (HXo.out.up hn1.2.2)
              have HM1 := keep (HMo.out.up hn1.2.2)
              have HP1 := keep hn1.ms
              have HR1 := keep hm1
              have HB1' := keep (HBo.out.trans (hn1.2.2.mono HBo.out.size))
              have HG2 := keep (refMrgS_any (.slice A' L'.length c') (.slice Ao M.length co) L' M x1 HX1.out.ms HM1.out.ms HOKL.out HOKM.out)
              clear hn1 hm1 HG1
              go_wp2_with fail
              refine HG2.out.mono ?_
              rintro e x2 ⟨v2', P2, rfl, hm2, hr2, hb2'⟩
              obtain ⟨B2, d2, rfl, _, _⟩ := hm2.1.form
              have hst := MrgS.uniq (Nat.le_refl _) HR1.out hr2
              have hP1l : P1.length ≤ 1048576 := by
                have h1 := (MrgS.ok HR1.out (Nat.le_refl _) HOKL.out).len
                rw [st_len] at h1
                omega
              have HX2 := keep (HX1.out.up hb2')
              have HB2' := keep (HB1'.out.trans (hb2'.mono HB1'.out.size))
              have HSA := keep (same_any (.slice B1 P1.length d1) (.slice B2 P2.length d2) P1 P2 x2 (HP1.out.up hb2') hm2 hst hP1l)
              clear hm2 hr2 hb2' HG2 hst hP1l HP1 HR1
              go_wp2_with fail
              refine HSA.out.mono ?_
              rintro e x3 ⟨rfl, hb3'⟩
              have HX3 := keep (HX2.out.up hb3')
              have HB3' := keep (HB2'.out.trans (hb3'.mono HB2'.out.size))
              have HT1 := keep (templ_any (.slice A' L'.length c') L' x3 HX3.out.ms HCTL.out (by omega))
              clear hb3' HSA
              go_wp2_with fail
              refine HT1.out.mono ?_
              rintro e x4 ⟨v4, Q1, rfl, ho4, ht4, hp4, hs4, hl4, hb4'⟩
              obtain ⟨B4, d4, rfl, _⟩ := own_sl ho4
              have HQ1 : Hid (MS 0 x4 (.slice B4 Q1.length d4) Q1) := keep ⟨Sl.of_own ho4, fun t ht => (ht4 t ht).r⟩
              have HQP := keep hp4
              have HQS := keep hs4
              have HX4 := keep (HX3.out.up hb4')
              have HB4' := keep (HB3'.out.trans (hb4'.mono HB3'.out.size))
              have HT2 := keep (rtempl_any (.slice A' L'.length c') L' x4 HX4.out.ms HCTL.out (by omega))
              clear ho4 ht4 hp4 hs4 hb4' HT1
              go_wp2_with fail
              refine HT2.out.mono ?_
              rintro e x5 ⟨v5, Q2, rfl, hm5, hp5, hs5, hl5, hb5'⟩
              obtain ⟨B5, d5, rfl, _, _⟩ := hm5.1.form
              have hst := srt_eq HQS.out hs5 (HQP.out.trans hp5.symm)
              have HX5 := keep (HX4.out.up hb5')
              have HB5' := keep (HB4'.out.trans (hb5'.mono HB4'.out.size))
              have HSB := keep (same_any (.slice B4 Q1.length d4) (.slice B5 Q2.length d5) Q1 Q2 x5 (HQ1.out.up hb5') hm5 hst (by omega))
              clear hm5 hp5 hs5 hl5 hb5' HT2 hst HQ1 HQP HQS
              go_wp2_with fail
              refine HSB.out.mono ?_
              rintro e x6 ⟨rfl, hb6'⟩
              have HX6 := keep (HX5.out.up hb6')
              have HB6' := keep (HB5'.out.trans (hb6'.mono HB5'.out.size))
              obtain ⟨z, hz⟩ : ∃ z, sat (sumP (st L')) = z := ⟨_, rfl⟩
              have HS1 := keep (sizeS_any (.slice A' L'.length c') L' x6 HX6.out.ms HOKL.out)
              have HS2 := keep (fun (x : World) (h : Below x6.heap.size x6 x) => rsizeS_any (.slice A' L'.length c') L' x (HX6.out.ms.up h) HOKL.out)
              rw [hz] at HS1 HS2
              have hzz : (z == z) = true := by simp
              clear hb6' HSB hz hl4
              go_wp2_with fail
              refine HS1.out.mono ?_
              rintro e x7 ⟨rfl, hb7'⟩
              have HX7 := keep (HX6.out.up hb7')
              have HB7' := keep (HB6'.out.trans (hb7'.mono HB6'.out.size))
              have HS2 := keep (HS2.out x7 hb7')
              clear hb7' HS1
              go_wp2_with fail
              refine HS2.out.mono ?_
              rintro e x8 ⟨rfl, hb8'⟩
              have HX8 := keep (HX7.out.up hb8')
              have HB8' := keep (HB7'.out.trans (hb8'.mono HB7'.out.size))
              have HK1 := keep (check_any (.slice A' L'.length c') L' x8 HX8.out.ms.1 HX8.out.ms.2 (by omega))
              clear hb8' HS2
              go_wp2_with fail
              refine HK1.out.mono ?_
              rintro e x9 ⟨b9, rfl, hb9, hbb9⟩
              obtain rfl : b9 = true := hb9.2 hCH6.out
              have HX9' := keep (HX8.out.up hbb9)
              have HB9' := keep (HB8'.out.trans (hbb9.mono HB8'.out.size))
              have hR20 : R0.length ≤ 20 := by omega
              have HRW : Hid (∀ x : World, Below w.heap.size w x → MS w.heap.size x (.slice A0 R0.length c0) R0) := keep (fun x h => ⟨(HS0.out.below h (Nat.le_refl _)).more h.size, fun t ht => ⟨((HT0.out t ht).1.below h (Nat.le_refl _)).mono fun _ hb => ⟨Nat.lt_of_lt_of_le hb h.size, .inl hb⟩, (HT0.out t ht).2.1⟩⟩)
              have HZR : Hid (∀ t ∈ R0, ∀ x ∈ t.tk, x.size ≤ 4294967296) := keep (fun t ht x hx => by have := (HT0.out t ht).2.2 x hx; omega)
              have HK2 := keep (check_any (.slice A0 R0.length c0) R0 x9 (HRW.out x9 HB9'.out).1 (HRW.out x9 HB9'.out).2 (by omega))
              clear hb9 hbb9 HK1
              go_wp2_with fail
              refine HK2.out.mono ?_
              rintro e x10 ⟨b1, rfl, hb1x, hbb10⟩
              have HX10 := keep (HX9'.out.up hbb10)
              have HB10 := keep (HB9'.out.trans (hbb10.mono HB9'.out.size))
              have HK3 := keep (rcheck_any (.slice A0 R0.length c0) R0 x10 (HRW.out x10 HB10.out) HZR.out (by omega))
              have HBX := keep hb1x
              clear hb1x hbb10 HK2
              go_wp2_with fail
              refine HK3.out.mono ?_
              rintro e x11 ⟨b2, rfl, hb2x, hbb11⟩
              obtain rfl : b2 = b1 := by
                have h := hb2x.trans HBX.out.symm
                cases b1 <;> cases b2 <;> simp_all
              have HX11 := keep (HX10.out.up hbb11)
              have HB11 := keep (HB10.out.trans (hbb11.mono HB10.out.size))
              have hbe : (b2 == b2) = true := by simp
              clear hb2x hbb11 HK3 HBX
              have HONL := keep (tms_one L' fun t ht => (HX11.out.ms.2 t ht).form)
              have HONR := keep (tms_one R0 fun t ht => by obtain ⟨A, c, hv, _⟩ := (HT0.out t ht).1.form; exact ⟨A, _, c, hv⟩)
              have HLA2 : Hid (0 + L'.length ≤ maxLen) := keep (by unfold maxLen; omega)
              have HLB2 : Hid ((0 + L'.length) * 32 ≤ 140737488355328) := keep (by omega)
              have HLC : Hid (L'.length + R0.length ≤ maxLen) := keep (by unfold maxLen; omega)
              have HLD : Hid ((L'.length + R0.length) * 32 ≤ 140737488355328) := keep (by omega)
              have hB20 : w.heap.size ≤ x11.heap.size := HB11.out.size
              have HXSa := keep HX11.out.ms.1
              have HALL : Hid (∀ x : World, Below w.heap.size w x → MS 0 x (.slice A' L'.length c') L' → ∀ t ∈ L' ++ R0, TkR w.heap.size x t) := keep (fun x h h2 t ht => by
                rcases List.mem_append.1 ht with ht | ht
                · exact ⟨(h2.2 t ht).1.mono fun b hb => ⟨hb.1, .inr (hb.2.elim (fun h => absurd h (Nat.not_lt_zero _)) id)⟩, (h2.2 t ht).2⟩
                · exact (HRW.out x h).2 t ht)
              go_wp2_with (first
                | (refine wpList_appendG elTm (by kernel_rfl) (.tmp 129) (.tmp 130) rfl x11.heap.size (.slice Ea L'.length ea) L'.length (tms L') rfl HEa.out (lt w.heap.size) (.slice A0 R0.length c0) R0.length (tms R0) rfl (HS0.out.below (HFa.out) (Nat.le_refl _)) HONR.out HLC.out HLD.out HFsa.out ?_; intro vva xba hownB hbB _; obtain ⟨Ga, ga, rfl, _⟩ := own_sl hownB; have HOa := keep hownB; have HQa := keep hbB; clear hownB hbB)
                | (refine wpList_appendG elTm (by kernel_rfl) (.const (.slice none 0 0)) (.tmp 128) rfl x11.heap.size (.slice none 0 0) 0 [] rfl (World.ownsRow_nil _ _ _ _) _ (.slice A' L'.length c') L'.length (tms L') rfl HXSa.out HONL.out HLA2.out HLB2.out (Nat.le_refl _) ?_; intro vua xaa hownA hbA _; rw [Nat.zero_add, List.nil_append] at hownA; obtain ⟨Ea, ea, rfl, _⟩ := own_sl hownA; have HEa := keep hownA; have HFa := keep (HB11.out.trans (hbA.mono HB11.out.size)); have HFsa := keep hbA.size; have HFFa := keep hbA; clear hownA hbA)
                | fail)
              have hbx := HFFa.out.trans HQa.out
              have HXa := keep (HX11.out.up hbx)
              have HBa := keep (HB11.out.trans (hbx.mono HB11.out.size))
              obtain ⟨N, hN⟩ : ∃ N, N = L' ++ R0 := ⟨_, rfl⟩
              have hNl : N.length = L'.length + R0.length := by rw [hN, List.length_append]
              have hNt : tms N = tms L' ++ tms R0 := by rw [hN, tms_append]
              have hoa := HOa.out
              rw [← hNt, ← hNl] at hoa
              have HK4 := keep (check_any (oB := w.heap.size) (.slice Ga N.length ga) N xba (Sl.of_own hoa) (by rw [hN]; exact HALL.out xba HBa.out HXa.out.ms) (by omega))
              have HNL := keep hNl
              have HNT := keep hNt
              have HNN := keep hN
              rw [← hNl]
              clear hoa hNl hNt hN hbx
              refine HK4.out.mono ?_
              rintro e x12 ⟨b3, rfl, hb3x, hbb12⟩
              have HX12 := keep (HXa.out.up hbb12)
              have HB12 := keep (HBa.out.trans (hbb12.mono HBa.out.size))
              have HBX := keep hb3x
              have HXSb := keep HX12.out.ms.1
              clear hb3x hbb12 HK4
              go_wp2_with (first
                | (refine wpList_appendG elTm (by kernel_rfl) (.tmp 134) (.tmp 135) rfl x12.heap.size (.slice Eb L'.length eb) L'.length (tms L') rfl HEb.out (lt w.heap.size) (.slice A0 R0.length c0) R0.length (tms R0) rfl (HS0.out.below (HFb.out) (Nat.le_refl _)) HONR.out HLC.out HLD.out HFsb.out ?_; intro vvb xbb hownB hbB _; obtain ⟨Gb, gb, rfl, _⟩ := own_sl hownB; have HOb := keep hownB; have HQb := keep hbB; clear hownB hbB)
                | (refine wpList_appendG elTm (by kernel_rfl) (.const (.slice none 0 0)) (.tmp 133) rfl x12.heap.size (.slice none 0 0) 0 [] rfl (World.ownsRow_nil _ _ _ _) _ (.slice A' L'.length c') L'.length (tms L') rfl HXSb.out HONL.out HLA2.out HLB2.out (Nat.le_refl _) ?_; intro vub xab hownA hbA _; rw [Nat.zero_add, List.nil_append] at hownA; obtain ⟨Eb, eb, rfl, _⟩ := own_sl hownA; have HEb := keep hownA; have HFb := keep (HB12.out.trans (hbA.mono HB12.out.size)); have HFsb := keep hbA.size; have HFFb := keep hbA; clear hownA hbA)
                | fail)
              have hby := HFFb.out.trans HQb.out
              have HXb := keep (HX12.out.up hby)
              have HBb := keep (HB12.out.trans (hby.mono HB12.out.size))
              have hob := HOb.out
              rw [← HNT.out, ← HNL.out] at hob
              have hNall : ∀ t ∈ N, TkR w.heap.size xbb t := by rw [HNN.out]; exact HALL.out xbb HBb.out HXb.out.ms
              have hNz : ∀ t ∈ N, ∀ x ∈ t.tk, x.size ≤ 4294967296 := fun t ht x hx => by
                rw [HNN.out] at ht
                rcases List.mem_append.1 ht with ht | ht
                · have := hTZ6.out t ht x hx; omega
                · exact HZR.out t ht x hx
              have HK5 := keep (rcheck_any (oB := w.heap.size) (.slice Gb N.length gb) N xbb ⟨Sl.of_own hob, hNall⟩ hNz (by have := HNL.out; omega))
              rw [← HNL.out]
              clear hob hNall hNz hby
              refine HK5.out.mono ?_
              rintro e x13 ⟨b4, rfl, hb4x, hbb13⟩
              obtain rfl : b4 = b3 := by
                have h := hb4x.trans HBX.out.symm
                cases b3 <;> cases b4 <;> simp_all
              have HB13 := keep (HBb.out.trans (hbb13.mono HBb.out.size))
              have hbe2 : (b4 == b4) = true := by simp
              clear hb4x hbb13 HK5 HBX
              go_wp2_with fail
              go_ret
              exact ⟨rfl, HB13.out⟩
end Go.Proofs.YtigogjlbemkhdaaGreat
