/- The contract of the reference's Add for tallies. -/
import Derived.Test.YtkjhnipjhefndaaTally
import Derived.Test.YtkjhnipjhefndaaFull
import Derived.Deep.CutBlock
namespace Go.Proofs.Ytkjhnipjhefndaa
open Go.RowKit

theorem elTals : Elem Try.prog 24 116 3 32 (.agg #[.int .i64 0, .string .empty, .int .i64 0]) := ⟨Try.underlying24, by kernel_rfl, rfl, by decide⟩
def TalRes (w : World) (n : Nat) (B : Int) (e : Ending) (w' : World) : Prop :=
  ∃ v' l', e = .returned v' ∧ Sl w' (btw w.heap.size w'.heap.size) 3 v' l'.length (l'.flatMap Tl.vals) ∧ asc tlLess l' = true ∧ l'.length ≤ n ∧ (∀ t ∈ l', TlOk B t) ∧ Below w.heap.size w w'
/-- The first k come before a key. -/
def Pre (l : List Tl) (x : Tl) (k : Nat) : Prop := ∀ j, (hj : j < l.length) → j < k → tlLess l[j] x = true
theorem Pre.step {l : List Tl} {x : Tl} {k : Nat} (h : Pre l x k) (hk : k < l.length) (hp : tlLess l[k] x = true) : Pre l x (k + 1) := by
  intro j hj hlt
  by_cases e : j = k
  · subst e; exact hp
  · exact h j hj (by omega)

theorem flat_take {α : Type} (enc : α → List Value) (m : Nat) (hm : ∀ x, (enc x).length = m) (l : List α) (k : Nat) (h : k ≤ l.length) : (l.flatMap enc).take (k * m) = (l.take k).flatMap enc := by
  conv => lhs; rw [← List.take_append_drop k l]
  rw [List.flatMap_append, List.take_left' (by rw [flat_len enc m hm, List.length_take, Nat.min_eq_left h])]
theorem flat_drop {α : Type} (enc : α → List Value) (m : Nat) (hm : ∀ x, (enc x).length = m) (l : List α) (k : Nat) (h : k ≤ l.length) : (l.flatMap enc).drop (k * m) = (l.drop k).flatMap enc := by
  conv => lhs; rw [← List.take_append_drop k l]
  rw [List.flatMap_append, List.drop_left' (by rw [flat_len enc m hm, List.length_take, Nat.min_eq_left h])]
theorem flat_lines : ∀ (l : List Tl) (k : Nat) (h : k < l.length) (v : Int), (l.flatMap Tl.vals).set (k * 3 + 2) (.int .i64 v) = (l.set k ⟨l[k].host, l[k].rule, v⟩).flatMap Tl.vals
  | a :: l, 0, _, v => by simp [Tl.vals]
  | a :: l, k + 1, h, v => by
    have ih := flat_lines l k (by simpa using h) v
    rw [List.flatMap_cons, List.set_cons_succ, List.flatMap_cons, List.getElem_cons_succ, ← ih, List.set_append_right _ _ (by simp [Tl.vals]; omega)]
    congr 2
    simp [Tl.vals]; omega
theorem Sl.full {w : World} {S : Nat → Prop} {size n c : Nat} {A : Option Addr} {xs : List Value} (h : Sl w S size (.slice A n c) n xs) : Sl w S size (.slice A n n) n xs := by
  obtain ⟨hl, A', c', hv, hc, hr⟩ := h
  injection hv with h1 h2 h3
  subst h1
  exact ⟨hl, A, n, rfl, Nat.le_refl _, hr⟩
theorem oneT (l : List Tl) : ∀ u ∈ l.flatMap Tl.vals, u.oneCell' = true := by
  intro u hu
  obtain ⟨t, _, ht⟩ := List.mem_flatMap.1 hu
  simp only [Tl.vals, List.mem_cons, List.not_mem_nil, or_false] at ht
  rcases ht with rfl | rfl | rfl <;> rfl
set_option maxHeartbeats 2000000 in
set_option maxRecDepth 100000 in
theorem add28_any (v : Value) (l : List Tl) (h : Int) (r : ByteArray) (ln : Int) (B : Int) (w : World) (hS : Sl w (lt w.heap.size) 3 v l.length (l.flatMap Tl.vals)) (hm : l.length ≤ 1000) (hB : 0 ≤ B ∧ B ≤ 1000000)
    (hok : ∀ t ∈ l, TlOk B t) (hasc : asc tlLess l = true) (hh : 1 ≤ h ∧ h ≤ 2) (hr : r.size ≤ 32) (hln : 1 ≤ ln ∧ ln ≤ 10) :
    Calls Try.prog 70 #[v, .int .i64 h, .string r, .int .i64 ln] w (TalRes w (l.length + 1) (B + 10)) := by
  obtain ⟨A, c, rfl, hc, hS⟩ := hS.form
  have HOK := keep hok
  have HAS := keep hasc
  clear hok hasc
  go_enter Try.func70, Try.ntmps70
  go_upto_block 0 with (fail)
  go_cut [9] (fun s9 wc => ∃ k : Nat, s9 = .int .i64 k ∧ k ≤ l.length ∧ Hid (Pre l ⟨h, r, ln⟩ k) ∧ Hid ((hk : k < l.length) → tlLess l[k] ⟨h, r, ln⟩ = false) ∧ wc = w)
  case first =>
    go_wp2_with fail
    go_loop [9] (fun i => ∃ k : Nat, k ≤ l.length ∧ i = .int .i64 k ∧ Hid (Pre l ⟨h, r, ln⟩ k)) (fun i => l.length - (intOf i).toNat)
    case atStart => exact ⟨0, Nat.zero_le _, rfl, keep (fun j _ h => absurd h (by omega))⟩
    case round =>
      obtain ⟨k, hk, rfl, hN⟩ := hrel
      by_cases hlt : k < l.length
      · obtain ⟨b, o, rfl, hb, c0, c1, c2⟩ := tals_cells hS hlt
        obtain ⟨y, hy⟩ : ∃ y, y = l[k]'hlt := ⟨_, rfl⟩
        rw [← hy] at c0 c1 c2
        have HY := keep hy
        clear hy
        have i1 : (k : Int) < (l.length : Int) := by omega
        obtain ⟨yh, yr, yl⟩ := y
        dsimp only at c0 c1 c2
        by_cases hA : yh < h
        · have g1 : decide (yh < h) = true := by simpa using hA
          have HP : Hid (tlLess (l[k]'hlt) ⟨h, r, ln⟩ = true) := by
            rw [← HY.out]
            show (decide (yh < h) || _) = true
            rw [g1]; rfl
          clear hA
          go_wp2_with fail
          go_round
          case rel => exact ⟨k + 1, by omega, by go_num, keep (hN.out.step hlt HP.out)⟩
          case measure => simp [intOf]; omega
        · by_cases hE : yh = h
          · subst hE
            clear hA
            have g1 : decide (yh < yh) = false := by simp
            have g2 : (yh == yh) = true := by simp
            cases hs : Op.bytesLess yr.toList r.toList
            · have HP : Hid ((hk : k < l.length) → tlLess (l[k]'hk) ⟨yh, r, ln⟩ = false) := fun _ => by
                rw [← HY.out]
                exact ord_eq.trans hs
              go_wp2_with fail
              go_meet
              exact ⟨k, rfl, hk, hN, HP, rfl⟩
            · have HP : Hid (tlLess (l[k]'hlt) ⟨yh, r, ln⟩ = true) := by
                rw [← HY.out]
                exact ord_eq.trans hs
              go_wp2_with fail
              go_round
              case rel => exact ⟨k + 1, by omega, by go_num, keep (hN.out.step hlt HP.out)⟩
              case measure => simp [intOf]; omega
          · have g1 : decide (yh < h) = false := by simpa using hA
            have g2 : (yh == h) = false := by simpa using hE
            have HP : Hid ((hk : k < l.length) → tlLess (l[k]'hk) ⟨h, r, ln⟩ = false) := fun _ => by
              rw [← HY.out]
              exact ord_lt (show h < yh by omega)
            clear hA hE
            go_wp2_with fail
            go_meet
            exact ⟨k, rfl, hk, hN, HP, rfl⟩
      · go_wp2_with fail
        go_meet
        exact ⟨k, rfl, hk, hN, keep (fun h => absurd h hlt), rfl⟩
  case rest =>
    obtain ⟨k, rfl, hk, hN, hE, rfl⟩ := hcut
    obtain ⟨ws, rfl⟩ : ∃ ws : World, ws = wc := ⟨_, rfl⟩
    have h63 : 0 + l.length ≤ maxLen := by unfold maxLen; omega
    go_upto_region 7 with (refine wpList_appendS elTals rfl _ _ rfl ws.heap.size (.slice none 0 0) 0 [] rfl (World.ownsRow_nil _ _ _ _) _ _ l.length _ rfl hS (oneT l) h63 (by omega) (Nat.le_refl _) ?_; intro v1 w1 hown1 hb1 hg1)
    have hS1 := hS.below hb1 (Nat.le_refl _)
    go_cut [70] (fun s70 wd => ∃ q : Bool, s70 = .bool q ∧ wd = w1 ∧ Hid (q = true → k < l.length) ∧ Hid (q = false → (hk : k < l.length) → tlLess ⟨h, r, ln⟩ l[k] = true))
    case first =>
      by_cases hlt : k < l.length
      · obtain ⟨b, o, rfl, hb, c0, c1, c2⟩ := tals_cells hS1 hlt
        obtain ⟨y, hy⟩ : ∃ y, y = l[k]'hlt := ⟨_, rfl⟩
        rw [← hy] at c0 c1 c2
        have HY := keep hy
        have hyk := HOK.out _ (List.getElem_mem hlt)
        rw [← hy] at hyk
        clear hy
        have i1 : (k : Int) < (l.length : Int) := by omega
        obtain ⟨yh, yr, yl⟩ := y
        dsimp only at c0 c1 c2
        by_cases hE1 : yh = h
        · subst hE1
          have g2 : (yh == yh) = true := by simp
          by_cases hR : yr.toList = r.toList
          · have g3 : (yr.toList == r.toList) = true := by simpa using hR
            go_wp2_with fail
            go_meet
            exact ⟨_, rfl, rfl, keep (fun _ => hlt), keep (fun h => by cases h)⟩
          · have g3 : (yr.toList == r.toList) = false := by simpa using hR
            have HP : Hid ((hk : k < l.length) → tlLess ⟨yh, r, ln⟩ (l[k]'hk) = true) := fun hk => by
              have := hE.out hk
              rw [← HY.out] at this ⊢
              exact tl_gt this (fun h => hR h.2)
            clear hR
            go_wp2_with fail
            go_meet
            exact ⟨_, rfl, rfl, keep (fun h => by cases h), keep (fun _ => HP.out)⟩
        · have g2 : (yh == h) = false := by simpa using hE1
          have HP : Hid ((hk : k < l.length) → tlLess ⟨h, r, ln⟩ (l[k]'hk) = true) := fun hk => by
            have := hE.out hk
            rw [← HY.out] at this ⊢
            exact tl_gt this (fun h => hE1 h.1)
          clear hE1
          go_wp2_with fail
          go_meet
          exact ⟨_, rfl, rfl, keep (fun h => by cases h), keep (fun _ => HP.out)⟩
      · have HP : Hid ((hk : k < l.length) → tlLess ⟨h, r, ln⟩ (l[k]'hk) = true) := fun hk => absurd hk hlt
        go_wp2_with fail
        go_meet
        exact ⟨_, rfl, rfl, keep (fun h => by cases h), keep (fun _ => HP.out)⟩
    case rest =>
      obtain ⟨q, rfl, rfl, HT, HG⟩ := hcut
      obtain ⟨w1, rfl⟩ : ∃ w1 : World, w1 = wc := ⟨_, rfl⟩
      have hl1 : 0 + l.length = l.length := Nat.zero_add _
      rw [hl1, List.nil_append] at hown1
      cases q
      case true =>
        have hlt := HT.out rfl
        rcases hown1.2 with ⟨_, hn0⟩ | ⟨g, cap, cur, rfl, hgb, _⟩
        · omega
        · have hso := Sl.of_own_btw hown1
          obtain ⟨b, o, hbo, hb, c0, c1, c2⟩ := tals_cells hso hlt
          obtain ⟨rfl, rfl⟩ : g = b ∧ 0 = o := by injection hbo with e; injection e with e1 e2; exact ⟨e1, e2⟩
          obtain ⟨y, hy⟩ : ∃ y, y = l[k]'hlt := ⟨_, rfl⟩
          rw [← hy] at c0 c1 c2
          have HY := keep hy
          have hyk := HOK.out _ (List.getElem_mem hlt)
          rw [← hy] at hyk
          clear hy
          have i1 : (k : Int) < (l.length : Int) := by omega
          have l0 := hyk.l0
          have l1 := hyk.l1
          simp only [Nat.zero_add] at c0 c1 c2
          have hfz := World.ownsRow.frozenAt hown1 (k * 3 + 2)
          go_wp2_with fail
          go_ret
          have hst := (World.ownsRow.stored hown1 (k * 3 + 2) (.int .i64 (y.lines + ln))).1
          rw [flat_lines l k hlt] at hst
          have hsl := Sl.of_own_btw hst
          have hll : (l.set k ⟨l[k].host, l[k].rule, y.lines + ln⟩).length = l.length := by simp
          refine ⟨_, l.set k ⟨l[k].host, l[k].rule, y.lines + ln⟩, rfl, ?_, ?_, by rw [hll]; omega, fun t ht => ?_, hb1.setCell hgb _⟩
          · rw [hll]; exact hsl
          · rw [asc_lines l k hlt]; exact HAS.out
          · rcases List.mem_or_eq_of_mem_set ht with ht | rfl
            · exact (HOK.out t ht).more (by omega)
            · have hyk' := HOK.out _ (List.getElem_mem hlt)
              exact ⟨hyk'.h0, hyk'.h1, hyk'.r, by show 0 ≤ y.lines + ln; omega, by show y.lines + ln ≤ B + 10; omega⟩
      case false =>
        have HG' := keep (HG.out rfl)
        clear HG HT
        have hso := Sl.of_own_btw hown1
        have hzz := hb1.size
        go_upto_region 10 with fail
        go_cut [10] (fun s10 wd => ∃ g2 cap2, s10 = .slice (some ⟨g2, 0, none⟩) (k + 1) cap2 ∧ wd.ownsRow ws.heap.size 116 3 (.slice (some ⟨g2, 0, none⟩) (k + 1) cap2) (k + 1) ((l.take k).flatMap Tl.vals ++ (⟨h, r, ln⟩ : Tl).vals) ∧ Below ws.heap.size ws wd)
        case first =>
          have i0 : (0 : Int) ≤ (k : Int) := by omega
          have h64 : k + 1 ≤ maxLen := by unfold maxLen; omega
          rcases hown1.2 with ⟨rfl, hn0⟩ | ⟨g, cap, cur, rfl, hgb, _, hcap, _⟩
          · have hk0 : k ≤ 0 := by omega
            have i1 : (k : Int) ≤ 0 := by omega
            clear hn0
            go_wp2_with (refine wpList_push elTals rfl rfl _ _ _ rfl rfl rfl w1.heap.size (.slice none 0 0) (.agg #[.int .i64 h, .string r, .int .i64 ln]) 0 [] rfl (fun _ => rfl) (fun _ => rfl) (World.ownsRow_nil _ _ _ _) rfl (by intro c hc; simp [Value.cells] at hc; rcases hc with rfl | rfl | rfl <;> rfl) (by omega) (by unfold maxLen; omega) (by omega) (Nat.le_refl _) ?_; intro g2 cap2 w2 hown2 hb2 _ _ _)
            go_meet
            obtain rfl : k = 0 := by omega
            exact ⟨g2, cap2, rfl, own_base hown2 hzz, hb1.trans (hb2.mono hzz)⟩
          · have hkc : k ≤ cap := by omega
            have i1 : (k : Int) ≤ (cap : Int) := by omega
            have hs2 : Sl w1 (lt w1.heap.size) 3 (.slice (some ⟨g, 0, none⟩) k k) k ((l.take k).flatMap Tl.vals) := by
              have := (hso.take hk).full
              rw [flat_take Tl.vals 3 (fun _ => rfl) l k hk] at this
              exact this.mono (fun _ h => h.2)
            go_wp2_with (refine wpList_pushFull elTals rfl rfl _ _ _ rfl rfl rfl (lt w1.heap.size) (some ⟨g, 0, none⟩) (.agg #[.int .i64 h, .string r, .int .i64 ln]) k _ rfl (fun _ => rfl) (fun _ => rfl) hs2 (fun _ h => h) rfl (by intro c hc; simp [Value.cells] at hc; rcases hc with rfl | rfl | rfl <;> rfl) (by omega) h64 (by omega) ?_; intro g2 cap2 w2 hown2 hb2)
            go_meet
            exact ⟨g2, cap2, rfl, own_base hown2 hzz, hb1.trans (hb2.mono hzz)⟩
        case rest =>
          obtain ⟨g2, cap2, rfl, hown2, hb2⟩ := hcut
          obtain ⟨w2, rfl⟩ : ∃ w2 : World, w2 = wc := ⟨_, rfl⟩
          have hS2 := hS.below hb2 (Nat.le_refl _)
          have i0 : (0 : Int) ≤ (k : Int) := by omega
          have i1 : (k : Int) ≤ (l.length : Int) := by omega
          have h65 : k + 1 + (l.length - k) ≤ maxLen := by unfold maxLen; omega
          have hfin : ∀ (v3 : Value) (w3 : World), w3.ownsRow ws.heap.size 116 3 v3 (k + 1 + (l.length - k)) ((l.take k).flatMap Tl.vals ++ (⟨h, r, ln⟩ : Tl).vals ++ (l.drop k).flatMap Tl.vals) → Below ws.heap.size w2 w3 → TalRes ws (l.length + 1) (B + 10) (.returned v3) w3 := by
            intro v3 w3 hown3 hb3
            have hll : (l.take k ++ ⟨h, r, ln⟩ :: l.drop k).length = k + 1 + (l.length - k) := by simp; omega
            have hfl : (l.take k).flatMap Tl.vals ++ (⟨h, r, ln⟩ : Tl).vals ++ (l.drop k).flatMap Tl.vals = (l.take k ++ ⟨h, r, ln⟩ :: l.drop k).flatMap Tl.vals := by simp
            rw [hfl, ← hll] at hown3
            refine ⟨_, l.take k ++ ⟨h, r, ln⟩ :: l.drop k, rfl, Sl.of_own_btw hown3, asc_ins tlLess l k _ HAS.out hk hN.out HG'.out, by rw [hll]; omega, fun t ht => ?_, hb2.trans hb3⟩
            rcases List.mem_append.1 ht with ht | ht
            · exact (HOK.out t (List.mem_of_mem_take ht)).more (by omega)
            · rcases List.mem_cons.1 ht with rfl | ht
              · exact ⟨hh.1, hh.2, hr, by show 0 ≤ ln; omega, by show ln ≤ B + 10; omega⟩
              · exact (HOK.out t (List.mem_of_mem_drop ht)).more (by omega)
          have HFIN := keep hfin
          clear hfin HG' hN
          have hsrc : Sl w2 (lt ws.heap.size) 3 (.slice (if c = k then A else A.map (·.add (k * 3))) (l.length - k) (c - k)) (l.length - k) ((l.drop k).flatMap Tl.vals) := by
            have := hS2.drop hk
            rwa [flat_drop Tl.vals 3 (fun _ => rfl) l k hk] at this
          by_cases hck : c = k
          · clear hsrc
            subst hck
            have HD : Hid (l.length - c = 0 ∧ l.drop c = []) := ⟨by omega, List.drop_eq_nil_of_le (by omega)⟩
            go_wp2_with (refine wpList_appendS elTals rfl _ _ rfl ws.heap.size _ (c + 1) _ rfl hown2 (lt ws.heap.size) _ 0 [] rfl (Sl.nil _ _ _ _ _) (by simp) (by unfold maxLen; omega) (by omega) hb2.size ?_; intro v3 w3 hown3 hb3 hg3)
            go_ret
            refine HFIN.out _ _ ?_ hb3
            rw [HD.out.1, HD.out.2]
            exact hown3
          · rw [if_neg hck] at hsrc
            go_wp2_with (refine wpList_appendS elTals rfl _ _ rfl ws.heap.size _ (k + 1) _ rfl hown2 _ _ (l.length - k) _ rfl hsrc (oneT _) h65 (by omega) hb2.size ?_; intro v3 w3 hown3 hb3 hg3)
            go_ret
            exact HFIN.out _ _ hown3 hb3
end Go.Proofs.Ytkjhnipjhefndaa
