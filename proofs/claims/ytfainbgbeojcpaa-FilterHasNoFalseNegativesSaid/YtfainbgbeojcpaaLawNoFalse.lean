/- FilterHasNoFalseNegatives: the walk of the statement. -/
import Derived.Test.YtfainbgbeojcpaaBoxes
import Derived.Test.YtfainbgbeojcpaaLawBuild
namespace Go.Proofs.Ytfainbgbeojcpaa
open Go.RowKit

/-- New's result as a list of words. -/
def NewN (w : World) (L : List Int) (k : Int) (e : Ending) (w' : World) : Prop :=
  ∃ g c, e = .returned (.tuple #[.agg #[.int .i64 k, .slice (some ⟨g, 0, none⟩) L.length c], .int .i64 0]) ∧
    Sl w' (btw w.heap.size w'.heap.size) 1 (.slice (some ⟨g, 0, none⟩) L.length c) L.length (L.map (.int .u64)) ∧ Below w.heap.size w w'
theorem refNew_n (size k : Int) (w : World) (L : List Int) (hL : zeros (fwords size) = L) (h1 : 1 ≤ size) (h2 : size ≤ 65536) (h3 : 1 ≤ k) (h4 : k ≤ 8) :
    Calls Try.prog 10 #[.int .i64 size, .int .i64 k] w (NewN w L k) := by
  refine (refNew_ok size k w h1 h2 h3 h4).mono ?_
  subst hL
  rintro e w' ⟨g, rfl, hown, hb⟩
  refine ⟨g, fwords size, by rw [zeros_len], ?_, hb⟩
  have := Sl.of_own_btw hown
  rw [zeros_len]
  simpa [zeros] using this

theorem below_alloc {a w : World} (h : Below a.heap.size a w) (o : Obj) : Below a.heap.size a (w.alloc o) := h.alloc h.size o
theorem blk3 (w : World) (cs : Array Value) (i : Nat) (h : i = w.heap.size ∨ i = w.heap.size + 1 ∨ i = w.heap.size + 1 + 1) : Blk (((w.alloc (.cells cs 27)).alloc (.cells cs 27)).alloc (.cells cs 27)).drew i 27 cs := by
  have h0 : Blk (((w.alloc (.cells cs 27)).alloc (.cells cs 27)).alloc (.cells cs 27)) i 27 cs := by
    rcases h with rfl | rfl | rfl
    · exact ((Blk.new w 27 cs).alloc _).alloc _
    · have := (Blk.new (w.alloc (.cells cs 27)) 27 cs).alloc (.cells cs 27)
      simpa using this
    · have := Blk.new ((w.alloc (.cells cs 27)).alloc (.cells cs 27)) 27 cs
      simpa using this
  exact h0
theorem below3 (w : World) (cs : Array Value) : Below w.heap.size w (((w.alloc (.cells cs 27)).alloc (.cells cs 27)).alloc (.cells cs 27)).drew := (below_alloc (below_alloc (below_alloc (Below.refl _ _) _) _) _).drew
theorem sl_off_new {W W' : World} {p q r size n : Nat} {v : Value} {xs : List Value} (h : Sl W (lt W.heap.size) size v n xs) (hb : Below W.heap.size W W') (hp : W.heap.size ≤ p) (hq : W.heap.size ≤ q) (hr : W.heap.size ≤ r) : Sl W' (Off W' p q r) size v n xs :=
  (h.under hb (fun _ hx => hx)).mono (fun x hx => by have hx' : x < W.heap.size := hx; have := hb.size; exact ⟨by omega, by omega, by omega, by omega⟩)
theorem St.made {w wc : World} {o p q r k c : Nat} {L : List Int} {A : Option Addr} {va vb : Value} {a b : List ByteArray} (hbc : Below w.heap.size w wc) (hB : Blk w o 27 #[.int .i64 k, .slice A L.length c])
    (hE : Sl w (lt w.heap.size) 1 (.slice A L.length c) L.length (L.map (.int .u64))) (hva : Sl w (lt w.heap.size) 1 va a.length (a.map .string)) (hvb : Sl w (lt w.heap.size) 1 vb b.length (b.map .string))
    (hp : Blk wc p 27 #[.int .i64 k, .slice A L.length c]) (hq : Blk wc q 27 #[.int .i64 k, .slice A L.length c]) (hr : Blk wc r 27 #[.int .i64 k, .slice A L.length c])
    (p0 : w.heap.size ≤ p) (q0 : w.heap.size ≤ q) (r0 : w.heap.size ≤ r) (pq : p ≠ q) (pr : p ≠ r) (qr : q ≠ r) : St wc o p q r k L L L L va vb a b := by
  have hl := hB.lt
  have hE' := sl_off_new (p := p) (q := q) (r := r) hE hbc p0 q0 r0
  exact ⟨⟨A, c, hB.below hbc hl, hE'⟩, ⟨A, c, hp, hE'⟩, ⟨A, c, hq, hE'⟩, ⟨A, c, hr, hE'⟩, sl_off_new hva hbc p0 q0 r0, sl_off_new hvb hbc p0 q0 r0, by omega, by omega, by omega, pq, pr, qr⟩

set_option maxRecDepth 100000 in
theorem law_nofalse_out (A : Option Addr) (n c : Nat) (size hashes : Int) (s : ByteArray) (w : World) (h : 200 < s.size) :
    Calls Try.prog 8 #[.slice A n c, .int .u16 size, .int .u8 hashes, .string s] w fun e w' => e = .returned (.bool true) ∧ Below w.heap.size w w' := by
  have d3 : decide ((200 : Int) < s.size) = true := by simp; omega
  go_enter Try.func8, Try.ntmps8
  go_wp2_with fail
  refine (awake_true _).mono ?_
  rintro e w1 ⟨rfl, hb⟩
  go_wp2_with fail
  go_ret
  exact ⟨rfl, hb⟩

theorem ocs_bd {F : List Int} (h : UL F) (hl : F.length ≤ 1024) : 0 ≤ ocs F ∧ ocs F ≤ 65536 := by
  rw [ocs_pops h hl]
  have := pops_le F
  omega
theorem has_set {F : List Int} (h : UL F) (s : ByteArray) (k : Nat) (h1 : 1 ≤ F.length) : hasAll (setBits F (poss s k F.length)) (poss s k F.length) = true := by
  unfold hasAll
  rw [List.all_eq_true]
  intro x hx
  have hb := poss_bd s k F.length h1
  rw [hasB_bt (setBits_UL h _), bt_setBits h _ x hb (hb x hx).1, decide_eq_true hx, Bool.or_true]
set_option maxHeartbeats 4000000 in
set_option maxRecDepth 100000 in
theorem law_nofalse_in (vc : Value) (bs : List Int) (size hashes : Int) (s : ByteArray) (w : World) (hsc : Sl w (lt w.heap.size) 1 vc bs.length (bs.map (.int .u8))) (hr : ∀ x ∈ bs, 0 ≤ x ∧ x ≤ 255) (hm : bs.length ≤ maxLen)
    (h3 : s.size ≤ 200) (b0 : 0 ≤ size ∧ size ≤ 65535) (b1 : 0 ≤ hashes ∧ hashes ≤ 255) :
    Calls Try.prog 8 #[vc, .int .u16 size, .int .u8 hashes, .string s] w fun e w' => e = .returned (.bool true) ∧ Below w.heap.size w w' := by
  obtain ⟨A, c, rfl, hc, hsc⟩ := hsc.form
  have d3 : decide ((200 : Int) < s.size) = false := by simp; omega
  obtain ⟨k, hk⟩ : ∃ k : Nat, (k : Int) = 1 + hashes % 8 := ⟨(1 + hashes % 8).toNat, by omega⟩
  obtain ⟨sz, hsz⟩ : ∃ sz : Int, sz = 1 + size % 2000 := ⟨_, rfl⟩
  have hk1 : 1 ≤ k := by omega
  have hk8 : k ≤ 8 := by omega
  have hz1 : 1 ≤ sz := by omega
  have hz2 : sz ≤ 65536 := by omega
  obtain ⟨n, hn⟩ : ∃ n, n = fwords sz := ⟨_, rfl⟩
  have hn1 : 1 ≤ n := hn ▸ (fwords_bd hz1 hz2).1
  have hn2 : n ≤ 1024 := hn ▸ (fwords_bd hz1 hz2).2
  have HK := keep hk
  have HSZ := keep hsz
  obtain ⟨L0, hL0⟩ : ∃ L0, zeros (fwords sz) = L0 := ⟨_, rfl⟩
  have hlL0 : L0.length = n := by rw [← hL0, zeros_len, hn]
  have HLN := keep hlL0
  have HN := keep hn
  have HL0 := keep hL0
  clear hk hsz hn hL0 hlL0
  go_enter Try.func8, Try.ntmps8
  go_wp2_with fail
  refine (awake_true _).mono ?_
  rintro e w1 ⟨rfl, hb1⟩
  have hS1 := (hsc.below hb1 (Nat.le_refl _)).more hb1.size
  go_wp2_with fail
  refine (drawNew _ bs 200 _ hS1 hr (by omega) hm).mono ?_
  rintro e w2 ⟨gc, rfl, hgc, hC2, hb2⟩
  have hbw2 := bchain hb1 hb2
  have hgw : w.heap.size ≤ gc := Nat.le_trans hb1.size hgc
  have hgl := hC2.lt_
  clear hb1 hb2 hS1 hsc
  go_wp2_with fail
  rw [← HK.out, ← HSZ.out]
  refine (refNew_n sz k _ L0 HL0.out hz1 hz2 (by omega) (by omega)).mono ?_
  rintro e w3 ⟨g3, c3, rfl, hS3, hb3⟩
  have hbw3 := bchain hbw2 hb3
  have hC3 := hC2.under hb3 hgl
  have hgl3 := hC3.lt_
  go_wp2_with fail
  obtain ⟨W, hW⟩ : ∃ W, W = w3.alloc (.cells #[.int .i64 k, .slice (some ⟨g3, 0, none⟩) L0.length c3] 27) := ⟨_, rfl⟩
  have hbW : Below w3.heap.size w3 W := hW ▸ (Below.refl _ w3).alloc (Nat.le_refl _) _
  have hB : Blk W w3.heap.size 27 #[.int .i64 k, .slice (some ⟨g3, 0, none⟩) L0.length c3] := hW ▸ Blk.new _ _ _
  rw [← hW]
  clear hW
  have hSW := sl_lift hS3 hbW
  have hC4 := hC3.under hbW hgl3
  have hbw4 := bchain hbw3 hbW
  clear hC2 hC3 hb3 hbw2 hbw3
  refine (words_any gc _ hC4).mono ?_
  rintro e w5 ⟨v5, l5, rfl, hl5, hll5, hown5, hC5, hg5⟩
  have hbw5 : Below w.heap.size w w5 := below_grown hbw4 hg5 hbw4.size hgw
  have hB5 := hB.grown hg5 (fun e => by injection e with e; omega)
  have hz5 := hg5.size
  have hlB := hB.lt
  go_wp2_with (refine wpList_push1 elStrs rfl rfl _ _ _ rfl rfl rfl W.heap.size _ _ _ _ rfl (fun _ => rfl) (fun _ => rfl) hown5 rfl (by unfold maxLen; omega) (by omega) hz5 ?_; intro g6 c6 w6 hown6 hb6 hg6 _ _)
  have hzW := hbW.size
  have hC6 := hC5.under hb6 (by omega)
  have hbw6 : Below w.heap.size w w6 := hbw5.trans (hb6.mono (by have := hbw4.size; omega))
  have hB6 := hB5.below hb6 hlB
  have hE5 := (hS3.under hbW (fun _ h => h.2)).grown hg5 (fun b hb => ⟨by have := hb.2; omega, fun e => by injection e with e; have := hb.1; omega⟩)
  have hE6 := hE5.under hb6 (fun b hb => by have := hb.2; omega)
  have hownA := own_snoc Value.string l5 s hown6
  have hzw6 := hb6.size
  refine (words_any gc _ hC6).mono ?_
  rintro e w7 ⟨v7, l7, rfl, hl7, hll7, hown7, hC7, hg7⟩
  have hbw7 : Below w.heap.size w w7 := below_grown hbw6 hg7 hbw6.size hgw
  have hB7 := hB6.grown hg7 (fun e => by injection e with e; omega)
  have hE7 := hE6.grown hg7 (fun b hb => ⟨by have := hb.2; omega, fun e => by injection e with e; have := hb.1; omega⟩)
  have hownA7 := own_grown hownA hg7 (by omega)
  have hlA : (l5 ++ [s]).length = l5.length + 1 := by simp
  rw [← hlA]
  obtain ⟨a, ha⟩ : ∃ a, a = l5 ++ [s] := ⟨_, rfl⟩
  have hal : a.length ≤ 31 := by rw [ha, hlA]; omega
  have hsm : Hid (∀ x ∈ a, x.size ≤ maxLen) := by
    intro x hx
    rw [ha] at hx
    rcases List.mem_append.1 hx with hx | hx
    · have := hll5 x hx; unfold maxLen; omega
    · simp at hx; subst hx; unfold maxLen; omega
  have hsb : Hid (∀ x ∈ l7, x.size ≤ maxLen) := fun x hx => by have := hll7 x hx; unfold maxLen; omega
  have hal1 : l5.length + 1 = a.length := by rw [ha, hlA]
  rw [← ha] at hownA7 ⊢
  rw [hal1] at hownA7
  have hVA := Sl.of_own hownA7
  have hVB := Sl.of_own hown7
  obtain ⟨A7, c7, rfl, _, hVB⟩ := hVB.form
  clear ha hlA hal1 hownA hownA7 hown6 hown7 hown5 hg7 hg6 hg5 hb6 hE5 hE6 hB hB5 hB6 hC4 hC5 hC6 hC7 hll5 hll7 hSW hbw4 hbw5 hbw6
  have hq := hB7.cell2
  obtain ⟨q0, q1⟩ := hq
  go_upto_region 6 with fail
  have hE8 : Sl w7 (lt w7.heap.size) 1 (.slice (some ⟨g3, 0, none⟩) L0.length c3) L0.length (L0.map (.int .u64)) := hE7.mono (fun b hb => by have := hb.2; have := hB7.lt; show b < _; omega)
  go_cut [14, 15, 16] (fun s14 s15 s16 wc => ∃ p q r, s14 = .pointer (some ⟨p, 0, none⟩) ∧ s15 = .pointer (some ⟨q, 0, none⟩) ∧ s16 = .pointer (some ⟨r, 0, none⟩) ∧
      St wc w3.heap.size p q r k L0 L0 L0 L0 (.slice (some ⟨g6, 0, none⟩) a.length c6) (.slice A7 l7.length c7) a l7 ∧ Below w7.heap.size w7 wc ∧ w7.heap.size ≤ p ∧ w7.heap.size ≤ q ∧ w7.heap.size ≤ r)
  case first =>
    have hl7 := hB7.lt
    have hf0 := hB7.frozen 0
    have hf1 := hB7.frozen 1
    go_region_held3 (Held w7.heap.size w7) (first | exact Held.start _ _ | (refine Held.of_below ?_; repeat (first | exact Below.refl _ _ | refine Below.drew ?_ | refine below_alloc ?_ _ | refine Below.setCell ?_ (by simp) _))) (fail)
    all_goals go_wp2_with fail
    all_goals go_meet
    all_goals exact ⟨_, _, _, rfl, rfl, rfl, St.made (below3 w7 _) hB7 hE8 hVA hVB (blk3 _ _ _ (by omega)) (blk3 _ _ _ (by omega)) (blk3 _ _ _ (by omega)) (by omega) (by omega) (by omega) (by omega) (by omega) (by omega), below3 w7 _, by omega, by omega, by omega⟩
  case rest =>
    obtain ⟨p, q, r, rfl, rfl, rfl, hSt, hbc, hp0, hq0, hr0⟩ := hcut
    obtain ⟨wo, rfl⟩ : ∃ wo : World, wo = wc := ⟨_, rfl⟩
    have hbwo := hbw7.trans (hbc.mono hbw7.size)
    have hwp : w.heap.size ≤ p := Nat.le_trans hbw7.size hp0
    have hwq : w.heap.size ≤ q := Nat.le_trans hbw7.size hq0
    have hwr : w.heap.size ≤ r := Nat.le_trans hbw7.size hr0
    obtain ⟨o, ho⟩ : ∃ o, o = w3.heap.size := ⟨_, rfl⟩
    rw [← ho] at hSt ⊢
    clear hbw7 hB7 hE7 hE8 hVA hVB q0 q1 hbc hp0 hq0 hr0 hS3 hbW hsc ho
    go_wp2_with fail
    have HL00 : Hid (L0 = built n k []) := by have := HL0.out; rw [← HN.out] at this; exact this.symm
    have hLz := HLN
    go_loopw [17, 18] (fun i _ wr => ∃ j : Nat, j ≤ a.length ∧ i = .int .i64 j ∧ St wr o p q r k L0 (built n k (a.take j)) L0 (built n k (a.reverse.take j)) (.slice (some ⟨g6, 0, none⟩) a.length c6) (.slice A7 l7.length c7) a l7 ∧ Below w.heap.size w wr) (fun i _ _ => a.length - (intOf i).toNat)
    case atStart =>
      refine ⟨0, Nat.zero_le _, rfl, ?_, hbwo⟩
      rw [List.take_zero, List.take_zero, ← HL00.out]
      exact hSt
    case round =>
      obtain ⟨j, hj, rfl, hS, hbr⟩ := hrel
      obtain ⟨wx, rfl⟩ : ∃ wx : World, wx = wr := ⟨_, rfl⟩
      clear hSt hbwo
      by_cases hlt : j < a.length
      · obtain ⟨F, hF⟩ : ∃ F, F = built n k (a.take j) := ⟨_, rfl⟩
        obtain ⟨G, hG⟩ : ∃ G, G = built n k (a.reverse.take j) := ⟨_, rfl⟩
        rw [← hF, ← hG] at hS
        have HF := keep hF
        have HG := keep hG
        have HFl : Hid (F.length = n) := by rw [hF]; exact built_len _ _ _
        have HGl : Hid (G.length = n) := by rw [hG]; exact built_len _ _ _
        clear hF hG
        obtain ⟨A1, c1, hB1, hS1⟩ := hS.f
        obtain ⟨q0, q1⟩ := hB1.cell2
        obtain ⟨bb, ob, u, hbb, hoff, hu, hcell⟩ := hS.va_.at_ hlt
        obtain ⟨rfl, rfl⟩ : g6 = bb ∧ 0 = ob := by injection hbb with h; injection h with h1 h2; exact ⟨h1, h2⟩
        have hu' : u = .string a[j] := by simpa [hlt] using hu.symm
        subst hu'
        simp only [Nat.zero_add] at hcell
        have hF24 : F.length ≤ 1024 := by rw [HFl.out]; exact hn2
        have hF1 : 1 ≤ F.length := by rw [HFl.out]; exact hn1
        go_wp2_with fail
        refine (ones_any k _ F _ (sl_off_lt hS1) hF24).mono ?_
        rintro e w1 ⟨rfl, hb1⟩
        have hz1 := hb1.size
        have hbr1 := hbr.trans (hb1.mono hbr.size)
        have hS' := hS.below hb1
        clear hS hB1 hS1 q0 q1 hcell hoff hu hbb hbr hb1
        obtain ⟨A2, c2, hB2, hS2⟩ := hS'.f
        obtain ⟨q0, q1⟩ := hB2.cell2
        have hf0 := hB2.frozen 0
        have hf1 := hB2.frozen 1
        obtain ⟨bb, ob, u, hbb, hoff, hu, hcell⟩ := hS'.va_.at_ hlt
        obtain ⟨rfl, rfl⟩ : g6 = bb ∧ 0 = ob := by injection hbb with h; injection h with h1 h2; exact ⟨h1, h2⟩
        have hu' : u = .string a[j] := by simpa [hlt] using hu.symm
        subst hu'
        simp only [Nat.zero_add] at hcell
        have hSd := hS'.below (Below.refl _ w1).drew
        have hlp := hS'.f.lt_
        have hlq := hS'.g.lt_
        have hlr := hS'.k_.lt_
        have hSl := sl_off_lt (sl_off_below hS2 (Below.refl _ w1).drew)
        have hB2d : Blk w1.drew p 27 #[.int .i64 k, .slice A2 F.length c2] := hB2
        have hlpd : p < w1.drew.heap.size := hlp
        have hsj := hsm.out a[j] (List.getElem_mem _)
        obtain ⟨sj, hsjd⟩ : ∃ sj, sj = a[j] := ⟨_, rfl⟩
        rw [← hsjd] at hcell hsj
        have HSJ := keep hsjd
        clear hsjd
        go_upto_region 11 with fail
        go_cut [] (fun wc => St wc o p q r k L0 (setBits F (poss sj k F.length)) L0 G (.slice (some ⟨g6, 0, none⟩) a.length c6) (.slice A7 l7.length c7) a l7 ∧ Below w.heap.size w wc)
        case first =>
          go_region_with ((go_at_call 34; refine (add_any k _ F sj _ hSl hF1 hF24 hk8 hsj).mono ?_; rintro e w2 ⟨v2, rfl, hS3, hb2⟩; obtain ⟨A3, c3', rfl, _, hS3⟩ := hS3.form; have hB3 := hB2d.below hb2 hlpd; obtain ⟨t0, t1⟩ := hB3.cell2; have tf0 := hB3.frozen 0; have tf1 := hB3.frozen 1))
          all_goals go_wp2_with fail
          all_goals go_meet
          all_goals exact ⟨(hSd.below hb2).putF hS3 hlpd hlq hlr, ((hbr1.drew.trans (hb2.mono hbr1.size)).setCell (p := ⟨p, 0, none⟩) hwp _).setCell (p := ⟨p, 1, none⟩) hwp _⟩
        case rest =>
          obtain ⟨hS5, hb5⟩ := hcut
          obtain ⟨wy, rfl⟩ : ∃ wy : World, wy = wc := ⟨_, rfl⟩
          obtain ⟨F2, hF2⟩ : ∃ F2, F2 = setBits F (poss sj k F.length) := ⟨_, rfl⟩
          have hF2l : F2.length = F.length := by rw [hF2, setBits_len]
          have hUF : UL F := by rw [HF.out]; exact built_UL _ _ _
          have hst := ones_step hUF sj k F.length rfl hF1 hF24
          rw [← hF2] at hS5 hst
          have hbd := ocs_bd hUF hF24
          have hha : hasAll F2 (poss sj k F2.length) = true := by rw [hF2l, hF2]; exact has_set hUF sj k hF1
          obtain ⟨A4, c4, hB4, hS4⟩ := hS5.f
          obtain ⟨q0, q1⟩ := hB4.cell2
          obtain ⟨bb, ob, u, hbb, hoff, hu, hcell⟩ := hS5.va_.at_ hlt
          obtain ⟨rfl, rfl⟩ : g6 = bb ∧ 0 = ob := by injection hbb with h; injection h with h1 h2; exact ⟨h1, h2⟩
          have hu' : u = .string sj := by rw [HSJ.out]; simpa [hlt] using hu.symm
          subst hu'
          simp only [Nat.zero_add] at hcell
          have hlg := hoff.1
          have hlp5 := hS5.f.lt_
          have hS4' := sl_off_lt hS4
          have hslA := keep (fun (a : World) (h : Held wy.heap.size wy a) => (hS4'.below h.2.2 (Nat.le_refl _)).more h.2.2.size)
          have hF22 : F2.length ≤ 1024 := by omega
          have hF21 : 1 ≤ F2.length := by omega
          generalize ho1 : ocs F = o1 at *
          generalize ho2 : ocs F2 = o2 at *
          have HO2 := keep ho2
          have HHA := keep hha
          have d1 : decide (o2 < o1) = false := by simp; omega
          have d2 : decide (o1 + (k : Int) < o2) = false := by simp; omega
          have e1 : IntKind.i64.wrap (o1 + (k : Int)) = o1 + (k : Int) := by rw [IntWalk.i64_left]; exact IntWalk.wrap64_in _ (by omega)
          have e2 : wrap64 (o1 + (k : Int)) = o1 + (k : Int) := IntWalk.wrap64_in _ (by omega)
          have HF2 := keep hF2
          have HF2l := keep hF2l
          clear hF2 hF2l hha ho1 ho2 hst hUF hS4 hu hbb
          go_upto_region 12 with fail
          go_region_held3 (Held wy.heap.size wy) (first | exact Held.start _ _ | exact Held.call (by assumption) (by assumption) (Nat.le_refl _) | assumption)
            (first
              | (go_at_call 30; refine (has_any k _ F2 sj _ (hslA.out _ (by assumption)) hF21 hF22 hk8 hsj).mono ?_; rw [HHA.out]; rintro e w2 ⟨rfl, hb2⟩)
              | (go_at_call 32; refine (ones_any _ _ F2 _ (hslA.out _ (by assumption)) hF22).mono ?_; rw [HO2.out]; rintro e w4 ⟨rfl, hb4⟩))
          have hH : Held wy.heap.size wy w4 := by assumption
          have hS6 := hS5.below hH.2.2
          have hb6 := hb5.trans (hH.2.2.mono hb5.size)
          clear hS5 hb5 hslA hB4 q0 q1 hcell hoff hlg hlp5 hS4' hb2 hb4 d1 d2 e1 e2 HO2 HHA hbd
          obtain ⟨m, hmj⟩ : ∃ m : Nat, m + 1 + j = a.length := ⟨a.length - 1 - j, by omega⟩
          have hmlt : m < a.length := by omega
          obtain ⟨A4, c4, hB4, hS4⟩ := hS6.k_
          obtain ⟨q0, q1⟩ := hB4.cell2
          obtain ⟨bb, ob, u, hbb, hoff, hu, hcell⟩ := hS6.va_.at_ hmlt
          obtain ⟨rfl, rfl⟩ : g6 = bb ∧ 0 = ob := by injection hbb with h; injection h with h1 h2; exact ⟨h1, h2⟩
          have hu' : u = .string a[m] := by simpa [hmlt] using hu.symm
          subst hu'
          simp only [Nat.zero_add] at hcell
          have hsx := hsm.out a[m] (List.getElem_mem _)
          have HRV : Hid (a[m] = a.reverse[j]'(by simpa using hlt)) := by
            rw [List.getElem_reverse]
            congr 1
            omega
          obtain ⟨sm, hsmd⟩ : ∃ sm, sm = a[m] := ⟨_, rfl⟩
          rw [← hsmd] at hcell hsx
          have HSM := keep hsmd
          clear hsmd hu hbb
          have hG24 : G.length ≤ 1024 := by rw [HGl.out]; exact hn2
          have hG1 : 1 ≤ G.length := by rw [HGl.out]; exact hn1
          have hSd := hS6.below (Below.refl _ w4).drew
          have hlp := hS6.f.lt_
          have hlq := hS6.g.lt_
          have hlr := hS6.k_.lt_
          have hSl := sl_off_lt (sl_off_below hS4 (Below.refl _ w4).drew)
          have hB4d : Blk w4.drew r 27 #[.int .i64 k, .slice A4 G.length c4] := hB4
          have hlrd : r < w4.drew.heap.size := hlr
          have hm1 : (a.length : Int) - 1 - (j : Int) = (m : Int) := by omega
          have hm2 : IntKind.i64.wrap ((a.length : Int) - 1) = (a.length : Int) - 1 := by rw [IntWalk.i64_left]; exact IntWalk.wrap64_in _ (by omega)
          have hm3 : IntKind.i64.wrap (m : Int) = (m : Int) := by rw [IntWalk.i64_left]; exact IntWalk.wrap64_in _ (by omega)
          have i1 : (m : Int) < (a.length : Int) := by omega
          go_upto_region 14 with fail
          go_region_with ((go_at_call 34; refine (add_any k _ G sm _ hSl hG1 hG24 hk8 hsx).mono ?_; rintro e w2 ⟨v2, rfl, hS3, hb2⟩; obtain ⟨A3, c3', rfl, _, hS3⟩ := hS3.form; have hB3 := hB4d.below hb2 hlrd; obtain ⟨t0, t1⟩ := hB3.cell2; have tf0 := hB3.frozen 0; have tf1 := hB3.frozen 1))
          all_goals
            go_wp2_with fail
            go_roundw
            case rel =>
              have hS7 := (hSd.below hb2).putK hS3 hlp hlq hlrd
              refine ⟨j + 1, by omega, by go_num, ?_, ((hb6.drew.trans (hb2.mono hb6.size)).setCell (p := ⟨r, 0, none⟩) hwr _).setCell (p := ⟨r, 1, none⟩) hwr _⟩
              have x1 : built n k (a.take (j + 1)) = F2 := by rw [built_succ n k a j hlt, ← HF.out, ← HSJ.out, HF2.out, HFl.out]
              have x2 : built n k (a.reverse.take (j + 1)) = setBits G (poss sm k G.length) := by rw [built_succ n k a.reverse j (by simpa using hlt), ← HG.out, ← HRV.out, ← HSM.out, HGl.out]
              rw [x1, x2]
              exact hS7
            case measure => simp [intOf]; omega
      · have hS' : St wx o p q r k L0 (built n k a) L0 (built n k a) (.slice (some ⟨g6, 0, none⟩) a.length c6) (.slice A7 l7.length c7) a l7 := by
          have e1 : a.take j = a := List.take_of_length_le (by omega)
          have e2 : a.reverse.take j = a.reverse := List.take_of_length_le (by simp; omega)
          rw [e1, e2, built_rev n k a hn1] at hS
          exact hS
        clear hS
        obtain ⟨F, hF⟩ : ∃ F, F = built n k a := ⟨_, rfl⟩
        rw [← hF] at hS'
        have HF := keep hF
        have HFl : Hid (F.length = n) := by rw [hF]; exact built_len _ _ _
        clear hF
        go_wp2_with fail
        go_loopw [19] (fun i wr => ∃ j : Nat, j ≤ l7.length ∧ i = .int .i64 j ∧ St wr o p q r k L0 F (built n k (l7.take j)) F (.slice (some ⟨g6, 0, none⟩) a.length c6) (.slice A7 l7.length c7) a l7 ∧ Below w.heap.size w wr) (fun i _ => l7.length - (intOf i).toNat)
        case atStart =>
          refine ⟨0, Nat.zero_le _, rfl, ?_, hbr⟩
          rw [List.take_zero, ← HL00.out]
          exact hS'
        case round =>
          obtain ⟨i, hi, rfl, hT, hbs⟩ := hrel
          obtain ⟨wy, rfl⟩ : ∃ wy : World, wy = wr := ⟨_, rfl⟩
          clear hS' hbr
          by_cases hlt2 : i < l7.length
          · obtain ⟨G, hG⟩ : ∃ G, G = built n k (l7.take i) := ⟨_, rfl⟩
            rw [← hG] at hT
            have HG := keep hG
            have HGl : Hid (G.length = n) := by rw [hG]; exact built_len _ _ _
            clear hG
            obtain ⟨A1, c1, hB1, hS1⟩ := hT.g
            obtain ⟨q0, q1⟩ := hB1.cell2
            obtain ⟨bb, ob, u, hbb, hoff, hu, hcell⟩ := hT.vb_.at_ hlt2
            subst hbb
            have hu' : u = .string l7[i] := by simpa [hlt2] using hu.symm
            subst hu'
            have hsj := hsb.out l7[i] (List.getElem_mem _)
            obtain ⟨sj, hsjd⟩ : ∃ sj, sj = l7[i] := ⟨_, rfl⟩
            rw [← hsjd] at hcell hsj
            have HSJ := keep hsjd
            clear hsjd hu
            have hG24 : G.length ≤ 1024 := by rw [HGl.out]; exact hn2
            have hG1 : 1 ≤ G.length := by rw [HGl.out]; exact hn1
            obtain ⟨G2, hG2⟩ : ∃ G2, G2 = setBits G (poss sj k G.length) := ⟨_, rfl⟩
            have hG2l : G2.length = G.length := by rw [hG2, setBits_len]
            have hG24' : G2.length ≤ 1024 := by omega
            have hG1' : 1 ≤ G2.length := by omega
            have HG2 := keep hG2
            have HG2l := keep hG2l
            clear hG2 hG2l
            have hTd := hT.below (Below.refl _ wy).drew
            have hlp := hT.f.lt_
            have hlq := hT.g.lt_
            have hlr := hT.k_.lt_
            have hlbb : bb < wy.drew.heap.size := hoff.1
            have hSl := sl_off_lt (sl_off_below hS1 (Below.refl _ wy).drew)
            have hB1d : Blk wy.drew q 27 #[.int .i64 k, .slice A1 G.length c1] := hB1
            have hlqd : q < wy.drew.heap.size := hlq
            have hcd : wy.drew.cell? ⟨bb, ob + i, none⟩ = some (.string sj) := hcell
            go_upto_region 18 with fail
            go_region_with (first
              | (go_at_call 34; refine (add_any k _ G sj _ hSl hG1 hG24 hk8 hsj).mono ?_; clear hSl; rw [← HG2.out]; rintro e w2 ⟨v2, rfl, hS3, hb2⟩; obtain ⟨A3, c3', rfl, _, hS3⟩ := hS3.form; have hB3 := hB1d.below hb2 hlqd; have hz2' := hb2.size; have hS3' := hS3.mono (S' := lt w2.heap.size) (fun _ h => h.2); have hc2 := (hb2.cell (p := ⟨bb, ob + i, none⟩) hlbb).trans hcd; have hlq2 : q < w2.heap.size := by omega)
              | (go_at_call 34; refine (add_any k _ G2 sj _ hS3' hG1' hG24' hk8 hsj).mono ?_; rintro e w4 ⟨v4, rfl, hS4, hb4⟩; obtain ⟨A4, c4', rfl, _, hS4⟩ := hS4.form; have hB4 := hB3.below hb4 hlq2; obtain ⟨t0, t1⟩ := hB4.cell2; have tf0 := hB4.frozen 0; have tf1 := hB4.frozen 1))
            all_goals
              go_wp2_with fail
              go_roundw
              case rel =>
                have hT2 := ((hTd.below hb2).below hb4).putG hS4 (Nat.lt_of_lt_of_le hlp hz2') (Nat.lt_of_lt_of_le hlq hz2') (Nat.lt_of_lt_of_le hlr hz2')
                refine ⟨i + 1, by omega, by go_num, ?_, (((hbs.drew.trans (hb2.mono hbs.size)).trans (hb4.mono (Nat.le_trans hbs.size hz2'))).setCell (p := ⟨q, 0, none⟩) hwq _).setCell (p := ⟨q, 1, none⟩) hwq _⟩
                have x1 : built n k (l7.take (i + 1)) = setBits G2 (poss sj k G2.length) := by rw [← built_twice n k l7 i hlt2 hn1, ← HG.out, ← HSJ.out, HG2l.out, HG2.out, HGl.out]
                rw [x1]
                exact hT2
              case measure => simp [intOf]; omega
          · have hT' : St wy o p q r k L0 F (built n k l7) F (.slice (some ⟨g6, 0, none⟩) a.length c6) (.slice A7 l7.length c7) a l7 := by
              have e1 : l7.take i = l7 := List.take_of_length_le (by omega)
              rw [e1] at hT
              exact hT
            clear hT
            obtain ⟨G, hG⟩ : ∃ G, G = built n k l7 := ⟨_, rfl⟩
            rw [← hG] at hT'
            have HG := keep hG
            have HGl : Hid (G.length = n) := by rw [hG]; exact built_len _ _ _
            clear hG
            obtain ⟨U, hU⟩ : ∃ U, U = orZip F G := ⟨_, rfl⟩
            have HU := keep hU
            have HUl : Hid (U.length = n) := by rw [hU, ← HFl.out]; exact orUpto_len _ _ _
            have hfok : fok (k : Int) n = true := by simp [fok]; omega
            have HU1 : Hid (uspec k F k G = ((k : Int), U, (0 : Int))) := by
              unfold uspec
              rw [HFl.out, HGl.out, if_pos ⟨hfok, hfok⟩, if_pos ⟨rfl, rfl⟩, hU]
              exact keep rfl
            have HU2 : Hid (uspec k G k F = ((k : Int), U, (0 : Int))) := by
              unfold uspec
              rw [HFl.out, HGl.out, if_pos ⟨hfok, hfok⟩, if_pos ⟨rfl, rfl⟩, hU, HF.out, HG.out, union_comm]
              exact keep rfl
            clear hU hfok
            obtain ⟨A1, c1, hB1, hS1⟩ := hT'.f
            obtain ⟨A2, c2, hB2, hS2⟩ := hT'.g
            obtain ⟨q0, q1⟩ := hB1.cell2
            obtain ⟨q2, q3⟩ := hB2.cell2
            go_wp2_with fail
            refine (union_any k k F G _ _ _ (sl_off_lt hS1) (sl_off_lt hS2)).mono ?_
            rw [HU1.out]
            rintro e w1 ⟨v1, rfl, hV1, hb1⟩
            obtain ⟨A3, c3', rfl, _, hV1⟩ := hV1.form
            clear hB1 hB2 hS1 hS2 q0 q1 q2 q3
            dsimp only at hV1
            go_upto_region 20 with fail
            obtain ⟨W1, hW1⟩ : ∃ W1, W1 = w1.alloc (.cells #[.int .i64 k, .slice A3 U.length c3'] 27) := ⟨_, rfl⟩
            have hba : Below w1.heap.size w1 W1 := hW1 ▸ (Below.refl _ w1).alloc (Nat.le_refl _) _
            have hBu : Blk W1 w1.heap.size 27 #[.int .i64 k, .slice A3 U.length c3'] := hW1 ▸ Blk.new _ _ _
            have hSu : Sl W1 (lt W1.heap.size) 1 (.slice A3 U.length c3') U.length (U.map (.int .u64)) := ((hV1.mono (S' := lt w1.heap.size) (fun _ h => h.2)).below hba (Nat.le_refl _)).more hba.size
            have hT1 := (hT'.below hb1).below hba
            have hbs1 := (hbs.trans (hb1.mono hbs.size)).trans (hba.mono (Nat.le_trans hbs.size hb1.size))
            rw [← hW1]
            obtain ⟨ub, hub⟩ : ∃ ub, ub = w1.heap.size := ⟨_, rfl⟩
            rw [← hub] at hBu ⊢
            clear hW1 hba hV1 hT' hb1 hub hbs
            obtain ⟨A1, c1, hB1, hS1⟩ := hT1.f
            obtain ⟨A2, c2, hB2, hS2⟩ := hT1.g
            obtain ⟨q0, q1⟩ := hB1.cell2
            obtain ⟨q2, q3⟩ := hB2.cell2
            go_wp2_with fail
            refine (union_any k k G F _ _ _ (sl_off_lt hS2) (sl_off_lt hS1)).mono ?_
            rw [HU2.out]
            rintro e w2 ⟨v2, rfl, hV2, hb2⟩
            obtain ⟨A4, c4', rfl, _, hV2⟩ := hV2.form
            clear hB1 hB2 hS1 hS2 q0 q1 q2 q3
            dsimp only at hV2
            go_upto_region 21 with fail
            obtain ⟨W2, hW2⟩ : ∃ W2, W2 = w2.alloc (.cells #[.int .i64 k, .slice A4 U.length c4'] 27) := ⟨_, rfl⟩
            have hba : Below w2.heap.size w2 W2 := hW2 ▸ (Below.refl _ w2).alloc (Nat.le_refl _) _
            have hBv : Blk W2 w2.heap.size 27 #[.int .i64 k, .slice A4 U.length c4'] := hW2 ▸ Blk.new _ _ _
            have hSv : Sl W2 (lt W2.heap.size) 1 (.slice A4 U.length c4') U.length (U.map (.int .u64)) := ((hV2.mono (S' := lt w2.heap.size) (fun _ h => h.2)).below hba (Nat.le_refl _)).more hba.size
            have hb2a := bchain hb2 hba
            have hT2 := hT1.below hb2a
            have hbs2 := hbs1.trans (hb2a.mono hbs1.size)
            have hBu2 := hBu.below hb2a hBu.lt
            have hSu2 := (hSu.below hb2a (Nat.le_refl _)).more hb2a.size
            rw [← hW2]
            obtain ⟨vb, hvb⟩ : ∃ vb, vb = w2.heap.size := ⟨_, rfl⟩
            rw [← hvb] at hBv ⊢
            clear hW2 hba hV2 hT1 hb2 hb2a hvb hbs1 hBu hSu
            obtain ⟨A1, c1, hB1, hS1⟩ := hT2.f
            obtain ⟨A2, c2, hB2, hS2⟩ := hT2.k_
            obtain ⟨q0, q1⟩ := hB1.cell2
            obtain ⟨q2, q3⟩ := hB2.cell2
            have hFm : F.length ≤ 1000000 := by rw [HFl.out]; omega
            have hUm : U.length ≤ 1000000 := by rw [HUl.out]; omega
            go_wp2_with fail
            refine (same_true k F _ _ _ (sl_off_lt hS1) (sl_off_lt hS2) hFm).mono ?_
            rintro e w3' ⟨rfl, hb3⟩
            clear hB1 hB2 hS1 hS2 q0 q1 q2 q3
            have hT3 := hT2.below hb3
            have hbs3 := hbs2.trans (hb3.mono hbs2.size)
            have hBu3 := hBu2.below hb3 hBu2.lt
            have hSu3 := (hSu2.below hb3 (Nat.le_refl _)).more hb3.size
            have hBv3 := hBv.below hb3 hBv.lt
            have hSv3 := (hSv.below hb3 (Nat.le_refl _)).more hb3.size
            clear hT2 hbs2 hBu2 hSu2 hBv hSv hb3
            obtain ⟨q0, q1⟩ := hBu3.cell2
            obtain ⟨q2, q3⟩ := hBv3.cell2
            go_wp2_with fail
            refine (same_true k U _ _ _ hSu3 hSv3 hUm).mono ?_
            rintro e w4 ⟨rfl, hb4⟩
            clear q0 q1 q2 q3
            have hT4 := hT3.below hb4
            have hbs4 := hbs3.trans (hb4.mono hbs3.size)
            have hBu4 := hBu3.below hb4 hBu3.lt
            have hSu4 := (hSu3.below hb4 (Nat.le_refl _)).more hb4.size
            clear hT3 hbs3 hBu3 hSu3 hBv3 hSv3 hb4
            obtain ⟨A1, c1, hB1, hS1⟩ := hT4.e
            obtain ⟨q0, q1⟩ := hB1.cell2
            have hE1 : 1 ≤ L0.length := by rw [HLN.out]; exact hn1
            have hE2 : L0.length ≤ 1024 := by rw [HLN.out]; exact hn2
            have hsl : s.size ≤ maxLen := by unfold maxLen; omega
            have HE : Hid (hasAll L0 (poss s k L0.length) = false) := by
              rw [HLN.out, ← HL0.out, ← HN.out]
              exact has_zeros n k s hk1
            go_wp2_with fail
            refine (has_any k _ L0 s _ (sl_off_lt hS1) hE1 hE2 hk8 hsl).mono ?_
            rw [HE.out]
            rintro e w5 ⟨rfl, hb5⟩
            clear q0 q1 hB1 hS1
            have hT5 := hT4.below hb5
            have hbs5 := hbs4.trans (hb5.mono hbs4.size)
            have hBu5 := hBu4.below hb5 hBu4.lt
            have hSu5 := (hSu4.below hb5 (Nat.le_refl _)).more hb5.size
            have hVA5 := sl_off_lt hT5.va_
            have hVB5 := sl_off_lt hT5.vb_
            clear hT4 hbs4 hBu4 hSu4 hb5 hT5 hsl hE1 hE2 hFm hUm
            have hU1 : 1 ≤ U.length := by rw [HUl.out]; exact hn1
            have hU24 : U.length ≤ 1024 := by rw [HUl.out]; exact hn2
            have HH : Hid (∀ x, x ∈ a ∨ x ∈ l7 → hasAll U (poss x k U.length) = true) := by
              intro x hx
              rw [HUl.out, HU.out, HF.out, HG.out]
              exact has_left n k a l7 x hx hn1
            go_wp2_with fail
            go_loopw [24] (fun i wr => ∃ j : Nat, j ≤ a.length ∧ i = .int .i64 j ∧ Below w5.heap.size w5 wr) (fun i _ => a.length - (intOf i).toNat)
            case atStart => exact ⟨0, Nat.zero_le _, rfl, Below.refl _ _⟩
            case round =>
              obtain ⟨x, hx, rfl, hb6⟩ := hrel
              obtain ⟨wz, rfl⟩ : ∃ wz : World, wz = wr := ⟨_, rfl⟩
              by_cases hlt3 : x < a.length
              · obtain ⟨t0, t1⟩ := (hBu5.below hb6 hBu5.lt).cell2
                have hSz := (hSu5.below hb6 (Nat.le_refl _)).more hb6.size
                have hVz := (hVA5.below hb6 (Nat.le_refl _)).more hb6.size
                obtain ⟨bb, ob, u, hbb, hoff, hu, hcell⟩ := hVz.at_ hlt3
                obtain ⟨rfl, rfl⟩ : g6 = bb ∧ 0 = ob := by injection hbb with h; injection h with h1 h2; exact ⟨h1, h2⟩
                have hu' : u = .string a[x] := by simpa [hlt3] using hu.symm
                subst hu'
                simp only [Nat.zero_add] at hcell
                have hsj := hsm.out a[x] (List.getElem_mem _)
                have HHA : Hid (hasAll U (poss a[x] k U.length) = true) := HH.out _ (.inl (List.getElem_mem _))
                have hlg : g6 < wz.heap.size := hoff
                have hlu : ub < wz.heap.size := Nat.lt_of_lt_of_le hBu5.lt hb6.size
                generalize a[x] = sj at *
                have hslA := keep (fun (a : World) (h : Held wz.heap.size wz a) => (hSz.below h.2.2 (Nat.le_refl _)).more h.2.2.size)
                clear hSz hVz hu hbb
                go_upto_region 26 with fail
                go_region_held3 (Held wz.heap.size wz) (first | exact Held.start _ _ | exact Held.call (by assumption) (by assumption) (Nat.le_refl _) | assumption)
                  (first
                    | (go_at_call 30; refine (has_any k _ U sj _ (hslA.out _ (by assumption)) hU1 hU24 hk8 hsj).mono ?_; rw [HHA.out]; rintro e w7' ⟨rfl, hb7⟩))
                have hH : Held wz.heap.size wz w7' := by assumption
                have hb8 := hb6.trans (hH.2.2.mono hb6.size)
                go_wp2_with fail
                go_roundw
                case rel => exact ⟨x + 1, by omega, by go_num, hb8⟩
                case measure => simp [intOf]; omega
              · go_wp2_with fail
                go_loopw [25] (fun i wr => ∃ j : Nat, j ≤ l7.length ∧ i = .int .i64 j ∧ Below w5.heap.size w5 wr) (fun i _ => l7.length - (intOf i).toNat)
                case atStart => exact ⟨0, Nat.zero_le _, rfl, hb6⟩
                case round =>
                  obtain ⟨y, hy, rfl, hb9⟩ := hrel
                  obtain ⟨wv, rfl⟩ : ∃ wv : World, wv = wr := ⟨_, rfl⟩
                  clear hb6
                  by_cases hlt4 : y < l7.length
                  · obtain ⟨t0, t1⟩ := (hBu5.below hb9 hBu5.lt).cell2
                    have hSz := (hSu5.below hb9 (Nat.le_refl _)).more hb9.size
                    have hVz := (hVB5.below hb9 (Nat.le_refl _)).more hb9.size
                    obtain ⟨bb, ob, u, hbb, hoff, hu, hcell⟩ := hVz.at_ hlt4
                    subst hbb
                    have hu' : u = .string l7[y] := by simpa [hlt4] using hu.symm
                    subst hu'
                    have hsj := hsb.out l7[y] (List.getElem_mem _)
                    have HHA : Hid (hasAll U (poss l7[y] k U.length) = true) := HH.out _ (.inr (List.getElem_mem _))
                    have hlg : bb < wv.heap.size := hoff
                    have hlu : ub < wv.heap.size := Nat.lt_of_lt_of_le hBu5.lt hb9.size
                    generalize l7[y] = sj at *
                    have hslA := keep (fun (a : World) (h : Held wv.heap.size wv a) => (hSz.below h.2.2 (Nat.le_refl _)).more h.2.2.size)
                    clear hSz hVz hu
                    go_upto_region 31 with fail
                    go_region_held3 (Held wv.heap.size wv) (first | exact Held.start _ _ | exact Held.call (by assumption) (by assumption) (Nat.le_refl _) | assumption)
                      (first
                        | (go_at_call 30; refine (has_any k _ U sj _ (hslA.out _ (by assumption)) hU1 hU24 hk8 hsj).mono ?_; rw [HHA.out]; rintro e w7' ⟨rfl, hb7⟩))
                    have hH : Held wv.heap.size wv w7' := by assumption
                    have hb8 := hb9.trans (hH.2.2.mono hb9.size)
                    go_wp2_with fail
                    go_roundw
                    case rel => exact ⟨y + 1, by omega, by go_num, hb8⟩
                    case measure => simp [intOf]; omega
                  · go_wp2_with fail
                    go_ret
                    exact ⟨rfl, hbs5.trans (hb9.mono hbs5.size)⟩
theorem law_nofalse_row (vc : Value) (bs : List Int) (size hashes : Int) (s : ByteArray) (w : World) (hsc : Sl w (lt w.heap.size) 1 vc bs.length (bs.map (.int .u8))) (hm : bs.length ≤ maxLen) (hr : ∀ n ∈ bs, (Lit.int .u8 n).wf = true)
    (b0 : 0 ≤ size ∧ size ≤ 65535) (b1 : 0 ≤ hashes ∧ hashes ≤ 255) :
    Calls Try.prog 8 #[vc, .int .u16 size, .int .u8 hashes, .string s] w fun e w' => e = .returned (.bool true) ∧ Below w.heap.size w w' := by
  by_cases h : s.size ≤ 200
  · exact law_nofalse_in vc bs size hashes s w hsc (fun x hx => by simpa [Lit.wf, IntKind.min, IntKind.max, IntKind.signed, IntKind.bits] using hr x hx) hm h b0 b1
  · obtain ⟨A, c, rfl, _, _⟩ := hsc.form
    exact law_nofalse_out A _ c size hashes s w (by omega)
end Go.Proofs.Ytfainbgbeojcpaa
