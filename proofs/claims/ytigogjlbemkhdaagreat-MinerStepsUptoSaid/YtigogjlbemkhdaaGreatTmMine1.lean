/- template.mine$1: the walk (under way). -/
import Derived.Test.YtigogjlbemkhdaaGreatTmMineP
import Derived.Outline
namespace Go.Proofs.YtigogjlbemkhdaaGreat
open Go.RowKit
variable {oB : Nat}
theorem dd_len {α : Type} [DecidableEq α] (l : List α) : (dd l).length ≤ l.length := by
  induction l with
  | nil => simp [dd]
  | cons x l ih =>
    unfold dd
    have h := List.length_filter_le (fun y => decide (y ≠ x)) (dd l)
    simp only [List.length_cons]
    omega
/-- A template whose tokens are a row of our own. -/
def TkM (w : World) (B : Nat) (t : Tm) : Prop := w.ownsRow B 9 1 t.tv t.tk.length (t.tk.map .string) ∧ t.tk.length ≤ 60
/-- What the recursion may change: the row's block, the block of the result's slice, the result's row. -/
structure Fr (bl bo : Nat) (ov : Value) (w w' : World) : Prop where
  os : w'.os = w.os
  tape : w'.tape = w.tape
  output : w'.output = w.output
  size : w.heap.size ≤ w'.heap.size
  block : ∀ k, k < w.heap.size → k ≠ bl → k ≠ bo → some k ≠ ov.ownBlock → w'.heap[k]? = w.heap[k]?
/-- The result's row is the same or new. -/
def OvN (w : World) (ov ov' : Value) : Prop := ov'.ownBlock = ov.ownBlock ∨ ∀ g, ov'.ownBlock = some g → w.heap.size ≤ g
theorem Fr.of_below {bl bo : Nat} {ov : Value} {w w' : World} (h : Below w.heap.size w w') : Fr bl bo ov w w' := ⟨h.os, h.tape, h.output, h.size, fun k hk _ _ _ => h.block k hk⟩
theorem Fr.trans {bl bo : Nat} {ov ov1 : Value} {a b c : World} (h : Fr bl bo ov a b) (k : Fr bl bo ov1 b c) (hn : OvN a ov ov1) : Fr bl bo ov a c :=
  ⟨k.os.trans h.os, k.tape.trans h.tape, k.output.trans h.output, Nat.le_trans h.size k.size, fun i hi h1 h2 h3 =>
    (k.block i (Nat.lt_of_lt_of_le hi h.size) h1 h2 (fun e => by
      rcases hn with hn | hn
      · exact h3 (e.trans hn)
      · have := hn i e.symm; omega)).trans (h.block i hi h1 h2 h3)⟩
theorem OvN.trans {a b : World} {v v1 v2 : Value} (h : OvN a v v1) (k : OvN b v1 v2) (hs : a.heap.size ≤ b.heap.size) : OvN a v v2 := by
  rcases k with k | k
  · rcases h with h | h
    · exact .inl (k.trans h)
    · exact .inr fun g hg => h g (k ▸ hg)
  · exact .inr fun g hg => Nat.le_trans hs (k g hg)
theorem own_ne_blk {w : World} {B e e' size n g : Nat} {v : Value} {xs : List Value} {cs : Array Value} (h : w.ownsRow B e size v n xs) (hb : Blk w g e' cs) (hne : e ≠ e') : v.ownBlock = none ∨ v.ownBlock ≠ some g := by
  rcases h.2 with ⟨rfl, _⟩ | ⟨g', cap', cur', rfl, _, hg', _⟩
  · exact .inl rfl
  · refine .inr fun e1 => ?_
    have e2 : g' = g := by simpa [Value.ownBlock] using e1
    subst e2
    unfold Blk at hb
    rw [hg'] at hb
    injection hb with hb
    injection hb with _ he _
    exact hne he
theorem blk_noStr {w : World} {g e : Nat} {cs : Array Value} (h : Blk w g e cs) (hne : e ≠ 9) (ho : oB ≤ g) : ∀ b, strB oB w b → b ≠ g := by
  rintro b ⟨_, hb⟩ rfl
  unfold Blk at h
  rcases hb with hb | ⟨cur, f, hb⟩
  · omega
  · rw [hb] at h
    injection h with h
    injection h with _ h _
    exact hne h.symm
theorem TkR.kept {w w' : World} {t : Tm} (h : TkR oB w t) (hk : ∀ b, strB oB w b → w'.heap[b]? = w.heap[b]?) : TkR oB w' t := by
  obtain ⟨⟨hl, A, c, hv, hc, hrr⟩, h2⟩ := h
  refine ⟨⟨hl, A, c, hv, hc, fun hn => ?_⟩, h2⟩
  obtain ⟨b, o, hA, hb, hrow⟩ := hrr hn
  have hs := hk b hb
  exact ⟨b, o, hA, hb.same hs, hrow.keep fun p hp => World.cell?_of_block (by rw [hp]; exact hs)⟩
/-- The tokens stay through what the recursion changes. -/
theorem TkR.fr {bl bo B n : Nat} {ov : Value} {w w' : World} {t : Tm} {X Y xs : List Value} {L : List Tm} {cs : Array Value} (h : TkR oB w t) (hf : Fr bl bo ov w w') (hm : Mid w bl X L Y) (hb : Blk w bo 23 cs) (hov : w.ownsRow B 32 2 ov n xs) (h1 : oB ≤ bl) (h2 : oB ≤ bo) (h3 : oB ≤ B) : TkR oB w' t :=
  h.kept fun b hs => hf.block b hs.lt_ (blk_noStr hm (by decide) h1 b hs) (blk_noStr hb (by decide) h2 b hs) (own_noStr hov h3 b hs)
theorem tpL_part (p : Nat) (w : List UInt8) (L : List Tm) : tpL (L.filter fun t => decide (tkA p (strs t.tk, t.ct) = w)) = partA p w (tpL L) := by
  unfold tpL partA
  rw [List.filter_map]
  rfl
theorem tpL_rest (p : Nat) (w : List UInt8) (L : List Tm) : tpL (L.filter fun t => !decide (tkA p (strs t.tk, t.ct) = w)) = (tpL L).filter fun t => !decide (tkA p t = w) := by
  unfold tpL
  rw [List.filter_map]
  rfl
theorem Fr.own {bl bo B e size n : Nat} {ov v : Value} {xs : List Value} {w w' : World} (h : Fr bl bo ov w w') (ho : w.ownsRow B e size v n xs) (hne : ∀ g, v.ownBlock = some g → g ≠ bl ∧ g ≠ bo ∧ some g ≠ ov.ownBlock) : w'.ownsRow B e size v n xs := by
  rcases ho with ⟨h1, ⟨e1, h2⟩ | ⟨g, cap, cur, e1, h2, hg, h3⟩⟩
  · exact ⟨h1, .inl ⟨e1, h2⟩⟩
  · have hlt : g < w.heap.size := by
      by_cases hc : g < w.heap.size
      · exact hc
      · rw [Array.getElem?_eq_none (by omega)] at hg
        cases hg
    have hn := hne g (by rw [e1]; rfl)
    exact ⟨h1, .inr ⟨g, cap, cur, e1, h2, (h.block g hlt hn.1 hn.2.1 hn.2.2).trans hg, h3⟩⟩
theorem blk_ne {w : World} {g g' e e' : Nat} {cs cs' : Array Value} (h : Blk w g e cs) (h' : Blk w g' e' cs') (hne : e ≠ e') : g ≠ g' := by
  rintro rfl
  unfold Blk at h h'
  rw [h] at h'
  injection h' with h'
  injection h' with _ h' _
  exact hne h'
theorem Fr.of_grown {bl bo : Nat} {ov : Value} {w w' : World} (h : w.grownBy w' (some bl)) : Fr bl bo ov w w' := ⟨h.os, h.tape, h.output, h.size, fun k hk h1 _ _ => h.block k hk (fun e => h1 (by injection e))⟩
/-- What mine's closure does. -/
def MineRes (bl bo : Nat) (X : List Value) (L : List Tm) (Y : List Value) (ov : Value) (O : List Tm) (B n f : Nat) (w : World) (x : Ending) (w' : World) : Prop :=
  x = .returned (.tuple #[]) ∧ ∃ L' R ov', L'.Perm L ∧ Mid w' bl X L' Y ∧ Blk w' bo 23 #[ov'] ∧ w'.ownsRow B 32 2 ov' (O ++ R).length (tms (O ++ R)) ∧ (∀ t ∈ O ++ R, TkM w' B t) ∧ (tpL R).Perm (tplF n f (tpL L)) ∧ R.length ≤ L.length ∧ Fr bl bo ov w w' ∧ OvN w ov ov'
def MinePre (oB bl bo bm B n : Nat) (X : List Value) (L : List Tm) (Y : List Value) (ov : Value) (O : List Tm) (w : World) : Prop :=
  Mid w bl X L Y ∧ Blk w bo 23 #[ov] ∧ Blk w bm 81 #[.func (.func 72) #[] #[.pointer (some ⟨bm, 0, none⟩), .pointer (some ⟨bo, 0, none⟩)]] ∧ w.ownsRow B 32 2 ov O.length (tms O) ∧ (∀ t ∈ O, TkM w B t) ∧ (∀ t ∈ L, TkR oB w t ∧ t.tk.length = n) ∧ ov.ownBlock ≠ some bl ∧ B ≤ w.heap.size
set_option maxHeartbeats 4000000 in
set_option maxRecDepth 100000 in
theorem mine1_any (n B bl bo bm : Nat) (hn1 : 1 ≤ n) (hn6 : n ≤ 60) (ho1 : oB ≤ bl) (ho2 : oB ≤ bo) (ho3 : oB ≤ B) : ∀ (f : Nat) (L : List Tm) (X Y : List Value) (ov : Value) (O : List Tm) (c : Nat) (w : World), MinePre oB bl bo bm B n X L Y ov O w → L ≠ [] → L.length ≤ f → CtOk L → L.length ≤ c → O.length + L.length ≤ 100000 →
    Calls Tryz.prog 72 #[.slice (some ⟨bl, X.length, none⟩) L.length c, .pointer (some ⟨bm, 0, none⟩), .pointer (some ⟨bo, 0, none⟩)] w (MineRes bl bo X L Y ov O B n f w) := by
  intro f
  induction f with
  | zero => intro L X Y ov O c w _ hne hf; cases L <;> simp at hne hf
  | succ f ih =>
    intro L X Y ov O c w hpre hne hf hct hc hm
    obtain ⟨hMid, hBo, hBm, hOv, hO, hL, hdis, hBw⟩ := hpre
    have hl0 : 0 < L.length := List.length_pos_iff.2 hne
    have hsl := hMid.slt c hc
    have hform : ∀ t ∈ L, ∃ TA TN TC, t.tv = .slice TA TN TC := fun t ht => (hL t ht).1.form
    have HTOT := keep (ttotal_any _ L w hsl hform hct (by omega))
    have hAT := fun (p : Nat) (hp : p < n) (W : World) (hW : Below w.heap.size w W) => at_any _ L p W (hsl.below hW (Nat.le_refl _) |>.more hW.size) (fun t ht => (hL t ht).1.up hW) (fun t ht => by rw [(hL t ht).2]; exact hp) hct (by omega)
    have HATF := keep hAT
    have HMID := keep hMid
    have HBO := keep hBo
    have HBM := keep hBm
    have HOV := keep hOv
    have HO := keep hO
    have HL := keep hL
    have HCT := keep hct
    have HIH := keep ih
    clear hAT hMid hBo hBm hOv hO hL ih hct hsl hform
    go_enter Tryz.func72, Tryz.ntmps72
    go_wp2_with fail
    refine HTOT.out.mono ?_
    rintro e w1 ⟨rfl, hb1⟩
    obtain ⟨s, hs⟩ : ∃ s, s = sat (sumC (tpL L)) := ⟨_, rfl⟩
    rw [← hs]
    have HS := keep hs
    have hb2 : Below w.heap.size w (w1.alloc (.cells #[.slice none 0 0, .int .i64 s] 32)) := hb1.alloc hb1.size _
    obtain ⟨c0, _⟩ := (HMID.out.same (hb2.block _ HMID.out.inHeap)).cells hl0
    obtain ⟨TA, TN, TC, htv⟩ := (HL.out _ (List.getElem_mem hl0)).1.form
    have hTN : TN = n := by
      have h := (HL.out _ (List.getElem_mem hl0)).1.1.str
      rw [htv, (HL.out _ (List.getElem_mem hl0)).2] at h
      obtain ⟨_, _, _, hv, _⟩ := h
      injection hv
    subst hTN
    rw [htv] at c0
    simp only [Nat.zero_mul, Nat.add_zero] at c0
    have HB2 := keep hb2
    have HBT := keep (Blk.new w1 32 #[.slice none 0 0, .int .i64 s])
    have hl0I : (0 : Int) < (L.length : Int) := by omega
    have hw1s := hb1.size
    clear HTOT hb1 hb2 hs htv
    go_wp2_with fail
    go_loopw [0, 19] (fun u0 u19 wr => ∃ (p : Nat) (tv : Value) (T : List ByteArray), p ≤ TN ∧ u19 = .int .i64 p ∧ u0 = .slice (some ⟨bl, X.length, none⟩) L.length c ∧ Hid (∀ j, j < p → splA j (tpL L) = false) ∧ Hid (Blk wr w1.heap.size 32 #[tv, .int .i64 s]) ∧ Hid (wr.ownsRow w.heap.size 9 1 tv T.length (T.map .string)) ∧ Hid (strs T = (List.range p).map fun j => mrgT j (tpL L)) ∧ Hid (Below w.heap.size w wr)) (fun _ u19 _ => TN - (intOf u19).toNat)
    case atStart => exact ⟨0, _, [], Nat.zero_le _, rfl, rfl, keep (fun j hj => absurd hj (by omega)), HBT, keep (World.ownsRow_nil _ _ _ _), keep rfl, HB2⟩
    case round =>
      obtain ⟨p, tv, T, hp, rfl, rfl, hSp, hBt, hTo, hTs, hB⟩ := hrel
      obtain ⟨wo, rfl⟩ : ∃ wo : World, wo = wr := ⟨_, rfl⟩
      by_cases hlt : p < TN
      · have hpI : (p : Int) < (TN : Int) := by omega
        have hpJ : (p : Int) ≤ 60 := by omega
        have HA := keep (HATF.out p hlt wo hB.out)
        go_wp2_with fail
        refine HA.out.mono ?_
        rintro e w2 ⟨av, A, ws, rfl, hAo, hAt, hAW, hAE, hb2⟩
        have hAlen : A.length ≤ 100000 := by
          have h1 := (tpL_hd hAE hAt).1
          have h2 := hAW.perm.length_eq
          have h3 : (tksA p (tpL L)).length ≤ (tpL L).length := by
            unfold tksA
            exact Nat.le_trans (dd_len _) (by rw [List.length_map]; exact Nat.le_refl _)
          have h4 : (tpL L).length = L.length := by simp [tpL]
          omega
        have hSPL := splits_any av A p (tpL L) ws w2 wo.heap.size hAo hAt hAW hAE hAlen
        have HSPL := keep hSPL
        have HAO := keep hAo
        have HAT := keep hAt
        have HAW := keep hAW
        have HAE := keep hAE
        have HB2' := keep hb2
        clear hSPL hAo hAt hAW hAE hb2
        obtain ⟨AVA, AVC, rfl, _⟩ := own_sl HAO.out
        go_wp2_with fail
        refine HSPL.out.mono ?_
        rintro e w3 ⟨rfl, hb3⟩
        have HB3 := keep hb3
        clear hb3
        cases hsp : splA p (tpL L) with
        | true =>
          have HSP := keep hsp
          clear hsp
          have hb23 : Below wo.heap.size wo w3 := HB2'.out.trans (HB3.out.mono HB2'.out.size)
          have hb03 : Below w.heap.size w w3 := hB.out.trans (hb23.mono hB.out.size)
          have HFR3 : Hid (Fr bl bo ov w w3) := keep (Fr.of_below hb03)
          have HMID3 := keep (HMID.out.same (hb03.block _ HMID.out.inHeap))
          have HBO3 := keep (HBO.out.below hb03 HBO.out.lt)
          have HOV3 := keep (own_bel HOV.out hb03)
          have HOT3 : Hid (∀ t ∈ O, TkM w3 B t) := keep (fun t ht => ⟨own_bel (HO.out t ht).1 hb03, (HO.out t ht).2⟩)
          have HAO3 := keep (own_bel HAO.out HB3.out)
          have HAT3 : Hid (∀ t ∈ A, TkO w3 wo.heap.size t) := keep (fun t ht => (HAT.out t ht).up HB3.out)
          have HAG : Hid (∀ g, (Value.slice AVA A.length AVC).ownBlock = some g → ov.ownBlock ≠ some g) := keep (fun g hg e => by
            have h1 := (HAO.out.lt g hg).1
            have h2 := (HOV.out.lt g e).2
            have h3 := hB.out.size
            omega)
          clear hb23 hb03
          go_wp2_with fail
          go_loopw [0, 29] (fun u0 u29 wr => ∃ (m : Nat) (D M R : List Tm) (o c' : Nat) (ovr : Value), m ≤ A.length ∧ u29 = .int .i64 m ∧ u0 = .slice (some ⟨bl, o, none⟩) M.length c' ∧ M.length ≤ c' ∧ Hid (0 < M.length → o = (X ++ tms D).length) ∧ Hid ((D ++ M).Perm L) ∧ Hid (Mid wr bl (X ++ tms D) M Y) ∧ Hid ((tpL M).Perm (restA p (ws.take m) (tpL L))) ∧ Hid ((tpL R).Perm ((ws.take m).flatMap fun x => tplF TN f (partA p x (tpL L)))) ∧ Hid (R.length + M.length ≤ L.length) ∧ Hid (Blk wr bo 23 #[ovr]) ∧ Hid (wr.ownsRow B 32 2 ovr (O ++ R).length (tms (O ++ R))) ∧ Hid (∀ t ∈ O ++ R, TkM wr B t) ∧ Hid (Fr bl bo ov w wr) ∧ Hid (OvN w ov ovr) ∧ Hid (wr.ownsRow wo.heap.size 32 2 (.slice AVA A.length AVC) A.length (tms A)) ∧ Hid (∀ t ∈ A, TkO wr wo.heap.size t) ∧ Hid (∀ g, (Value.slice AVA A.length AVC).ownBlock = some g → ovr.ownBlock ≠ some g)) (fun _ u29 _ => A.length - (intOf u29).toNat)
          case atStart =>
            refine ⟨0, [], L, [], _, c, ov, Nat.zero_le _, rfl, rfl, hc, keep (fun _ => by simp [tms]), keep (List.Perm.refl _), keep ?_, keep ?_, keep (List.Perm.refl _), keep (by simp), HBO3, keep ?_, keep ?_, HFR3, keep (.inl rfl), HAO3, HAT3, HAG⟩
            · have h := HMID3.out
              simpa [tms] using h
            · rw [List.take_zero, rest_nil]
            · rw [List.append_nil]; exact HOV3.out
            · rw [List.append_nil]; exact HOT3.out
          case round =>
            obtain ⟨m, D, M, R, o, c', ovr, hma, rfl, rfl, hMc, hOo, hPm, hMidr, hRest, hRp, hLen, hBor, hOvr, hOr, hFrr, hOvn, hAor, hAtr, hAg⟩ := hrel
            obtain ⟨wq, rfl⟩ : ∃ wq : World, wq = wr := ⟨_, rfl⟩
            by_cases hlm : m < A.length
            · obtain ⟨b9, o9, hAo9, _, d0, d1⟩ := tm_cells (Sl.of_own hAor.out) hlm
              subst hAo9
              obtain ⟨zt, hzt, hzo⟩ := hAtr.out _ (List.getElem_mem hlm)
              have hwl := (tpL_hd HAE.out HAT.out).1
              have hwm : ws[m]? = some (lb zt) := by
                have hmw : m < ws.length := by omega
                have h := ((tpL_hd HAE.out HAT.out).2 m hlm hmw).1
                rw [List.getElem?_eq_getElem hmw, ← h]
                unfold hd1
                rw [hzt]
                rfl
              obtain ⟨gz, cz, hgz⟩ : ∃ g cap, A[m].tv = .slice (some ⟨g, 0, none⟩) 1 cap := by
                rcases hzo.2 with ⟨_, hz⟩ | ⟨g, cap, cur, hv, _⟩
                · omega
                · exact ⟨g, cap, hv⟩
              rw [hgz] at d0 hzo
              obtain ⟨ctm, hctm⟩ : ∃ x, x = A[m].ct := ⟨_, rfl⟩
              rw [← hctm] at d1
              have HZO := keep hzo
              have HWM := keep hwm
              have hmI : (m : Int) < (A.length : Int) := by omega
              have hmJ : (m : Int) ≤ 100000 := by omega
              have HBX8 := keep (Blk.new wq 32 #[.slice (some ⟨gz, 0, none⟩) 1 cz, .int .i64 ctm])
              have HMQ : Hid (Mid (wq.alloc (.cells #[.slice (some ⟨gz, 0, none⟩) 1 cz, .int .i64 ctm] 32)) bl (X ++ tms D) M Y) := keep (hMidr.out.same (((Below.refl _ wq).alloc (Nat.le_refl _) _).block _ hMidr.out.inHeap))
              clear hzo hwl hwm hctm hgz hzt
              go_wp2_with fail
              go_loopw [9, 35] (fun u9 u35 wr => ∃ (i k : Nat) (M' : List Tm), k ≤ M.length ∧ u9 = .int .i64 i ∧ u35 = .int .i64 k ∧ Hid (M'.Perm M) ∧ Hid (Part (fun t : Tm => decide (tkA p (strs t.tk, t.ct) = lb zt)) M' i k) ∧ Hid (Mid wr bl (X ++ tms D) M' Y) ∧ Hid ((wq.alloc (.cells #[.slice (some ⟨gz, 0, none⟩) 1 cz, .int .i64 ctm] 32)).grownBy wr (some bl))) (fun _ u35 _ => M.length - (intOf u35).toNat)
              case atStart => exact ⟨0, 0, M, Nat.zero_le _, rfl, rfl, keep (List.Perm.refl _), keep (Part.none _ _), HMQ, keep (World.grownBy.refl _ _)⟩
              case round =>
                obtain ⟨i, k, M', hk, rfl, rfl, hPm', hPart, hMd, hGr⟩ := hrel
                obtain ⟨wv, rfl⟩ : ∃ wv : World, wv = wr := ⟨_, rfl⟩
                have hlM := hPm'.out.length_eq
                have HTL : Hid (∀ t ∈ M', TkR oB wv t ∧ t.tk.length = TN ∧ t ∈ L) := keep (fun t ht => by
                  have h1 : t ∈ L := hPm.out.mem_iff.1 (List.mem_append_right _ (hPm'.out.mem_iff.1 ht))
                  have h2 := HL.out t h1
                  have h3 : TkR oB wq t := h2.1.fr hFrr.out HMID.out HBO.out HOV.out ho1 ho2 ho3
                  exact ⟨(h3.up ((Below.refl _ wq).alloc (Nat.le_refl _) _)).grown hGr.out (fun b hs e => blk_noStr (show Blk _ bl 32 _ from HMQ.out) (by decide) ho1 b hs (by injection e)), h2.2, h1⟩)
                have hin : i ≤ k := hPart.out.1
                by_cases hkm : k < M.length
                · have ho := hOo.out (by omega)
                  have hkM : k < M'.length := by omega
                  obtain ⟨x0, x1⟩ := hMd.out.cells hkM
                  rw [← ho] at x0 x1
                  obtain ⟨hT1, hT2, _⟩ := HTL.out _ (List.getElem_mem hkM)
                  obtain ⟨ya, yn, yc, hyv⟩ := hT1.form
                  have hT3 := hT1.1.str
                  have hq : decide (tkA p (strs M'[k].tk, M'[k].ct) = lb zt) = decide (tkA p (strs M'[k].tk, M'[k].ct) = lb zt) := rfl
                  rw [hyv] at x0 hT3
                  have hyn : yn = TN := by
                    obtain ⟨_, _, _, hv, _⟩ := hT3
                    rw [← hT2]
                    injection hv
                  subst hyn
                  have hpl : p < M'[k].tk.length := by rw [hT2]; exact hlt
                  rw [← hT2] at hT3
                  obtain ⟨sb, so, rfl, hsb, s0⟩ := str_at hT3 hpl
                  have hkI : (k : Int) < (M.length : Int) := by omega
                  have hkJ : (k : Int) ≤ 100000 := by have := hLen.out; omega
                  have htk : tkA p (strs M'[k].tk, M'[k].ct) = lb M'[k].tk[p] := tk_get hpl
                  have hbx8 := HBX8.out.grown hGr.out (fun e => by
                    have h1 := hMidr.out.inHeap
                    injection e with e
                    omega)
                  obtain ⟨b0, b1⟩ := hbx8.cell2
                  have hz1 := (own_bel HZO.out ((Below.refl _ wq).alloc (Nat.le_refl _) (.cells #[.slice (some ⟨gz, 0, none⟩) 1 cz, .int .i64 ctm] 32))).kept hGr.out (own_ne_blk (own_bel HZO.out ((Below.refl _ wq).alloc (Nat.le_refl _) _)) (show Blk _ bl 32 _ from HMQ.out) (by decide))
                  have b2 : wv.cell? ⟨gz, 0, none⟩ = some (.string zt) := (own_cell hz1 rfl 0 (by omega)).trans rfl
                  have HTK := keep htk
                  have HOO := keep ho
                  clear hq htk hbx8 hz1 ho
                  cases hq : (M'[k].tk[p].toList == zt.toList) with
                  | false =>
                    go_wp2_with fail
                    go_quiet (fail)
                    go_wp2_with fail
                    refine ⟨⟨i, k + 1, M', by omega, rfl, rfl, hPm', keep (hPart.out.skip hkM (by rw [HTK.out, ← beq_lb]; exact hq)), hMd, keep (grownBy_drewN hGr.out nq)⟩, ?_⟩
                    simp [intOf]; omega
                  | true =>
                    have hiM : i < M'.length := by omega
                    have hiI : (i : Int) < (M.length : Int) := by omega
                    have hiJ : (i : Int) ≤ 100000 := by omega
                    go_wp2_with fail
                    go_quiet (fail)
                    obtain ⟨wn, hwn⟩ : ∃ wn : World, wn = wv.drewN nq := ⟨_, rfl⟩
                    rw [← hwn]
                    have HMN : Hid (Mid wn bl (X ++ tms D) M' Y) := keep (by rw [hwn]; exact hMd.out)
                    have HGN : Hid ((wq.alloc (.cells #[.slice (some ⟨gz, 0, none⟩) 1 cz, .int .i64 ctm] 32)).grownBy wn (some bl)) := keep (by rw [hwn]; exact grownBy_drewN hGr.out nq)
                    clear hwn x0 x1 s0 b0 b1 b2
                    obtain ⟨x0, x1⟩ := HMN.out.cells hkM
                    obtain ⟨y0, y1⟩ := HMN.out.cells hiM
                    rw [← HOO.out] at x0 x1 y0 y1
                    obtain ⟨za, zn, zc, hzv⟩ := (HTL.out _ (List.getElem_mem hiM)).1.form
                    rw [hyv] at x0
                    rw [hzv] at y0
                    obtain ⟨cti, hcti⟩ : ∃ x, x = M'[i].ct := ⟨_, rfl⟩
                    obtain ⟨ctk, hctk⟩ : ∃ x, x = M'[k].ct := ⟨_, rfl⟩
                    rw [← hctk] at x1
                    rw [← hcti] at y1
                    have f0 := HMN.out.frozen (o + k * 2)
                    have f1 := HMN.out.frozen (o + k * 2 + 1)
                    have f2 := HMN.out.frozen (o + i * 2)
                    have f3 := HMN.out.frozen (o + i * 2 + 1)
                    have HM1 := keep ((show Mid wn.drew bl (X ++ tms D) M' Y from HMN.out).put hkM M'[i])
                    rw [← HOO.out, hzv, ← hcti] at HM1
                    have hiM1 : i < (M'.set k M'[i]).length := by rw [List.length_set]; exact hiM
                    have hge : (M'.set k M'[i])[i] = M'[i] := by
                      rw [List.getElem_set]
                      split <;> rfl
                    obtain ⟨z0, z1⟩ := HM1.out.cells hiM1
                    rw [← HOO.out, hge, hzv] at z0
                    rw [← HOO.out, hge, ← hcti] at z1
                    have g2 := HM1.out.frozen (o + i * 2)
                    have g3 := HM1.out.frozen (o + i * 2 + 1)
                    have HM2 := keep (HM1.out.put hiM1 M'[k])
                    rw [← HOO.out, hyv, ← hctk] at HM2
                    have HYV := keep hyv
                    have HZV := keep hzv
                    have HCI := keep hcti
                    have HCK := keep hctk
                    have z0w : (wn.setCell ⟨bl, o + k * 2, none⟩ (.slice za zn zc)).cell? ⟨bl, o + i * 2, none⟩ = some (.slice za zn zc) := by
                      have h : ((wn.setCell ⟨bl, o + k * 2, none⟩ (.slice za zn zc)).setCell ⟨bl, o + k * 2 + 1, none⟩ (.int .i64 cti)).cell? ⟨bl, o + i * 2, none⟩ = some (.slice za zn zc) := z0
                      exact (World.cell?_setCell_other _ ⟨bl, o + k * 2 + 1, none⟩ ⟨bl, o + i * 2, none⟩ _ (by intro e; injection e with _ e; omega)).symm.trans h
                    have z1w : ((wn.setCell ⟨bl, o + k * 2, none⟩ (.slice za zn zc)).setCell ⟨bl, o + k * 2 + 1, none⟩ (.int .i64 cti)).cell? ⟨bl, o + i * 2 + 1, none⟩ = some (.int .i64 cti) := z1
                    clear hyv hzv hcti hctk hge
                    go_wp2_with fail
                    go_region
                    go_wp2_with fail
                    refine ⟨⟨i + 1, k + 1, (M'.set k M'[i]).set i M'[k], by omega, rfl, rfl, keep ((swap_perm hiM hkM).trans hPm'.out), keep (hPart.out.swap hkM (by rw [HTK.out, ← beq_lb]; exact hq)), HM2, keep (grownBy_drew (grownBy_set (grownBy_set (grownBy_set (grownBy_set HGN.out _ _) _ _) _ _) _ _))⟩, ?_⟩
                    simp [intOf]; omega
                · obtain rfl : k = M.length := by omega
                  have HDONE := keep ((show Part _ M' i M'.length by rw [hlM]; exact hPart.out).done)
                  have hiM : i ≤ M'.length := by omega
                  have hwl := (tpL_hd HAE.out HAT.out).1
                  have hmw : m < ws.length := by omega
                  have hwz : ws[m] = lb zt := by
                    have h := HWM.out
                    rw [List.getElem?_eq_getElem hmw] at h
                    exact Option.some.inj h
                  have hnot : lb zt ∉ ws.take m := by
                    intro hin
                    obtain ⟨j, hj, e⟩ := List.getElem_of_mem hin
                    rw [List.length_take] at hj
                    rw [List.getElem_take] at e
                    exact List.pairwise_iff_getElem.1 HAW.out.nodup j m (by omega) hmw (by omega) (e.trans hwz.symm)
                  have htake : ws.take (m + 1) = ws.take m ++ [lb zt] := by rw [List.take_succ_eq_append_getElem hmw, hwz]
                  have hmemw : lb zt ∈ tksA p (tpL L) := HAW.out.perm.mem_iff.1 (hwz ▸ List.getElem_mem hmw)
                  have hPT : (tpL (M'.take i)).Perm (partA p (lb zt) (tpL L)) := by
                    rw [HDONE.out.1, tpL_part]
                    exact ((hPm'.out.map _).filter _).trans (rest_part hRest.out hnot)
                  have hRS : (tpL (M'.drop i)).Perm (restA p (ws.take (m + 1)) (tpL L)) := by
                    rw [HDONE.out.2, tpL_rest, htake]
                    exact ((hPm'.out.map _).filter _).trans (rest_rest hRest.out)
                  have hil : (M'.take i).length = i := by rw [List.length_take]; omega
                  have hiL : i < L.length := by
                    have h := hPT.length_eq
                    have h2 := part_lt HSP.out hmemw
                    have h3 : (tpL (M'.take i)).length = i := by rw [tpL, List.length_map, hil]
                    have h4 : (tpL L).length = L.length := by rw [tpL, List.length_map]
                    omega
                  have hne9 : M'.take i ≠ [] := by
                    intro e
                    have h := hPT.length_eq
                    rw [e] at h
                    exact part_ne hmemw (List.eq_nil_of_length_eq_zero h.symm)
                  have hi0 : 0 < i := by
                    rw [← hil]
                    exact List.length_pos_iff.2 hne9
                  have ho := hOo.out (by omega)
                  have HGQ : Hid (wq.grownBy wv (some bl)) := keep (grownBy_trans (grownBy_of_below ((Below.refl _ wq).alloc (Nat.le_refl _) _) (some bl)) hGr.out)
                  have hMq : Blk wq bl 32 _ := hMidr.out
                  have hbmq := hFrr.out.block bm HBM.out.lt (blk_ne HBM.out (show Blk w bl 32 _ from HMID.out) (by decide)) (blk_ne HBM.out HBO.out (by decide)) (fun e => (own_ne_blk HOV.out HBM.out (by decide)).elim (fun h => by rw [h] at e; cases e) (fun h => h e.symm))
                  have HBMv : Hid (Blk wv bm 81 #[.func (.func 72) #[] #[.pointer (some ⟨bm, 0, none⟩), .pointer (some ⟨bo, 0, none⟩)]]) := keep ((show Blk wq bm _ _ from hbmq.trans HBM.out).grown HGQ.out (fun e => blk_ne HBM.out (show Blk w bl 32 _ from HMID.out) (by decide) (by injection e)))
                  have HBOv : Hid (Blk wv bo 23 #[ovr]) := keep (hBor.out.grown HGQ.out (fun e => blk_ne hBor.out hMq (by decide) (by injection e)))
                  have hdisr : ovr.ownBlock ≠ some bl := by
                    intro e
                    rcases hOvn.out with h | h
                    · exact hdis (h ▸ e)
                    · have h1 := h bl e
                      have h2 := HMID.out.inHeap
                      omega
                  have HOVv : Hid (wv.ownsRow B 32 2 ovr (O ++ R).length (tms (O ++ R))) := keep (hOvr.out.kept HGQ.out (.inr hdisr))
                  have HTKv : Hid (∀ t ∈ O ++ R, TkM wv B t) := keep (fun t ht => ⟨(hOr.out t ht).1.kept HGQ.out (own_ne_blk (hOr.out t ht).1 hMq (by decide)), (hOr.out t ht).2⟩)
                  have hblo : bl < wo.heap.size := by
                    have h1 := HMID.out.inHeap
                    have h2 := hB.out.size
                    omega
                  have HAOv : Hid (wv.ownsRow wo.heap.size 32 2 (.slice (some ⟨b9, o9, none⟩) A.length AVC) A.length (tms A)) := keep (own_grown hAor.out HGQ.out hblo)
                  have HATv : Hid (∀ t ∈ A, TkO wv wo.heap.size t) := keep (fun t ht => by
                    obtain ⟨b, h1, h2⟩ := hAtr.out t ht
                    exact ⟨b, h1, own_grown h2 HGQ.out hblo⟩)
                  have HPRE : Hid (MinePre oB bl bo bm B TN (X ++ tms D) (M'.take i) (tms (M'.drop i) ++ Y) ovr (O ++ R) wv.drew) := keep ⟨Mid.left.1 (by rw [List.take_append_drop]; exact hMd.out), HBOv.out, HBMv.out, HOVv.out, HTKv.out, fun t ht => ⟨(HTL.out t (List.mem_of_mem_take ht)).1, (HTL.out t (List.mem_of_mem_take ht)).2.1⟩, hdisr, Nat.le_trans hBw (Nat.le_trans hFrr.out.size HGQ.out.size)⟩
                  have hcall := HIH.out (M'.take i) (X ++ tms D) (tms (M'.drop i) ++ Y) ovr (O ++ R) c' wv.drew HPRE.out hne9 (by omega) (fun t ht => HCT.out t (HTL.out t (List.mem_of_mem_take ht)).2.2) (by omega) (by have := hLen.out; rw [List.length_append]; omega)
                  rw [hil, ← ho] at hcall
                  have HCALL := keep hcall
                  have HPT := keep hPT
                  have HRS := keep hRS
                  have HTAKE := keep htake
                  have HOO := keep ho
                  have HIL := keep hil
                  have hiI : (i : Int) ≤ (c' : Int) := by omega
                  have hiJ : (i : Int) ≤ (M.length : Int) := by omega
                  have hiC : i ≤ c' := by omega
                  have hiM2 : i ≤ M.length := by omega
                  have x0 : wv.cell? ⟨bm, 0, none⟩ = some (.func (.func 72) #[] #[.pointer (some ⟨bm, 0, none⟩), .pointer (some ⟨bo, 0, none⟩)]) := (HBMv.out.cell 0).trans rfl
                  have hszq := HGQ.out.size
                  clear hcall hPT hRS htake ho hwl hwz hnot hmemw hne9 hMq hbmq hil
                  go_wp2_with fail
                  refine wp_region_still_tail 4 (by kernel_rfl) (by kernel_rfl) ?_
                  simp only [List.take_succ_cons, List.take_zero, List.drop_succ_cons, List.drop_zero]
                  iterate 4 still_step
                  refine wpStill_nil ?_
                  change wpList _ _ _ _ _ wv.drew
                  go_wp2_with fail
                  refine HCALL.out.mono ?_
                  rintro e w9 ⟨rfl, L9, R9, ov9, hP9, hM9, hB9, hO9, hT9, hR9, hl9, hF9, hN9⟩
                  have hlen9 : (M'.drop i).length = M.length - i := by rw [List.length_drop]; omega
                  have HP9 := keep hP9
                  have HM9 : Hid (Mid w9 bl (X ++ tms (D ++ L9)) (M'.drop i) Y) := keep (by
                    have h := Mid.right.1 (Mid.left.2 hM9)
                    rwa [List.append_assoc, ← tms_append] at h)
                  have HPD : Hid ((D ++ L9 ++ M'.drop i).Perm L) := keep (by
                    refine List.Perm.trans ?_ hPm.out
                    rw [List.append_assoc]
                    refine List.Perm.append_left D ?_
                    refine ((hP9.append_right _).trans ?_).trans hPm'.out
                    rw [List.take_append_drop])
                  have HR9 : Hid ((tpL (R ++ R9)).Perm ((ws.take (m + 1)).flatMap fun x => tplF TN f (partA p x (tpL L)))) := keep (by
                    rw [HTAKE.out, List.flatMap_append]
                    unfold tpL
                    rw [List.map_append]
                    refine hRp.out.append (hR9.trans ?_)
                    simp only [List.flatMap_cons, List.flatMap_nil, List.append_nil]
                    refine Eqv.tpl TN f (Eqv.of_perm (fun t ht => ?_) HPT.out)
                    obtain ⟨u, hu, rfl⟩ := List.mem_map.1 ht
                    exact (HCT.out u (HTL.out u (List.mem_of_mem_take hu)).2.2).1)
                  have HL9 : Hid ((R ++ R9).length + (M'.drop i).length ≤ L.length) := keep (by
                    have h1 := hLen.out
                    have h2 := HIL.out
                    rw [List.length_append, hlen9]
                    omega)
                  have hfr9 : Fr bl bo ovr wq w9 := (Fr.of_grown (ov := ovr) HGQ.out).trans ⟨hF9.os, hF9.tape, hF9.output, hF9.size, hF9.block⟩ (.inl rfl)
                  have HF9 : Hid (Fr bl bo ov w w9) := keep (hFrr.out.trans hfr9 hOvn.out)
                  have HN9 : Hid (OvN w ov ov9) := keep (hOvn.out.trans (show OvN wq ovr ov9 from hN9.imp id fun h g hg => Nat.le_trans hszq (h g hg)) hFrr.out.size)
                  have hsz9 := hfr9.size
                  have hAne : ∀ g, (Value.slice (some ⟨b9, o9, none⟩) A.length AVC).ownBlock = some g → g ≠ bl ∧ g ≠ bo ∧ some g ≠ ovr.ownBlock := fun g hg => by
                    have h1 := (hAor.out.lt g hg).1
                    have h2 := HBO.out.lt
                    have h3 := hB.out.size
                    exact ⟨by omega, by omega, fun e => hAg.out g hg e.symm⟩
                  have HAO9 : Hid (w9.ownsRow wo.heap.size 32 2 (.slice (some ⟨b9, o9, none⟩) A.length AVC) A.length (tms A)) := keep (hfr9.own hAor.out hAne)
                  have HAT9 : Hid (∀ t ∈ A, TkO w9 wo.heap.size t) := keep (fun t ht => by
                    obtain ⟨b, h1, h2⟩ := hAtr.out t ht
                    refine ⟨b, h1, hfr9.own h2 fun g hg => ?_⟩
                    have h3 := (h2.lt g hg).1
                    have h4 := HBO.out.lt
                    have h5 := hB.out.size
                    exact ⟨by omega, by omega, fun e => (own_part h2 hOvr.out (by decide)).elim (fun h => by rw [h] at hg; cases hg) (fun h => h (hg.trans e))⟩)
                  have HAG9 : Hid (∀ g, (Value.slice (some ⟨b9, o9, none⟩) A.length AVC).ownBlock = some g → ov9.ownBlock ≠ some g) := keep (fun g hg e => by
                    rcases hN9 with h | h
                    · exact hAg.out g hg (h.symm.trans e)
                    · have h1 := h g e
                      have h2 := (hAor.out.lt g hg).2
                      have h3 : wv.drew.heap.size = wv.heap.size := rfl
                      omega)
                  have HB9 := keep hB9
                  have HO9 := keep hO9
                  have HT9 := keep hT9
                  have HDL : Hid ((X ++ tms (D ++ L9)).length = o + i * 2) := keep (by
                    have h1 := hP9.length_eq
                    rw [HIL.out] at h1
                    rw [tms_append, ← List.append_assoc, List.length_append, ← HOO.out, tms_len, h1])
                  clear hP9 hM9 hB9 hO9 hT9 hR9 hl9 hF9 hN9 hfr9 hAne x0
                  go_wp2_with fail
                  refine ⟨⟨m + 1, D ++ L9, M'.drop i, R ++ R9, if c' = i then o else o + i * 2, c' - i, ov9, by omega, rfl, ?_, by omega, keep ?_, HPD, HM9, HRS, HR9, HL9, HB9, keep ?_, keep ?_, HF9, HN9, HAO9, HAT9, HAG9⟩, ?_⟩
                  · rw [hlen9]
                    split <;> rfl
                  · intro h
                    rw [if_neg (by omega)]
                    exact HDL.out.symm
                  · rw [← List.append_assoc]
                    exact HO9.out
                  · rw [← List.append_assoc]
                    exact HT9.out
                  · simp [intOf]
                    omega
            · obtain rfl : m = A.length := by omega
              have hM0 : M = [] := by
                have hwl := (tpL_hd HAE.out HAT.out).1
                have h1 : restA p (ws.take A.length) (tpL L) = [] := by
                  rw [hwl, List.take_length]
                  unfold restA
                  rw [List.filter_eq_nil_iff]
                  intro t ht
                  simp only [decide_eq_true_eq, Classical.not_not]
                  exact (HAW.out.2 _).2 (List.mem_map.2 ⟨t, ht, rfl⟩)
                have h2 := hRest.out.length_eq
                rw [h1] at h2
                simp only [tpL, List.length_map, List.length_nil] at h2
                exact List.eq_nil_of_length_eq_zero h2
              subst hM0
              have HEND : Hid ((tpL R).Perm (tplF TN (f + 1) (tpL L))) := keep (by
                have hwl := (tpL_hd HAE.out HAT.out).1
                have h1 := hRp.out
                rw [hwl, List.take_length] at h1
                unfold tplF
                rw [posA_some hSp.out hlt HSP.out]
                exact h1.trans (perm_flatMap HAW.out.perm fun _ _ => List.Perm.refl _))
              have HMD : Hid (Mid wq bl X D Y) := keep (by
                have h := Mid.right.2 hMidr.out
                rwa [List.append_nil] at h)
              have HPD : Hid (D.Perm L) := keep (by have h := hPm.out; rwa [List.append_nil] at h)
              have HRL : Hid (R.length ≤ L.length) := keep (by have h := hLen.out; simp only [List.length_nil] at h; omega)
              go_wp2_with fail
              refine bodyPost_ret (results_none rfl _ _ _) rfl ?_
              exact ⟨rfl, D, R, ovr, HPD.out, HMD.out, hBor.out, hOvr.out, hOr.out, HEND.out, HRL.out, hFrr.out, hOvn.out⟩
        | false =>
          have HSP := keep hsp
          clear hsp
          obtain ⟨hAl, hAh⟩ := tpL_hd HAE.out HAT.out
          have hA0 : 0 < A.length := by
            rw [hAl]
            obtain ⟨t0, ht0⟩ := List.exists_mem_of_ne_nil L hne
            have h := (HAW.out.2 (tkA p (strs t0.tk, t0.ct))).2 (List.mem_map.2 ⟨_, List.mem_map.2 ⟨t0, ht0, rfl⟩, rfl⟩)
            exact List.length_pos_of_mem h
          obtain ⟨b0, hb0, hrow0⟩ := HAT.out _ (List.getElem_mem hA0)
          have hA0I : (0 : Int) < (A.length : Int) := by omega
          have HB03 := keep (hB.out.trans ((HB2'.out.trans (HB3.out.mono HB2'.out.size)).mono hB.out.size))
          have hb23 : Below wo.heap.size wo w3 := HB2'.out.trans (HB3.out.mono HB2'.out.size)
          obtain ⟨TVA, TVC, rfl, _⟩ := own_sl hTo.out
          have HBX3 := keep (hBt.out.below hb23 hBt.out.lt)
          have HT3 := keep (own_bel hTo.out hb23)
          have hA3 := own_bel HAO.out HB3.out
          obtain ⟨gA, cA, hgA⟩ : ∃ g cap, Value.slice AVA A.length AVC = .slice (some ⟨g, 0, none⟩) A.length cap := by
            rcases hA3.2 with ⟨_, hz⟩ | ⟨g, cap, cur, hv, _⟩
            · omega
            · exact ⟨g, cap, hv⟩
          injection hgA with hgA _ hcA
          subst hgA
          subst hcA
          have hk3 := own_bel hrow0 HB3.out
          obtain ⟨gk, ck, hgk⟩ : ∃ g cap, A[0].tv = .slice (some ⟨g, 0, none⟩) 1 cap := by
            rcases hk3.2 with ⟨_, hz⟩ | ⟨g, cap, cur, hv, _⟩
            · omega
            · exact ⟨g, cap, hv⟩
          have hcA3 : w3.cell? ⟨gA, 0, none⟩ = some (.slice (some ⟨gk, 0, none⟩) 1 ck) := by
            have h : w3.cell? ⟨gA, 0, none⟩ = some A[0].tv := (own_cell hA3 rfl 0 (by omega)).trans ((tms_at A 0 hA0 0 (by omega)).trans rfl)
            rw [hgk] at h
            exact h
          rw [hgk] at hk3
          have hck3 : w3.cell? ⟨gk, 0, none⟩ = some (.string b0) := (own_cell hk3 rfl 0 (by omega)).trans rfl
          by_cases hmany : 1 < A.length
          · have hmI : (1 : Int) < (A.length : Int) := by omega
            have hpp : (p : Int) + 1 ≤ 61 := by omega
            have f3 : w3.frozen? ⟨gk, 0, none⟩ = false := own_frozen hk3 rfl 0
            obtain ⟨w4, hw4⟩ : ∃ w4, w4 = w3.setCell ⟨gk, 0, none⟩ (.string ⟨#[]⟩) := ⟨_, rfl⟩
            have hkb := (hk3.lt gk rfl).1
            have g34 : w3.grownBy w4 (some gk) := by rw [hw4]; exact grownBy_set (World.grownBy.refl w3 (some gk)) _ _
            have hst4 : w4.ownsRow wo.heap.size 9 1 (.slice (some ⟨gk, 0, none⟩) 1 ck) 1 [.string ⟨#[]⟩] := by rw [hw4]; exact own_store hk3 rfl 0 (.string ⟨#[]⟩)
            have hck : w4.cell? ⟨gk, 0, none⟩ = some (.string ⟨#[]⟩) := (own_cell hst4 rfl 0 (by omega)).trans rfl
            have hbx : Blk w4 w1.heap.size 32 #[.slice TVA T.length TVC, .int .i64 s] := (g34.block _ (Blk.lt HBX3.out) (fun e => (own_ne_blk hk3 HBX3.out (by decide)).elim (fun h => by cases h) (fun h => h e.symm))).trans HBX3.out
            have hBw4 : Below w.heap.size w w4 := below_grown HB03.out g34 HB03.out.size (Nat.le_trans hB.out.size hkb)
            have hTw : w4.ownsRow w.heap.size 9 1 (.slice TVA T.length TVC) T.length (T.map .string) := HT3.out.kept g34 (.inr fun e => by have := (hTo.out.lt gk e).2; omega)
            have hcA : w4.cell? ⟨gA, 0, none⟩ = some (.slice (some ⟨gk, 0, none⟩) 1 ck) := (World.cell?_of_block (g34.block gA (hA3.lt gA rfl).2 (fun e => (own_part hA3 hk3 (by decide)).elim (fun h => by cases h) (fun h => h e)))).trans hcA3
            have hmt : mrgT p (tpL L) = lb ⟨#[]⟩ := by
              rw [mrg_law HAW.out, oneW_many (by omega)]
            have HW4 := keep hw4
            have HQA := keep hcA
            have HQK := keep hck
            clear hw4 g34 hst4 hAl hk3 hrow0 hb0 hA3 hAh hgk hcA hck
            go_wp2_with fail
            rw [← HW4.out]
            have hcA := HQA.out
            have hck := HQK.out
            have q0 : w4.drew.cell? ⟨w1.heap.size, 0, none⟩ = some (.slice TVA T.length TVC) := (Blk.cell hbx 0).trans rfl
            have q1 : w4.drew.cell? ⟨gA, 0, none⟩ = some (.slice (some ⟨gk, 0, none⟩) 1 ck) := hcA
            have q2 : w4.drew.cell? ⟨gk, 0, none⟩ = some (.string ⟨#[]⟩) := hck
            have hTown : w4.drew.ownsRow w.heap.size 9 1 (.slice TVA T.length TVC) T.length (T.map .string) := hTw
            have hWsz : w.heap.size ≤ w4.drew.heap.size := hBw4.size
            have hTle : T.length ≤ 60 := by
              have h := congrArg List.length hTs.out
              simp [strs] at h
              omega
            have HTW := keep hTown
            have HBX := keep hbx
            have HBW3 := keep hBw4
            have HMT := keep hmt
            clear hTown hbx hBw4 hmt hcA hck hTw
            have hal : Below w4.drew.heap.size w4.drew (w4.drew.alloc (.cells #[.string ⟨#[]⟩] 9)) := (Below.refl _ _).alloc (Nat.le_refl _) _
            have HTW2 := keep (own_bel HTW.out hal)
            have HSRC : Hid (Sl (w4.drew.alloc (.cells #[.string ⟨#[]⟩] 9)) (fun b => b = w4.heap.size) 1 (.slice (some ⟨w4.heap.size, 0, none⟩) 1 1) 1 [.string ⟨#[]⟩]) := keep ⟨rfl, _, _, rfl, Nat.le_refl _, fun _ => ⟨_, 0, rfl, rfl, fun j u hu => by rw [Nat.zero_add]; exact (Blk.cell (Blk.new w4.drew 9 #[.string ⟨#[]⟩]) j).trans (by simpa using hu)⟩⟩
            have HONE : Hid (∀ u ∈ [Value.string ⟨#[]⟩], u.oneCell' = true) := keep (by intro u hu; rw [List.mem_singleton.1 hu]; rfl)
            have HLA : Hid (T.length + 1 ≤ maxLen) := keep (by unfold maxLen; omega)
            have HLB : Hid ((T.length + 1) * 16 ≤ 140737488355328) := keep (by omega)
            have HWS := keep (Nat.le_trans hWsz hal.size)
            have HAL := keep hal
            have HBXA := keep ((show Blk w4.drew w1.heap.size 32 #[.slice TVA T.length TVC, .int .i64 s] from HBX.out).below hal (Blk.lt HBX.out))
            have HBWA := keep (HBW3.out.drew.trans (hal.mono HBW3.out.size))
            have q0a : (w4.alloc (.cells #[.string ⟨#[]⟩] 9)).drew.cell? ⟨w1.heap.size, 0, none⟩ = some (.slice TVA T.length TVC) := (Blk.cell HBXA.out 0).trans rfl
            clear hal
            go_region_law (first
              | (refine step_appendS elSg ?_ (.tmp 86) (.tmp 93) ?_ w.heap.size (.slice TVA T.length TVC) T.length (T.map .string) ?_ HTW2.out _ (.slice (some ⟨w4.heap.size, 0, none⟩) 1 1) 1 [.string ⟨#[]⟩] ?_ HSRC.out HONE.out HLA.out HLB.out HWS.out ?_
                 · rfl
                 · rfl
                 · rfl
                 · rfl
                 intro v9 w9 hown9 hb9 hg9
                 obtain ⟨A9, C9, rfl, _⟩ := own_sl hown9
                 have hbx9 : Blk w9 w1.heap.size 32 #[.slice TVA T.length TVC, .int .i64 s] := (hg9.block _ (Blk.lt HBXA.out) (fun e => (own_ne_blk HTW2.out HBXA.out (by decide)).elim (fun h => by rw [h] at e; cases e) (fun h => h e.symm))).trans HBXA.out
                 have r0 : w9.cell? ⟨w1.heap.size, 0, none⟩ = some (.slice TVA T.length TVC) := (Blk.cell hbx9 0).trans rfl
                 have rf := frozen_of_row w9 w1.heap.size 0 _ _ hbx9
                 have HOWN9 := keep hown9
                 have HB9 := keep hb9
                 have HBX9 := keep hbx9
                 clear hown9 hb9 hg9 hbx9)
              | fail)
            all_goals
              have hst : w9.grownBy (w9.setCell ⟨w1.heap.size, 0, none⟩ (.slice A9 (T.length + 1) C9)) (some w1.heap.size) := grownBy_set (World.grownBy.refl w9 (some w1.heap.size)) _ _
              have HW10 := keep (HOWN9.out.kept hst (own_ne_blk HOWN9.out HBX9.out (by decide)))
              have HX10 : Hid (Blk (w9.setCell ⟨w1.heap.size, 0, none⟩ (.slice A9 (T.length + 1) C9)) w1.heap.size 32 #[.slice A9 (T.length + 1) C9, .int .i64 s]) := keep (heap_setCell_same w9 w1.heap.size 0 _ _ _ HBX9.out)
              have HB10 := keep (below_grown (HBWA.out.trans HB9.out) hst (HBWA.out.trans HB9.out).size hw1s)
              clear hst
              go_wp2_with fail
              refine ⟨⟨p + 1, _, T ++ [⟨#[]⟩], by omega, rfl, rfl, keep ?_, HX10, keep ?_, keep ?_, HB10⟩, ?_⟩
              · intro j hj
                by_cases e : j = p
                · rw [e]; exact HSP.out
                · exact hSp.out j (by omega)
              · rw [List.length_append, List.map_append]
                exact HW10.out
              · rw [List.range_succ, List.map_append, ← hTs.out]
                simp only [strs, List.map_append, List.map_cons, List.map_nil]
                rw [HMT.out]
              · simp [intOf]; omega
          · have hmI : ¬ (1 : Int) < (A.length : Int) := by omega
            have hpp : (p : Int) + 1 ≤ 61 := by omega
            have hbx : Blk w3 w1.heap.size 32 #[.slice TVA T.length TVC, .int .i64 s] := HBX3.out
            have hBw3 : Below w.heap.size w w3 := HB03.out
            have hTw : w3.ownsRow w.heap.size 9 1 (.slice TVA T.length TVC) T.length (T.map .string) := HT3.out
            have hcA : w3.cell? ⟨gA, 0, none⟩ = some (.slice (some ⟨gk, 0, none⟩) 1 ck) := hcA3
            have hck : w3.cell? ⟨gk, 0, none⟩ = some (.string b0) := hck3
            have hmt : mrgT p (tpL L) = lb b0 := by
              rw [mrg_law HAW.out]
              have h1 : ws.length = 1 := by omega
              match ws, h1, hAh with
              | [x], _, hAh => 
                have h2 := (hAh 0 hA0 (by simp)).1
                simp only [List.getElem_cons_zero] at h2
                unfold oneW
                rw [← h2]
                unfold hd1
                rw [hb0]
                rfl
            clear hAl hk3 hrow0 hb0 hA3 hAh hgk
            go_wp2_with fail
            have q0 : w3.drew.cell? ⟨w1.heap.size, 0, none⟩ = some (.slice TVA T.length TVC) := (Blk.cell hbx 0).trans rfl
            have q1 : w3.drew.cell? ⟨gA, 0, none⟩ = some (.slice (some ⟨gk, 0, none⟩) 1 ck) := hcA
            have q2 : w3.drew.cell? ⟨gk, 0, none⟩ = some (.string b0) := hck
            have hTown : w3.drew.ownsRow w.heap.size 9 1 (.slice TVA T.length TVC) T.length (T.map .string) := hTw
            have hWsz : w.heap.size ≤ w3.drew.heap.size := hBw3.size
            have hTle : T.length ≤ 60 := by
              have h := congrArg List.length hTs.out
              simp [strs] at h
              omega
            have HTW := keep hTown
            have HBX := keep hbx
            have HBW3 := keep hBw3
            have HMT := keep hmt
            clear hTown hbx hBw3 hmt hcA hck hTw
            have hal : Below w3.drew.heap.size w3.drew (w3.drew.alloc (.cells #[.string b0] 9)) := (Below.refl _ _).alloc (Nat.le_refl _) _
            have HTW2 := keep (own_bel HTW.out hal)
            have HSRC : Hid (Sl (w3.drew.alloc (.cells #[.string b0] 9)) (fun b => b = w3.heap.size) 1 (.slice (some ⟨w3.heap.size, 0, none⟩) 1 1) 1 [.string b0]) := keep ⟨rfl, _, _, rfl, Nat.le_refl _, fun _ => ⟨_, 0, rfl, rfl, fun j u hu => by rw [Nat.zero_add]; exact (Blk.cell (Blk.new w3.drew 9 #[.string b0]) j).trans (by simpa using hu)⟩⟩
            have HONE : Hid (∀ u ∈ [Value.string b0], u.oneCell' = true) := keep (by intro u hu; rw [List.mem_singleton.1 hu]; rfl)
            have HLA : Hid (T.length + 1 ≤ maxLen) := keep (by unfold maxLen; omega)
            have HLB : Hid ((T.length + 1) * 16 ≤ 140737488355328) := keep (by omega)
            have HWS := keep (Nat.le_trans hWsz hal.size)
            have HAL := keep hal
            have HBXA := keep ((show Blk w3.drew w1.heap.size 32 #[.slice TVA T.length TVC, .int .i64 s] from HBX.out).below hal (Blk.lt HBX.out))
            have HBWA := keep (HBW3.out.drew.trans (hal.mono HBW3.out.size))
            have q0a : (w3.alloc (.cells #[.string b0] 9)).drew.cell? ⟨w1.heap.size, 0, none⟩ = some (.slice TVA T.length TVC) := (Blk.cell HBXA.out 0).trans rfl
            clear hal
            go_region_law (first
              | (refine step_appendS elSg ?_ (.tmp 86) (.tmp 93) ?_ w.heap.size (.slice TVA T.length TVC) T.length (T.map .string) ?_ HTW2.out _ (.slice (some ⟨w3.heap.size, 0, none⟩) 1 1) 1 [.string b0] ?_ HSRC.out HONE.out HLA.out HLB.out HWS.out ?_
                 · rfl
                 · rfl
                 · rfl
                 · rfl
                 intro v9 w9 hown9 hb9 hg9
                 obtain ⟨A9, C9, rfl, _⟩ := own_sl hown9
                 have hbx9 : Blk w9 w1.heap.size 32 #[.slice TVA T.length TVC, .int .i64 s] := (hg9.block _ (Blk.lt HBXA.out) (fun e => (own_ne_blk HTW2.out HBXA.out (by decide)).elim (fun h => by rw [h] at e; cases e) (fun h => h e.symm))).trans HBXA.out
                 have r0 : w9.cell? ⟨w1.heap.size, 0, none⟩ = some (.slice TVA T.length TVC) := (Blk.cell hbx9 0).trans rfl
                 have rf := frozen_of_row w9 w1.heap.size 0 _ _ hbx9
                 have HOWN9 := keep hown9
                 have HB9 := keep hb9
                 have HBX9 := keep hbx9
                 clear hown9 hb9 hg9 hbx9)
              | fail)
            all_goals
              have hst : w9.grownBy (w9.setCell ⟨w1.heap.size, 0, none⟩ (.slice A9 (T.length + 1) C9)) (some w1.heap.size) := grownBy_set (World.grownBy.refl w9 (some w1.heap.size)) _ _
              have HW10 := keep (HOWN9.out.kept hst (own_ne_blk HOWN9.out HBX9.out (by decide)))
              have HX10 : Hid (Blk (w9.setCell ⟨w1.heap.size, 0, none⟩ (.slice A9 (T.length + 1) C9)) w1.heap.size 32 #[.slice A9 (T.length + 1) C9, .int .i64 s]) := keep (heap_setCell_same w9 w1.heap.size 0 _ _ _ HBX9.out)
              have HB10 := keep (below_grown (HBWA.out.trans HB9.out) hst (HBWA.out.trans HB9.out).size hw1s)
              clear hst
              go_wp2_with fail
              refine ⟨⟨p + 1, _, T ++ [b0], by omega, rfl, rfl, keep ?_, HX10, keep ?_, keep ?_, HB10⟩, ?_⟩
              · intro j hj
                by_cases e : j = p
                · rw [e]; exact HSP.out
                · exact hSp.out j (by omega)
              · rw [List.length_append, List.map_append]
                exact HW10.out
              · rw [List.range_succ, List.map_append, ← hTs.out]
                simp only [strs, List.map_append, List.map_cons, List.map_nil]
                rw [HMT.out]
              · simp [intOf]; omega
      · obtain rfl : p = TN := by omega
        obtain ⟨wo, rfl⟩ : ∃ w3, w3 = wo := ⟨_, rfl⟩
        have e0 : wo.cell? ⟨bo, 0, none⟩ = some ov := ((HBO.out.below hB.out HBO.out.lt).cell 0).trans rfl
        have f0 : wo.frozen? ⟨bo, 0, none⟩ = false := frozen_of_row wo bo 0 _ _ (HBO.out.below hB.out HBO.out.lt)
        obtain ⟨d0, d1⟩ := hBt.out.cell2
        obtain ⟨TVA, TVC, rfl, _⟩ := own_sl hTo.out
        obtain ⟨OVA, OVC, rfl, _⟩ := own_sl HOV.out
        have hob := HBO.out.below hB.out HBO.out.lt
        have ho1 := own_bel HOV.out hB.out
        have hx1 : ∀ c ∈ (Value.agg #[.slice TVA T.length TVC, .int .i64 s]).cells.toList, c.oneCell' = true := by
          intro c hc
          simp [Value.cells] at hc
          rcases hc with rfl | rfl <;> rfl
        have HBOW := keep hob
        have HO1 := keep ho1
        have HX1 := keep hx1
        have hBB : B ≤ wo.heap.size := Nat.le_trans hBw hB.out.size
        clear hob ho1 hx1
        go_wp2_with (refine wpList_push elTm rfl rfl (.tmp 98) (.tmp 97) 99 rfl rfl rfl B (.slice OVA O.length OVC) (.agg #[.slice TVA T.length TVC, .int .i64 s]) O.length (tms O) ?_ ?_ ?_ ?_ ?_ ?_ ?_ ?_ ?_ ?_ ?_)
        case refine_1 => rfl
        case refine_2 => intro q; rfl
        case refine_3 => intro q; rfl
        case refine_4 => exact HO1.out
        case refine_5 => rfl
        case refine_6 => exact HX1.out
        case refine_7 => decide
        case refine_8 => unfold maxLen; omega
        case refine_9 => omega
        case refine_10 => exact hBB
        case refine_11 =>
          intro g cap w9 hown9 hb9 hg9 hn9 hgl9
          have hbo9 : w9.heap[bo]? = wo.heap[bo]? := hg9.block bo HBOW.out.lt (fun e => (own_ne_blk HO1.out HBOW.out (by decide)).elim (fun h => by rw [h] at e; cases e) (fun h => h e.symm))
          have hbk9 : Blk w9 bo 23 #[.slice OVA O.length OVC] := hbo9.trans HBOW.out
          have hbl9 : w9.cell? ⟨bo, 0, none⟩ = some (.slice OVA O.length OVC) := (Blk.cell hbk9 0).trans rfl
          have hfr9 := frozen_of_row w9 bo 0 _ _ hbk9
          have hst : w9.grownBy (w9.setCell ⟨bo, 0, none⟩ (.slice (some ⟨g, 0, none⟩) (O.length + 1) cap)) (some bo) := grownBy_set (World.grownBy.refl w9 (some bo)) _ _
          have hown10 := hown9.kept hst (own_ne_blk hown9 hbk9 (by decide))
          have hbk10 : Blk (w9.setCell ⟨bo, 0, none⟩ (.slice (some ⟨g, 0, none⟩) (O.length + 1) cap)) bo 23 #[.slice (some ⟨g, 0, none⟩) (O.length + 1) cap] := heap_setCell_same w9 bo 0 _ _ _ hbk9
          have hfr : Fr bl bo (.slice OVA O.length OVC) w (w9.setCell ⟨bo, 0, none⟩ (.slice (some ⟨g, 0, none⟩) (O.length + 1) cap)) :=
            ⟨hst.os.trans (hg9.os.trans hB.out.os), hst.tape.trans (hg9.tape.trans hB.out.tape), hst.output.trans (hg9.output.trans hB.out.output), Nat.le_trans hB.out.size (Nat.le_trans hg9.size hst.size), fun k hk h1 h2 h3 =>
              (hst.block k (Nat.lt_of_lt_of_le hk (Nat.le_trans hB.out.size hg9.size)) (fun e => h2 (by injection e))).trans ((hg9.block k (Nat.lt_of_lt_of_le hk hB.out.size) h3).trans (hB.out.block k hk))⟩
          have htk : ∀ t : Tm, TkM wo B t → TkM (w9.setCell ⟨bo, 0, none⟩ (.slice (some ⟨g, 0, none⟩) (O.length + 1) cap)) B t := fun t ht => by
            have h9 := ht.1.kept hg9 (own_part ht.1 HO1.out (by decide))
            exact ⟨h9.kept hst (own_ne_blk h9 hbk9 (by decide)), ht.2⟩
          have hmid : Mid (w9.setCell ⟨bo, 0, none⟩ (.slice (some ⟨g, 0, none⟩) (O.length + 1) cap)) bl X L Y := HMID.out.same (by
            have hne : bl ≠ bo := fun e => by
              subst e
              have h1 := HMID.out
              have h2 := HBO.out
              unfold Mid Blk at h1
              unfold Blk at h2
              rw [h1] at h2
              injection h2 with h2
              injection h2 with _ h2 _
              exact absurd h2 (by decide)
            have h0 := HMID.out.inHeap
            exact (hst.block bl (Nat.lt_of_lt_of_le h0 (Nat.le_trans hB.out.size hg9.size)) (fun e => hne (by injection e))).trans ((hg9.block bl (Nat.lt_of_lt_of_le h0 hB.out.size) (fun e => hdis e.symm)).trans (hB.out.block bl h0)))
          have HFR := keep hfr
          have HTK := keep htk
          have HMD := keep hmid
          have HW10 := keep hown10
          have HK10 := keep hbk10
          have HN9 := keep hn9
          clear hfr htk hmid hown10 hbk10 hn9 hbo9 hbk9 hown9 hg9 hb9 hst
          go_wp2_with fail
          refine bodyPost_end (results_none rfl _ _ _) rfl ?_
          have hTl : T.length = p := by
            have h := congrArg List.length hTs.out
            simpa [strs] using h
          have hto : wo.ownsRow B 9 1 (.slice TVA T.length TVC) T.length (T.map .string) := own_base hTo.out hBw
          refine ⟨rfl, L, [⟨.slice TVA T.length TVC, T, s⟩], _, List.Perm.refl _, HMD.out, HK10.out, ?_, ?_, ?_, hl0, HFR.out, ?_⟩
          · rw [List.length_append, tms_append]
            exact HW10.out
          · intro t ht
            rcases List.mem_append.1 ht with ht | ht
            · exact HTK.out t ⟨own_bel (HO.out t ht).1 hB.out, (HO.out t ht).2⟩
            · rw [List.mem_singleton.1 ht]
              exact HTK.out _ ⟨hto, by simp only; omega⟩
          · refine List.Perm.of_eq ?_
            unfold tplF
            rw [posA_none hSp.out]
            simp only [tpL, List.map_cons, List.map_nil]
            unfold mrgA
            rw [hTs.out, HS.out]
            rfl
          · rcases HN9.out with h | h
            · exact .inl h.symm
            · refine .inr fun g' hg' => ?_
              have : g = g' := by simpa [Value.ownBlock] using hg'
              have := hB.out.size
              omega
end Go.Proofs.YtigogjlbemkhdaaGreat
