/- FilesystemRuns: the walk of the statement. -/
import Derived.Test.YtldopkdjoejhbaaDoorFsAwake
import Derived.Test.YtldopkdjoejhbaaDoorFsChk
import Derived.Test.YtldopkdjoejhbaaDoorFsHold
import Derived.Test.YtldopkdjoejhbaaDoorRfJ
import Derived.Test.YtldopkdjoejhbaaDoorRfM
import Derived.Test.YtldopkdjoejhbaaDoorMkChg
namespace Go.Proofs.YtldopkdjoejhbaaDoor
open Go.RowKit

theorem elCh : Elem Tryd.prog 38 37 5 72 (.agg #[.int .i64 0, .string ⟨#[]⟩, .string ⟨#[]⟩, .slice none 0 0, .int .i64 0]) := ⟨Tryd.underlying38, by kernel_rfl, rfl, by decide⟩
theorem p_parts {a b : FS} (h : a.p = b.p) : a.N = b.N ∧ a.F.map Fi.p = b.F.map Fi.p ∧ a.O = b.O := by
  unfold FS.p at h
  injection h with h1 h2 h3
  exact ⟨h1, h2, h3⟩
/-- Two directories that are alike: Same says so. -/
theorem same_two (vN vF vO uN uF uO : Value) (a b : FS) (w : World) (h : FsT w vN vF vO a) (h2 : FsT w uN uF uO b) (hp : a.p = b.p) (hm : a.N.length ≤ 1000000 ∧ a.F.length ≤ 1000000 ∧ a.O.length ≤ 1000000) :
    Calls Tryd.prog 25 #[.agg #[vN, vF, vO], .agg #[uN, uF, uO]] w fun e w' => e = .returned (.bool true) ∧ Below w.heap.size w w' := by
  obtain ⟨h1, hF, h3⟩ := p_parts hp
  obtain ⟨N, F, O⟩ := a
  obtain ⟨N', F', O'⟩ := b
  simp only at h1 hF h3
  subst h1 h3
  exact refSame_any vN vF vO uN uF uO N F F' O w h h2 hF hm
theorem check_inv (vN vF vO : Value) (fs : FS) (w : World) (h : FsT w vN vF vO fs) (hi : Inv fs) (ho : fs.O.length ≤ 900) :
    Calls Tryd.prog 30 #[.agg #[vN, vF, vO]] w fun e w' => e = .returned (.bool true) ∧ Below w.heap.size w w' := by
  have hc := hi.count
  have hb := hi.b
  refine (check_any vN vF vO fs w h ⟨by omega, by omega, by omega⟩ (fun n hn => ?_)).mono ?_
  · have := hi.v n hn
    unfold vld at this
    simp only [Bool.and_eq_true, decide_eq_true_eq] at this
    omega
  · rintro e w' ⟨b, rfl, hb, hw⟩
    rw [hb.2 (Chk.of_inv hi)]
    exact ⟨rfl, hw⟩
theorem wpList_make0 {P : Program} {t e size bytes : Nat} {z : Value} (E : Elem P t e size bytes z) {ops : Array Oper} {rest : List Oper} {o : Oper} {a : Act} {w : World} {Q : Exit → Act → World → Prop}
    (hg : o.guard = none) (l c : Operand) (hop : o.op = Op.makeSlice t l c) (base : Nat) (kl kc : IntKind) (C : Int) (n : Nat) (hl : a.eval l = .int kl 0) (hc : a.eval c = .int kc C) (hC : C = (n : Int))
    (b2 : bytes * n ≤ 281474976710656) (b3 : n ≤ maxLen) (b4 : base ≤ w.heap.size)
    (hK : ∀ w', w'.ownsRow base e size (.slice (some ⟨w.heap.size, 0, none⟩) 0 n) 0 [] → w.grownBy w' none → wpList P ops Q rest (a.put o.dst (.slice (some ⟨w.heap.size, 0, none⟩) 0 n)) w') :
    wpList P ops Q (o :: rest) a w := by
  obtain ⟨i, hi, hz0, hz1, hz2⟩ := info_parts E.hi
  exact wpList_make_own w hg l c t hop base e i z size E.ht hi hz0 hz1 kl kc C n hl hc hC (hz2 ▸ b2) b3 b4 hK
/-- The two lists of the statement's last loop. -/
def twoL (is ks : List Int) (k : Nat) : List Int := if k = 0 then is else ks
def twoV (v u : Value) (k : Nat) : Value := if k = 0 then v else u
theorem sl_ints_below {w w' : World} {B : Nat} {v : Value} {is : List Int} (h : Sl w (lt B) 1 v is.length (ints is)) (hb : Below B w w') : Sl w' (lt B) 1 v is.length (ints is) := h.below hb (Nat.le_refl _)
set_option maxHeartbeats 16000000 in
set_option maxRecDepth 100000 in
theorem law_runs (vc vi : Value) (bs is : List Int) (w : World) (hg : Chg w) (hsc : Sl w (lt w.heap.size) 1 vc bs.length (bs.map (.int .u8))) (hr : ∀ x ∈ bs, 0 ≤ x ∧ x ≤ 255) (hm : bs.length ≤ maxLen)
    (hsi : Sl w (lt w.heap.size) 1 vi is.length (ints is)) :
    Calls Tryd.prog 8 #[vc, vi] w fun e w' => e = .returned (.bool true) ∧ Below w.heap.size w w' := by
  obtain ⟨Ac, cc, rfl, hcc, hsc⟩ := hsc.form
  obtain ⟨Ai, ci, rfl, hci, hsi⟩ := hsi.form
  have HG := keep hg
  have HSI := keep hsi
  clear hg hsi
  go_enter Tryd.func8, Tryd.ntmps8
  go_wp2_with fail
  refine (awake_any w HG.out).mono ?_
  rintro e w1 ⟨rfl, hb1⟩
  by_cases h40 : 40 < is.length
  · have d : decide (40 < (is.length : Int)) = true := decide_eq_true (by omega)
    have HB1 := keep hb1
    clear hb1
    go_wp2_with fail
    go_ret
    exact ⟨rfl, HB1.out⟩
  · have d : decide (40 < (is.length : Int)) = false := decide_eq_false (by omega)
    have HI40 : Hid (is.length ≤ 40) := keep (by omega)
    clear h40
    go_wp2_with fail
    refine (drawNew _ bs 240 _ ((hsc.below hb1 (Nat.le_refl _)).more hb1.size) hr (by omega) hm).mono ?_
    rintro e w2 ⟨gc, rfl, hgc, hC, hb2⟩
    have hbw : Below w.heap.size w w2 := bchain hb1 hb2
    have HC2 := keep hC
    have HBW := keep hbw
    have hgw : w.heap.size ≤ gc := Nat.le_trans hb1.size hgc
    have hg2 : gc < w2.heap.size := hC.lt_
    clear hsc hr hm hcc hb1 hb2 hC hbw hgc d
    go_wp2_with fail
    refine (drawNext gc 14 _ HC2.out (by omega) (by omega)).mono ?_
    rintro e w3 ⟨n, rfl, n0, n1, _, hC3, hg3⟩
    have n2 := n1 (by omega)
    have HC3 := keep hC3
    have HB3 := keep (below_grown HBW.out hg3 HBW.out.size hgw)
    have hz3 := hg3.size
    clear n1 hC3 hg3 HC2
    go_wp2_with fail
    go_loopw [6, 7] (fun v i wr => ∃ (m : Int) (L : List Ch), i = .int .i64 m ∧ 0 ≤ m ∧ (L.length : Int) + m ≤ 13 ∧ Hid (wr.ownsRow w2.heap.size 37 5 v L.length (L.flatMap fun c => (chV c).toList)) ∧ Hid (∀ c ∈ L, ChG wr c) ∧ Hid (Codes wr gc) ∧ Hid (Below w.heap.size w wr) ∧ Hid (w2.heap.size ≤ wr.heap.size)) (fun _ i _ => (intOf i).toNat)
    case atStart => exact ⟨n, [], rfl, n0, by simp; omega, keep (World.ownsRow_nil _ _ _ _), keep (by simp), HC3, HB3, keep hz3⟩
    case round =>
      obtain ⟨m, L, rfl, hm0, hLm, HO, HL, HCo, HBo, HZo⟩ := hrel
      obtain ⟨wo, rfl⟩ : ∃ wo : World, wo = wr := ⟨_, rfl⟩
      clear HC3 HB3 hz3 n0 n2
      have HLM : Hid ((L.length : Int) + m ≤ 13) := keep hLm
      have hm13 : m ≤ 13 := by omega
      clear hLm
      by_cases hp : 0 < m
      · have hd : decide (0 < m) = true := by simpa using hp
        go_wp2_with fail
        refine (drawNext gc 256 _ HCo.out (by omega) (by omega)).mono ?_
        rintro e w5 ⟨r, rfl, r0, r1, _, hC5, hg5⟩
        have HO5 := keep (own_grown HO.out hg5 hg2)
        have HL5 := keep (fun c hc => (HL.out c hc).grown HCo.out hg5)
        have HB5 := keep (below_grown HBo.out hg5 HBo.out.size hgw)
        have hz5 := hg5.size
        have HC5 := keep hC5
        clear hC5 hg5 r1
        go_wp2_with fail
        refine (makeChange gc _ _ HC5.out).mono ?_
        rintro e w6 ⟨c, rfl, hc6, hC6, hg6⟩
        obtain ⟨CA, CC, hcv, _, _⟩ := Sl.form hc6.r
        have HO6 := keep (own_grown HO5.out hg6 hg2)
        have HL6 := keep (fun c hc => (HL5.out c hc).grown HC5.out hg6)
        have HB6 := keep (below_grown HB5.out hg6 HB5.out.size hgw)
        have hz6 := hg6.size
        have HC6 := keep hC6
        have HCC := keep hc6
        have HBS : Hid (w2.heap.size ≤ w6.heap.size) := keep (by have := HZo.out; omega)
        obtain ⟨kind, name, dst, dv, data, nn⟩ := c
        simp only at hcv
        subst hcv
        simp only [chV]
        clear hc6 hC6 hg6
        have HLl : Hid (L.length ≤ 13) := keep (by have := HLM.out; omega)
        go_wp2_with (refine wpList_push elCh rfl rfl _ _ _ rfl rfl rfl w2.heap.size _ (.agg #[.int .i64 kind, .string name, .string dst, .slice CA data.length CC, .int .i64 nn]) L.length _ rfl (fun _ => rfl) (fun _ => rfl) HO6.out rfl (by intro c hc; simp [Value.cells] at hc; rcases hc with rfl | rfl | rfl | rfl | rfl <;> rfl) (by decide) (by have := HLl.out; unfold maxLen; omega) (by have := HLl.out; omega) HBS.out ?_; intro g cap w9 hown9 hb9 hg9 _ _)
        have hu8 : ∀ b, u8B w6 b → some b ≠ u6.ownBlock := own_noU8 HO6.out (by decide)
        have HL9 : Hid (∀ c ∈ L ++ [⟨kind, name, dst, .slice CA data.length CC, data, nn⟩], ChG w9 c) := keep (fun c hc => by
          rcases List.mem_append.1 hc with hc | hc
          · exact (HL6.out c hc).kept hg9 hu8
          · rw [List.mem_singleton.1 hc]
            exact HCC.out.kept hg9 hu8)
        have HO9 : Hid (w9.ownsRow w2.heap.size 37 5 (.slice (some ⟨g, 0, none⟩) (L.length + 1) cap) (L ++ [(⟨kind, name, dst, .slice CA data.length CC, data, nn⟩ : Ch)]).length ((L ++ [(⟨kind, name, dst, .slice CA data.length CC, data, nn⟩ : Ch)]).flatMap fun c => (chV c).toList)) := keep (by
          rw [List.length_append, List.flatMap_append]
          simp only [List.flatMap_cons, List.flatMap_nil, List.append_nil, List.length_singleton]
          exact hown9)
        have HC9 := keep (HC6.out.under hb9 hg2)
        have HB9 := keep (HB6.out.trans (hb9.mono HBW.out.size))
        have hz9 := hg9.size
        clear hown9 hb9 hg9 hu8
        go_roundw
        case rel => exact ⟨m - 1, L ++ [⟨kind, name, dst, .slice CA data.length CC, data, nn⟩], by go_num, by omega, by have := HLM.out; rw [List.length_append, List.length_singleton]; omega, HO9, HL9, HC9, HB9, keep (by have := HZo.out; omega)⟩
        case measure => simp [intOf]; omega
      · have hd : decide (0 < m) = false := by simpa using hp
        have HLl : Hid (L.length ≤ 13) := keep (by have := HLM.out; omega)
        obtain ⟨AL, cL, rfl, _⟩ := own_sl HO.out
        have HCH := keep (show ChsR wo (.slice AL L.length cL) L from ⟨Sl.of_own HO.out, fun c hc => (HL.out c hc).ok⟩)
        have HGo := keep (HG.out.up HBo.out)
        clear HO HL HCo hp
        go_wp2_with fail
        refine (new_any wo).mono ?_
        rintro e w4 ⟨rfl, hb4⟩
        have HC4 := keep (HCH.out.up hb4)
        have HG4 := keep (HGo.out.up hb4)
        have HB4 := keep (bchain HBo.out hb4)
        clear hb4 HCH HGo
        go_wp2_with fail
        refine (run_any _ _ _ (.slice AL L.length cL) ⟨[], [], []⟩ L w4 (FsT.new _) Inv.new (by simp) HC4.out (by have := HLl.out; omega) HG4.out).mono ?_
        rintro e w5 ⟨fA, vN5, vF5, vO5, vE5, rfl, hT5, hP5, hI5, hO5, hE5, hb5⟩
        obtain ⟨E1, g1, rfl, _, _⟩ := hT5.n.form
        obtain ⟨E2, g2, rfl, _, _⟩ := hT5.f.form
        obtain ⟨E3, g3, rfl, _, _⟩ := hT5.o.form
        obtain ⟨AE, cE, rfl, _, _⟩ := hE5.form
        have hal : Below w5.heap.size w5 (w5.alloc (.cells #[.slice E1 fA.N.length g1, .slice E2 fA.F.length g2, .slice E3 fA.O.length g3] 31)) := (Below.refl _ w5).alloc (Nat.le_refl _) _
        have HXA : Hid (Blk (w5.alloc (.cells #[.slice E1 fA.N.length g1, .slice E2 fA.F.length g2, .slice E3 fA.O.length g3] 31)) w5.heap.size 31 #[.slice E1 fA.N.length g1, .slice E2 fA.F.length g2, .slice E3 fA.O.length g3]) := keep (Blk.new w5 _ _)
        have HTA := keep (hT5.up hal)
        have HEA := keep ((hE5.mono fun _ hb => hb.lt_).upW hal)
        have HC5 := keep ((HC4.out.up hb5).up hal)
        have HB5 := keep (bchain (bchain HB4.out hb5) hal)
        have HPA := keep hP5
        have HIA := keep hI5
        have HOA : Hid (fA.O.length ≤ 0) := keep (by rw [hO5]; simp)
        clear hT5 hP5 hI5 hO5 hE5 hb5 hal HC4 HG4 HB4
        go_upto_region 12 with fail
        generalize w5.alloc (.cells #[.slice E1 fA.N.length g1, .slice E2 fA.F.length g2, .slice E3 fA.O.length g3] 31) = W5 at *
        generalize w5.heap.size = ga at *
        go_wp2_with fail
        refine (refNew_any W5).mono ?_
        rintro e w6 ⟨rfl, hb6⟩
        have HC6 := keep (HC5.out.up hb6)
        have HXA6 := keep (HXA.out.below hb6 HXA.out.lt)
        have HTA6 := keep (HTA.out.up hb6)
        have HEA6 := keep (HEA.out.upW hb6)
        have HB6 := keep (bchain HB5.out hb6)
        clear hb6 HC5 HXA HTA HEA HB5
        go_wp2_with fail
        refine (refRun_any _ _ _ (.slice AL L.length cL) ⟨[], [], []⟩ L w6 (FsT.new _) Inv.new (by simp) HC6.out (by have := HLl.out; omega)).mono ?_
        rintro e w7 ⟨fB, vN7, vF7, vO7, vE7, rfl, hT7, hP7, hI7, hO7, hE7, hb7⟩
        obtain ⟨J1, j1, rfl, _, _⟩ := hT7.n.form
        obtain ⟨J2, j2, rfl, _, _⟩ := hT7.f.form
        obtain ⟨J3, j3, rfl, _, _⟩ := hT7.o.form
        obtain ⟨AK, cK, rfl, _, _⟩ := hE7.form
        have hal : Below w7.heap.size w7 (w7.alloc (.cells #[.slice J1 fB.N.length j1, .slice J2 fB.F.length j2, .slice J3 fB.O.length j3] 31)) := (Below.refl _ w7).alloc (Nat.le_refl _) _
        have HXB : Hid (Blk (w7.alloc (.cells #[.slice J1 fB.N.length j1, .slice J2 fB.F.length j2, .slice J3 fB.O.length j3] 31)) w7.heap.size 31 #[.slice J1 fB.N.length j1, .slice J2 fB.F.length j2, .slice J3 fB.O.length j3]) := keep (Blk.new w7 _ _)
        have HTB := keep (hT7.up hal)
        have HEB := keep ((hE7.mono fun _ hb => hb.lt_).upW hal)
        have HXA7 := keep ((HXA6.out.below hb7 HXA6.out.lt).below hal (Nat.lt_of_lt_of_le HXA6.out.lt hb7.size))
        have HTA7 := keep ((HTA6.out.up hb7).up hal)
        have HEA7 := keep ((HEA6.out.upW hb7).upW hal)
        have HB7 := keep (bchain (bchain HB6.out hb7) hal)
        have HPP : Hid (fA.p = fB.p) := keep (HPA.out.trans hP7.symm)
        clear hT7 hP7 hI7 hO7 hE7 hb7 hal HC6 HXA6 HTA6 HEA6 HB6
        go_upto_region 13 with fail
        generalize w7.alloc (.cells #[.slice J1 fB.N.length j1, .slice J2 fB.F.length j2, .slice J3 fB.O.length j3] 31) = W7 at *
        generalize w7.heap.size = gb at *
        obtain ⟨a0, a1, a2⟩ := HXA7.out.cell3
        obtain ⟨b0, b1, b2⟩ := HXB.out.cell3
        have hcnt : Hid (fA.N.length ≤ 40 ∧ fA.F.length ≤ 40) := keep (by have h1 := HIA.out.count; have h2 := HIA.out.b; have := HOA.out; omega)
        go_wp2_with fail
        refine (same_two _ _ _ _ _ _ fA fB W7 HTA7.out HTB.out HPP.out (by have := hcnt.out; have := HOA.out; omega)).mono ?_
        rintro e w8 ⟨rfl, hb8⟩
        have HXA8 := keep (HXA7.out.below hb8 HXA7.out.lt)
        have HTA8 := keep (HTA7.out.up hb8)
        have HEA8 := keep (HEA7.out.upW hb8)
        have HEB8 := keep (HEB.out.upW hb8)
        have HB8 := keep (bchain HB7.out hb8)
        have hne : ((L.length : Int) != (L.length : Int)) = false := bne_self_eq_false _
        have hLl : (L.length : Int) ≤ 13 := by have := HLl.out; omega
        clear hb8 a0 a1 a2 b0 b1 b2 HXA7 HTA7 HEA7 HXB HTB HEB HB7
        go_wp2_with fail
        go_loopw [64] (fun i wr => ∃ k : Nat, i = .int .i64 k ∧ k ≤ L.length ∧ Hid (Below w8.heap.size w8 wr)) (fun i _ => L.length - (intOf i).toNat)
        case atStart => exact ⟨0, rfl, Nat.zero_le _, keep (Below.refl _ _)⟩
        case round =>
          obtain ⟨k, rfl, hk, hBr⟩ := hrel
          obtain ⟨wp, rfl⟩ : ∃ wp : World, wp = wr := ⟨_, rfl⟩
          by_cases hlt : k < L.length
          · have h1 := HEA8.out.upW hBr.out
            have h2 := HEB8.out.upW hBr.out
            obtain ⟨x1, y1, u1, rfl, _, hu1, cl1⟩ := h1.at_ hlt
            obtain ⟨x2, y2, u2, rfl, _, hu2, cl2⟩ := h2.at_ hlt
            rw [hu1] at hu2
            obtain rfl : u1 = u2 := Option.some.inj hu2
            obtain ⟨z, rfl⟩ : ∃ z, u1 = .int .i64 z := by
              rw [ints, List.getElem?_map] at hu1
              obtain ⟨z, _, hz⟩ := Option.map_eq_some_iff.1 hu1
              exact ⟨z, hz.symm⟩
            have i0 : (0 : Int) ≤ (k : Int) := by omega
            have i1 : (k : Int) < (L.length : Int) := by omega
            have hzz : (z != z) = false := bne_self_eq_false _
            clear h1 h2 hu1 hu2
            go_wp2_with fail
            go_quiet (fail)
            go_wp2_with fail
            go_roundw
            case rel => exact ⟨k + 1, by go_num, by omega, keep (hBr.out.trans (below_drewN (Below.refl _ _) _))⟩
            case measure => simp [intOf]; omega
          · obtain rfl : k = L.length := by omega
            have HB9 := keep (bchain HB8.out hBr.out)
            have HXA9 := keep (HXA8.out.below hBr.out HXA8.out.lt)
            have HTA9 := keep (HTA8.out.up hBr.out)
            have hil : (is.length : Int) ≤ 40 := by have := HI40.out; omega
            clear HEA8 HEB8 HB8 HXA8 HTA8 hBr
            go_wp2_with (refine wpList_make0 elIn rfl _ _ rfl wp.heap.size _ _ _ is.length rfl rfl rfl (by have := HI40.out; omega) (by have := HI40.out; unfold maxLen; omega) (Nat.le_refl _) ?_; intro w10 hown10 hg10)
            have hbm : Below wp.heap.size wp w10 := below_of_none hg10
            have HBM := keep hbm
            have HO10 := keep hown10
            clear hbm hown10 hg10
            go_wp2_with fail
            go_loopw [13, 82] (fun v i wr => ∃ (k : Nat) (ks : List Int), i = .int .i64 k ∧ k ≤ is.length ∧ Hid (ks.length = k) ∧ Hid (wr.ownsRow wp.heap.size 3 1 v k (ints ks)) ∧ Hid (Below wp.heap.size wp wr)) (fun _ i _ => is.length - (intOf i).toNat)
            case atStart => exact ⟨0, [], rfl, Nat.zero_le _, keep rfl, HO10, HBM⟩
            case round =>
              obtain ⟨k, ks, rfl, hk, HKS, HOk, hBr⟩ := hrel
              obtain ⟨wq, rfl⟩ : ∃ wq : World, wq = wr := ⟨_, rfl⟩
              clear HO10 HBM
              have hzq := hBr.out.size
              obtain ⟨AS, cS, rfl, _⟩ := own_sl HOk.out
              by_cases hlt : k < is.length
              · obtain ⟨b, o, u, rfl, _, hu, n0⟩ := (HSI.out.below (bchain HB9.out hBr.out) (Nat.le_refl _)).at_ hlt
                obtain ⟨y, hy⟩ : ∃ y, is[k] = y := ⟨_, rfl⟩
                obtain rfl : u = .int .i64 y := by
                  rw [ints, List.getElem?_map, List.getElem?_eq_getElem hlt, hy] at hu
                  exact (Option.some.inj hu).symm
                have i0 : (0 : Int) ≤ (k : Int) := by omega
                have i1 : (k : Int) < (is.length : Int) := by omega
                clear hu hy
                go_wp2_with fail
                refine (makeMod y 6 _ (by omega)).mono ?_
                rintro e w11 ⟨r, rfl, r0, r1, rfl⟩
                clear r1
                go_wp2_with (refine wpList_push1 elIn rfl rfl _ _ _ rfl rfl rfl wp.heap.size _ (.int .i64 r) k (ints ks) rfl (fun _ => rfl) (fun _ => rfl) HOk.out rfl (by unfold maxLen; omega) (by omega) hzq ?_; intro g12 cap12 w12 hown12 hb12 _ _ _)
                have HO12 : Hid (w12.ownsRow wp.heap.size 3 1 (.slice (some ⟨g12, 0, none⟩) (k + 1) cap12) (k + 1) (ints (ks ++ [r]))) := keep (by
                  rw [show ints (ks ++ [r]) = ints ks ++ [.int .i64 r] by simp [ints]]
                  exact hown12)
                have HB12 := keep (hBr.out.trans hb12)
                clear hown12 hb12
                go_roundw
                case rel => exact ⟨k + 1, ks ++ [r], by go_num, by omega, keep (by rw [List.length_append, HKS.out]; rfl), HO12, HB12⟩
                case measure => simp [intOf]; omega
              · obtain rfl : k = is.length := by omega
                have HXA13 := keep (HXA9.out.below hBr.out HXA9.out.lt)
                have HTA13 := keep (HTA9.out.up hBr.out)
                have HBq := keep (bchain HB9.out hBr.out)
                have hsk : Sl wq (lt wq.heap.size) 1 (.slice AS is.length cS) ks.length (ints ks) := by rw [HKS.out]; exact Sl.of_own HOk.out
                have HSK := keep hsk
                have HSJ := keep ((HSI.out.below HBq.out (Nat.le_refl _)).more HBq.out.size)
                have hal : Below wq.heap.size wq (wq.alloc (.cells #[.slice Ai is.length ci, .slice AS is.length cS] 29)) := (Below.refl _ wq).alloc (Nat.le_refl _) _
                have hLT : Blk (wq.alloc (.cells #[.slice Ai is.length ci, .slice AS is.length cS] 29)) wq.heap.size 29 #[.slice Ai is.length ci, .slice AS is.length cS] := Blk.new _ _ _
                have HLT := keep hLT
                have HXA14 := keep (HXA13.out.below hal HXA13.out.lt)
                have HTA14 := keep (HTA13.out.up hal)
                have HSK14 := keep (HSK.out.upW hal)
                have HSJ14 := keep (HSJ.out.upW hal)
                have HB14 := keep (bchain HBq.out hal)
                clear hal hLT hsk HSK HSJ HXA13 HTA13 HBq hBr HOk
                go_wp2_with fail
                generalize wq.alloc (.cells #[.slice Ai is.length ci, .slice AS is.length cS] 29) = W14 at *
                generalize wq.heap.size = gl at *
                go_loopw [96] (fun i wr => ∃ k : Nat, i = .int .i64 k ∧ k ≤ 2 ∧ Hid (Below W14.heap.size W14 wr)) (fun i _ => 2 - (intOf i).toNat)
                case atStart => exact ⟨0, rfl, Nat.zero_le _, keep (Below.refl _ _)⟩
                case round =>
                  obtain ⟨k, rfl, hk, hBr⟩ := hrel
                  obtain ⟨wx, rfl⟩ : ∃ wx : World, wx = wr := ⟨_, rfl⟩
                  have HXAx := keep (HXA14.out.below hBr.out HXA14.out.lt)
                  have HTAx := keep (HTA14.out.up hBr.out)
                  by_cases hlt : k < 2
                  · have hJ : ∃ (js : List Int) (AJ : Option Addr) (cJ : Nat), js.length = is.length ∧ Sl wx (lt wx.heap.size) 1 (.slice AJ is.length cJ) js.length (ints js) ∧ wx.cell? ⟨gl, k, none⟩ = some (.slice AJ is.length cJ) := by
                      have hb := HLT.out.below hBr.out HLT.out.lt
                      have hk01 : k = 0 ∨ k = 1 := by omega
                      rcases hk01 with rfl | rfl
                      · exact ⟨is, Ai, ci, rfl, HSJ14.out.upW hBr.out, (hb.cell 0).trans rfl⟩
                      · exact ⟨ks, AS, cS, HKS.out, HSK14.out.upW hBr.out, (hb.cell 1).trans rfl⟩
                    obtain ⟨js, AJ, cJ, hjl, hJs, j0⟩ := hJ
                    have HJ40 : Hid (js.length ≤ 40) := keep (by have := HI40.out; omega)
                    have HJL := keep hjl
                    have hJs' : Sl wx (lt wx.heap.size) 1 (.slice AJ is.length cJ) js.length (ints js) := hJs
                    have HJS := keep hJs'
                    have i0 : (0 : Int) ≤ (k : Int) := by omega
                    have i1 : (k : Int) < 2 := by omega
                    obtain ⟨a0, a1, a2⟩ := HXAx.out.cell3
                    clear hjl hJs hJs'
                    go_wp2_with fail
                    refine (hold_any _ _ _ (.slice AJ is.length cJ) fA js wx HTAx.out HIA.out (by have := HOA.out; omega) HJS.out (by have := HJ40.out; omega)).mono ?_
                    rintro e w15 ⟨fX, vN15, vF15, vO15, rfl, hT15, hP15, hI15, hO15, hb15⟩
                    obtain ⟨K1, k1, rfl, _, _⟩ := hT15.n.form
                    obtain ⟨K2, k2, rfl, _, _⟩ := hT15.f.form
                    obtain ⟨K3, k3, rfl, _, _⟩ := hT15.o.form
                    have hal : Below w15.heap.size w15 (w15.alloc (.cells #[.slice K1 fX.N.length k1, .slice K2 fX.F.length k2, .slice K3 fX.O.length k3] 31)) := (Below.refl _ w15).alloc (Nat.le_refl _) _
                    have HXX : Hid (Blk (w15.alloc (.cells #[.slice K1 fX.N.length k1, .slice K2 fX.F.length k2, .slice K3 fX.O.length k3] 31)) w15.heap.size 31 #[.slice K1 fX.N.length k1, .slice K2 fX.F.length k2, .slice K3 fX.O.length k3]) := keep (Blk.new w15 _ _)
                    have HTX := keep (hT15.up hal)
                    have HXA16 := keep ((HXAx.out.below hb15 HXAx.out.lt).below hal (Nat.lt_of_lt_of_le HXAx.out.lt hb15.size))
                    have HTA16 := keep ((HTAx.out.up hb15).up hal)
                    have HJS16 := keep ((HJS.out.upW hb15).upW hal)
                    have HB16 := keep (hBr.out.trans (((hb15.trans (hal.mono hb15.size))).mono hBr.out.size))
                    have HPX := keep hP15
                    have HIX := keep hI15
                    have HOX : Hid (fX.O.length ≤ 40) := keep (by have := hcnt.out.2; omega)
                    clear hT15 hP15 hI15 hO15 hb15 hal a0 a1 a2 j0 HXAx HTAx HJS hBr
                    go_upto_region 31 with fail
                    generalize w15.alloc (.cells #[.slice K1 fX.N.length k1, .slice K2 fX.F.length k2, .slice K3 fX.O.length k3] 31) = W16 at *
                    generalize w15.heap.size = gx at *
                    go_cut [113] (fun q wd => q = .bool false ∧ Hid (Below W14.heap.size W14 wd))
                    case first =>
                      obtain ⟨a0, a1, a2⟩ := HXA16.out.cell3
                      obtain ⟨b0, b1, b2⟩ := HXX.out.cell3
                      have hd16 : Below W16.heap.size W16 W16.drew := (Below.refl _ W16).drew
                      have HTAd := keep (HTA16.out.up hd16)
                      have HTXd := keep (HTX.out.up hd16)
                      have HJSd := keep (HJS16.out.upW hd16)
                      have HB17 := keep (HB16.out.trans (hd16.mono HB16.out.size))
                      clear hd16
                      go_region_with (first
                        | (go_at_call 30; refine (check_inv _ _ _ fX w18 HTX18.out HIX.out (by have := HOX.out; omega)).mono ?_; rintro e w19 ⟨rfl, hb19⟩
                           have HB19 := keep (HB18.out.trans (hb19.mono HB18.out.size)))
                        | (go_at_call 25; refine (same_two _ _ _ _ _ _ fX fY w17 HTX17.out HTY.out (HPX.out.trans HPY.out.symm) (by have h1 := HIX.out.count; have h2 := HIX.out.b; have := HOX.out; omega)).mono ?_; rintro e w18 ⟨rfl, hb18⟩
                           have HB18 := keep (HB17'.out.trans (hb18.mono HB17'.out.size))
                           have HTX18 := keep (HTX17.out.up hb18)
                           obtain ⟨d0, d1, d2⟩ := (HXX17.out.below hb18 HXX17.out.lt).cell3)
                        | (go_at_call 36; refine (refHold_any _ _ _ (.slice AJ is.length cJ) fA js W16.drew HTAd.out HIA.out (by have := HOA.out; omega) HJSd.out (by have := HJ40.out; omega)).mono ?_; rintro e w17 ⟨fY, vN17, vF17, vO17, rfl, hT17, hP17, hI17, hO17, hb17⟩
                           obtain ⟨M1, m1, rfl, _, _⟩ := hT17.n.form
                           obtain ⟨M2, m2, rfl, _, _⟩ := hT17.f.form
                           obtain ⟨M3, m3, rfl, _, _⟩ := hT17.o.form
                           have HTY := keep hT17
                           have HPY := keep hP17
                           have HTX17 := keep (HTXd.out.up hb17)
                           have HB17' := keep (HB17.out.trans (hb17.mono HB17.out.size))
                           have HXX17 := keep (HXX.out.below (w' := w17) (B := W16.heap.size) ((Below.refl _ W16).drew.trans hb17) HXX.out.lt)
                           obtain ⟨c0, c1, c2⟩ := HXX17.out.cell3
                           clear hT17 hP17 hI17 hO17)
                        | fail)
                      all_goals
                        go_wp2_with fail
                        go_meet
                        case rel => exact ⟨rfl, HB19⟩
                    case rest =>
                      obtain ⟨rfl, hcb⟩ := hcut
                      go_wp2_with fail
                      go_roundw
                      case rel => exact ⟨k + 1, by go_num, by omega, hcb⟩
                      case measure => simp [intOf]; omega
                  · obtain rfl : k = 2 := by omega
                    obtain ⟨a0, a1, a2⟩ := HXAx.out.cell3
                    go_wp2_with fail
                    refine (check_inv _ _ _ fA wx HTAx.out HIA.out (by have := HOA.out; omega)).mono ?_
                    rintro e w20 ⟨rfl, hb20⟩
                    have HBE := keep (bchain (bchain HB14.out hBr.out) hb20)
                    clear hb20
                    go_wp2_with fail
                    go_ret
                    exact ⟨rfl, HBE.out⟩
end Go.Proofs.YtldopkdjoejhbaaDoor
