/- Apply and Total. -/
import Derived.Test.YtncmbdcicjolcaaDoorEvents
namespace Go.Proofs.YtncmbdcicjolcaaDoor
open Go.RowKit

/-- Apply. -/
theorem apply_any (lv : Value) (l : List (ByteArray × Int)) (key : Int) (ev : Value) (E : List Ev) (w : World) (B : Nat) (hD : Divs w B) (hB : B ≤ w.heap.size)
    (hl : Sl w (lt w.heap.size) 2 lv l.length (sam l)) (hm : l.length ≤ 1000000) (hE : ∀ e ∈ E, EvS e) (hv : Sl w (lt w.heap.size) 10 ev E.length (evV E)) (hEl : E.length ≤ 1000000) :
    Calls Tryd.prog 23 #[lv, .int .i64 key, ev] w
      fun x w' => ∃ v, x = .returned v ∧ w'.ownsRow w.heap.size 48 10 v (smp l key E).length (evV (smp l key E)) ∧ Below w.heap.size w w' := by
  obtain ⟨A, c, rfl, hc, hl⟩ := hl.form
  obtain ⟨A2, c2, rfl, hc2, hv⟩ := hv.form
  go_enter Tryd.func23, Tryd.ntmps23
  go_upto_region 1 with fail
  rename_i K1 hK1
  have hK := keep hK1
  clear hK1
  have q1 : Blk ((w.alloc (.cells #[.slice A l.length c] 29)).alloc (.cells #[.int .i64 key] 3)) w.heap.size 29 #[.slice A l.length c] := (Blk.new w _ _).alloc _
  have q2 : Blk ((w.alloc (.cells #[.slice A l.length c] 29)).alloc (.cells #[.int .i64 key] 3)) (w.heap.size + 1) 3 #[.int .i64 key] := by
    have := Blk.new (w.alloc (.cells #[.slice A l.length c] 29)) 3 #[.int .i64 key]
    simpa using this
  have hb : Below w.heap.size w ((w.alloc (.cells #[.slice A l.length c] 29)).alloc (.cells #[.int .i64 key] 3)) := ((Below.refl _ w).alloc (Nat.le_refl _) _).alloc (by simp) _
  generalize ((w.alloc (.cells #[.slice A l.length c] 29)).alloc (.cells #[.int .i64 key] 3)) = w1 at q1 q2 hb ⊢
  have hz := hb.size
  go_wp2_with fail
  refine (filter_any w.heap.size (w.heap.size + 1) _ l key _ E w1 B (hD.below (hb.mono hB)) (by omega) q1 q2 ((hl.below hb (Nat.le_refl _)).more hz) hm hE ((hv.below hb (Nat.le_refl _)).more hz) hEl).mono ?_
  rintro x w2 ⟨v, rfl, ho, hb2⟩
  have ho2 := own_base ho hz
  have hb3 := hb.trans (hb2.mono hz)
  clear ho hb2
  go_wp2_with fail
  refine hK.out _ _ ?_
  clear hK
  go_wp2_with fail
  go_ret
  exact ⟨v, rfl, ho2, hb3⟩
/-- The sum of the weights. -/
def tot (E : List Ev) : Int := (E.map (·.wt)).sum
theorem tot_take {E : List Ev} {k : Nat} (hk : k < E.length) : tot (E.take (k + 1)) = tot (E.take k) + E[k].wt := by
  unfold tot
  rw [List.take_succ_eq_append_getElem hk, List.map_append, List.sum_append]
  simp
theorem tot_bd {E : List Ev} (h : ∀ e ∈ E, vld e.wt = true) : 0 ≤ tot E ∧ tot E ≤ 5040 * (E.length : Int) := by
  induction E with
  | nil => simp [tot]
  | cons e E ih =>
    have h1 := vld_bd (h e List.mem_cons_self)
    have h2 := ih fun x hx => h x (List.mem_cons_of_mem _ hx)
    have : tot (e :: E) = e.wt + tot E := by simp [tot]
    rw [this, List.length_cons]
    omega
set_option maxHeartbeats 4000000 in
/-- Total of events with weights. -/
theorem total_any (ev : Value) (E : List Ev) (w : World) (B : Nat) (hD : Divs w B) (hB : B ≤ w.heap.size) (hE : ∀ e ∈ E, EvS e ∧ vld e.wt = true) (hv : Sl w (lt w.heap.size) 10 ev E.length (evV E)) (hEl : E.length ≤ 1000000) :
    Calls Tryd.prog 26 #[ev] w fun x w' => x = .returned (.tuple #[.int .i64 (tot E), .bool true]) ∧ Below w.heap.size w w' := by
  obtain ⟨A, c, rfl, hc, hv⟩ := hv.form
  go_enter Tryd.func26, Tryd.ntmps26
  go_wp2_with fail
  go_loopw [4, 6, 9] (fun n _ i wr => ∃ (k : Nat) (m : Int), k ≤ E.length ∧ n = .int .i64 m ∧ i = .int .i64 k ∧ 0 ≤ m ∧ m ≤ 5040 * k ∧ Hid (m = tot (E.take k)) ∧ Hid (Below w.heap.size w wr)) (fun _ _ i _ => E.length - (intOf i).toNat)
  case atStart => exact ⟨0, 0, Nat.zero_le _, rfl, rfl, by omega, by omega, keep rfl, keep (Below.refl _ _)⟩
  case round =>
    obtain ⟨k, m, hk, rfl, rfl, m0, m1, hM, hI⟩ := hrel
    have hbr := hI.out
    by_cases hlt : k < E.length
    · obtain ⟨b, o, rfl, hb, c0, c1, c2, c3, c4, c5, c6, c7, c8, c9⟩ := ev_cells (hv.below hbr (Nat.le_refl _)) hlt
      obtain ⟨hES, hwv⟩ := hE _ (List.getElem_mem hlt)
      have htk := tot_take hlt
      generalize E[k] = e at c0 c1 c2 c3 c4 c5 c6 c7 c8 c9 hES hwv htk
      obtain ⟨vho, vfi, vfr, vto, vln, vti, vwt, vtr, vst, vfd⟩ := e
      obtain ⟨⟨lA, ln, lc, hln⟩, ⟨fA, fn, fc, hfd⟩, htr⟩ := hES
      simp only at hln hfd htr c0 c1 c2 c3 c4 c5 c6 c7 c8 c9 hwv htk
      subst hln
      subst hfd
      clear htr
      obtain ⟨v1, v2⟩ := vld_bd hwv
      have HT := keep htk
      have HV := keep hwv
      clear htk hwv
      have i1 : (k : Int) < (E.length : Int) := by omega
      have k1 : (k : Int) ≤ 1000000 := by omega
      obtain ⟨wo, rfl⟩ : ∃ wo : World, wo = wr := ⟨_, rfl⟩
      go_wp2_with fail
      have hba : Below w.heap.size w (wo.alloc (.cells #[.int .i64 vho, .int .i64 vfi, .int .i64 vfr, .int .i64 vto, .slice lA ln lc, .int .i64 vti, .int .i64 vwt, .string vtr, .string vst, .slice fA fn fc] 48)) := hbr.alloc hbr.size _
      refine (valid_any _ _ B (hD.below (hba.mono hB))).mono ?_
      rintro x w3 ⟨he, rfl⟩
      rw [HV.out] at he
      subst he
      have hs1 : IntKind.i64.wrap (9223372036854775807 - vwt) = 9223372036854775807 - vwt := IntWalk.i64_in _ (by omega)
      have hs2 : IntKind.i64.wrap (m + vwt) = m + vwt := IntWalk.i64_in _ (by omega)
      have hs3 : ¬ (9223372036854775807 - vwt < m) := by omega
      go_wp2_with fail
      go_roundw
      case rel => exact ⟨k + 1, m + vwt, by omega, rfl, by go_num, by omega, by omega, keep (by rw [HT.out, hM.out]), keep hba⟩
      case measure => simp [intOf]; omega
    · obtain rfl : k = E.length := by omega
      have h := hM.out
      rw [List.take_length] at h
      have H := keep h
      clear h
      go_wp2_with fail
      go_ret2
      exact ⟨by rw [H.out]; rfl, hI.out⟩


abbrev EvD := Ev × List (Int × Int × ByteArray) × List (ByteArray × ByteArray)
theorem EvOk.shapes {B : Nat} {e : Ev} {L : List (Int × Int × ByteArray)} {F : List (ByteArray × ByteArray)} {w : World} (h : EvOk B e L F w) : EvS e := by
  obtain ⟨A1, c1, h1⟩ := own_slice h.ln
  obtain ⟨A2, c2, h2⟩ := own_slice h.fd
  exact ⟨⟨_, _, _, h1⟩, ⟨_, _, _, h2⟩, h.tr⟩
theorem EvOk.grown {B gc : Nat} {e : Ev} {L : List (Int × Int × ByteArray)} {F : List (ByteArray × ByteArray)} {w w' : World} (h : EvOk B e L F w) (hg : w.grownBy w' (some gc)) (hb : gc < B) : EvOk B e L F w' :=
  ⟨own_grown h.ln hg hb, own_grown h.fd hg hb, h.l1, h.l3, h.lp, h.fl, h.wt, h.tr, h.st⟩
theorem EvOk.base {B B' : Nat} {e : Ev} {L : List (Int × Int × ByteArray)} {F : List (ByteArray × ByteArray)} {w : World} (h : EvOk B e L F w) (hb : B' ≤ B) : EvOk B' e L F w :=
  ⟨own_base h.ln hb, own_base h.fd hb, h.l1, h.l3, h.lp, h.fl, h.wt, h.tr, h.st⟩
theorem own_apart {w : World} {B B' e e' size size' k k' : Nat} {v v' : Value} {xs xs' : List Value} (h : w.ownsRow B e size v k xs) (h' : w.ownsRow B' e' size' v' k' xs') (hne : e ≠ e') : v.ownBlock = none ∨ v.ownBlock ≠ v'.ownBlock := by
  cases hv : v.ownBlock with
  | none => exact .inl rfl
  | some i =>
    refine .inr fun he => ?_
    obtain ⟨c1, h1⟩ := own_cellsK h i hv
    obtain ⟨c2, h2⟩ := own_cellsK h' i he.symm
    rw [h1] at h2
    injection h2 with h2
    injection h2 with _ h2 _
    exact hne h2
theorem EvOk.pushed {B B' k : Nat} {e : Ev} {L : List (Int × Int × ByteArray)} {F : List (ByteArray × ByteArray)} {w w' : World} {v : Value} {xs : List Value} (h : EvOk B e L F w) (hv : w.ownsRow B' 48 10 v k xs) (hg : w.grownBy w' v.ownBlock) : EvOk B e L F w' :=
  ⟨h.ln.kept hg (own_apart h.ln hv (by decide)), h.fd.kept hg (own_apart h.fd hv (by decide)), h.l1, h.l3, h.lp, h.fl, h.wt, h.tr, h.st⟩
def EvsRes (w : World) (gc most : Nat) (x : Ending) (w' : World) : Prop :=
  ∃ (v : Value) (D : List EvD), x = .returned v ∧ w'.ownsRow w.heap.size 48 10 v D.length (evV (D.map (·.1))) ∧ D.length ≤ most ∧ (∀ t ∈ D, EvOk w.heap.size t.1 t.2.1 t.2.2 w') ∧ Codes w' gc ∧ w.grownBy w' (some gc)
set_option maxHeartbeats 4000000 in
theorem events_any (gc most : Nat) (w : World) (h : Codes w gc) (hmo : most ≤ 100) :
    Calls Tryd.prog 22 #[.pointer (some ⟨gc, 0, none⟩), .int .i64 most] w (EvsRes w gc most) := by
  have hl := h.lt_
  go_enter Tryd.func22, Tryd.ntmps22
  go_wp2_with fail
  refine (drawNext gc _ _ h (by omega) (by omega)).mono ?_
  rintro x w1 ⟨r, rfl, r0, r1, _, hC1, hg1⟩
  have r2 := r1 (by omega)
  clear r1
  go_wp2_with fail
  go_loopw [5, 6] (fun v n wr => ∃ (m : Int) (D : List EvD), n = .int .i64 m ∧ 0 ≤ m ∧ m + D.length = r ∧ wr.ownsRow w.heap.size 48 10 v D.length (evV (D.map (·.1))) ∧ Hid (∀ t ∈ D, EvOk w.heap.size t.1 t.2.1 t.2.2 wr) ∧ Codes wr gc ∧ w.grownBy wr (some gc))
    (fun _ n _ => (intOf n).toNat)
  case atStart => exact ⟨r, [], rfl, r0, by simp, World.ownsRow_nil _ _ _ _, keep (by simp), hC1, hg1⟩
  case round =>
    clear hC1 hg1
    obtain ⟨m, D, rfl, hm0, hml, hown, hD, hC, hG⟩ := hrel
    have hm5 : m ≤ 101 := by omega
    have hl5 : (D.length : Int) ≤ 101 := by omega
    have HML := keep hml
    clear hml
    by_cases hp : 0 < m
    · have hd : decide (0 < m) = true := by simpa using hp
      go_wp2_with fail
      refine (makeEvent gc _ hC).mono ?_
      rintro x w2 ⟨e, L, F, rfl, hE, hC2, hg2⟩
      have hz1 := hG.size
      replace hE := hE.base hz1
      replace hown := own_grown hown hg2 hl
      have hD2 := keep fun t ht => (hD.out t ht).grown hg2 hl
      replace hG := grownBy_trans hG hg2
      have hz2 := hG.size
      clear hC hg2 hD
      obtain ⟨⟨lA, ln, lc, hln⟩, ⟨fA, fn, fc, hfd⟩, htr⟩ := hE.shapes
      obtain ⟨vho, vfi, vfr, vto, vln, vti, vwt, vtr, vst, vfd⟩ := e
      simp only at hln hfd htr
      subst hln
      subst hfd
      clear htr
      have HE := keep hE
      clear hE
      simp only [Ev.vals]
      go_wp2_with (refine wpList_push elEv rfl rfl _ _ _ rfl rfl rfl w.heap.size _ (.agg #[.int .i64 vho, .int .i64 vfi, .int .i64 vfr, .int .i64 vto, .slice lA ln lc, .int .i64 vti, .int .i64 vwt, .string vtr, .string vst, .slice fA fn fc]) _ _ rfl (fun _ => rfl) (fun _ => rfl) hown rfl (by simp [Value.cells, Value.oneCell']) (by omega) (by unfold maxLen; omega) (by omega) hz2 ?_; intro g cap w4 hown4 hb4 hg4 _ _)
      go_roundw
      case rel =>
        refine ⟨m - 1, D ++ [(⟨vho, vfi, vfr, vto, .slice lA ln lc, vti, vwt, vtr, vst, .slice fA fn fc⟩, L, F)], by go_num, by omega, by have := HML.out; simp; omega, ?_, keep ?_, hC2.under hb4 hl, grownBy_below hG hb4⟩
        · rw [List.map_append, List.map_cons, List.map_nil, evV_snoc, List.length_append]
          exact hown4
        · intro t ht
          rcases List.mem_append.1 ht with ht | ht
          · exact (hD2.out t ht).pushed hown hg4
          · simp at ht
            subst ht
            exact HE.out.pushed hown hg4
      case measure => simp [intOf]; omega
    · have hd : decide (0 < m) = false := by simpa using hp
      go_wp2_with fail
      go_ret
      exact ⟨_, D, rfl, hown, by have := HML.out; omega, hD.out, hC, hG⟩
end Go.Proofs.YtncmbdcicjolcaaDoor
