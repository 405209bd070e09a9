/- FilterUnion: for every two filters and every list of choices the statement's function returns true, and the arguments read as before. No condition. -/
import Derived.Test.YtfainbgbeojcpaaLawUnion
import Derived.Test.YtfainbgbeojcpaaOpen
namespace Go.Proofs.Ytfainbgbeojcpaa.filterUnion
open Go.ChangeShapes Go.WideShapes Go.ChangeAt Go.RowKit Go.Joins

theorem walk (h1 h2 : Int) (s1 s2 vc : Value) (l1 l2 bs : List Int) (w : World) (hs1 : Sl w (lt w.heap.size) 1 s1 l1.length (l1.map (.int .u64))) (hs2 : Sl w (lt w.heap.size) 1 s2 l2.length (l2.map (.int .u64)))
    (hsc : Sl w (lt w.heap.size) 1 vc bs.length (bs.map (.int .u8))) (hr : ∀ x ∈ bs, (Lit.int .u8 x).wf = true) (hm : bs.length ≤ maxLen) :
    Calls Try.prog 4 #[.agg #[.int .i64 h1, s1], .agg #[.int .i64 h2, s2], vc] w fun e w' => e = .returned (.bool true) ∧ Below w.heap.size w w' := by
  by_cases h : 2000 < l1.length ∨ 2000 < l2.length
  · obtain ⟨A1, c1, rfl, _, _⟩ := hs1.form
    obtain ⟨A2, c2, rfl, _, _⟩ := hs2.form
    exact law_union_long h1 h2 A1 A2 _ c1 _ c2 vc w h
  · refine law_union_short h1 h2 s1 s2 vc l1 l2 bs w hs1 hs2 hsc (fun x hx => ?_) hm (by omega) (by omega)
    simpa [Lit.wf, IntKind.min, IntKind.max, IntKind.signed, IntKind.bits] using hr x hx

set_option maxRecDepth 100000 in
theorem lifted (os : Os) (started : os.Started) (H : Type) (enc : TypeId × Value → H) :
    ReturnsInHanded {} Try.checked os 4 .any (Rows.filterUnionSpec.pre6 enc Try.prog Try.f4 Rows.filterUnionRow.domain false) (Rows.filterUnionSpec.post enc Try.prog Try.f4 false true false false) := by
  refine returnsInHanded_of_change (C := Try.checked) knob started (by kernel_rfl) Try.func4
    (ChangeSpec.witness6 (enc := enc) (C := Try.checked) false ⟨#[], #[.agg #[.int .i64 0, .slice none 0 0], .agg #[.int .i64 0, .slice none 0 0], .slice none 0 0], []⟩ 8 (by kernel_rfl) (by kernel_rfl) (by kernel_rfl) (by kernel_rfl)) ?_
  intro W base args ds gs before hval0 hW hcnd _
  have hval : ∀ (j : Nat) t v, Try.f4.params[j]? = some t → args[j]? = some v → Value.okWide Try.prog W .any base t v := hval0
  have hW' := hW
  obtain ⟨p, q, hA0, hV, rfl, hfz, hnd⟩ := hW
  have hA : DataW.TrodAll enc Try.prog W 0 (fun _ => true) true Try.f4.params.toList args.toList ds p := hA0
  rw [Try.params4] at hA hval
  obtain ⟨v0, vs0, d0, ds0, p0, q0, hargs, rfl, rfl, h0, r0⟩ := trodAll_cons hA
  obtain ⟨v1, vs1, d1, ds1, p1, q1, rfl, rfl, rfl, h1, r1⟩ := trodAll_cons r0
  obtain ⟨v2, vs2, d2, ds2, p2, q2, rfl, rfl, rfl, h2, r2⟩ := trodAll_cons r1
  obtain ⟨rfl, rfl, rfl⟩ := trodAll_nil r2
  obtain rfl : args = #[v0, v1, v2] := by cases args; simp_all
  obtain ⟨x0, x1, y0, y1, m0, rfl, hd0, hp0, hx0, hx1⟩ := open_agg2 Try.underlying27 (by kernel_rfl) (by kernel_rfl) (hval 0 27 v0 rfl rfl) h0
  obtain ⟨x2, x3, y2, y3, m1, rfl, hd1, hp1, hx2, hx3⟩ := open_agg2 Try.underlying27 (by kernel_rfl) (by kernel_rfl) (hval 1 27 v1 rfl rfl) h1
  obtain ⟨n0, e0, _, _⟩ := DataW.trod_int Try.underlying3 hx0
  obtain ⟨n2, e2, _, _⟩ := DataW.trod_int Try.underlying3 hx2
  simp at e0 e2
  subst e0 e2
  obtain ⟨l1, hs1, _, _⟩ := sl_ints Try.underlying25 Try.underlying67 (by kernel_rfl) hx1
  obtain ⟨l2, hs2, _, _⟩ := sl_ints Try.underlying25 Try.underlying67 (by kernel_rfl) hx3
  obtain ⟨a2, len2, cap2, rfl⟩ := okWide_slice Try.underlying36 (hval 2 36 v2 rfl rfl)
  obtain ⟨m2, hm2⟩ := h2
  obtain ⟨bs, hsc, hm, hr⟩ := sl_ints Try.underlying36 Try.underlying5 (by kernel_rfl) hm2
  refine (walk n0 n2 x1 x3 _ l1 l2 bs W hs1 hs2 hsc hr hm).mono fun e W' ⟨he, hb⟩ => ?_
  subst he
  exact ⟨_, rfl, law_post laidOut (by kernel_rfl) rfl rfl Try.underlying4 hW' rfl hb⟩

theorem proved : Rows.FilterUnionSaid :=
  OpenClaim.holds_of_wide 4 Try.f4 rfl rfl rfl rfl rfl rfl rfl ⟨rfl, rfl, rfl, rfl, rfl⟩ rfl rfl rfl rfl rfl (by kernel_rfl) Try.func4 (by kernel_rfl)
    (of_decide_eq_true (by kernel_rfl)) (by unfold Func.isWrapper; first | (rw [if_pos (by decide +kernel)]; kernel_rfl) | (rw [if_neg (by decide +kernel)]; exact ⟨rfl, rfl⟩))
    (fun os started H enc _ => lifted os started H enc)
end Go.Proofs.Ytfainbgbeojcpaa.filterUnion
