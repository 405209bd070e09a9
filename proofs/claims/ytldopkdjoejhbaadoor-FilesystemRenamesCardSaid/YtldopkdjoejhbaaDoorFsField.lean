/- A store into a field of a file of a directory. -/
import Derived.Test.YtldopkdjoejhbaaDoorFsRemove
namespace Go.Proofs.YtldopkdjoejhbaaDoor
open Go.RowKit

theorem setFileO {w : World} {B gd g k j : Nat} {vN vF vO u : Value} {fs : FS} {a : Fi} (hb : Blk w gd 81 #[vN, vF, vO]) (hO : FsO w B vN vF vO fs) (hg : vF.ownBlock = some g) (hk : k < fs.F.length) (hj : j < 5)
    (ha : fiV a = (fiV fs.F[k]).set j u) (hr : FiR w a) : Blk (w.setCell ⟨g, k * 5 + j, none⟩ u) gd 81 #[vN, vF, vO] ∧ FsO (w.setCell ⟨g, k * 5 + j, none⟩ u) B vN vF vO ⟨fs.N, fs.F.set k a, fs.O⟩ := by
  obtain ⟨N, F, O⟩ := fs
  have hgr : w.grownBy (w.setCell ⟨g, k * 5 + j, none⟩ u) vF.ownBlock := by
    rw [hg]; exact grownBy_set (World.grownBy.refl w _) _ _
  have hst := own_store hO.f hg (k * 5 + j) u
  have hrow : (fis F).set (k * 5 + j) u = fis (F.set k a) := rows_set fiV_len F k hk j hj u a ha
  rw [show fis (FS.mk N F O).F = fis F from rfl, hrow] at hst
  have hno := own_noU8 hO.f (by decide)
  have hf : (w.setCell ⟨g, k * 5 + j, none⟩ u).ownsRow B 45 5 vF (F.set k a).length (fis (F.set k a)) := by rw [List.length_set]; exact hst
  have hO' : FsO (w.setCell ⟨g, k * 5 + j, none⟩ u) B vN vF vO ⟨N, F.set k a, O⟩ := hO.putF hgr hf (fun t ht => by
    rcases List.mem_or_eq_of_mem_set ht with h | rfl
    · exact (hO.d t h).grown hgr hno
    · exact hr.grown hgr hno)
  have hne : gd ≠ g := fun e => own_off hO.f hb (by decide) (by rw [hg, e])
  exact ⟨hb.far (p := ⟨g, k * 5 + j, none⟩) hne u, hO'⟩
theorem Dir.setFile {w : World} {B gd g k j : Nat} {vN vF vO u : Value} {fs : FS} {a : Fi} (hBg : B ≤ gd) (hb : Blk w gd 81 #[vN, vF, vO]) (hO : FsO w B vN vF vO fs) (hg : vF.ownBlock = some g) (hk : k < fs.F.length) (hj : j < 5)
    (ha : fiV a = (fiV fs.F[k]).set j u) (hr : FiR w a) : Dir (w.setCell ⟨g, k * 5 + j, none⟩ u) B gd ⟨fs.N, fs.F.set k a, fs.O⟩ := by
  have h := setFileO hb hO hg hk hj ha hr
  exact ⟨hBg, vN, vF, vO, h.1, h.2⟩
end Go.Proofs.YtldopkdjoejhbaaDoor
