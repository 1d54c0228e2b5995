/- Words written into a row of the call's own. -/
import Derived.Test.YtanccobllehnaaaNatV
namespace Go.Proofs.Ytanccobllehnaaa
open Go.RowKit

theorem ON.set {w : World} {base g n cap : Nat} {l : List Nat} (ho : ON w base (.slice (some ⟨g, 0, none⟩) n cap) l) (k c : Nat) :
    ON (w.setCell ⟨g, k, none⟩ (.int .u32 (c : Int))) base (.slice (some ⟨g, 0, none⟩) n cap) (l.set k c) := by
  obtain ⟨h1, h2⟩ := ho
  refine ⟨by rw [nums_len, List.length_set]; omega, ?_⟩
  rcases h2 with ⟨h, _⟩ | ⟨g', cap', cur, hv, hb, hg, hnc, hcm, hcs, htake⟩
  · cases h
  · injection hv with e1 e2 e3
    simp only [Option.some.injEq, Addr.mk.injEq, and_true] at e1
    subst e1 e3
    refine .inr ⟨g, cap, cur.setIfInBounds k (.int .u32 (c : Int)), by rw [List.length_set, e2], hb, (Blk.set_ (w := w) (g := g) hg k _), by rw [List.length_set]; exact hnc, hcm, by simpa using hcs, ?_⟩
    rw [List.length_set, Array.toList_setIfInBounds, List.take_set, htake]
    simp [nums, List.map_set]
theorem ON.at_ {w : World} {base n c : Nat} {A : Option Addr} {l : List Nat} (h : ON w base (.slice A n c) l) {k : Nat} (hk : k < l.length) :
    ∃ gd, A = some ⟨gd, 0, none⟩ ∧ base ≤ gd ∧ w.cell? ⟨gd, k, none⟩ = some (.int .u32 (l[k] : Int)) ∧ w.frozen? ⟨gd, k, none⟩ = false := by
  rcases h.2 with ⟨h1, h2⟩ | ⟨gd, cap, cur, h1, hb, hg, hnc, hcm, hcs, htake⟩
  · omega
  · injection h1 with e1 e2 e3
    have hk' : Blk w gd 22 cur := hg
    refine ⟨gd, e1, hb, ?_, hk'.frozen k⟩
    rw [hk'.cell k]
    have h5 : (nums l)[k]? = some (.int .u32 (l[k] : Int)) := by simp [nums, hk]
    rw [← htake, List.getElem?_take] at h5
    rw [if_pos (by omega)] at h5
    simpa using h5
end Go.Proofs.Ytanccobllehnaaa
