/- What joins the plain laws of there-and-back to the walks. -/
import Derived.Test.YthhanpfcnaokpaaEq
import Derived.Test.YthhanpfcnaokpaaBackP
import Derived.Test.YthhanpfcnaokpaaPlainF
namespace Go.Proofs.Ythhanpfcnaokpaa
open Go.RowKit

theorem wf_back {fs : List Fld} (h : Wf64 fs) : ∀ f ∈ fs, f.x < 18446744073709551616 ∧ f.data.length < 18446744073709551616 := fun f hf => ⟨(h f hf).1, by have := (h f hf).2; omega⟩
theorem ok_back {fs : List Fld} (h : ∀ f ∈ fs, f.x < 18446744073709551616 ∧ f.data.length ≤ 4194304) : ∀ f ∈ fs, f.x < 18446744073709551616 ∧ f.data.length < 18446744073709551616 := fun f hf => ⟨(h f hf).1, by have := (h f hf).2; omega⟩
theorem wf_read {l : List UInt8} {fs : List Fld} (h : readE l = (fs, 0)) : Wf64 fs := fun f hf => ⟨((write_read h).2.2 f hf).1, by have := ((write_read h).2.2 f hf).2; omega⟩
theorem read_err {l : List UInt8} {fs : List Fld} {er : Int} (h : readE l = (fs, er)) (hne : er ≠ 0) : fs = [] ∧ (er = 6 ∨ er = 8) := by
  unfold readE at h
  split at h
  · simp only [Prod.mk.injEq] at h
    exact ⟨h.1.symm, .inr h.2.symm⟩
  · split at h <;> simp only [Prod.mk.injEq] at h
    · exact ⟨h.1.symm, .inl h.2.symm⟩
    · exact absurd h.2.symm hne
end Go.Proofs.Ythhanpfcnaokpaa
