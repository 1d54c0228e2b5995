/- A cut of a slice of fields. -/
import Derived.Test.YtlhpmlknmgocoaaOnPb
namespace Go.Proofs.Ytlhpmlknmgocoaa
set_option linter.unusedSimpArgs false
set_option linter.unusedVariables false
open Go.RowKit

def fcutA (A : Option Addr) (cap q : Nat) : Option Addr := if cap = q then A else A.map (·.add (q * 4))
theorem size_rfld (w : World) : (sizeOf (Try.prog.elem 48)).run Try.prog w = .ok 4 w := by kernel_rfl
theorem und_rflds : Try.prog.underlying 48 = some (.slice (Try.prog.elem 48)) := by kernel_rfl
theorem run_fcut_from (w : World) (a : Option Addr) (len cap : Nat) (kl : IntKind) (l : Int) (h0 : 0 ≤ l) (h1 : l ≤ len) :
    (Instr.slice 48 (.slice a len cap) (some (.int kl l)) none none).run Try.prog w = .ok (.slice (fcutA a cap l.toNat) (len - l.toNat) (cap - l.toNat)) w := by
  rw [run_slice_l w _ a len cap und_rflds kl l h0 h1, size_rfld]
  simp [Result.andThen, sliced, fcutA]
theorem run_fcut_to (w : World) (a : Option Addr) (len cap : Nat) (kh : IntKind) (h : Int) (h0 : 0 ≤ h) (h1 : h ≤ cap) :
    (Instr.slice 48 (.slice a len cap) none (some (.int kh h)) none).run Try.prog w = .ok (.slice a h.toNat cap) w := by
  rw [run_slice_h w _ a len cap und_rflds kh h h0 h1, size_rfld]
  simp only [Result.andThen, sliced, Nat.sub_zero, Nat.zero_mul]
  congr 2
  split
  · rfl
  · cases a with
    | none => rfl
    | some ad => simp [Addr.add]
attribute [go_sem high] run_fcut_from run_fcut_to
theorem fcells_drop : ∀ (fs : List Fld) (ds : List Value) (_ : ds.length = fs.length) (k : Nat), fcells (fs.drop k) (ds.drop k) = (fcells fs ds).drop (k * 4)
  | [], [], _, k => by simp [fcells]
  | f :: fs, d :: ds, h, 0 => by simp
  | f :: fs, d :: ds, h, k + 1 => by
    have := fcells_drop fs ds (by simpa using h) k
    simp only [List.drop_succ_cons, fcells, this]
    rw [show (k + 1) * 4 = k * 4 + 1 + 1 + 1 + 1 by omega]
    simp only [fcell, List.cons_append, List.nil_append, List.drop_succ_cons]
theorem fcells_take : ∀ (fs : List Fld) (ds : List Value) (_ : ds.length = fs.length) (k : Nat), fcells (fs.take k) (ds.take k) = (fcells fs ds).take (k * 4)
  | [], [], _, k => by simp [fcells]
  | f :: fs, d :: ds, h, 0 => by simp [fcells]
  | f :: fs, d :: ds, h, k + 1 => by
    have := fcells_take fs ds (by simpa using h) k
    simp only [List.take_succ_cons, fcells, this]
    rw [show (k + 1) * 4 = k * 4 + 1 + 1 + 1 + 1 by omega]
    simp only [fcell, List.cons_append, List.nil_append, List.take_succ_cons]
theorem RF.cut {w : World} {B : Nat} {A : Option Addr} {fs : List Fld} (h : RF w B A fs) {k cap : Nat} (hk : k ≤ fs.length) (hc : fs.length ≤ cap) : RF w B (fcutA A cap k) (fs.drop k) := by
  obtain ⟨ds, h1, h2, h3⟩ := h
  refine ⟨ds.drop k, by simp [h1], ?_, fun i h h' => ?_⟩
  · rw [fcells_drop fs ds h1, List.length_drop]
    exact h2.cut hk hc
  · simp only [List.getElem_drop]
    exact h3 _ _ _
theorem RF.take {w : World} {B : Nat} {A : Option Addr} {fs : List Fld} (h : RF w B A fs) (k : Nat) : RF w B A (fs.take k) := by
  obtain ⟨ds, h1, h2, h3⟩ := h
  refine ⟨ds.take k, by simp [h1], ⟨?_, fun hn => ?_⟩, fun i h h' => ?_⟩
  · exact fcells_len _ _ (by simp [h1])
  · rw [List.length_take] at hn
    obtain ⟨ad, e, hb, hc⟩ := h2.2 (by omega)
    refine ⟨ad, e, hb, fun j u hu => hc j u ?_⟩
    rw [fcells_take fs ds h1, List.getElem?_take] at hu
    split at hu
    · exact hu
    · cases hu
  · simp only [List.getElem_take]
    exact h3 _ _ _
end Go.Proofs.Ytlhpmlknmgocoaa
