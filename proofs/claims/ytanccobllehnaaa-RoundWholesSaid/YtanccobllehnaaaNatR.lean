/- The document's whole numbers in memory, and the contract of trim. -/
import Derived.Test.YtanccobllehnaaaNatP
import Derived.Test.YtanccobllehnaaaSMem
import Derived.Deep.Slices
namespace Go.Proofs.Ytanccobllehnaaa
open Go.RowKit

def nums (l : List Nat) : List Value := l.map fun (x : Nat) => .int .u32 (x : Int)
theorem nums_len (l : List Nat) : (nums l).length = l.length := by simp [nums]
/-- words that are read -/
def WR (w : World) (B : Nat) (A : Option Addr) (l : List Nat) : Prop := Reads w B 1 A l.length (nums l)
section
variable {w w' : World} {B B' : Nat} {A : Option Addr} {l : List Nat}
theorem WR.at_ {k : Nat} (h : WR w B A l) (hk : k < l.length) : ∃ b off, A = some ⟨b, off, none⟩ ∧ b < B ∧ w.cell? ⟨b, off + k, none⟩ = some (.int .u32 (l[k] : Int)) := by
  obtain ⟨ad, u, h1, h2, h3, h4⟩ := Reads.at_ (k := k) h hk
  obtain ⟨ad', u', h1', _, _, h4'⟩ := Reads.at_ (k := 0) h (by omega)
  rw [h1] at h1'
  obtain rfl := Option.some.inj h1'
  have h5 : (nums l)[k]? = some (.int .u32 (l[k] : Int)) := by simp [nums, hk]
  rw [h5] at h3
  obtain rfl := Option.some.inj h3
  obtain ⟨b, off, spot⟩ := ad
  have hspot : spot = none := by simpa [Addr.add] using World.cell?_spot h4'
  subst hspot
  rw [Addr.add_lit] at h4
  exact ⟨b, off, h1, h2, h4⟩
theorem WR.more (h : WR w B A l) (hB : B ≤ B') : WR w B' A l := Reads.more h hB
theorem WR.below (h : WR w B A l) (hb : Below B w w') : WR w' B A l := Reads.below h hb
theorem WR.take (h : WR w B A l) {n : Nat} (hn : n ≤ l.length) : WR w B A (l.take n) := by
  refine ⟨by rw [nums_len]; omega, fun h0 => ?_⟩
  have hl : 0 < l.length := by rw [List.length_take] at h0; omega
  obtain ⟨ad, e, hb, hc⟩ := h.2 hl
  refine ⟨ad, e, hb, fun j u hu => hc j u ?_⟩
  simp only [nums, List.map_take, List.getElem?_take] at hu ⊢
  split at hu
  · exact hu
  · cases hu
end
theorem Reads.new_ (w : World) (e : TypeId) (cs : List Value) (size n : Nat) (h : cs.length = n * size) : Reads (w.alloc (.cells cs.toArray e)) (w.heap.size + 1) size (some ⟨w.heap.size, 0, none⟩) n cs := by
  refine ⟨h, fun _ => ⟨_, rfl, by simp, fun j u hu => ?_⟩⟩
  rw [Addr.add_lit, Nat.zero_add, cell_of_row _ w.heap.size j cs.toArray e (0, 0) (heap_alloc_new w _)]
  simpa using hu

theorem size_nat (w : World) : (sizeOf (Try.prog.elem 51)).run Try.prog w = .ok 1 w := by kernel_rfl
theorem und_nat : Try.prog.underlying 51 = some (.slice (Try.prog.elem 51)) := by kernel_rfl
theorem run_nat_to (w : World) (a : Option Addr) (len cap : Nat) (kh : IntKind) (h : Int) (h0 : 0 ≤ h) (h2 : h ≤ cap) :
    (Instr.slice 51 (.slice a len cap) none (some (.int kh h)) none).run Try.prog w = .ok (.slice a h.toNat cap) w := by
  rw [run_slice_h w _ a len cap und_nat kh h h0 h2, size_nat]
  have hz : (a.map fun x => x.add 0) = a := by cases a <;> simp [Addr.add]
  by_cases hc : cap = 0
  · simp [Result.andThen, sliced, hc]
  · simp [Result.andThen, sliced, hc, hz]
attribute [local go_sem high] run_nat_to
def TRrel (l : List Nat) (w : World) (i : Value) (wr : World) : Prop := ∃ k : Nat, i = .int .i64 (k : Int) ∧ k ≤ l.length ∧ (∀ d ∈ l.drop k, d = 0) ∧ wr = w
theorem trim_done {l : List Nat} {k : Nat} (h : k ≤ l.length) (hk : k = 0 ∨ ∃ h' : k - 1 < l.length, l[k - 1] ≠ 0) : Trim (l.take k) := by
  intro hne
  rcases hk with rfl | ⟨h1, h2⟩
  · simp at hne
  · have hk0 : k ≠ 0 := by rintro rfl; simp at hne
    rw [List.getLast_eq_getElem]
    simp only [List.length_take, List.getElem_take, Nat.min_eq_left h]
    exact h2

set_option maxRecDepth 100000 in
set_option maxHeartbeats 800000 in
theorem trim_any {A : Option Addr} {cap n B : Nat} {l : List Nat} {w : World} (hn : Hid (n = l.length)) (hcap : n ≤ cap) (hm : cap ≤ maxLen) (hr : WR w B A l) :
    Calls Try.prog 79 #[.slice A n cap] w fun e w' => ∃ k, e = .returned (.slice A k cap) ∧ k ≤ l.length ∧ (∀ d ∈ l.drop k, d = 0) ∧ Trim (l.take k) ∧ w' = w := by
  have hn' := hn.out
  subst hn'
  unfold maxLen at hm
  go_enter Try.func79, Try.ntmps79
  go_wp2
  go_loopw [3] (fun i wr => TRrel l w i wr) (fun i _ => (intOf i).toNat)
  case atStart => exact ⟨l.length, rfl, Nat.le_refl _, by simp, rfl⟩
  case round =>
    obtain ⟨k, rfl, hk, hz, rfl⟩ := hrel
    by_cases h0 : k = 0
    · subst h0
      have HT := Lib.hid (trim_done hk (.inl rfl))
      have HZ := Lib.hid hz
      clear hz
      go_wp2
      go_ret
      exact ⟨0, rfl, hk, HZ.out, HT.out, rfl⟩
    · have hlt : k - 1 < l.length := by omega
      obtain ⟨b, off, rfl, -, a0⟩ := hr.at_ hlt
      have hk1 : IntKind.i64.wrap ((k : Int) - 1) = ((k - 1 : Nat) : Int) := by rw [IntWalk.i64_in _ (by omega)]; omega
      have hk2 : (k : Int) - 1 = ((k - 1 : Nat) : Int) := by omega
      have hk3 : ((k - 1 : Nat) : Int) < (l.length : Int) := by omega
      have hk4 : (0 : Int) < (k : Int) := by omega
      by_cases hd : l[k - 1] = 0
      · have HZ : Hid (∀ d ∈ l.drop (k - 1), d = 0) := Lib.hid (by
          intro d hd'
          rw [List.drop_eq_getElem_cons hlt, show k - 1 + 1 = k from by omega] at hd'
          rcases List.mem_cons.1 hd' with e | e
          · rw [e]; exact hd
          · exact hz d e)
        clear hz
        rw [hd] at a0
        go_wp2
        go_roundw
        case rel => exact ⟨k - 1, by go_num, by omega, HZ.out, rfl⟩
        case measure => simp [intOf]; omega
      · have HT := Lib.hid (trim_done hk (.inr ⟨hlt, hd⟩))
        have HZ := Lib.hid hz
        have hd' : ((l[k - 1] : Int) == 0) = false := by rw [beq_eq_false_iff_ne]; omega
        clear hz
        generalize l[k - 1] = x at *
        go_wp2
        go_ret
        exact ⟨k, rfl, hk, HZ.out, HT.out, rfl⟩
end Go.Proofs.Ytanccobllehnaaa
