/- The contracts of Ints and Fixed, of both sides, as the statement wants them. -/
import Derived.Test.YthhanpfcnaokpaaRFixed
import Derived.Test.YthhanpfcnaokpaaLaws
namespace Go.Proofs.Ythhanpfcnaokpaa
open Go.RowKit

def errI (r : Option (List Nat)) : Int := match r with | none => 6 | some _ => 0
theorem bulkF_len : ∀ fs : List Fld, fs.length ≤ bulkF fs
  | [] => Nat.le_refl _
  | f :: fs => by have := bulkF_len fs; simp only [bulkF, List.length_cons]; omega
theorem num_at {w : World} {B : Nat} {A : Option Addr} {kd : IntKind} {l : List Nat} {n k : Nat} (h : Reads w B 1 A n (nums kd l)) (hk : k < l.length) : ∃ b off, A = some ⟨b, off, none⟩ ∧ b < B ∧ w.cell? ⟨b, off + k, none⟩ = some (.int kd (l[k] : Int)) := by
  have hn : n = l.length := by have := h.1; simp [nums] at this; omega
  obtain ⟨ad, u, h1, h2, h3, h4⟩ := Reads.at_ (k := k) h (by omega)
  obtain ⟨ad', u', h1', _, _, h4'⟩ := Reads.at_ (k := 0) h (by omega)
  rw [h1] at h1'
  obtain rfl := Option.some.inj h1'
  have h5 : (nums kd l)[k]? = some (.int kd (l[k] : Int)) := by simp [nums, hk]
  rw [h5] at h3
  obtain rfl := Option.some.inj h3
  obtain ⟨b, off, spot⟩ := ad
  have hspot : spot = none := by simpa [Addr.add] using World.cell?_spot h4'
  subst hspot
  rw [Addr.add_lit] at h4
  exact ⟨b, off, h1, h2, h4⟩
def NV (k : IntKind) (w : World) (xs : List Nat) (er : Int) (e : Ending) (w' : World) : Prop :=
  ∃ A c, e = .returned (.tuple #[.slice A xs.length c, .int .i64 er]) ∧ xs.length ≤ c ∧ c ≤ maxLen ∧ Reads w' w'.heap.size 1 A xs.length (nums k xs) ∧ Below w.heap.size w w'
theorem NR.v {k : IntKind} {t : TypeId} {w w' : World} {r : Option (List Nat)} {e : Ending} (h : NR k t w r e w') {xs : List Nat} {er : Int} (hx : r.getD [] = xs) (he : errI r = er) : NV k w xs er e w' := by
  obtain ⟨v, rfl, ho, hb⟩ := h
  subst hx he
  obtain ⟨A, n, c, rfl, rfl, h2, h3, h4⟩ := ho.form
  exact ⟨A, c, rfl, h2, h3, h4, hb⟩
section
variable {A : Option Addr} {cap : Nat} {fs : List Fld} {num : Int} {w : World} {xs : List Nat} {er : Int}
theorem ints_v (hx : (ints num fs).getD [] = xs) (he : errI (ints num fs) = er) (hm : cap ≤ maxLen) (hcap : fs.length ≤ cap) (hb : RF w w.heap.size A fs) (hbulk : bulkF fs + 1 ≤ 17592186044416) :
    Calls Try.prog 27 #[.slice A fs.length cap, .int .i64 num] w (NV .u64 w xs er) :=
  (ints_any A cap fs num w hm hcap hb hbulk).mono fun _ _ h => NR.v (k := .u64) (t := 23) h hx he
theorem rints_v (hx : (ints num fs).getD [] = xs) (he : errI (ints num fs) = er) (hb : RF w w.heap.size A fs) (hfl : fs.length + 1 ≤ 2900000000000) (hbulk : bulkF fs + 1 ≤ 17592186044416) :
    Calls Try.prog 34 #[.slice A fs.length cap, .int .i64 num] w (NV .u64 w xs er) :=
  (rints_any A cap fs num w hb hfl hbulk).mono fun _ _ h => NR.v h hx he
theorem fixd_v (hx : (gat (fixs1 num) fs).getD [] = xs) (he : errI (gat (fixs1 num) fs) = er) (hm : cap ≤ maxLen) (hcap : fs.length ≤ cap) (hb : RF w w.heap.size A fs) (hbulk : bulkF fs + 1 ≤ 17592186044416) :
    Calls Try.prog 35 #[.slice A fs.length cap, .int .i64 num] w (NV .u32 w xs er) :=
  (fixd_any A cap fs num w hm hcap hb hbulk).mono fun _ _ h => NR.v h hx he
theorem rfixd_v (hx : (gat (fixs1 num) fs).getD [] = xs) (he : errI (gat (fixs1 num) fs) = er) (hb : RF w w.heap.size A fs) (hfl : fs.length + 1 ≤ 2900000000000) (hbulk : bulkF fs + 1 ≤ 17592186044416) :
    Calls Try.prog 36 #[.slice A fs.length cap, .int .i64 num] w (NV .u32 w xs er) :=
  (rfixd_any A cap fs num w hb hfl hbulk).mono fun _ _ h => NR.v h hx he
end
end Go.Proofs.Ythhanpfcnaokpaa
