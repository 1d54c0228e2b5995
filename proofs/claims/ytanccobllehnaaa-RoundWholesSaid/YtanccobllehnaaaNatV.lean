/- Plain: the steps of the document's Times. -/
import Derived.Test.YtanccobllehnaaaNatU
namespace Go.Proofs.Ytanccobllehnaaa

theorem wv_set {l : List Nat} {j d : Nat} (h : j < l.length) : wv (l.set j d) + bs j * l[j] = wv l + bs j * d := by
  have e0 : l = l.take j ++ (l[j] :: l.drop (j + 1)) := by rw [← List.drop_eq_getElem_cons h, List.take_append_drop]
  have e1 : l.set j d = l.take j ++ (d :: l.drop (j + 1)) := by rw [List.set_eq_take_append_cons_drop, if_pos h]
  have f0 : wv l = wv (l.take j) + bs j * (l[j] + 4294967296 * wv (l.drop (j + 1))) := by
    conv => lhs; rw [e0]
    rw [wv_append, List.length_take, Nat.min_eq_left (by omega)]; rfl
  have f1 : wv (l.set j d) = wv (l.take j) + bs j * (d + 4294967296 * wv (l.drop (j + 1))) := by
    rw [e1, wv_append, List.length_take, Nat.min_eq_left (by omega)]; rfl
  rw [f0, f1, Nat.mul_add, Nat.mul_add]
  omega
/-- one round of the inner loop -/
theorem times_step {o : List Nat} {j x y c v : Nat} (h : j < o.length) (hv : wv o + bs j * c = v) :
    wv (o.set j ((x * y + o[j] + c) % 4294967296)) + bs (j + 1) * ((x * y + o[j] + c) / 4294967296) = v + bs j * (x * y) := by
  have h1 := wv_set (d := (x * y + o[j] + c) % 4294967296) h
  rw [bs_succ, Nat.mul_assoc]
  have h2 := Nat.mod_add_div (x * y + o[j] + c) 4294967296
  have h3 := congrArg (bs j * ·) h2
  simp only [Nat.mul_add] at h3
  omega
theorem times_big {x y z c : Nat} (hx : x < 4294967296) (hy : y < 4294967296) (hz : z < 4294967296) (hc : c < 4294967296) : x * y + z + c < 18446744073709551616 := by
  have := Nat.mul_le_mul (show x ≤ 4294967295 by omega) (show y ≤ 4294967295 by omega)
  omega
end Go.Proofs.Ytanccobllehnaaa
