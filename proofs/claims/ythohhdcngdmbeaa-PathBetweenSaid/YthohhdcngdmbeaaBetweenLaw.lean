/- PathBetween in plain Lean. No condition beyond those stated. -/
import Derived.Test.YthohhdcngdmbeaaPathBase
set_option linter.unusedVariables false
set_option linter.unusedSimpArgs false
namespace Go.Proofs.Ythohhdcngdmbeaa.H
open Go Go.VM
set_option maxRecDepth 100000
theorem mids_one : ∀ (a b : List W34), a.length = b.length → List.zipWith (midp 65536) a b = b
  | [], [], _ => rfl
  | p :: a, q :: b, h => by
    have : midp 65536 p q = q := by unfold midp; rw [mid_one, mid_one]
    rw [List.zipWith_cons_cons, this, mids_one a b (by simpa using h)]
  | [], _ :: _, h => by simp at h
  | _ :: _, [], h => by simp at h
theorem mids_ok {t : Int} (ht : 0 ≤ t ∧ t ≤ 65536) : ∀ (a b : List W34), (∀ p ∈ a, okq p) → (∀ p ∈ b, okq p) → ∀ p ∈ List.zipWith (midp t) a b, okq p
  | [], _, _, _ => by simp
  | _ :: _, [], _, _ => by simp
  | p :: a, q :: b, ha, hb => by
    intro r hr
    rw [List.zipWith_cons_cons, List.mem_cons] at hr
    rcases hr with rfl | hr
    · exact okq_mid ht (ha p (by simp)) (hb q (by simp))
    · exact mids_ok ht a b (fun x hx => ha x (List.mem_cons_of_mem _ hx)) (fun x hx => hb x (List.mem_cons_of_mem _ hx)) r hr
theorem fit (o : List W34) : List.take o.length (Rw o) = Rw o := by rw [List.take_of_length_le (by simp)]
theorem pathBetween_plain (ta tb : List W3) (hla : (ta.length : Int) ≤ 9223372036854775807) (hlb : (tb.length : Int) ≤ 9223372036854775807) (p : Int) : F3 (Rt ta) (Rt tb) p = some (.a0 true) := by
  obtain ⟨v, s1, e1, v0, v1, p1⟩ := next_ex ta 0 5 (by decide) hla (by decide)
  have hm : w64 (1 + v) = ((v.toNat + 1 : Nat) : Int) := by rw [w64_in (by omega) (by omega)]; omega
  obtain ⟨a, s2, e2, la, oa, p2⟩ := path_ex ta hla true (v.toNat + 1) (by omega) s1 p1
  obtain ⟨b, s3, e3, lb, ob, p3⟩ := path_ex tb hlb true (v.toNat + 1) (by omega) 0 (by decide)
  obtain ⟨k, e4, k0, k1⟩ := part_ex p
  obtain ⟨e, s4, e5, le, oe, p4⟩ := path_ex tb hlb true (v.toNat + 1 + 1) (by omega) s3 p3
  have hab : a.length = b.length := by omega
  have hz : (List.zipWith (midp k) a b).length = a.length := by simp; omega
  have hra : (Rw a).length = a.length := by simp
  have hrb : (Rw b).length = a.length := by simp; omega
  have hre : (Rw e).length = e.length := by simp
  have hrz : (Rw (List.zipWith (midp k) a b)).length = a.length := by rw [List.length_map]; exact hz
  have fa : List.take a.length (Rw a) = Rw a := fit a
  have fb : List.take a.length (Rw b) = Rw b := by rw [hab]; exact fit b
  have fe : List.take e.length (Rw e) = Rw e := fit e
  have fz : List.take a.length (Rw (List.zipWith (midp k) a b)) = Rw (List.zipWith (midp k) a b) := by rw [List.take_of_length_le (by rw [hrz]; omega)]
  have hw : w64 (((v.toNat + 1 : Nat) : Int) + 1) = ((v.toNat + 1 + 1 : Nat) : Int) := by rw [w64_in (by omega) (by omega)]; omega
  have ga : 0 + a.length ≤ (Rw a).length := by rw [hra]; omega
  have gb : 0 + a.length ≤ (Rw b).length := by rw [hrb]; omega
  have ge : 0 + e.length ≤ (Rw e).length := by rw [hre]; omega
  have gz : 0 + a.length ≤ (Rw (List.zipWith (midp k) a b)).length := by rw [hrz]; omega
  have m1 := morph_ok a b true k ⟨k0, k1⟩ hab (by omega) (by omega) oa ob
  have m2 := morph_no a e true k (by omega) (by omega) (by omega)
  have m3 := morph_ok a b true 65536 (by decide) hab (by omega) (by omega) oa ob
  rw [mids_one a b hab] at m3
  have lp := between_loop a b (List.zipWith (midp k) a b) ((v.toNat + 1 : Nat) : Int) k s3 (Rt tb) (by omega) hab (by omega) (fun i p q r hp hq hr => by
    rw [List.getElem?_zipWith, hp, hq] at hr
    obtain rfl : midp k p q = r := by simpa using hr
    have w1 := oa p (List.mem_of_getElem? hp)
    have w2 := ob q (List.mem_of_getElem? hq)
    exact ⟨mid_bd w1.1 w2.1 ⟨k0, k1⟩, mid_bd w1.2 w2.2 ⟨k0, k1⟩⟩) 100000 0 (by omega) (by omega)
  rw [show ((0 : Nat) : Int) = 0 by rfl] at lp
  have rp := right_path (List.zipWith (midp k) a b) (v.toNat + 1) (by omega) (by omega) (mids_ok ⟨k0, k1⟩ a b oa ob)
  have sa := same_path a true (by omega)
  have sb := same_path b true (by omega)
  unfold F3
  rw [e1]
  simp only [Option.bind_some, hm]
  rw [e2]
  simp only [Option.bind_some]
  rw [e3]
  simp only [Option.bind_some, ← hab]
  rw [e4]
  simp only [Option.bind_some]
  rw [if_pos ga, if_pos gb, fa, fb, m1]
  simp only [Option.bind_some]
  rw [if_neg (by simp), if_neg (by decide), lp]
  simp only [Option.bind_some]
  rw [if_pos gz, fz, rp]
  simp only [Option.bind_some, if_true, hw]
  rw [e5]
  simp only [Option.bind_some]
  rw [if_pos ga, if_pos ge, fa, fe, m2]
  simp only [Option.bind_some]
  rw [if_pos ga, fa, sa]
  simp only [Option.bind_some, if_true]
  rw [if_pos gb, fb, m3]
  simp only [Option.bind_some]
  rw [if_pos gb, fb, sb]
  simp only [Option.bind_some, if_true]
  rw [known7]; rfl
end Go.Proofs.Ythohhdcngdmbeaa.H
