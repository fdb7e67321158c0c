/- ShapeSides: how wide and high rectangles, ovals and stars are. Plain Lean over what the functions compute. No condition. -/
import Derived.Test.YtcomanfboibhiaaShChk
set_option linter.unusedVariables false
set_option linter.unusedSimpArgs false
namespace Go.Proofs.Ytcomanfboibhiaa.H
open Go Go.VM
set_option maxRecDepth 100000
def gt (l : List W44) (i : Nat) : W44 := l.getD i (⟨0, 0⟩ : W44)
theorem get_gt {l : List W44} {i : Nat} (hi : i < l.length) : ((Rw l)[i]?).bind W44.dec = some (gt l i) := by
  rw [rw_get]; unfold gt; rw [List.getD_eq_getElem?_getD, List.getElem?_eq_getElem hi]; rfl
theorem gt_app (l k : List W44) (i : Nat) : gt (l ++ k) i = if i < l.length then gt l i else gt k (i - l.length) := by
  unfold gt
  rw [List.getD_eq_getElem?_getD, List.getD_eq_getElem?_getD, List.getD_eq_getElem?_getD, List.getElem?_append]
  split <;> rfl
theorem rw_len (o : List W44) : (Rw o).length = o.length := by simp
theorem rw_all (o : List W44) : List.take o.length (Rw o) = Rw o := List.take_of_length_le (by simp)
theorem mul_at {d c : Int} (hd' : 0 ≤ d ∧ d ≤ 4194303) (hc : -65536 ≤ c ∧ c ≤ 65536) : mul d c = d * c / 65536 ∧ -274877906944 ≤ d * c ∧ d * c ≤ 274877906944 := by
  have p1 : 0 ≤ d * (65536 - c) := Int.mul_nonneg hd'.1 (by omega)
  have p2 : 0 ≤ d * (65536 + c) := Int.mul_nonneg hd'.1 (by omega)
  have q1 : d * (65536 - c) = 65536 * d - d * c := by grind
  have q2 : d * (65536 + c) = 65536 * d + d * c := by grind
  have b : -274877906944 ≤ d * c ∧ d * c ≤ 274877906944 := by omega
  refine ⟨?_, b⟩
  unfold mul
  rw [hd_of (a := d) (by omega) (by omega), hd_of (a := c) (by omega) (by omega), hd_of (by omega) (by omega)]
theorem sq_le {a M : Int} (h : -M ≤ a ∧ a ≤ M) : 0 ≤ a * a ∧ a * a ≤ M * M := by
  have p1 : 0 ≤ (M - a) * (M + a) := Int.mul_nonneg (by omega) (by omega)
  have q1 : (M - a) * (M + a) = M * M - a * a := by grind
  refine ⟨?_, by omega⟩
  by_cases h : 0 ≤ a
  · exact Int.mul_nonneg h h
  · have := Int.mul_nonneg (a := -a) (b := -a) (by omega) (by omega)
    rw [Int.neg_mul_neg] at this; exact this
theorem sq_near {x t : Int} (ht : -274877906944 ≤ t ∧ t ≤ 274877906944) (hx : x = t / 65536) : t * t - 36028797018963968 ≤ 4294967296 * (x * x) ∧ 4294967296 * (x * x) ≤ t * t + 36028801313931264 ∧ -4194304 ≤ x ∧ x ≤ 4194304 := by
  obtain ⟨e, he, h1, h2⟩ : ∃ e, t = 65536 * x + e ∧ 0 ≤ e ∧ e < 65536 := ⟨t % 65536, by omega, by omega, by omega⟩
  have q : 4294967296 * (x * x) = t * t - 2 * (t * e) + e * e := by
    have : (65536 * x) * (65536 * x) = (t - e) * (t - e) := by rw [he]; congr 1 <;> omega
    grind
  have s := sq_le (a := e) (M := 65536) (by omega)
  have p1 : 0 ≤ (274877906944 - t) * e := Int.mul_nonneg (by omega) h1
  have p2 : 0 ≤ (274877906944 + t) * e := Int.mul_nonneg (by omega) h1
  have q1 : (274877906944 - t) * e = 274877906944 * e - t * e := by grind
  have q2 : (274877906944 + t) * e = 274877906944 * e + t * e := by grind
  refine ⟨?_, ?_, by omega, by omega⟩ <;> omega
/-- A place is as far as it should be, by a little. -/
def Good (d : Int) (p : W44) : Prop := (-4194304 ≤ p.c0 ∧ p.c0 ≤ 4194304) ∧ (-4194304 ≤ p.c1 ∧ p.c1 ≤ 4194304) ∧ 4294967296 * (p.c0 * p.c0 + p.c1 * p.c1) ≤ 4337916969 * (d * d) + 144115188075855872 ∧ 4252017623 * (d * d) - 144115188075855872 ≤ 4294967296 * (p.c0 * p.c0 + p.c1 * p.c1)
theorem good_of {d c s : Int} (hd' : 0 ≤ d ∧ d ≤ 4194303) (hc : -65536 ≤ c ∧ c ≤ 65536) (hs : -65536 ≤ s ∧ s ≤ 65536) (h1 : 4252017623 ≤ c * c + s * s) (h2 : c * c + s * s ≤ 4337916969) : Good d ⟨mul d c, mul d s⟩ := by
  obtain ⟨m1, c1, c2⟩ := mul_at hd' hc
  obtain ⟨m2, s1, s2⟩ := mul_at hd' hs
  obtain ⟨x1, x2, x3, x4⟩ := sq_near (x := mul d c) ⟨c1, c2⟩ m1
  obtain ⟨y1, y2, y3, y4⟩ := sq_near (x := mul d s) ⟨s1, s2⟩ m2
  have dd := sq_le (a := d) (M := 4194303) (by omega)
  have k1 : 0 ≤ (d * d) * (c * c + s * s - 4252017623) := Int.mul_nonneg dd.1 (by omega)
  have k2 : 0 ≤ (d * d) * (4337916969 - (c * c + s * s)) := Int.mul_nonneg dd.1 (by omega)
  have e1 : (d * d) * (c * c + s * s - 4252017623) = d * c * (d * c) + d * s * (d * s) - 4252017623 * (d * d) := by grind
  have e2 : (d * d) * (4337916969 - (c * c + s * s)) = 4337916969 * (d * d) - (d * c * (d * c) + d * s * (d * s)) := by grind
  refine ⟨⟨x3, x4⟩, ⟨y3, y4⟩, ?_, ?_⟩
  · show 4294967296 * (mul d c * mul d c + mul d s * mul d s) ≤ _
    omega
  · show _ ≤ 4294967296 * (mul d c * mul d c + mul d s * mul d s)
    omega
theorem chk_at {k j : Nat} (hk : 2 ≤ k ∧ k ≤ 16) (hj : j < 2 * k) : ∃ c s, F40 (ang k j) = some (.a0 c) ∧ F41 (ang k j) = some (.a0 s) ∧ (-65536 ≤ c ∧ c ≤ 65536) ∧ (-65536 ≤ s ∧ s ≤ 65536) ∧ 4252017623 ≤ c * c + s * s ∧ c * c + s * s ≤ 4337916969 := by
  have h := chk_all
  rw [List.all_eq_true] at h
  have h := h (k - 2) (List.mem_range.2 (by omega))
  rw [List.all_eq_true, show k - 2 + 2 = k by omega] at h
  have h := h j (List.mem_range.2 hj)
  exact chk_of (F40 (ang k j)) (F41 (ang k j)) h
def far (a b : Int) (j : Nat) : Int := if j % 2 = 1 then b else a
theorem star_loop {k : Nat} (hk : 2 ≤ k ∧ k ≤ 16) {a b : Int} (ha : 0 ≤ a ∧ a ≤ 4194303) (hb : 0 ≤ b ∧ b ≤ 4194303) : ∀ (m n : Nat) (o : List W44), o.length + m = 2 * k → m < n → (∀ j, j < o.length → Good (far a b j) (gt o j)) →
    ∃ o' : List W44, L20_0 n k a b o.length ((2 * k : Nat) : Int) o.length (Rw o) = some (.e0 o'.length (Rw o')) ∧ o'.length = 2 * k ∧ ∀ j, j < o'.length → Good (far a b j) (gt o' j)
  | _, 0, _, _, h, _ => by omega
  | 0, n + 1, o, h, _, hg => ⟨o, by rw [L20_0, if_neg (by omega)], by omega, hg⟩
  | m + 1, n + 1, o, h, hn, hg => by
    obtain ⟨c, s, e1, e2, c1, s1, k1, k2⟩ := chk_at hk (j := o.length) (by omega)
    have hs : w64 ((o.length : Int) + 1) = ((o.length + 1 : Nat) : Int) := by rw [w64_in (by omega) (by omega)]; omega
    unfold ang at e1 e2
    have step : ∀ d : Int, 0 ≤ d ∧ d ≤ 4194303 → far a b o.length = d → ∃ o' : List W44, L20_0 n k a b (o.length + 1) ((2 * k : Nat) : Int) ((o.length + 1 : Nat) : Int) (List.take o.length (Rw o) ++ [[i64 (mul d c), i64 (mul d s)]]) = some (.e0 o'.length (Rw o')) ∧ o'.length = 2 * k ∧ ∀ j, j < o'.length → Good (far a b j) (gt o' j) := fun d hd' hf => by
      have ih := star_loop hk ha hb m n (o ++ [⟨mul d c, mul d s⟩]) (by simp; omega) (by omega) (fun j hj => by
        rw [List.length_append, List.length_singleton] at hj
        rw [gt_app]
        by_cases hjl : j < o.length
        · rw [if_pos hjl]; exact hg j hjl
        · rw [if_neg hjl, show j - o.length = 0 by omega, show j = o.length by omega, hf]
          exact good_of hd' c1 s1 k1 k2)
      rw [List.length_append, List.length_singleton] at ih
      have p : List.take o.length (Rw o) ++ [[i64 (mul d c), i64 (mul d s)]] = Rw (o ++ [⟨mul d c, mul d s⟩]) := by
        rw [rw_all]; simp
      rw [p]; exact ih
    have f38 : ∀ x y : Int, F38 x y = some (.a0 x y) := fun _ _ => rfl
    have t2 : Int.tmod (o.length : Int) 2 = ((o.length % 2 : Nat) : Int) := by rw [Int.tmod_eq_emod_of_nonneg (by omega)]; omega
    rw [L20_0, if_pos (by omega), if_neg (by omega)]
    by_cases hodd : o.length % 2 = 1
    · rw [if_pos (by rw [beq_iff_eq, t2]; omega), e1, Option.bind_some]
      dsimp only
      rw [F39_eq, Option.bind_some]
      dsimp only
      rw [e2, Option.bind_some]
      dsimp only
      rw [F39_eq, Option.bind_some]
      dsimp only
      rw [f38, Option.bind_some]
      dsimp only
      rw [if_pos (by rw [rw_len]; omega), hs]
      exact step b hb (by unfold far; rw [if_pos hodd])
    · rw [if_neg (by rw [beq_iff_eq, t2]; omega), e1, Option.bind_some]
      dsimp only
      rw [F39_eq, Option.bind_some]
      dsimp only
      rw [e2, Option.bind_some]
      dsimp only
      rw [F39_eq, Option.bind_some]
      dsimp only
      rw [f38, Option.bind_some]
      dsimp only
      rw [if_pos (by rw [rw_len]; omega), hs]
      exact step a ha (by unfold far; rw [if_neg hodd])
theorem next_eq (i L : Nat) (hi : i < L) (hL : L ≤ 1000) : Int.tmod (w64 ((i : Int) + 1)) (L : Int) = (((i + 1) % L : Nat) : Int) := by
  rw [w64_in (by omega) (by omega), Int.tmod_eq_emod_of_nonneg (by omega), Int.natCast_emod]; rfl
theorem straight_loop {o : List W44} (hL : o.length ≤ 1000) : ∀ (m n i : Nat) (out : List W44), i + m = o.length → m < n → out.length = 1 + 3 * i → (∀ j, j ≤ i → gt out (3 * j) = gt o (j % o.length)) →
    ∃ out' : List W44, L37_0 n (Rw o) o.length i out.length (Rw out) = some (.e0 out'.length (Rw out')) ∧ out'.length = 1 + 3 * o.length ∧ ∀ j, j ≤ o.length → gt out' (3 * j) = gt o (j % o.length)
  | _, 0, _, _, _, h, _, _ => by omega
  | 0, n + 1, i, out, h, _, hl, hg => ⟨out, by rw [L37_0, if_neg (by omega)], by omega, fun j hj => hg j (by omega)⟩
  | m + 1, n + 1, i, out, h, hn, hl, hg => by
    have hi : i < o.length := by omega
    have hm : (i + 1) % o.length < o.length := Nat.mod_lt _ (by omega)
    have hs : w64 ((i : Int) + 1) = ((i + 1 : Nat) : Int) := by rw [w64_in (by omega) (by omega)]; omega
    have ih := straight_loop hL m n (i + 1) (out ++ [gt o i, gt o ((i + 1) % o.length), gt o ((i + 1) % o.length)]) (by omega) (by omega) (by simp; omega) (fun j hj => by
      rw [gt_app]
      by_cases h1 : j ≤ i
      · rw [if_pos (by omega)]; exact hg j h1
      · rw [if_neg (by omega), show 3 * j - out.length = 2 by omega, show j = i + 1 by omega]; rfl)
    have p : List.take out.length (Rw out) ++ [[i64 (gt o i).c0, i64 (gt o i).c1], [i64 (gt o ((i + 1) % o.length)).c0, i64 (gt o ((i + 1) % o.length)).c1], [i64 (gt o ((i + 1) % o.length)).c0, i64 (gt o ((i + 1) % o.length)).c1]] = Rw (out ++ [gt o i, gt o ((i + 1) % o.length), gt o ((i + 1) % o.length)]) := by
      rw [rw_all]; simp
    have hln : (out ++ [gt o i, gt o ((i + 1) % o.length), gt o ((i + 1) % o.length)]).length = out.length + 3 := by simp
    rw [hln] at ih
    rw [L37_0, if_pos (by omega), if_pos (by omega), show Int.toNat (i : Int) = i by omega, get_gt hi, Option.bind_some, rw_len, if_neg (by omega), next_eq i _ hi hL, if_pos (by omega), show Int.toNat (((i + 1) % o.length : Nat) : Int) = (i + 1) % o.length by omega, get_gt hm, Option.bind_some, if_pos (by rw [rw_len]; omega), hs, p]
    exact ih
theorem straight {o : List W44} (h0 : 0 < o.length) (hL : o.length ≤ 1000) : ∃ out : List W44, F37 (Rw o) = some (.a0 true out.length (Rw out)) ∧ out.length = 1 + 3 * o.length ∧ ∀ j, j ≤ o.length → gt out (3 * j) = gt o (j % o.length) := by
  obtain ⟨out, h1, h2, h3⟩ := straight_loop hL o.length 18446744073709551616 0 [gt o 0] (by omega) (by omega) rfl (fun j hj => by
    rw [show j = 0 by omega, Nat.zero_mod]; rfl)
  refine ⟨out, ?_, h2, h3⟩
  have h1' : L37_0 18446744073709551616 (Rw o) o.length 0 1 [[i64 (gt o 0).c0, i64 (gt o 0).c1]] = some (.e0 out.length (Rw out)) := h1
  unfold F37
  rw [get_gt h0, Option.bind_some, rw_len, h1', Option.bind_some]
theorem star_ex {k : Nat} (hk : 2 ≤ k ∧ k ≤ 16) {a b : Int} (ha : 0 ≤ a ∧ a ≤ 4194303) (hb : 0 ≤ b ∧ b ≤ 4194303) : ∃ out : List W44, F20 k a b = some (.a0 true out.length (Rw out)) ∧ out.length = 1 + 6 * k ∧ ∀ j, j < 2 * k → Good (far a b j) (gt out (3 * j)) := by
  obtain ⟨o, h1, h2, h3⟩ := star_loop hk ha hb (2 * k) 18446744073709551616 [] (by simp) (by omega) (fun j hj => by simp at hj)
  obtain ⟨out, g1, g2, g3⟩ := straight (o := o) (by omega) (by omega)
  have h1' : L20_0 18446744073709551616 k a b 0 ((2 * k : Nat) : Int) 0 [] = some (.e0 o.length (Rw o)) := h1
  have hkk : (if (if 16 < (k : Int) then 16 else (k : Int)) > 2 then if 16 < (k : Int) then 16 else (k : Int) else 2) = (k : Int) := by
    rw [if_neg (show ¬ 16 < (k : Int) by omega)]; split <;> omega
  have hw : w64 (2 * (k : Int)) = ((2 * k : Nat) : Int) := by rw [w64_in (by omega) (by omega)]; omega
  refine ⟨out, ?_, by omega, fun j hj => ?_⟩
  · unfold F20
    rw [hkk, hw, h1', Option.bind_some]
    dsimp only
    rw [if_pos (by rw [rw_len]; omega), rw_all, g1]; rfl
  · rw [g3 j (by omega), Nat.mod_eq_of_lt (by omega)]; exact h3 j (by omega)
theorem fd2 (a : Int) : Int.fdiv a 2 = a / 2 := Int.fdiv_eq_ediv_of_nonneg a (by decide)
theorem fd16 (a : Int) : Int.fdiv a 65536 = a / 65536 := Int.fdiv_eq_ediv_of_nonneg a (by decide)
theorem far_loop {k : Nat} (hk : 2 ≤ k ∧ k ≤ 16) {a b : Int} (ha : 0 ≤ a ∧ a ≤ 4194303) (hb : 0 ≤ b ∧ b ≤ 4194303) {out : List W44} (hl : out.length = 1 + 6 * k) (hg : ∀ j, j < 2 * k → Good (far a b j) (gt out (3 * j))) (c : Bool) : ∀ (m n j : Nat), j + m = 2 * k → m < n → L5_0 n a b k j c out.length (Rw out) = some .e2
  | _, 0, _, _, h => by omega
  | 0, n + 1, j, h, _ => by
    rw [L5_0, w64_in (n := 2 * (k : Int)) (by omega) (by omega), if_neg (by omega)]
  | m + 1, n + 1, j, h, hn => by
    have hj : j < 2 * k := by omega
    have ih := far_loop hk ha hb hl hg c m n (j + 1) (by omega) (by omega)
    have hs : w64 ((j : Int) + 1) = ((j + 1 : Nat) : Int) := by rw [w64_in (by omega) (by omega)]; omega
    have h3 : w64 (3 * (j : Int)) = ((3 * j : Nat) : Int) := by rw [w64_in (by omega) (by omega)]; omega
    obtain ⟨x1, y1, u, v⟩ := hg j hj
    have sx := sq_le (M := 4194304) x1
    have sy := sq_le (M := 4194304) y1
    have t2 : Int.tmod (j : Int) 2 = ((j % 2 : Nat) : Int) := by rw [Int.tmod_eq_emod_of_nonneg (by omega)]; omega
    have g2 : (([[i64 a], [i64 b]] : List (List V))[0 + Int.toNat (((j % 2 : Nat) : Int))]?).bind W2.dec = some ⟨far a b j⟩ := by
      unfold far
      by_cases h1 : j % 2 = 1
      · rw [if_pos h1, h1]; rfl
      · rw [if_neg h1, show j % 2 = 0 by omega]; rfl
    have fb : 0 ≤ far a b j ∧ far a b j ≤ 4194303 := by unfold far; split <;> assumption
    have dd := sq_le (a := far a b j) (M := 4194303) (by omega)
    rw [L5_0, w64_in (n := 2 * (k : Int)) (by omega) (by omega), if_pos (by omega), h3, if_pos (by omega), show 0 + Int.toNat ((3 * j : Nat) : Int) = 3 * j by omega, get_gt (by omega), Option.bind_some, t2, if_pos (by omega), g2, Option.bind_some]
    dsimp only
    generalize far a b j * far a b j = N at *
    generalize (gt out (3 * j)).c0 * (gt out (3 * j)).c0 = P at *
    generalize (gt out (3 * j)).c1 * (gt out (3 * j)).c1 = Q at *
    have e1 : w64 (w64 P + w64 Q) = P + Q := by rw [w64_in (n := P) (by omega) (by omega), w64_in (n := Q) (by omega) (by omega), w64_in (by omega) (by omega)]
    have e2 : w64 N = N := w64_in (by omega) (by omega)
    rw [e1, e2, fd16, fd16, w64_in (n := N / 65536 * 102) (by omega) (by omega), w64_in (n := N / 65536 * 98) (by omega) (by omega), Int.tdiv_eq_ediv_of_nonneg (a := N / 65536 * 102) (by omega), Int.tdiv_eq_ediv_of_nonneg (a := N / 65536 * 98) (by omega),
      w64_in (n := N / 65536 * 102 / 100) (by omega) (by omega), w64_in (n := N / 65536 * 98 / 100) (by omega) (by omega), w64_in (n := N / 65536 * 102 / 100 + 4194304) (by omega) (by omega), w64_in (n := N / 65536 * 98 / 100 - 4194304) (by omega) (by omega),
      if_neg (by omega), if_neg (by omega), hs]
    exact ih
theorem mask (a M : Int) (hM : 0 ≤ M ∧ M < 9223372036854775808) : ∃ v : Int, w64 (↑(BitVec.toNat (BitVec.ofInt (IntKind.bits IntKind.i64) a &&& BitVec.ofInt (IntKind.bits IntKind.i64) M)) : Int) = v ∧ 0 ≤ v ∧ v ≤ M := by
  have hb : BitVec.toNat (BitVec.ofInt (IntKind.bits IntKind.i64) a &&& BitVec.ofInt (IntKind.bits IntKind.i64) M) ≤ M.toNat := by
    rw [BitVec.toNat_and]
    refine Nat.le_trans Nat.and_le_right ?_
    rw [BitVec.toNat_ofInt]
    have : (2 : Nat) ^ IntKind.bits IntKind.i64 = 18446744073709551616 := rfl
    rw [this]; omega
  generalize BitVec.toNat (BitVec.ofInt (IntKind.bits IntKind.i64) a &&& BitVec.ofInt (IntKind.bits IntKind.i64) M) = m at hb
  refine ⟨(m : Int), w64_in (n := (m : Int)) (by omega) (by omega), by omega, by omega⟩
theorem rect_ex {a b : Int} (ha : 0 ≤ a ∧ a ≤ 4194303) (hb : 0 ≤ b ∧ b ≤ 4194303) : ∃ out : List W44, F18 a b = some (.a0 true out.length (Rw out)) ∧ out.length = 13 ∧ gt out 0 = ⟨-(a / 2), -(b / 2)⟩ ∧ gt out 3 = ⟨a - a / 2, -(b / 2)⟩ ∧ gt out 6 = ⟨a - a / 2, b - b / 2⟩ ∧ gt out 12 = ⟨-(a / 2), -(b / 2)⟩ := by
  obtain ⟨o, ho, hlen⟩ : ∃ o : List W44, o = [⟨-(a / 2), -(b / 2)⟩, ⟨a - a / 2, -(b / 2)⟩, ⟨a - a / 2, b - b / 2⟩, ⟨-(a / 2), b - b / 2⟩] ∧ o.length = 4 := ⟨_, rfl, rfl⟩
  obtain ⟨out, g1, g2, g3⟩ := straight (o := o) (by omega) (by omega)
  rw [hlen] at g2 g3
  have f38 : ∀ x y : Int, F38 x y = some (.a0 x y) := fun _ _ => rfl
  have z1 : w64 (0 - a / 2) = -(a / 2) := by rw [w64_in (by omega) (by omega)]; omega
  have z2 : w64 (0 - b / 2) = -(b / 2) := by rw [w64_in (by omega) (by omega)]; omega
  have z3 : w64 (a - a / 2) = a - a / 2 := w64_in (by omega) (by omega)
  have z4 : w64 (b - b / 2) = b - b / 2 := w64_in (by omega) (by omega)
  refine ⟨out, ?_, g2, (g3 0 (by omega)).trans (by rw [ho]; rfl), (g3 1 (by omega)).trans (by rw [ho]; rfl), (g3 2 (by omega)).trans (by rw [ho]; rfl), (g3 4 (by omega)).trans (by rw [ho]; rfl)⟩
  rw [ho] at g1
  unfold F18
  simp only [f38, Option.bind_some, fd2, z1, z2, z3, z4]
  have g1' : F37 [[i64 (-(a / 2)), i64 (-(b / 2))], [i64 (a - a / 2), i64 (-(b / 2))], [i64 (a - a / 2), i64 (b - b / 2)], [i64 (-(a / 2)), i64 (b - b / 2)]] = some (.a0 true out.length (Rw out)) := g1
  rw [g1', Option.bind_some]
theorem oval_ex {a b : Int} (ha : 0 ≤ a ∧ a ≤ 4194303) (hb : 0 ≤ b ∧ b ≤ 4194303) : ∃ out : List W44, F19 a b = some (.a0 true 13 (Rw out)) ∧ out.length = 13 ∧ (gt out 0).c0 = a / 2 ∧ (gt out 6).c0 = -(a / 2) ∧ (gt out 3).c1 = b / 2 ∧ (gt out 9).c1 = -(b / 2) := by
  have f38 : ∀ x y : Int, F38 x y = some (.a0 x y) := fun _ _ => rfl
  have z1 : w64 (0 - a / 2) = -(a / 2) := by rw [w64_in (by omega) (by omega)]; omega
  have z2 : w64 (0 - b / 2) = -(b / 2) := by rw [w64_in (by omega) (by omega)]; omega
  refine ⟨[⟨a / 2, 0⟩, ⟨a / 2, mul (b / 2) 36195⟩, ⟨mul (a / 2) 36195, b / 2⟩, ⟨0, b / 2⟩, ⟨w64 (0 - mul (a / 2) 36195), b / 2⟩, ⟨-(a / 2), mul (b / 2) 36195⟩, ⟨-(a / 2), 0⟩, ⟨-(a / 2), w64 (0 - mul (b / 2) 36195)⟩, ⟨w64 (0 - mul (a / 2) 36195), -(b / 2)⟩, ⟨0, -(b / 2)⟩, ⟨mul (a / 2) 36195, -(b / 2)⟩, ⟨a / 2, w64 (0 - mul (b / 2) 36195)⟩, ⟨a / 2, 0⟩], ?_, rfl, rfl, rfl, rfl, rfl⟩
  unfold F19
  simp only [f38, F39_eq, Option.bind_some, fd2, z1, z2]
  rfl
theorem shapeSides_plain (a0 b0 n0 : Int) : F5 a0 b0 n0 = some (.a0 true) := by
  obtain ⟨a, ea, ha⟩ := mask a0 4194303 (by decide)
  obtain ⟨b, eb, hb⟩ := mask b0 4194303 (by decide)
  obtain ⟨v, ev, hv⟩ := mask n0 15 (by decide)
  obtain ⟨r, r1, r2, r3, r4, r5, r6⟩ := rect_ex ha hb
  obtain ⟨o, o1, o2, o3, o4, o5, o6⟩ := oval_ex ha hb
  obtain ⟨k, hk, hk1⟩ : ∃ k : Nat, w64 (2 + Int.tmod v 15) = (k : Int) ∧ 2 ≤ k ∧ k ≤ 16 := by
    have t1 := Int.tmod_nonneg (a := v) 15 hv.1
    have t2 := Int.tmod_lt_of_pos v (b := 15) (by decide)
    refine ⟨(2 + Int.tmod v 15).toNat, ?_, by omega, by omega⟩
    rw [w64_in (by omega) (by omega)]; omega
  obtain ⟨st, s1, s2, s3⟩ := star_ex hk1 ha hb
  have fl := far_loop hk1 ha hb s2 s3 true (2 * k) 18446744073709551616 0 (by omega) (by omega)
  rw [show ((0 : Nat) : Int) = 0 by rfl] at fl
  unfold F5
  rw [ea, eb, ev, hk, r1, Option.bind_some]
  dsimp only
  rw [o1, Option.bind_some]
  dsimp only
  rw [r2, if_neg (by decide), if_neg (by decide), if_pos (by decide), get_gt (by omega), Option.bind_some, if_pos (by decide), get_gt (by omega), Option.bind_some, r3, r4, if_neg (by
    dsimp only; rw [bne_iff_ne, w64_in (by omega) (by omega)]; omega), if_pos (by decide), get_gt (by omega), Option.bind_some, r5, if_neg (by
    dsimp only; rw [bne_iff_ne, w64_in (by omega) (by omega)]; omega), if_pos (by decide), get_gt (by omega), Option.bind_some, r6, if_neg (by simp), if_pos (by decide), get_gt (by omega), Option.bind_some, fd2, fd2, o3, if_neg (by simp),
    if_pos (by decide), get_gt (by omega), Option.bind_some, o4, w64_in (n := 0 - a / 2) (by omega) (by omega), if_neg (by rw [bne_iff_ne]; omega),
    if_pos (by decide), get_gt (by omega), Option.bind_some, o5, if_neg (by simp),
    if_pos (by decide), get_gt (by omega), Option.bind_some, o6, w64_in (n := 0 - b / 2) (by omega) (by omega), if_neg (by rw [bne_iff_ne]; omega), s1, Option.bind_some]
  dsimp only
  rw [if_neg (by rw [bne_iff_ne, w64_in (n := 6 * (k : Int)) (by omega) (by omega), w64_in (by omega) (by omega)]; omega), fl, Option.bind_some]
  dsimp only
  rw [known13]; rfl
theorem shapeSides_call (a b n : Int) : call Try.prog X O0 18446744073709551616 10 5 [.int .i64 a, .int .i64 b, .int .i64 n] [] = some (.bool true, []) :=
  F5_ok 0 a b n (.a0 true) (shapeSides_plain a b n)
end Go.Proofs.Ytcomanfboibhiaa.H
