import Derived.Test.YtifalphladcdcaaGreatTurnO
set_option linter.unusedVariables false
set_option linter.unusedSimpArgs false
/- Outlines by the program and by the document: the same. Conditions: those stated. -/
namespace Go.Proofs.YtifalphladcdcaaGreat.H
open Go Go.VM
set_option maxRecDepth 100000
def mv (a : Pt) (x y : Int) : Pt := ⟨w64 (a.c0 + x), w64 (a.c1 + y)⟩
def sA (s : Sd) : Pt := ⟨s.c0, s.c1⟩
def sB (s : Sd) : Pt := ⟨s.c2, s.c3⟩
abbrev sM (s : Sd) : W59 := ⟨s.c0, s.c1, s.c2, s.c3, s.c4, s.c5⟩
def quad (a b : Pt) (x y : Int) : List Pt := [mv a x y, mv b x y, mv b (w64 (0 - x)) (w64 (0 - y)), mv a (w64 (0 - x)) (w64 (0 - y))]
def bodyP (s : Sd) (h : Int) (f t : Bool) : List Pt :=
  quad (if f = true then mv (sA s) (w64 (0 - mul s.c4 h)) (w64 (0 - mul s.c5 h)) else sA s) (if t = true then mv (sB s) (mul s.c4 h) (mul s.c5 h) else sB s) (mul (w64 (0 - s.c5)) h) (mul s.c4 h)
def wedA (s t : Sd) (h : Int) : List Pt := [sA t, mv (sA t) (mul (w64 (0 - s.c5)) h) (mul s.c4 h), mv (sA t) (mul (w64 (0 - t.c5)) h) (mul t.c4 h)]
def wedB (s t : Sd) (h : Int) : List Pt := [sA t, mv (sA t) (w64 (0 - mul (w64 (0 - s.c5)) h)) (w64 (0 - mul s.c4 h)), mv (sA t) (w64 (0 - mul (w64 (0 - t.c5)) h)) (w64 (0 - mul t.c4 h))]
/-- A poly of an outline. -/
def pg (l : List Pt) : Po := ⟨true, turn (pls l)⟩
def Pg (p : Po) : Prop := ∃ l : List Pt, (l.length = 3 ∨ l.length = 4) ∧ p = pg l
theorem pg_len {p : Po} (h : Pg p) : p.p.length ≤ 4 := by
  obtain ⟨l, h1, rfl⟩ := h
  show (turn (pls l)).length ≤ 4
  rw [turn_len, pls_len]; omega
theorem tp_len (l : List Pt) : (Rp (turn (pls l))).length = l.length := by rw [rp_len, turn_len, pls_len]
theorem tp_take (l : List Pt) (n : Nat) (h : l.length = n) : List.take n (Rp (turn (pls l))) = Rp (turn (pls l)) := List.take_of_length_le (by rw [tp_len]; omega)
theorem beside1 (x y a b : Int) : F271 x y a b = some (.a0 (w64 (x + a)) (w64 (y + b))) := rfl
theorem across1 (e : W59) (h : Int) : F270 e h = some (.a0 (mul (w64 (0 - e.c5)) h) (mul e.c4 h)) := by
  simp only [F270, D270, PT.ev, PT.test, dite_eq_ite, qmul, Option.bind_some]
/-- Whether a line's ends are longer. -/
def ends (z : Int) (c : Bool) : Bool := if (z == 1) = true then !c else false
end Go.Proofs.YtifalphladcdcaaGreat.H

/- Outlines whole: by the program as by the document. Conditions: those stated. -/
namespace Go.Proofs.YtifalphladcdcaaGreat.H
open Go Go.VM
set_option maxRecDepth 100000
theorem ro_app (a b : List Po) : Ro a ++ Ro b = Ro (a ++ b) := by simp only [Ro, List.map_append]
theorem take2 (a b : Po) : List.take 2 (Ro [a, b]) = Ro [a, b] := rfl
theorem ends_j (z h : Int) (k : Nat) (c : Bool) (l l' : List (List V)) : J197_r5 (.mk z h k c l l') = some (.e0 (.mk h k (ends z c) c l l')) := by
  simp only [J197_r5, D197_r5, PT.ev, PT.test, dite_eq_ite]; unfold ends; cases (z == 1) <;> rfl
theorem shut_p (h : Int) (k k' : Nat) (c : Bool) (l l' l2 : List (List V)) : J197_r16 (.mk h k k' c l l' l2) = some (.e0 (.mk h k k' (c && decide ((k : Int) ≥ 2)) l' l2)) := by
  simp only [J197_r16, D197_r16, PT.ev, PT.test, dite_eq_ite]; cases c <;> rfl
end Go.Proofs.YtifalphladcdcaaGreat.H

/- Half sums, by bits. Conditions: those stated. -/
namespace Go.Proofs.YtifalphladcdcaaGreat.H
open Go Go.VM
set_option maxRecDepth 100000
theorem and_xor : ∀ a b : Nat, 2 * (a &&& b) + (a ^^^ b) = a + b := by
  intro a
  induction a using Nat.strongRecOn with
  | _ a ih =>
    intro b
    by_cases h : a = 0
    · subst h; simp
    · have := ih (a / 2) (by omega) (b / 2)
      rw [← Nat.and_div_two, ← Nat.xor_div_two] at this
      have m1 := Nat.and_mod_two_eq_one (a := a) (b := b)
      have m2 := Nat.xor_mod_two_eq_one (a := a) (b := b)
      omega
theorem and1 (a : Int) : w64 (↑(BitVec.toNat (BitVec.ofInt (IntKind.bits IntKind.i64) a &&& BitVec.ofInt (IntKind.bits IntKind.i64) 1)) : Int) = a % 2 := and_low .i64 1 (by decide) (fun n h h' => by rw [IntKind.wrap_i64]; omega) a
theorem half_bits (a b : Int) (ha : -9223372036854775808 ≤ a ∧ a ≤ 9223372036854775807) (hb : -9223372036854775808 ≤ b ∧ b ≤ 9223372036854775807) :
    w64 (w64 (↑(BitVec.toNat (BitVec.ofInt (IntKind.bits IntKind.i64) a &&& BitVec.ofInt (IntKind.bits IntKind.i64) b)) : Int) + Int.fdiv (w64 (↑(BitVec.toNat (BitVec.ofInt (IntKind.bits IntKind.i64) a ^^^ BitVec.ofInt (IntKind.bits IntKind.i64) b)) : Int)) 2) = (a + b) / 2 ∧
    w64 (w64 (Int.fdiv a 2 + Int.fdiv b 2) + w64 (↑(BitVec.toNat (BitVec.ofInt (IntKind.bits IntKind.i64) (w64 (↑(BitVec.toNat (BitVec.ofInt (IntKind.bits IntKind.i64) a &&& BitVec.ofInt (IntKind.bits IntKind.i64) b)) : Int)) &&& BitVec.ofInt (IntKind.bits IntKind.i64) 1)) : Int)) = (a + b) / 2 := by
  rw [and1]
  simp only [fd (show (0 : Int) ≤ 2 by decide), show IntKind.bits IntKind.i64 = 64 from rfl, BitVec.toNat_and, BitVec.toNat_xor, BitVec.toNat_ofInt, show (((2 : Nat) ^ 64 : Nat) : Int) = 18446744073709551616 from rfl]
  have eA : (((a % 18446744073709551616).toNat : Nat) : Int) = a % 18446744073709551616 := Int.toNat_of_nonneg (by omega)
  have eB : (((b % 18446744073709551616).toNat : Nat) : Int) = b % 18446744073709551616 := Int.toNat_of_nonneg (by omega)
  generalize (a % 18446744073709551616).toNat = A at *
  generalize (b % 18446744073709551616).toNat = B at *
  have k := and_xor A B
  have t1 : (A &&& B) / 2 ^ 63 = A / 2 ^ 63 &&& B / 2 ^ 63 := Nat.and_div_two_pow
  have t2 : (A ^^^ B) / 2 ^ 63 = A / 2 ^ 63 ^^^ B / 2 ^ 63 := Nat.xor_div_two_pow
  have m1 := Nat.and_mod_two_eq_one (a := A) (b := B)
  have cA : A / 2 ^ 63 = 0 ∨ A / 2 ^ 63 = 1 := by omega
  have cB : B / 2 ^ 63 = 0 ∨ B / 2 ^ 63 = 1 := by omega
  have sg : ∀ X t : Nat, X / 2 ^ 63 = t → t ≤ 1 → w64 (X : Int) = (X : Int) - 18446744073709551616 * (t : Int) := fun X t h1 h2 => by rw [w64_eq]; omega
  have main : ∃ x y : Int, w64 (((A &&& B : Nat)) : Int) = x ∧ w64 (((A ^^^ B : Nat)) : Int) = y ∧ 2 * x + y = a + b ∧ (x % 2 = 1 ↔ a % 2 = 1 ∧ b % 2 = 1) := by
    have a1 : a = (A : Int) - 18446744073709551616 * ((A / 2 ^ 63 : Nat) : Int) := by omega
    have b1 : b = (B : Int) - 18446744073709551616 * ((B / 2 ^ 63 : Nat) : Int) := by omega
    clear eA eB
    rcases cA with cA | cA <;> rcases cB with cB | cB <;> rw [cA, cB] at t1 t2 <;> rw [cA] at a1 <;> rw [cB] at b1
    · exact ⟨_, _, sg _ _ t1 (by decide), sg _ _ t2 (by decide), by simp only [Nat.zero_and, Nat.zero_xor]; omega, by simp only [Nat.zero_and]; omega⟩
    · exact ⟨_, _, sg _ _ t1 (by decide), sg _ _ t2 (by decide), by simp only [Nat.zero_and, Nat.zero_xor]; omega, by simp only [Nat.zero_and]; omega⟩
    · exact ⟨_, _, sg _ _ t1 (by decide), sg _ _ t2 (by decide), by simp only [Nat.and_zero, Nat.xor_zero]; omega, by simp only [Nat.and_zero]; omega⟩
    · exact ⟨_, _, sg _ _ t1 (by decide), sg _ _ t2 (by decide), by simp only [Nat.and_self, Nat.xor_self]; omega, by simp only [Nat.and_self]; omega⟩
  obtain ⟨x, y, e1, e2, e3, e4⟩ := main
  rw [e1, e2]
  clear e1 e2 sg t1 t2 m1 k eA eB cA cB
  have h1 : x + y / 2 = (a + b) / 2 := by omega
  have h2 : a / 2 + b / 2 + x % 2 = (a + b) / 2 := by omega
  rw [w64_in (n := x + y / 2) (by omega) (by omega), w64_in (n := a / 2 + b / 2) (by omega) (by omega), w64_in (n := a / 2 + b / 2 + x % 2) (by omega) (by omega)]
  exact ⟨h1, h2⟩
end Go.Proofs.YtifalphladcdcaaGreat.H

/- Bent lines as straight ones: the program's and the document's are the same. Conditions: those stated. -/
namespace Go.Proofs.YtifalphladcdcaaGreat.H
open Go Go.VM
set_option maxRecDepth 100000
def Bq (p : Pt) : Prop := (-4611686018427387904 ≤ p.c0 ∧ p.c0 ≤ 4611686018427387904) ∧ -4611686018427387904 ≤ p.c1 ∧ p.c1 ≤ 4611686018427387904
def hp (p q : Pt) : Pt := ⟨(p.c0 + q.c0) / 2, (p.c1 + q.c1) / 2⟩
theorem Bq.hp {p q : Pt} (a : Bq p) (b : Bq q) : Bq (hp p q) := by
  obtain ⟨⟨a1, a2⟩, a3, a4⟩ := a
  obtain ⟨⟨b1, b2⟩, b3, b4⟩ := b
  exact ⟨⟨by show _ ≤ (p.c0 + q.c0) / 2; omega, by show (p.c0 + q.c0) / 2 ≤ _; omega⟩, by show _ ≤ (p.c1 + q.c1) / 2; omega, by show (p.c1 + q.c1) / 2 ≤ _; omega⟩
theorem qhalf {p q : Pt} (a : Bq p) (b : Bq q) : F264 p.c0 p.c1 q.c0 q.c1 = some (.a0 (hp p q).c0 (hp p q).c1) := by
  obtain ⟨⟨a1, a2⟩, a3, a4⟩ := a
  obtain ⟨⟨b1, b2⟩, b3, b4⟩ := b
  simp only [F264, D264, PT.ev, PT.test, dite_eq_ite, bnd_def, F283, D283, PT.evT, (half_bits p.c0 q.c0 (by omega) (by omega)).1, (half_bits p.c1 q.c1 (by omega) (by omega)).1, hp]
def bendl : Nat → Pt → Pt → Pt → Pt → List Pt
  | 0, _, _, _, d => [d]
  | n + 1, a, b, c, d => bendl n a (hp a b) (hp (hp a b) (hp b c)) (hp (hp (hp a b) (hp b c)) (hp (hp b c) (hp c d))) ++ bendl n (hp (hp (hp a b) (hp b c)) (hp (hp b c) (hp c d))) (hp (hp b c) (hp c d)) (hp c d) d
theorem bendl_len : ∀ (n : Nat) (a b c d : Pt), (bendl n a b c d).length = 2 ^ n
  | 0, _, _, _, _ => rfl
  | n + 1, a, b, c, d => by rw [bendl, List.length_append, bendl_len, bendl_len, Nat.pow_succ]; omega
theorem bendl_bd : ∀ (n : Nat) {a b c d : Pt}, Bq a → Bq b → Bq c → Bq d → ∀ p ∈ bendl n a b c d, Bq p
  | 0, a, b, c, d, _, _, _, hd, p, hp => by rw [bendl, List.mem_singleton] at hp; rw [hp]; exact hd
  | n + 1, a, b, c, d, ha, hb, hc, hd, p, hp' => by
    rw [bendl, List.mem_append] at hp'
    have e1 := ha.hp hb
    have e2 := hb.hp hc
    have e3 := hc.hp hd
    have f1 := e1.hp e2
    have f2 := e2.hp e3
    have g := f1.hp f2
    rcases hp' with h | h
    · exact bendl_bd n ha e1 f1 g p h
    · exact bendl_bd n g f2 e3 hd p h
theorem qbent1 : ∀ (k n : Nat) (acc : List Pt) {a b c d : Pt}, k ≤ 3 → k < n → acc.length + 2 ^ k ≤ 1000000000 → Bq a → Bq b → Bq c → Bq d →
    F232v1 n acc.length a.c0 a.c1 b.c0 b.c1 c.c0 c.c1 d.c0 d.c1 k (Rp acc) = some (.a0 (acc ++ bendl k a b c d).length (Rp (acc ++ bendl k a b c d)))
  | _, 0, _, _, _, _, _, _, h, _, _, _, _, _ => by omega
  | 0, n + 1, acc, a, b, c, d, _, _, hl, _, _, _, _ => by
    rw [F232v1_succ]
    have hq : 0 + acc.length ≤ (Rp acc).length ∧ (acc.length + 1) * 16 ≤ 140737488355328 ∧ acc.length + 1 ≤ 140737488355328 := by rw [rp_len]; omega
    have hp : List.take acc.length (Rp acc) ++ [[i64 d.c0, i64 d.c1]] = Rp (acc ++ [d]) := push1 acc d
    simp only [D232v1, PT.ev, PT.test, dite_eq_ite, show ((0 : Nat) : Int) = 0 from rfl, beq_self_eq_true, if_true, if_pos hq, hp, bendl, List.length_append, List.length_singleton]
  | k + 1, n + 1, acc, a, b, c, d, h3, hk, hl, ha, hb, hc, hd => by
    have e1 := ha.hp hb
    have e2 := hb.hp hc
    have e3 := hc.hp hd
    have f1 := e1.hp e2
    have f2 := e2.hp e3
    have g := f1.hp f2
    have hz : (((k + 1 : Nat) : Int) == 0) = false := by rw [beq_eq_false_iff_ne]; omega
    have hw : w64 (((k + 1 : Nat) : Int) - 1) = (k : Int) := by rw [w64_in (by omega) (by omega)]; omega
    have hpos := Nat.two_pow_pos k
    have h2 : 2 ^ (k + 1) = 2 ^ k + 2 ^ k := by rw [Nat.pow_succ]; omega
    have i1 := qbent1 k n acc (by omega) (by omega) (by omega) ha e1 f1 g
    have i2 := qbent1 k n (acc ++ bendl k a (hp a b) (hp (hp a b) (hp b c)) (hp (hp (hp a b) (hp b c)) (hp (hp b c) (hp c d)))) (by omega) (by omega) (by rw [List.length_append, bendl_len]; omega) g f2 e3 hd
    rw [F232v1_succ]
    simp only [D232v1, PT.ev, PT.test, dite_eq_ite, hz, Bool.false_eq_true, if_false, qhalf ha hb, qhalf hb hc, qhalf hc hd, qhalf e1 e2, qhalf e2 e3, qhalf f1 f2, Option.bind, hw, i1, i2, bendl, List.append_assoc]
theorem qbent0 : ∀ (k n : Nat) {a b c d : Pt}, k ≤ 3 → k < n → Bq a → Bq b → Bq c → Bq d →
    F232 n a.c0 a.c1 b.c0 b.c1 c.c0 c.c1 d.c0 d.c1 k = some (.a0 (bendl k a b c d).length (Rp (bendl k a b c d)))
  | _, 0, _, _, _, _, _, h, _, _, _, _ => by omega
  | 0, n + 1, a, b, c, d, _, _, _, _, _, _ => by
    rw [F232_succ]
    simp only [D232, PT.ev, PT.test, dite_eq_ite, show ((0 : Nat) : Int) = 0 from rfl, beq_self_eq_true, if_true, bendl]
    rfl
  | k + 1, n + 1, a, b, c, d, h3, hk, ha, hb, hc, hd => by
    have e1 := ha.hp hb
    have e2 := hb.hp hc
    have e3 := hc.hp hd
    have f1 := e1.hp e2
    have f2 := e2.hp e3
    have g := f1.hp f2
    have hz : (((k + 1 : Nat) : Int) == 0) = false := by rw [beq_eq_false_iff_ne]; omega
    have hw : w64 (((k + 1 : Nat) : Int) - 1) = (k : Int) := by rw [w64_in (by omega) (by omega)]; omega
    have h8 : 2 ^ k ≤ 2 ^ 3 := Nat.pow_le_pow_right (by decide) (by omega)
    have i1 := qbent0 k n (by omega) (by omega) ha e1 f1 g
    have i2 := qbent1 k 100000 (bendl k a (hp a b) (hp (hp a b) (hp b c)) (hp (hp (hp a b) (hp b c)) (hp (hp b c) (hp c d)))) (by omega) (by omega) (by rw [bendl_len]; omega) g f2 e3 hd
    rw [F232_succ]
    simp only [D232, PT.ev, PT.test, dite_eq_ite, hz, Bool.false_eq_true, if_false, qhalf ha hb, qhalf hb hc, qhalf hc hd, qhalf e1 e2, qhalf e2 e3, qhalf f1 f2, Option.bind, hw, i1, i2, bendl]
theorem qbend8 {a b c d : Pt} (ha : Bq a) (hb : Bq b) (hc : Bq c) (hd : Bq d) : F192 a.c0 a.c1 b.c0 b.c1 c.c0 c.c1 d.c0 d.c1 = some (.a0 8 (Rp (bendl 3 a b c d))) := by
  have h := qbent0 3 100000 (by decide) (by decide) ha hb hc hd
  rw [bendl_len, show ((3 : Nat) : Int) = 3 from rfl] at h
  simp only [F192, D192, PT.ev, PT.test, dite_eq_ite, h, Option.bind_some]
end Go.Proofs.YtifalphladcdcaaGreat.H

/- A path as straight lines, lines mapped: the program's and the document's. Conditions: those stated. -/
namespace Go.Proofs.YtifalphladcdcaaGreat.H
open Go Go.VM
set_option maxRecDepth 100000
theorem nrp_bq {p : Pt} (h : nrp p = true) : Bq p := by
  simp only [nrp, nr, Bool.and_eq_true, decide_eq_true_eq] at h
  obtain ⟨⟨a, b⟩, c, d⟩ := h
  exact ⟨⟨by omega, by omega⟩, by omega, by omega⟩
/-! ### Lines mapped -/
def mapo (m : Mt) (q : Po) : Po := ⟨q.c, q.p.map (apm m)⟩
theorem line_loop (m : Mt) (ps : List Pt) (hl : ps.length ≤ 1000000) (k0 : Nat) (l1 : List (List V)) (z2 z3 : Int) (l8 : List (List V)) (b9 : Bool) : ∀ (n i : Nat) (acc : List Pt), acc = (ps.map (apm m)).take i → i ≤ ps.length → ps.length < n + i →
    L147_2 n (.s0 (.mk k0 l1 z2 z3 (Rp ps) ps.length i m l8 b9 acc.length (Rp acc))) = some (.e0 (.mk k0 l1 z2 z3 m l8 b9 ps.length (Rp (ps.map (apm m)))))
  | 0, i, acc, _, h1, h2 => by omega
  | n + 1, i, acc, ha, h1, h2 => by
    rw [L147_2_s0]
    have hla : acc.length = i := by rw [ha, List.length_take, List.length_map]; omega
    by_cases h : i < ps.length
    · have hr : 0 + acc.length ≤ (Rp acc).length ∧ (acc.length + 1) * 16 ≤ 140737488355328 ∧ acc.length + 1 ≤ 140737488355328 := by rw [rp_len]; omega
      have hp : List.take acc.length (Rp acc) ++ [[i64 (ap m.c0 ps[i].c0 m.c2 ps[i].c1 m.c4), i64 (ap m.c1 ps[i].c0 m.c3 ps[i].c1 m.c5)]] = Rp (acc ++ [apm m ps[i]]) := push1 acc (apm m ps[i])
      have hw : w64 ((i : Int) + 1) = ((i + 1 : Nat) : Int) := by rw [w64_in (by omega) (by omega)]; omega
      have ih := line_loop m ps hl k0 l1 z2 z3 l8 b9 n (i + 1) (acc ++ [apm m ps[i]]) (by rw [ha, List.take_add_one, List.getElem?_map, List.getElem?_eq_getElem h]; rfl) h (by omega)
      rw [List.length_append, List.length_singleton] at ih
      simp only [D147_2, PT.ev, PT.test, dite_eq_ite, if_pos (show (i : Int) < (ps.length : Int) by omega), if_pos (show (0 : Int) ≤ (i : Int) by omega), Int.toNat_natCast, rp_get, List.getElem?_eq_getElem h, Option.bind_some, apply_q, if_pos hr, hp, hw, N147_2.nx]
      exact ih
    · have e : acc = ps.map (apm m) := by rw [ha, List.take_of_length_le (by rw [List.length_map]; omega)]
      have hz : acc.length = ps.length := by omega
      simp only [D147_2, PT.ev, PT.test, dite_eq_ite, if_neg (show ¬ (i : Int) < (ps.length : Int) by omega), N147_2.nx, e, List.length_map]
end Go.Proofs.YtifalphladcdcaaGreat.H

/- A colour between colours, a paint mapped: the program's and the document's. Conditions: those stated. -/
namespace Go.Proofs.YtifalphladcdcaaGreat.H
open Go Go.VM
set_option maxRecDepth 100000
theorem flr {V : Int} (h1 : -9223372036854775808 ≤ V) (h2 : V ≤ 9223372036854775807) : (if Int.tmod V 65536 < 0 then w64 (w64 (Int.tdiv V 65536) - 1) else w64 (Int.tdiv V 65536)) = Int.fdiv V 65536 := by
  rw [Int.fdiv_eq_ediv_of_nonneg _ (by decide)]
  rcases Int.le_total 0 V with h | h
  · rw [Int.tmod_eq_emod_of_nonneg h, Int.tdiv_eq_ediv_of_nonneg h, if_neg (by omega), w64_in (by omega) (by omega)]
  · obtain ⟨U, rfl⟩ : ∃ U, V = -U := ⟨-V, by omega⟩
    rw [Int.neg_tmod, Int.neg_tdiv, Int.tmod_eq_emod_of_nonneg (by omega), Int.tdiv_eq_ediv_of_nonneg (by omega), w64_in (n := -(U / 65536)) (by omega) (by omega)]
    by_cases c : -(U % 65536) < 0
    · rw [if_pos c, w64_in (by omega) (by omega)]; omega
    · rw [if_neg c]; omega
theorem w64_rng (a : Int) : -9223372036854775808 ≤ w64 a ∧ w64 a ≤ 9223372036854775807 := by rw [w64_eq]; omega
def mixc (a b t : Int) : Int := IntKind.wrap IntKind.u8 (cl (w64 (w64 a + Int.fdiv (w64 (w64 (w64 b - w64 a) * hd t)) 65536)) 0 255)
theorem qmix (a0 a1 a2 a3 b0 b1 b2 b3 t : Int) : F233 a0 a1 a2 a3 b0 b1 b2 b3 t = some (.a0 (mixc a0 b0 t) (mixc a1 b1 t) (mixc a2 b2 t) (mixc a3 b3 t)) := by
  simp only [F233, D233, PT.ev, PT.test, dite_eq_ite, bnd_def, qhold, qclamp, mixc]
def lsC (ks : List Ck) (t : Int) : Nat → Int
  | 0 => -1
  | m + 1 => match ks[m]? with
    | some k => if k.c0 ≤ t then m else lsC ks t m
    | none => lsC ks t m
theorem lsC_bd (ks : List Ck) (t : Int) : ∀ m : Nat, -1 ≤ lsC ks t m ∧ lsC ks t m < m
  | 0 => by simp [lsC]
  | m + 1 => by
    have := lsC_bd ks t m
    unfold lsC
    split
    · split <;> omega
    · omega
theorem hfind_loop (ks : List Ck) (hl : (ks.length : Int) < 4611686018427387904) (t : Int) : ∀ (n m : Nat), m ≤ ks.length → m < n →
    L193_0 n (.s0 (.mk (Rc ks) t ((m : Int) - 1))) = some (.e0 (.mk (Rc ks) t (lsC ks t m)))
  | 0, m, _, hn => by omega
  | n + 1, m, hm, hn => by
    rw [L193_0_s0]
    cases m with
    | zero => simp only [D193_0, PT.ev, PT.test, dite_eq_ite, if_neg (show ¬ (((0 : Nat) : Int) - 1 ≥ 0) by omega), N193_0.nx, lsC]; rfl
    | succ m =>
      have hi : m < ks.length := by omega
      have e : ((m + 1 : Nat) : Int) - 1 = (m : Int) := by omega
      have hw : w64 ((m : Int) - 1) = (m : Int) - 1 := by rw [w64_in (by omega) (by omega)]
      simp only [D193_0, PT.ev, PT.test, dite_eq_ite, e, if_pos (show (m : Int) ≥ 0 by omega), if_pos (show (0 : Int) ≤ (m : Int) by omega), Int.toNat_natCast, rc_get, List.getElem?_eq_getElem hi, Option.bind_some, N193_0.nx, N193_0.nx, hw, lsC]
      by_cases h : ks[m].c0 ≤ t
      · rw [if_neg (by omega), if_pos h]
      · rw [if_pos (by omega), if_neg h]
        exact hfind_loop ks hl t n m (by omega) (by omega)
/-! ### Paints -/
end Go.Proofs.YtifalphladcdcaaGreat.H

/- Lines that are drawn along a shape: the program maps each outline, the document all of them; the same. Conditions: those stated. -/
namespace Go.Proofs.YtifalphladcdcaaGreat.H
open Go Go.VM
set_option maxRecDepth 100000
end Go.Proofs.YtifalphladcdcaaGreat.H

/- What is painted of a shape: the program's and the document's. Conditions: those stated. -/
namespace Go.Proofs.YtifalphladcdcaaGreat.H
open Go Go.VM
set_option maxRecDepth 100000
abbrev It := W85
abbrev Ri (xs : List It) : List (List V) := xs.map W85.cells
/-- An item's lines. -/
def Pi (x : It) : Prop := ∃ Q : List Po, x.c0 = Ro Q ∧ (∀ q ∈ Q, q.p.length ≤ 2000) ∧ Q.length ≤ 1000000
theorem t1 {α : Type} (x : α) : List.take 1 [x] = [x] := rfl
end Go.Proofs.YtifalphladcdcaaGreat.H

/- The document's maps, opacities, times of a layer: the program's. Conditions: those stated. -/
namespace Go.Proofs.YtifalphladcdcaaGreat.H
open Go Go.VM
set_option maxRecDepth 100000
/-! ### Masks -/
/-! ### Chains -/
theorem there_iff (ls : List Ly) (p : Int) : there ls p = true ↔ p ≥ 0 ∧ p < (ls.length : Int) := by simp only [there, Bool.and_eq_true, decide_eq_true_eq]
end Go.Proofs.YtifalphladcdcaaGreat.H

/- Whether a shape may be: the program's and the document's tell the same. Conditions: those stated. -/
namespace Go.Proofs.YtifalphladcdcaaGreat.H
open Go Go.VM
set_option maxRecDepth 100000
def oneB (fo n : Int) : Bool := decide (0 ≤ fo) && (decide (fo ≤ 3) && (if fo = 2 then decide (2 ≤ n) && decide (n ≤ 16) else decide (n = 0)))
def twoB (fo : Int) (lw lh lp : Nat) (bw bh bp : Bool) : Bool := if fo = 3 then decide (lw = 0) && (decide (lh = 0) && bp) else decide (lp = 0) && (bw && bh)
theorem qform (s : Shp) (fo n : Int) (bw bh bp : Bool) (hw : F56 (Rn s.w) = some (.a0 bw)) (hh : F56 (Rn s.h) = some (.a0 bh)) (hp : F112 (Rk s.ps) = some (.a0 bp)) :
    F53 (Ws { s with form := fo, n := n }) = some (.a0 (oneB fo n && twoB fo s.w.length s.h.length s.ps.length bw bh bp)) := by
  simp only [F53, D53, J53_r1, D53_r1, J53_c3, D53_c3, J53_r3, D53_r3, J53_r4, D53_r4, J53_r7, D53_r7, PT.ev, PT.test, dite_eq_ite, Ws, rn_len, rk_len, hw, hh, hp, Option.bind_some]
  have hc : fo < 0 ∨ fo = 0 ∨ fo = 1 ∨ fo = 2 ∨ fo = 3 ∨ fo > 3 := by omega
  have e0 : ∀ k : Nat, ((k : Int) == 0) = decide (k = 0) := fun k => leneq k 0
  rcases hc with h | rfl | rfl | rfl | rfl | h
  · simp [PT.ev, PT.test, dite_eq_ite, Ws, oneB, h, show ¬ 0 ≤ fo by omega]
  · by_cases a : n = 0 <;> by_cases b : s.ps.length = 0 <;> cases bw <;> simp [PT.ev, PT.test, dite_eq_ite, Ws, hw, hh, hp, rk_len, rn_len, e0, oneB, twoB, a, b]
  · by_cases a : n = 0 <;> by_cases b : s.ps.length = 0 <;> cases bw <;> simp [PT.ev, PT.test, dite_eq_ite, Ws, hw, hh, hp, rk_len, rn_len, e0, oneB, twoB, a, b]
  · by_cases a : n < 2
    · simp [PT.ev, PT.test, dite_eq_ite, Ws, oneB, a, show ¬ 2 ≤ n by omega]
    · by_cases c : n > 16
      · simp [PT.ev, PT.test, dite_eq_ite, Ws, oneB, a, c, show ¬ n ≤ 16 by omega]
      · by_cases b : s.ps.length = 0 <;> cases bw <;> simp [PT.ev, PT.test, dite_eq_ite, Ws, hw, hh, hp, rk_len, rn_len, e0, oneB, twoB, a, b, c, show 2 ≤ n by omega, show n ≤ 16 by omega]
  · by_cases a : n = 0 <;> by_cases b : s.w = [] <;> by_cases c : s.h = [] <;> simp [PT.ev, PT.test, dite_eq_ite, Ws, hw, hh, hp, rk_len, rn_len, e0, oneB, twoB, a, b, c]
  · simp [PT.ev, PT.test, dite_eq_ite, Ws, oneB, show ¬ fo < 0 by omega, h, show ¬ fo ≤ 3 by omega]
theorem ifq (b x : Bool) : (if b = true then some (A15.a0 x) else some (A15.a0 false)) = some (A15.a0 (b && x)) := by cases b <;> rfl
theorem ifo (b c x : Bool) : (if b = true then some (A15.a0 x) else some (A15.a0 (c && x))) = some (A15.a0 ((b || c) && x)) := by cases b <;> rfl
/-- What is asked of a shape so that both tell the same of whether it may be. -/
structure Gr (s : Shp) : Prop where
  w : (s.w.length : Int) < 4611686018427387904
  h : (s.h.length : Int) < 4611686018427387904
  ps : (s.ps.length : Int) < 4611686018427387904
  gw : ∀ k ∈ s.ps, Gw k
  cs : (s.cs.length : Int) < 4611686018427387904
  wd : (s.wd.length : Int) < 4611686018427387904
  ds : (s.ds.length : Int) < 4611686018427387904
  fr : (s.fr.length : Int) < 4611686018427387904
  to_ : (s.to_.length : Int) < 4611686018427387904
theorem Gs.gr {s : Shp} (g : Gs s) : Gr s := by
  have h1 := g.cols.1
  have h2 := g.wd.1
  have h3 := g.ds.1
  have h4 := g.fr.1
  have h5 := g.to_.1
  exact ⟨g.gl.w, g.gl.h, g.gl.ps, fun k hk => (g.gl.gk k hk).gw, by omega, by omega, by omega, by omega, by omega⟩
end Go.Proofs.YtifalphladcdcaaGreat.H

/- Keys, forms, shapes of the program alone: that they are told. Conditions: those stated. -/
namespace Go.Proofs.YtifalphladcdcaaGreat.H
open Go Go.VM
set_option maxRecDepth 100000
/-- One of two. -/
def Two {α : Type} (a b : α) (o : Option α) : Prop := o = some a ∨ o = some b
theorem kr1_loop (ks : List Ky) (hl : (ks.length : Int) < 4611686018427387904) : ∀ (n i : Nat) (ahead : Int), i ≤ ks.length → ks.length < n + i → Two (.e1 (.mk (Rn ks))) .e0 (L56_0 n (.s0 (.mk (Rn ks) ahead ks.length i)))
  | 0, i, ahead, h1, h2 => by omega
  | n + 1, i, ahead, h1, h2 => by
    rw [L56_0_s0]
    by_cases h : i < ks.length
    · have hg := List.getElem?_eq_getElem h
      have ih := kr1_loop ks hl n (i + 1) ks[i].c0 h (by omega)
      simp only [D56_0, PT.ev, PT.test, dite_eq_ite, Ws, bnd_def, if_pos (show (i : Int) < (ks.length : Int) by omega), if_pos (show (0 : Int) ≤ (i : Int) by omega), Int.toNat_natCast, rn_get, hg, Option.bind_some, qstep, N56_0.nx, wi (show (i : Int) < 9223372036854775807 by omega)]
      repeat' split
      all_goals first
        | exact .inr rfl
        | exact ih
    · simp only [D56_0, PT.ev, PT.test, dite_eq_ite, Ws, if_neg (show ¬ (i : Int) < (ks.length : Int) by omega), N56_0.nx]
      exact .inl rfl
theorem kr1 (ks : List Ky) (hl : (ks.length : Int) < 4611686018427387904) : ∃ b, F56 (Rn ks) = some (.a0 b) := by
  have h := kr1_loop ks hl 18446744073709551616 0 0 (by omega) (by omega)
  rw [show ((0 : Nat) : Int) = 0 from rfl] at h
  simp only [F56, D56, PT.ev, PT.test, dite_eq_ite, Ws, rn_len]
  rcases h with h1 | h1 <;> rw [h1] <;> exact ⟨_, rfl⟩
theorem pk1_loop (ks : List PK) (hk : ∀ k ∈ ks, Gw k) (hl : (ks.length : Int) < 4611686018427387904) : ∀ (n i : Nat) (ahead : Int), i ≤ ks.length → ks.length < n + i → Two (.e1 (.mk (Rk ks))) .e0 (L112_0 n (.s0 (.mk (Rk ks) ahead ks.length i)))
  | 0, i, ahead, h1, h2 => by omega
  | n + 1, i, ahead, h1, h2 => by
    rw [L112_0_s0]
    by_cases h : i < ks.length
    · have hg := List.getElem?_eq_getElem h
      have h0 : 0 < ks.length := by omega
      obtain ⟨ps, e1, e2⟩ := (hk ks[i] (List.getElem_mem h)).ps
      obtain ⟨qs, f1, f2⟩ := (hk ks[0] (List.getElem_mem h0)).ps
      have ih := pk1_loop ks hk hl n (i + 1) ks[i].c0 h (by omega)
      simp only [D112_0, PT.ev, PT.test, dite_eq_ite, Ws, bnd_def, if_pos (show (i : Int) < (ks.length : Int) by omega), if_pos (show (0 : Int) ≤ (i : Int) by omega), Int.toNat_natCast, rk_get, hg, List.getElem?_eq_getElem h0, Option.bind_some, qstep, e1, f1,
        qempty, qright _ ps (by omega), qfits, rp_len, N112_0.nx, wi (show (i : Int) < 9223372036854775807 by omega)]
      repeat' split
      all_goals first
        | exact .inr rfl
        | exact ih
    · simp only [D112_0, PT.ev, PT.test, dite_eq_ite, Ws, if_neg (show ¬ (i : Int) < (ks.length : Int) by omega), N112_0.nx]
      exact .inl rfl
theorem pk1 (ks : List PK) (hk : ∀ k ∈ ks, Gw k) (hl : (ks.length : Int) < 4611686018427387904) : ∃ b, F112 (Rk ks) = some (.a0 b) := by
  have h := pk1_loop ks hk hl 18446744073709551616 0 0 (by omega) (by omega)
  rw [show ((0 : Nat) : Int) = 0 from rfl] at h
  simp only [F112, D112, PT.ev, PT.test, dite_eq_ite, Ws, rk_len]
  rcases h with h1 | h1 <;> rw [h1] <;> exact ⟨_, rfl⟩
theorem cr1_loop (ks : List Ck) (hl : (ks.length : Int) < 4611686018427387904) : ∀ (n i : Nat) (ahead : Int), i ≤ ks.length → ks.length < n + i → Two (.e1 (.mk (Rc ks))) .e0 (L55_0 n (.s0 (.mk (Rc ks) ahead ks.length i)))
  | 0, i, ahead, h1, h2 => by omega
  | n + 1, i, ahead, h1, h2 => by
    rw [L55_0_s0]
    by_cases h : i < ks.length
    · have hg := List.getElem?_eq_getElem h
      have ih := cr1_loop ks hl n (i + 1) ks[i].c0 h (by omega)
      simp only [D55_0, PT.ev, PT.test, dite_eq_ite, Ws, bnd_def, if_pos (show (i : Int) < (ks.length : Int) by omega), if_pos (show (0 : Int) ≤ (i : Int) by omega), Int.toNat_natCast, rc_get, hg, Option.bind_some, qstep, N55_0.nx, wi (show (i : Int) < 9223372036854775807 by omega)]
      repeat' split
      all_goals first
        | exact .inr rfl
        | exact ih
    · simp only [D55_0, PT.ev, PT.test, dite_eq_ite, Ws, if_neg (show ¬ (i : Int) < (ks.length : Int) by omega), N55_0.nx]
      exact .inl rfl
theorem cr1 (ks : List Ck) (hl : (ks.length : Int) < 4611686018427387904) : ∃ b, F55 (Rc ks) = some (.a0 b) := by
  have h := cr1_loop ks hl 18446744073709551616 0 0 (by omega) (by omega)
  rw [show ((0 : Nat) : Int) = 0 from rfl] at h
  simp only [F55, D55, PT.ev, PT.test, dite_eq_ite, Ws, rc_len]
  rcases h with h1 | h1 <;> rw [h1] <;> exact ⟨_, rfl⟩
theorem dr1_loop (ds : List Dn) (hl : (ds.length : Int) < 4611686018427387904) : ∀ (n i : Nat), i ≤ ds.length → ds.length < n + i →
    L180_0 n (.s0 (.mk (Rd ds) ds.length i)) = some .e1 ∨ ∃ k : Nat, L180_0 n (.s0 (.mk (Rd ds) ds.length i)) = some (.e0 (.mk k))
  | 0, i, h1, h2 => by omega
  | n + 1, i, h1, h2 => by
    rw [L180_0_s0]
    by_cases h : i < ds.length
    · have hg := List.getElem?_eq_getElem h
      have ih := dr1_loop ds hl n (i + 1) h (by omega)
      simp only [D180_0, PT.ev, PT.test, dite_eq_ite, Ws, bnd_def, if_pos (show (i : Int) < (ds.length : Int) by omega), if_pos (show (0 : Int) ≤ (i : Int) by omega), Int.toNat_natCast, rd_get, hg, Option.bind_some, qdash1, N180_0.nx, N180_0.nx, wi (show (i : Int) < 9223372036854775807 by omega)]
      cases (decide (ds[i].c0 < 65536) || decide (ds[i].c0 > 67108864)) with
      | true => exact .inr ⟨i, rfl⟩
      | false => exact ih
    · simp only [D180_0, PT.ev, PT.test, dite_eq_ite, Ws, if_neg (show ¬ (i : Int) < (ds.length : Int) by omega), N180_0.nx]
      first
        | exact .inl trivial
        | exact .inl rfl
theorem dr1 (ds : List Dn) (hl : (ds.length : Int) < 4611686018427387904) : ∃ b, F57 (Rd ds) = some (.a0 b) ∧ (b = true → ds.length ≤ 8) := by
  have h := dr1_loop ds hl 18446744073709551616 0 (by omega) (by omega)
  rw [show ((0 : Nat) : Int) = 0 from rfl] at h
  simp only [F57, D57, F115, D115, F180, D180, PT.ev, PT.test, dite_eq_ite, Ws, rd_len]
  by_cases h8 : (ds.length : Int) ≤ 8
  · rw [if_pos h8]
    rcases h with h1 | ⟨k, h1⟩ <;> rw [h1] <;> exact ⟨_, rfl, fun _ => by omega⟩
  · rw [if_neg h8]; exact ⟨_, rfl, fun h => by cases h⟩
theorem sr1 (s : Shp) (g : Gr s) : ∃ b, F15 (Ws s) = some (.a0 b) := by
  obtain ⟨bw, w1⟩ := kr1 s.w g.w
  obtain ⟨bh, h1⟩ := kr1 s.h g.h
  obtain ⟨bp, p1⟩ := pk1 s.ps g.gw g.ps
  obtain ⟨bc, c1⟩ := cr1 s.cs g.cs
  obtain ⟨bd, d1, _⟩ := dr1 s.ds g.ds
  obtain ⟨b1, x1⟩ := kr1 s.wd g.wd
  obtain ⟨b2, y1⟩ := kr1 s.fr g.fr
  obtain ⟨b3, z1⟩ := kr1 s.to_ g.to_
  simp only [F15, D15, PT.ev, PT.test, dite_eq_ite, Ws, qform s s.form s.n bw bh bp w1 h1 p1, Option.bind_some, qpaint, c1, d1, x1, y1, z1, ifq, ifo]
  exact ⟨_, rfl⟩
/-! ### Paths -/
theorem pat1 (ks : List PK) (hk : ∀ k ∈ ks, Gw k) (hl : (ks.length : Int) < 4611686018427387904) (t : Int) :
    ∃ c ps, F109 (Rk ks) t = some (.a0 c ps.length (Rp ps)) ∧ (ps.length : Int) * 16 ≤ 140737488355328 := by
  simp only [F109, D109, PT.ev, PT.test, dite_eq_ite, Ws, rk_len, beq_iff_eq]
  by_cases h0 : (ks.length : Int) = 0
  · rw [if_pos h0]; exact ⟨false, [], rfl, by decide⟩
  · have hw : w64 ((ks.length : Int) - 1) = (ks.length : Int) - 1 := by rw [w64_in (by omega) (by omega)]
    have hd' := down ks hl t 18446744073709551616 ks.length (by omega) (by omega)
    rw [if_neg h0, hw, hd']
    have hb := lst_bd ks t ks.length
    simp only [Option.bind_some, PT.ev, PT.test, dite_eq_ite, Ws, rk_len, hw, beq_iff_eq]
    generalize lst ks t ks.length = z at *
    have hz : 0 < ks.length := by omega
    by_cases h1 : z = -1
    · obtain ⟨ps, e1, e2⟩ := (hk ks[0] (List.getElem_mem hz)).ps
      simp only [if_pos h1, if_pos (show z < 0 by omega), rk_get, List.getElem?_eq_getElem hz, Option.bind_some, e1, F170, D170, PT.ev, PT.test, dite_eq_ite, Ws, clone_eq ps e2, rp_len]
      exact ⟨_, ps, rfl, e2⟩
    · have hzl : z.toNat < ks.length := by omega
      obtain ⟨ps, e1, e2⟩ := (hk ks[z.toNat] (List.getElem_mem hzl)).ps
      by_cases h2 : z = (ks.length : Int) - 1
      · simp only [if_neg h1, if_neg (show ¬ z < 0 by omega), if_pos h2, if_pos (show 0 ≤ z by omega), rk_get, List.getElem?_eq_getElem hzl, Option.bind_some, e1, F170, D170, PT.ev, PT.test, dite_eq_ite, Ws, clone_eq ps e2, rp_len]
        exact ⟨_, ps, rfl, e2⟩
      · have hw2 : w64 (z + 1) = z + 1 := w64_in (by omega) (by omega)
        have hzl2 : (z + 1).toNat < ks.length := by omega
        obtain ⟨qs, f1, f2⟩ := (hk ks[(z + 1).toNat] (List.getElem_mem hzl2)).ps
        simp only [if_neg h1, if_neg (show ¬ z < 0 by omega), if_neg h2, if_pos (show 0 ≤ z by omega), hw2, if_pos (show 0 ≤ z + 1 by omega), rk_get, List.getElem?_eq_getElem hzl, List.getElem?_eq_getElem hzl2, Option.bind_some, e1, f1, qpart, qgoes, PT.ev, PT.test, dite_eq_ite, Ws, qmorph _ ps _ qs _ e2]
        refine ⟨_, morphv _ ps _ qs _, by rw [morph_len], ?_⟩
        rw [morph_len]; exact e2
theorem str1_loop (ps : List Pt) (h0 : 0 < ps.length) (hl : ps.length ≤ 1000) : ∀ (n i : Nat) (acc : List Pt), i ≤ ps.length → ps.length < n + i → acc.length = 3 * i + 1 →
    ∃ res : List Pt, L122_0 n (.s0 (.mk (Rp ps) ps.length i acc.length (Rp acc))) = some (.e0 (.mk res.length (Rp res))) ∧ res.length = 3 * ps.length + 1
  | 0, i, acc, h1, h2, _ => by omega
  | n + 1, i, acc, h1, h2, h3 => by
    rw [L122_0_s0]
    by_cases h : i < ps.length
    · have hm : (i + 1) % ps.length < ps.length := Nat.mod_lt _ h0
      have ht : Int.tmod ((i + 1 : Nat) : Int) (ps.length : Int) = (((i + 1) % ps.length : Nat) : Int) := rfl
      have hc : 0 + acc.length ≤ acc.length ∧ (acc.length + 3) * 16 ≤ 140737488355328 ∧ acc.length + 3 ≤ 140737488355328 := by omega
      simp only [D122_0, PT.ev, PT.test, dite_eq_ite, Ws, rp_len, if_pos (show (i : Int) < (ps.length : Int) by omega), if_pos (show (0 : Int) ≤ (i : Int) by omega), Int.toNat_natCast, rp_get, List.getElem?_eq_getElem h, Option.bind_some,
        if_neg (show ¬ (ps.length : Int) = 0 by omega), wi (show (i : Int) < 9223372036854775807 by omega), ht, if_pos (show (0 : Int) ≤ (((i + 1) % ps.length : Nat) : Int) by omega), List.getElem?_eq_getElem hm, if_pos hc,
        N122_0.nx]
      have e : List.take acc.length (Rp acc) ++ [[i64 ps[i].c0, i64 ps[i].c1], [i64 ps[(i + 1) % ps.length].c0, i64 ps[(i + 1) % ps.length].c1], [i64 ps[(i + 1) % ps.length].c0, i64 ps[(i + 1) % ps.length].c1]] = Rp (acc ++ [ps[i], ps[(i + 1) % ps.length], ps[(i + 1) % ps.length]]) := push3 acc _ _ _
      rw [e]
      have hlen : (acc ++ [ps[i], ps[(i + 1) % ps.length], ps[(i + 1) % ps.length]]).length = acc.length + 3 := by simp
      rw [← hlen]
      exact str1_loop ps h0 hl n (i + 1) _ h (by omega) (by rw [hlen]; omega)
    · simp only [D122_0, PT.ev, PT.test, dite_eq_ite, Ws, rp_len, if_neg (show ¬ (i : Int) < (ps.length : Int) by omega), N122_0.nx]
      exact ⟨acc, rfl, by omega⟩
theorem str1 (ps : List Pt) (h0 : 0 < ps.length) (hl : ps.length ≤ 1000) : ∃ res : List Pt, F122 (Rp ps) = some (.a0 true res.length (Rp res)) ∧ res.length = 3 * ps.length + 1 := by
  obtain ⟨res, h1, h3⟩ := str1_loop ps h0 hl 18446744073709551616 0 [ps[0]] (by omega) (by omega) rfl
  rw [show ((0 : Nat) : Int) = 0 from rfl] at h1
  refine ⟨res, ?_, h3⟩
  simp only [F122, D122, PT.ev, PT.test, dite_eq_ite, Ws, rp_get, List.getElem?_eq_getElem h0, Option.bind_some, rp_len]
  rw [show [[i64 ps[0].c0, i64 ps[0].c1]] = Rp [ps[0]] from rfl, show (1 : Nat) = [ps[0]].length from rfl, h1]
  rfl
theorem rect1 (w h : Int) : ∃ res : List Pt, F63 w h = some (.a0 true res.length (Rp res)) ∧ res.length = 13 := by
  obtain ⟨res, h1, h3⟩ := str1 [⟨w64 (0 - w / 2), w64 (0 - h / 2)⟩, ⟨w64 (w - w / 2), w64 (0 - h / 2)⟩, ⟨w64 (w - w / 2), w64 (h - h / 2)⟩, ⟨w64 (0 - w / 2), w64 (h - h / 2)⟩] (by simp) (by simp)
  simp only [Rp, List.map_cons, List.map_nil, W28.cells] at h1
  refine ⟨res, ?_, h3⟩
  simp only [F63, D63, PT.ev, PT.test, dite_eq_ite, Ws, at_pt, Option.bind_some, fd (show (0 : Int) ≤ 2 by decide), h1]
theorem oval1 (w h : Int) : ∃ res : List Pt, F65 w h = some (.a0 true res.length (Rp res)) ∧ res.length = 13 := by
  refine ⟨[⟨w / 2, 0⟩, ⟨w / 2, mul (h / 2) 36195⟩, ⟨mul (w / 2) 36195, h / 2⟩, ⟨0, h / 2⟩, ⟨w64 (0 - mul (w / 2) 36195), h / 2⟩, ⟨w64 (0 - w / 2), mul (h / 2) 36195⟩, ⟨w64 (0 - w / 2), 0⟩, ⟨w64 (0 - w / 2), w64 (0 - mul (h / 2) 36195)⟩, ⟨w64 (0 - mul (w / 2) 36195), w64 (0 - h / 2)⟩, ⟨0, w64 (0 - h / 2)⟩, ⟨mul (w / 2) 36195, w64 (0 - h / 2)⟩, ⟨w / 2, w64 (0 - mul (h / 2) 36195)⟩, ⟨w / 2, 0⟩], ?_, rfl⟩
  simp only [F65, D65, PT.ev, PT.test, dite_eq_ite, Ws, at_pt, qmul, Option.bind_some, fd (show (0 : Int) ≤ 2 by decide)]; rfl
theorem star1_loop (N : Nat) (h0 : 2 ≤ N) (hl : N ≤ 16) (r s : Int) : ∀ (n j : Nat) (acc : List Pt), j ≤ 2 * N → 2 * N < n + j → acc.length = j →
    ∃ res : List Pt, L67_0 n (.s0 (.mk N r s acc.length (2 * N : Nat) j (Rp acc))) = some (.e0 (.mk res.length (Rp res))) ∧ res.length = 2 * N
  | 0, j, acc, h1, h2, _ => by omega
  | n + 1, j, acc, h1, h2, h3 => by
    rw [L67_0_s0]
    by_cases h : j < 2 * N
    · have hc : 0 + acc.length ≤ acc.length ∧ (acc.length + 1) * 16 ≤ 140737488355328 ∧ acc.length + 1 ≤ 140737488355328 := by omega
      have go : ∀ d a, ∃ res : List Pt, L67_0 n (.s0 (.mk N r s (acc.length + 1) (2 * N : Nat) (j + 1 : Nat) (List.take acc.length (Rp acc) ++ [[i64 (mul d (cs a)), i64 (mul d (sn a))]]))) = some (.e0 (.mk res.length (Rp res))) ∧ res.length = 2 * N := by
        intro d a
        have e : List.take acc.length (Rp acc) ++ [[i64 (mul d (cs a)), i64 (mul d (sn a))]] = Rp (acc ++ [⟨mul d (cs a), mul d (sn a)⟩]) := push1 acc ⟨mul d (cs a), mul d (sn a)⟩
        have hlen : (acc ++ [(⟨mul d (cs a), mul d (sn a)⟩ : Pt)]).length = acc.length + 1 := by simp
        rw [e, ← hlen]
        exact star1_loop N h0 hl r s n (j + 1) _ h (by omega) (by rw [hlen, h3])
      simp only [D67_0, PT.ev, PT.test, dite_eq_ite, Ws, J67_c27, D67_c27, if_pos (show (j : Int) < ((2 * N : Nat) : Int) by omega), if_neg (show ¬ (N : Int) = 0 by omega)]
      by_cases hj : (Int.tmod (j : Int) 2 == 1) = true
      · simp only [hj, if_true, Option.bind_some, PT.ev, PT.test, dite_eq_ite, Ws, qcos, qsin', qmul, at_pt, rp_len, if_pos hc, N67_0.nx, wi (show (j : Int) < 9223372036854775807 by omega)]
        exact go s _
      · simp only [hj, Bool.false_eq_true, if_false, Option.bind_some, PT.ev, PT.test, dite_eq_ite, Ws, qcos, qsin', qmul, at_pt, rp_len, if_pos hc, N67_0.nx, wi (show (j : Int) < 9223372036854775807 by omega)]
        exact go r _
    · simp only [D67_0, PT.ev, PT.test, dite_eq_ite, Ws, if_neg (show ¬ (j : Int) < ((2 * N : Nat) : Int) by omega), N67_0.nx]
      exact ⟨acc, rfl, by omega⟩
theorem star1 (k r s : Int) : ∃ res : List Pt, F67 k r s = some (.a0 true res.length (Rp res)) ∧ res.length ≤ 97 := by
  obtain ⟨N, hN1, hN2, hq⟩ : ∃ N : Nat, 2 ≤ N ∧ N ≤ 16 ∧ (if (if 16 < k then (16 : Int) else k) > 2 then if 16 < k then (16 : Int) else k else 2) = (N : Int) := by
    by_cases h1 : 16 < k
    · exact ⟨16, by omega, by omega, by simp [h1]⟩
    · by_cases h2 : k > 2
      · exact ⟨k.toNat, by omega, by omega, by rw [if_neg h1, if_pos h2]; omega⟩
      · exact ⟨2, by omega, by omega, by rw [if_neg h1, if_neg h2]; rfl⟩
  obtain ⟨pt, h1, h3⟩ := star1_loop N hN1 hN2 r s 18446744073709551616 0 [] (by omega) (by omega) rfl
  have hw : w64 (2 * (N : Int)) = ((2 * N : Nat) : Int) := by rw [w64_in (by omega) (by omega)]; omega
  obtain ⟨res, g1, g3⟩ := str1 pt (by omega) (by omega)
  refine ⟨res, ?_, by omega⟩
  simp only [F67, D67, PT.ev, PT.test, dite_eq_ite, Ws, hq, hw]
  rw [show (Rp ([] : List Pt)) = [] from rfl, show ((0 : Nat) : Int) = 0 from rfl, show ([] : List Pt).length = 0 from rfl] at h1
  rw [h1]
  simp only [Option.bind_some, PT.ev, PT.test, dite_eq_ite, Ws, rp_len, if_pos (show 0 + pt.length ≤ pt.length by omega), take_rp, g1]
/-- What is asked of a shape. -/
structure Gm (s : Shp) : Prop where
  w : (s.w.length : Int) < 4611686018427387904
  h : (s.h.length : Int) < 4611686018427387904
  ps : (s.ps.length : Int) < 4611686018427387904
  gw : ∀ k ∈ s.ps, Gw k
theorem sat1 (s : Shp) (g : Gm s) (t : Int) : ∃ (c : Bool) (qs : List Pt), F51 (Ws s) t = some (.a0 c qs.length (Rp qs)) ∧ (qs.length : Int) * 16 ≤ 140737488355328 := by
  simp only [F51, D51, PT.ev, PT.test, dite_eq_ite, Ws, qat s.w g.w, qat s.h g.h, Option.bind_some, beq_iff_eq]
  by_cases h0 : s.form = 0
  · obtain ⟨qs, e1, e3⟩ := rect1 (atN s.w t 0) (atN s.h t 0)
    simp only [if_pos h0, e1, Option.bind_some, PT.ev, PT.test, dite_eq_ite, Ws]
    exact ⟨true, qs, rfl, by omega⟩
  · by_cases h1 : s.form = 1
    · obtain ⟨qs, e1, e3⟩ := oval1 (atN s.w t 0) (atN s.h t 0)
      simp only [if_neg h0, if_pos h1, e1, Option.bind_some, PT.ev, PT.test, dite_eq_ite, Ws]
      exact ⟨true, qs, rfl, by omega⟩
    · by_cases h2 : s.form = 2
      · obtain ⟨qs, e1, e3⟩ := star1 s.n (atN s.w t 0) (atN s.h t 0)
        simp only [if_neg h0, if_neg h1, if_pos h2, e1, Option.bind_some, PT.ev, PT.test, dite_eq_ite, Ws]
        exact ⟨true, qs, rfl, by omega⟩
      · by_cases h3 : s.form = 3
        · obtain ⟨c, qs, e1, e3⟩ := pat1 s.ps g.gw g.ps t
          simp only [if_neg h0, if_neg h1, if_neg h2, if_pos h3, e1, Option.bind_some, PT.ev, PT.test, dite_eq_ite, Ws]
          exact ⟨c, qs, rfl, e3⟩
        · simp only [if_neg h0, if_neg h1, if_neg h2, if_neg h3]
          exact ⟨false, [], rfl, by decide⟩
end Go.Proofs.YtifalphladcdcaaGreat.H

/- Lengths, parts, dashes of the program alone. Conditions: those stated. -/
namespace Go.Proofs.YtifalphladcdcaaGreat.H
open Go Go.VM
set_option maxRecDepth 100000
theorem root1_loop (a : Int) : ∀ (n m x : Nat), n ≤ 32 → n < m → x % 2 ^ n = 0 → x + 2 ^ n ≤ 4294967296 →
    ∃ r : Nat, L284_0 m (.s0 (.mk a (x : Int) (((2 ^ n / 2 : Nat) : Int)))) = some (.e0 (.mk (r : Int))) ∧ r < 4294967296
  | _, 0, x, _, hm, _, _ => by omega
  | 0, m + 1, x, _, hm, _, hx => by
    rw [L284_0_s0]
    simp only [D284_0, PT.ev, PT.test, dite_eq_ite]
    rw [if_neg (by decide)]
    exact ⟨x, rfl, by omega⟩
  | n + 1, m + 1, x, hn, hm, hz, hx => by
    have hp : 0 < 2 ^ n := Nat.two_pow_pos n
    have hq : 2 ^ n ≤ 2 ^ 31 := Nat.pow_le_pow_right (by decide) (by omega)
    have e : 2 ^ (n + 1) / 2 = 2 ^ n := by rw [Nat.pow_succ]; omega
    have e0 : 2 ^ (n + 1) = 2 * 2 ^ n := by rw [Nat.pow_succ]; omega
    rw [e]
    have o1 := or_nat x (2 ^ n) (by omega) (by omega)
    have hor : x ||| 2 ^ n = x + 2 ^ n := by
      obtain ⟨k, hk⟩ := Nat.dvd_of_mod_eq_zero hz
      rw [hk]
      exact (Nat.two_pow_add_eq_or_of_lt (show 2 ^ n < 2 ^ (n + 1) by omega) k).symm
    rw [hor] at o1
    have e2 : Int.fdiv (((2 ^ n : Nat) : Int)) 2 = ((2 ^ n / 2 : Nat) : Int) := by rw [fd (by omega)]; omega
    have e3 : IntKind.wrap IntKind.u64 (Int.tdiv (((2 ^ n : Nat) : Int)) 2) = ((2 ^ n / 2 : Nat) : Int) := by
      rw [Int.tdiv_eq_ediv_of_nonneg (by omega), u64id (by omega) (by omega)]; omega
    have hz' : x % 2 ^ n = 0 := Nat.mod_eq_zero_of_dvd (Nat.dvd_trans ⟨2, by omega⟩ (Nat.dvd_of_mod_eq_zero hz))
    have hz2 : (x + 2 ^ n) % 2 ^ n = 0 := by rw [Nat.add_mod_right]; exact hz'
    have i1 := root1_loop a n m (x + 2 ^ n) (by omega) (by omega) hz2 (by omega)
    have i2 := root1_loop a n m x (by omega) (by omega) hz' (by omega)
    have hpos : ((2 ^ n : Nat) : Int) > 0 := by omega
    rw [L284_0_s0]
    simp only [D284_0, PT.ev, PT.test, dite_eq_ite, if_pos hpos, o1, e2, e3]
    by_cases h : IntKind.wrap IntKind.u64 (((x + 2 ^ n : Nat) : Int) * ((x + 2 ^ n : Nat) : Int)) ≤ a
    · simp only [if_pos h, N284_0.nx]; exact i1
    · simp only [if_neg h, N284_0.nx]; exact i2
theorem hyp1 (x y : Int) : ∃ h, F265 x y = some (.a0 h) := by
  simp only [F265, D265, PT.ev, PT.test, dite_eq_ite, bnd_def, qclamp]
  generalize IntKind.wrap IntKind.u64 _ = a
  obtain ⟨r, r1, r3⟩ := root1_loop a 32 18446744073709551616 0 (by decide) (by decide) (by decide) (by decide)
  rw [show (((0 : Nat) : Int)) = 0 from rfl, show (((2 ^ 32 / 2 : Nat) : Int)) = 2147483648 by decide] at r1
  simp only [F284, D284, PT.ev, PT.test, dite_eq_ite, r1, Option.bind_some, qhold]
  exact ⟨_, rfl⟩
theorem side1 (c : Bool) {l : List Pt} (hL : l.length ≤ 8796093022207) {i : Nat} (hi : i < l.length) :
    ∃ p q r s h, F267 c (Rp l) i = some (.a0 p q r s h) := by
  have hm : (i + 1) % l.length < l.length := Nat.mod_lt _ (by omega)
  have g0 : (0 : Int) ≤ (i : Int) := by omega
  have g1 : (0 : Int) ≤ (((i + 1) % l.length : Nat) : Int) := by omega
  have g2 : ¬ (l.length : Int) = 0 := by omega
  have t0 : Int.toNat (i : Int) = i := by omega
  have t1 : Int.toNat (((i + 1) % l.length : Nat) : Int) = (i + 1) % l.length := by omega
  obtain ⟨h, e1⟩ := hyp1 (w64 (pl (l[(i + 1) % l.length]).c0 - pl l[i].c0)) (w64 (pl (l[(i + 1) % l.length]).c1 - pl l[i].c1))
  refine ⟨pl l[i].c0, pl l[i].c1, pl (l[(i + 1) % l.length]).c0, pl (l[(i + 1) % l.length]).c1, h, ?_⟩
  simp only [F267, D267, PT.ev, PT.test, dite_eq_ite, rp_len, next_eq i _ hi hL, if_pos g0, if_pos g1, if_neg g2, t0, t1, rp_get, List.getElem?_eq_getElem hi, List.getElem?_eq_getElem hm, Option.bind_some, aplace, e1]
theorem length1_loop (c : Bool) {l : List Pt} (hL : l.length ≤ 8796093022207) : ∀ (n i : Nat) (acc : Int), i ≤ ns c l → ns c l < n + i →
    ∃ r, L236_0 n (.s0 (.mk acc (ns c l) i c (Rp l))) = some (.e0 (.mk r))
  | 0, i, acc, hi, hn => by omega
  | n + 1, i, acc, hi, hn => by
    have hl := ns_le c l
    rw [L236_0_s0]
    by_cases h : i < ns c l
    · have hc : (i : Int) < (ns c l : Int) := by omega
      obtain ⟨p, q, r, s, d, e1⟩ := side1 c hL (show i < l.length by omega)
      simp only [D236_0, PT.ev, PT.test, dite_eq_ite, bnd_def, if_pos hc, e1, Option.bind_some, qadd, wsucc (show i < 9000000000000 by omega), N236_0.nx]
      exact length1_loop c hL n (i + 1) _ (by omega) (by omega)
    · have hc : ¬ (i : Int) < (ns c l : Int) := by omega
      simp only [D236_0, PT.ev, PT.test, dite_eq_ite, if_neg hc, N236_0.nx]
      exact ⟨_, rfl⟩
theorem length1 (c : Bool) {l : List Pt} (hL : l.length ≤ 8796093022207) : ∃ r, F236 c (Rp l) = some (.a0 r) := by
  have hl := ns_le c l
  obtain ⟨r, e1⟩ := length1_loop c hL 18446744073709551616 0 0 (by omega) (by omega)
  rw [show ((0 : Nat) : Int) = 0 by rfl] at e1
  simp only [F236, D236, PT.ev, PT.test, dite_eq_ite, bnd_def, sidesA c l hL, e1, Option.bind_some]
  exact ⟨_, rfl⟩
theorem on1 (p q r s d l : Int) : ∃ x y, F268 p q r s d l = some (.a0 x y) := by
  simp only [F268, D268, PT.ev, PT.test, dite_eq_ite, aplace, Option.bind_some, bnd_def, qdiv, qmid']
  by_cases c1 : d ≤ 0
  · simp only [if_pos c1]; exact ⟨_, _, rfl⟩
  · simp only [if_neg c1]
    by_cases c3 : d ≥ l
    · simp only [if_pos c3]; exact ⟨_, _, rfl⟩
    · simp only [if_neg c3]; exact ⟨_, _, rfl⟩
theorem part1_loop (c : Bool) {l : List Pt} (hL : l.length ≤ 8796093022207) (f t : Int) : ∀ (n i : Nat) (s : Int) (o : List Pt), i ≤ ns c l → ns c l < n + i → o.length ≤ i + 1 →
    ∃ o' : List Pt, L237_0 n (.s0 (.mk f t s (ns c l) i c (Rp l) o.length (Rp o))) = some (.e0 (.mk o'.length (Rp o'))) ∧ o'.length ≤ ns c l + 1
  | 0, i, s, o, hi, hn, _ => by omega
  | n + 1, i, s, o, hi, hn, ho => by
    have hl := ns_le c l
    rw [L237_0_s0]
    by_cases h : i < ns c l
    · have hc : (i : Int) < (ns c l : Int) := by omega
      obtain ⟨p, q, r, u, d, e1⟩ := side1 c hL (show i < l.length by omega)
      obtain ⟨x1, y1, a1⟩ := on1 p q r u (w64 (f - s)) d
      obtain ⟨x2, y2, a2⟩ := on1 p q r u (w64 (t - s)) d
      have ihs := part1_loop c hL f t n (i + 1) (add s d) o (by omega) (by omega) (by omega)
      have ihp := part1_loop c hL f t n (i + 1) (add s d) (o ++ [⟨x2, y2⟩]) (by omega) (by omega) (by simp; omega)
      have hr : 0 + o.length ≤ List.length (Rp o) ∧ (o.length + 1) * 16 ≤ 140737488355328 ∧ o.length + 1 ≤ 140737488355328 := by rw [rp_len]; omega
      have hpush : List.take o.length (Rp o) ++ [[i64 x2, i64 y2]] = Rp (o ++ [⟨x2, y2⟩]) := push1 o ⟨x2, y2⟩
      rw [show (o ++ [(⟨x2, y2⟩ : Pt)]).length = o.length + 1 by simp] at ihp
      simp only [D237_0, J237_r10, D237_r10, J237_c50, D237_c50, PT.ev, PT.test, dite_eq_ite, bnd_def, if_pos hc, e1, Option.bind_some, qadd, wsucc (show i < 9000000000000 by omega)]
      have hw : w64 ((i : Int) + 1) = ((i + 1 : Nat) : Int) := wsucc (show i < 9000000000000 by omega)
      have g0 : 0 + 0 ≤ 0 ∧ (0 + 1) * 16 ≤ 140737488355328 ∧ 0 + 1 ≤ 140737488355328 := by decide
      have g1 : 0 + (0 + 1) ≤ 0 + 1 ∧ (0 + 1 + 1) * 16 ≤ 140737488355328 ∧ 0 + 1 + 1 ≤ 140737488355328 := by decide
      by_cases c1 : d > 0
      · by_cases c2 : add s d > f
        · by_cases c3 : s < t
          · by_cases c4 : o.length = 0
            · have hz : o = [] := List.eq_nil_of_length_eq_zero c4
              subst hz
              have ih2 := part1_loop c hL f t n (i + 1) (add s d) [⟨x1, y1⟩, ⟨x2, y2⟩] (by omega) (by omega) (by simp)
              simp only [if_pos c1, if_pos c2, decide_eq_true c3, if_true, Option.bind_some, PT.ev, PT.test, dite_eq_ite, List.length_nil, Int.natCast_zero, beq_self_eq_true, a1, a2, List.map_nil, List.take_nil, List.nil_append, List.length_cons, if_pos g0, if_pos g1, hw, N237_0.nx]
              exact ih2
            · have hk : ((o.length : Int) == 0) = false := by rw [beq_eq_false_iff_ne]; omega
              simp only [if_pos c1, if_pos c2, decide_eq_true c3, if_true, Option.bind_some, PT.ev, PT.test, dite_eq_ite, hk, Bool.false_eq_true, if_false, a2, if_pos hr, hpush, hw, N237_0.nx]
              exact ihp
          · simp only [if_pos c1, if_pos c2, decide_eq_false c3, Bool.false_eq_true, if_false, Option.bind_some, PT.ev, PT.test, dite_eq_ite, hw, N237_0.nx]
            exact ihs
        · simp only [if_pos c1, if_neg c2, Bool.false_eq_true, if_false, Option.bind_some, PT.ev, PT.test, dite_eq_ite, hw, N237_0.nx]
          exact ihs
      · simp only [if_neg c1, Bool.false_eq_true, if_false, Option.bind_some, PT.ev, PT.test, dite_eq_ite, hw, N237_0.nx]
        exact ihs
    · have hc : ¬ (i : Int) < (ns c l : Int) := by omega
      simp only [D237_0, PT.ev, PT.test, dite_eq_ite, if_neg hc, N237_0.nx]
      exact ⟨o, rfl, by omega⟩
theorem part1 (c : Bool) {l : List Pt} (hL : l.length ≤ 8796093022207) (f t : Int) : ∃ o : List Pt, F237 c (Rp l) f t = some (.a0 false o.length (Rp o)) ∧ o.length ≤ l.length + 1 := by
  simp only [F237, D237, PT.ev, PT.test, dite_eq_ite, bnd_def, qhold]
  by_cases h : hd f ≥ hd t
  · simp only [if_pos h]; exact ⟨[], rfl, by simp⟩
  · have hl := ns_le c l
    obtain ⟨o, e1, e3⟩ := part1_loop c hL (hd f) (hd t) 18446744073709551616 0 0 [] (by omega) (by omega) (by simp)
    rw [show ((0 : Nat) : Int) = 0 by rfl, show Rp [] = [] from rfl, show ([] : List Pt).length = 0 from rfl] at e1
    simp only [if_neg h, sidesA c l hL, e1, Option.bind_some]
    exact ⟨o, rfl, by omega⟩
theorem trim1_loop {ps : List Po} (hp : ∀ p ∈ ps, p.p.length ≤ 8796093022206) (hps : ps.length ≤ 1000000) (f t : Int) : ∀ (n i : Nat) (q : List Po), i ≤ ps.length → ps.length < n + i → q.length ≤ i → (∀ B, (∀ p ∈ ps, p.p.length ≤ B) → ∀ p ∈ q, p.p.length ≤ B + 1) →
    ∃ q' : List Po, L195_0 n (.s0 (.mk f t q.length (Ro ps) ps.length i (Ro q))) = some (.e0 (.mk q'.length (Ro q'))) ∧ q'.length ≤ ps.length ∧ ∀ B, (∀ p ∈ ps, p.p.length ≤ B) → ∀ p ∈ q', p.p.length ≤ B + 1
  | 0, i, q, hi, hn, _, _ => by omega
  | n + 1, i, q, hi, hn, hq, hB => by
    rw [L195_0_s0]
    by_cases h : i < ps.length
    · have hc : (i : Int) < (ps.length : Int) := by omega
      have g1 : (0 : Int) ≤ (i : Int) := by omega
      have hm := List.getElem_mem h
      have e2 := hp _ hm
      have ih := trim1_loop hp hps f t n (i + 1) q (by omega) (by omega) (by omega) hB
      obtain ⟨r, a1⟩ := length1 ps[i].c (l := ps[i].p) (by omega)
      obtain ⟨o, b1, b3⟩ := part1 ps[i].c (l := ps[i].p) (by omega) (mul r f) (mul r t)
      have push : ∀ (b : Bool) (o : List Pt), o.length ≤ ps[i].p.length + 1 → ∃ q' : List Po, L195_0 n (.s0 (.mk f t (q.length + 1) (Ro ps) ps.length ((i + 1 : Nat) : Int) (Ro (q ++ [⟨b, o⟩])))) = some (.e0 (.mk q'.length (Ro q'))) ∧ q'.length ≤ ps.length ∧ ∀ B, (∀ p ∈ ps, p.p.length ≤ B) → ∀ p ∈ q', p.p.length ≤ B + 1 := fun b o ho => by
        have := trim1_loop hp hps f t n (i + 1) (q ++ [⟨b, o⟩]) (by omega) (by omega) (by simp; omega) (fun B hb p hp' => by
          rw [List.mem_append, List.mem_singleton] at hp'
          rcases hp' with hp' | rfl
          · exact hB B hb p hp'
          · have := hb _ hm
            show o.length ≤ _; omega)
        rw [show (q ++ [(⟨b, o⟩ : Po)]).length = q.length + 1 by simp] at this
        exact this
      have hr : 0 + q.length ≤ (Ro q).length ∧ (q.length + 1) * 32 ≤ 140737488355328 ∧ q.length + 1 ≤ 140737488355328 := by rw [ro_len]; omega
      have c47 : F224 (Rp ps[i].p) = some (.a0 (Rp ps[i].p)) := clone_eq ps[i].p (by omega)
      simp only [D195_0, J195_r6, D195_r6, PT.ev, PT.test, dite_eq_ite, if_pos hc, if_pos g1, Int.toNat_natCast, ro_get, List.getElem?_eq_getElem h, Option.map_some, Option.bind_some, wsucc (show i < 9000000000000 by omega)]
      have hw : w64 ((i : Int) + 1) = ((i + 1 : Nat) : Int) := by rw [w64_in (by omega) (by omega)]; omega
      have z0 : ∀ n : Nat, 0 + n ≤ n := fun n => by omega
      have rest : ∃ q' : List Po, (if (o.length : Int) ≥ 2 then L195_0 n (.s0 (.mk f t (q.length + 1) (Ro ps) ps.length ((i + 1 : Nat) : Int) (Ro (q ++ [⟨false, o⟩])))) else L195_0 n (.s0 (.mk f t q.length (Ro ps) ps.length ((i + 1 : Nat) : Int) (Ro q)))) = some (.e0 (.mk q'.length (Ro q'))) ∧ q'.length ≤ ps.length ∧ ∀ B, (∀ p ∈ ps, p.p.length ≤ B) → ∀ p ∈ q', p.p.length ≤ B + 1 := by
        by_cases z3 : (o.length : Int) ≥ 2
        · rw [if_pos z3]; exact push false o b3
        · rw [if_neg z3]; exact ih
      by_cases z1 : f = 0
      · by_cases z2 : t = 65536
        · simp only [z1, z2, beq_self_eq_true, if_true, Option.bind_some, PT.ev, PT.test, dite_eq_ite, c47, rp_len, if_pos (z0 _), if_pos hr, rp_all, pushO, hw, N195_0.nx]
          have := push ps[i].c ps[i].p (by omega)
          rw [z1, z2] at this
          exact this
        · have w3 : (t == 65536) = false := by rw [beq_eq_false_iff_ne]; exact z2
          have z1' : (f == 0) = true := by rw [beq_iff_eq]; exact z1
          simp only [z1', w3, if_true, Bool.false_eq_true, if_false, Option.bind_some, PT.ev, PT.test, dite_eq_ite, rp_len, if_pos (z0 _), rp_all, a1, qmul, b1, if_pos hr, pushO, hw, N195_0.nx]
          exact rest
      · have w1 : (f == 0) = false := by rw [beq_eq_false_iff_ne]; exact z1
        simp only [w1, Bool.false_eq_true, if_false, Option.bind_some, PT.ev, PT.test, dite_eq_ite, rp_len, if_pos (z0 _), rp_all, a1, qmul, b1, if_pos hr, pushO, hw, N195_0.nx]
        exact rest
    · have hc : ¬ (i : Int) < (ps.length : Int) := by omega
      simp only [D195_0, PT.ev, PT.test, dite_eq_ite, if_neg hc, N195_0.nx]
      exact ⟨q, rfl, by omega, hB⟩
theorem trim1 {ps : List Po} (hp : ∀ p ∈ ps, p.p.length ≤ 8796093022206) (hps : ps.length ≤ 1000000) (f t : Int) : ∃ q : List Po, F195 (Ro ps) f t = some (.a0 q.length (Ro q)) ∧ q.length ≤ ps.length ∧ ∀ B, (∀ p ∈ ps, p.p.length ≤ B) → ∀ p ∈ q, p.p.length ≤ B + 1 := by
  obtain ⟨q, e1, e3, e4⟩ := trim1_loop hp hps (lo f t) (hi f t) 18446744073709551616 0 [] (by omega) (by omega) (by simp) (by simp)
  rw [show ((0 : Nat) : Int) = 0 by rfl, show Ro [] = [] from rfl, show ([] : List Po).length = 0 from rfl] at e1
  simp only [F195, D195, PT.ev, PT.test, dite_eq_ite, span1, Option.bind_some, ro_len, e1]
  exact ⟨q, rfl, e3, e4⟩
theorem dash1_loop (c : Bool) {p : List Pt} (hp : p.length ≤ 8796093022206) {ls : List Dn} (h0 : 0 < ls.length) (hl : ls.length ≤ 8) (N : Int) : ∀ (n i : Nat) (at_ : Int) (q : List Po), i ≤ 128 → 128 < n + i → q.length ≤ i → (∀ x ∈ q, x.p.length ≤ p.length + 1) →
    ∃ q' : List Po, L196_0 n (.s0 (.mk (Rd ls) q.length N at_ i c (Rp p) (Ro q))) = some (.e0 (.mk q'.length (Ro q'))) ∧ (∀ x ∈ q', x.p.length ≤ p.length + 1) ∧ q'.length ≤ 128
  | 0, i, at_, q, hi, hn, _, _ => by omega
  | n + 1, i, at_, q, hi, hn, hq, hg => by
    rw [L196_0_s0]
    simp only [D196_0, J196_r6, D196_r6, PT.ev, PT.test, dite_eq_ite, rd_len]
    by_cases c1 : (i : Int) < 128
    · by_cases c2 : at_ < N
      · have hm : Int.tmod (i : Int) (ls.length : Int) = ((i % ls.length : Nat) : Int) := by rw [Int.tmod_eq_emod_of_nonneg (by omega), Int.natCast_emod]
        have hlt : i % ls.length < ls.length := Nat.mod_lt _ h0
        have g0 : ¬ (ls.length : Int) = 0 := by omega
        have g1 : (0 : Int) ≤ ((i % ls.length : Nat) : Int) := by omega
        have hw : w64 ((i : Int) + 1) = ((i + 1 : Nat) : Int) := by rw [w64_in (by omega) (by omega)]; omega
        obtain ⟨o, e1, e3⟩ := part1 c (l := p) (by omega) at_ (w64 (at_ + (ls[i % ls.length]).c0))
        have ih := dash1_loop c hp h0 hl N n (i + 1) (w64 (at_ + (ls[i % ls.length]).c0)) q (by omega) (by omega) (by omega) hg
        have ihp := dash1_loop c hp h0 hl N n (i + 1) (w64 (at_ + (ls[i % ls.length]).c0)) (q ++ [⟨false, o⟩]) (by omega) (by omega) (by simp; omega) (fun x hx => by
          rw [List.mem_append, List.mem_singleton] at hx
          rcases hx with hx | rfl
          · exact hg x hx
          · show o.length ≤ _; omega)
        rw [List.length_append, List.length_singleton] at ihp
        have z0 : ∀ n : Nat, 0 + n ≤ n := fun n => by omega
        have hr : 0 + q.length ≤ (Ro q).length ∧ (q.length + 1) * 32 ≤ 140737488355328 ∧ q.length + 1 ≤ 140737488355328 := by rw [ro_len]; omega
        simp only [if_pos c1, decide_eq_true c2, if_true, Option.bind_some, PT.ev, PT.test, dite_eq_ite, if_neg g0, hm, if_pos g1, Int.toNat_natCast, rd_get', List.getElem?_eq_getElem hlt, rd_len]
        by_cases c3 : (Int.tmod (i : Int) 2 == 0) = true
        · simp only [if_pos c3, e1, Option.bind_some, rp_len, if_pos (z0 _), rp_all, hw]
          by_cases c4 : (o.length : Int) ≥ 2
          · simp only [if_pos c4, if_pos hr, pushO, N196_0.nx]; exact ihp
          · simp only [if_neg c4, N196_0.nx]; exact ih
        · simp only [if_neg c3, hw, N196_0.nx]; exact ih
      · simp only [if_pos c1, decide_eq_false c2, Bool.false_eq_true, if_false, Option.bind_some, PT.ev, PT.test, dite_eq_ite, N196_0.nx]
        exact ⟨q, rfl, hg, by omega⟩
    · simp only [if_neg c1, Bool.false_eq_true, if_false, Option.bind_some, PT.ev, PT.test, dite_eq_ite, N196_0.nx]
      exact ⟨q, rfl, hg, by omega⟩
theorem dash1 (c : Bool) {p : List Pt} (hp : p.length ≤ 8796093022206) (ls : List Dn) (hL : (ls.length : Int) < 4611686018427387904) : ∃ q : List Po, F196 c (Rp p) (Rd ls) = some (.a0 q.length (Ro q)) ∧ (∀ x ∈ q, x.p.length ≤ p.length + 1) ∧ q.length ≤ 128 := by
  obtain ⟨b, r1, hb⟩ := dr1 ls hL
  have c31 : F224 (Rp p) = some (.a0 (Rp p)) := clone_eq p (by omega)
  have z0 : ∀ n : Nat, 0 + n ≤ n := fun n => by omega
  have whole : (∀ x ∈ ([⟨c, p⟩] : List Po), x.p.length ≤ p.length + 1) := fun x hx => by rw [List.mem_singleton.1 hx]; show p.length ≤ _; omega
  simp only [F196, D196, J196_r1, D196_r1, PT.ev, PT.test, dite_eq_ite, rd_len]
  by_cases h0 : ((ls.length : Int) == 0) = true
  · simp only [if_pos h0, Option.bind_some, PT.ev, PT.test, dite_eq_ite, if_true, c31, rp_len, if_pos (z0 _), rp_all]
    exact ⟨[⟨c, p⟩], rfl, whole, by simp⟩
  · simp only [if_neg h0, r1, Option.bind_some, PT.ev, PT.test, dite_eq_ite]
    cases b with
    | false =>
      simp only [Bool.not_false, if_true, c31, Option.bind_some, rp_len, if_pos (z0 _), rp_all]
      exact ⟨[⟨c, p⟩], rfl, whole, by simp⟩
    | true =>
      rw [beq_iff_eq] at h0
      obtain ⟨N, n1⟩ := length1 c (l := p) (by omega)
      obtain ⟨q, q1, g1, g2⟩ := dash1_loop c hp (ls := ls) (by omega) (hb rfl) N 18446744073709551616 0 0 [] (by omega) (by omega) (by simp) (by simp)
      rw [show ((0 : Nat) : Int) = 0 by rfl, show Ro [] = [] from rfl, show ([] : List Po).length = 0 from rfl] at q1
      simp only [Bool.not_true, Bool.false_eq_true, if_false, n1, Option.bind_some, q1]
      exact ⟨q, rfl, g1, g2⟩
end Go.Proofs.YtifalphladcdcaaGreat.H

/- Outlines of the program alone. Conditions: those stated. -/
namespace Go.Proofs.YtifalphladcdcaaGreat.H
open Go Go.VM
set_option maxRecDepth 100000
theorem area1_loop {l : List Pt} (hL : l.length ≤ 8796093022208) : ∀ (m n i : Nat), i + m = l.length → m < n →
    L295_0 n (.s0 (.mk (Rp l) (arw l i) l.length i)) = some (.e0 (.mk (arw l l.length)))
  | _, 0, _, _, h => by omega
  | 0, n + 1, i, h, _ => by
    have hi : i = l.length := by omega
    subst hi
    rw [L295_0_s0]
    simp only [D295_0, PT.ev, PT.test, dite_eq_ite, if_neg (Int.lt_irrefl _), N295_0.nx]
  | m + 1, n + 1, i, h, hn => by
    have hi : i < l.length := by omega
    have hm : (i + 1) % l.length < l.length := Nat.mod_lt _ (by omega)
    have ih := area1_loop hL m n (i + 1) (by omega) (by omega)
    have c0 : (i : Int) < (l.length : Int) := by omega
    have c1 : (0 : Int) ≤ (i : Int) := by omega
    have c2 : ¬ (l.length : Int) = 0 := by omega
    have c3 : (0 : Int) ≤ (((i + 1) % l.length : Nat) : Int) := by omega
    have hs : w64 ((i : Int) + 1) = ((i + 1 : Nat) : Int) := by rw [w64_in (by omega) (by omega)]; omega
    have nx : Int.tmod ((i + 1 : Nat) : Int) (l.length : Int) = (((i + 1) % l.length : Nat) : Int) := by rw [Int.tmod_eq_emod_of_nonneg (by omega), Int.natCast_emod]
    have e1 : ∀ a b z : Int, w64 (z + w64 (w64 a - w64 b)) = w64 (z + (a - b)) := fun a b z => by simp only [w64_eq]; omega
    have e2 : ∀ a b z : Int, w64 (w64 (z + w64 a) - w64 b) = w64 (z + (a - b)) := fun a b z => by simp only [w64_eq]; omega
    rw [L295_0_s0]
    simp only [D295_0, PT.ev, PT.test, dite_eq_ite, rp_len, if_pos c0, if_pos c1, if_neg c2, nx, if_pos c3, Int.toNat_natCast, get_gt hi, get_gt hm, Option.bind_some, splace, e1, e2, hs, N295_0.nx]
    exact ih
theorem area1 {l : List Pt} (hL : l.length ≤ 8796093022208) : F295 (Rp l) = some (.a0 (arw l l.length)) := by
  have h1 := area1_loop hL l.length 18446744073709551616 0 (by omega) (by omega)
  rw [show ((0 : Nat) : Int) = 0 by rfl, show arw l 0 = 0 from rfl] at h1
  simp only [F295, D295, PT.ev, PT.test, dite_eq_ite, rp_len, h1, Option.bind_some]
theorem turnd1 {l : List Pt} (hL : l.length ≤ 8796093022206) : F287 (Rp l) = some (.a0 l.length (Rp (turn l))) := by
  have c31 : F224 (Rp l) = some (.a0 (Rp l)) := clone_eq l (by omega)
  simp only [F287, D287, PT.ev, PT.test, dite_eq_ite, c31, Option.bind_some, area1 (l := l) (by omega), rp_len, turn]
  by_cases h : arw l l.length < 0
  · simp only [if_pos h, rev_eq (l := l) (by omega), Option.bind_some]
  · simp only [if_neg h]
theorem ply1 {l : List Pt} (hL : l.length ≤ 8796093022206) : F272 l.length (Rp l) = some (.a0 true l.length (Rp (pls l)) (Rp (turn (pls l)))) := by
  have h := place_loop (l := l) (by omega) l.length 18446744073709551616 0 l (by omega) (by omega) rfl (fun q hq => by rw [if_neg (by omega)])
  rw [show ((0 : Nat) : Int) = 0 by rfl] at h
  have hp := pls_len l
  have t := turnd1 (l := pls l) (by omega)
  rw [hp] at t
  have tk : List.take l.length (Rp (pls l)) = Rp (pls l) := by rw [← hp]; exact rp_all (pls l)
  simp only [F272, D272, PT.ev, PT.test, dite_eq_ite, h, Option.bind_some, rp_len, hp, if_pos (show 0 + l.length ≤ l.length by omega), tk, t]
theorem sides1_loop (c : Bool) {l : List Pt} (hL : l.length ≤ 1000000000) : ∀ (n i : Nat) (q : List Sd), i ≤ ns c l → ns c l < n + i → q.length ≤ i →
    ∃ q' : List Sd, L238_0 n (.s0 (.mk q.length (ns c l) i c (Rp l) (R6 q))) = some (.e0 (.mk q'.length (R6 q'))) ∧ q'.length ≤ ns c l
  | 0, i, q, hi, hn, _ => by omega
  | n + 1, i, q, hi, hn, hq => by
    have hl := ns_le c l
    rw [L238_0_s0]
    by_cases hc : i < ns c l
    · have g : (i : Int) < (ns c l : Int) := by omega
      obtain ⟨p, r, x, y, d, e1⟩ := side1 c (l := l) (by omega) (i := i) (by omega)
      have hw : w64 ((i : Int) + 1) = ((i + 1 : Nat) : Int) := wsucc (by omega)
      have ih := sides1_loop c hL n (i + 1) q (by omega) (by omega) (by omega)
      simp only [D238_0, PT.ev, PT.test, dite_eq_ite, bnd_def, if_pos g, e1, Option.bind_some, hw]
      by_cases h0 : d > 0
      · have ihp := sides1_loop c hL n (i + 1) (q ++ [⟨p, r, x, y, divv (w64 (x - p)) d, divv (w64 (y - r)) d⟩]) (by omega) (by omega) (by simp; omega)
        rw [List.length_append, List.length_singleton] at ihp
        have p6 : List.take q.length (R6 q) ++ [[i64 p, i64 r, i64 x, i64 y, i64 (divv (w64 (x - p)) d), i64 (divv (w64 (y - r)) d)]] = R6 (q ++ [⟨p, r, x, y, divv (w64 (x - p)) d, divv (w64 (y - r)) d⟩]) := by
          rw [List.take_of_length_le (by rw [r6_len]; exact Nat.le_refl _), R6, R6, List.map_append]; rfl
        simp only [if_pos h0, qdiv, Option.bind_some, r6_len, if_pos (show 0 + q.length ≤ q.length ∧ (q.length + 1) * 48 ≤ 140737488355328 ∧ q.length + 1 ≤ 140737488355328 by omega), p6, N238_0.nx]
        exact ihp
      · simp only [if_neg h0, N238_0.nx]; exact ih
    · have g : ¬ (i : Int) < (ns c l : Int) := by omega
      simp only [D238_0, PT.ev, PT.test, dite_eq_ite, bnd_def, if_neg g, N238_0.nx]
      exact ⟨q, rfl, by omega⟩
theorem sides1 (c : Bool) {l : List Pt} (hL : l.length ≤ 1000000000) : ∃ q : List Sd, F238 c (Rp l) = some (.a0 q.length (R6 q)) ∧ q.length ≤ ns c l := by
  obtain ⟨q, e1, e3⟩ := sides1_loop c hL 18446744073709551616 0 [] (by omega) (by have := ns_le c l; omega) (by simp)
  rw [show ((0 : Nat) : Int) = 0 by rfl, show R6 [] = [] from rfl, show ([] : List Sd).length = 0 from rfl] at e1
  simp only [F238, D238, PT.ev, PT.test, dite_eq_ite, bnd_def, sidesA c l (show l.length ≤ 8796093022207 by omega), e1, Option.bind_some]
  exact ⟨q, rfl, e3⟩
theorem ply4 (x0 y0 x1 y1 x2 y2 x3 y3 : Int) : F272 4 [[i64 x0, i64 y0], [i64 x1, i64 y1], [i64 x2, i64 y2], [i64 x3, i64 y3]] = some (.a0 true 4 (Rp (pls [⟨x0, y0⟩, ⟨x1, y1⟩, ⟨x2, y2⟩, ⟨x3, y3⟩])) (Rp (turn (pls [⟨x0, y0⟩, ⟨x1, y1⟩, ⟨x2, y2⟩, ⟨x3, y3⟩])))) :=
  ply1 (l := [⟨x0, y0⟩, ⟨x1, y1⟩, ⟨x2, y2⟩, ⟨x3, y3⟩]) (by simp)
theorem ply3 (x0 y0 x1 y1 x2 y2 : Int) : F272 3 [[i64 x0, i64 y0], [i64 x1, i64 y1], [i64 x2, i64 y2]] = some (.a0 true 3 (Rp (pls [⟨x0, y0⟩, ⟨x1, y1⟩, ⟨x2, y2⟩])) (Rp (turn (pls [⟨x0, y0⟩, ⟨x1, y1⟩, ⟨x2, y2⟩])))) :=
  ply1 (l := [⟨x0, y0⟩, ⟨x1, y1⟩, ⟨x2, y2⟩]) (by simp)
theorem bodyO (s : Sd) (h : Int) (f t : Bool) : F239 (sM s) h f t = some (.a0 true 4 (Rp (turn (pls (bodyP s h f t))))) := by
  simp only [F239, D239, J239_c33, D239_c33, J239_c40, D239_c40, PT.ev, PT.test, dite_eq_ite, across1, qmul, Option.bind_some]
  cases f <;> cases t <;> simp only [if_true, Bool.false_eq_true, if_false, beside1, Option.bind_some, PT.ev, PT.test, dite_eq_ite, ply4] <;> rfl
theorem jointO (s t : Sd) (h : Int) : F240 (sM s) (sM t) h = some (.a0 2 (Ro [pg (wedA s t h), pg (wedB s t h)])) := by
  simp only [F240, D240, PT.ev, PT.test, dite_eq_ite, across1, beside1, Option.bind_some, ply3, tp_len, List.length_cons, List.length_nil, Nat.zero_add, Nat.reduceAdd, Nat.le_refl, if_true]
  rw [tp_take _ 3 rfl, tp_take _ 3 rfl]; rfl
theorem bodies1 (z : Int) (c : Bool) {q : List Sd} (hL : q.length ≤ 1000000) {h : Int} (rows : List (List V)) : ∀ (m n i : Nat) (out : List Po), i + m = q.length → m < n → out.length = i → (∀ p ∈ out, Pg p) →
    ∃ out' : List Po, L197_0 n (.s0 (.mk h q.length (ends z c) out.length q.length i c rows (R6 q) (Ro out))) = some (.e0 (.mk h q.length out'.length c rows (R6 q) (Ro out'))) ∧ (∀ p ∈ out', Pg p) ∧ out'.length = q.length
  | _, 0, _, _, _, h, _, _ => by omega
  | 0, n + 1, i, out, hi, _, ho, hp => by
    rw [L197_0_s0]
    simp only [D197_0, PT.ev, PT.test, dite_eq_ite, if_neg (show ¬ (i : Int) < (q.length : Int) by omega), N197_0.nx]
    exact ⟨out, rfl, hp, by omega⟩
  | m + 1, n + 1, i, out, hi, hn, ho, hp => by
    have hiq : i < q.length := by omega
    have hw : w64 ((i : Int) + 1) = ((i + 1 : Nat) : Int) := by rw [w64_in (by omega) (by omega)]; omega
    have c0 : (i : Int) < (q.length : Int) := by omega
    have c1 : (0 : Int) ≤ (i : Int) ∧ (i : Int) < (q.length : Int) := by omega
    have g6 : ((R6 q)[i]?).bind W223.dec = some q[i] := by rw [r6_get, List.getElem?_eq_getElem hiq]
    generalize q[i] = s at *
    have ih := fun (l : List Pt) (h4 : l.length = 4) => bodies1 z c hL (h := h) rows m n (i + 1) (out ++ [pg l]) (by omega) (by omega) (by simp; omega) (fun p hp' => by
      rw [List.mem_append, List.mem_singleton] at hp'
      rcases hp' with hp' | rfl
      · exact hp p hp'
      · exact ⟨l, .inr h4, rfl⟩)
    have hr : out.length ≤ List.length (Ro out) ∧ (out.length + 1) * 32 ≤ 140737488355328 ∧ out.length + 1 ≤ 140737488355328 := by rw [ro_len]; omega
    have l4 : ∀ f t : Bool, 4 ≤ (Rp (turn (pls (bodyP s h f t)))).length := fun f t => by rw [tp_len]; exact Nat.le_refl _
    have t4 : ∀ f t : Bool, List.take 4 (Rp (turn (pls (bodyP s h f t)))) = Rp (turn (pls (bodyP s h f t))) := fun f t => tp_take _ 4 rfl
    obtain ⟨f, t, hpr⟩ : ∃ f t : Bool,
        L197_0 (n + 1) (.s0 (.mk h q.length (ends z c) out.length q.length i c rows (R6 q) (Ro out))) = L197_0 n (.s0 (.mk h q.length (ends z c) (out.length + 1) q.length ((i + 1 : Nat) : Int) c rows (R6 q) (Ro (out ++ [pg (bodyP s h f t)])))) := by
      refine ⟨(ends z c && ((i : Int) == 0)), (ends z c && ((i : Int) == w64 ((q.length : Int) - 1))), ?_⟩
      rw [L197_0_s0]
      simp only [D197_0, PT.ev, PT.test, dite_eq_ite, if_pos c0, if_pos c1, Nat.zero_add, Int.toNat_natCast, g6, Option.bind_some]
      cases he : ends z c with
      | true => simp only [if_true, bodyO, Option.bind_some, PT.ev, PT.test, dite_eq_ite, Nat.zero_add, if_pos (l4 _ _), if_pos hr, t4, pushO, hw, N197_0.nx, Bool.true_and]; rfl
      | false => simp only [Bool.false_eq_true, if_false, bodyO, Option.bind_some, PT.ev, PT.test, dite_eq_ite, Nat.zero_add, if_pos (l4 _ _), if_pos hr, t4, pushO, hw, N197_0.nx, Bool.false_and]; rfl
    rw [hpr]
    have := ih (bodyP s h f t) rfl
    rw [List.length_append, List.length_singleton] at this
    exact this
theorem joints1 (c : Bool) {q : List Sd} (hL : q.length ≤ 1000000) {h : Int} (rows : List (List V)) : ∀ (m n i : Nat) (out : List Po), 1 ≤ i → (i + m = q.length ∨ (q.length < i ∧ m = 0)) → m < n → out.length + 2 * m ≤ 4000000 → (∀ p ∈ out, Pg p) →
    ∃ out' : List Po, L197_2 n (.s0 (.mk h q.length out.length i c rows (R6 q) (Ro out))) = some (.e0 (.mk h q.length out'.length c rows (R6 q) (Ro out'))) ∧ (∀ p ∈ out', Pg p) ∧ out'.length = out.length + 2 * m
  | _, 0, _, _, _, _, h, _, _ => by omega
  | 0, n + 1, i, out, h1, hi, _, ho, hp => by
    rw [L197_2_s0]
    simp only [D197_2, PT.ev, PT.test, dite_eq_ite, if_neg (show ¬ (i : Int) < (q.length : Int) by omega), N197_2.nx]
    exact ⟨out, rfl, hp, by omega⟩
  | m + 1, n + 1, i, out, h1, hi, hn, ho, hp => by
    have hiq : i < q.length := by omega
    have hiq' : i - 1 < q.length := by omega
    have hw : w64 ((i : Int) + 1) = ((i + 1 : Nat) : Int) := by rw [w64_in (by omega) (by omega)]; omega
    have hw' : w64 ((i : Int) - 1) = ((i - 1 : Nat) : Int) := by rw [w64_in (by omega) (by omega)]; omega
    have c0 : (i : Int) < (q.length : Int) := by omega
    have c1 : (0 : Int) ≤ (i : Int) ∧ (i : Int) < (q.length : Int) := by omega
    have c2 : (0 : Int) ≤ ((i - 1 : Nat) : Int) ∧ ((i - 1 : Nat) : Int) < (q.length : Int) := by omega
    have g6 : ((R6 q)[i]?).bind W223.dec = some q[i] := by rw [r6_get, List.getElem?_eq_getElem hiq]
    have g6' : ((R6 q)[i - 1]?).bind W223.dec = some q[i - 1] := by rw [r6_get, List.getElem?_eq_getElem hiq']
    generalize q[i] = t at *
    generalize q[i - 1] = s at *
    have ih := joints1 c hL (h := h) rows m n (i + 1) (out ++ [pg (wedA s t h), pg (wedB s t h)]) (by omega) (by omega) (by omega) (by simp; omega) (fun p hp' => by
      rw [List.mem_append] at hp'
      rcases hp' with hp' | hp'
      · exact hp p hp'
      · simp only [List.mem_cons, List.not_mem_nil, or_false] at hp'
        rcases hp' with rfl | rfl
        · exact ⟨_, .inl rfl, rfl⟩
        · exact ⟨_, .inl rfl, rfl⟩)
    have hn2 : (out ++ [pg (wedA s t h), pg (wedB s t h)]).length = out.length + 2 := by simp
    rw [hn2] at ih
    have l2 : (Ro [pg (wedA s t h), pg (wedB s t h)]).length = 2 := rfl
    have hr : out.length ≤ (Ro out).length ∧ (out.length + 2) * 32 ≤ 140737488355328 ∧ out.length + 2 ≤ 140737488355328 := by rw [ro_len]; omega
    rw [L197_2_s0]
    simp only [D197_2, PT.ev, PT.test, dite_eq_ite, if_pos c0, hw', if_pos c1, if_pos c2, Nat.zero_add, Int.toNat_natCast, g6, g6', Option.bind_some, jointO, l2, Nat.le_refl, if_true, take2, if_pos hr, ro_all, ro_app, hw, N197_2.nx]
    refine ih.imp fun out' ⟨a1, a3, a4⟩ => ⟨a1, a3, by omega⟩
theorem stroke1 (c : Bool) {l : List Pt} (hL : l.length ≤ 1000000) (w z : Int) : ∃ Q : List Po, F197 c (Rp l) w z = some (.a0 Q.length (Ro Q)) ∧ (∀ p ∈ Q, Pg p) ∧ Q.length ≤ 3 * l.length + 2 := by
  simp only [F197, D197, PT.ev, PT.test, dite_eq_ite, bnd_def, qclamp]
  generalize cl (Int.fdiv w 2) 0 67108864 = h
  by_cases h0 : (h == 0) = true
  · simp only [if_pos h0]
    exact ⟨[], rfl, by simp, by simp⟩
  · obtain ⟨q, s1, s3⟩ := sides1 c (l := l) (by omega)
    have hns := ns_le c l
    obtain ⟨out1, b1, b3, b4⟩ := bodies1 z c (q := q) (by omega) (h := h) (Rp l) q.length 18446744073709551616 0 [] (by omega) (by omega) rfl (by simp)
    obtain ⟨out2, c1, c3, c4⟩ := joints1 c (q := q) (by omega) (h := h) (Rp l) (q.length - 1) 18446744073709551616 1 out1 (by omega) (by omega) (by omega) (by omega) b3
    rw [show ((0 : Nat) : Int) = 0 by rfl, show Ro [] = [] from rfl, show ([] : List Po).length = 0 from rfl] at b1
    rw [show ((1 : Nat) : Int) = 1 by rfl] at c1
    simp only [if_neg h0, s1, Option.bind_some, PT.ev, PT.test, dite_eq_ite, ends_j, b1, c1, shut_p]
    cases hcc : (c && decide ((q.length : Int) ≥ 2)) with
    | false =>
      simp only [Bool.false_eq_true, if_false]
      exact ⟨out2, rfl, c3, by omega⟩
    | true =>
      have h2 : 2 ≤ q.length := by
        rw [Bool.and_eq_true] at hcc
        have := of_decide_eq_true hcc.2
        omega
      have hl : w64 ((q.length : Int) - 1) = ((q.length - 1 : Nat) : Int) := by rw [w64_in (by omega) (by omega)]; omega
      have hlt : q.length - 1 < q.length := by omega
      have hz : 0 < q.length := by omega
      have d1 : (0 : Int) ≤ ((q.length - 1 : Nat) : Int) ∧ ((q.length - 1 : Nat) : Int) < (q.length : Int) := by omega
      have d2 : (0 : Int) ≤ 0 ∧ (0 : Int) < (q.length : Int) := by omega
      have g6' : ((R6 q)[q.length - 1]?).bind W223.dec = some q[q.length - 1] := by rw [r6_get, List.getElem?_eq_getElem hlt]
      have g6 : ((R6 q)[0]?).bind W223.dec = some q[0] := by rw [r6_get, List.getElem?_eq_getElem hz]
      generalize q[q.length - 1] = s at *
      generalize q[0] = t at *
      have l2 : (Ro [pg (wedA s t h), pg (wedB s t h)]).length = 2 := rfl
      have hr : out2.length ≤ (Ro out2).length ∧ (out2.length + 2) * 32 ≤ 140737488355328 ∧ out2.length + 2 ≤ 140737488355328 := by rw [ro_len]; omega
      have hn2 : (out2 ++ [pg (wedA s t h), pg (wedB s t h)]).length = out2.length + 2 := by simp
      simp only [if_true, hl, if_pos d1, if_pos d2, Nat.zero_add, Int.toNat_natCast, g6, g6', Option.bind_some, PT.ev, PT.test, dite_eq_ite, jointO, l2, Nat.le_refl, take2, if_pos hr, ro_all, ro_app]
      refine ⟨out2 ++ [pg (wedA s t h), pg (wedB s t h)], by rw [hn2], ?_, by rw [hn2]; omega⟩
      intro p hp
      rw [List.mem_append] at hp
      rcases hp with hp | hp
      · exact c3 p hp
      · simp only [List.mem_cons, List.not_mem_nil, or_false] at hp
        rcases hp with rfl | rfl
        · exact ⟨_, .inl rfl, rfl⟩
        · exact ⟨_, .inl rfl, rfl⟩
end Go.Proofs.YtifalphladcdcaaGreat.H

/- Curves laid flat, colours, what a shape draws, by the program alone. Conditions: those stated. -/
namespace Go.Proofs.YtifalphladcdcaaGreat.H
open Go Go.VM
set_option maxRecDepth 100000
theorem flat1_loop (c : Bool) (ps : List Pt) (hb : ∀ p ∈ ps, Bq p) (hl : ps.length ≤ 1000000) : ∀ (n i : Nat) (acc : List Pt), i ≤ ps.length → ps.length < n + i → acc.length ≤ 8 * i + 1 →
    ∃ qs : List Pt, L138_0 n (.s0 (.mk acc.length i c (Rp ps) (Rp acc))) = some (.e0 (.mk qs.length c (Rp ps) (Rp qs))) ∧ qs.length ≤ 8 * (ps.length + 3) + 1
  | 0, i, acc, h1, h2, _ => by omega
  | n + 1, i, acc, h1, h2, h3 => by
    have hw3 : w64 ((i : Int) + 3) = ((i + 3 : Nat) : Int) := by rw [w64_in (by omega) (by omega)]; omega
    rw [L138_0_s0]
    by_cases h : i + 3 < ps.length
    · have hw1 : w64 ((i : Int) + 1) = ((i + 1 : Nat) : Int) := by rw [w64_in (by omega) (by omega)]; omega
      have hw2 : w64 ((i : Int) + 2) = ((i + 2 : Nat) : Int) := by rw [w64_in (by omega) (by omega)]; omega
      have g0 : ps[i]? = some ps[i] := List.getElem?_eq_getElem (by omega)
      have g1 : ps[i + 1]? = some ps[i + 1] := List.getElem?_eq_getElem (by omega)
      have g2 : ps[i + 2]? = some ps[i + 2] := List.getElem?_eq_getElem (by omega)
      have g3 : ps[i + 3]? = some ps[i + 3] := List.getElem?_eq_getElem (by omega)
      have b0 := hb ps[i] (List.getElem_mem _)
      have b1 := hb ps[i + 1] (List.getElem_mem _)
      have b2 := hb ps[i + 2] (List.getElem_mem _)
      have b3 := hb ps[i + 3] (List.getElem_mem _)
      simp only [D138_0, J138_r8, D138_r8, PT.ev, PT.test, dite_eq_ite, Ws, hw1, hw2, hw3, rp_len, if_pos (show ((i + 3 : Nat) : Int) < (ps.length : Int) by omega),
        if_pos (show (0 : Int) ≤ (i : Int) by omega), if_pos (show (0 : Int) ≤ ((i + 1 : Nat) : Int) by omega), if_pos (show (0 : Int) ≤ ((i + 2 : Nat) : Int) by omega), if_pos (show (0 : Int) ≤ ((i + 3 : Nat) : Int) by omega), Int.toNat_natCast, rp_get, g0, g1, g2, g3, Option.bind_some]
      have z0 : ∀ n : Nat, 0 + n ≤ n := fun n => by omega
      have one := flat1_loop c ps hb hl n (i + 3) (acc ++ [ps[i + 3]]) (by omega) (by omega) (by simp; omega)
      have many := flat1_loop c ps hb hl n (i + 3) (acc ++ bendl 3 ps[i] ps[i + 1] ps[i + 2] ps[i + 3]) (by omega) (by omega) (by rw [List.length_append, bendl_len]; omega)
      rw [List.length_append, List.length_singleton] at one
      rw [List.length_append, bendl_len] at many
      have hq1 : 0 + acc.length ≤ (Rp acc).length ∧ (acc.length + 1) * 16 ≤ 140737488355328 ∧ acc.length + 1 ≤ 140737488355328 := by rw [rp_len]; omega
      have l8 : (Rp (bendl 3 ps[i] ps[i + 1] ps[i + 2] ps[i + 3])).length = 8 := by rw [rp_len, bendl_len]
      have t8 : List.take 8 (Rp (bendl 3 ps[i] ps[i + 1] ps[i + 2] ps[i + 3])) = Rp (bendl 3 ps[i] ps[i + 1] ps[i + 2] ps[i + 3]) := List.take_of_length_le (by rw [l8]; exact Nat.le_refl _)
      have hq8 : 0 + acc.length ≤ (Rp acc).length ∧ (acc.length + 8) * 16 ≤ 140737488355328 ∧ acc.length + 8 ≤ 140737488355328 := by rw [rp_len]; omega
      have p1 : List.take acc.length (Rp acc) ++ [[i64 ps[i + 3].c0, i64 ps[i + 3].c1]] = Rp (acc ++ [ps[i + 3]]) := push1 acc ps[i + 3]
      have p8 : List.take acc.length (Rp acc) ++ Rp (bendl 3 ps[i] ps[i + 1] ps[i + 2] ps[i + 3]) = Rp (acc ++ bendl 3 ps[i] ps[i + 1] ps[i + 2] ps[i + 3]) := by rw [rp_all, Rp, Rp, Rp, List.map_append]
      cases c1 : (ps[i + 1].c0 == ps[i].c0 && (ps[i + 1].c1 == ps[i].c1 && true)) <;> cases c2 : (ps[i + 2].c0 == ps[i + 3].c0 && (ps[i + 2].c1 == ps[i + 3].c1 && true)) <;>
        simp only [if_true, if_false, Bool.false_eq_true, Option.bind_some, PT.ev, PT.test, dite_eq_ite, Ws, if_pos hq1, p1, qbend8 b0 b1 b2 b3, l8, t8, if_pos (z0 8), if_pos hq8, p8, N138_0.nx, hw3, c1, c2] <;>
        first | exact one | exact many
    · simp only [D138_0, PT.ev, PT.test, dite_eq_ite, Ws, hw3, rp_len, if_neg (show ¬ ((i + 3 : Nat) : Int) < (ps.length : Int) by omega), N138_0.nx]
      exact ⟨acc, rfl, by omega⟩
theorem flat1 (c : Bool) (ps : List Pt) (hl : (ps.length : Int) < 4611686018427387904) : ∃ qs : List Pt, F138 c (Rp ps) = some (.a0 c qs.length (Rp qs)) ∧ qs.length ≤ 1000 := by
  simp only [F138, D138, J138_r1, D138_r1, PT.ev, PT.test, dite_eq_ite, Ws, bnd_def, qempty, qright c ps hl, Option.bind_some, rp_len]
  by_cases h0 : ps.length = 0
  · simp only [decide_eq_true h0, if_true, Option.bind_some]
    cases rightv c ps <;> exact ⟨[], rfl, by simp⟩
  · simp only [decide_eq_false h0, Bool.false_eq_true, if_false, Option.bind_some]
    cases hr : rightv c ps with
    | false => exact ⟨[], rfl, by simp⟩
    | true =>
      unfold rightv at hr
      rw [if_neg h0] at hr
      simp only [Bool.and_eq_true, decide_eq_true_eq, List.all_eq_true] at hr
      have hlen : ps.length ≤ 97 := hr.2.1
      have hall : ∀ p ∈ ps, Bq p := fun p hp => nrp_bq (hr.2.2.2 p hp)
      have hz : 0 < ps.length := by omega
      have g0 : ps[0]? = some ps[0] := List.getElem?_eq_getElem hz
      obtain ⟨qs, a1, a3⟩ := flat1_loop c ps hall (by omega) 18446744073709551616 0 [ps[0]] (by omega) (by omega) (by simp)
      rw [show ((0 : Nat) : Int) = 0 from rfl, show ([ps[0]] : List Pt).length = 1 from rfl, show Rp [ps[0]] = [[i64 ps[0].c0, i64 ps[0].c1]] from rfl] at a1
      simp only [Bool.not_true, Bool.false_eq_true, if_false, rp_get, g0, Option.bind_some, a1]
      exact ⟨qs, rfl, by omega⟩
theorem lines1_loop (m : Mt) (qs : List Po) (hq : ∀ q ∈ qs, q.p.length ≤ 1000000) (hl : qs.length ≤ 1000000) : ∀ (n i : Nat) (acc : List Po), acc = (qs.map (mapo m)).take i → i ≤ qs.length → qs.length < n + i →
    L147_0 n (.s0 (.mk acc.length (Ro qs) qs.length i m (Ro acc))) = some (.e0 (.mk qs.length (Ro (qs.map (mapo m)))))
  | 0, i, acc, _, h1, h2 => by omega
  | n + 1, i, acc, ha, h1, h2 => by
    rw [L147_0_s0]
    have hla : acc.length = i := by rw [ha, List.length_take, List.length_map]; omega
    by_cases h : i < qs.length
    · have hqi := hq qs[i] (List.getElem_mem h)
      have hr : 0 + acc.length ≤ (Ro acc).length ∧ (acc.length + 1) * 32 ≤ 140737488355328 ∧ acc.length + 1 ≤ 140737488355328 := by rw [ro_len]; omega
      have hw : w64 ((i : Int) + 1) = ((i + 1 : Nat) : Int) := by rw [w64_in (by omega) (by omega)]; omega
      have ih := lines1_loop m qs hq hl n (i + 1) (acc ++ [mapo m qs[i]]) (by rw [ha, List.take_add_one, List.getElem?_map, List.getElem?_eq_getElem h]; rfl) h (by omega)
      rw [List.length_append, List.length_singleton] at ih
      have inn := line_loop m qs[i].p hqi acc.length (Ro qs) qs.length i (Ro acc) qs[i].c 18446744073709551616 0 [] rfl (by omega) (by omega)
      rw [show ((0 : Nat) : Int) = 0 from rfl, show Rp [] = [] from rfl, show ([] : List Pt).length = 0 from rfl] at inn
      have tk : List.take qs[i].p.length (Rp (qs[i].p.map (apm m))) = Rp (qs[i].p.map (apm m)) := List.take_of_length_le (by rw [rp_len, List.length_map]; exact Nat.le_refl _)
      have z0 : 0 + qs[i].p.length ≤ (Rp (qs[i].p.map (apm m))).length := by rw [rp_len, List.length_map]; omega
      have ps : List.take acc.length (Ro acc) ++ [[vb qs[i].c, V.list 2 (Rp (qs[i].p.map (apm m)))]] = Ro (acc ++ [mapo m qs[i]]) := pushO acc qs[i].c (qs[i].p.map (apm m))
      simp only [D147_0, PT.ev, PT.test, dite_eq_ite, Ws, if_pos (show (i : Int) < (qs.length : Int) by omega), if_pos (show (0 : Int) ≤ (i : Int) by omega), Int.toNat_natCast, ro_get, List.getElem?_eq_getElem h, Option.map_some, Option.bind_some, rp_len, inn, tk, if_pos z0]
      rw [ro_len] at hr
      simp only [rp_len, List.length_map] at z0
      simp only [rp_len, ro_len, List.length_map, if_pos z0, if_pos hr, ps, hw, N147_0.nx]
      exact ih
    · have e : acc = qs.map (mapo m) := by rw [ha, List.take_of_length_le (by rw [List.length_map]; omega)]
      simp only [D147_0, PT.ev, PT.test, dite_eq_ite, Ws, if_neg (show ¬ (i : Int) < (qs.length : Int) by omega), N147_0.nx, e, List.length_map]
theorem lines1 (m : Mt) (qs : List Po) (hq : ∀ q ∈ qs, q.p.length ≤ 1000000) (hl : qs.length ≤ 1000000) : F147 m (Ro qs) = some (.a0 qs.length (Ro (qs.map (mapo m)))) := by
  have a1 := lines1_loop m qs hq hl 18446744073709551616 0 [] rfl (by omega) (by omega)
  rw [show ((0 : Nat) : Int) = 0 from rfl, show Ro [] = [] from rfl, show ([] : List Po).length = 0 from rfl] at a1
  simp only [F147, D147, PT.ev, PT.test, dite_eq_ite, Ws, ro_len, a1, Option.bind_some]
theorem color1 (ks : List Ck) (hl : (ks.length : Int) < 4611686018427387904) (t r g b a : Int) : ∃ r' g' b' a' : Int, F193 (Rc ks) t r g b a = some (.a0 r' g' b' a') := by
  have hb := lsC_bd ks t ks.length
  have f1 := hfind_loop ks hl t 18446744073709551616 ks.length (by omega) (by omega)
  have hw : w64 ((ks.length : Int) - 1) = (ks.length : Int) - 1 := by rw [w64_in (by omega) (by omega)]
  simp only [F193, D193, PT.ev, PT.test, dite_eq_ite, Ws, rc_len, hw, f1, Option.bind_some, beq_iff_eq]
  by_cases h0 : ks.length = 0
  · have h0' : (ks.length : Int) = 0 := by omega
    simp only [h0', if_true]; exact ⟨_, _, _, _, rfl⟩
  · simp only [if_neg (show ¬ (ks.length : Int) = 0 by omega)]
    generalize lsC ks t ks.length = z at *
    by_cases h1 : z = -1
    · have g0 : ks[0]? = some ks[0] := List.getElem?_eq_getElem (by omega)
      simp only [if_pos h1, if_pos (show z < 0 by omega), rc_get, g0, Option.bind_some]; exact ⟨_, _, _, _, rfl⟩
    · simp only [if_neg h1, if_neg (show ¬ z < 0 by omega)]
      have hz : z.toNat < ks.length := by omega
      by_cases h2 : z = (ks.length : Int) - 1
      · simp only [if_pos h2, if_pos (show 0 ≤ z by omega), rc_get, List.getElem?_eq_getElem hz, Option.bind_some]; exact ⟨_, _, _, _, rfl⟩
      · have hz2 : (z + 1).toNat < ks.length := by omega
        have hw2 : w64 (z + 1) = z + 1 := w64_in (by omega) (by omega)
        simp only [if_neg h2, if_pos (show 0 ≤ z by omega), hw2, if_pos (show 0 ≤ z + 1 by omega), rc_get, List.getElem?_eq_getElem hz, List.getElem?_eq_getElem hz2, Option.bind_some, qpart, qgoes, qmix]
        exact ⟨_, _, _, _, rfl⟩
theorem width1 (m : Mt) : ∃ w : Int, F234 m = some (.a0 w) := by
  obtain ⟨r, h1⟩ := hyp1 m.c0 m.c1
  simp only [F234, D234, PT.ev, PT.test, dite_eq_ite, Ws, h1, Option.bind_some]
  exact ⟨_, rfl⟩
theorem pmap1 (m : Mt) (z10 z11 z12 z13 z14 : Int) : ∃ a b c d e : Int, ∀ z1 z2 z3 z4 z5 z6 z7 z8 z9 : Int, F194 m z1 z2 z3 z4 z5 z6 z7 z8 z9 z10 z11 z12 z13 z14 = some (.a0 z1 z2 z3 z4 z5 z6 z7 z8 z9 a b c d e) := by
  obtain ⟨w, h1⟩ := width1 m
  simp only [F194, D194, PT.ev, PT.test, dite_eq_ite, Ws, h1, apply_q, qmul, Option.bind_some]
  exact ⟨_, _, _, _, _, fun _ _ _ _ _ _ _ _ _ => rfl⟩
theorem stk1_loop (s : Shp) (M : Mt) (w : Int) {ds : List Po} (hd : ∀ x ∈ ds, x.p.length ≤ 2000) (hn : ds.length ≤ 200) (k1 : Nat) (z2 z3 y10 y11 y12 y13 y14 : Int) (l15 : List (List V)) : ∀ (n i : Nat) (acc : List Po), i ≤ ds.length → ds.length < n + i → acc.length + (ds.length - i) * 6002 ≤ 2000000 → (∀ x ∈ acc, Pg x) →
    ∃ O : List Po, L140_2 n (.s0 (.mk w k1 z2 z3 ds.length ds.length i (Ws s) M acc.length y10 y11 y12 y13 y14 l15 (Ro ds) (Ro (acc.map (mapo M))))) = some (.e0 (.mk w k1 z2 z3 (Ws s) M O.length y10 y11 y12 y13 y14 l15 (Ro (O.map (mapo M))))) ∧ (∀ x ∈ O, Pg x) ∧ O.length ≤ acc.length + (ds.length - i) * 6002
  | 0, i, acc, h1, h2, _, _ => by omega
  | n + 1, i, acc, h1, h2, h3, h4 => by
    rw [L140_2_s0]
    by_cases h : i < ds.length
    · have hdi := hd ds[i] (List.getElem_mem h)
      have hc : (i : Int) < (ds.length : Int) := by omega
      have hc2 : (0 : Int) ≤ (i : Int) ∧ (i : Int) < (ds.length : Int) := by omega
      have hw : w64 ((i : Int) + 1) = ((i + 1 : Nat) : Int) := by rw [w64_in (by omega) (by omega)]; omega
      obtain ⟨Q, q1, q3, q4⟩ := stroke1 ds[i].c (l := ds[i].p) (by omega) w s.cap
      have b1 := lines1 M Q (fun q hq => by have := pg_len (q3 q hq); omega) (by omega)
      obtain ⟨O, o1, o3, o4⟩ := stk1_loop s M w hd hn k1 z2 z3 y10 y11 y12 y13 y14 l15 n (i + 1) (acc ++ Q) (by omega) (by omega) (by rw [List.length_append]; omega) (fun x hx => by
        rw [List.mem_append] at hx
        rcases hx with hx | hx
        · exact h4 x hx
        · exact q3 x hx)
      rw [List.length_append] at o1 o4
      have tm : List.take Q.length (Ro (Q.map (mapo M))) = Ro (Q.map (mapo M)) := List.take_of_length_le (by rw [ro_len, List.length_map]; exact Nat.le_refl _)
      have ta : List.take acc.length (Ro (acc.map (mapo M))) = Ro (acc.map (mapo M)) := List.take_of_length_le (by rw [ro_len, List.length_map]; exact Nat.le_refl _)
      have hr : (acc.length + Q.length) * 32 ≤ 140737488355328 ∧ acc.length + Q.length ≤ 140737488355328 := by omega
      simp only [D140_2, PT.ev, PT.test, dite_eq_ite, Ws, if_pos hc, if_pos hc2, Int.toNat_natCast, Nat.zero_add, ro_get, List.getElem?_eq_getElem h, Option.map_some, Option.bind_some, q1, ro_len, List.length_map, Nat.le_refl, if_true, ro_all, b1, tm, ta, true_and]
      simp only [if_pos hr, ro_app, ← List.map_append, hw, N140_2.nx]
      exact ⟨O, o1, o3, by omega⟩
    · simp only [D140_2, PT.ev, PT.test, dite_eq_ite, Ws, if_neg (show ¬ (i : Int) < (ds.length : Int) by omega), N140_2.nx]
      exact ⟨acc, rfl, h4, by omega⟩
theorem drw1_loop (s : Shp) (M : Mt) (gd : (s.ds.length : Int) < 4611686018427387904) (w : Int) {ps : List Po} (hp : ∀ x ∈ ps, x.p.length ≤ 1900) (hn : ps.length ≤ 1) (y7 y8 y9 y10 y11 : Int) : ∀ (n i : Nat) (acc : List Po), i ≤ ps.length → ps.length < n + i → acc.length + (ps.length - i) * 768256 ≤ 768256 → (∀ x ∈ acc, Pg x) →
    ∃ O : List Po, L140_0 n (.s0 (.mk w ps.length ps.length i (Ws s) M acc.length y7 y8 y9 y10 y11 (Ro ps) (Ro (acc.map (mapo M))))) = some (.e0 (.mk O.length y7 y8 y9 y10 y11 (Ro (O.map (mapo M))))) ∧ (∀ x ∈ O, Pg x) ∧ O.length ≤ 768256
  | 0, i, acc, h1, h2, _, _ => by omega
  | n + 1, i, acc, h1, h2, h3, h4 => by
    rw [L140_0_s0]
    by_cases h : i < ps.length
    · have hpi := hp ps[i] (List.getElem_mem h)
      have hc : (i : Int) < (ps.length : Int) := by omega
      have hc2 : (0 : Int) ≤ (i : Int) ∧ (i : Int) < (ps.length : Int) := by omega
      have hw : w64 ((i : Int) + 1) = ((i + 1 : Nat) : Int) := by rw [w64_in (by omega) (by omega)]; omega
      obtain ⟨ds, d1, d3, d4⟩ := dash1 ps[i].c (p := ps[i].p) (by omega) s.ds gd
      obtain ⟨O1, o1, o3, o4⟩ := stk1_loop s M w (ds := ds) (fun x hx => by have := d3 x hx; omega) (by omega) ps.length ps.length i y7 y8 y9 y10 y11 (Ro ps) 18446744073709551616 0 acc (by omega) (by omega) (by omega) h4
      rw [show ((0 : Nat) : Int) = 0 from rfl] at o1
      obtain ⟨O, p1, p3, p4⟩ := drw1_loop s M gd w hp hn y7 y8 y9 y10 y11 n (i + 1) O1 (by omega) (by omega) (by omega) o3
      simp only [D140_0, PT.ev, PT.test, dite_eq_ite, Ws, if_pos hc, if_pos hc2, Int.toNat_natCast, Nat.zero_add, ro_get, List.getElem?_eq_getElem h, Option.map_some, Option.bind_some, d1, o1, hw, N140_0.nx]
      exact ⟨O, p1, p3, p4⟩
    · simp only [D140_0, PT.ev, PT.test, dite_eq_ite, Ws, if_neg (show ¬ (i : Int) < (ps.length : Int) by omega), N140_0.nx]
      exact ⟨acc, rfl, h4, by omega⟩
/-- A place that is not too far. -/
def Fr (p : Pt) : Prop := Near p.c0 ∧ Near p.c1
theorem apm_fr (M : Mt) (p : Pt) : Fr (apm M p) := ⟨pl_bd _, pl_bd _⟩
theorem mapo_fr (M : Mt) (q : Po) : ∀ p ∈ (mapo M q).p, Fr p := fun p hp => by
  obtain ⟨x, _, rfl⟩ := List.mem_map.1 hp
  exact apm_fr M x
/-- Rows that are polys, not too many, no place too far. -/
def Pf (X : List (List V)) : Prop := ∃ Q : List Po, X = Ro Q ∧ (∀ q ∈ Q, q.p.length ≤ 2000 ∧ ∀ p ∈ q.p, Fr p) ∧ Q.length ≤ 1000000
theorem items1 (s : Shp) (g : Gm s) (gw : (s.wd.length : Int) < 4611686018427387904) (gd : (s.ds.length : Int) < 4611686018427387904) (gc : (s.cs.length : Int) < 4611686018427387904) (gf : (s.fr.length : Int) < 4611686018427387904) (gt : (s.to_.length : Int) < 4611686018427387904) (t : Int) (M : Mt) (a : Int) :
    ∃ xs : List It, F75 (Ws s) t M a = some (.a0 xs.length (Ri xs)) ∧ xs.length ≤ 2 ∧ ∀ x ∈ xs, Pf x.c0 := by
  obtain ⟨c, qs, p1, p3⟩ := sat1 s g t
  obtain ⟨fs, f1, f3⟩ := flat1 c qs (by omega)
  simp only [F75, D75, bnd_def, PT.ev, PT.test, dite_eq_ite, p1, Option.bind_some, rp_len, Nat.zero_add, Nat.le_refl, if_true, rp_all, f1]
  by_cases h0 : ((fs.length : Int) == 0) = true
  · simp only [if_pos h0]
    exact ⟨[], rfl, by simp, by simp⟩
  · have b1 := lines1 M [(⟨c, fs⟩ : Po)] (fun q hq => by rw [List.mem_singleton.1 hq]; show fs.length ≤ _; omega) (by simp)
    obtain ⟨ps, a1, a3, a4⟩ := trim1 (ps := [(⟨c, fs⟩ : Po)]) (fun q hq => by rw [List.mem_singleton.1 hq]; show fs.length ≤ _; omega) (by simp) (atN s.fr t 0) (atN s.to_ t 65536)
    have hp1 := a4 1000 (fun q hq => by rw [List.mem_singleton.1 hq]; exact f3)
    rw [show Ro [(⟨c, fs⟩ : Po)] = [[vb c, V.list 2 (Rp fs)]] from rfl] at b1 a1
    replace b1 : F147 M [[vb c, V.list 2 (Rp fs)]] = some (.a0 1 (Ro [mapo M ⟨c, fs⟩])) := b1
    have hR1 : (Ro [mapo M ⟨c, fs⟩]).length = 1 := rfl
    have hR2 : List.take 1 (Ro [mapo M ⟨c, fs⟩]) = Ro [mapo M ⟨c, fs⟩] := rfl
    generalize hR : Ro [mapo M ⟨c, fs⟩] = R at *
    have hps : ps.length ≤ 1 := a3
    obtain ⟨r', g', b', a', c1⟩ := color1 s.cs gc t s.p1 s.p2 s.p3 s.p4
    obtain ⟨m1, m2, m3, m4, m5, m9⟩ := pmap1 M s.p9 s.p10 s.p11 s.p12 s.p13
    obtain ⟨O, o1, o3, o4⟩ := drw1_loop s M gd (atN s.wd t 0) (ps := ps) (fun x hx => by have := hp1 x hx; omega) hps s.s0 s.s1 s.s2 s.s3 a 18446744073709551616 0 [] (by omega) (by omega) (by simp only [List.length_nil]; omega) (by simp)
    rw [show ((0 : Nat) : Int) = 0 from rfl, List.map_nil, show Ro [] = [] from rfl, show ([] : List Po).length = 0 from rfl] at o1
    let x1 : It := ⟨R, s.rule, s.p0, r', g', b', a', s.p5, s.p6, s.p7, s.p8, m1, m2, m3, m4, m5, a⟩
    have P1 : Pf x1.c0 := ⟨[mapo M ⟨c, fs⟩], hR.symm, fun q hq => by rw [List.mem_singleton.1 hq]; exact ⟨by show (fs.map (apm M)).length ≤ _; rw [List.length_map]; omega, mapo_fr M _⟩, by simp⟩
    have P2 : Pf (Ro (O.map (mapo M))) := ⟨O.map (mapo M), rfl, fun q hq => by
      obtain ⟨q', h3, rfl⟩ := List.mem_map.1 hq
      refine ⟨?_, mapo_fr M q'⟩
      show (q'.p.map (apm M)).length ≤ _
      rw [List.length_map]
      have := pg_len (o3 q' h3)
      omega, by rw [List.length_map]; omega⟩
    have tm : List.take O.length (Ro (O.map (mapo M))) = Ro (O.map (mapo M)) := List.take_of_length_le (by rw [ro_len, List.length_map]; exact Nat.le_refl _)
    simp only [if_neg h0, J75_c24, D75_c24, PT.ev, PT.test, dite_eq_ite, Ws]
    by_cases hf : s.f = true
    · simp only [if_pos hf, F139, D139, PT.ev, PT.test, dite_eq_ite, Ws, bnd_def, c1, b1, m9, Option.bind_some, t1, hR1, hR2, List.length_cons, List.length_nil, Nat.zero_add, Nat.le_refl, if_true, rp_len, rp_all, ro_len]
      by_cases hst : s.st = true
      · simp only [if_pos hst, F140, D140, PT.ev, PT.test, dite_eq_ite, Ws, qat s.wd gw, qat s.fr gf, qat s.to_ gt, a1, o1, Option.bind_some]
        by_cases hO : (O.length : Int) > 0
        · simp only [if_pos hO, ro_len, List.length_map, Nat.zero_add, Nat.le_refl, if_true, ro_all, Option.bind_some, tm, List.length_cons, List.length_nil, t1]
          exact ⟨[x1, ⟨Ro (O.map (mapo M)), 0, 0, s.s0, s.s1, s.s2, s.s3, s.s0, s.s1, s.s2, s.s3, 0, 0, 0, 0, 0, a⟩], rfl, by simp, fun x hx => by
            simp only [List.mem_cons, List.not_mem_nil, or_false] at hx
            rcases hx with rfl | rfl
            · exact P1
            · exact P2⟩
        · simp only [if_neg hO]
          exact ⟨[x1], rfl, by simp, fun x hx => by rw [List.mem_singleton.1 hx]; exact P1⟩
      · simp only [if_neg hst, Option.bind_some]
        exact ⟨[x1], rfl, by simp, fun x hx => by rw [List.mem_singleton.1 hx]; exact P1⟩
    · simp only [if_neg hf, Option.bind_some]
      by_cases hst : s.st = true
      · simp only [if_pos hst, F140, D140, PT.ev, PT.test, dite_eq_ite, Ws, qat s.wd gw, qat s.fr gf, qat s.to_ gt, t1, List.length_cons, List.length_nil, Nat.zero_add, Nat.le_refl, if_true, rp_len, rp_all, a1, o1, Option.bind_some]
        by_cases hO : (O.length : Int) > 0
        · simp only [if_pos hO, ro_len, List.length_map, Nat.zero_add, Nat.le_refl, if_true, ro_all, Option.bind_some, tm, List.length_cons, List.length_nil, t1]
          exact ⟨[⟨Ro (O.map (mapo M)), 0, 0, s.s0, s.s1, s.s2, s.s3, s.s0, s.s1, s.s2, s.s3, 0, 0, 0, 0, 0, a⟩], rfl, by simp, fun x hx => by rw [List.mem_singleton.1 hx]; exact P2⟩
        · simp only [if_neg hO]
          exact ⟨[], rfl, by simp, by simp⟩
      · simp only [if_neg hst, PT.ev, PT.test, dite_eq_ite, Ws, Option.bind_some]
        exact ⟨[], rfl, by simp, by simp⟩
theorem mask1 (l : Ly) (hm : (l.mp.length : Int) < 4611686018427387904) (M : Mt) : ∃ Q : List Po, F86 (Wl l) M = some (.a0 Q.length (Ro Q)) ∧ (∀ q ∈ Q, q.p.length ≤ 2000 ∧ ∀ p ∈ q.p, Fr p) ∧ Q.length ≤ 1 := by
  obtain ⟨fs, f1, f3⟩ := flat1 l.mc l.mp hm
  have b1 := lines1 M [(⟨l.mc, fs⟩ : Po)] (fun q hq => by rw [List.mem_singleton.1 hq]; show fs.length ≤ _; omega) (by simp)
  rw [show Ro [(⟨l.mc, fs⟩ : Po)] = [[vb l.mc, V.list 2 (Rp fs)]] from rfl] at b1
  simp only [F86, D86, PT.ev, PT.test, dite_eq_ite, Ws, bnd_def, qempty, rp_len, f1, Option.bind_some, Nat.zero_add, Nat.le_refl, if_true, rp_all, b1]
  by_cases h0 : l.mp.length = 0
  · simp only [decide_eq_true h0, if_true]
    exact ⟨[], rfl, by simp, by simp⟩
  · simp only [decide_eq_false h0, Bool.false_eq_true, if_false]
    exact ⟨[mapo M ⟨l.mc, fs⟩], rfl, fun q hq => by rw [List.mem_singleton.1 hq]; exact ⟨by show (fs.map (apm M)).length ≤ _; rw [List.length_map]; omega, mapo_fr M _⟩, by simp⟩
end Go.Proofs.YtifalphladcdcaaGreat.H
