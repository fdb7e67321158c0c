import Derived.Test.YtifalphladcdcaaGreatDocO
import Derived.KernelRfl
set_option linter.unusedVariables false
set_option linter.unusedSimpArgs false
/- A layer's own map, and its chain. Conditions: those stated. -/
namespace Go.Proofs.YtifalphladcdcaaGreat.H
open Go Go.VM
set_option maxRecDepth 100000
abbrev Rm (ms : List Mt) : List (List V) := ms.map W59.cells
theorem rm_len (ms : List Mt) : (Rm ms).length = ms.length := List.length_map ..
theorem rm_get (ms : List Mt) (i : Nat) : ((Rm ms)[i]?).bind W59.dec = ms[i]? := by
  simp only [Rm, List.getElem?_map]
  cases ms[i]? <;> rfl
theorem pushM (ms : List Mt) (x : Mt) : List.take ms.length (Rm ms) ++ [[i64 x.c0, i64 x.c1, i64 x.c2, i64 x.c3, i64 x.c4, i64 x.c5]] = Rm (ms ++ [x]) := by
  rw [List.take_of_length_le (by rw [rm_len]; exact Nat.le_refl _), Rm, Rm, List.map_append]; rfl
/-- A layer whose lists are no longer than memory. -/
structure Sm (l : Ly) : Prop where
  x : (l.x.length : Int) < 4611686018427387904
  y : (l.y.length : Int) < 4611686018427387904
  ax : (l.ax.length : Int) < 4611686018427387904
  ay : (l.ay.length : Int) < 4611686018427387904
  sx : (l.sx.length : Int) < 4611686018427387904
  sy : (l.sy.length : Int) < 4611686018427387904
  tu : (l.tu.length : Int) < 4611686018427387904
  op : (l.op.length : Int) < 4611686018427387904
  re : (l.re.length : Int) < 4611686018427387904
theorem Gi.len {ks : List Ky} (g : Gi ks) : ks.length ≤ 2 := by
  rcases g with rfl | ⟨a, b, rfl, _⟩ <;> simp
theorem Gy.sm {k c m : Int} {ah : Bool} {l : Ly} (g : Gy k c m ah l) : Sm l := by
  have h1 := g.x.len
  have h2 := g.y.len
  have h3 := g.ax.len
  have h4 := g.ay.len
  have h5 := g.sx.len
  have h6 := g.sy.len
  have h7 := g.tu.len
  have h8 := g.op.len
  have h9 : l.re.length ≤ 2 := by
    rcases g.what.kind with h | h
    · rw [(g.what.draw h).2.1]; decide
    · exact (g.what.nest h).2.2.len
  exact ⟨by omega, by omega, by omega, by omega, by omega, by omega, by omega, by omega, by omega⟩
def tickv (l : Ly) (t : Int) : Int := add t (w64 (0 - hd l.st))
theorem qtick (l : Ly) (t : Int) : F70 (Wl l) t = tickv l t := by
  simp only [F70, D70, PT.evT, PT.test, dite_eq_ite, bnd_def, qhold, qadd, tickv]
def madev (x y ax ay sx sy tu : Int) : Mt :=
  ⟨mul (cs tu) sx, mul (sn tu) sx, mul (w64 (0 - sn tu)) sy, mul (cs tu) sy,
   add x (w64 (0 - two (mul (cs tu) sx) ax (mul (w64 (0 - sn tu)) sy) ay)), add y (w64 (0 - two (mul (sn tu) sx) ax (mul (cs tu) sy) ay))⟩
theorem qmade (x y ax ay sx sy tu : Int) : F73 x y ax ay sx sy tu = some (.a0 (madev x y ax ay sx sy tu)) := by
  simp only [F73, D73, PT.ev, PT.test, dite_eq_ite, bnd_def, qcos, qsin', qmul, qtwo, qadd, Option.bind_some, madev]
def ownv (l : Ly) (t : Int) : Mt :=
  madev (atN l.x (tickv l t) 0) (atN l.y (tickv l t) 0) (atN l.ax (tickv l t) 0) (atN l.ay (tickv l t) 0) (atN l.sx (tickv l t) 65536) (atN l.sy (tickv l t) 65536) (atN l.tu (tickv l t) 0)
theorem qown1 (ks : List Ky) (hl : (ks.length : Int) < 4611686018427387904) (d t : Int) : F71 (Rn ks) d t = some (.a0 (atN ks t d) t) := by
  simp only [F71, D71, PT.ev, PT.test, dite_eq_ite, qat ks hl, Option.bind_some]
theorem qown (l : Ly) (s : Sm l) (t : Int) : F21 (Wl l) t = some (.a0 (ownv l t)) := by
  simp only [F21, D21, PT.ev, PT.test, dite_eq_ite, bnd_def, qtick, qown1 _ s.x, qown1 _ s.y, qown1 _ s.ax, qown1 _ s.ay, qown1 _ s.sx, qown1 _ s.sy, qown1 _ s.tu, qmade, Option.bind_some, ownv]
def opacv (l : Ly) (t : Int) : Int := w64 (Int.tdiv (w64 (cl (atN l.op (tickv l t) 65536) 0 65536 * 255)) 65536)
theorem qopac (l : Ly) (s : Sm l) (t : Int) : F22 (Wl l) t = some (.a0 (opacv l t)) := by
  simp only [F22, D22, PT.ev, PT.test, dite_eq_ite, bnd_def, qtick, qat _ s.op, qclamp, Option.bind_some, opacv]
def innerv (l : Ly) (t : Int) : Int := atN l.re (tickv l t) (tickv l t)
theorem qinner (l : Ly) (s : Sm l) (t : Int) : F24 (Wl l) t = some (.a0 (innerv l t)) := by
  simp only [F24, D24, PT.ev, PT.test, dite_eq_ite, bnd_def, qtick, qat _ s.re, Option.bind_some, innerv]
def seenv (l : Ly) (t : Int) : Bool := decide (l.inn ≤ t) && decide (t < l.out)
theorem qseen (l : Ly) (t : Int) : F23 (Wl l) t = seenv l t := by
  simp only [F23, D23, PT.evT, PT.test, dite_eq_ite, seenv]
  by_cases h : l.inn ≤ t <;> simp [h]
/-! ### Chains -/
def there (ls : List Ly) (k : Int) : Bool := decide (k ≥ 0) && decide (k < (ls.length : Int))
theorem qthere (ls : List Ly) (k : Int) : F77 k (Rl ls) = some (.a0 (there ls k) (Rl ls)) := by
  simp only [F77, D77, PT.ev, PT.test, dite_eq_ite, rl_len, there]
  by_cases h : k ≥ 0 <;> simp [h]
/-- A layer and its parents, so many at most. -/
def anc (ls : List Ly) : Nat → Int → List Ly
  | 0, _ => []
  | n + 1, k => if there ls k = true then (match ls[k.toNat]? with
    | some l => l :: anc ls n l.par
    | none => []) else []
/-- Maps one after another, the last one first. -/
def fm : List Mt → Mt
  | [] => ⟨65536, 0, 0, 65536, 0, 0⟩
  | [x] => x
  | x :: y :: r => aftv (fm (y :: r)) x
def chainv (ls : List Ly) (k t : Int) : Mt := fm ((anc ls 17 k).map fun l => ownv l t)
theorem there_lt {ls : List Ly} {k : Int} (h : there ls k = true) : 0 ≤ k ∧ k.toNat < ls.length := by
  simp only [there, Bool.and_eq_true, decide_eq_true_eq] at h
  omega
theorem chain_loop (ls : List Ly) (hs : ∀ l ∈ ls, Sm l) (t : Int) : ∀ (n : Nat) (acc : List Mt) (p : Int), acc.length ≤ 17 → 17 < n + acc.length →
    L27_0 n (.s0 (.mk t acc.length p (Rl ls) (Rm acc))) = some (.e0 (.mk (acc ++ (anc ls (17 - acc.length) p).map fun l => ownv l t).length (Rm (acc ++ (anc ls (17 - acc.length) p).map fun l => ownv l t))))
  | 0, acc, p, h1, h2 => by omega
  | n + 1, acc, p, h1, h2 => by
    rw [L27_0_s0]
    simp only [D27_0, J27_r6, D27_r6, PT.ev, PT.test, dite_eq_ite, qthere, Option.bind_some]
    by_cases hp : there ls p = true
    · by_cases hk : (acc.length : Int) ≤ 16
      · obtain ⟨p0, p1⟩ := there_lt hp
        have hg : ls[p.toNat]? = some ls[p.toNat] := List.getElem?_eq_getElem p1
        have hq : 0 + acc.length ≤ (Rm acc).length ∧ (acc.length + 1) * 48 ≤ 140737488355328 ∧ acc.length + 1 ≤ 140737488355328 := by rw [rm_len]; omega
        have hlen : (acc ++ [ownv ls[p.toNat] t]).length = acc.length + 1 := by rw [List.length_append, List.length_singleton]
        simp only [if_pos hp, decide_eq_true hk, Option.bind_some, PT.ev, PT.test, dite_eq_ite, if_true, if_pos p0, rl_get, hg, Option.map_some, qown _ (hs _ (List.getElem_mem p1)), if_pos hq, N27_0.nx, pushM]
        have ih := chain_loop ls hs t n (acc ++ [ownv ls[p.toNat] t]) ls[p.toNat].par (by rw [hlen]; omega) (by rw [hlen]; omega)
        rw [hlen] at ih
        rw [ih]
        have e : 17 - acc.length = (17 - (acc.length + 1)) + 1 := by omega
        rw [e, anc, if_pos hp, hg]
        simp only [List.map_cons, List.append_assoc, List.singleton_append]
      · simp only [if_pos hp, decide_eq_false hk, Option.bind_some, PT.ev, PT.test, dite_eq_ite, Bool.false_eq_true, if_false, N27_0.nx]
        rw [show 17 - acc.length = 0 by omega, anc, List.map_nil, List.append_nil]
    · simp only [if_neg hp, Option.bind_some, PT.ev, PT.test, dite_eq_ite, Bool.false_eq_true, if_false, N27_0.nx]
      have e : anc ls (17 - acc.length) p = [] := by
        cases 17 - acc.length with
        | zero => rfl
        | succ k => rw [anc, if_neg hp]
      rw [e, List.map_nil, List.append_nil]
theorem fold_loop (R : List Mt) (hR : R.length ≤ 18) : ∀ (n i : Nat), i < R.length → i < n →
    L27_2 n (.s0 (.mk R.length ((i : Int) - 1) (Rm R) (fm (R.drop i)))) = some (.e0 (.mk (fm R)))
  | 0, i, _, h => by omega
  | n + 1, i, hi, hn => by
    rw [L27_2_s0]
    cases i with
    | zero =>
      simp only [D27_2, PT.ev, PT.test, dite_eq_ite, if_neg (show ¬ (((0 : Nat) : Int) - 1 ≥ 0) by omega), N27_2.nx, List.drop_zero]
    | succ i =>
      have e : ((i + 1 : Nat) : Int) - 1 = (i : Int) := by omega
      have hw : w64 ((i : Int) - 1) = (i : Int) - 1 := w64_in (by omega) (by omega)
      have hg : R[i]? = some R[i] := List.getElem?_eq_getElem (by omega)
      have hf : fm (R.drop i) = aftv (fm (R.drop (i + 1))) R[i] := by
        have h1 : R.drop i = R[i] :: R.drop (i + 1) := List.drop_eq_getElem_cons (by omega)
        have h2 : R.drop (i + 1) = R[i + 1] :: R.drop (i + 1 + 1) := List.drop_eq_getElem_cons (by omega)
        rw [h1, h2, fm]
      have ih := fold_loop R hR n i (by omega) (by omega)
      rw [hf] at ih
      simp only [D27_2, PT.ev, PT.test, dite_eq_ite, e, if_pos (show (i : Int) ≥ 0 by omega), if_pos (show 0 ≤ (i : Int) ∧ (i : Int) < (R.length : Int) by omega), Int.toNat_natCast, Nat.zero_add, rm_get, hg, Option.bind_some, qafter, N27_2.nx, hw]
      exact ih
theorem anc_len (ls : List Ly) : ∀ (n : Nat) (k : Int), (anc ls n k).length ≤ n
  | 0, _ => Nat.le_refl _
  | n + 1, k => by
    rw [anc]
    split
    · split
      · rename_i l _
        have := anc_len ls n l.par
        simp only [List.length_cons]; omega
      · simp
    · simp
theorem qchain (ls : List Ly) (hs : ∀ l ∈ ls, Sm l) (k t : Int) : F27 (Rl ls) k t = some (.a0 (chainv ls k t)) := by
  simp only [F27, D27, PT.ev, PT.test, dite_eq_ite, bnd_def, qthere, Option.bind_some, Bool.not_eq_true']
  by_cases hp : there ls k = true
  · obtain ⟨p0, p1⟩ := there_lt hp
    have hg : ls[k.toNat]? = some ls[k.toNat] := List.getElem?_eq_getElem p1
    simp only [hp, Bool.true_eq_false, if_false, if_pos p0, rl_get, hg, Option.map_some, Option.bind_some, qown _ (hs _ (List.getElem_mem p1))]
    have h0 := chain_loop ls hs t 18446744073709551616 [ownv ls[k.toNat] t] ls[k.toNat].par (by rw [List.length_singleton]; decide) (by rw [List.length_singleton]; decide)
    have e1 : (anc ls 17 k).map (fun l => ownv l t) = [ownv ls[k.toNat] t] ++ (anc ls (17 - [ownv ls[k.toNat] t].length) ls[k.toNat].par).map fun l => ownv l t := by
      rw [anc, if_pos hp, hg]; rfl
    rw [← e1] at h0
    have hn : 1 ≤ ((anc ls 17 k).map (fun l => ownv l t)).length ∧ ((anc ls 17 k).map (fun l => ownv l t)).length ≤ 17 := by
      refine ⟨by rw [e1, List.length_append, List.length_singleton]; omega, ?_⟩
      rw [List.length_map]; exact anc_len ls 17 k
    have hc : fm ((anc ls 17 k).map fun l => ownv l t) = chainv ls k t := rfl
    generalize (anc ls 17 k).map (fun l => ownv l t) = R at *
    rw [show ([ownv ls[k.toNat] t] : List Mt).length = 1 from rfl, show Rm [ownv ls[k.toNat] t] = [(ownv ls[k.toNat] t).cells] from rfl, show ((1 : Nat)) = 1 from rfl] at h0
    have hw1 : w64 ((R.length : Int) - 1) = (R.length : Int) - 1 := w64_in (by omega) (by omega)
    have hw2 : w64 ((R.length : Int) - 2) = ((R.length - 1 : Nat) : Int) - 1 := by rw [w64_in (by omega) (by omega)]; omega
    have ht : Int.toNat ((R.length : Int) - 1) = R.length - 1 := by omega
    have hg2 : R[R.length - 1]? = some R[R.length - 1] := List.getElem?_eq_getElem (by omega)
    have hf := fold_loop R (by omega) 18446744073709551616 (R.length - 1) (by omega) (by omega)
    have hd1 : fm (R.drop (R.length - 1)) = R[R.length - 1] := by
      rw [List.drop_eq_getElem_cons (show R.length - 1 < R.length by omega), List.drop_eq_nil_of_le (by omega)]; rfl
    rw [hd1] at hf
    simp only [h0, Option.bind_some, PT.ev, PT.test, dite_eq_ite, hw1, hw2, if_pos (show 0 ≤ (R.length : Int) - 1 ∧ (R.length : Int) - 1 < (R.length : Int) by omega), ht, Nat.zero_add, rm_get, hg2, hf, hc]
  · have hp' : there ls k = false := by simpa using hp
    simp only [hp', if_true, chainv]
    rw [anc, if_neg hp]; rfl
end Go.Proofs.YtifalphladcdcaaGreat.H

/- Numbers brought into bounds. Conditions: those stated. -/
namespace Go.Proofs.YtifalphladcdcaaGreat.H
open Go Go.VM
set_option maxRecDepth 100000
theorem within_in (x lo hi : Int) (h1 : -2147483648 ≤ lo) (h2 : lo ≤ hi) (h3 : hi ≤ 2147483648) : ∃ v : Int, F19 x lo hi = some (.a0 v) ∧ lo ≤ v ∧ v ≤ hi ∧ (lo ≤ x → x ≤ hi → v = x) := by
  have hq : w64 (w64 (hi - lo) + 1) = hi - lo + 1 := by rw [w64_in (n := hi - lo) (by omega) (by omega), w64_in (by omega) (by omega)]
  have hq0 : ¬ hi - lo + 1 = 0 := by omega
  have t1 : Int.tmod x (hi - lo + 1) < hi - lo + 1 := Int.tmod_lt_of_pos x (by omega)
  have t2 : -(hi - lo + 1) < Int.tmod x (hi - lo + 1) := by have := Int.tmod_lt_of_pos (-x) (show (0 : Int) < hi - lo + 1 by omega); rw [Int.neg_tmod] at this; omega
  simp only [F19, D19, PT.ev, PT.test, dite_eq_ite, hq, if_neg hq0]
  generalize Int.tmod x (hi - lo + 1) = t at *
  have go : ∃ v : Int, (if t < 0 then some (A19.a0 (w64 (lo + w64 (w64 (w64 (t + hi) - lo) + 1)))) else some (A19.a0 (w64 (lo + t)))) = some (.a0 v) ∧ lo ≤ v ∧ v ≤ hi := by
    by_cases h : t < 0
    · rw [if_pos h]
      exact ⟨_, rfl, by rw [w64_in (n := t + hi) (by omega) (by omega), w64_in (n := t + hi - lo) (by omega) (by omega), w64_in (n := t + hi - lo + 1) (by omega) (by omega), w64_in (by omega) (by omega)]; omega⟩
    · rw [if_neg h]
      exact ⟨_, rfl, by rw [w64_in (by omega) (by omega)]; omega⟩
  obtain ⟨v, e, g1, g2⟩ := go
  by_cases a : x ≥ lo
  · by_cases b : x ≤ hi
    · exact ⟨x, by rw [if_pos a, if_pos b], a, b, fun _ _ => rfl⟩
    · exact ⟨v, by rw [if_pos a, if_neg b, e], g1, g2, fun _ h => absurd h b⟩
  · exact ⟨v, by rw [if_neg a, e], g1, g2, fun h => absurd h a⟩
end Go.Proofs.YtifalphladcdcaaGreat.H

/- Lines are measured, and parts of them told, by the program as by the document. Conditions: those stated. -/
namespace Go.Proofs.YtifalphladcdcaaGreat.H
open Go Go.VM
set_option maxRecDepth 100000
theorem or_nat (a b : Nat) (ha : a < 4294967296) (hb : b < 4294967296) : IntKind.wrap IntKind.u64 (↑(BitVec.toNat (BitVec.ofInt (IntKind.bits IntKind.u64) (a : Int) ||| BitVec.ofInt (IntKind.bits IntKind.u64) (b : Int))) : Int) = ((a ||| b : Nat) : Int) := by
  have h1 : a ||| b < 2 ^ 32 := Nat.or_lt_two_pow ha hb
  rw [show IntKind.bits IntKind.u64 = 64 by rfl, BitVec.ofInt_natCast, BitVec.ofInt_natCast, BitVec.toNat_or, BitVec.toNat_ofNat, BitVec.toNat_ofNat, Nat.mod_eq_of_lt (by omega), Nat.mod_eq_of_lt (by omega), u64id (by omega) (by omega)]
def Near (x : Int) : Prop := -536870912 ≤ x ∧ x ≤ 536870912
theorem pl_bd (x : Int) : Near (pl x) := cl_bd _ _ _ (by decide)
theorem aplace (x y : Int) : F285 x y = some (.a0 (pl x) (pl y)) := rfl
def ns (c : Bool) (l : List Pt) : Nat := if c = true ∧ 2 ≤ l.length then l.length else l.length - 1
theorem ns_le (c : Bool) (l : List Pt) : ns c l ≤ l.length := by unfold ns; split <;> omega
theorem sidesA (c : Bool) (l : List Pt) (hL : l.length ≤ 8796093022207) : F266 c (Rp l) = (ns c l : Int) := by
  have h1 : (if w64 ((l.length : Int) - 1) > 0 then w64 ((l.length : Int) - 1) else 0) = ((l.length - 1 : Nat) : Int) := by
    rw [w64_in (by omega) (by omega)]; split <;> omega
  simp only [F266, D266, PT.evT, PT.test, dite_eq_ite, ns, rp_len, h1]
  cases c
  · simp
  · simp only [if_true, true_and]
    by_cases h : 2 ≤ l.length
    · rw [if_pos (by omega), if_pos h]
    · rw [if_neg (by omega), if_neg h]
theorem next_eq (i L : Nat) (hi : i < L) (hL : L ≤ 8796093022207) : Int.tmod (w64 ((i : Int) + 1)) (L : Int) = (((i + 1) % L : Nat) : Int) := by
  rw [w64_in (by omega) (by omega), Int.tmod_eq_emod_of_nonneg (by omega), Int.natCast_emod]; rfl
theorem wsucc {i : Nat} (h : i < 9000000000000) : w64 ((i : Int) + 1) = ((i + 1 : Nat) : Int) := by rw [w64_in (by omega) (by omega)]; omega
/-! ### Quotients -/
def divv (a b : Int) : Int := if hd b = 0 then 0 else hd (Int.fdiv (hd a * 65536) (hd b))
theorem fdiv_t (a b : Int) (hb : b ≠ 0) : Int.fdiv a b = if (Int.tmod a b != 0) = true then (if (!(decide (a < 0) == decide (b < 0))) = true then Int.tdiv a b - 1 else Int.tdiv a b) else Int.tdiv a b := by
  have h1 := Int.mul_tdiv_add_tmod a b
  have h2 := Int.mul_fdiv_add_fmod a b
  have t1 : 0 ≤ a → 0 ≤ Int.tmod a b := fun h => Int.tmod_nonneg _ h
  have t2 : a ≤ 0 → Int.tmod a b ≤ 0 := fun h => by
    have := Int.tmod_nonneg b (show 0 ≤ -a by omega)
    rw [Int.neg_tmod] at this; omega
  have t3 : (Int.tmod a b).natAbs < b.natAbs := by rw [Int.natAbs_tmod]; exact Nat.mod_lt _ (Int.natAbs_pos.2 hb)
  have f1 : 0 < b → 0 ≤ Int.fmod a b ∧ Int.fmod a b < b := fun h => ⟨Int.fmod_nonneg_of_pos _ h, Int.fmod_lt_of_pos _ h⟩
  have f2 : b < 0 → b < Int.fmod a b ∧ Int.fmod a b ≤ 0 := fun h => by
    have e := Int.neg_fmod_neg a b
    have p1 := Int.fmod_nonneg_of_pos (-a) (show 0 < -b by omega)
    have p2 := Int.fmod_lt_of_pos (-a) (show 0 < -b by omega)
    omega
  generalize Int.tmod a b = r at *
  generalize Int.fmod a b = g at *
  generalize Int.tdiv a b = q at *
  generalize Int.fdiv a b = z at *
  have e : b * (z - q) = r - g := by rw [Int.mul_sub]; omega
  have bound : z - q = 0 ∨ z - q = -1 := by
    rcases Int.lt_or_lt_of_ne hb with hb' | hb'
    · obtain ⟨g1, g2⟩ := f2 hb'
      by_cases c1 : z - q ≤ -2
      · have : (-b) * 2 ≤ (-b) * (-(z - q)) := Int.mul_le_mul_of_nonneg_left (by omega) (by omega)
        rw [Int.neg_mul_neg] at this; omega
      · by_cases c2 : 1 ≤ z - q
        · have : (-b) * 1 ≤ (-b) * (z - q) := Int.mul_le_mul_of_nonneg_left c2 (by omega)
          rw [Int.neg_mul (b := z - q)] at this; omega
        · omega
    · obtain ⟨g1, g2⟩ := f1 hb'
      by_cases c1 : z - q ≤ -2
      · have : b * 2 ≤ b * (-(z - q)) := Int.mul_le_mul_of_nonneg_left (by omega) (by omega)
        rw [Int.mul_neg] at this; omega
      · by_cases c2 : 1 ≤ z - q
        · have : b * 1 ≤ b * (z - q) := Int.mul_le_mul_of_nonneg_left c2 (by omega)
          omega
        · omega
  have z0 : z - q = 0 → r = g := fun h => by rw [h, Int.mul_zero] at e; omega
  have z1 : z - q = -1 → g = r + b := fun h => by rw [h] at e; omega
  have sgn : ((!(decide (a < 0) == decide (b < 0))) = true) ↔ ¬ (a < 0 ↔ b < 0) := by
    rw [Bool.not_eq_true', beq_eq_false_iff_ne, ne_eq, decide_eq_decide]
  simp only [sgn, bne_iff_ne, ne_eq]
  by_cases hr : r = 0
  · rw [if_neg (fun h => h hr)]
    rcases bound with h | h
    · omega
    · have := z1 h
      rcases Int.lt_or_lt_of_ne hb with hb' | hb'
      · have := f2 hb'; omega
      · have := f1 hb'; omega
  · rw [if_pos hr]
    by_cases hs : (a < 0 ↔ b < 0)
    · rw [if_neg (fun h => h hs)]
      rcases bound with h | h
      · omega
      · have := z1 h
        rcases Int.lt_or_lt_of_ne hb with hb' | hb'
        · have := f2 hb'; have := hs.2 hb'; have := t2 (by omega); omega
        · have := f1 hb'; have h3 : ¬ a < 0 := fun ha => by have := hs.1 ha; omega
          have := t1 (by omega); omega
    · rw [if_pos hs]
      rcases bound with h | h
      · have := z0 h
        exfalso
        rcases Int.lt_or_lt_of_ne hb with hb' | hb'
        · have := f2 hb'; have h3 : ¬ a < 0 := fun ha => hs ⟨fun _ => hb', fun _ => ha⟩
          have := t1 (by omega); omega
        · have := f1 hb'; have h3 : a < 0 := Classical.byContradiction fun ha => hs ⟨fun h => absurd h ha, fun h => by omega⟩
          have := t2 (by omega); omega
      · omega
theorem qdiv (a b : Int) : F269 a b = some (.a0 (divv a b)) := by
  have ha := hd_bd a
  have hb := hd_bd b
  have hw : w64 (hd a * 65536) = hd a * 65536 := w64_in (by omega) (by omega)
  simp only [F269, D269, PT.ev, PT.test, dite_eq_ite, bnd_def, qhold, divv, hw]
  generalize hd a = A at *
  generalize hd b = B at *
  by_cases h0 : B = 0
  · simp [h0]
  · have hq : (Int.tdiv (A * 65536) B).natAbs ≤ (A * 65536).natAbs := by rw [Int.natAbs_tdiv]; exact Nat.div_le_self _ _
    have hw2 : w64 (Int.tdiv (A * 65536) B) = Int.tdiv (A * 65536) B := w64_in (by omega) (by omega)
    have hw3 : w64 (Int.tdiv (A * 65536) B - 1) = Int.tdiv (A * 65536) B - 1 := w64_in (by omega) (by omega)
    have e0 : (B == 0) = false := by rw [beq_eq_false_iff_ne]; exact h0
    rw [fdiv_t _ _ h0]
    simp only [e0, h0, if_false, hw2, hw3, Bool.false_eq_true]
    split
    · split <;> rfl
    · rfl
theorem fdiv_abs (A B : Int) (hB : B ≠ 0) : Int.fdiv A B = if (!(decide (A < 0) == decide (B < 0))) = true then -(if A < 0 then -A else A) / (if B < 0 then -B else B) else (if A < 0 then -A else A) / (if B < 0 then -B else B) := by
  have neg : B < 0 → Int.fdiv A B = (-A) / (-B) := fun h => by
    rw [← Int.neg_fdiv_neg, Int.fdiv_eq_ediv_of_nonneg _ (by omega)]
  by_cases hb : B < 0
  · rw [neg hb, if_pos hb]
    by_cases ha : A < 0
    · simp [ha, hb]
    · simp [ha, hb]
  · rw [Int.fdiv_eq_ediv_of_nonneg _ (by omega), if_neg hb]
    by_cases ha : A < 0
    · simp [ha, hb]
    · simp [ha, hb]
theorem neg_div {p d : Int} (hd0 : 0 < d) : (-p) / d = if p % d = 0 then -(p / d) else -(p / d) - 1 := by
  have e := Int.mul_ediv_add_emod p d
  have r1 := Int.emod_nonneg p (show d ≠ 0 by omega)
  have r2 := Int.emod_lt_of_pos p hd0
  generalize p % d = r at *
  generalize p / d = q at *
  have e2 : q * d = p - r := by rw [Int.mul_comm]; omega
  split
  · exact Int.le_antisymm (Int.le_of_lt_add_one ((Int.ediv_lt_iff_lt_mul hd0).2 (by rw [Int.add_mul, Int.neg_mul]; omega))) ((Int.le_ediv_iff_mul_le hd0).2 (by rw [Int.neg_mul]; omega))
  · exact Int.le_antisymm (Int.le_of_lt_add_one ((Int.ediv_lt_iff_lt_mul hd0).2 (by rw [show -q - 1 + 1 = -q by omega, Int.neg_mul]; omega))) ((Int.le_ediv_iff_mul_le hd0).2 (by rw [Int.sub_mul, Int.neg_mul]; omega))
/-! ### A place on a side -/
theorem mid_one {a b : Int} (ha : Near a) (hb : Near b) : mid a b 65536 = b := by
  unfold Near at ha hb
  unfold mid
  rw [hd_of (a := a) (by omega) (by omega), w64_in (by omega) (by omega)]
  have e1 : add b (0 - a) = b - a := by unfold add; rw [hd_of (a := b) (by omega) (by omega), hd_of (a := 0 - a) (by omega) (by omega), hd_of (by omega) (by omega)]; omega
  rw [e1]
  have e2 : mul (b - a) 65536 = b - a := by
    unfold mul
    rw [hd_of (a := b - a) (by omega) (by omega), hd_of (a := 65536) (by decide) (by decide), Int.mul_ediv_cancel _ (by decide), hd_of (by omega) (by omega)]
  rw [e2]
  unfold add
  rw [hd_of (a := a) (by omega) (by omega), hd_of (a := b - a) (by omega) (by omega), hd_of (by omega) (by omega)]; omega
theorem divv_hd (d l : Int) : divv (hd d) l = divv d l := by unfold divv; rw [hd_hd]
/-! ### Parts -/
end Go.Proofs.YtifalphladcdcaaGreat.H

/- Parts of outlines: the program's and the document's are the same. Conditions: those stated. -/
namespace Go.Proofs.YtifalphladcdcaaGreat.H
open Go Go.VM
set_option maxRecDepth 100000
/-- A row of straight lines. -/
structure Po where
  c : Bool
  p : List Pt
abbrev Wo (q : Po) : W88 := ⟨q.c, Rp q.p⟩
abbrev Ro (qs : List Po) : List (List V) := qs.map fun q => (Wo q).cells
theorem ro_len (qs : List Po) : (Ro qs).length = qs.length := List.length_map ..
theorem ro_get (qs : List Po) (i : Nat) : ((Ro qs)[i]?).bind W88.dec = (qs[i]?).map Wo := by
  simp only [Ro, List.getElem?_map]
  cases qs[i]? <;> rfl
theorem ro_all (qs : List Po) : List.take qs.length (Ro qs) = Ro qs := List.take_of_length_le (by rw [ro_len]; exact Nat.le_refl _)
theorem rp_all (ps : List Pt) : List.take ps.length (Rp ps) = Rp ps := List.take_of_length_le (by rw [rp_len]; exact Nat.le_refl _)
theorem pushO (qs : List Po) (c : Bool) (o : List Pt) : List.take qs.length (Ro qs) ++ [[vb c, V.list 2 (Rp o)]] = Ro (qs ++ [⟨c, o⟩]) := by
  rw [ro_all, Ro, Ro, List.map_append]; rfl
def lo (f t : Int) : Int := if cl t 0 65536 < cl f 0 65536 then cl t 0 65536 else cl f 0 65536
def hi (f t : Int) : Int := if cl t 0 65536 > cl f 0 65536 then cl t 0 65536 else cl f 0 65536
theorem span1 (f t : Int) : F235 f t = some (.a0 (lo f t) (hi f t)) := rfl
end Go.Proofs.YtifalphladcdcaaGreat.H

/- Lines are dashed by the program as by the document. Conditions: those stated. -/
namespace Go.Proofs.YtifalphladcdcaaGreat.H
open Go Go.VM
set_option maxRecDepth 100000
/-! ### Paints -/
theorem rd_get' (ds : List Dn) (i : Nat) : ((Rd ds)[i]?).bind W2.dec = ds[i]? := by
  simp only [Rd, List.getElem?_map]
  cases ds[i]? <;> rfl
end Go.Proofs.YtifalphladcdcaaGreat.H

/- How much lies within, which way round, places as they may be: by the program and by the document. Conditions: those stated. -/
namespace Go.Proofs.YtifalphladcdcaaGreat.H
open Go Go.VM
set_option maxRecDepth 100000
def gt (l : List Pt) (i : Nat) : Pt := l.getD i (⟨0, 0⟩ : Pt)
theorem gt_ge {l : List Pt} {i : Nat} (hi : i < l.length) : l[i]? = some (gt l i) := by
  unfold gt; rw [List.getD_eq_getElem?_getD, List.getElem?_eq_getElem hi]; rfl
theorem get_gt {l : List Pt} {i : Nat} (hi : i < l.length) : ((Rp l)[i]?).bind W28.dec = some (gt l i) := by
  rw [rp_get, gt_ge hi]
theorem gt_ext {a b : List Pt} (h : a.length = b.length) (hg : ∀ m, m < a.length → gt a m = gt b m) : a = b := by
  refine List.ext_getElem? fun m => ?_
  by_cases hm : m < a.length
  · rw [gt_ge hm, gt_ge (by omega), hg m hm]
  · rw [List.getElem?_eq_none (by omega), List.getElem?_eq_none (by omega)]
theorem splace (x y : Int) : F286 x y = some (.a0 (pl x) (pl y)) := rfl
/-- A side's part of how much lies within. -/
def T (l : List Pt) (i : Nat) : Int := pl (gt l i).c0 * pl (gt l ((i + 1) % l.length)).c1 - pl (gt l ((i + 1) % l.length)).c0 * pl (gt l i).c1
def arw (l : List Pt) : Nat → Int
  | 0 => 0
  | m + 1 => w64 (arw l m + T l m)
theorem nexti {i L : Nat} (hi : i < L) (hL : L ≤ 8796093022208) : Int.tmod (w64 ((i : Int) + 1)) (L : Int) = (((i + 1) % L : Nat) : Int) := by
  rw [w64_in (by omega) (by omega), Int.tmod_eq_emod_of_nonneg (by omega), Int.natCast_emod]; rfl
theorem rp_set (o : List Pt) (i : Nat) (x y : Int) : List.set (Rp o) i [i64 x, i64 y] = Rp (o.set i ⟨x, y⟩) := by
  simp only [Rp, List.map_set]
theorem gt_set (o : List Pt) (i m : Nat) (p : Pt) (hi : i < o.length) : gt (o.set i p) m = if m = i then p else gt o m := by
  unfold gt
  rw [List.getD_eq_getElem?_getD, List.getD_eq_getElem?_getD, List.getElem?_set]
  by_cases h : i = m
  · subst h; simp [hi]
  · rw [if_neg h, if_neg (fun e => h e.symm)]
theorem rev_loop {l : List Pt} (hL : l.length ≤ 8796093022208) : ∀ (n i : Nat) (o : List Pt), o.length = l.length → i ≤ l.length → l.length < n + i →
    (∀ m, m < l.length → gt o m = if m < i ∨ l.length ≤ m + i then gt l (l.length - 1 - m) else gt l m) → 2 * i ≤ l.length + 1 →
    ∃ o' : List Pt, L296_0 n (.s0 (.mk l.length i ((l.length : Int) - 1 - i) (Rp o))) = some (.e0 (.mk (Rp o'))) ∧ o'.length = l.length ∧ ∀ m, m < l.length → gt o' m = gt l (l.length - 1 - m)
  | 0, i, o, h1, h2, h3, _, _ => by omega
  | n + 1, i, o, h1, h2, h3, hg, h4 => by
    rw [L296_0_s0]
    by_cases hc : (i : Int) < (l.length : Int) - 1 - i
    · have hj : (l.length : Int) - 1 - i = ((l.length - 1 - i : Nat) : Int) := by omega
      have hi : i < o.length := by omega
      have hjl : l.length - 1 - i < o.length := by omega
      have s1 : ((Rp (o.set i (gt o (l.length - 1 - i))))[l.length - 1 - i]?).bind W28.dec = some (gt o (l.length - 1 - i)) := by
        rw [get_gt (by rw [List.length_set]; omega), gt_set _ _ _ _ hi, if_neg (by omega)]
      have w1 : w64 ((i : Int) + 1) = ((i + 1 : Nat) : Int) := by rw [w64_in (by omega) (by omega)]; omega
      have w2 : w64 (((l.length - 1 - i : Nat) : Int) - 1) = (l.length : Int) - 1 - ((i + 1 : Nat) : Int) := by rw [w64_in (by omega) (by omega)]; omega
      rw [hj] at hc ⊢
      simp only [D296_0, PT.ev, PT.test, dite_eq_ite, if_pos hc, if_pos (show (0 : Int) ≤ ((l.length - 1 - i : Nat) : Int) ∧ ((l.length - 1 - i : Nat) : Int) < (l.length : Int) by omega), if_pos (show (0 : Int) ≤ (i : Int) ∧ (i : Int) < (l.length : Int) by omega), Int.toNat_natCast, Nat.zero_add, get_gt hjl, get_gt hi, Option.bind_some, rp_set, s1, N296_0.nx, w1, w2]
      refine rev_loop hL n (i + 1) _ (by simp; omega) (by omega) (by omega) (fun m hm => ?_) (by omega)
      rw [gt_set _ _ _ _ (by rw [List.length_set]; omega), gt_set _ _ _ _ hi]
      have gi := hg i (by omega)
      have gj := hg (l.length - 1 - i) (by omega)
      rw [if_neg (by omega)] at gi gj
      by_cases m1 : m = l.length - 1 - i
      · rw [if_pos m1, if_pos (by omega), m1, show l.length - 1 - (l.length - 1 - i) = i by omega]; exact gi
      · rw [if_neg m1]
        by_cases m2 : m = i
        · rw [if_pos m2, if_pos (by omega), m2]; exact gj
        · rw [if_neg m2, hg m hm]
          by_cases m3 : m < i ∨ l.length ≤ m + i
          · rw [if_pos m3, if_pos (by omega)]
          · rw [if_neg m3, if_neg (by omega)]
    · simp only [D296_0, PT.ev, PT.test, dite_eq_ite, if_neg hc, N296_0.nx]
      refine ⟨o, rfl, h1, fun m hm => ?_⟩
      rw [hg m hm]
      by_cases m3 : m < i ∨ l.length ≤ m + i
      · rw [if_pos m3]
      · rw [if_neg m3]
        have : l.length - 1 - m = m := by omega
        rw [this]
theorem gt_rev {l : List Pt} {m : Nat} (hm : m < l.length) : gt l.reverse m = gt l (l.length - 1 - m) := by
  unfold gt
  rw [List.getD_eq_getElem?_getD, List.getD_eq_getElem?_getD, List.getElem?_reverse hm]
theorem rev_eq {l : List Pt} (hL : l.length ≤ 8796093022208) : F296 l.length (Rp l) = some (.a0 (Rp l.reverse)) := by
  obtain ⟨o, h1, h2, h3⟩ := rev_loop hL 18446744073709551616 0 l rfl (by omega) (by omega) (fun m hm => by rw [if_neg (by omega)]) (by omega)
  have e : o = l.reverse := gt_ext (by simp [h2]) fun m hm => by rw [h3 m (by omega), gt_rev (by omega)]
  subst e
  have hw : w64 ((l.length : Int) - 1) = (l.length : Int) - 1 - ((0 : Nat) : Int) := by rw [w64_in (by omega) (by omega)]; omega
  rw [← hw, show ((0 : Nat) : Int) = 0 from rfl] at h1
  simp only [F296, D296, PT.ev, PT.test, dite_eq_ite, h1, Option.bind_some]
/-- The right way round. -/
def turn (l : List Pt) : List Pt := if arw l l.length < 0 then l.reverse else l
theorem turn_len (l : List Pt) : (turn l).length = l.length := by unfold turn; split <;> simp
def plc (p : Pt) : Pt := ⟨pl p.c0, pl p.c1⟩
def pls (l : List Pt) : List Pt := l.map plc
theorem pls_len (l : List Pt) : (pls l).length = l.length := by simp [pls]
theorem gt_pls {l : List Pt} {i : Nat} (hi : i < l.length) : gt (pls l) i = plc (gt l i) := by
  unfold gt pls
  rw [List.getD_eq_getElem?_getD, List.getD_eq_getElem?_getD, List.getElem?_map, List.getElem?_eq_getElem hi]; rfl
theorem place_loop {l : List Pt} (hL : l.length ≤ 8796093022208) : ∀ (m n i : Nat) (o : List Pt), i + m = l.length → m < n → o.length = l.length → (∀ q, q < l.length → gt o q = if q < i then plc (gt l q) else gt l q) →
    L272_0 n (.s0 (.mk l.length l.length i (Rp o))) = some (.e0 (.mk l.length (Rp (pls l))))
  | _, 0, _, _, _, h, _, _ => by omega
  | 0, n + 1, i, o, h, _, ho, hg => by
    have e : o = pls l := gt_ext (by rw [ho, pls_len]) fun q hq => by rw [hg q (by omega), if_pos (by omega), gt_pls (by omega)]
    rw [L272_0_s0]
    simp only [D272_0, PT.ev, PT.test, dite_eq_ite, if_neg (show ¬ (i : Int) < (l.length : Int) by omega), N272_0.nx, e]
  | m + 1, n + 1, i, o, h, hn, ho, hg => by
    have hs : w64 ((i : Int) + 1) = ((i + 1 : Nat) : Int) := by rw [w64_in (by omega) (by omega)]; omega
    have gi := hg i (by omega)
    rw [if_neg (by omega)] at gi
    rw [L272_0_s0]
    simp only [D272_0, PT.ev, PT.test, dite_eq_ite, if_pos (show (i : Int) < (l.length : Int) by omega), if_pos (show (0 : Int) ≤ (i : Int) ∧ (i : Int) < (l.length : Int) by omega), Int.toNat_natCast, Nat.zero_add, get_gt (show i < o.length by omega), Option.bind_some, splace, rp_set, hs, N272_0.nx]
    refine place_loop hL m n (i + 1) _ (by omega) (by omega) (by simp; omega) fun q hq => ?_
    rw [gt_set _ _ _ _ (by omega)]
    by_cases h1 : q = i
    · rw [if_pos h1, if_pos (by omega), h1, ← gi]; rfl
    · rw [if_neg h1, hg q hq]
      by_cases h2 : q < i
      · rw [if_pos h2, if_pos (by omega)]
      · rw [if_neg h2, if_neg (by omega)]
/-! ### Sides that have a length -/
abbrev Sd := W223
abbrev Ln := W206
abbrev R6 (ks : List Sd) : List (List V) := ks.map W223.cells
abbrev R8 (ks : List Ln) : List (List V) := ks.map W206.cells
theorem r6_len (ks : List Sd) : (R6 ks).length = ks.length := List.length_map ..
theorem r8_len (ks : List Ln) : (R8 ks).length = ks.length := List.length_map ..
theorem r6_get (ks : List Sd) (i : Nat) : ((R6 ks)[i]?).bind W223.dec = ks[i]? := by
  simp only [R6, List.getElem?_map]
  cases ks[i]? <;> rfl
theorem r8_get (ks : List Ln) (i : Nat) : ((R8 ks)[i]?).bind W206.dec = ks[i]? := by
  simp only [R8, List.getElem?_map]
  cases ks[i]? <;> rfl
/-- A side, as the document has it. -/
def phi (h : Int) (s : Sd) : Ln := ⟨s.c0, s.c1, s.c2, s.c3, mul s.c4 h, mul s.c5 h, mul (w64 (0 - s.c5)) h, mul s.c4 h⟩
end Go.Proofs.YtifalphladcdcaaGreat.H
