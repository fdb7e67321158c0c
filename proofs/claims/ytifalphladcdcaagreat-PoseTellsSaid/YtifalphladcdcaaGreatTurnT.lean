import Derived.Test.YtifalphladcdcaaGreatDocT
import Derived.KernelRfl
set_option linter.unusedVariables false
set_option linter.unusedSimpArgs false
/- A layer's own map, and its chain. Conditions: those stated. -/
namespace Go.Proofs.YtifalphladcdcaaGreat.H
open Go Go.VM
set_option maxRecDepth 100000
abbrev Rm (ms : List Mt) : List (List V) := ms.map W59.cells
theorem rm_len (ms : List Mt) : (Rm ms).length = ms.length := List.length_map ..
theorem rm_get (ms : List Mt) (i : Nat) : ((Rm ms)[i]?).bind W59.dec = ms[i]? := by
  simp only [Rm, List.getElem?_map]
  cases ms[i]? <;> rfl
theorem pushM (ms : List Mt) (x : Mt) : List.take ms.length (Rm ms) ++ [[i64 x.c0, i64 x.c1, i64 x.c2, i64 x.c3, i64 x.c4, i64 x.c5]] = Rm (ms ++ [x]) := by
  rw [List.take_of_length_le (by rw [rm_len]; exact Nat.le_refl _), Rm, Rm, List.map_append]; rfl
/-- A layer whose lists are no longer than memory. -/
structure Sm (l : Ly) : Prop where
  x : (l.x.length : Int) < 4611686018427387904
  y : (l.y.length : Int) < 4611686018427387904
  ax : (l.ax.length : Int) < 4611686018427387904
  ay : (l.ay.length : Int) < 4611686018427387904
  sx : (l.sx.length : Int) < 4611686018427387904
  sy : (l.sy.length : Int) < 4611686018427387904
  tu : (l.tu.length : Int) < 4611686018427387904
  op : (l.op.length : Int) < 4611686018427387904
  re : (l.re.length : Int) < 4611686018427387904
theorem Gi.len {ks : List Ky} (g : Gi ks) : ks.length ≤ 2 := by
  rcases g with rfl | ⟨a, b, rfl, _⟩ <;> simp
theorem Gy.sm {k c m : Int} {ah : Bool} {l : Ly} (g : Gy k c m ah l) : Sm l := by
  have h1 := g.x.len
  have h2 := g.y.len
  have h3 := g.ax.len
  have h4 := g.ay.len
  have h5 := g.sx.len
  have h6 := g.sy.len
  have h7 := g.tu.len
  have h8 := g.op.len
  have h9 : l.re.length ≤ 2 := by
    rcases g.what.kind with h | h
    · rw [(g.what.draw h).2.1]; decide
    · exact (g.what.nest h).2.2.len
  exact ⟨by omega, by omega, by omega, by omega, by omega, by omega, by omega, by omega, by omega⟩
def tickv (l : Ly) (t : Int) : Int := add t (w64 (0 - hd l.st))
theorem qtick (l : Ly) (t : Int) : F70 (Wl l) t = tickv l t := by
  simp only [F70, D70, PT.evT, PT.test, dite_eq_ite, bnd_def, qhold, qadd, tickv]
def madev (x y ax ay sx sy tu : Int) : Mt :=
  ⟨mul (cs tu) sx, mul (sn tu) sx, mul (w64 (0 - sn tu)) sy, mul (cs tu) sy,
   add x (w64 (0 - two (mul (cs tu) sx) ax (mul (w64 (0 - sn tu)) sy) ay)), add y (w64 (0 - two (mul (sn tu) sx) ax (mul (cs tu) sy) ay))⟩
theorem qmade (x y ax ay sx sy tu : Int) : F73 x y ax ay sx sy tu = some (.a0 (madev x y ax ay sx sy tu)) := by
  simp only [F73, D73, PT.ev, PT.test, dite_eq_ite, bnd_def, qcos, qsin', qmul, qtwo, qadd, Option.bind_some, madev]
def ownv (l : Ly) (t : Int) : Mt :=
  madev (atN l.x (tickv l t) 0) (atN l.y (tickv l t) 0) (atN l.ax (tickv l t) 0) (atN l.ay (tickv l t) 0) (atN l.sx (tickv l t) 65536) (atN l.sy (tickv l t) 65536) (atN l.tu (tickv l t) 0)
theorem qown1 (ks : List Ky) (hl : (ks.length : Int) < 4611686018427387904) (d t : Int) : F71 (Rn ks) d t = some (.a0 (atN ks t d) t) := by
  simp only [F71, D71, PT.ev, PT.test, dite_eq_ite, qat ks hl, Option.bind_some]
theorem qown (l : Ly) (s : Sm l) (t : Int) : F21 (Wl l) t = some (.a0 (ownv l t)) := by
  simp only [F21, D21, PT.ev, PT.test, dite_eq_ite, bnd_def, qtick, qown1 _ s.x, qown1 _ s.y, qown1 _ s.ax, qown1 _ s.ay, qown1 _ s.sx, qown1 _ s.sy, qown1 _ s.tu, qmade, Option.bind_some, ownv]
def opacv (l : Ly) (t : Int) : Int := w64 (Int.tdiv (w64 (cl (atN l.op (tickv l t) 65536) 0 65536 * 255)) 65536)
theorem qopac (l : Ly) (s : Sm l) (t : Int) : F22 (Wl l) t = some (.a0 (opacv l t)) := by
  simp only [F22, D22, PT.ev, PT.test, dite_eq_ite, bnd_def, qtick, qat _ s.op, qclamp, Option.bind_some, opacv]
def innerv (l : Ly) (t : Int) : Int := atN l.re (tickv l t) (tickv l t)
theorem qinner (l : Ly) (s : Sm l) (t : Int) : F24 (Wl l) t = some (.a0 (innerv l t)) := by
  simp only [F24, D24, PT.ev, PT.test, dite_eq_ite, bnd_def, qtick, qat _ s.re, Option.bind_some, innerv]
def seenv (l : Ly) (t : Int) : Bool := decide (l.inn ≤ t) && decide (t < l.out)
theorem qseen (l : Ly) (t : Int) : F23 (Wl l) t = seenv l t := by
  simp only [F23, D23, PT.evT, PT.test, dite_eq_ite, seenv]
  by_cases h : l.inn ≤ t <;> simp [h]
/-! ### Chains -/
def there (ls : List Ly) (k : Int) : Bool := decide (k ≥ 0) && decide (k < (ls.length : Int))
theorem qthere (ls : List Ly) (k : Int) : F77 k (Rl ls) = some (.a0 (there ls k) (Rl ls)) := by
  simp only [F77, D77, PT.ev, PT.test, dite_eq_ite, rl_len, there]
  by_cases h : k ≥ 0 <;> simp [h]
/-- A layer and its parents, so many at most. -/
def anc (ls : List Ly) : Nat → Int → List Ly
  | 0, _ => []
  | n + 1, k => if there ls k = true then (match ls[k.toNat]? with
    | some l => l :: anc ls n l.par
    | none => []) else []
/-- Maps one after another, the last one first. -/
def fm : List Mt → Mt
  | [] => ⟨65536, 0, 0, 65536, 0, 0⟩
  | [x] => x
  | x :: y :: r => aftv (fm (y :: r)) x
def chainv (ls : List Ly) (k t : Int) : Mt := fm ((anc ls 17 k).map fun l => ownv l t)
theorem there_lt {ls : List Ly} {k : Int} (h : there ls k = true) : 0 ≤ k ∧ k.toNat < ls.length := by
  simp only [there, Bool.and_eq_true, decide_eq_true_eq] at h
  omega
theorem chain_loop (ls : List Ly) (hs : ∀ l ∈ ls, Sm l) (t : Int) : ∀ (n : Nat) (acc : List Mt) (p : Int), acc.length ≤ 17 → 17 < n + acc.length →
    L27_0 n (.s0 (.mk t acc.length p (Rl ls) (Rm acc))) = some (.e0 (.mk (acc ++ (anc ls (17 - acc.length) p).map fun l => ownv l t).length (Rm (acc ++ (anc ls (17 - acc.length) p).map fun l => ownv l t))))
  | 0, acc, p, h1, h2 => by omega
  | n + 1, acc, p, h1, h2 => by
    rw [L27_0_s0]
    simp only [D27_0, J27_r6, D27_r6, PT.ev, PT.test, dite_eq_ite, qthere, Option.bind_some]
    by_cases hp : there ls p = true
    · by_cases hk : (acc.length : Int) ≤ 16
      · obtain ⟨p0, p1⟩ := there_lt hp
        have hg : ls[p.toNat]? = some ls[p.toNat] := List.getElem?_eq_getElem p1
        have hq : 0 + acc.length ≤ (Rm acc).length ∧ (acc.length + 1) * 48 ≤ 140737488355328 ∧ acc.length + 1 ≤ 140737488355328 := by rw [rm_len]; omega
        have hlen : (acc ++ [ownv ls[p.toNat] t]).length = acc.length + 1 := by rw [List.length_append, List.length_singleton]
        simp only [if_pos hp, decide_eq_true hk, Option.bind_some, PT.ev, PT.test, dite_eq_ite, if_true, if_pos p0, rl_get, hg, Option.map_some, qown _ (hs _ (List.getElem_mem p1)), if_pos hq, N27_0.nx, pushM]
        have ih := chain_loop ls hs t n (acc ++ [ownv ls[p.toNat] t]) ls[p.toNat].par (by rw [hlen]; omega) (by rw [hlen]; omega)
        rw [hlen] at ih
        rw [ih]
        have e : 17 - acc.length = (17 - (acc.length + 1)) + 1 := by omega
        rw [e, anc, if_pos hp, hg]
        simp only [List.map_cons, List.append_assoc, List.singleton_append]
      · simp only [if_pos hp, decide_eq_false hk, Option.bind_some, PT.ev, PT.test, dite_eq_ite, Bool.false_eq_true, if_false, N27_0.nx]
        rw [show 17 - acc.length = 0 by omega, anc, List.map_nil, List.append_nil]
    · simp only [if_neg hp, Option.bind_some, PT.ev, PT.test, dite_eq_ite, Bool.false_eq_true, if_false, N27_0.nx]
      have e : anc ls (17 - acc.length) p = [] := by
        cases 17 - acc.length with
        | zero => rfl
        | succ k => rw [anc, if_neg hp]
      rw [e, List.map_nil, List.append_nil]
theorem fold_loop (R : List Mt) (hR : R.length ≤ 18) : ∀ (n i : Nat), i < R.length → i < n →
    L27_2 n (.s0 (.mk R.length ((i : Int) - 1) (Rm R) (fm (R.drop i)))) = some (.e0 (.mk (fm R)))
  | 0, i, _, h => by omega
  | n + 1, i, hi, hn => by
    rw [L27_2_s0]
    cases i with
    | zero =>
      simp only [D27_2, PT.ev, PT.test, dite_eq_ite, if_neg (show ¬ (((0 : Nat) : Int) - 1 ≥ 0) by omega), N27_2.nx, List.drop_zero]
    | succ i =>
      have e : ((i + 1 : Nat) : Int) - 1 = (i : Int) := by omega
      have hw : w64 ((i : Int) - 1) = (i : Int) - 1 := w64_in (by omega) (by omega)
      have hg : R[i]? = some R[i] := List.getElem?_eq_getElem (by omega)
      have hf : fm (R.drop i) = aftv (fm (R.drop (i + 1))) R[i] := by
        have h1 : R.drop i = R[i] :: R.drop (i + 1) := List.drop_eq_getElem_cons (by omega)
        have h2 : R.drop (i + 1) = R[i + 1] :: R.drop (i + 1 + 1) := List.drop_eq_getElem_cons (by omega)
        rw [h1, h2, fm]
      have ih := fold_loop R hR n i (by omega) (by omega)
      rw [hf] at ih
      simp only [D27_2, PT.ev, PT.test, dite_eq_ite, e, if_pos (show (i : Int) ≥ 0 by omega), if_pos (show 0 ≤ (i : Int) ∧ (i : Int) < (R.length : Int) by omega), Int.toNat_natCast, Nat.zero_add, rm_get, hg, Option.bind_some, qafter, N27_2.nx, hw]
      exact ih
theorem anc_len (ls : List Ly) : ∀ (n : Nat) (k : Int), (anc ls n k).length ≤ n
  | 0, _ => Nat.le_refl _
  | n + 1, k => by
    rw [anc]
    split
    · split
      · rename_i l _
        have := anc_len ls n l.par
        simp only [List.length_cons]; omega
      · simp
    · simp
theorem qchain (ls : List Ly) (hs : ∀ l ∈ ls, Sm l) (k t : Int) : F27 (Rl ls) k t = some (.a0 (chainv ls k t)) := by
  simp only [F27, D27, PT.ev, PT.test, dite_eq_ite, bnd_def, qthere, Option.bind_some, Bool.not_eq_true']
  by_cases hp : there ls k = true
  · obtain ⟨p0, p1⟩ := there_lt hp
    have hg : ls[k.toNat]? = some ls[k.toNat] := List.getElem?_eq_getElem p1
    simp only [hp, Bool.true_eq_false, if_false, if_pos p0, rl_get, hg, Option.map_some, Option.bind_some, qown _ (hs _ (List.getElem_mem p1))]
    have h0 := chain_loop ls hs t 18446744073709551616 [ownv ls[k.toNat] t] ls[k.toNat].par (by rw [List.length_singleton]; decide) (by rw [List.length_singleton]; decide)
    have e1 : (anc ls 17 k).map (fun l => ownv l t) = [ownv ls[k.toNat] t] ++ (anc ls (17 - [ownv ls[k.toNat] t].length) ls[k.toNat].par).map fun l => ownv l t := by
      rw [anc, if_pos hp, hg]; rfl
    rw [← e1] at h0
    have hn : 1 ≤ ((anc ls 17 k).map (fun l => ownv l t)).length ∧ ((anc ls 17 k).map (fun l => ownv l t)).length ≤ 17 := by
      refine ⟨by rw [e1, List.length_append, List.length_singleton]; omega, ?_⟩
      rw [List.length_map]; exact anc_len ls 17 k
    have hc : fm ((anc ls 17 k).map fun l => ownv l t) = chainv ls k t := rfl
    generalize (anc ls 17 k).map (fun l => ownv l t) = R at *
    rw [show ([ownv ls[k.toNat] t] : List Mt).length = 1 from rfl, show Rm [ownv ls[k.toNat] t] = [(ownv ls[k.toNat] t).cells] from rfl, show ((1 : Nat)) = 1 from rfl] at h0
    have hw1 : w64 ((R.length : Int) - 1) = (R.length : Int) - 1 := w64_in (by omega) (by omega)
    have hw2 : w64 ((R.length : Int) - 2) = ((R.length - 1 : Nat) : Int) - 1 := by rw [w64_in (by omega) (by omega)]; omega
    have ht : Int.toNat ((R.length : Int) - 1) = R.length - 1 := by omega
    have hg2 : R[R.length - 1]? = some R[R.length - 1] := List.getElem?_eq_getElem (by omega)
    have hf := fold_loop R (by omega) 18446744073709551616 (R.length - 1) (by omega) (by omega)
    have hd1 : fm (R.drop (R.length - 1)) = R[R.length - 1] := by
      rw [List.drop_eq_getElem_cons (show R.length - 1 < R.length by omega), List.drop_eq_nil_of_le (by omega)]; rfl
    rw [hd1] at hf
    simp only [h0, Option.bind_some, PT.ev, PT.test, dite_eq_ite, hw1, hw2, if_pos (show 0 ≤ (R.length : Int) - 1 ∧ (R.length : Int) - 1 < (R.length : Int) by omega), ht, Nat.zero_add, rm_get, hg2, hf, hc]
  · have hp' : there ls k = false := by simpa using hp
    simp only [hp', if_true, chainv]
    rw [anc, if_neg hp]; rfl
end Go.Proofs.YtifalphladcdcaaGreat.H

/- PoseChains in plain Lean. Conditions: those stated. -/
namespace Go.Proofs.YtifalphladcdcaaGreat.H
open Go Go.VM
set_option maxRecDepth 100000
theorem and63 (a : Int) : w64 (↑(BitVec.toNat (BitVec.ofInt (IntKind.bits IntKind.i64) a &&& BitVec.ofInt (IntKind.bits IntKind.i64) 63)) : Int) = a % 64 := and_low .i64 6 (by decide) (fun n h h' => by rw [IntKind.wrap_i64]; omega) a
theorem beq_ii (a : Int) : (a == a) = true := beq_self_eq_true a
theorem known21 : F25 = some (.a0 true) := by kernel_rfl
/-- So many parents are enough. -/
theorem anc_more (ls : List Ly) (h : ∀ k (h : k < ls.length), (ls[k]).par < max (k : Int) 0) : ∀ (n : Nat) (k : Int), k < (n : Int) → anc ls (n + 1) k = anc ls n k
  | 0, k, hk => by
    have h0 : ¬ there ls k = true := by intro ht; have := (there_lt ht).1; omega
    simp only [anc, if_neg h0]
  | n + 1, k, hk => by
    rw [anc, anc]
    by_cases ht : there ls k = true
    · obtain ⟨k0, k1⟩ := there_lt ht
      have hp := h k.toNat k1
      rw [if_pos ht, if_pos ht, List.getElem?_eq_getElem k1]
      simp only
      congr 1
      by_cases h0 : (ls[k.toNat]).par < (n : Int)
      · exact anc_more ls h n _ h0
      · omega
    · rw [if_neg ht, if_neg ht]
theorem chain_par (ls : List Ly) (hl : ls.length ≤ 16) (h : ∀ k (h : k < ls.length), (ls[k]).par < max (k : Int) 0) (k : Nat) (hk : k < ls.length) (t : Int) :
    chainv ls k t = if (ls[k]).par ≥ 0 then aftv (chainv ls (ls[k]).par t) (ownv ls[k] t) else ownv ls[k] t := by
  have ht : there ls (k : Int) = true := by simp only [there, Bool.and_eq_true, decide_eq_true_eq]; omega
  have hp := h k hk
  have e : anc ls 17 k = ls[k] :: anc ls 16 (ls[k]).par := by
    rw [anc, if_pos ht, Int.toNat_natCast, List.getElem?_eq_getElem hk]
  by_cases h0 : (ls[k]).par ≥ 0
  · have hq : (ls[k]).par.toNat < ls.length := by omega
    have ht2 : there ls (ls[k]).par = true := by simp only [there, Bool.and_eq_true, decide_eq_true_eq]; omega
    rw [if_pos h0, chainv, chainv, e, anc_more ls h 16 _ (by omega)]
    rw [show (16 : Nat) = 15 + 1 from rfl, anc, if_pos ht2, List.getElem?_eq_getElem hq]
    rfl
  · have ht2 : ¬ there ls (ls[k]).par = true := by simp only [there, Bool.and_eq_true, decide_eq_true_eq]; omega
    rw [if_neg h0, chainv, e, show (16 : Nat) = 15 + 1 from rfl, anc, if_neg ht2]; rfl
end Go.Proofs.YtifalphladcdcaaGreat.H

/- Numbers brought into bounds. Conditions: those stated. -/
namespace Go.Proofs.YtifalphladcdcaaGreat.H
open Go Go.VM
set_option maxRecDepth 100000
theorem within_in (x lo hi : Int) (h1 : -2147483648 ≤ lo) (h2 : lo ≤ hi) (h3 : hi ≤ 2147483648) : ∃ v : Int, F19 x lo hi = some (.a0 v) ∧ lo ≤ v ∧ v ≤ hi ∧ (lo ≤ x → x ≤ hi → v = x) := by
  have hq : w64 (w64 (hi - lo) + 1) = hi - lo + 1 := by rw [w64_in (n := hi - lo) (by omega) (by omega), w64_in (by omega) (by omega)]
  have hq0 : ¬ hi - lo + 1 = 0 := by omega
  have t1 : Int.tmod x (hi - lo + 1) < hi - lo + 1 := Int.tmod_lt_of_pos x (by omega)
  have t2 : -(hi - lo + 1) < Int.tmod x (hi - lo + 1) := by have := Int.tmod_lt_of_pos (-x) (show (0 : Int) < hi - lo + 1 by omega); rw [Int.neg_tmod] at this; omega
  simp only [F19, D19, PT.ev, PT.test, dite_eq_ite, hq, if_neg hq0]
  generalize Int.tmod x (hi - lo + 1) = t at *
  have go : ∃ v : Int, (if t < 0 then some (A19.a0 (w64 (lo + w64 (w64 (w64 (t + hi) - lo) + 1)))) else some (A19.a0 (w64 (lo + t)))) = some (.a0 v) ∧ lo ≤ v ∧ v ≤ hi := by
    by_cases h : t < 0
    · rw [if_pos h]
      exact ⟨_, rfl, by rw [w64_in (n := t + hi) (by omega) (by omega), w64_in (n := t + hi - lo) (by omega) (by omega), w64_in (n := t + hi - lo + 1) (by omega) (by omega), w64_in (by omega) (by omega)]; omega⟩
    · rw [if_neg h]
      exact ⟨_, rfl, by rw [w64_in (by omega) (by omega)]; omega⟩
  obtain ⟨v, e, g1, g2⟩ := go
  by_cases a : x ≥ lo
  · by_cases b : x ≤ hi
    · exact ⟨x, by rw [if_pos a, if_pos b], a, b, fun _ _ => rfl⟩
    · exact ⟨v, by rw [if_pos a, if_neg b, e], g1, g2, fun _ h => absurd h b⟩
  · exact ⟨v, by rw [if_neg a, e], g1, g2, fun h => absurd h a⟩
end Go.Proofs.YtifalphladcdcaaGreat.H

/- PoseStarts in plain Lean. Conditions: those stated. -/
namespace Go.Proofs.YtifalphladcdcaaGreat.H
open Go Go.VM
set_option maxRecDepth 100000
/-- A layer that is later by some ticks. -/
def later (l : Ly) (n : Int) : Ly := { l with inn := l.inn + n, out := l.out + n, st := l.st + n }
theorem Sm.later {l : Ly} (s : Sm l) (n : Int) : Sm (later l n) := ⟨s.x, s.y, s.ax, s.ay, s.sx, s.sy, s.tu, s.op, s.re⟩
theorem tick_later (l : Ly) (n t : Int) (hs : -2 ≤ l.st ∧ l.st ≤ 2) (hn : -50 ≤ n ∧ n ≤ 50) (ht : 0 ≤ t ∧ t < 64) : tickv (later l n) (t + n) = tickv l t := by
  have e1 : tickv l t = t - l.st := by
    unfold tickv add
    rw [hd_of (a := l.st) (by omega) (by omega), w64_in (by omega) (by omega), hd_of (a := t) (by omega) (by omega), hd_of (a := 0 - l.st) (by omega) (by omega), hd_of (by omega) (by omega)]; omega
  have e2 : tickv (later l n) (t + n) = t + n - (l.st + n) := by
    unfold tickv add
    have : (later l n).st = l.st + n := rfl
    rw [this, hd_of (a := l.st + n) (by omega) (by omega), w64_in (by omega) (by omega), hd_of (a := t + n) (by omega) (by omega), hd_of (a := 0 - (l.st + n)) (by omega) (by omega), hd_of (by omega) (by omega)]; omega
  rw [e1, e2]; omega
end Go.Proofs.YtifalphladcdcaaGreat.H

/- Lines are measured, and parts of them told, by the program as by the document. Conditions: those stated. -/
namespace Go.Proofs.YtifalphladcdcaaGreat.H
open Go Go.VM
set_option maxRecDepth 100000
theorem or_nat (a b : Nat) (ha : a < 4294967296) (hb : b < 4294967296) : IntKind.wrap IntKind.u64 (↑(BitVec.toNat (BitVec.ofInt (IntKind.bits IntKind.u64) (a : Int) ||| BitVec.ofInt (IntKind.bits IntKind.u64) (b : Int))) : Int) = ((a ||| b : Nat) : Int) := by
  have h1 : a ||| b < 2 ^ 32 := Nat.or_lt_two_pow ha hb
  rw [show IntKind.bits IntKind.u64 = 64 by rfl, BitVec.ofInt_natCast, BitVec.ofInt_natCast, BitVec.toNat_or, BitVec.toNat_ofNat, BitVec.toNat_ofNat, Nat.mod_eq_of_lt (by omega), Nat.mod_eq_of_lt (by omega), u64id (by omega) (by omega)]
theorem root_loop (a : Int) : ∀ (n m x : Nat), n ≤ 32 → n < m → x % 2 ^ n = 0 → x + 2 ^ n ≤ 4294967296 →
    ∃ r : Nat, L284_0 m (.s0 (.mk a (x : Int) (((2 ^ n / 2 : Nat) : Int)))) = some (.e0 (.mk (r : Int))) ∧ L274_0 m (.s0 (.mk a (x : Int) (((2 ^ n / 2 : Nat) : Int)))) = some (.e0 (.mk (r : Int))) ∧ r < 4294967296
  | _, 0, x, _, hm, _, _ => by omega
  | 0, m + 1, x, _, _, _, hx => by
    rw [L284_0_s0, L274_0_s0]
    simp only [D284_0, D274_0, PT.ev, PT.test, dite_eq_ite]
    rw [if_neg (by decide), if_neg (by decide)]
    exact ⟨x, rfl, rfl, by omega⟩
  | n + 1, m + 1, x, hn, hm, hz, hx => by
    have hp : 0 < 2 ^ n := Nat.two_pow_pos n
    have hq : 2 ^ n ≤ 2 ^ 31 := Nat.pow_le_pow_right (by decide) (by omega)
    have e : 2 ^ (n + 1) / 2 = 2 ^ n := by rw [Nat.pow_succ]; omega
    have e0 : 2 ^ (n + 1) = 2 * 2 ^ n := by rw [Nat.pow_succ]; omega
    rw [e]
    have o1 := or_nat x (2 ^ n) (by omega) (by omega)
    have hor : x ||| 2 ^ n = x + 2 ^ n := by
      obtain ⟨k, hk⟩ := Nat.dvd_of_mod_eq_zero hz
      rw [hk]
      exact (Nat.two_pow_add_eq_or_of_lt (show 2 ^ n < 2 ^ (n + 1) by omega) k).symm
    rw [hor] at o1
    have o2 : IntKind.wrap IntKind.u64 ((x : Int) + ((2 ^ n : Nat) : Int)) = ((x + 2 ^ n : Nat) : Int) := by rw [u64id (by omega) (by omega)]; omega
    have e2 : Int.fdiv (((2 ^ n : Nat) : Int)) 2 = ((2 ^ n / 2 : Nat) : Int) := by rw [fd (by omega)]; omega
    have e3 : IntKind.wrap IntKind.u64 (Int.tdiv (((2 ^ n : Nat) : Int)) 2) = ((2 ^ n / 2 : Nat) : Int) := by
      rw [Int.tdiv_eq_ediv_of_nonneg (by omega), u64id (by omega) (by omega)]; omega
    have hz' : x % 2 ^ n = 0 := Nat.mod_eq_zero_of_dvd (Nat.dvd_trans ⟨2, by omega⟩ (Nat.dvd_of_mod_eq_zero hz))
    have hz2 : (x + 2 ^ n) % 2 ^ n = 0 := by rw [Nat.add_mod_right]; exact hz'
    have i1 := root_loop a n m (x + 2 ^ n) (by omega) (by omega) hz2 (by omega)
    have i2 := root_loop a n m x (by omega) (by omega) hz' (by omega)
    have hpos : ((2 ^ n : Nat) : Int) > 0 := by omega
    rw [L284_0_s0, L274_0_s0]
    simp only [D284_0, D274_0, PT.ev, PT.test, dite_eq_ite, if_pos hpos, o1, o2, e2, e3]
    by_cases h : IntKind.wrap IntKind.u64 (((x + 2 ^ n : Nat) : Int) * ((x + 2 ^ n : Nat) : Int)) ≤ a
    · simp only [if_pos h, N284_0.nx, N274_0.nx]; exact i1
    · simp only [if_neg h, N284_0.nx, N274_0.nx]; exact i2
theorem hyp2 (x y : Int) : ∃ h, F265 x y = some (.a0 h) ∧ F244 x y = some (.a0 h) ∧ 0 ≤ h ∧ h < 4294967296 := by
  have hx := cl_bd x (-1073741824) 1073741824 (by decide)
  have hy := cl_bd y (-1073741824) 1073741824 (by decide)
  simp only [F265, F244, D265, D244, PT.ev, PT.test, dite_eq_ite, bnd_def, qclamp, rclamp]
  generalize cl x (-1073741824) 1073741824 = u at *
  generalize cl y (-1073741824) 1073741824 = v at *
  have sqb : ∀ u : Int, -1073741824 ≤ u ∧ u ≤ 1073741824 → 0 ≤ u * u ∧ u * u ≤ 1152921504606846976 := fun u h => by
    have h1 : 0 ≤ (1073741824 - u) * (1073741824 + u) := Int.mul_nonneg (by omega) (by omega)
    have h2 : 0 ≤ u * u := by
      by_cases h : 0 ≤ u
      · exact Int.mul_nonneg h h
      · have := Int.mul_nonneg (show 0 ≤ -u by omega) (show 0 ≤ -u by omega)
        rw [Int.neg_mul_neg] at this; exact this
    simp only [Int.sub_mul, Int.mul_add] at h1
    exact ⟨h2, by omega⟩
  obtain ⟨u1, u2⟩ := sqb u hx
  obtain ⟨v1, v2⟩ := sqb v hy
  rw [w64_in (n := u * u) (by omega) (by omega), w64_in (n := v * v) (by omega) (by omega), w64_in (n := u * u + v * v) (by omega) (by omega), u64id (x := u * u) (by omega) (by omega), u64id (x := v * v) (by omega) (by omega), u64id (by omega) (by omega)]
  obtain ⟨r, r1, r2, r3⟩ := root_loop (u * u + v * v) 32 18446744073709551616 0 (by decide) (by decide) (by decide) (by decide)
  rw [show (((0 : Nat) : Int)) = 0 from rfl, show (((2 ^ 32 / 2 : Nat) : Int)) = 2147483648 by decide] at r1 r2
  have hw : w64 (r : Int) = r := w64_in (by omega) (by omega)
  have hh : hd (r : Int) = r := hd_of (by omega) (by omega)
  simp only [F284, F274, D284, D274, PT.ev, PT.test, dite_eq_ite, r1, r2, Option.bind_some, qhold, hw, hh]
  exact ⟨_, rfl, rfl, by omega, by omega⟩
def Near (x : Int) : Prop := -536870912 ≤ x ∧ x ≤ 536870912
theorem pl_bd (x : Int) : Near (pl x) := cl_bd _ _ _ (by decide)
theorem aplace (x y : Int) : F285 x y = some (.a0 (pl x) (pl y)) := rfl
theorem rplaced (x y : Int) : F250 x y = some (.a0 (pl x) (pl y)) := rfl
def ns (c : Bool) (l : List Pt) : Nat := if c = true ∧ 2 ≤ l.length then l.length else l.length - 1
theorem ns_le (c : Bool) (l : List Pt) : ns c l ≤ l.length := by unfold ns; split <;> omega
theorem sidesA (c : Bool) (l : List Pt) (hL : l.length ≤ 8796093022207) : F266 c (Rp l) = (ns c l : Int) := by
  have h1 : (if w64 ((l.length : Int) - 1) > 0 then w64 ((l.length : Int) - 1) else 0) = ((l.length - 1 : Nat) : Int) := by
    rw [w64_in (by omega) (by omega)]; split <;> omega
  simp only [F266, D266, PT.evT, PT.test, dite_eq_ite, ns, rp_len, h1]
  cases c
  · simp
  · simp only [if_true, true_and]
    by_cases h : 2 ≤ l.length
    · rw [if_pos (by omega), if_pos h]
    · rw [if_neg (by omega), if_neg h]
theorem sidesB (c : Bool) (l : List Pt) (hL : l.length ≤ 8796093022207) : F245 c (Rp l) = (ns c l : Int) := by
  simp only [F245, D245, PT.evT, PT.test, dite_eq_ite, ns, rp_len]
  by_cases h : 2 ≤ l.length
  · rw [if_neg (by omega)]
    cases c
    · simp only [Bool.false_eq_true, false_and, if_false]
      rw [w64_in (by omega) (by omega)]; omega
    · rw [if_pos rfl, if_pos ⟨rfl, h⟩]
  · rw [if_pos (by omega), if_neg (fun h' => h h'.2)]; omega
theorem next_eq (i L : Nat) (hi : i < L) (hL : L ≤ 8796093022207) : Int.tmod (w64 ((i : Int) + 1)) (L : Int) = (((i + 1) % L : Nat) : Int) := by
  rw [w64_in (by omega) (by omega), Int.tmod_eq_emod_of_nonneg (by omega), Int.natCast_emod]; rfl
theorem far2 (p q r s : Int) : ∃ h, F265 (w64 (r - p)) (w64 (s - q)) = some (.a0 h) ∧ F247 p q r s = some (.a0 h) ∧ 0 ≤ h ∧ h < 4294967296 := by
  obtain ⟨h, e1, e2, b⟩ := hyp2 (w64 (r - p)) (w64 (s - q))
  exact ⟨h, e1, by simp only [F247, D247, PT.ev, PT.test, dite_eq_ite, e2, Option.bind_some], b⟩
theorem side2 (c : Bool) {l : List Pt} (hL : l.length ≤ 8796093022207) {i : Nat} (hi : i < l.length) :
    ∃ p q r s h, F267 c (Rp l) i = some (.a0 p q r s h) ∧ F246 c (Rp l) i = some (.a0 p q r s) ∧ F247 p q r s = some (.a0 h) ∧ (Near p ∧ Near q ∧ Near r ∧ Near s) ∧ 0 ≤ h ∧ h < 4294967296 := by
  have hm : (i + 1) % l.length < l.length := Nat.mod_lt _ (by omega)
  have g0 : (0 : Int) ≤ (i : Int) := by omega
  have g1 : (0 : Int) ≤ (((i + 1) % l.length : Nat) : Int) := by omega
  have g2 : ¬ (l.length : Int) = 0 := by omega
  have t0 : Int.toNat (i : Int) = i := by omega
  have t1 : Int.toNat (((i + 1) % l.length : Nat) : Int) = (i + 1) % l.length := by omega
  obtain ⟨h, e1, e2, b1, b2⟩ := far2 (pl l[i].c0) (pl l[i].c1) (pl (l[(i + 1) % l.length]).c0) (pl (l[(i + 1) % l.length]).c1)
  refine ⟨_, _, _, _, h, ?_, ?_, e2, ⟨pl_bd _, pl_bd _, pl_bd _, pl_bd _⟩, b1, b2⟩
  · simp only [F267, D267, PT.ev, PT.test, dite_eq_ite, rp_len, next_eq i _ hi hL, if_pos g0, if_pos g1, if_neg g2, t0, t1, rp_get, List.getElem?_eq_getElem hi, List.getElem?_eq_getElem hm, Option.bind_some, aplace, e1]
  · simp only [F246, D246, PT.ev, PT.test, dite_eq_ite, rp_len, next_eq i _ hi hL, if_pos g0, if_pos g1, if_neg g2, t0, t1, rp_get, List.getElem?_eq_getElem hi, List.getElem?_eq_getElem hm, Option.bind_some, rplaced]
theorem wsucc {i : Nat} (h : i < 9000000000000) : w64 ((i : Int) + 1) = ((i + 1 : Nat) : Int) := by rw [w64_in (by omega) (by omega)]; omega
theorem length2_loop (c : Bool) {l : List Pt} (hL : l.length ≤ 8796093022207) : ∀ (n i : Nat) (acc : Int), i ≤ ns c l → ns c l < n + i →
    ∃ r, L236_0 n (.s0 (.mk acc (ns c l) i c (Rp l))) = some (.e0 (.mk r)) ∧ L206_0 n (.s0 (.mk acc i c (Rp l))) = some (.e0 (.mk r))
  | 0, i, acc, hi, hn => by omega
  | n + 1, i, acc, hi, hn => by
    have hl := ns_le c l
    rw [L236_0_s0, L206_0_s0]
    by_cases h : i < ns c l
    · have hc : (i : Int) < (ns c l : Int) := by omega
      obtain ⟨p, q, r, s, d, e1, e2, e3, _, _⟩ := side2 c hL (show i < l.length by omega)
      simp only [D236_0, D206_0, PT.ev, PT.test, dite_eq_ite, bnd_def, sidesB c l hL, if_pos hc, e1, e2, e3, Option.bind_some, qadd, radd, wsucc (show i < 9000000000000 by omega), N236_0.nx, N206_0.nx]
      exact length2_loop c hL n (i + 1) _ (by omega) (by omega)
    · have hc : ¬ (i : Int) < (ns c l : Int) := by omega
      simp only [D236_0, D206_0, PT.ev, PT.test, dite_eq_ite, bnd_def, sidesB c l hL, if_neg hc, N236_0.nx, N206_0.nx]
      exact ⟨_, rfl, rfl⟩
theorem length2 (c : Bool) {l : List Pt} (hL : l.length ≤ 8796093022207) : ∃ r, F236 c (Rp l) = some (.a0 r) ∧ F206 c (Rp l) = some (.a0 r) := by
  have hl := ns_le c l
  obtain ⟨r, e1, e2⟩ := length2_loop c hL 18446744073709551616 0 0 (by omega) (by omega)
  rw [show ((0 : Nat) : Int) = 0 by rfl] at e1 e2
  simp only [F236, F206, D236, D206, PT.ev, PT.test, dite_eq_ite, bnd_def, sidesA c l hL, e1, e2, Option.bind_some]
  exact ⟨_, rfl, rfl⟩
/-! ### Quotients -/
def divv (a b : Int) : Int := if hd b = 0 then 0 else hd (Int.fdiv (hd a * 65536) (hd b))
theorem fdiv_t (a b : Int) (hb : b ≠ 0) : Int.fdiv a b = if (Int.tmod a b != 0) = true then (if (!(decide (a < 0) == decide (b < 0))) = true then Int.tdiv a b - 1 else Int.tdiv a b) else Int.tdiv a b := by
  have h1 := Int.mul_tdiv_add_tmod a b
  have h2 := Int.mul_fdiv_add_fmod a b
  have t1 : 0 ≤ a → 0 ≤ Int.tmod a b := fun h => Int.tmod_nonneg _ h
  have t2 : a ≤ 0 → Int.tmod a b ≤ 0 := fun h => by
    have := Int.tmod_nonneg b (show 0 ≤ -a by omega)
    rw [Int.neg_tmod] at this; omega
  have t3 : (Int.tmod a b).natAbs < b.natAbs := by rw [Int.natAbs_tmod]; exact Nat.mod_lt _ (Int.natAbs_pos.2 hb)
  have f1 : 0 < b → 0 ≤ Int.fmod a b ∧ Int.fmod a b < b := fun h => ⟨Int.fmod_nonneg_of_pos _ h, Int.fmod_lt_of_pos _ h⟩
  have f2 : b < 0 → b < Int.fmod a b ∧ Int.fmod a b ≤ 0 := fun h => by
    have e := Int.neg_fmod_neg a b
    have p1 := Int.fmod_nonneg_of_pos (-a) (show 0 < -b by omega)
    have p2 := Int.fmod_lt_of_pos (-a) (show 0 < -b by omega)
    omega
  generalize Int.tmod a b = r at *
  generalize Int.fmod a b = g at *
  generalize Int.tdiv a b = q at *
  generalize Int.fdiv a b = z at *
  have e : b * (z - q) = r - g := by rw [Int.mul_sub]; omega
  have bound : z - q = 0 ∨ z - q = -1 := by
    rcases Int.lt_or_lt_of_ne hb with hb' | hb'
    · obtain ⟨g1, g2⟩ := f2 hb'
      by_cases c1 : z - q ≤ -2
      · have : (-b) * 2 ≤ (-b) * (-(z - q)) := Int.mul_le_mul_of_nonneg_left (by omega) (by omega)
        rw [Int.neg_mul_neg] at this; omega
      · by_cases c2 : 1 ≤ z - q
        · have : (-b) * 1 ≤ (-b) * (z - q) := Int.mul_le_mul_of_nonneg_left c2 (by omega)
          rw [Int.neg_mul (b := z - q)] at this; omega
        · omega
    · obtain ⟨g1, g2⟩ := f1 hb'
      by_cases c1 : z - q ≤ -2
      · have : b * 2 ≤ b * (-(z - q)) := Int.mul_le_mul_of_nonneg_left (by omega) (by omega)
        rw [Int.mul_neg] at this; omega
      · by_cases c2 : 1 ≤ z - q
        · have : b * 1 ≤ b * (z - q) := Int.mul_le_mul_of_nonneg_left c2 (by omega)
          omega
        · omega
  have z0 : z - q = 0 → r = g := fun h => by rw [h, Int.mul_zero] at e; omega
  have z1 : z - q = -1 → g = r + b := fun h => by rw [h] at e; omega
  have sgn : ((!(decide (a < 0) == decide (b < 0))) = true) ↔ ¬ (a < 0 ↔ b < 0) := by
    rw [Bool.not_eq_true', beq_eq_false_iff_ne, ne_eq, decide_eq_decide]
  simp only [sgn, bne_iff_ne, ne_eq]
  by_cases hr : r = 0
  · rw [if_neg (fun h => h hr)]
    rcases bound with h | h
    · omega
    · have := z1 h
      rcases Int.lt_or_lt_of_ne hb with hb' | hb'
      · have := f2 hb'; omega
      · have := f1 hb'; omega
  · rw [if_pos hr]
    by_cases hs : (a < 0 ↔ b < 0)
    · rw [if_neg (fun h => h hs)]
      rcases bound with h | h
      · omega
      · have := z1 h
        rcases Int.lt_or_lt_of_ne hb with hb' | hb'
        · have := f2 hb'; have := hs.2 hb'; have := t2 (by omega); omega
        · have := f1 hb'; have h3 : ¬ a < 0 := fun ha => by have := hs.1 ha; omega
          have := t1 (by omega); omega
    · rw [if_pos hs]
      rcases bound with h | h
      · have := z0 h
        exfalso
        rcases Int.lt_or_lt_of_ne hb with hb' | hb'
        · have := f2 hb'; have h3 : ¬ a < 0 := fun ha => hs ⟨fun _ => hb', fun _ => ha⟩
          have := t1 (by omega); omega
        · have := f1 hb'; have h3 : a < 0 := Classical.byContradiction fun ha => hs ⟨fun h => absurd h ha, fun h => by omega⟩
          have := t2 (by omega); omega
      · omega
theorem qdiv (a b : Int) : F269 a b = some (.a0 (divv a b)) := by
  have ha := hd_bd a
  have hb := hd_bd b
  have hw : w64 (hd a * 65536) = hd a * 65536 := w64_in (by omega) (by omega)
  simp only [F269, D269, PT.ev, PT.test, dite_eq_ite, bnd_def, qhold, divv, hw]
  generalize hd a = A at *
  generalize hd b = B at *
  by_cases h0 : B = 0
  · simp [h0]
  · have hq : (Int.tdiv (A * 65536) B).natAbs ≤ (A * 65536).natAbs := by rw [Int.natAbs_tdiv]; exact Nat.div_le_self _ _
    have hw2 : w64 (Int.tdiv (A * 65536) B) = Int.tdiv (A * 65536) B := w64_in (by omega) (by omega)
    have hw3 : w64 (Int.tdiv (A * 65536) B - 1) = Int.tdiv (A * 65536) B - 1 := w64_in (by omega) (by omega)
    have e0 : (B == 0) = false := by rw [beq_eq_false_iff_ne]; exact h0
    rw [fdiv_t _ _ h0]
    simp only [e0, h0, if_false, hw2, hw3, Bool.false_eq_true]
    split
    · split <;> rfl
    · rfl
theorem fdiv_abs (A B : Int) (hB : B ≠ 0) : Int.fdiv A B = if (!(decide (A < 0) == decide (B < 0))) = true then -(if A < 0 then -A else A) / (if B < 0 then -B else B) else (if A < 0 then -A else A) / (if B < 0 then -B else B) := by
  have neg : B < 0 → Int.fdiv A B = (-A) / (-B) := fun h => by
    rw [← Int.neg_fdiv_neg, Int.fdiv_eq_ediv_of_nonneg _ (by omega)]
  by_cases hb : B < 0
  · rw [neg hb, if_pos hb]
    by_cases ha : A < 0
    · simp [ha, hb]
    · simp [ha, hb]
  · rw [Int.fdiv_eq_ediv_of_nonneg _ (by omega), if_neg hb]
    by_cases ha : A < 0
    · simp [ha, hb]
    · simp [ha, hb]
theorem neg_div {p d : Int} (hd0 : 0 < d) : (-p) / d = if p % d = 0 then -(p / d) else -(p / d) - 1 := by
  have e := Int.mul_ediv_add_emod p d
  have r1 := Int.emod_nonneg p (show d ≠ 0 by omega)
  have r2 := Int.emod_lt_of_pos p hd0
  generalize p % d = r at *
  generalize p / d = q at *
  have e2 : q * d = p - r := by rw [Int.mul_comm]; omega
  split
  · exact Int.le_antisymm (Int.le_of_lt_add_one ((Int.ediv_lt_iff_lt_mul hd0).2 (by rw [Int.add_mul, Int.neg_mul]; omega))) ((Int.le_ediv_iff_mul_le hd0).2 (by rw [Int.neg_mul]; omega))
  · exact Int.le_antisymm (Int.le_of_lt_add_one ((Int.ediv_lt_iff_lt_mul hd0).2 (by rw [show -q - 1 + 1 = -q by omega, Int.neg_mul]; omega))) ((Int.le_ediv_iff_mul_le hd0).2 (by rw [Int.sub_mul, Int.neg_mul]; omega))
theorem rdown0 (p d : Int) (m : Bool) (h : 0 ≤ p ∧ p ≤ 72057594037927936) (hd0 : 0 < d) (hd1 : d ≤ 1099511627776) : F188 0 p d m = some (.a0 (hd ((if m = true then -p else p) / d))) := by
  have hdz : ¬ d = 0 := by omega
  have e0 : (d == 0) = false := by rw [beq_eq_false_iff_ne]; exact hdz
  have q1 : 0 ≤ p / d := Int.ediv_nonneg (by omega) (by omega)
  have q2 : p / d ≤ p := Int.ediv_le_self _ h.1
  have dv : F230 0 p d = some (.a0 (p / d) (p % d)) := by
    simp only [F230, D230, PT.ev, PT.test, dite_eq_ite, e0, Bool.false_eq_true, if_false, if_neg (show ¬ d ≤ 0 by omega), beq_self_eq_true, if_true, hdz, Int.tdiv_eq_ediv_of_nonneg h.1, Int.tmod_eq_emod_of_nonneg h.1]
    rw [u64id q1 (by omega)]
  simp only [F188, D188, PT.ev, PT.test, dite_eq_ite, if_neg (show ¬ (0 : Int) ≥ d by omega), dv, Option.bind_some, bnd_def, rhold]
  cases m
  · simp only [J188_r6, D188_r6, PT.ev, PT.test, dite_eq_ite, Bool.false_eq_true, if_false, Option.bind_some]
    rw [if_neg (by omega), w64_in (by omega) (by omega)]
  · simp only [J188_r6, D188_r6, PT.ev, PT.test, dite_eq_ite, if_true]
    rw [neg_div hd0]
    have r1 := Int.emod_nonneg p (show d ≠ 0 by omega)
    by_cases hr : p % d > 0
    · simp only [hr, if_true, decide_eq_true (show p / d < 4611686018427387904 by omega), Option.bind_some, PT.ev, PT.test, dite_eq_ite]
      rw [u64id (by omega) (by omega), if_neg (by omega), if_neg (by omega), w64_in (n := p / d + 1) (by omega) (by omega), w64_in (by omega) (by omega)]
      congr 3; omega
    · simp only [hr, if_false, Option.bind_some, PT.ev, PT.test, dite_eq_ite, if_true, Bool.false_eq_true]
      rw [if_neg (by omega), if_pos (by omega), w64_in (n := p / d) (by omega) (by omega), w64_in (by omega) (by omega)]
      congr 3; omega
theorem rdiv (a b : Int) : F249 a b = some (.a0 (divv a b)) := by
  simp only [F249, D249, PT.ev, PT.test, dite_eq_ite, bnd_def, rhold]
  unfold divv
  have h1 := hd_bd a
  have h2 := hd_bd b
  simp only [rsize _ h1, rsize _ h2, Option.bind_some, PT.ev, PT.test, dite_eq_ite]
  generalize hd a = x at *
  generalize hd b = y at *
  have hx : 0 ≤ (if x < 0 then -x else x) ∧ (if x < 0 then -x else x) ≤ 1099511627776 := by split <;> omega
  by_cases hy0 : y = 0
  · subst hy0; rfl
  · have hy : 0 < (if y < 0 then -y else y) ∧ (if y < 0 then -y else y) ≤ 1099511627776 := by split <;> omega
    have e0 : ((if y < 0 then -y else y) == 0) = false := by rw [beq_eq_false_iff_ne]; omega
    have eA : (if x * 65536 < 0 then -(x * 65536) else x * 65536) = (if x < 0 then -x else x) * 65536 := by
      by_cases hx0 : x < 0
      · rw [if_pos hx0, if_pos (by omega)]; omega
      · rw [if_neg hx0, if_neg (by omega)]
    have eS : decide (x * 65536 < 0) = decide (x < 0) := by rw [decide_eq_decide]; omega
    rw [fdiv_abs _ _ hy0, eA, eS, mul64 _ _ (by omega) (by decide)]
    simp only [e0, Bool.false_eq_true, if_false, Option.bind_some, PT.ev, PT.test, dite_eq_ite, hy0]
    generalize (if x < 0 then -x else x) = u at *
    generalize (if y < 0 then -y else y) = v at *
    rw [show u * 65536 / 18446744073709551616 = 0 by omega, show u * 65536 % 18446744073709551616 = u * 65536 by omega, rdown0 _ _ _ (by omega) hy.1 hy.2]
    simp only [Option.bind_some, PT.ev, PT.test, dite_eq_ite]
    split <;> rfl
/-! ### A place on a side -/
theorem mid_one {a b : Int} (ha : Near a) (hb : Near b) : mid a b 65536 = b := by
  unfold Near at ha hb
  unfold mid
  rw [hd_of (a := a) (by omega) (by omega), w64_in (by omega) (by omega)]
  have e1 : add b (0 - a) = b - a := by unfold add; rw [hd_of (a := b) (by omega) (by omega), hd_of (a := 0 - a) (by omega) (by omega), hd_of (by omega) (by omega)]; omega
  rw [e1]
  have e2 : mul (b - a) 65536 = b - a := by
    unfold mul
    rw [hd_of (a := b - a) (by omega) (by omega), hd_of (a := 65536) (by decide) (by decide), Int.mul_ediv_cancel _ (by decide), hd_of (by omega) (by omega)]
  rw [e2]
  unfold add
  rw [hd_of (a := a) (by omega) (by omega), hd_of (a := b - a) (by omega) (by omega), hd_of (by omega) (by omega)]; omega
theorem divv_hd (d l : Int) : divv (hd d) l = divv d l := by unfold divv; rw [hd_hd]
theorem on2 (p q r s d l : Int) : ∃ x y, F268 p q r s d l = some (.a0 x y) ∧ F248 p q r s d l = some (.a0 x y) := by
  have n1 := pl_bd p
  have n2 := pl_bd q
  have n3 := pl_bd r
  have n4 := pl_bd s
  simp only [F268, F248, D268, D248, PT.ev, PT.test, dite_eq_ite, aplace, rplaced, Option.bind_some, bnd_def, rhold, qdiv, rdiv, qmid', rmid', divv_hd]
  have b1 := hd_bd d
  by_cases c1 : d ≤ 0
  · have c2 : hd d ≤ 0 := by unfold hd cl; split <;> (try split) <;> omega
    simp only [if_pos c1, if_pos c2]; exact ⟨_, _, rfl, rfl⟩
  · have c2 : ¬ hd d ≤ 0 := by unfold hd cl; split <;> (try split) <;> omega
    simp only [if_neg c1, if_neg c2]
    by_cases c3 : d ≥ l
    · simp only [if_pos c3]
      by_cases c4 : hd d ≥ l
      · simp only [if_pos c4]; exact ⟨_, _, rfl, rfl⟩
      · simp only [if_neg c4]
        have e1 : hd d = 1099511627776 := by unfold hd cl at *; split at c4 <;> (try split at c4) <;> (try split) <;> (try split) <;> omega
        have e2 : hd l = 1099511627776 := hd_hi (by omega)
        have e3 : divv d l = 65536 := by unfold divv; rw [e1, e2]; decide
        rw [e3, mid_one n1 n3, mid_one n2 n4]
        exact ⟨_, _, rfl, rfl⟩
    · have c4 : ¬ hd d ≥ l := by unfold hd cl; split <;> (try split) <;> omega
      simp only [if_neg c3, if_neg c4]
      exact ⟨_, _, rfl, rfl⟩
/-! ### Parts -/
theorem part2_loop (c : Bool) {l : List Pt} (hL : l.length ≤ 8796093022207) (f t : Int) : ∀ (n i : Nat) (s : Int) (o : List Pt), i ≤ ns c l → ns c l < n + i → o.length ≤ i + 1 →
    ∃ o' : List Pt, L237_0 n (.s0 (.mk f t s (ns c l) i c (Rp l) o.length (Rp o))) = some (.e0 (.mk o'.length (Rp o'))) ∧ L207_0 n (.s0 (.mk f t s i c (Rp l) o.length (Rp o))) = some (.e0 (.mk o'.length (Rp o'))) ∧ o'.length ≤ ns c l + 1
  | 0, i, s, o, hi, hn, _ => by omega
  | n + 1, i, s, o, hi, hn, ho => by
    have hl := ns_le c l
    rw [L237_0_s0, L207_0_s0]
    by_cases h : i < ns c l
    · have hc : (i : Int) < (ns c l : Int) := by omega
      obtain ⟨p, q, r, u, d, e1, e2, e3, _, _⟩ := side2 c hL (show i < l.length by omega)
      obtain ⟨x1, y1, a1, b1⟩ := on2 p q r u (w64 (f - s)) d
      obtain ⟨x2, y2, a2, b2⟩ := on2 p q r u (w64 (t - s)) d
      have ihs := part2_loop c hL f t n (i + 1) (add s d) o (by omega) (by omega) (by omega)
      have ihp := part2_loop c hL f t n (i + 1) (add s d) (o ++ [⟨x2, y2⟩]) (by omega) (by omega) (by simp; omega)
      have hr : 0 + o.length ≤ List.length (Rp o) ∧ (o.length + 1) * 16 ≤ 140737488355328 ∧ o.length + 1 ≤ 140737488355328 := by rw [rp_len]; omega
      have hpush : List.take o.length (Rp o) ++ [[i64 x2, i64 y2]] = Rp (o ++ [⟨x2, y2⟩]) := push1 o ⟨x2, y2⟩
      rw [show (o ++ [(⟨x2, y2⟩ : Pt)]).length = o.length + 1 by simp] at ihp
      simp only [D237_0, J237_r10, D237_r10, J237_c50, D237_c50, D207_0, J207_r12, D207_r12, PT.ev, PT.test, dite_eq_ite, bnd_def, sidesB c l hL, if_pos hc, e1, e2, e3, Option.bind_some, qadd, radd, wsucc (show i < 9000000000000 by omega)]
      have hw : w64 ((i : Int) + 1) = ((i + 1 : Nat) : Int) := wsucc (show i < 9000000000000 by omega)
      have g0 : 0 + 0 ≤ 0 ∧ (0 + 1) * 16 ≤ 140737488355328 ∧ 0 + 1 ≤ 140737488355328 := by decide
      have g1 : 0 + (0 + 1) ≤ 0 + 1 ∧ (0 + 1 + 1) * 16 ≤ 140737488355328 ∧ 0 + 1 + 1 ≤ 140737488355328 := by decide
      by_cases c1 : d > 0
      · by_cases c2 : add s d > f
        · by_cases c3 : s < t
          · by_cases c4 : o.length = 0
            · have hz : o = [] := List.eq_nil_of_length_eq_zero c4
              subst hz
              have ih2 := part2_loop c hL f t n (i + 1) (add s d) [⟨x1, y1⟩, ⟨x2, y2⟩] (by omega) (by omega) (by simp)
              simp only [if_pos c1, if_pos c2, decide_eq_true c3, if_true, Option.bind_some, PT.ev, PT.test, dite_eq_ite, List.length_nil, Int.natCast_zero, beq_self_eq_true, a1, a2, b1, b2, List.map_nil, List.take_nil, List.nil_append, List.length_cons, if_pos g0, if_pos g1, hw, N237_0.nx, N207_0.nx]
              exact ih2
            · have hk : ((o.length : Int) == 0) = false := by rw [beq_eq_false_iff_ne]; omega
              simp only [if_pos c1, if_pos c2, decide_eq_true c3, if_true, Option.bind_some, PT.ev, PT.test, dite_eq_ite, hk, Bool.false_eq_true, if_false, a2, b2, if_pos hr, hpush, hw, N237_0.nx, N207_0.nx]
              exact ihp
          · simp only [if_pos c1, if_pos c2, decide_eq_false c3, Bool.false_eq_true, if_false, Option.bind_some, PT.ev, PT.test, dite_eq_ite, hw, N237_0.nx, N207_0.nx]
            exact ihs
        · simp only [if_pos c1, if_neg c2, Bool.false_eq_true, if_false, Option.bind_some, PT.ev, PT.test, dite_eq_ite, hw, N237_0.nx, N207_0.nx]
          exact ihs
      · simp only [if_neg c1, Bool.false_eq_true, if_false, Option.bind_some, PT.ev, PT.test, dite_eq_ite, hw, N237_0.nx, N207_0.nx]
        exact ihs
    · have hc : ¬ (i : Int) < (ns c l : Int) := by omega
      simp only [D237_0, D207_0, PT.ev, PT.test, dite_eq_ite, bnd_def, sidesB c l hL, if_neg hc, N237_0.nx, N207_0.nx]
      exact ⟨o, rfl, rfl, by omega⟩
theorem part2 (c : Bool) {l : List Pt} (hL : l.length ≤ 8796093022207) (f t : Int) : ∃ o : List Pt, F237 c (Rp l) f t = some (.a0 false o.length (Rp o)) ∧ F207 c (Rp l) f t = some (.a0 false o.length (Rp o)) ∧ o.length ≤ l.length + 1 := by
  simp only [F237, F207, D237, D207, PT.ev, PT.test, dite_eq_ite, bnd_def, qhold, rhold]
  by_cases h : hd f ≥ hd t
  · simp only [if_pos h]; exact ⟨[], rfl, rfl, by simp⟩
  · have hl := ns_le c l
    obtain ⟨o, e1, e2, e3⟩ := part2_loop c hL (hd f) (hd t) 18446744073709551616 0 0 [] (by omega) (by omega) (by simp)
    rw [show ((0 : Nat) : Int) = 0 by rfl, show Rp [] = [] from rfl, show ([] : List Pt).length = 0 from rfl] at e1 e2
    simp only [if_neg h, sidesA c l hL, e1, e2, Option.bind_some]
    exact ⟨o, rfl, rfl, by omega⟩
end Go.Proofs.YtifalphladcdcaaGreat.H

/- Parts of outlines: the program's and the document's are the same. Conditions: those stated. -/
namespace Go.Proofs.YtifalphladcdcaaGreat.H
open Go Go.VM
set_option maxRecDepth 100000
/-- A row of straight lines. -/
structure Po where
  c : Bool
  p : List Pt
abbrev Wo (q : Po) : W88 := ⟨q.c, Rp q.p⟩
abbrev Ro (qs : List Po) : List (List V) := qs.map fun q => (Wo q).cells
theorem ro_len (qs : List Po) : (Ro qs).length = qs.length := List.length_map ..
theorem ro_get (qs : List Po) (i : Nat) : ((Ro qs)[i]?).bind W88.dec = (qs[i]?).map Wo := by
  simp only [Ro, List.getElem?_map]
  cases qs[i]? <;> rfl
theorem ro_all (qs : List Po) : List.take qs.length (Ro qs) = Ro qs := List.take_of_length_le (by rw [ro_len]; exact Nat.le_refl _)
theorem rp_all (ps : List Pt) : List.take ps.length (Rp ps) = Rp ps := List.take_of_length_le (by rw [rp_len]; exact Nat.le_refl _)
theorem pushO (qs : List Po) (c : Bool) (o : List Pt) : List.take qs.length (Ro qs) ++ [[vb c, V.list 2 (Rp o)]] = Ro (qs ++ [⟨c, o⟩]) := by
  rw [ro_all, Ro, Ro, List.map_append]; rfl
def lo (f t : Int) : Int := if cl t 0 65536 < cl f 0 65536 then cl t 0 65536 else cl f 0 65536
def hi (f t : Int) : Int := if cl t 0 65536 > cl f 0 65536 then cl t 0 65536 else cl f 0 65536
theorem span1 (f t : Int) : F235 f t = some (.a0 (lo f t) (hi f t)) := rfl
theorem span2 (f t : Int) : F204 f t = some (.a0 (lo f t) (hi f t)) := rfl
theorem copied_eq (c : Bool) (l : List Pt) (h : l.length ≤ 8796093022207) : F205 c (Rp l) = some (.a0 c l.length (Rp l)) := by
  simp only [F205, D205, PT.ev, PT.test, dite_eq_ite, rp_len, Nat.zero_add, List.nil_append]
  rw [if_pos ⟨Nat.le_refl _, by omega, by omega⟩]
theorem trim_loop {ps : List Po} (hp : ∀ p ∈ ps, p.p.length ≤ 8796093022206) (hps : ps.length ≤ 1000000) (f t : Int) : ∀ (n i : Nat) (q : List Po), i ≤ ps.length → ps.length < n + i → q.length ≤ i → (∀ p ∈ q, p.p.length ≤ 8796093022207) → (∀ B, (∀ p ∈ ps, p.p.length ≤ B) → ∀ p ∈ q, p.p.length ≤ B + 1) →
    ∃ q' : List Po, L195_0 n (.s0 (.mk f t q.length (Ro ps) ps.length i (Ro q))) = some (.e0 (.mk q'.length (Ro q'))) ∧ L152_0 n (.s0 (.mk (Ro ps) f t q.length i (Ro q))) = some (.e0 (.mk q'.length (Ro q'))) ∧ q'.length ≤ ps.length ∧ ∀ B, (∀ p ∈ ps, p.p.length ≤ B) → ∀ p ∈ q', p.p.length ≤ B + 1
  | 0, i, q, hi, hn, _, _, _ => by omega
  | n + 1, i, q, hi, hn, hq, hg, hB => by
    rw [L195_0_s0, L152_0_s0]
    by_cases h : i < ps.length
    · have hc : (i : Int) < (ps.length : Int) := by omega
      have g1 : (0 : Int) ≤ (i : Int) := by omega
      have hm := List.getElem_mem h
      have e2 := hp _ hm
      have ih := trim_loop hp hps f t n (i + 1) q (by omega) (by omega) (by omega) hg hB
      obtain ⟨r, a1, a2⟩ := length2 ps[i].c (l := ps[i].p) (by omega)
      obtain ⟨o, b1, b2, b3⟩ := part2 ps[i].c (l := ps[i].p) (by omega) (mul r f) (mul r t)
      have push : ∀ (b : Bool) (o : List Pt), o.length ≤ ps[i].p.length + 1 → ∃ q' : List Po, L195_0 n (.s0 (.mk f t (q.length + 1) (Ro ps) ps.length ((i + 1 : Nat) : Int) (Ro (q ++ [⟨b, o⟩])))) = some (.e0 (.mk q'.length (Ro q'))) ∧ L152_0 n (.s0 (.mk (Ro ps) f t (q.length + 1) ((i + 1 : Nat) : Int) (Ro (q ++ [⟨b, o⟩])))) = some (.e0 (.mk q'.length (Ro q'))) ∧ q'.length ≤ ps.length ∧ ∀ B, (∀ p ∈ ps, p.p.length ≤ B) → ∀ p ∈ q', p.p.length ≤ B + 1 := fun b o ho => by
        have := trim_loop hp hps f t n (i + 1) (q ++ [⟨b, o⟩]) (by omega) (by omega) (by simp; omega) (fun p hp' => by
          rw [List.mem_append, List.mem_singleton] at hp'
          rcases hp' with hp' | rfl
          · exact hg p hp'
          · show o.length ≤ _; omega) (fun B hb p hp' => by
          rw [List.mem_append, List.mem_singleton] at hp'
          rcases hp' with hp' | rfl
          · exact hB B hb p hp'
          · have := hb _ hm
            show o.length ≤ _; omega)
        rw [show (q ++ [(⟨b, o⟩ : Po)]).length = q.length + 1 by simp] at this
        exact this
      have hr : 0 + q.length ≤ (Ro q).length ∧ (q.length + 1) * 32 ≤ 140737488355328 ∧ q.length + 1 ≤ 140737488355328 := by rw [ro_len]; omega
      have c47 : F224 (Rp ps[i].p) = some (.a0 (Rp ps[i].p)) := clone_eq ps[i].p (by omega)
      have c102 := copied_eq ps[i].c ps[i].p (by omega)
      simp only [D195_0, J195_r6, D195_r6, D152_0, J152_r7, D152_r7, PT.ev, PT.test, dite_eq_ite, ro_len, rp_len, if_pos hc, if_pos g1, Int.toNat_natCast, ro_get, List.getElem?_eq_getElem h, Option.map_some, Option.bind_some, c102, wsucc (show i < 9000000000000 by omega)]
      have hw : w64 ((i : Int) + 1) = ((i + 1 : Nat) : Int) := by rw [w64_in (by omega) (by omega)]; omega
      have z0 : ∀ n : Nat, 0 + n ≤ n := fun n => by omega
      by_cases z1 : f = 0
      · by_cases z2 : t = 65536
        · simp only [z1, z2, beq_self_eq_true, bne_self_eq_false, if_true, Bool.false_eq_true, if_false, Option.bind_some, PT.ev, PT.test, dite_eq_ite, c47, rp_len, if_pos (z0 _), if_pos hr, rp_all, pushO, hw, N195_0.nx, N152_0.nx]
          have := push ps[i].c ps[i].p (by omega)
          rw [z1, z2] at this
          exact this
        · have w3 : (t == 65536) = false := by rw [beq_eq_false_iff_ne]; exact z2
          have w4 : (t != 65536) = true := by rw [bne_iff_ne]; exact z2
          have z1' : (f == 0) = true := by rw [beq_iff_eq]; exact z1
          have z1'' : (f != 0) = false := by rw [bne_eq_false_iff_eq]; exact z1
          simp only [z1', z1'', w3, w4, if_true, Bool.false_eq_true, if_false, Option.bind_some, PT.ev, PT.test, dite_eq_ite, rp_len, if_pos (z0 _), rp_all, a1, a2, qmul, rmul, b1, b2]
          by_cases z3 : (o.length : Int) < 2
          · simp only [if_pos z3, if_neg (show ¬ (o.length : Int) ≥ 2 by omega), hw, N195_0.nx, N152_0.nx]; exact ih
          · simp only [if_neg z3, if_pos (show (o.length : Int) ≥ 2 by omega), if_pos hr, pushO, hw, N195_0.nx, N152_0.nx]
            exact push false o b3
      · have w1 : (f == 0) = false := by rw [beq_eq_false_iff_ne]; exact z1
        have w2 : (f != 0) = true := by rw [bne_iff_ne]; exact z1
        simp only [w1, w2, if_true, Bool.false_eq_true, if_false, Option.bind_some, PT.ev, PT.test, dite_eq_ite, rp_len, if_pos (z0 _), rp_all, a1, a2, qmul, rmul, b1, b2]
        by_cases z3 : (o.length : Int) < 2
        · simp only [if_pos z3, if_neg (show ¬ (o.length : Int) ≥ 2 by omega), hw, N195_0.nx, N152_0.nx]; exact ih
        · simp only [if_neg z3, if_pos (show (o.length : Int) ≥ 2 by omega), if_pos hr, pushO, hw, N195_0.nx, N152_0.nx]
          exact push false o b3
    · have hc : ¬ (i : Int) < (ps.length : Int) := by omega
      simp only [D195_0, D152_0, PT.ev, PT.test, dite_eq_ite, ro_len, if_neg hc, N195_0.nx, N152_0.nx]
      exact ⟨q, rfl, rfl, by omega, hB⟩
theorem trim2 {ps : List Po} (hp : ∀ p ∈ ps, p.p.length ≤ 8796093022206) (hps : ps.length ≤ 1000000) (f t : Int) : ∃ q : List Po, F195 (Ro ps) f t = some (.a0 q.length (Ro q)) ∧ F152 (Ro ps) f t = some (.a0 q.length (Ro q)) ∧ q.length ≤ ps.length ∧ ∀ B, (∀ p ∈ ps, p.p.length ≤ B) → ∀ p ∈ q, p.p.length ≤ B + 1 := by
  obtain ⟨q, e1, e2, e3, e4⟩ := trim_loop hp hps (lo f t) (hi f t) 18446744073709551616 0 [] (by omega) (by omega) (by simp) (by simp) (by simp)
  rw [show ((0 : Nat) : Int) = 0 by rfl, show Ro [] = [] from rfl, show ([] : List Po).length = 0 from rfl] at e1 e2
  simp only [F195, F152, D195, D152, PT.ev, PT.test, dite_eq_ite, span1, span2, Option.bind_some, ro_len, e1, e2]
  exact ⟨q, rfl, rfl, e3, e4⟩
end Go.Proofs.YtifalphladcdcaaGreat.H

/- Lines are dashed by the program as by the document. Conditions: those stated. -/
namespace Go.Proofs.YtifalphladcdcaaGreat.H
open Go Go.VM
set_option maxRecDepth 100000
theorem dright_len (ds : List Dn) (hl : (ds.length : Int) < 4611686018427387904) : ∃ b, F57 (Rd ds) = some (.a0 b) ∧ F62 (Rd ds) = some (.a0 b) ∧ (b = true → ds.length ≤ 8) := by
  have h := dright_loop ds hl 18446744073709551616 0 (by omega) (by omega)
  rw [show ((0 : Nat) : Int) = 0 from rfl] at h
  simp only [F57, D57, F115, D115, F180, D180, F62, D62, PT.ev, PT.test, dite_eq_ite, rd_len]
  by_cases h8 : (ds.length : Int) ≤ 8
  · rw [if_pos h8]
    rcases h with ⟨h1, h2⟩ | ⟨⟨k, h1⟩, h2, h3⟩ <;> rw [h1, h2]
    · simp only [Option.bind_some, PT.ev, PT.test, dite_eq_ite, rd_len, decide_eq_true h8]
      exact ⟨true, rfl, rfl, fun _ => by omega⟩
    · simp only [Option.bind_some, PT.ev, PT.test, dite_eq_ite, decide_eq_true (show (k : Int) ≥ 0 by omega)]
      exact ⟨false, rfl, rfl, fun h => by cases h⟩
  · rw [if_neg h8]
    rcases h with ⟨h1, h2⟩ | ⟨⟨k, h1⟩, h2, h3⟩ <;> rw [h2]
    · simp only [Option.bind_some, PT.ev, PT.test, dite_eq_ite, rd_len, decide_eq_false h8]
      exact ⟨false, rfl, rfl, fun h => by cases h⟩
    · exact ⟨false, rfl, rfl, fun h => by cases h⟩
/-! ### Paints -/
theorem rd_get' (ds : List Dn) (i : Nat) : ((Rd ds)[i]?).bind W2.dec = ds[i]? := by
  simp only [Rd, List.getElem?_map]
  cases ds[i]? <;> rfl
theorem dash_loop2 (c : Bool) {p : List Pt} (hp : p.length ≤ 8796093022206) {ls : List Dn} (h0 : 0 < ls.length) (hl : ls.length ≤ 8) (N : Int) : ∀ (n i : Nat) (at_ : Int) (q : List Po), i ≤ 128 → 128 < n + i → q.length ≤ i → (∀ x ∈ q, x.p.length ≤ p.length + 1) →
    ∃ q' : List Po, L196_0 n (.s0 (.mk (Rd ls) q.length N at_ i c (Rp p) (Ro q))) = some (.e0 (.mk q'.length (Ro q'))) ∧ L153_0 n (.s0 (.mk (Rd ls) q.length N at_ i c (Rp p) (Ro q))) = some (.e0 (.mk q'.length (Ro q'))) ∧ (∀ x ∈ q', x.p.length ≤ p.length + 1) ∧ q'.length ≤ 128
  | 0, i, at_, q, hi, hn, _, _ => by omega
  | n + 1, i, at_, q, hi, hn, hq, hg => by
    rw [L196_0_s0, L153_0_s0]
    simp only [D196_0, J196_r6, D196_r6, D153_0, J153_r7, D153_r7, PT.ev, PT.test, dite_eq_ite, rd_len]
    by_cases c1 : (i : Int) < 128
    · by_cases c2 : at_ < N
      · have hm : Int.tmod (i : Int) (ls.length : Int) = ((i % ls.length : Nat) : Int) := by rw [Int.tmod_eq_emod_of_nonneg (by omega), Int.natCast_emod]
        have hlt : i % ls.length < ls.length := Nat.mod_lt _ h0
        have g0 : ¬ (ls.length : Int) = 0 := by omega
        have g1 : (0 : Int) ≤ ((i % ls.length : Nat) : Int) := by omega
        have hw : w64 ((i : Int) + 1) = ((i + 1 : Nat) : Int) := by rw [w64_in (by omega) (by omega)]; omega
        obtain ⟨o, e1, e2, e3⟩ := part2 c (l := p) (by omega) at_ (w64 (at_ + (ls[i % ls.length]).c0))
        have ih := dash_loop2 c hp h0 hl N n (i + 1) (w64 (at_ + (ls[i % ls.length]).c0)) q (by omega) (by omega) (by omega) hg
        have ihp := dash_loop2 c hp h0 hl N n (i + 1) (w64 (at_ + (ls[i % ls.length]).c0)) (q ++ [⟨false, o⟩]) (by omega) (by omega) (by simp; omega) (fun x hx => by
          rw [List.mem_append, List.mem_singleton] at hx
          rcases hx with hx | rfl
          · exact hg x hx
          · show o.length ≤ _; omega)
        rw [List.length_append, List.length_singleton] at ihp
        have z0 : ∀ n : Nat, 0 + n ≤ n := fun n => by omega
        have hr : 0 + q.length ≤ (Ro q).length ∧ (q.length + 1) * 32 ≤ 140737488355328 ∧ q.length + 1 ≤ 140737488355328 := by rw [ro_len]; omega
        simp only [if_pos c1, decide_eq_true c2, if_true, Option.bind_some, PT.ev, PT.test, dite_eq_ite, if_neg g0, hm, if_pos g1, Int.toNat_natCast, rd_get', List.getElem?_eq_getElem hlt, rd_len]
        by_cases c3 : (Int.tmod (i : Int) 2 == 0) = true
        · simp only [if_pos c3, e1, e2, Option.bind_some, rp_len, if_pos (z0 _), rp_all, hw]
          by_cases c4 : (o.length : Int) ≥ 2
          · simp only [if_pos c4, if_pos hr, pushO, N196_0.nx, N153_0.nx]; exact ihp
          · simp only [if_neg c4, N196_0.nx, N153_0.nx]; exact ih
        · simp only [if_neg c3, hw, N196_0.nx, N153_0.nx]; exact ih
      · simp only [if_pos c1, decide_eq_false c2, Bool.false_eq_true, if_false, Option.bind_some, PT.ev, PT.test, dite_eq_ite, N196_0.nx, N153_0.nx]
        exact ⟨q, rfl, rfl, hg, by omega⟩
    · simp only [if_neg c1, Bool.false_eq_true, if_false, Option.bind_some, PT.ev, PT.test, dite_eq_ite, N196_0.nx, N153_0.nx]
      exact ⟨q, rfl, rfl, hg, by omega⟩
theorem dash2 (c : Bool) {p : List Pt} (hp : p.length ≤ 8796093022206) (ls : List Dn) (hL : (ls.length : Int) < 4611686018427387904) : ∃ q : List Po, F196 c (Rp p) (Rd ls) = some (.a0 q.length (Ro q)) ∧ F153 c (Rp p) (Rd ls) = some (.a0 q.length (Ro q)) ∧ (∀ x ∈ q, x.p.length ≤ p.length + 1) ∧ q.length ≤ 128 := by
  obtain ⟨b, r1, r2, hb⟩ := dright_len ls hL
  have c31 : F224 (Rp p) = some (.a0 (Rp p)) := clone_eq p (by omega)
  have c66 := copied_eq c p (by omega)
  have z0 : ∀ n : Nat, 0 + n ≤ n := fun n => by omega
  have whole : (∀ x ∈ ([⟨c, p⟩] : List Po), x.p.length ≤ p.length + 1) := fun x hx => by rw [List.mem_singleton.1 hx]; show p.length ≤ _; omega
  simp only [F196, F153, D196, D153, J196_r1, D196_r1, J153_r1, D153_r1, PT.ev, PT.test, dite_eq_ite, rd_len]
  by_cases h0 : ((ls.length : Int) == 0) = true
  · simp only [if_pos h0, Option.bind_some, PT.ev, PT.test, dite_eq_ite, if_true, c31, c66, rp_len, if_pos (z0 _), rp_all]
    exact ⟨[⟨c, p⟩], rfl, rfl, whole, by simp⟩
  · simp only [if_neg h0, r1, r2, Option.bind_some, PT.ev, PT.test, dite_eq_ite]
    cases b with
    | false =>
      simp only [Bool.not_false, if_true, c31, c66, Option.bind_some, rp_len, if_pos (z0 _), rp_all]
      exact ⟨[⟨c, p⟩], rfl, rfl, whole, by simp⟩
    | true =>
      rw [beq_iff_eq] at h0
      obtain ⟨N, n1, n2⟩ := length2 c (l := p) (by omega)
      obtain ⟨q, q1, q2, g1, g2⟩ := dash_loop2 c hp (ls := ls) (by omega) (hb rfl) N 18446744073709551616 0 0 [] (by omega) (by omega) (by simp) (by simp)
      rw [show ((0 : Nat) : Int) = 0 by rfl, show Ro [] = [] from rfl, show ([] : List Po).length = 0 from rfl] at q1 q2
      simp only [Bool.not_true, Bool.false_eq_true, if_false, n1, n2, Option.bind_some, q1, q2]
      exact ⟨q, rfl, rfl, g1, g2⟩
end Go.Proofs.YtifalphladcdcaaGreat.H

/- How much lies within, which way round, places as they may be: by the program and by the document. Conditions: those stated. -/
namespace Go.Proofs.YtifalphladcdcaaGreat.H
open Go Go.VM
set_option maxRecDepth 100000
def gt (l : List Pt) (i : Nat) : Pt := l.getD i (⟨0, 0⟩ : Pt)
theorem gt_ge {l : List Pt} {i : Nat} (hi : i < l.length) : l[i]? = some (gt l i) := by
  unfold gt; rw [List.getD_eq_getElem?_getD, List.getElem?_eq_getElem hi]; rfl
theorem get_gt {l : List Pt} {i : Nat} (hi : i < l.length) : ((Rp l)[i]?).bind W28.dec = some (gt l i) := by
  rw [rp_get, gt_ge hi]
theorem gt_ext {a b : List Pt} (h : a.length = b.length) (hg : ∀ m, m < a.length → gt a m = gt b m) : a = b := by
  refine List.ext_getElem? fun m => ?_
  by_cases hm : m < a.length
  · rw [gt_ge hm, gt_ge (by omega), hg m hm]
  · rw [List.getElem?_eq_none (by omega), List.getElem?_eq_none (by omega)]
theorem splace (x y : Int) : F286 x y = some (.a0 (pl x) (pl y)) := rfl
/-- A side's part of how much lies within. -/
def T (l : List Pt) (i : Nat) : Int := pl (gt l i).c0 * pl (gt l ((i + 1) % l.length)).c1 - pl (gt l ((i + 1) % l.length)).c0 * pl (gt l i).c1
def arw (l : List Pt) : Nat → Int
  | 0 => 0
  | m + 1 => w64 (arw l m + T l m)
theorem nexti {i L : Nat} (hi : i < L) (hL : L ≤ 8796093022208) : Int.tmod (w64 ((i : Int) + 1)) (L : Int) = (((i + 1) % L : Nat) : Int) := by
  rw [w64_in (by omega) (by omega), Int.tmod_eq_emod_of_nonneg (by omega), Int.natCast_emod]; rfl
theorem area_loop {l : List Pt} (hL : l.length ≤ 8796093022208) : ∀ (m n i : Nat), i + m = l.length → m < n →
    L295_0 n (.s0 (.mk (Rp l) (arw l i) l.length i)) = some (.e0 (.mk (arw l l.length))) ∧ L275_0 n (.s0 (.mk (Rp l) (arw l i) i)) = some (.e0 (.mk (arw l l.length)))
  | _, 0, _, _, h => by omega
  | 0, n + 1, i, h, _ => by
    have hi : i = l.length := by omega
    subst hi
    rw [L295_0_s0, L275_0_s0]
    simp only [D295_0, D275_0, PT.ev, PT.test, dite_eq_ite, rp_len, if_neg (Int.lt_irrefl _), N295_0.nx, N275_0.nx]
    exact ⟨trivial, trivial⟩
  | m + 1, n + 1, i, h, hn => by
    have hi : i < l.length := by omega
    have hm : (i + 1) % l.length < l.length := Nat.mod_lt _ (by omega)
    have ih := area_loop hL m n (i + 1) (by omega) (by omega)
    have c0 : (i : Int) < (l.length : Int) := by omega
    have c1 : (0 : Int) ≤ (i : Int) := by omega
    have c2 : ¬ (l.length : Int) = 0 := by omega
    have c3 : (0 : Int) ≤ (((i + 1) % l.length : Nat) : Int) := by omega
    have hs : w64 ((i : Int) + 1) = ((i + 1 : Nat) : Int) := by rw [w64_in (by omega) (by omega)]; omega
    have nx : Int.tmod ((i + 1 : Nat) : Int) (l.length : Int) = (((i + 1) % l.length : Nat) : Int) := by rw [Int.tmod_eq_emod_of_nonneg (by omega), Int.natCast_emod]
    have e1 : ∀ a b z : Int, w64 (z + w64 (w64 a - w64 b)) = w64 (z + (a - b)) := fun a b z => by simp only [w64_eq]; omega
    have e2 : ∀ a b z : Int, w64 (w64 (z + w64 a) - w64 b) = w64 (z + (a - b)) := fun a b z => by simp only [w64_eq]; omega
    rw [L295_0_s0, L275_0_s0]
    simp only [D295_0, D275_0, PT.ev, PT.test, dite_eq_ite, rp_len, if_pos c0, if_pos c1, if_neg c2, nx, if_pos c3, Int.toNat_natCast, get_gt hi, get_gt hm, Option.bind_some, splace, rplaced, e1, e2, hs, N295_0.nx, N275_0.nx]
    exact ih
theorem area_eq {l : List Pt} (hL : l.length ≤ 8796093022208) : F295 (Rp l) = some (.a0 (arw l l.length)) ∧ F275 (Rp l) = some (.a0 (arw l l.length)) := by
  obtain ⟨h1, h2⟩ := area_loop hL l.length 18446744073709551616 0 (by omega) (by omega)
  rw [show ((0 : Nat) : Int) = 0 by rfl, show arw l 0 = 0 from rfl] at h1 h2
  simp only [F295, F275, D295, D275, PT.ev, PT.test, dite_eq_ite, rp_len, h1, h2, Option.bind_some]
  exact ⟨trivial, trivial⟩
theorem rp_set (o : List Pt) (i : Nat) (x y : Int) : List.set (Rp o) i [i64 x, i64 y] = Rp (o.set i ⟨x, y⟩) := by
  simp only [Rp, List.map_set]
theorem gt_set (o : List Pt) (i m : Nat) (p : Pt) (hi : i < o.length) : gt (o.set i p) m = if m = i then p else gt o m := by
  unfold gt
  rw [List.getD_eq_getElem?_getD, List.getD_eq_getElem?_getD, List.getElem?_set]
  by_cases h : i = m
  · subst h; simp [hi]
  · rw [if_neg h, if_neg (fun e => h e.symm)]
theorem rev_loop {l : List Pt} (hL : l.length ≤ 8796093022208) : ∀ (n i : Nat) (o : List Pt), o.length = l.length → i ≤ l.length → l.length < n + i →
    (∀ m, m < l.length → gt o m = if m < i ∨ l.length ≤ m + i then gt l (l.length - 1 - m) else gt l m) → 2 * i ≤ l.length + 1 →
    ∃ o' : List Pt, L296_0 n (.s0 (.mk l.length i ((l.length : Int) - 1 - i) (Rp o))) = some (.e0 (.mk (Rp o'))) ∧ o'.length = l.length ∧ ∀ m, m < l.length → gt o' m = gt l (l.length - 1 - m)
  | 0, i, o, h1, h2, h3, _, _ => by omega
  | n + 1, i, o, h1, h2, h3, hg, h4 => by
    rw [L296_0_s0]
    by_cases hc : (i : Int) < (l.length : Int) - 1 - i
    · have hj : (l.length : Int) - 1 - i = ((l.length - 1 - i : Nat) : Int) := by omega
      have hi : i < o.length := by omega
      have hjl : l.length - 1 - i < o.length := by omega
      have s1 : ((Rp (o.set i (gt o (l.length - 1 - i))))[l.length - 1 - i]?).bind W28.dec = some (gt o (l.length - 1 - i)) := by
        rw [get_gt (by rw [List.length_set]; omega), gt_set _ _ _ _ hi, if_neg (by omega)]
      have w1 : w64 ((i : Int) + 1) = ((i + 1 : Nat) : Int) := by rw [w64_in (by omega) (by omega)]; omega
      have w2 : w64 (((l.length - 1 - i : Nat) : Int) - 1) = (l.length : Int) - 1 - ((i + 1 : Nat) : Int) := by rw [w64_in (by omega) (by omega)]; omega
      rw [hj] at hc ⊢
      simp only [D296_0, PT.ev, PT.test, dite_eq_ite, if_pos hc, if_pos (show (0 : Int) ≤ ((l.length - 1 - i : Nat) : Int) ∧ ((l.length - 1 - i : Nat) : Int) < (l.length : Int) by omega), if_pos (show (0 : Int) ≤ (i : Int) ∧ (i : Int) < (l.length : Int) by omega), Int.toNat_natCast, Nat.zero_add, get_gt hjl, get_gt hi, Option.bind_some, rp_set, s1, N296_0.nx, w1, w2]
      refine rev_loop hL n (i + 1) _ (by simp; omega) (by omega) (by omega) (fun m hm => ?_) (by omega)
      rw [gt_set _ _ _ _ (by rw [List.length_set]; omega), gt_set _ _ _ _ hi]
      have gi := hg i (by omega)
      have gj := hg (l.length - 1 - i) (by omega)
      rw [if_neg (by omega)] at gi gj
      by_cases m1 : m = l.length - 1 - i
      · rw [if_pos m1, if_pos (by omega), m1, show l.length - 1 - (l.length - 1 - i) = i by omega]; exact gi
      · rw [if_neg m1]
        by_cases m2 : m = i
        · rw [if_pos m2, if_pos (by omega), m2]; exact gj
        · rw [if_neg m2, hg m hm]
          by_cases m3 : m < i ∨ l.length ≤ m + i
          · rw [if_pos m3, if_pos (by omega)]
          · rw [if_neg m3, if_neg (by omega)]
    · simp only [D296_0, PT.ev, PT.test, dite_eq_ite, if_neg hc, N296_0.nx]
      refine ⟨o, rfl, h1, fun m hm => ?_⟩
      rw [hg m hm]
      by_cases m3 : m < i ∨ l.length ≤ m + i
      · rw [if_pos m3]
      · rw [if_neg m3]
        have : l.length - 1 - m = m := by omega
        rw [this]
theorem gt_rev {l : List Pt} {m : Nat} (hm : m < l.length) : gt l.reverse m = gt l (l.length - 1 - m) := by
  unfold gt
  rw [List.getD_eq_getElem?_getD, List.getD_eq_getElem?_getD, List.getElem?_reverse hm]
theorem rev_eq {l : List Pt} (hL : l.length ≤ 8796093022208) : F296 l.length (Rp l) = some (.a0 (Rp l.reverse)) := by
  obtain ⟨o, h1, h2, h3⟩ := rev_loop hL 18446744073709551616 0 l rfl (by omega) (by omega) (fun m hm => by rw [if_neg (by omega)]) (by omega)
  have e : o = l.reverse := gt_ext (by simp [h2]) fun m hm => by rw [h3 m (by omega), gt_rev (by omega)]
  subst e
  have hw : w64 ((l.length : Int) - 1) = (l.length : Int) - 1 - ((0 : Nat) : Int) := by rw [w64_in (by omega) (by omega)]; omega
  rw [← hw, show ((0 : Nat) : Int) = 0 from rfl] at h1
  simp only [F296, D296, PT.ev, PT.test, dite_eq_ite, h1, Option.bind_some]
/-- The right way round. -/
def turn (l : List Pt) : List Pt := if arw l l.length < 0 then l.reverse else l
theorem turn_len (l : List Pt) : (turn l).length = l.length := by unfold turn; split <;> simp
theorem turned1 {l : List Pt} (hL : l.length ≤ 8796093022206) : F287 (Rp l) = some (.a0 l.length (Rp (turn l))) := by
  have c31 : F224 (Rp l) = some (.a0 (Rp l)) := clone_eq l (by omega)
  simp only [F287, D287, PT.ev, PT.test, dite_eq_ite, c31, Option.bind_some, (area_eq (l := l) (by omega)).1, rp_len, turn]
  by_cases h : arw l l.length < 0
  · simp only [if_pos h, rev_eq (l := l) (by omega), Option.bind_some]
  · simp only [if_neg h]
theorem turn_loop {l : List Pt} (hL : l.length ≤ 8796093022208) (b : Bool) : ∀ (m n i : Nat), i + m = l.length → m < n →
    L251_0 n (.s0 (.mk (Rp l) i b i (Rp ((if b = true then l.reverse else l).take i)))) = some (.e0 (.mk l.length (Rp (if b = true then l.reverse else l))))
  | _, 0, _, _, h => by omega
  | 0, n + 1, i, h, _ => by
    have hi : i = l.length := by omega
    subst hi
    rw [L251_0_s0]
    simp only [D251_0, PT.ev, PT.test, dite_eq_ite, rp_len, if_neg (Int.lt_irrefl _), N251_0.nx]
    rw [List.take_of_length_le (by split <;> simp)]
  | m + 1, n + 1, i, h, hn => by
    have hi : i < l.length := by omega
    have ih := turn_loop hL b m n (i + 1) (by omega) (by omega)
    have hs : w64 ((i : Int) + 1) = ((i + 1 : Nat) : Int) := by rw [w64_in (by omega) (by omega)]; omega
    have tl : ((if b = true then l.reverse else l).take i).length = i := by rw [List.length_take]; split <;> (try rw [List.length_reverse]) <;> omega
    have snoc : ∀ p : Pt, gt (if b = true then l.reverse else l) i = p → List.take i (Rp ((if b = true then l.reverse else l).take i)) ++ [[i64 p.c0, i64 p.c1]] = Rp ((if b = true then l.reverse else l).take (i + 1)) := fun p hp => by
      have h1 := push1 ((if b = true then l.reverse else l).take i) p
      rw [tl] at h1
      have hl2 : i < (if b = true then l.reverse else l).length := by split <;> (try rw [List.length_reverse]) <;> omega
      rw [show [[i64 p.c0, i64 p.c1]] = [p.cells] from rfl, h1, List.take_add_one, gt_ge hl2, hp]; rfl
    have gd : 0 + i ≤ List.length (Rp ((if b = true then l.reverse else l).take i)) ∧ (i + 1) * 16 ≤ 140737488355328 ∧ i + 1 ≤ 140737488355328 := by rw [rp_len, tl]; omega
    rw [L251_0_s0]
    cases b with
    | true =>
      have hk : w64 (w64 ((l.length : Int) - 1) - i) = ((l.length - 1 - i : Nat) : Int) := by rw [w64_in (n := (l.length : Int) - 1) (by omega) (by omega), w64_in (by omega) (by omega)]; omega
      simp only [D251_0, PT.ev, PT.test, dite_eq_ite, rp_len, if_pos (show (i : Int) < (l.length : Int) by omega), if_true, hk, if_pos (show (0 : Int) ≤ ((l.length - 1 - i : Nat) : Int) by omega), Int.toNat_natCast, get_gt (show l.length - 1 - i < l.length by omega), Option.bind_some]
      have sn := snoc (gt l (l.length - 1 - i)) (by rw [if_pos rfl]; exact gt_rev hi)
      simp only [if_true, rp_len] at sn gd ih ⊢
      rw [if_pos gd, sn, hs, N251_0.nx]
      exact ih
    | false =>
      simp only [D251_0, PT.ev, PT.test, dite_eq_ite, rp_len, if_pos (show (i : Int) < (l.length : Int) by omega), Bool.false_eq_true, if_false, if_pos (show (0 : Int) ≤ (i : Int) by omega), Int.toNat_natCast, get_gt hi, Option.bind_some]
      have sn := snoc (gt l i) (by rw [if_neg (by decide)])
      simp only [Bool.false_eq_true, if_false, rp_len] at sn gd ih ⊢
      rw [if_pos gd, sn, hs, N251_0.nx]
      exact ih
theorem turned2 {l : List Pt} (hL : l.length ≤ 8796093022208) : F251 (Rp l) = some (.a0 l.length (Rp (turn l))) := by
  have h := turn_loop hL (decide (arw l l.length < 0)) l.length 18446744073709551616 0 (by omega) (by omega)
  rw [List.take_zero, show Rp [] = [] from rfl, show ((0 : Nat) : Int) = 0 from rfl] at h
  simp only [F251, D251, PT.ev, PT.test, dite_eq_ite, (area_eq hL).2, Option.bind_some, h, decide_eq_true_eq]
  rfl
def plc (p : Pt) : Pt := ⟨pl p.c0, pl p.c1⟩
def pls (l : List Pt) : List Pt := l.map plc
theorem pls_len (l : List Pt) : (pls l).length = l.length := by simp [pls]
theorem gt_pls {l : List Pt} {i : Nat} (hi : i < l.length) : gt (pls l) i = plc (gt l i) := by
  unfold gt pls
  rw [List.getD_eq_getElem?_getD, List.getD_eq_getElem?_getD, List.getElem?_map, List.getElem?_eq_getElem hi]; rfl
theorem place_loop {l : List Pt} (hL : l.length ≤ 8796093022208) : ∀ (m n i : Nat) (o : List Pt), i + m = l.length → m < n → o.length = l.length → (∀ q, q < l.length → gt o q = if q < i then plc (gt l q) else gt l q) →
    L272_0 n (.s0 (.mk l.length l.length i (Rp o))) = some (.e0 (.mk l.length (Rp (pls l))))
  | _, 0, _, _, _, h, _, _ => by omega
  | 0, n + 1, i, o, h, _, ho, hg => by
    have e : o = pls l := gt_ext (by rw [ho, pls_len]) fun q hq => by rw [hg q (by omega), if_pos (by omega), gt_pls (by omega)]
    rw [L272_0_s0]
    simp only [D272_0, PT.ev, PT.test, dite_eq_ite, if_neg (show ¬ (i : Int) < (l.length : Int) by omega), N272_0.nx, e]
  | m + 1, n + 1, i, o, h, hn, ho, hg => by
    have hs : w64 ((i : Int) + 1) = ((i + 1 : Nat) : Int) := by rw [w64_in (by omega) (by omega)]; omega
    have gi := hg i (by omega)
    rw [if_neg (by omega)] at gi
    rw [L272_0_s0]
    simp only [D272_0, PT.ev, PT.test, dite_eq_ite, if_pos (show (i : Int) < (l.length : Int) by omega), if_pos (show (0 : Int) ≤ (i : Int) ∧ (i : Int) < (l.length : Int) by omega), Int.toNat_natCast, Nat.zero_add, get_gt (show i < o.length by omega), Option.bind_some, splace, rp_set, hs, N272_0.nx]
    refine place_loop hL m n (i + 1) _ (by omega) (by omega) (by simp; omega) fun q hq => ?_
    rw [gt_set _ _ _ _ (by omega)]
    by_cases h1 : q = i
    · rw [if_pos h1, if_pos (by omega), h1, ← gi]; rfl
    · rw [if_neg h1, hg q hq]
      by_cases h2 : q < i
      · rw [if_pos h2, if_pos (by omega)]
      · rw [if_neg h2, if_neg (by omega)]
theorem poly1 {l : List Pt} (hL : l.length ≤ 8796093022206) : F272 l.length (Rp l) = some (.a0 true l.length (Rp (pls l)) (Rp (turn (pls l)))) := by
  have h := place_loop (l := l) (by omega) l.length 18446744073709551616 0 l (by omega) (by omega) rfl (fun q hq => by rw [if_neg (by omega)])
  rw [show ((0 : Nat) : Int) = 0 by rfl] at h
  have hp := pls_len l
  have t := turned1 (l := pls l) (by omega)
  rw [hp] at t
  have tk : List.take l.length (Rp (pls l)) = Rp (pls l) := by rw [← hp]; exact rp_all (pls l)
  simp only [F272, D272, PT.ev, PT.test, dite_eq_ite, h, Option.bind_some, rp_len, hp, if_pos (show 0 + l.length ≤ l.length by omega), tk, t]
theorem shape_loop {l : List Pt} (hL : l.length ≤ 8796093022207) : ∀ (m n i : Nat), i + m = l.length → m < n → L210_0 n (.s0 (.mk (Rp l) i i (Rp ((pls l).take i)))) = some (.e0 (.mk l.length (Rp (pls l))))
  | _, 0, _, _, h => by omega
  | 0, n + 1, i, h, _ => by
    have hi : i = l.length := by omega
    subst hi
    rw [L210_0_s0]
    simp only [D210_0, PT.ev, PT.test, dite_eq_ite, rp_len, if_neg (Int.lt_irrefl _), N210_0.nx]
    rw [List.take_of_length_le (by rw [pls_len]; omega)]
  | m + 1, n + 1, i, h, hn => by
    have hi : i < l.length := by omega
    have hp := pls_len l
    have ih := shape_loop hL m n (i + 1) (by omega) (by omega)
    have hs : w64 ((i : Int) + 1) = ((i + 1 : Nat) : Int) := by rw [w64_in (by omega) (by omega)]; omega
    have tl : ((pls l).take i).length = i := by rw [List.length_take]; omega
    have snoc : List.take i (Rp ((pls l).take i)) ++ [[i64 (pl (gt l i).c0), i64 (pl (gt l i).c1)]] = Rp ((pls l).take (i + 1)) := by
      have h1 := push1 ((pls l).take i) (plc (gt l i))
      rw [tl] at h1
      rw [show [[i64 (pl (gt l i).c0), i64 (pl (gt l i).c1)]] = [(plc (gt l i)).cells] from rfl, h1, List.take_add_one, gt_ge (by omega), gt_pls hi]; rfl
    rw [L210_0_s0]
    simp only [D210_0, PT.ev, PT.test, dite_eq_ite, rp_len, if_pos (show (i : Int) < (l.length : Int) by omega), if_pos (show (0 : Int) ≤ (i : Int) by omega), Int.toNat_natCast, get_gt hi, Option.bind_some, rplaced, tl, if_pos (show 0 + i ≤ i ∧ (i + 1) * 16 ≤ 140737488355328 ∧ i + 1 ≤ 140737488355328 by omega), snoc, hs, N210_0.nx]
    exact ih
theorem poly2 {l : List Pt} (hL : l.length ≤ 8796093022207) : F210 (Rp l) = some (.a0 true l.length (Rp (turn (pls l)))) := by
  have h := shape_loop hL l.length 18446744073709551616 0 (by omega) (by omega)
  rw [List.take_zero, show Rp [] = [] from rfl, show ((0 : Nat) : Int) = 0 from rfl] at h
  have hp := pls_len l
  have t := turned2 (l := pls l) (by omega)
  rw [hp] at t
  have tk : List.take l.length (Rp (pls l)) = Rp (pls l) := by rw [← hp]; exact rp_all (pls l)
  simp only [F210, D210, PT.ev, PT.test, dite_eq_ite, h, Option.bind_some, rp_len, hp, if_pos (show 0 + l.length ≤ l.length by omega), tk, t]
/-! ### Sides that have a length -/
abbrev Sd := W223
abbrev Ln := W206
abbrev R6 (ks : List Sd) : List (List V) := ks.map W223.cells
abbrev R8 (ks : List Ln) : List (List V) := ks.map W206.cells
theorem r6_len (ks : List Sd) : (R6 ks).length = ks.length := List.length_map ..
theorem r8_len (ks : List Ln) : (R8 ks).length = ks.length := List.length_map ..
theorem r6_get (ks : List Sd) (i : Nat) : ((R6 ks)[i]?).bind W223.dec = ks[i]? := by
  simp only [R6, List.getElem?_map]
  cases ks[i]? <;> rfl
theorem r8_get (ks : List Ln) (i : Nat) : ((R8 ks)[i]?).bind W206.dec = ks[i]? := by
  simp only [R8, List.getElem?_map]
  cases ks[i]? <;> rfl
/-- A side, as the document has it. -/
def phi (h : Int) (s : Sd) : Ln := ⟨s.c0, s.c1, s.c2, s.c3, mul s.c4 h, mul s.c5 h, mul (w64 (0 - s.c5)) h, mul s.c4 h⟩
theorem sides_loop (c : Bool) {l : List Pt} (hL : l.length ≤ 1000000000) (h : Int) : ∀ (n i : Nat) (q : List Sd), i ≤ ns c l → ns c l < n + i → q.length ≤ i →
    ∃ q' : List Sd, L238_0 n (.s0 (.mk q.length (ns c l) i c (Rp l) (R6 q))) = some (.e0 (.mk q'.length (R6 q'))) ∧ L208_0 n (.s0 (.mk h q.length i c (Rp l) (R8 (q.map (phi h))))) = some (.e0 (.mk q'.length (R8 (q'.map (phi h))))) ∧ q'.length ≤ ns c l
  | 0, i, q, hi, hn, _ => by omega
  | n + 1, i, q, hi, hn, hq => by
    have hl := ns_le c l
    rw [L238_0_s0, L208_0_s0]
    by_cases hc : i < ns c l
    · have g : (i : Int) < (ns c l : Int) := by omega
      obtain ⟨p, r, x, y, d, e1, e2, e3, _, b1, b2⟩ := side2 c (l := l) (by omega) (i := i) (by omega)
      have hw : w64 ((i : Int) + 1) = ((i + 1 : Nat) : Int) := wsucc (by omega)
      have ih := sides_loop c hL h n (i + 1) q (by omega) (by omega) (by omega)
      simp only [D238_0, D208_0, PT.ev, PT.test, dite_eq_ite, bnd_def, sidesB c l (by omega), if_pos g, e1, e2, e3, Option.bind_some, hw]
      by_cases h0 : d > 0
      · have ihp := sides_loop c hL h n (i + 1) (q ++ [⟨p, r, x, y, divv (w64 (x - p)) d, divv (w64 (y - r)) d⟩]) (by omega) (by omega) (by simp; omega)
        rw [List.length_append, List.length_singleton] at ihp
        have p6 : List.take q.length (R6 q) ++ [[i64 p, i64 r, i64 x, i64 y, i64 (divv (w64 (x - p)) d), i64 (divv (w64 (y - r)) d)]] = R6 (q ++ [⟨p, r, x, y, divv (w64 (x - p)) d, divv (w64 (y - r)) d⟩]) := by
          rw [List.take_of_length_le (by rw [r6_len]; exact Nat.le_refl _), R6, R6, List.map_append]; rfl
        have p8 : List.take q.length (R8 (q.map (phi h))) ++ [[i64 p, i64 r, i64 x, i64 y, i64 (mul (divv (w64 (x - p)) d) h), i64 (mul (divv (w64 (y - r)) d) h), i64 (mul (w64 (0 - divv (w64 (y - r)) d)) h), i64 (mul (divv (w64 (x - p)) d) h)]] = R8 ((q ++ [(⟨p, r, x, y, divv (w64 (x - p)) d, divv (w64 (y - r)) d⟩ : Sd)]).map (phi h)) := by
          rw [List.take_of_length_le (by rw [r8_len, List.length_map]; exact Nat.le_refl _), R8, R8, List.map_append, List.map_append]; rfl
        simp only [if_pos h0, qdiv, rdiv, rmul, Option.bind_some, r6_len, r8_len, List.length_map, if_pos (show 0 + q.length ≤ q.length ∧ (q.length + 1) * 48 ≤ 140737488355328 ∧ q.length + 1 ≤ 140737488355328 by omega), if_pos (show 0 + q.length ≤ q.length ∧ (q.length + 1) * 64 ≤ 140737488355328 ∧ q.length + 1 ≤ 140737488355328 by omega), p6, p8, N238_0.nx, N208_0.nx]
        exact ihp
      · simp only [if_neg h0, N238_0.nx, N208_0.nx]; exact ih
    · have g : ¬ (i : Int) < (ns c l : Int) := by omega
      simp only [D238_0, D208_0, PT.ev, PT.test, dite_eq_ite, bnd_def, sidesB c l (show l.length ≤ 8796093022207 by omega), if_neg g, N238_0.nx, N208_0.nx]
      exact ⟨q, rfl, rfl, by omega⟩
theorem sides2 (c : Bool) {l : List Pt} (hL : l.length ≤ 1000000000) (h : Int) : ∃ q : List Sd, F238 c (Rp l) = some (.a0 q.length (R6 q)) ∧ F208 c (Rp l) h = some (.a0 q.length (R8 (q.map (phi h)))) ∧ q.length ≤ ns c l := by
  obtain ⟨q, e1, e2, e3⟩ := sides_loop c hL h 18446744073709551616 0 [] (by omega) (by have := ns_le c l; omega) (by simp)
  rw [show ((0 : Nat) : Int) = 0 by rfl, List.map_nil, show R8 [] = [] from rfl, show ([] : List Sd).length = 0 from rfl] at e2
  rw [show ((0 : Nat) : Int) = 0 by rfl, show R6 [] = [] from rfl, show ([] : List Sd).length = 0 from rfl] at e1
  simp only [F238, F208, D238, D208, PT.ev, PT.test, dite_eq_ite, bnd_def, sidesA c l (show l.length ≤ 8796093022207 by omega), e1, e2, Option.bind_some]
  exact ⟨q, rfl, rfl, e3⟩
end Go.Proofs.YtifalphladcdcaaGreat.H
