import Derived.Test.YtifalphladcdcaaGreatDocB
set_option linter.unusedVariables false
set_option linter.unusedSimpArgs false
/- A layer's own map, and its chain. Conditions: those stated. -/
namespace Go.Proofs.YtifalphladcdcaaGreat.H
open Go Go.VM
set_option maxRecDepth 100000
abbrev Rm (ms : List Mt) : List (List V) := ms.map W59.cells
theorem rm_len (ms : List Mt) : (Rm ms).length = ms.length := List.length_map ..
theorem rm_get (ms : List Mt) (i : Nat) : ((Rm ms)[i]?).bind W59.dec = ms[i]? := by
  simp only [Rm, List.getElem?_map]
  cases ms[i]? <;> rfl
theorem pushM (ms : List Mt) (x : Mt) : List.take ms.length (Rm ms) ++ [[i64 x.c0, i64 x.c1, i64 x.c2, i64 x.c3, i64 x.c4, i64 x.c5]] = Rm (ms ++ [x]) := by
  rw [List.take_of_length_le (by rw [rm_len]; exact Nat.le_refl _), Rm, Rm, List.map_append]; rfl
/-- A layer whose lists are no longer than memory. -/
structure Sm (l : Ly) : Prop where
  x : (l.x.length : Int) < 4611686018427387904
  y : (l.y.length : Int) < 4611686018427387904
  ax : (l.ax.length : Int) < 4611686018427387904
  ay : (l.ay.length : Int) < 4611686018427387904
  sx : (l.sx.length : Int) < 4611686018427387904
  sy : (l.sy.length : Int) < 4611686018427387904
  tu : (l.tu.length : Int) < 4611686018427387904
  op : (l.op.length : Int) < 4611686018427387904
  re : (l.re.length : Int) < 4611686018427387904
theorem Gi.len {ks : List Ky} (g : Gi ks) : ks.length ≤ 2 := by
  rcases g with rfl | ⟨a, b, rfl, _⟩ <;> simp
theorem Gy.sm {k c m : Int} {ah : Bool} {l : Ly} (g : Gy k c m ah l) : Sm l := by
  have h1 := g.x.len
  have h2 := g.y.len
  have h3 := g.ax.len
  have h4 := g.ay.len
  have h5 := g.sx.len
  have h6 := g.sy.len
  have h7 := g.tu.len
  have h8 := g.op.len
  have h9 : l.re.length ≤ 2 := by
    rcases g.what.kind with h | h
    · rw [(g.what.draw h).2.1]; decide
    · exact (g.what.nest h).2.2.len
  exact ⟨by omega, by omega, by omega, by omega, by omega, by omega, by omega, by omega, by omega⟩
def tickv (l : Ly) (t : Int) : Int := add t (w64 (0 - hd l.st))
theorem qtick (l : Ly) (t : Int) : F70 (Wl l) t = tickv l t := by
  simp only [F70, D70, PT.evT, PT.test, dite_eq_ite, bnd_def, qhold, qadd, tickv]
def madev (x y ax ay sx sy tu : Int) : Mt :=
  ⟨mul (cs tu) sx, mul (sn tu) sx, mul (w64 (0 - sn tu)) sy, mul (cs tu) sy,
   add x (w64 (0 - two (mul (cs tu) sx) ax (mul (w64 (0 - sn tu)) sy) ay)), add y (w64 (0 - two (mul (sn tu) sx) ax (mul (cs tu) sy) ay))⟩
theorem qmade (x y ax ay sx sy tu : Int) : F73 x y ax ay sx sy tu = some (.a0 (madev x y ax ay sx sy tu)) := by
  simp only [F73, D73, PT.ev, PT.test, dite_eq_ite, bnd_def, qcos, qsin', qmul, qtwo, qadd, Option.bind_some, madev]
def ownv (l : Ly) (t : Int) : Mt :=
  madev (atN l.x (tickv l t) 0) (atN l.y (tickv l t) 0) (atN l.ax (tickv l t) 0) (atN l.ay (tickv l t) 0) (atN l.sx (tickv l t) 65536) (atN l.sy (tickv l t) 65536) (atN l.tu (tickv l t) 0)
theorem qown1 (ks : List Ky) (hl : (ks.length : Int) < 4611686018427387904) (d t : Int) : F71 (Rn ks) d t = some (.a0 (atN ks t d) t) := by
  simp only [F71, D71, PT.ev, PT.test, dite_eq_ite, qat ks hl, Option.bind_some]
theorem qown (l : Ly) (s : Sm l) (t : Int) : F21 (Wl l) t = some (.a0 (ownv l t)) := by
  simp only [F21, D21, PT.ev, PT.test, dite_eq_ite, bnd_def, qtick, qown1 _ s.x, qown1 _ s.y, qown1 _ s.ax, qown1 _ s.ay, qown1 _ s.sx, qown1 _ s.sy, qown1 _ s.tu, qmade, Option.bind_some, ownv]
def opacv (l : Ly) (t : Int) : Int := w64 (Int.tdiv (w64 (cl (atN l.op (tickv l t) 65536) 0 65536 * 255)) 65536)
theorem qopac (l : Ly) (s : Sm l) (t : Int) : F22 (Wl l) t = some (.a0 (opacv l t)) := by
  simp only [F22, D22, PT.ev, PT.test, dite_eq_ite, bnd_def, qtick, qat _ s.op, qclamp, Option.bind_some, opacv]
def innerv (l : Ly) (t : Int) : Int := atN l.re (tickv l t) (tickv l t)
theorem qinner (l : Ly) (s : Sm l) (t : Int) : F24 (Wl l) t = some (.a0 (innerv l t)) := by
  simp only [F24, D24, PT.ev, PT.test, dite_eq_ite, bnd_def, qtick, qat _ s.re, Option.bind_some, innerv]
def seenv (l : Ly) (t : Int) : Bool := decide (l.inn ≤ t) && decide (t < l.out)
theorem qseen (l : Ly) (t : Int) : F23 (Wl l) t = seenv l t := by
  simp only [F23, D23, PT.evT, PT.test, dite_eq_ite, seenv]
  by_cases h : l.inn ≤ t <;> simp [h]
/-! ### Chains -/
def there (ls : List Ly) (k : Int) : Bool := decide (k ≥ 0) && decide (k < (ls.length : Int))
theorem qthere (ls : List Ly) (k : Int) : F77 k (Rl ls) = some (.a0 (there ls k) (Rl ls)) := by
  simp only [F77, D77, PT.ev, PT.test, dite_eq_ite, rl_len, there]
  by_cases h : k ≥ 0 <;> simp [h]
/-- A layer and its parents, so many at most. -/
def anc (ls : List Ly) : Nat → Int → List Ly
  | 0, _ => []
  | n + 1, k => if there ls k = true then (match ls[k.toNat]? with
    | some l => l :: anc ls n l.par
    | none => []) else []
/-- Maps one after another, the last one first. -/
def fm : List Mt → Mt
  | [] => ⟨65536, 0, 0, 65536, 0, 0⟩
  | [x] => x
  | x :: y :: r => aftv (fm (y :: r)) x
def chainv (ls : List Ly) (k t : Int) : Mt := fm ((anc ls 17 k).map fun l => ownv l t)
theorem there_lt {ls : List Ly} {k : Int} (h : there ls k = true) : 0 ≤ k ∧ k.toNat < ls.length := by
  simp only [there, Bool.and_eq_true, decide_eq_true_eq] at h
  omega
theorem chain_loop (ls : List Ly) (hs : ∀ l ∈ ls, Sm l) (t : Int) : ∀ (n : Nat) (acc : List Mt) (p : Int), acc.length ≤ 17 → 17 < n + acc.length →
    L27_0 n (.s0 (.mk t acc.length p (Rl ls) (Rm acc))) = some (.e0 (.mk (acc ++ (anc ls (17 - acc.length) p).map fun l => ownv l t).length (Rm (acc ++ (anc ls (17 - acc.length) p).map fun l => ownv l t))))
  | 0, acc, p, h1, h2 => by omega
  | n + 1, acc, p, h1, h2 => by
    rw [L27_0_s0]
    simp only [D27_0, J27_r6, D27_r6, PT.ev, PT.test, dite_eq_ite, qthere, Option.bind_some]
    by_cases hp : there ls p = true
    · by_cases hk : (acc.length : Int) ≤ 16
      · obtain ⟨p0, p1⟩ := there_lt hp
        have hg : ls[p.toNat]? = some ls[p.toNat] := List.getElem?_eq_getElem p1
        have hq : 0 + acc.length ≤ (Rm acc).length ∧ (acc.length + 1) * 48 ≤ 140737488355328 ∧ acc.length + 1 ≤ 140737488355328 := by rw [rm_len]; omega
        have hlen : (acc ++ [ownv ls[p.toNat] t]).length = acc.length + 1 := by rw [List.length_append, List.length_singleton]
        simp only [if_pos hp, decide_eq_true hk, Option.bind_some, PT.ev, PT.test, dite_eq_ite, if_true, if_pos p0, rl_get, hg, Option.map_some, qown _ (hs _ (List.getElem_mem p1)), if_pos hq, N27_0.nx_s0, pushM]
        have ih := chain_loop ls hs t n (acc ++ [ownv ls[p.toNat] t]) ls[p.toNat].par (by rw [hlen]; omega) (by rw [hlen]; omega)
        rw [hlen] at ih
        rw [ih]
        have e : 17 - acc.length = (17 - (acc.length + 1)) + 1 := by omega
        rw [e, anc, if_pos hp, hg]
        simp only [List.map_cons, List.append_assoc, List.singleton_append]
      · simp only [if_pos hp, decide_eq_false hk, Option.bind_some, PT.ev, PT.test, dite_eq_ite, Bool.false_eq_true, if_false, N27_0.nx_e0]
        rw [show 17 - acc.length = 0 by omega, anc, List.map_nil, List.append_nil]
    · simp only [if_neg hp, Option.bind_some, PT.ev, PT.test, dite_eq_ite, Bool.false_eq_true, if_false, N27_0.nx_e0]
      have e : anc ls (17 - acc.length) p = [] := by
        cases 17 - acc.length with
        | zero => rfl
        | succ k => rw [anc, if_neg hp]
      rw [e, List.map_nil, List.append_nil]
theorem fold_loop (R : List Mt) (hR : R.length ≤ 18) : ∀ (n i : Nat), i < R.length → i < n →
    L27_2 n (.s0 (.mk R.length ((i : Int) - 1) (Rm R) (fm (R.drop i)))) = some (.e0 (.mk (fm R)))
  | 0, i, _, h => by omega
  | n + 1, i, hi, hn => by
    rw [L27_2_s0]
    cases i with
    | zero =>
      simp only [D27_2, PT.ev, PT.test, dite_eq_ite, if_neg (show ¬ (((0 : Nat) : Int) - 1 ≥ 0) by omega), N27_2.nx_e0, List.drop_zero]
    | succ i =>
      have e : ((i + 1 : Nat) : Int) - 1 = (i : Int) := by omega
      have hw : w64 ((i : Int) - 1) = (i : Int) - 1 := w64_in (by omega) (by omega)
      have hg : R[i]? = some R[i] := List.getElem?_eq_getElem (by omega)
      have hf : fm (R.drop i) = aftv (fm (R.drop (i + 1))) R[i] := by
        have h1 : R.drop i = R[i] :: R.drop (i + 1) := List.drop_eq_getElem_cons (by omega)
        have h2 : R.drop (i + 1) = R[i + 1] :: R.drop (i + 1 + 1) := List.drop_eq_getElem_cons (by omega)
        rw [h1, h2, fm]
      have ih := fold_loop R hR n i (by omega) (by omega)
      rw [hf] at ih
      simp only [D27_2, PT.ev, PT.test, dite_eq_ite, e, if_pos (show (i : Int) ≥ 0 by omega), if_pos (show 0 ≤ (i : Int) ∧ (i : Int) < (R.length : Int) by omega), Int.toNat_natCast, Nat.zero_add, rm_get, hg, Option.bind_some, qafter, N27_2.nx_s0, hw]
      exact ih
theorem anc_len (ls : List Ly) : ∀ (n : Nat) (k : Int), (anc ls n k).length ≤ n
  | 0, _ => Nat.le_refl _
  | n + 1, k => by
    rw [anc]
    split
    · split
      · rename_i l _
        have := anc_len ls n l.par
        simp only [List.length_cons]; omega
      · simp
    · simp
theorem qchain (ls : List Ly) (hs : ∀ l ∈ ls, Sm l) (k t : Int) : F27 (Rl ls) k t = some (.a0 (chainv ls k t)) := by
  simp only [F27, D27, PT.ev, PT.test, dite_eq_ite, bnd_def, qthere, Option.bind_some, Bool.not_eq_true']
  by_cases hp : there ls k = true
  · obtain ⟨p0, p1⟩ := there_lt hp
    have hg : ls[k.toNat]? = some ls[k.toNat] := List.getElem?_eq_getElem p1
    simp only [hp, Bool.true_eq_false, if_false, if_pos p0, rl_get, hg, Option.map_some, Option.bind_some, qown _ (hs _ (List.getElem_mem p1))]
    have h0 := chain_loop ls hs t 18446744073709551616 [ownv ls[k.toNat] t] ls[k.toNat].par (by rw [List.length_singleton]; decide) (by rw [List.length_singleton]; decide)
    have e1 : (anc ls 17 k).map (fun l => ownv l t) = [ownv ls[k.toNat] t] ++ (anc ls (17 - [ownv ls[k.toNat] t].length) ls[k.toNat].par).map fun l => ownv l t := by
      rw [anc, if_pos hp, hg]; rfl
    rw [← e1] at h0
    have hn : 1 ≤ ((anc ls 17 k).map (fun l => ownv l t)).length ∧ ((anc ls 17 k).map (fun l => ownv l t)).length ≤ 17 := by
      refine ⟨by rw [e1, List.length_append, List.length_singleton]; omega, ?_⟩
      rw [List.length_map]; exact anc_len ls 17 k
    have hc : fm ((anc ls 17 k).map fun l => ownv l t) = chainv ls k t := rfl
    generalize (anc ls 17 k).map (fun l => ownv l t) = R at *
    rw [show ([ownv ls[k.toNat] t] : List Mt).length = 1 from rfl, show Rm [ownv ls[k.toNat] t] = [(ownv ls[k.toNat] t).cells] from rfl, show ((1 : Nat)) = 1 from rfl] at h0
    have hw1 : w64 ((R.length : Int) - 1) = (R.length : Int) - 1 := w64_in (by omega) (by omega)
    have hw2 : w64 ((R.length : Int) - 2) = ((R.length - 1 : Nat) : Int) - 1 := by rw [w64_in (by omega) (by omega)]; omega
    have ht : Int.toNat ((R.length : Int) - 1) = R.length - 1 := by omega
    have hg2 : R[R.length - 1]? = some R[R.length - 1] := List.getElem?_eq_getElem (by omega)
    have hf := fold_loop R (by omega) 18446744073709551616 (R.length - 1) (by omega) (by omega)
    have hd1 : fm (R.drop (R.length - 1)) = R[R.length - 1] := by
      rw [List.drop_eq_getElem_cons (show R.length - 1 < R.length by omega), List.drop_eq_nil_of_le (by omega)]; rfl
    rw [hd1] at hf
    simp only [h0, Option.bind_some, PT.ev, PT.test, dite_eq_ite, hw1, hw2, if_pos (show 0 ≤ (R.length : Int) - 1 ∧ (R.length : Int) - 1 < (R.length : Int) by omega), ht, Nat.zero_add, rm_get, hg2, hf, hc]
  · have hp' : there ls k = false := by simpa using hp
    simp only [hp', if_true, chainv]
    rw [anc, if_neg hp]; rfl
end Go.Proofs.YtifalphladcdcaaGreat.H

/- PoseChains in plain Lean. Conditions: those stated. -/
namespace Go.Proofs.YtifalphladcdcaaGreat.H
open Go Go.VM
set_option maxRecDepth 100000
theorem and63 (a : Int) : w64 (↑(BitVec.toNat (BitVec.ofInt (IntKind.bits IntKind.i64) a &&& BitVec.ofInt (IntKind.bits IntKind.i64) 63)) : Int) = a % 64 := and_low .i64 6 (by decide) (fun n h h' => by rw [IntKind.wrap_i64]; omega) a
theorem beq_ii (a : Int) : (a == a) = true := beq_self_eq_true a
theorem known21 : F25 = some (.a0 true) := by kernel_rfl
/-- So many parents are enough. -/
theorem anc_more (ls : List Ly) (h : ∀ k (h : k < ls.length), (ls[k]).par < max (k : Int) 0) : ∀ (n : Nat) (k : Int), k < (n : Int) → anc ls (n + 1) k = anc ls n k
  | 0, k, hk => by
    have h0 : ¬ there ls k = true := by intro ht; have := (there_lt ht).1; omega
    simp only [anc, if_neg h0]
  | n + 1, k, hk => by
    rw [anc, anc]
    by_cases ht : there ls k = true
    · obtain ⟨k0, k1⟩ := there_lt ht
      have hp := h k.toNat k1
      rw [if_pos ht, if_pos ht, List.getElem?_eq_getElem k1]
      simp only
      congr 1
      by_cases h0 : (ls[k.toNat]).par < (n : Int)
      · exact anc_more ls h n _ h0
      · omega
    · rw [if_neg ht, if_neg ht]
theorem chain_par (ls : List Ly) (hl : ls.length ≤ 16) (h : ∀ k (h : k < ls.length), (ls[k]).par < max (k : Int) 0) (k : Nat) (hk : k < ls.length) (t : Int) :
    chainv ls k t = if (ls[k]).par ≥ 0 then aftv (chainv ls (ls[k]).par t) (ownv ls[k] t) else ownv ls[k] t := by
  have ht : there ls (k : Int) = true := by simp only [there, Bool.and_eq_true, decide_eq_true_eq]; omega
  have hp := h k hk
  have e : anc ls 17 k = ls[k] :: anc ls 16 (ls[k]).par := by
    rw [anc, if_pos ht, Int.toNat_natCast, List.getElem?_eq_getElem hk]
  by_cases h0 : (ls[k]).par ≥ 0
  · have hq : (ls[k]).par.toNat < ls.length := by omega
    have ht2 : there ls (ls[k]).par = true := by simp only [there, Bool.and_eq_true, decide_eq_true_eq]; omega
    rw [if_pos h0, chainv, chainv, e, anc_more ls h 16 _ (by omega)]
    rw [show (16 : Nat) = 15 + 1 from rfl, anc, if_pos ht2, List.getElem?_eq_getElem hq]
    rfl
  · have ht2 : ¬ there ls (ls[k]).par = true := by simp only [there, Bool.and_eq_true, decide_eq_true_eq]; omega
    rw [if_neg h0, chainv, e, show (16 : Nat) = 15 + 1 from rfl, anc, if_neg ht2]; rfl
end Go.Proofs.YtifalphladcdcaaGreat.H
