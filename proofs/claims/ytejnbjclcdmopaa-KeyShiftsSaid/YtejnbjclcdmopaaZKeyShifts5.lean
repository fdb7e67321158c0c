/- Lines of 18 texts of this seat, merged by wip/shake.py (a program of this session): what the statement's proof does not use is left out. -/
import Derived.Test.YtejnbjclcdmopaaZKeyShifts4
import Derived.ChangeSame
import Derived.Deep.Fields
import Derived.Deep.Slices
import Derived.OpenShut

section
set_option linter.unusedVariables false
namespace Go.Proofs.Ytejnbjclcdmopaa.MB
def bend (a b t : Int) : Int :=
  add (add (mul (3 * mul (mul (65536 - cl t 0 65536) (65536 - cl t 0 65536)) (cl t 0 65536)) a) (mul (3 * mul (mul (65536 - cl t 0 65536) (cl t 0 65536)) (cl t 0 65536)) b)) (mul (mul (cl t 0 65536) (cl t 0 65536)) (cl t 0 65536))
def halve : Nat → (Int → Int) → Int → Int → Int → Int
  | 0, _, _, lo, _ => lo
  | n + 1, g, x, lo, hi => if g ((lo + hi) / 2) ≤ x then halve n g x ((lo + hi) / 2) hi else halve n g x lo ((lo + hi) / 2)
def curve (x1 y1 x2 y2 x : Int) : Int := if x ≤ 0 then 0 else if x ≥ 65536 then 65536 else bend y1 y2 (halve 16 (bend x1 x2) x 0 65536)
def prt (a b t : Int) : Int := if hd t ≤ hd a then 0 else if hd t ≥ hd b then 65536 else (hd t - hd a) * 65536 / (hd b - hd a)
end Go.Proofs.Ytejnbjclcdmopaa.MB
namespace Go.Proofs.Ytejnbjclcdmopaa.PA
open Go.RowKit Go.Proofs.YtejnbjclcdmopaaW.PrintWords Go.Proofs.YtejnbjclcdmopaaW.PrintLast Go.Proofs.YtejnbjclcdmopaaW.PrintMore Go.Proofs.Ytejnbjclcdmopaa.MB
theorem ease_Bend_eq {k : Nat} (hk : 1 ≤ k) (a b t : Int) : ease_Bend.f k a b t = some (bend a b t) := by
  unfold ease_Bend.f
  have hc := cl_bd t 0 65536 (by omega)
  rw [q_Clamp_eq]
  simp only [Option.bind_some]
  rw [w64 (x := 65536 - cl t 0 65536) (by omega) (by omega)]
  simp only [q_Mul_ge hk, Option.bind_some]
  have h1 := mul_bd (mul (65536 - cl t 0 65536) (65536 - cl t 0 65536)) (cl t 0 65536)
  have h2 := mul_bd (mul (65536 - cl t 0 65536) (cl t 0 65536)) (cl t 0 65536)
  rw [w64 (by omega) (by omega), w64 (by omega) (by omega)]
  simp only [q_Add_eq, Option.bind_some]
  rfl
theorem ease_At_l0 (x1 y1 x2 y2 x : Int) : ∀ (n k : Nat) (lo hi i : Int), 0 ≤ lo → lo ≤ hi → hi ≤ 65536 → i = 16 - (n : Int) → 0 ≤ i → n + 2 ≤ k →
    ease_At.l0 k x lo hi i x1 y1 x2 y2 = some (bend y1 y2 (halve n (bend x1 x2) x lo hi)) := by
  intro n
  induction n with
  | zero =>
    intro k lo hi i h1 h2 h3 h4 h5 hk
    obtain ⟨k, rfl⟩ : ∃ m, k = m + 1 := ⟨k - 1, by omega⟩
    simp only [ease_At.l0]
    rw [if_neg (by omega), ease_Bend_eq (by omega)]
    rfl
  | succ n ih =>
    intro k lo hi i h1 h2 h3 h4 h5 hk
    obtain ⟨k, rfl⟩ : ∃ m, k = m + 1 := ⟨k - 1, by omega⟩
    simp only [ease_At.l0]
    rw [if_pos (by omega), w64 (x := lo + hi) (by omega) (by omega), ease_Bend_eq (by omega)]
    simp only [Option.bind_some, halve]
    rw [w64 (x := i + 1) (by omega) (by omega)]
    split
    · exact ih _ _ _ _ (by omega) (by omega) h3 (by omega) (by omega) (by omega)
    · exact ih _ _ _ _ h1 (by omega) (by omega) (by omega) (by omega) (by omega)
theorem ease_At_eq {k : Nat} (hk : 18 ≤ k) (x1 y1 x2 y2 x : Int) : ease_At.f k x1 y1 x2 y2 x = some (curve x1 y1 x2 y2 x) := by
  unfold ease_At.f curve
  split
  · rfl
  · split
    · rfl
    · exact ease_At_l0 x1 y1 x2 y2 x 16 k 0 65536 0 (by omega) (by omega) (by omega) (by omega) (by omega) (by omega)
theorem part_of (a b t : Int) (h1 : ¬ hd t ≤ hd a) (h2 : ¬ hd t ≥ hd b) : wrap64 (hd b - hd a) ≠ 0 ∧ wrap64 (Int.tdiv (wrap64 ((wrap64 (hd t - hd a)) * 65536)) (wrap64 (hd b - hd a))) = (hd t - hd a) * 65536 / (hd b - hd a) := by
  have ha := hd_bd a
  have hb := hd_bd b
  have ht := hd_bd t
  generalize hd a = x at *
  generalize hd b = y at *
  generalize hd t = z at *
  rw [w64 (x := y - x) (by omega) (by omega), w64 (x := z - x) (by omega) (by omega), w64 (x := (z - x) * 65536) (by omega) (by omega)]
  refine ⟨by omega, ?_⟩
  rw [Int.tdiv_eq_ediv_of_nonneg (by omega)]
  have q1 : 0 ≤ (z - x) * 65536 / (y - x) := Int.ediv_nonneg (by omega) (by omega)
  have q2 : (z - x) * 65536 / (y - x) ≤ (z - x) * 65536 := Int.ediv_le_self _ (by omega)
  exact w64 (by omega) (by omega)
theorem ease_Part_eq (a b t : Int) : ease_Part.f a b t = some (prt a b t) := by
  unfold ease_Part.f prt
  simp only [q_Hold_eq, Option.bind_some]
  by_cases h1 : hd t ≤ hd a
  · rw [if_pos h1, if_pos h1]
  · rw [if_neg h1, if_neg h1]
    by_cases h2 : hd t ≥ hd b
    · rw [if_pos h2, if_pos h2]
    · rw [if_neg h2, if_neg h2]
      obtain ⟨n, e⟩ := part_of a b t h1 h2
      rw [if_neg n, e]
theorem ease_Right_some (a b c d : Int) : ∃ r, ease_Right.f a b c d = some r := by
  have hw : ∀ x y z : Int, ∃ r, ease_Right_1.f x y z = some r := by intro x y z; unfold ease_Right_1.f; split <;> exact ⟨_, rfl⟩
  unfold ease_Right.f
  obtain ⟨r1, e1⟩ := hw a 0 65536
  obtain ⟨r2, e2⟩ := hw c 0 65536
  obtain ⟨r3, e3⟩ := hw b (-131072) 196608
  obtain ⟨r4, e4⟩ := hw d (-131072) 196608
  simp only [e1, e2, e3, e4, Option.bind_some]
  repeat (first | exact ⟨_, rfl⟩ | split)
end Go.Proofs.Ytejnbjclcdmopaa.PA
end

section
namespace Go.Proofs.Ytejnbjclcdmopaa.PA
open Go.RowKit Go.Proofs.YtejnbjclcdmopaaW.PrintWords Go.Proofs.YtejnbjclcdmopaaW.PrintLast Go.Proofs.YtejnbjclcdmopaaW.PrintMore
attribute [local go_sem] max2_int min2_int max_two min_two max_three min_three max_four min_four
attribute [local go_sem] Go.Proofs.Ytejnbjclcdmopaa.MS.isSome_setCell
set_option linter.unusedVariables false
set_option linter.unusedSimpArgs false
end Go.Proofs.Ytejnbjclcdmopaa.PA
end

section
namespace Go.Proofs.Ytejnbjclcdmopaa.PA
open Go.RowKit Go.Proofs.YtejnbjclcdmopaaW.PrintWords Go.Proofs.YtejnbjclcdmopaaW.PrintLast Go.Proofs.YtejnbjclcdmopaaW.PrintMore
attribute [local go_sem] max2_int min2_int max_two min_two max_three min_three max_four min_four
attribute [local go_sem] Go.Proofs.Ytejnbjclcdmopaa.MS.isSome_setCell
set_option linter.unusedVariables false
set_option linter.unusedSimpArgs false
end Go.Proofs.Ytejnbjclcdmopaa.PA
end

section
namespace Go.Proofs.Ytejnbjclcdmopaa.PA
open Go.RowKit Go.Proofs.YtejnbjclcdmopaaW.PrintWords Go.Proofs.YtejnbjclcdmopaaW.PrintLast Go.Proofs.YtejnbjclcdmopaaW.PrintMore
attribute [local go_sem] max2_int min2_int max_two min_two max_three min_three max_four min_four
attribute [local go_sem] Go.Proofs.Ytejnbjclcdmopaa.MS.isSome_setCell
set_option linter.unusedVariables false
set_option linter.unusedSimpArgs false
end Go.Proofs.Ytejnbjclcdmopaa.PA
end

section
namespace Go.Proofs.Ytejnbjclcdmopaa.PA
open Go.RowKit Go.Proofs.YtejnbjclcdmopaaW.PrintWords Go.Proofs.YtejnbjclcdmopaaW.PrintLast Go.Proofs.YtejnbjclcdmopaaW.PrintMore
attribute [local go_sem] max2_int min2_int max_two min_two max_three min_three max_four min_four
attribute [local go_sem] Go.Proofs.Ytejnbjclcdmopaa.MS.isSome_setCell
set_option linter.unusedVariables false
set_option linter.unusedSimpArgs false
def IsS41 (w0 W : World) (g : Nat) (f0 : List Int) (f1 : Int) : Prop := ∃ A0 c0, W.heap[g]? = some (.cells #[.slice A0 f0.length c0, .int .i64 f1] 41 (0, 0)) ∧ w0.heap.size ≤ g ∧ Kd.C (Kd.int .i64) w0 A0 f0.length f0
theorem IsS41.grown {w0 W : World} {g : Nat} {f0 : List Int} {f1 : Int} {W1 : World} {row : Option Nat} (h : IsS41 w0 W g f0 f1) (hw : W.grownBy W1 row) (hne : some g ≠ row) : IsS41 w0 W1 g f0 f1 := by
 obtain ⟨A0, c0, hb, hg, hr0⟩ := h
 exact ⟨A0, c0, blk_grown hb hw hne, hg, hr0⟩
theorem IsS41.kept {w0 W : World} {g : Nat} {f0 : List Int} {f1 : Int} {W1 : World} {S : Nat → Prop} (h : IsS41 w0 W g f0 f1) (hk : Kept W W1 S) (hne : ¬ S g) : IsS41 w0 W1 g f0 f1 := by
 obtain ⟨A0, c0, hb, hg, hr0⟩ := h
 exact ⟨A0, c0, blk_kept hb hk hne, hg, hr0⟩
theorem IsS41.below {w0 W : World} {g : Nat} {f0 : List Int} {f1 : Int} {W1 : World} (h : IsS41 w0 W g f0 f1) (hw : Below W.heap.size W W1) : IsS41 w0 W1 g f0 f1 := h.grown (grown_of_below hw none) (by simp)
theorem IsS41.alloc {w0 W : World} {g : Nat} {f0 : List Int} {f1 : Int} (h : IsS41 w0 W g f0 f1) (o : Obj) : IsS41 w0 (W.alloc o) g f0 f1 := h.below (below_alloc (Below.refl _ _) o)
theorem IsS41.drewN {w0 W : World} {g : Nat} {f0 : List Int} {f1 : Int} (h : IsS41 w0 W g f0 f1) (m : Nat) : IsS41 w0 (W.drewN m) g f0 f1 := h
theorem IsS41.drew {w0 W : World} {g : Nat} {f0 : List Int} {f1 : Int} (h : IsS41 w0 W g f0 f1) : IsS41 w0 W.drew g f0 f1 := h
theorem IsS41.at_ {w0 W : World} {g : Nat} {f0 : List Int} {f1 : Int} {w' : World} {m : Nat} (hq : W.drewN m = w') (h : IsS41 w0 W g f0 f1) : IsS41 w0 w' g f0 f1 := by subst hq; exact IsS41.drewN h m
theorem IsS41.apart {w0 W : World} {g : Nat} {f0 : List Int} {f1 : Int} {α : Type} {d : Kd α} {e : Nat} {base : Nat} {ok : Nat → Prop} {v : Value} {xs : List α} (h : IsS41 w0 W g f0 f1) (ho : d.R e W base ok v xs) (ht : ∀ q, q ∈ e :: d.E → q ≠ 41) : d.R e W base (fun k => ok k ∧ k ≠ g) v xs := by
 obtain ⟨A0, c0, hb, hg, hr0⟩ := h
 exact Kd.R_types ho hb ht
end Go.Proofs.Ytejnbjclcdmopaa.PA
end

section
namespace Go.Proofs.Ytejnbjclcdmopaa.PA
open Go.RowKit Go.Proofs.YtejnbjclcdmopaaW.PrintWords Go.Proofs.YtejnbjclcdmopaaW.PrintLast Go.Proofs.YtejnbjclcdmopaaW.PrintMore
attribute [local go_sem] max2_int min2_int max_two min_two max_three min_three max_four min_four
attribute [local go_sem] Go.Proofs.Ytejnbjclcdmopaa.MS.isSome_setCell
set_option linter.unusedVariables false
set_option linter.unusedSimpArgs false
end Go.Proofs.Ytejnbjclcdmopaa.PA
end

section
namespace Go.Proofs.Ytejnbjclcdmopaa.PA
open Go.RowKit Go.Proofs.YtejnbjclcdmopaaW.PrintWords Go.Proofs.YtejnbjclcdmopaaW.PrintLast Go.Proofs.YtejnbjclcdmopaaW.PrintMore
attribute [local go_sem] max2_int min2_int max_two min_two max_three min_three max_four min_four
attribute [local go_sem] Go.Proofs.Ytejnbjclcdmopaa.MS.isSome_setCell
set_option linter.unusedVariables false
set_option linter.unusedSimpArgs false
attribute [local go_sem high] eqA23
end Go.Proofs.Ytejnbjclcdmopaa.PA
end

section
namespace Go.Proofs.Ytejnbjclcdmopaa.PA
open Go.RowKit Go.Proofs.YtejnbjclcdmopaaW.PrintWords Go.Proofs.YtejnbjclcdmopaaW.PrintLast Go.Proofs.YtejnbjclcdmopaaW.PrintMore
attribute [local go_sem] max2_int min2_int max_two min_two max_three min_three max_four min_four
attribute [local go_sem] Go.Proofs.Ytejnbjclcdmopaa.MS.isSome_setCell
set_option linter.unusedVariables false
set_option linter.unusedSimpArgs false
end Go.Proofs.Ytejnbjclcdmopaa.PA
end

section
namespace Go.Proofs.Ytejnbjclcdmopaa.PA
open Go.RowKit Go.Proofs.YtejnbjclcdmopaaW.PrintWords Go.Proofs.YtejnbjclcdmopaaW.PrintLast Go.Proofs.YtejnbjclcdmopaaW.PrintMore
attribute [local go_sem] max2_int min2_int max_two min_two max_three min_three max_four min_four
attribute [local go_sem] Go.Proofs.Ytejnbjclcdmopaa.MS.isSome_setCell
set_option linter.unusedVariables false
set_option linter.unusedSimpArgs false
end Go.Proofs.Ytejnbjclcdmopaa.PA
end

section
namespace Go.Proofs.Ytejnbjclcdmopaa.PA
open Go.RowKit Go.Proofs.YtejnbjclcdmopaaW.PrintWords Go.Proofs.YtejnbjclcdmopaaW.PrintLast Go.Proofs.YtejnbjclcdmopaaW.PrintMore
attribute [local go_sem] max2_int min2_int max_two min_two max_three min_three max_four min_four
attribute [local go_sem] Go.Proofs.Ytejnbjclcdmopaa.MS.isSome_setCell
set_option linter.unusedVariables false
set_option linter.unusedSimpArgs false
end Go.Proofs.Ytejnbjclcdmopaa.PA
end

section
set_option linter.unusedVariables false
namespace Go.Proofs.Ytejnbjclcdmopaa.PA
open Go.RowKit Go.Proofs.YtejnbjclcdmopaaW.PrintWords Go.Proofs.YtejnbjclcdmopaaW.PrintLast Go.Proofs.YtejnbjclcdmopaaW.PrintMore Go.Proofs.Ytejnbjclcdmopaa.MB
def fnd (l : List S34) (t : Int) : Nat → Int
  | 0 => -1
  | n + 1 => if (rd_T34 l n).f0 ≤ t then n else fnd l t n
def goes (how x1 y1 x2 y2 p : Int) : Int := if how = 0 then (if p ≥ 65536 then 65536 else 0) else if how = 1 then p else if how = 2 then curve x1 y1 x2 y2 p else 0
def mid (a b t : Int) : Int := add (hd a) (mul (add b (-(hd a))) t)
def kat (l : List S34) (t none : Int) : Int :=
  if (l.length : Int) = 0 then none else
  if fnd l t l.length = -1 then (rd_T34 l 0).f1 else
  if fnd l t l.length = (l.length : Int) - 1 then (rd_T34 l (fnd l t l.length)).f1 else
  mid (rd_T34 l (fnd l t l.length)).f1 (rd_T34 l (fnd l t l.length + 1)).f1
    (goes (rd_T34 l (fnd l t l.length)).f2 (rd_T34 l (fnd l t l.length)).f3.f0 (rd_T34 l (fnd l t l.length)).f3.f1 (rd_T34 l (fnd l t l.length)).f3.f2 (rd_T34 l (fnd l t l.length)).f3.f3
      (prt (rd_T34 l (fnd l t l.length)).f0 (rd_T34 l (fnd l t l.length + 1)).f0 t))
theorem fnd_bd (l : List S34) (t : Int) : ∀ n : Nat, -1 ≤ fnd l t n ∧ fnd l t n < (n : Int) := by
  intro n
  induction n with
  | zero => simp only [fnd]; omega
  | succ n ih => simp only [fnd]; split <;> omega
theorem key_Find_l0 (l : List S34) (t : Int) (hl : (l.length : Int) < 140737488355328) : ∀ (n k : Nat), n ≤ l.length → n + 1 ≤ k → key_Find.l0 k l t ((n : Int) - 1) = some (fnd l t n) := by
  intro n
  induction n with
  | zero =>
    intro k hn hk
    obtain ⟨k, rfl⟩ : ∃ m, k = m + 1 := ⟨k - 1, by omega⟩
    simp only [key_Find.l0]; rw [if_neg (by omega)]; rfl
  | succ n ih =>
    intro k hn hk
    obtain ⟨k, rfl⟩ : ∃ m, k = m + 1 := ⟨k - 1, by omega⟩
    have e : ((n + 1 : Nat) : Int) - 1 = (n : Int) := by omega
    simp only [key_Find.l0, fnd]
    rw [e, if_pos (by omega), if_pos (by omega), if_pos (by omega), w64 (by omega) (by omega), ih k (by omega) (by omega)]
    split <;> rfl
theorem key_Find_eq (l : List S34) (t : Int) (hl : (l.length : Int) < 140737488355328) {k : Nat} (hk : l.length + 1 ≤ k) : key_Find.f k l t = some (fnd l t l.length) := by
  unfold key_Find.f
  rw [w64 (by omega) (by omega)]
  exact key_Find_l0 l t hl l.length k (Nat.le_refl _) hk
theorem key_Goes_eq {k : Nat} (hk : 19 ≤ k) (how x1 y1 x2 y2 p : Int) : key_Goes.f k how x1 y1 x2 y2 p = some (goes how x1 y1 x2 y2 p) := by
  obtain ⟨k, rfl⟩ : ∃ m, k = m + 1 := ⟨k - 1, by omega⟩
  have hj : ∀ b, key_Goes.j0 (k + 1) how p b x1 y1 x2 y2 = some (if b = true then 65536 else if how = 1 then p else if how = 2 then curve x1 y1 x2 y2 p else 0) := by
    intro b
    simp only [key_Goes.j0, ease_At_eq (show 18 ≤ k by omega), Option.bind_some]
    repeat (first | rfl | split)
  unfold key_Goes.f goes
  rw [hj, hj]
  by_cases h : how = 0
  · rw [if_pos h, if_pos h]
    by_cases h2 : p ≥ 65536
    · rw [decide_eq_true h2, if_pos rfl, if_pos h2]
    · rw [decide_eq_false h2, if_neg (by decide), if_neg h2, if_neg (by omega), if_neg (by omega)]
  · rw [if_neg h, if_neg h, if_neg (by decide)]
theorem q_Mid_eq {k : Nat} (hk : 1 ≤ k) (a b t : Int) : q_Mid.f k a b t = some (mid a b t) := by
  unfold q_Mid.f
  have h := hd_bd a
  simp only [q_Hold_eq, Option.bind_some]
  rw [w64 (by omega) (by omega)]
  simp only [q_Add_eq, q_Mul_ge hk, Option.bind_some]
  have e : hd (hd a) = hd a := hd_of h.1 h.2
  unfold mid add
  rw [e]
theorem key_At_eq (l : List S34) (t none : Int) (hl : (l.length : Int) < 140737488355328) {k : Nat} (hk : l.length + 22 ≤ k) : key_At.f k l t none = some (kat l t none) := by
  unfold key_At.f kat
  have hb := fnd_bd l t l.length
  by_cases h0 : (l.length : Int) = 0
  · rw [if_pos h0, if_pos h0]
  · rw [if_neg h0, if_neg h0, key_Find_eq l t hl (by omega)]
    simp only [Option.bind_some]
    generalize fnd l t l.length = i at *
    by_cases h1 : i = -1
    · rw [if_pos h1, if_pos h1, if_pos (by omega)]
    · rw [if_neg h1, if_neg h1, w64 (x := (l.length : Int) - 1) (by omega) (by omega)]
      by_cases h2 : i = (l.length : Int) - 1
      · rw [if_pos h2, if_pos h2, if_pos (by omega), if_pos (by omega)]
      · rw [if_neg h2, if_neg h2, if_pos (by omega), if_pos (by omega), w64 (x := i + 1) (by omega) (by omega), if_pos (by omega), if_pos (by omega)]
        simp only [ease_Part_eq, Option.bind_some, key_Goes_eq (show 19 ≤ k by omega), q_Mid_eq (show 1 ≤ k by omega)]
def way (how x1 y1 x2 y2 : Int) : Bool := if how = 2 then (ease_Right.f x1 y1 x2 y2).getD false else if how = 0 ∨ how = 1 then (x1 == 0 && (y1 == 0 && (x2 == 0 && (y2 == 0)))) else false
def stp (i ahead t how x1 y1 x2 y2 : Int) : Bool := decide (-1073741824 ≤ t) && (decide (t ≤ 1073741824) && (decide (i > 0 → ahead < t) && way how x1 y1 x2 y2))
theorem key_Step_eq {k : Nat} (hk : 1 ≤ k) (i ahead t how x1 y1 x2 y2 : Int) : key_Step.f k i ahead t how x1 y1 x2 y2 = some (stp i ahead t how x1 y1 x2 y2) := by
  obtain ⟨k, rfl⟩ : ∃ m, k = m + 1 := ⟨k - 1, by omega⟩
  obtain ⟨r, hr⟩ := ease_Right_some x1 y1 x2 y2
  have hj : ∀ b, key_Step.j0 (k + 1) how b x1 y1 x2 y2 = some (!b && way how x1 y1 x2 y2) := by
    intro b
    simp only [key_Step.j0, hr, Option.bind_some, way, Option.getD_some]
    cases b
    · rw [if_neg (by decide)]
      by_cases h2 : how = 2
      · rw [if_pos h2, if_pos h2]; rfl
      · rw [if_neg h2, if_neg h2]
        by_cases h0 : how = 0
        · rw [if_pos h0, if_pos (.inl h0)]; rfl
        · rw [if_neg h0]
          by_cases h1 : how = 1
          · rw [if_pos h1, if_pos (.inr h1)]; rfl
          · rw [if_neg h1, if_neg (by omega)]; rfl
    · rw [if_pos rfl]; rfl
  unfold key_Step.f stp
  simp only [hj]
  by_cases c1 : t < -1073741824
  · rw [if_pos c1, decide_eq_false (show ¬ -1073741824 ≤ t by omega)]; rfl
  · rw [if_neg c1, decide_eq_true (show -1073741824 ≤ t by omega)]
    by_cases c2 : t > 1073741824
    · rw [if_pos c2, decide_eq_false (show ¬ t ≤ 1073741824 by omega)]; rfl
    · rw [if_neg c2, decide_eq_true (show t ≤ 1073741824 by omega)]
      by_cases c3 : i > 0
      · rw [if_pos c3]
        by_cases c4 : t ≤ ahead
        · rw [decide_eq_true c4, decide_eq_false (show ¬ (i > 0 → ahead < t) from fun h => by have := h c3; omega)]; rfl
        · rw [decide_eq_false c4, decide_eq_true (show (i > 0 → ahead < t) from fun _ => by omega)]; rfl
      · rw [if_neg c3, decide_eq_true (show (i > 0 → ahead < t) from fun h => absurd h c3)]; rfl
def kok (l : List S34) (i : Int) : Bool :=
  stp i (rd_T34 l (i - 1)).f0 (rd_T34 l i).f0 (rd_T34 l i).f2 (rd_T34 l i).f3.f0 (rd_T34 l i).f3.f1 (rd_T34 l i).f3.f2 (rd_T34 l i).f3.f3 &&
    (decide (-67108864 ≤ (rd_T34 l i).f1) && decide ((rd_T34 l i).f1 ≤ 67108864))
def krt (l : List S34) : Nat → Int → Bool
  | 0, _ => decide ((l.length : Int) ≤ 32)
  | d + 1, i => kok l i && krt l d (i + 1)
theorem key_Right_l0 (l : List S34) (hl : (l.length : Int) < 140737488355328) : ∀ (d k : Nat) (i ahead : Int), 0 ≤ i → i + d = (l.length : Int) → (i > 0 → ahead = (rd_T34 l (i - 1)).f0) → d + 2 ≤ k →
    key_Right.l0 k l ahead l (l.length : Int) i = some (krt l d i) := by
  intro d
  induction d with
  | zero =>
    intro k i ahead h0 hi ha hk
    obtain ⟨k, rfl⟩ : ∃ m, k = m + 1 := ⟨k - 1, by omega⟩
    simp only [key_Right.l0, krt]; rw [if_neg (by omega)]
  | succ d ih =>
    intro k i ahead h0 hi ha hk
    obtain ⟨k, rfl⟩ : ∃ m, k = m + 1 := ⟨k - 1, by omega⟩
    simp only [key_Right.l0, krt]
    rw [if_pos (by omega), if_pos h0, if_pos (by omega), key_Step_eq (by omega), w64 (by omega) (by omega), ih k (i + 1) _ (by omega) (by omega) (fun _ => by rw [show i + 1 - 1 = i by omega]) (by omega)]
    simp only [Option.bind_some]
    have e : stp i ahead (rd_T34 l i).f0 (rd_T34 l i).f2 (rd_T34 l i).f3.f0 (rd_T34 l i).f3.f1 (rd_T34 l i).f3.f2 (rd_T34 l i).f3.f3 = stp i (rd_T34 l (i - 1)).f0 (rd_T34 l i).f0 (rd_T34 l i).f2 (rd_T34 l i).f3.f0 (rd_T34 l i).f3.f1 (rd_T34 l i).f3.f2 (rd_T34 l i).f3.f3 := by
      by_cases hp : i > 0
      · rw [ha hp]
      · unfold stp
        rw [decide_eq_true (show (i > 0 → ahead < (rd_T34 l i).f0) from fun h => absurd h hp), decide_eq_true (show (i > 0 → (rd_T34 l (i - 1)).f0 < (rd_T34 l i).f0) from fun h => absurd h hp)]
    rw [e]
    unfold kok
    cases stp i (rd_T34 l (i - 1)).f0 (rd_T34 l i).f0 (rd_T34 l i).f2 (rd_T34 l i).f3.f0 (rd_T34 l i).f3.f1 (rd_T34 l i).f3.f2 (rd_T34 l i).f3.f3
    · rw [if_neg (by decide)]; rfl
    · rw [if_pos rfl, Bool.true_and]
      by_cases c1 : (rd_T34 l i).f1 < -67108864
      · rw [if_pos c1, decide_eq_false (show ¬ -67108864 ≤ (rd_T34 l i).f1 by omega)]; rfl
      · rw [if_neg c1, decide_eq_true (show -67108864 ≤ (rd_T34 l i).f1 by omega)]
        by_cases c2 : (rd_T34 l i).f1 > 67108864
        · rw [if_pos c2, decide_eq_false (show ¬ (rd_T34 l i).f1 ≤ 67108864 by omega)]; rfl
        · rw [if_neg c2, decide_eq_true (show (rd_T34 l i).f1 ≤ 67108864 by omega)]; rfl
theorem key_Right_eq (l : List S34) (hl : (l.length : Int) < 140737488355328) {k : Nat} (hk : l.length + 2 ≤ k) : key_Right.f k l = some (krt l l.length 0) := by
  unfold key_Right.f
  exact key_Right_l0 l hl l.length k 0 0 (by omega) (by omega) (fun h => absurd h (by omega)) hk
end Go.Proofs.Ytejnbjclcdmopaa.PA
end

section
namespace Go.Proofs.Ytejnbjclcdmopaa.PA
open Go.RowKit Go.Proofs.YtejnbjclcdmopaaW.PrintWords Go.Proofs.YtejnbjclcdmopaaW.PrintLast Go.Proofs.YtejnbjclcdmopaaW.PrintMore
attribute [local go_sem] max2_int min2_int max_two min_two max_three min_three max_four min_four
attribute [local go_sem] Go.Proofs.Ytejnbjclcdmopaa.MS.isSome_setCell
set_option linter.unusedVariables false
set_option linter.unusedSimpArgs false
end Go.Proofs.Ytejnbjclcdmopaa.PA
end

section
set_option linter.unusedVariables false
namespace Go.Proofs.Ytejnbjclcdmopaa.PA
open Go.RowKit Go.Proofs.YtejnbjclcdmopaaW.PrintWords Go.Proofs.YtejnbjclcdmopaaW.PrintLast Go.Proofs.YtejnbjclcdmopaaW.PrintMore Go.Proofs.Ytejnbjclcdmopaa.MB
theorem known5 {k : Nat} (hk : 24 ≤ k) : mutoscopelaw5_known.f k = some true := by
  unfold mutoscopelaw5_known.f
  simp only [Option.bind_some]
  have h2 : (([(⟨0, 0, 1, (⟨0, 0, 0, 0⟩ : S23)⟩ : S34), (⟨10, 10, 0, (⟨0, 0, 0, 0⟩ : S23)⟩ : S34)] : List (S34)).length : Int) < 140737488355328 := by decide
  have h2' : (([(⟨1, 0, 0, (⟨0, 0, 0, 0⟩ : S23)⟩ : S34), (⟨1, 0, 0, (⟨0, 0, 0, 0⟩ : S23)⟩ : S34)] : List (S34)).length : Int) < 140737488355328 := by decide
  rw [key_At_eq _ _ _ h2 hk, key_At_eq _ _ _ (by decide) (show ([] : List S34).length + 22 ≤ k from by simpa using (by omega : 22 ≤ k)), key_Find_eq _ _ h2 (show 3 ≤ k by omega), key_Find_eq _ _ h2 (show 3 ≤ k by omega), key_Right_eq _ h2 (show 4 ≤ k by omega), key_Right_eq _ h2' (show 4 ≤ k by omega)]
  simp only [Option.bind_some]
  rw [if_pos (by decide +kernel), if_pos (by decide +kernel), if_pos (by decide +kernel), if_pos (by decide +kernel), if_pos (by decide +kernel)]
  decide +kernel
end Go.Proofs.Ytejnbjclcdmopaa.PA
end

section
set_option linter.unusedVariables false
namespace Go.Proofs.Ytejnbjclcdmopaa.MB
def midv (a b t : Int) : Int := add (hd a) (mul (add b (-(hd a))) t)
theorem prt_bd (a b t : Int) : 0 ≤ prt a b t ∧ prt a b t ≤ 65536 := by
  unfold prt
  by_cases h1 : hd t ≤ hd a
  · rw [if_pos h1]; omega
  · rw [if_neg h1]
    by_cases h2 : hd t ≥ hd b
    · rw [if_pos h2]; omega
    · rw [if_neg h2]
      generalize hd t = t at *
      generalize hd a = a at *
      generalize hd b = b at *
      have p : 0 < b - a := by omega
      have h3 := Int.mul_lt_mul_of_pos_right (show t - a < b - a by omega) (show (0 : Int) < 65536 by decide)
      exact ⟨Int.ediv_nonneg (by omega) (by omega), Int.le_of_lt_add_one (Int.ediv_lt_of_lt_mul p (by omega))⟩
theorem mul_part {d p : Int} (hd1 : -4294967296 ≤ d) (hd2 : d ≤ 4294967296) (hp : 0 ≤ p) (hp' : p ≤ 65536) : mul d p = d * p / 65536 ∧ (0 ≤ d → 0 ≤ mul d p ∧ mul d p ≤ d) ∧ (d ≤ 0 → d ≤ mul d p ∧ mul d p ≤ 0) := by
  have e : mul d p = hd (d * p / 65536) := by unfold mul; rw [hd_of (a := d) (by omega) (by omega), hd_of (a := p) (by omega) (by omega)]
  by_cases h : 0 ≤ d
  · have h1 := Int.mul_nonneg h hp
    have h2 := Int.mul_le_mul_of_nonneg_left hp' h
    have e2 : mul d p = d * p / 65536 := by rw [e]; exact hd_of (by omega) (by omega)
    refine ⟨e2, fun _ => ?_, fun h' => ?_⟩ <;> rw [e2]
    · omega
    · have : d = 0 := by omega
      subst this; simp
  · have h1 := Int.mul_nonneg (show 0 ≤ -d by omega) hp
    have h2 := Int.mul_le_mul_of_nonneg_left hp' (show 0 ≤ -d by omega)
    rw [Int.neg_mul] at h1 h2
    rw [Int.neg_mul] at h2
    have e2 : mul d p = d * p / 65536 := by rw [e]; exact hd_of (by omega) (by omega)
    refine ⟨e2, fun h' => absurd h' h, fun _ => ?_⟩; rw [e2]; omega
theorem midv_eq {a b p : Int} (ha : -2147483648 ≤ a ∧ a ≤ 2147483648) (hb : -2147483648 ≤ b ∧ b ≤ 2147483648) (hp : 0 ≤ p) (hp' : p ≤ 65536) : midv a b p = a + (b - a) * p / 65536 := by
  unfold midv
  rw [hd_of (a := a) (by omega) (by omega)]
  have e1 : add b (-a) = b - a := by unfold add; rw [hd_of (a := b) (by omega) (by omega), hd_of (a := -a) (by omega) (by omega)]; rw [hd_of (by omega) (by omega)]; omega
  rw [e1]
  obtain ⟨m1, m2, m3⟩ := mul_part (d := b - a) (by omega) (by omega) hp hp'
  have m4 : mul (b - a) p ≤ 4294967296 ∧ -4294967296 ≤ mul (b - a) p := by
    by_cases h : 0 ≤ b - a
    · have := m2 h; omega
    · have := m3 (by omega); omega
  rw [← m1]
  unfold add
  rw [hd_of (a := a) (by omega) (by omega), hd_of (a := mul (b - a) p) (by omega) (by omega), hd_of (by omega) (by omega)]
theorem midv_between {a b p : Int} (ha : -2147483648 ≤ a ∧ a ≤ 2147483648) (hb : -2147483648 ≤ b ∧ b ≤ 2147483648) (hp : 0 ≤ p) (hp' : p ≤ 65536) :
    (a ≤ b → a ≤ midv a b p ∧ midv a b p ≤ b) ∧ (b ≤ a → b ≤ midv a b p ∧ midv a b p ≤ a) := by
  rw [midv_eq ha hb hp hp']
  obtain ⟨m1, m2, m3⟩ := mul_part (d := b - a) (by omega) (by omega) hp hp'
  rw [← m1]
  exact ⟨fun h => by have := m2 (by omega); omega, fun h => by have := m3 (by omega); omega⟩
end Go.Proofs.Ytejnbjclcdmopaa.MB
end

section
set_option linter.unusedVariables false
namespace Go.Proofs.Ytejnbjclcdmopaa.PA
open Go.RowKit Go.Proofs.YtejnbjclcdmopaaW.PrintWords Go.Proofs.YtejnbjclcdmopaaW.PrintLast Go.Proofs.YtejnbjclcdmopaaW.PrintMore Go.Proofs.Ytejnbjclcdmopaa.MB
def kg (x : S34) : Prop := (-67108864 < x.f1 ∧ x.f1 < 67108864) ∧ (0 ≤ x.f2 ∧ x.f2 ≤ 2)
structure Ris (r : List S34) (at_ : Int) : Prop where
  good : ∀ j : Nat, j < r.length → kg (r.getD j z34) ∧ -5 < (r.getD j z34).f0 ∧ (r.getD j z34).f0 ≤ at_
  rise : ∀ i j : Nat, i < j → j < r.length → (r.getD i z34).f0 < (r.getD j z34).f0
  top : at_ ≤ 8 * (r.length : Int) - 5
  low : -5 ≤ at_
theorem Ris.snoc {r : List S34} {at_ : Int} (h : Ris r at_) (x : S34) (hx : kg x) (h1 : at_ < x.f0) (h2 : x.f0 ≤ at_ + 8) : Ris (r ++ [x]) x.f0 := by
  have hl := h.low
  have ht := h.top
  have g1 : ∀ j : Nat, j < r.length → (r ++ [x]).getD j z34 = r.getD j z34 := fun j hj => by
    simp [List.getD, List.getElem?_append_left hj]
  have g2 : (r ++ [x]).getD r.length z34 = x := by simp [List.getD]
  refine ⟨fun j hj => ?_, fun i j hij hj => ?_, by simp only [List.length_append, List.length_singleton]; omega, by omega⟩
  · rw [List.length_append, List.length_singleton] at hj
    by_cases c : j < r.length
    · rw [g1 j c]; have := h.good j c; exact ⟨this.1, this.2.1, by omega⟩
    · rw [show j = r.length by omega, g2]; exact ⟨hx, by omega, Int.le_refl _⟩
  · rw [List.length_append, List.length_singleton] at hj
    by_cases c : j < r.length
    · rw [g1 j c, g1 i (by omega)]; exact h.rise i j hij c
    · rw [show j = r.length by omega, g2, g1 i (by omega)]; have := (h.good i (by omega)).2.2; omega
theorem and2 (a : Int) : bits .and .i64 a 3 = a % 4 := and_low .i64 2 (by decide) (fun n h h' => by rw [IntKind.wrap_i64]; omega) a
theorem and3 (a : Int) : bits .and .i64 a 7 = a % 8 := and_low .i64 3 (by decide) (fun n h h' => by rw [IntKind.wrap_i64]; omega) a
theorem and8 (a : Int) : bits .and .i64 a 255 = a % 256 := and_low .i64 8 (by decide) (fun n h h' => by rw [IntKind.wrap_i64]; omega) a
theorem rising_l0 (l : List S34) : ∀ (d : Nat) (r : List S34) (at_ i : Int), 0 ≤ i → i = (r.length : Int) → i + d = 40 → Ris r at_ →
    ∃ r' at', Evt (fun k => mutoscopelaw5_rising.l0 k l r at_ i = some r') ∧ r'.length ≤ 40 ∧ Ris r' at' := by
  intro d
  induction d with
  | zero =>
    intro r at_ i h0 hi hd hr
    refine ⟨r, at_, ((Evt.all (p := fun _ => True) fun _ => trivial).succ (q := fun k => mutoscopelaw5_rising.j1 k l r at_ i false = some r) fun k _ => by simp [mutoscopelaw5_rising.j1]).succ fun k h => ?_, by omega, hr⟩
    simp only [mutoscopelaw5_rising.l0]
    split
    · rw [decide_eq_false (by omega)]; exact h
    · exact h
  | succ d ih =>
    intro r at_ i h0 hi hd hr
    by_cases c : i < (l.length : Int)
    · have hm : -67108864 < Int.tmod (rd_T34 l i).f1 67108864 ∧ Int.tmod (rd_T34 l i).f1 67108864 < 67108864 :=
        ⟨by have := Int.lt_tmod_of_pos (rd_T34 l i).f1 (show (0 : Int) < 67108864 by decide); omega, Int.tmod_lt_of_pos _ (by decide)⟩
      have hlo := hr.low
      have hto := hr.top
      have ht : wrap64 ((wrap64 (at_ + 1)) + (Go.bits .and .i64 ((rd_T34 l i).f0) 7)) = at_ + 1 + (rd_T34 l i).f0 % 8 := by
        rw [and3, w64 (x := at_ + 1) (by omega) (by omega), w64 (by omega) (by omega)]
      have step : ∀ e : S23, kg (⟨wrap64 ((wrap64 (at_ + 1)) + (Go.bits .and .i64 ((rd_T34 l i).f0) 7)), Int.tmod ((rd_T34 l i).f1) 67108864, Int.tmod (Go.bits .and .i64 (Int.tmod ((rd_T34 l i).f1) 67108864) 3) 3, e⟩ : S34) := by
        intro e
        refine ⟨hm, ?_⟩
        show 0 ≤ Int.tmod (Go.bits .and .i64 (Int.tmod ((rd_T34 l i).f1) 67108864) 3) 3 ∧ Int.tmod (Go.bits .and .i64 (Int.tmod ((rd_T34 l i).f1) 67108864) 3) 3 ≤ (2 : Int)
        rw [and2, Int.tmod_eq_emod_of_nonneg (by omega)]; omega
      have nxt : ∀ e : S23, ∃ r' at', Evt (fun k => mutoscopelaw5_rising.l0 k l (r ++ [(⟨wrap64 ((wrap64 (at_ + 1)) + (Go.bits .and .i64 ((rd_T34 l i).f0) 7)), Int.tmod ((rd_T34 l i).f1) 67108864, Int.tmod (Go.bits .and .i64 (Int.tmod ((rd_T34 l i).f1) 67108864) 3) 3, e⟩ : S34)]) (wrap64 ((wrap64 (at_ + 1)) + (Go.bits .and .i64 ((rd_T34 l i).f0) 7))) (wrap64 (i + 1)) = some r') ∧ r'.length ≤ 40 ∧ Ris r' at' := by
        intro e
        have hs := hr.snoc _ (step e) (by show at_ < wrap64 _; rw [ht]; omega) (by show wrap64 _ ≤ at_ + 8; rw [ht]; omega)
        exact ih _ _ _ (by rw [w64 (by omega) (by omega)]; omega) (by rw [w64 (by omega) (by omega), List.length_append, List.length_singleton]; omega) (by rw [w64 (by omega) (by omega)]; omega) hs
      by_cases c2 : Int.tmod (Go.bits .and .i64 (Int.tmod ((rd_T34 l i).f1) 67108864) 3) 3 = 2
      · obtain ⟨r', at', he, hl', hr'⟩ := nxt (⟨Go.bits .and .i64 ((rd_T34 l i).f3.f0) 65535, Int.tmod ((rd_T34 l i).f3.f1) 65536, Go.bits .and .i64 ((rd_T34 l i).f3.f2) 65535, Int.tmod ((rd_T34 l i).f3.f3) 65536⟩ : S23)
        refine ⟨r', at', (he.succ (q := fun k => mutoscopelaw5_rising.j1 k l r at_ i true = some r') fun k h => ?_).succ fun k h => ?_, hl', hr'⟩
        · simp only [mutoscopelaw5_rising.j1]
          rw [if_pos trivial, if_pos h0, if_pos c, if_pos c2, if_pos (by omega)]; exact h
        · simp only [mutoscopelaw5_rising.l0]
          rw [if_pos c, decide_eq_true (show i < 40 by omega)]; exact h
      · obtain ⟨r', at', he, hl', hr'⟩ := nxt (⟨0, 0, 0, 0⟩ : S23)
        refine ⟨r', at', (he.succ (q := fun k => mutoscopelaw5_rising.j1 k l r at_ i true = some r') fun k h => ?_).succ fun k h => ?_, hl', hr'⟩
        · simp only [mutoscopelaw5_rising.j1]
          rw [if_pos trivial, if_pos h0, if_pos c, if_neg c2, if_pos (by omega)]; exact h
        · simp only [mutoscopelaw5_rising.l0]
          rw [if_pos c, decide_eq_true (show i < 40 by omega)]; exact h
    · refine ⟨r, at_, ((Evt.all (p := fun _ => True) fun _ => trivial).succ (q := fun k => mutoscopelaw5_rising.j1 k l r at_ i false = some r) fun k _ => by simp [mutoscopelaw5_rising.j1]).succ fun k h => ?_, by omega, hr⟩
      simp only [mutoscopelaw5_rising.l0]
      rw [if_neg c]; exact h
theorem rising_eq (l : List S34) : ∃ r at_, Evt (fun k => mutoscopelaw5_rising.f k l = some r) ∧ r.length ≤ 40 ∧ Ris r at_ := by
  obtain ⟨r, at_, h⟩ := rising_l0 l 40 [] (-5) 0 (by omega) (by simp) (by omega) ⟨fun j hj => by simp at hj, fun i j _ hj => by simp at hj, by simp, by omega⟩
  exact ⟨r, at_, h⟩
end Go.Proofs.Ytejnbjclcdmopaa.PA
end

section
set_option linter.unusedVariables false
namespace Go.Proofs.Ytejnbjclcdmopaa.PA
open Go.RowKit Go.Proofs.YtejnbjclcdmopaaW.PrintWords Go.Proofs.YtejnbjclcdmopaaW.PrintLast Go.Proofs.YtejnbjclcdmopaaW.PrintMore Go.Proofs.Ytejnbjclcdmopaa.MB
theorem rd_nat (l : List S34) (j : Nat) : rd_T34 l (j : Int) = l.getD j z34 := by unfold rd_T34; rw [Int.toNat_natCast]
theorem getD_set_eq (l : List S34) (i j : Nat) (x : S34) (hi : i < l.length) : (l.set i x).getD j z34 = if j = i then x else l.getD j z34 := by
  simp only [List.getD, List.getElem?_set]
  by_cases h : i = j
  · rw [if_pos h, if_pos h.symm]; simp [hi]
  · rw [if_neg h, if_neg (fun e => h e.symm)]
theorem Ris.set {r : List S34} {at_ : Int} (h : Ris r at_) (i : Nat) (hi : i < r.length) (x : S34) (h0 : x.f0 = (r.getD i z34).f0) (h1 : x.f1 = (r.getD i z34).f1) (h2 : 0 ≤ x.f2 ∧ x.f2 ≤ 2) : Ris (r.set i x) at_ := by
  have hf : ∀ j, ((r.set i x).getD j z34).f0 = (r.getD j z34).f0 := fun j => by rw [getD_set_eq r i j x hi]; split <;> simp_all
  refine ⟨fun j hj => ?_, fun a b hab hb => ?_, by rw [List.length_set]; exact h.top, h.low⟩
  · rw [List.length_set] at hj
    have g := h.good j hj
    rw [hf]
    refine ⟨?_, g.2⟩
    rw [getD_set_eq r i j x hi]
    split
    · rename_i e; subst e; exact ⟨by rw [h1]; exact g.1.1, h2⟩
    · exact g.1
  · rw [List.length_set] at hb
    rw [hf, hf]; exact h.rise a b hab hb
theorem goes_in {how p : Int} (x1 y1 x2 y2 : Int) (h : how = 0 ∨ how = 1) (h0 : 0 ≤ p) (h1 : p ≤ 65536) : 0 ≤ goes how x1 y1 x2 y2 p ∧ goes how x1 y1 x2 y2 p ≤ 65536 := by
  unfold goes
  rcases h with h | h
  · rw [if_pos h]; split <;> omega
  · rw [if_neg (by omega), if_pos h]; exact ⟨h0, h1⟩
end Go.Proofs.Ytejnbjclcdmopaa.PA
end

section
set_option linter.unusedVariables false
namespace Go.Proofs.Ytejnbjclcdmopaa.Pure
open Go.RowKit Go.Proofs.Ytejnbjclcdmopaa.PA Go.Proofs.YtejnbjclcdmopaaW.PrintWords Go.Proofs.YtejnbjclcdmopaaW.PrintLast Go.Proofs.YtejnbjclcdmopaaW.PrintMore Go.Proofs.Ytejnbjclcdmopaa.MB
def nrm (x : S34) : S34 := if x.f2 = 2 then ⟨x.f0, x.f1 / 4, 1, ⟨0, 0, 0, 0⟩⟩ else ⟨x.f0, x.f1 / 4, x.f2, x.f3⟩
def shT (n : Int) (x : S34) : S34 := ⟨x.f0 + n, x.f1, x.f2, x.f3⟩
def shV (n : Int) (x : S34) : S34 := ⟨x.f0, x.f1 + n, x.f2, x.f3⟩
theorem getD_map (f : S34 → S34) (l : List S34) (j : Nat) (hj : j < l.length) : (l.map f).getD j z34 = f (l.getD j z34) := by
  simp [List.getD, hj]
theorem nrm_f0 (x : S34) : (nrm x).f0 = x.f0 := by unfold nrm; split <;> rfl
theorem nrm_f1 (x : S34) : (nrm x).f1 = x.f1 / 4 := by unfold nrm; split <;> rfl
theorem nrm_f2 (x : S34) (h : 0 ≤ x.f2 ∧ x.f2 ≤ 2) : (nrm x).f2 = 0 ∨ (nrm x).f2 = 1 := by
  unfold nrm
  split
  · exact .inr rfl
  · show x.f2 = 0 ∨ x.f2 = 1; omega
theorem ris_nrm {r : List S34} {at_ : Int} (h : Ris r at_) : Ris (r.map nrm) at_ := by
  refine ⟨fun j hj => ?_, fun a b hab hb => ?_, by rw [List.length_map]; exact h.top, h.low⟩
  · rw [List.length_map] at hj
    have g := h.good j hj
    have g2 := nrm_f2 _ g.1.2
    have g3 := g.1.1
    rw [getD_map _ _ _ hj, nrm_f0]
    refine ⟨⟨by rw [nrm_f1]; omega, by omega⟩, g.2⟩
  · rw [List.length_map] at hb
    rw [getD_map _ _ _ hb, getD_map _ _ _ (by omega), nrm_f0, nrm_f0]; exact h.rise a b hab hb
theorem fnd_shT (n t : Int) (R : List S34) : ∀ m : Nat, m ≤ R.length → fnd (R.map (shT n)) (t + n) m = fnd R t m := by
  intro m
  induction m with
  | zero => intro _; rfl
  | succ m ih =>
    intro hm
    simp only [fnd]
    rw [rd_nat, rd_nat, getD_map _ _ _ (by omega), ih (by omega)]
    show (if (R.getD m z34).f0 + n ≤ t + n then (m : Int) else fnd R t m) = _
    by_cases c : (R.getD m z34).f0 ≤ t
    · rw [if_pos c, if_pos (by omega)]
    · rw [if_neg c, if_neg (by omega)]
theorem fnd_shV (n t : Int) (R : List S34) : ∀ m : Nat, m ≤ R.length → fnd (R.map (shV n)) t m = fnd R t m := by
  intro m
  induction m with
  | zero => intro _; rfl
  | succ m ih =>
    intro hm
    simp only [fnd]
    rw [rd_nat, rd_nat, getD_map _ _ _ (by omega), ih (by omega)]
    rfl
theorem prt_sh (n a b t : Int) (hn : 0 ≤ n ∧ n ≤ 1023) (ha : -100000 ≤ a ∧ a ≤ 100000) (hb : -100000 ≤ b ∧ b ≤ 100000) (ht : -100000 ≤ t ∧ t ≤ 100000) : prt (a + n) (b + n) (t + n) = prt a b t := by
  unfold prt
  rw [hd_of (a := a) (by omega) (by omega), hd_of (a := b) (by omega) (by omega), hd_of (a := t) (by omega) (by omega), hd_of (a := a + n) (by omega) (by omega), hd_of (a := b + n) (by omega) (by omega), hd_of (a := t + n) (by omega) (by omega)]
  rw [show t + n - (a + n) = t - a by omega, show b + n - (a + n) = b - a by omega]
  by_cases h1 : t ≤ a
  · rw [if_pos h1, if_pos (by omega)]
  · rw [if_neg h1, if_neg (by omega)]
    by_cases h2 : t ≥ b
    · rw [if_pos h2, if_pos (by omega)]
    · rw [if_neg h2, if_neg (by omega)]
theorem kat_shT {R : List S34} {at_ : Int} (h : Ris R at_) (hn : R.length ≤ 40) (n t none : Int) (hn' : 0 ≤ n ∧ n ≤ 1023) (ht : 0 ≤ t ∧ t ≤ 255) : kat (R.map (shT n)) (t + n) none = kat R t none := by
  unfold kat
  rw [List.length_map, fnd_shT n t R R.length (Nat.le_refl _)]
  by_cases c : (R.length : Int) = 0
  · rw [if_pos c, if_pos c]
  · rw [if_neg c, if_neg c]
    have hb := fnd_bd R t R.length
    generalize fnd R t R.length = i at *
    have hto := h.top
    by_cases c1 : i = -1
    · rw [if_pos c1, if_pos c1, show (0 : Int) = ((0 : Nat) : Int) from rfl, rd_nat, rd_nat, getD_map _ _ _ (by omega)]; rfl
    · rw [if_neg c1, if_neg c1]
      obtain ⟨m, rfl⟩ : ∃ m : Nat, i = (m : Int) := ⟨i.toNat, by omega⟩
      rw [rd_nat, rd_nat, getD_map _ _ _ (by omega)]
      by_cases c2 : (m : Int) = (R.length : Int) - 1
      · rw [if_pos c2, if_pos c2]; rfl
      · rw [if_neg c2, if_neg c2, show (m : Int) + 1 = ((m + 1 : Nat) : Int) from by omega, rd_nat, rd_nat, getD_map _ _ _ (by omega)]
        have g1 := (h.good m (by omega)).2
        have g2 := (h.good (m + 1) (by omega)).2
        show mid (R.getD m z34).f1 (R.getD (m + 1) z34).f1 (goes (R.getD m z34).f2 _ _ _ _ (prt ((R.getD m z34).f0 + n) ((R.getD (m + 1) z34).f0 + n) (t + n))) = _
        rw [prt_sh n _ _ t hn' (by omega) (by omega) (by omega)]; rfl
theorem kat_shV {R : List S34} {at_ : Int} (h : Ris R at_) (hs : ∀ j : Nat, j < R.length → (R.getD j z34).f2 ≠ 2) (hn : R.length ≤ 40) (n t : Int) (hn' : -65536 ≤ n ∧ n ≤ 65536) (hne : (R.length : Int) ≠ 0) :
    kat (R.map (shV n)) t 0 = kat R t 0 + n ∧ -134217728 ≤ kat R t 0 ∧ kat R t 0 ≤ 134217728 := by
  have hb := fnd_bd R t R.length
  have hto := h.top
  unfold kat
  rw [List.length_map, fnd_shV n t R R.length (Nat.le_refl _), if_neg hne, if_neg hne]
  generalize hi : fnd R t R.length = i at *
  by_cases c1 : i = -1
  · have g := (h.good 0 (by omega)).1.1
    rw [if_pos c1, if_pos c1, show (0 : Int) = ((0 : Nat) : Int) from rfl, rd_nat, rd_nat, getD_map _ _ _ (by omega)]
    exact ⟨rfl, by omega, by omega⟩
  · rw [if_neg c1, if_neg c1]
    obtain ⟨m, rfl⟩ : ∃ m : Nat, i = (m : Int) := ⟨i.toNat, by omega⟩
    have g1 := (h.good m (by omega)).1
    have w := hs m (by omega)
    rw [rd_nat, rd_nat, getD_map _ _ _ (by omega)]
    by_cases c2 : (m : Int) = (R.length : Int) - 1
    · rw [if_pos c2, if_pos c2]
      have := g1.1
      exact ⟨rfl, by omega, by omega⟩
    · have g2 := (h.good (m + 1) (by omega)).1
      rw [if_neg c2, if_neg c2, show (m : Int) + 1 = ((m + 1 : Nat) : Int) from by omega, rd_nat, rd_nat, getD_map _ _ _ (by omega)]
      have pb := prt_bd (R.getD m z34).f0 (R.getD (m + 1) z34).f0 t
      have gb := goes_in (R.getD m z34).f3.f0 (R.getD m z34).f3.f1 (R.getD m z34).f3.f2 (R.getD m z34).f3.f3 (how := (R.getD m z34).f2) (by have := g1.2; omega) pb.1 pb.2
      have h1 := g1.1
      have h2 := g2.1
      show midv ((R.getD m z34).f1 + n) ((R.getD (m + 1) z34).f1 + n) (goes (R.getD m z34).f2 (R.getD m z34).f3.f0 (R.getD m z34).f3.f1 (R.getD m z34).f3.f2 (R.getD m z34).f3.f3 (prt (R.getD m z34).f0 (R.getD (m + 1) z34).f0 t)) = midv (R.getD m z34).f1 (R.getD (m + 1) z34).f1 (goes (R.getD m z34).f2 (R.getD m z34).f3.f0 (R.getD m z34).f3.f1 (R.getD m z34).f3.f2 (R.getD m z34).f3.f3 (prt (R.getD m z34).f0 (R.getD (m + 1) z34).f0 t)) + n ∧ -134217728 ≤ midv (R.getD m z34).f1 (R.getD (m + 1) z34).f1 (goes (R.getD m z34).f2 (R.getD m z34).f3.f0 (R.getD m z34).f3.f1 (R.getD m z34).f3.f2 (R.getD m z34).f3.f3 (prt (R.getD m z34).f0 (R.getD (m + 1) z34).f0 t)) ∧ midv (R.getD m z34).f1 (R.getD (m + 1) z34).f1 (goes (R.getD m z34).f2 (R.getD m z34).f3.f0 (R.getD m z34).f3.f1 (R.getD m z34).f3.f2 (R.getD m z34).f3.f3 (prt (R.getD m z34).f0 (R.getD (m + 1) z34).f0 t)) ≤ 134217728
      generalize goes (R.getD m z34).f2 (R.getD m z34).f3.f0 (R.getD m z34).f3.f1 (R.getD m z34).f3.f2 (R.getD m z34).f3.f3 (prt (R.getD m z34).f0 (R.getD (m + 1) z34).f0 t) = p at *
      generalize (R.getD m z34).f1 = a at *
      generalize (R.getD (m + 1) z34).f1 = b at *
      have mb := midv_between (a := a) (b := b) (p := p) (by omega) (by omega) gb.1 gb.2
      refine ⟨?_, ?_⟩
      · rw [midv_eq (by omega) (by omega) gb.1 gb.2, midv_eq (by omega) (by omega) gb.1 gb.2, show b + n - (a + n) = b - a by omega]; omega
      · by_cases c : a ≤ b
        · have := mb.1 c; omega
        · have := mb.2 (by omega); omega
theorem ks_end (x3 n c : Int) (R : List S34) {at_ : Int} (h : Ris R at_) (hs : ∀ j : Nat, j < R.length → (R.getD j z34).f2 ≠ 2) (hn : R.length ≤ 40) (hn' : 0 ≤ n ∧ n ≤ 1023) (hc : -65536 ≤ c ∧ c ≤ 65536) :
    Evt fun k => mutoscopelaw5_KeyShifts.l1 k x3 R n c (R.map (shT n)) (R.map (shV c)) (R.length : Int) (R.length : Int) = some true := by
  refine (Evt.of (p := fun k => 70 ≤ k) 70 fun k h => h).succ fun k hk => ?_
  have lT : (R.map (shT n)).length = R.length := List.length_map ..
  have lV : (R.map (shV c)).length = R.length := List.length_map ..
  simp only [mutoscopelaw5_KeyShifts.l1]
  rw [if_neg (by omega), and8]
  have hx : 0 ≤ x3 % 256 ∧ x3 % 256 ≤ 255 := by omega
  generalize x3 % 256 = t at *
  rw [w64 (x := t + n) (by omega) (by omega), key_At_eq (R.map (shT n)) _ _ (by omega) (by omega), key_At_eq R _ _ (by omega) (by omega), kat_shT h hn n t 5 hn' hx]
  simp only [Option.bind_some, if_true]
  by_cases c0 : (R.length : Int) = 0
  · rw [if_pos c0, known5 (by omega)]; rfl
  · obtain ⟨e, b1, b2⟩ := kat_shV h hs hn c t hc c0
    rw [if_neg c0, key_At_eq (R.map (shV c)) _ _ (by omega) (by omega), key_At_eq R _ _ (by omega) (by omega), e]
    simp only [Option.bind_some]
    rw [w64 (by omega) (by omega), if_pos rfl, known5 (by omega)]; rfl
theorem ks_l1 (x3 n c : Int) (r R : List S34) {at_ : Int} (hR : R = r.map nrm) (h : Ris R at_) (hs : ∀ j : Nat, j < R.length → (R.getD j z34).f2 ≠ 2) (hn : R.length ≤ 40) (hn' : 0 ≤ n ∧ n ≤ 1023) (hc : -65536 ≤ c ∧ c ≤ 65536) :
    ∀ (d i : Nat) (x9 : List S34), i + d = R.length → x9.length = R.length → (∀ j : Nat, j < R.length → x9.getD j z34 = if j < i then R.getD j z34 else r.getD j z34) →
    Evt fun k => mutoscopelaw5_KeyShifts.l1 k x3 x9 n c (R.map (shT n)) (R.map (shV c)) (R.length : Int) (i : Int) = some true := by
  have hrl : r.length = R.length := by rw [hR, List.length_map]
  intro d
  induction d with
  | zero =>
    intro i x9 hi hl hg
    have e : x9 = R := by
      apply List.ext_getElem hl
      intro j h1 h2
      have := hg j h2
      rw [if_pos (by omega)] at this
      simpa [List.getD, h1, h2] using this
    subst e
    rw [show i = x9.length by omega]
    exact ks_end x3 n c x9 h hs hn hn' hc
  | succ d ih =>
    intro i x9 hi hl hg
    have lT : (R.map (shT n)).length = R.length := List.length_map ..
    have e9 := hg i (by omega)
    rw [if_neg (by omega)] at e9
    have eT : (R.map (shT n)).getD i z34 = shT n (R.getD i z34) := getD_map _ _ _ (by omega)
    have eR : R.getD i z34 = nrm (r.getD i z34) := by rw [hR]; exact getD_map _ _ _ (by omega)
    generalize hy : x9.set i (⟨(rd_T34 x9 (i : Int)).f0, (rd_T34 (R.map (shT n)) (i : Int)).f1, (rd_T34 x9 (i : Int)).f2, (⟨(rd_T34 x9 (i : Int)).f3.f0, (rd_T34 x9 (i : Int)).f3.f1, (rd_T34 x9 (i : Int)).f3.f2, (rd_T34 x9 (i : Int)).f3.f3⟩ : S23)⟩ : S34) = y
    have ly : y.length = R.length := by rw [← hy, List.length_set, hl]
    have gy : ∀ j, y.getD j z34 = if j = i then _ else x9.getD j z34 := fun j => by rw [← hy]; exact getD_set_eq x9 i j _ (by omega)
    generalize hy2 : y.set i (⟨(rd_T34 y (i : Int)).f0, (rd_T34 y (i : Int)).f1, (rd_T34 (R.map (shT n)) (i : Int)).f2, (⟨(rd_T34 y (i : Int)).f3.f0, (rd_T34 y (i : Int)).f3.f1, (rd_T34 y (i : Int)).f3.f2, (rd_T34 y (i : Int)).f3.f3⟩ : S23)⟩ : S34) = y2
    have ly2 : y2.length = R.length := by rw [← hy2, List.length_set, ly]
    have gy2 : ∀ j, y2.getD j z34 = if j = i then _ else y.getD j z34 := fun j => by rw [← hy2]; exact getD_set_eq y i j _ (by omega)
    generalize hy3 : y2.set i (⟨(rd_T34 y2 (i : Int)).f0, (rd_T34 y2 (i : Int)).f1, (rd_T34 y2 (i : Int)).f2, (⟨(rd_T34 (R.map (shT n)) (i : Int)).f3.f0, (rd_T34 (R.map (shT n)) (i : Int)).f3.f1, (rd_T34 (R.map (shT n)) (i : Int)).f3.f2, (rd_T34 (R.map (shT n)) (i : Int)).f3.f3⟩ : S23)⟩ : S34) = y3
    have ly3 : y3.length = R.length := by rw [← hy3, List.length_set, ly2]
    have gy3 : ∀ j, y3.getD j z34 = if j = i then _ else y2.getD j z34 := fun j => by rw [← hy3]; exact getD_set_eq y2 i j _ (by omega)
    have hfin : y3.getD i z34 = R.getD i z34 := by
      rw [gy3, if_pos rfl]
      simp only [rd_nat]
      rw [gy2, if_pos rfl]
      simp only [rd_nat]
      rw [gy, if_pos rfl]
      simp only [rd_nat]
      rw [e9, eT]
      have e0 : (r.getD i z34).f0 = (R.getD i z34).f0 := by rw [eR, nrm_f0]
      rw [e0]; rfl
    have nx := ih (i + 1) y3 (by omega) ly3 (fun j hj => by
      by_cases e : j = i
      · subst e; rw [if_pos (by omega), hfin]
      · rw [gy3, if_neg e, gy2, if_neg e, gy, if_neg e, hg j hj]
        by_cases c1 : j < i
        · rw [if_pos c1, if_pos (by omega)]
        · rw [if_neg c1, if_neg (by omega)])
    refine nx.succ fun k hk => ?_
    simp only [mutoscopelaw5_KeyShifts.l1]
    rw [if_pos (by omega), if_pos (by omega), if_pos (by omega), if_pos (by omega), Int.toNat_natCast, hy]
    simp only [Option.bind_some]
    rw [hy2, hy3, w64 (x := (i : Int) + 1) (by omega) (by omega)]
    exact hk
theorem take_map_succ (f : S34 → S34) (l : List S34) (i : Nat) (hi : i < l.length) : (l.map f).take (i + 1) = (l.map f).take i ++ [f (l.getD i z34)] := by
  rw [List.take_succ_eq_append_getElem (by simpa using hi)]
  simp [List.getD, hi]
theorem ks_l0 (x3 n c : Int) (r : List S34) {at_ : Int} (h : Ris r at_) (hn : r.length ≤ 40) (hn' : 0 ≤ n ∧ n ≤ 1023) (hc : -65536 ≤ c ∧ c ≤ 65536) :
    ∀ (d i : Nat), i + d = r.length →
    Evt fun k => mutoscopelaw5_KeyShifts.l0 k x3 r n c ((r.map fun x => shT n (nrm x)).take i) ((r.map fun x => shV c (nrm x)).take i) r (r.length : Int) (i : Int) = some true := by
  have hto := h.top
  intro d
  induction d with
  | zero =>
    intro i hi
    have e1 := ks_l1 x3 n c r (r.map nrm) rfl (ris_nrm h) (fun j hj => by
      rw [List.length_map] at hj
      rw [getD_map _ _ _ hj]
      have := nrm_f2 _ (h.good j hj).1.2
      omega) (by rw [List.length_map]; exact hn) hn' hc r.length 0 r (by rw [List.length_map]; omega) (by rw [List.length_map]) (fun j hj => by rw [if_neg (by omega)])
    rw [List.map_map, List.map_map, List.length_map] at e1
    refine e1.succ fun k hk => ?_
    simp only [mutoscopelaw5_KeyShifts.l0]
    rw [if_neg (by omega), List.take_of_length_le (by rw [List.length_map]; omega), List.take_of_length_le (by rw [List.length_map]; omega)]
    exact hk
  | succ d ih =>
    intro i hi
    have nx := ih (i + 1) (by omega)
    rw [take_map_succ _ r i (by omega), take_map_succ _ r i (by omega)] at nx
    have g := h.good i (by omega)
    have gT := g.2
    have gV := g.1.1
    have l1 : ((r.map fun x => shT n (nrm x)).take i).length = i := by rw [List.length_take, List.length_map]; omega
    have l2 : ((r.map fun x => shV c (nrm x)).take i).length = i := by rw [List.length_take, List.length_map]; omega
    have hj : ∀ (T V hw e0 e1 e2 e3 : Int), (⟨T, V / 4, hw, ⟨e0, e1, e2, e3⟩⟩ : S34) = nrm (r.getD i z34) →
        Evt fun k => mutoscopelaw5_KeyShifts.j1 k x3 r n c ((r.map fun x => shT n (nrm x)).take i) ((r.map fun x => shV c (nrm x)).take i) r (r.length : Int) (i : Int) T V hw e0 e1 e2 e3 = some true := by
      intro T V hw e0 e1 e2 e3 e
      have eT : T = (r.getD i z34).f0 := by rw [← nrm_f0, ← e]
      have eV : V / 4 = (r.getD i z34).f1 / 4 := by rw [← nrm_f1, ← e]
      refine nx.succ fun k hk => ?_
      simp only [mutoscopelaw5_KeyShifts.j1, Option.bind_some]
      rw [if_pos (by simp only [List.length_cons, List.length_nil, l1]; omega), if_pos (by simp only [List.length_cons, List.length_nil, l2]; omega)]
      rw [w64 (x := T + n) (by omega) (by omega), w64 (x := V / 4 + c) (by omega) (by omega), w64 (x := (i : Int) + 1) (by omega) (by omega)]
      rw [← e] at hk
      exact hk
    by_cases c2 : (r.getD i z34).f2 = 2
    · refine (hj (rd_T34 r (i : Int)).f0 (rd_T34 r (i : Int)).f1 1 0 0 0 0 (by rw [rd_nat]; unfold nrm; rw [if_pos c2])).succ fun k hk => ?_
      simp only [mutoscopelaw5_KeyShifts.l0]
      rw [if_pos (by omega), if_pos (by omega), if_pos (by omega), if_pos (by rw [rd_nat]; exact c2)]; exact hk
    · refine (hj (rd_T34 r (i : Int)).f0 (rd_T34 r (i : Int)).f1 (rd_T34 r (i : Int)).f2 (rd_T34 r (i : Int)).f3.f0 (rd_T34 r (i : Int)).f3.f1 (rd_T34 r (i : Int)).f3.f2 (rd_T34 r (i : Int)).f3.f3 (by rw [rd_nat]; unfold nrm; rw [if_neg c2])).succ fun k hk => ?_
      simp only [mutoscopelaw5_KeyShifts.l0]
      rw [if_pos (by omega), if_pos (by omega), if_pos (by omega), if_neg (by rw [rd_nat]; exact c2)]; exact hk
theorem and10 (a : Int) : bits .and .i64 a 1023 = a % 1024 := and_low .i64 10 (by decide) (fun n h h' => by rw [IntKind.wrap_i64]; omega) a
theorem KeyShifts : mutoscopelaw5_KeyShifts.Pure := by
  intro l a1 a2 a3 _ _ _ _
  obtain ⟨r, at_, he, hr, hR⟩ := rising_eq l
  have b1 : -65536 < Int.tmod a2 65536 := by have := Int.lt_tmod_of_pos a2 (show (0 : Int) < 65536 by decide); omega
  have b2 : Int.tmod a2 65536 < 65536 := Int.tmod_lt_of_pos a2 (by decide)
  have h0 := ks_l0 a3 (a1 % 1024) (Int.tmod a2 65536) r hR hr (by omega) (by omega) r.length 0 (by omega)
  obtain ⟨n, hn⟩ := he.and h0
  refine ⟨n, ?_⟩
  obtain ⟨e1, e2⟩ := hn n (Nat.le_refl _)
  unfold mutoscopelaw5_KeyShifts.f
  rw [e1, and10]; exact e2
end Go.Proofs.Ytejnbjclcdmopaa.Pure
end

section
set_option linter.unusedVariables false
namespace Go.Proofs.Ytejnbjclcdmopaa.MO
open Go.RowKit Go.ChangeShapes Go.WideShapes Go.Deep Go.Proofs.YtejnbjclcdmopaaW.PrintWords
def Opn {α : Type} (P : Program) (t : TypeId) (d : Kd α) (g : α → Prop) : Prop :=
  ∀ {H : Type} {enc : TypeId × Value → H} {w : World} {base : Nat} {spare : Nat → Bool} {held : Bool} (n : Nat) (cs : List Value) (x : DataW H × List MemPlace),
    DataW.trod enc P w base spare held n t cs = some x → ∃ a : α, d.K w a cs ∧ g a
theorem opn_int {P : Program} {t : TypeId} {k : IntKind} (ht : P.underlying t = some (.int k)) : Opn P t (Kd.int k) fun a => (Lit.int k a).wf = true := by
  intro H enc w base spare held n cs x h
  obtain ⟨z, rfl, _, hw⟩ := DataW.trod_int ht h
  exact ⟨z, rfl, hw⟩
theorem opn_iso {α β : Type} {P : Program} {t : TypeId} {d : Kd α} {g : α → Prop} (h : Opn P t d g) (f : β → α) (mk : α → β) (hf : ∀ a, f (mk a) = a) (g' : β → Prop) (hg : ∀ a, g a → g' (mk a)) : Opn P t (Kd.iso d f) g' := by
  intro H enc w base spare held n cs x hx
  obtain ⟨a, ha, hga⟩ := h n cs x hx
  exact ⟨mk a, by show d.K w (f (mk a)) cs; rw [hf]; exact ha, hg a hga⟩
theorem opn_slice {α : Type} {P : Program} {t e : TypeId} {d : Kd α} {g : α → Prop} (ht : P.underlying t = some (.slice e)) (hs : P.cellsOf e = d.sz) (h : Opn P e d g) :
    Opn P t (Kd.slice e d) fun l => l.length ≤ maxLen ∧ ∀ a, a ∈ l → g a := by
  intro H enc w base spare held n cs x hx
  rcases open_slice ht hx with ⟨rfl, _⟩ | ⟨a, len, cap, m, n', D, Pl, rfl, hb, hl, hm, hmm, _, hi⟩
  · exact ⟨[], ⟨none, 0, rfl, Nat.le_refl _, rfl, by simp, fun h => absurd h (by simp)⟩, Nat.zero_le _, fun a h => by simp at h⟩
  · have hlm : len ≤ m := by rw [hmm]; split <;> omega
    have each : ∀ i, i < len → ∃ (p : α) (c : List Value), c.length = d.sz ∧ d.K w p c ∧ g p ∧ ∀ j u, c[j]? = some u → w.cell? (a.add (i * d.sz + j)) = some u := by
      intro i hil
      obtain ⟨cs', hc, htr⟩ := hi i (by omega)
      obtain ⟨p, hp, hgp⟩ := h n' cs' _ htr
      rw [hs] at hc
      obtain ⟨_, hcl, hat⟩ := World.cells?_some hc
      refine ⟨p, cs', hcl, hp, hgp, fun j u hu => ?_⟩
      have hj : j < cs'.length := (List.getElem?_eq_some_iff.1 hu).1
      rw [← Go.Deep.add_add]
      have := hat j (by omega)
      rw [this, hu]
    have all : ∀ q, q ≤ len → ∃ l : List α, l.length = q ∧ (∀ p, p ∈ l → g p) ∧ ∀ j p, l[j]? = some p → ∃ c : List Value, c.length = d.sz ∧ d.K w p c ∧ ∀ i u, c[i]? = some u → w.cell? (a.add (j * d.sz + i)) = some u := by
      intro q
      induction q with
      | zero => intro _; exact ⟨[], rfl, fun p hp => by simp at hp, fun j p hp => by simp at hp⟩
      | succ q ih =>
        intro hq
        obtain ⟨l, hlen, hg, hl'⟩ := ih (by omega)
        obtain ⟨p, c, h1, h2, h3, h4⟩ := each q (by omega)
        refine ⟨l ++ [p], by simp [hlen], fun p' hp' => ?_, fun j p' hp' => ?_⟩
        · rcases List.mem_append.1 hp' with h' | h'
          · exact hg p' h'
          · rw [List.mem_singleton.1 h']; exact h3
        · by_cases hj : j < l.length
          · rw [List.getElem?_append_left hj] at hp'
            exact hl' j p' hp'
          · rw [List.getElem?_append_right (by omega)] at hp'
            have hj0 : j - l.length = 0 := by
              have := (List.getElem?_eq_some_iff.1 hp').1
              simp at this; omega
            rw [hj0] at hp'
            obtain rfl : p = p' := by simpa using hp'
            obtain rfl : j = q := by omega
            exact ⟨c, h1, h2, h4⟩
    obtain ⟨l, hlen, hg, hl'⟩ := all len (Nat.le_refl _)
    have hmx : cap ≤ 9223372036854775807 := by simpa [maxLen] using hm
    subst hlen
    exact ⟨l, ⟨some a, cap, rfl, hl, rfl, by omega, fun _ => ⟨a, rfl, hl'⟩⟩, Nat.le_trans hl hm, hg⟩
def OpnF {β : Type} (P : Program) (fs : List Field) (off : Nat) (d : Kd β) (g : β → Prop) : Prop :=
  ∀ {H : Type} {enc : TypeId × Value → H} {w : World} {base : Nat} {spare : Nat → Bool} {held : Bool} (n : Nat) (cs : List Value), cs.length = off + d.sz →
    (∀ f, f ∈ fs → ∃ x : DataW H × List MemPlace, DataW.trod enc P w base spare held n f.type ((cs.drop f.offset).take (P.cellsOf f.type)) = some x) → ∃ b : β, d.K w b (cs.drop off) ∧ g b
theorem opnF_one {α : Type} {P : Program} {f : Field} {off : Nat} {d : Kd α} {g : α → Prop} (ho : f.offset = off) (hs : P.cellsOf f.type = d.sz) (h : Opn P f.type d g) : OpnF P [f] off d g := by
  intro H enc w base spare held n cs hl hf
  obtain ⟨x, hx⟩ := hf f (by simp)
  rw [ho, hs, List.take_of_length_le (by rw [List.length_drop]; omega)] at hx
  exact h n _ x hx
theorem opnF_cons {α β : Type} {P : Program} {f : Field} {fs : List Field} {off : Nat} {d : Kd α} {e : Kd β} {g : α → Prop} {g' : β → Prop} (ho : f.offset = off) (hs : P.cellsOf f.type = d.sz) (h : Opn P f.type d g)
    (ht : OpnF P fs (off + d.sz) e g') : OpnF P (f :: fs) off (Kd.pair d e) fun x => g x.1 ∧ g' x.2 := by
  intro H enc w base spare held n cs hl hf
  have hl' : cs.length = off + (d.sz + e.sz) := hl
  obtain ⟨x, hx⟩ := hf f (by simp)
  rw [ho, hs] at hx
  obtain ⟨a, ha, hga⟩ := h n _ x hx
  obtain ⟨b, hb, hgb⟩ := ht (H := H) (enc := enc) (w := w) (base := base) (spare := spare) (held := held) n cs (by omega) (fun f' hf' => hf f' (List.mem_cons_of_mem _ hf'))
  exact ⟨(a, b), ⟨_, _, by rw [← List.drop_drop]; exact (List.take_append_drop d.sz (cs.drop off)).symm, ha, hb⟩, hga, hgb⟩
theorem opn_struct {β : Type} {P : Program} {t : TypeId} {fs : Array Field} {d : Kd β} {g : β → Prop} (ht : P.underlying t = some (.struct fs)) (hs : P.cellsOf t = d.sz) (h : OpnF P fs.toList 0 d g) : Opn P t d g := by
  intro H enc w base spare held n cs x hx
  obtain ⟨xs, n', _, _, hl, hxl, hf⟩ := DataW.trod_struct ht hx
  obtain ⟨b, hb, hg⟩ := h (H := H) (enc := enc) (w := w) (base := base) (spare := spare) (held := held) n' cs (by omega) (fun f hf' => by
    obtain ⟨i, hi, rfl⟩ := List.mem_iff_getElem.1 hf'
    have hi' : i < fs.size := by simpa using hi
    have := hf i fs[i] (by simp [hi'])
    rw [List.getElem?_eq_getElem (by omega)] at this
    exact ⟨_, by simpa using this⟩)
  exact ⟨b, by simpa using hb, hg⟩
end Go.Proofs.Ytejnbjclcdmopaa.MO
end
