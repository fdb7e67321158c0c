/- Lines of 2 texts of this seat, merged by wip/shake.py (a program of this session): what the statement's proof does not use is left out. -/
import Derived.Test.YtejnbjclcdmopaaZKeyMade3
import Derived.ChangeSlices
import Derived.SizedLaws

section
set_option linter.unusedVariables false
namespace Go.Proofs.Ytejnbjclcdmopaa.Pure
open Go.RowKit Go.Proofs.Ytejnbjclcdmopaa.PM Go.Proofs.YtejnbjclcdmopaaW.PrintWords Go.Proofs.YtejnbjclcdmopaaW.PrintLast Go.Proofs.YtejnbjclcdmopaaW.PrintMore Go.Proofs.Ytejnbjclcdmopaa.MB
def gk (l : List S34) (i : Nat) : S34 := l.getD i z34
theorem rd_gk (l : List S34) (i : Nat) : rd_T34 l (i : Int) = gk l i := by unfold rd_T34 gk; rw [Int.toNat_natCast]
theorem gk_app (l m : List S34) (i : Nat) (h : i < l.length) : gk (l ++ m) i = gk l i := by
  unfold gk; rw [List.getD_eq_getElem?_getD, List.getD_eq_getElem?_getD, List.getElem?_append_left h]
theorem gk_end (l : List S34) (p : S34) : gk (l ++ [p]) l.length = p := by
  unfold gk; rw [List.getD_eq_getElem?_getD, List.getElem?_append_right (Nat.le_refl _)]; simp
def kgood (p : S34) : Prop := 0 ≤ p.f0 ∧ p.f0 ≤ 1000000 ∧ way p.f2 p.f3.f0 p.f3.f1 p.f3.f2 p.f3.f3 = true ∧ -2097152 ≤ p.f1 ∧ p.f1 ≤ 2097152
structure Good (l : List S34) (at_ : Int) : Prop where
  each : ∀ i, i < l.length → kgood (gk l i)
  rise : ∀ i, i + 1 < l.length → (gk l i).f0 < (gk l (i + 1)).f0
  last : ∀ i, i < l.length → (gk l i).f0 < at_
theorem Good.snoc {l : List S34} {at_ at2 : Int} (h : Good l at_) (p : S34) (hp : kgood p) (e : p.f0 = at_) (h2 : at_ < at2) : Good (l ++ [p]) at2 := by
  have hn : (l ++ [p]).length = l.length + 1 := by simp
  refine ⟨fun i hi => ?_, fun i hi => ?_, fun i hi => ?_⟩
  · by_cases c : i < l.length
    · rw [gk_app _ _ _ c]; exact h.each i c
    · rw [show i = l.length by omega, gk_end]; exact hp
  · by_cases c : i + 1 < l.length
    · rw [gk_app _ _ _ c, gk_app _ _ _ (by omega)]; exact h.rise i c
    · rw [show i + 1 = l.length by omega, gk_end, gk_app _ _ _ (by omega), e]; exact h.last i (by omega)
  · by_cases c : i < l.length
    · rw [gk_app _ _ _ c]; have := h.last i c; omega
    · rw [show i = l.length by omega, gk_end]; omega
theorem Good.le {l : List S34} {at_ : Int} (h : Good l at_) : ∀ (d i : Nat), i + d < l.length → (gk l i).f0 ≤ (gk l (i + d)).f0
  | 0, i, _ => Int.le_refl _
  | d + 1, i, hi => by
    have h1 := h.le d i (by omega)
    have h2 := h.rise (i + d) (by omega)
    rw [show i + (d + 1) = i + d + 1 by omega]; omega
theorem kok_t (l : List S34) (n : Nat) (hp : kgood (gk l n)) (hr : n > 0 → (gk l (n - 1)).f0 < (gk l n).f0) : kok l (n : Int) = true := by
  obtain ⟨h1, h2, h3, h4, h5⟩ := hp
  unfold kok stp
  rw [rd_gk, h3, decide_eq_true (show -1073741824 ≤ (gk l n).f0 by omega), decide_eq_true (show (gk l n).f0 ≤ 1073741824 by omega), decide_eq_true (show -67108864 ≤ (gk l n).f1 by omega), decide_eq_true (show (gk l n).f1 ≤ 67108864 by omega), decide_eq_true]
  · rfl
  · intro h
    rw [show (n : Int) - 1 = ((n - 1 : Nat) : Int) by omega, rd_gk]; exact hr (by omega)
theorem kok_f (l : List S34) (n : Nat) (hn : n > 0) (hr : ¬ (gk l (n - 1)).f0 < (gk l n).f0) : kok l (n : Int) = false := by
  unfold kok stp
  rw [rd_gk, show (n : Int) - 1 = ((n - 1 : Nat) : Int) by omega, rd_gk, decide_eq_false (show ¬ ((n : Int) > 0 → (gk l (n - 1)).f0 < (gk l n).f0) from fun h => hr (h (by omega)))]
  simp
theorem krt_t (l : List S34) (hL : l.length ≤ 32) : ∀ (d i : Nat), (∀ j, j < d → kok l ((i + j : Nat) : Int) = true) → krt l d (i : Int) = true
  | 0, i, _ => decide_eq_true (by omega)
  | d + 1, i, h => by
    have h0 := h 0 (by omega)
    have ih := krt_t l hL d (i + 1) (fun j hj => by have := h (j + 1) (by omega); rw [show i + 1 + j = i + (j + 1) by omega]; exact this)
    simp only [krt]
    rw [show (i : Int) = ((i + 0 : Nat) : Int) by omega, h0, show (((i + 0 : Nat) : Int) + 1) = ((i + 1 : Nat) : Int) by omega, ih]; rfl
theorem krt_f (l : List S34) : ∀ (d i j : Nat), j < d → kok l ((i + j : Nat) : Int) = false → krt l d (i : Int) = false
  | 0, i, j, hj, _ => absurd hj (by omega)
  | d + 1, i, 0, _, h => by simp only [krt]; rw [show (i : Int) = ((i + 0 : Nat) : Int) by omega, h]; rfl
  | d + 1, i, j + 1, hj, h => by
    have ih := krt_f l d (i + 1) j (by omega) (by rw [show i + 1 + j = i + (j + 1) by omega]; exact h)
    simp only [krt]
    rw [show ((i : Int) + 1) = ((i + 1 : Nat) : Int) by omega, ih, Bool.and_false]
theorem ease1_t (a lo hi : Int) (h1 : lo ≤ a) (h2 : a ≤ hi) : ease_Right_1.f a lo hi = some true := by
  unfold ease_Right_1.f; rw [if_pos h1, decide_eq_true h2]
theorem how_ex (tape : List Int) (s : Int) (hs : 0 ≤ s) (hl : (tape.length : Int) < 140737488355328) : ∃ h x1 y1 x2 y2 s', (∀ k, 1 ≤ k → mutoscopekeep_Tape_how.f k tape s = some (h, x1, y1, x2, y2, s')) ∧ way h x1 y1 x2 y2 = true ∧ 0 ≤ s' := by
  obtain ⟨v, s1, e1, l1, u1, p1⟩ := next_ex tape s 4 hs hl (by decide)
  by_cases h0 : v = 0
  · refine ⟨0, 0, 0, 0, 0, s1, fun k hk => ?_, by decide, p1⟩
    unfold mutoscopekeep_Tape_how.f; rw [e1 k hk]; simp only [Option.bind_some]; rw [if_pos h0]
  · by_cases h1 : v = 1
    · obtain ⟨a, s2, e2, l2, u2, p2⟩ := next_ex tape s1 65537 p1 hl (by decide)
      obtain ⟨b, s3, e3, l3, u3, p3⟩ := number_gx (-1) 1 (by decide) (by decide) (by decide) tape s2 p2 hl
      obtain ⟨c, s4, e4, l4, u4, p4⟩ := next_ex tape s3 65537 p3 hl (by decide)
      obtain ⟨d, s5, e5, l5, u5, p5⟩ := number_gx 0 2 (by decide) (by decide) (by decide) tape s4 p4 hl
      refine ⟨2, a, b, c, d, s5, fun k hk => ?_, ?_, p5⟩
      · unfold mutoscopekeep_Tape_how.f mutoscopekeep_Tape_ease.f
        rw [e1 k hk]; simp only [Option.bind_some]
        rw [if_neg h0, if_pos h1, e2 k hk]; simp only [Option.bind_some]
        rw [e3 k hk]; simp only [Option.bind_some]
        rw [e4 k hk]; simp only [Option.bind_some]
        rw [e5 k hk]; simp only [Option.bind_some]
      · unfold way ease_Right.f
        rw [if_pos rfl, ease1_t a 0 65536 (by omega) (by omega)]; simp only [Option.bind_some, if_true]
        rw [ease1_t c 0 65536 (by omega) (by omega)]; simp only [Option.bind_some, if_true]
        rw [ease1_t b (-131072) 196608 (by omega) (by omega)]; simp only [Option.bind_some, if_true]
        rw [ease1_t d (-131072) 196608 (by omega) (by omega)]; rfl
    · refine ⟨1, 0, 0, 0, 0, s1, fun k hk => ?_, by decide, p1⟩
      unfold mutoscopekeep_Tape_how.f; rw [e1 k hk]; simp only [Option.bind_some]; rw [if_neg h0, if_neg h1]
theorem keys_ex (tape : List Int) (hl : (tape.length : Int) < 140737488355328) : ∃ l s' at_, (Evt fun k => mutoscopekeep_Tape_Keys.f k tape 0 (-5) 9 = some (l, s')) ∧ Good l at_ ∧ l.length ≤ 20 := by
  have loop : ∀ (m : Nat) (l : List S34) (at_ s : Int), 0 ≤ s → 0 ≤ at_ → at_ + 20 * m ≤ 1000 → Good l at_ → l.length + m ≤ 20 →
      ∃ l' s' at', (Evt fun k => mutoscopekeep_Tape_Keys.l0 k (-5) 9 l at_ (m : Int) tape s = some (l', s')) ∧ Good l' at' ∧ l'.length ≤ 20 := by
    intro m
    induction m with
    | zero =>
      intro l at_ s hs h0 h1 hg hn
      refine ⟨l, s, at_, (Evt.all (p := fun _ => True) fun _ => trivial).succ fun k _ => ?_, hg, by omega⟩
      simp only [mutoscopekeep_Tape_Keys.l0]; rw [if_neg (by omega)]
    | succ m ih =>
      intro l at_ s hs h0 h1 hg hn
      obtain ⟨v, s1, e1, l1, u1, p1⟩ := number_gx (-5) 9 (by decide) (by decide) (by decide) tape s hs hl
      obtain ⟨h, x1, y1, x2, y2, s2, e2, hw, p2⟩ := how_ex tape s1 p1 hl
      obtain ⟨n, s3, e3, l3, u3, p3⟩ := next_ex tape s2 8 p2 hl (by decide)
      have hp : kgood (⟨at_, v, h, (⟨x1, y1, x2, y2⟩ : S23)⟩ : S34) := ⟨h0, (show at_ ≤ 1000000 by omega), hw, (show -2097152 ≤ v by omega), (show v ≤ 2097152 by omega)⟩
      obtain ⟨l', s', at', he, r1, r2⟩ := ih (l ++ [(⟨at_, v, h, (⟨x1, y1, x2, y2⟩ : S23)⟩ : S34)]) (at_ + 1 + n) s3 p3 (by omega) (by omega) (hg.snoc _ hp rfl (by omega)) (by rw [List.length_append, List.length_singleton]; omega)
      refine ⟨l', s', at', (he.and (Evt.of (p := fun k => 1 ≤ k) 1 fun k h => h)).succ fun k hk => ?_, r1, r2⟩
      simp only [mutoscopekeep_Tape_Keys.l0]
      rw [if_pos (by omega), e1 k hk.2]; simp only [Option.bind_some]
      rw [e2 k hk.2]; simp only [Option.bind_some]
      rw [if_pos (by omega), e3 k hk.2]; simp only [Option.bind_some]
      rw [w64 (x := at_ + 1) (by omega) (by omega), w64 (x := at_ + 1 + n) (by omega) (by omega), w64 (x := ((m + 1 : Nat) : Int) - 1) (by omega) (by omega), show ((m + 1 : Nat) : Int) - 1 = (m : Int) by omega]
      exact hk.1
  obtain ⟨v1, s1, e1, l1, u1, p1⟩ := next_ex tape 0 6 (by decide) hl (by decide)
  obtain ⟨v2, s2, e2, l2, u2, p2⟩ := next_ex tape s1 4 p1 hl (by decide)
  obtain ⟨l', s', at', he, r1, r2⟩ := loop v2.toNat [] v1 s2 p2 l1 (by omega) ⟨fun i hi => absurd hi (by simp), fun i hi => absurd hi (by simp), fun i hi => absurd hi (by simp)⟩ (by simp only [List.length_nil]; omega)
  refine ⟨l', s', at', (he.and (Evt.of (p := fun k => 1 ≤ k) 1 fun k h => h)).mono fun k hk => ?_, r1, r2⟩
  unfold mutoscopekeep_Tape_Keys.f
  rw [e1 k hk.2]; simp only [Option.bind_some]
  rw [e2 k hk.2]; simp only [Option.bind_some]
  have e : ((v2.toNat : Nat) : Int) = v2 := by omega
  rw [← e]; exact hk.1
theorem KeyMade : mutoscopelaw5_KeyMade.Pure := by
  intro tape h1 _ _
  have hl : (tape.length : Int) < 140737488355328 := by unfold maxLen at h1; omega
  obtain ⟨l, s, at_, ⟨n, hk⟩, hg, hL⟩ := keys_ex tape hl
  refine ⟨n + 200, ?_⟩
  have r1 : krt l l.length 0 = true := krt_t l (by omega) l.length 0 (fun j hj => by
    rw [Nat.zero_add]; exact kok_t l j (hg.each j hj) (fun h => by have := hg.rise (j - 1) (by omega); rw [show j - 1 + 1 = j by omega] at this; exact this))
  unfold mutoscopelaw5_KeyMade.f
  rw [hk (n + 200) (by omega)]; simp only [Option.bind_some]
  rw [key_Right_eq l (by omega) (by omega), r1]; simp only [Option.bind_some, if_true]
  by_cases c : (l.length : Int) = 0
  · rw [if_pos c, known5 (by omega)]; rfl
  · have e1 : wrap64 ((l.length : Int) - 1) = ((l.length - 1 : Nat) : Int) := by rw [w64 (by omega) (by omega)]; omega
    rw [if_neg c, if_pos (by simp only [List.length_nil]; omega), e1, if_pos (by omega), if_pos (by omega), rd_gk]
    have e2 : (⟨(gk l (l.length - 1)).f0, (gk l (l.length - 1)).f1, (gk l (l.length - 1)).f2, (⟨(gk l (l.length - 1)).f3.f0, (gk l (l.length - 1)).f3.f1, (gk l (l.length - 1)).f3.f2, (gk l (l.length - 1)).f3.f3⟩ : S23)⟩ : S34) = gk l (l.length - 1) := rfl
    rw [e2]
    generalize hp : gk l (l.length - 1) = p at *
    rw [List.nil_append]
    have n1 : (l ++ [p]).length = l.length + 1 := by simp
    have n2 : ([p] ++ l).length = l.length + 1 := by simp
    have f1 : krt (l ++ [p]) (l ++ [p]).length 0 = false := krt_f (l ++ [p]) (l ++ [p]).length 0 l.length (by omega) (by
      rw [Nat.zero_add]; refine kok_f _ _ (by omega) ?_
      rw [gk_end, gk_app _ _ _ (by omega), hp]; omega)
    have f2 : krt ([p] ++ l) ([p] ++ l).length 0 = false := krt_f ([p] ++ l) ([p] ++ l).length 0 1 (by omega) (by
      refine kok_f _ _ (by omega) ?_
      have h3 := hg.le (l.length - 1) 0 (by omega)
      rw [Nat.zero_add, hp] at h3
      show ¬ p.f0 < (gk l 0).f0
      omega)
    rw [if_pos (by simp only [List.length_singleton]; omega), key_Right_eq (l ++ [p]) (by omega) (by omega), f1]
    simp only [Option.bind_some]
    rw [if_neg (by decide), if_pos (by simp only [List.length_singleton]; omega), key_Right_eq ([p] ++ l) (by omega) (by omega), f2]
    simp only [Option.bind_some]
    rw [if_neg (by decide), known5 (by omega)]
    rfl
end Go.Proofs.Ytejnbjclcdmopaa.Pure
end

section
namespace Go.Proofs.YtejnbjclcdmopaaW.PrintWords
open Go.ChangeShapes Go.WideShapes
theorem sized_ints {H : Type} {enc : TypeId × Value → H} {P : Program} {W : World} {base : Nat} {spare : Nat → Bool} {held : Bool} {t e : TypeId} {k : IntKind} {a : Option Addr} {len cap : Nat} {d : DataW H} {ps : List MemPlace} {ts : List TypeId} {ds : List (DataW H)} {j : Nat}
    (hsz : (DataW.weightsEach P ts ds).all (· ≤ reachBytes) = true) (ht : ts[j]? = some t) (hd : ds[j]? = some d) (hu : P.underlying t = some (.slice e)) (he : P.underlying e = some (.int k)) (hc : P.cellsOf e = 1) {B : Nat} (hB : P.bytesOf e = B)
    (h : DataW.Trod enc P W base spare held t (.slice a len cap) d ps) : len * B ≤ 140737488351232 := by
  obtain ⟨fuel, hf⟩ := h
  rcases open_ints hu he hc hf with ⟨hcs, _⟩ | ⟨x, l, c, zs, hcs, _, hl, _, hz, hx, _, _⟩
  · simp [Value.cells] at hcs
    obtain ⟨rfl, rfl, rfl⟩ := hcs
    simp
  · simp [Value.cells] at hcs
    obtain ⟨rfl, rfl, rfl⟩ := hcs
    obtain ⟨hx, _⟩ := Prod.mk.inj hx
    subst hx
    have z := sized_slice hsz ht hd hu
    rw [hB] at z
    have hl2 : len ≤ zs.length := by
      rw [hz]
      split
      · exact hl
      · exact Nat.le_refl _
    have h1 : (lits (H := H) k (zs.take len)).length + (lits (H := H) k (zs.drop len)).length = zs.length := by
      simp [lits]
      omega
    rw [h1] at z
    exact Nat.le_trans (Nat.mul_le_mul_right _ hl2) z
end Go.Proofs.YtejnbjclcdmopaaW.PrintWords
end
