/- Lines of 7 texts of this seat, merged by wip/shake.py (a program of this session): what the statement's proof does not use is left out. -/
import Derived.Test.YtejnbjclcdmopaaZKeyShifts0
import Derived.Test.YtejnbjclcdmopaaProg

section
namespace Go.Proofs.Ytejnbjclcdmopaa.PA
open Go.RowKit Go.Proofs.YtejnbjclcdmopaaW.PrintWords Go.Proofs.YtejnbjclcdmopaaW.PrintLast Go.Proofs.YtejnbjclcdmopaaW.PrintMore
attribute [local go_sem] max2_int min2_int max_two min_two max_three min_three max_four min_four
attribute [local go_sem] Go.Proofs.Ytejnbjclcdmopaa.MS.isSome_setCell
set_option linter.unusedVariables false
set_option linter.unusedSimpArgs false
def errW : Option Int → Value
 | none => .nilIface
 | some c => .iface 0 (.int .i64 c)
theorem errW_none : errW none = .nilIface := rfl
theorem errW_some (c : Int) : errW (some c) = .iface 0 (.int .i64 c) := rfl
theorem info34 : (Try.prog.info? 34).map (fun i => (i.zero, i.size, i.bytes)) = some (some (.agg #[(.int .i64 0), (.int .i64 0), (.int .i64 0), (.int .i64 0), (.int .i64 0), (.int .i64 0), (.int .i64 0)]), 7, 56) := by kernel_rfl
structure S23 where
 f0 : Int
 f1 : Int
 f2 : Int
 f3 : Int
def z23 : S23 := ⟨(0 : Int), (0 : Int), (0 : Int), (0 : Int)⟩
def k23 : Kd S23 := Kd.iso (Kd.pair (Kd.int .i64) (Kd.pair (Kd.int .i64) (Kd.pair (Kd.int .i64) (Kd.int .i64)))) (fun x : S23 => (x.f0, x.f1, x.f2, x.f3))
theorem k23_open {w : World} {x : S23} {cs : List Value} (h : k23.K w x cs) : cs = [.int .i64 x.f0, .int .i64 x.f1, .int .i64 x.f2, .int .i64 x.f3] := by
 obtain ⟨_, _, rfl, rfl, ⟨_, _, rfl, rfl, ⟨_, _, rfl, rfl, rfl⟩⟩⟩ := h
 exact rfl
theorem k23_openM {w : World} {base : Nat} {ok : Nat → Prop} {x : S23} {cs : List Value} (h : k23.M w base ok x cs) : cs = [.int .i64 x.f0, .int .i64 x.f1, .int .i64 x.f2, .int .i64 x.f3] := by
 obtain ⟨_, _, rfl, rfl, ⟨_, _, rfl, rfl, ⟨_, _, rfl, rfl, rfl⟩⟩⟩ := h
 exact rfl
theorem k23_mkM (w : World) (base : Nat) (ok : Nat → Prop) (x : S23)  : k23.M w base ok x [.int .i64 x.f0, .int .i64 x.f1, .int .i64 x.f2, .int .i64 x.f3] := ⟨[.int .i64 x.f0], [.int .i64 x.f1, .int .i64 x.f2, .int .i64 x.f3], rfl, rfl, ⟨[.int .i64 x.f1], [.int .i64 x.f2, .int .i64 x.f3], rfl, rfl, ⟨[.int .i64 x.f2], [.int .i64 x.f3], rfl, rfl, rfl⟩⟩⟩
structure S34 where
 f0 : Int
 f1 : Int
 f2 : Int
 f3 : S23
def z34 : S34 := ⟨(0 : Int), (0 : Int), (0 : Int), z23⟩
def k34 : Kd S34 := Kd.iso (Kd.pair (Kd.int .i64) (Kd.pair (Kd.int .i64) (Kd.pair (Kd.int .i64) k23))) (fun x : S34 => (x.f0, x.f1, x.f2, x.f3))
theorem k34_open {w : World} {x : S34} {cs : List Value} (h : k34.K w x cs) : cs = [.int .i64 x.f0, .int .i64 x.f1, .int .i64 x.f2, .int .i64 x.f3.f0, .int .i64 x.f3.f1, .int .i64 x.f3.f2, .int .i64 x.f3.f3] := by
 obtain ⟨_, _, rfl, rfl, ⟨_, _, rfl, rfl, ⟨_, _, rfl, rfl, s3⟩⟩⟩ := h
 obtain rfl := k23_open s3
 exact rfl
theorem k34_openM {w : World} {base : Nat} {ok : Nat → Prop} {x : S34} {cs : List Value} (h : k34.M w base ok x cs) : cs = [.int .i64 x.f0, .int .i64 x.f1, .int .i64 x.f2, .int .i64 x.f3.f0, .int .i64 x.f3.f1, .int .i64 x.f3.f2, .int .i64 x.f3.f3] := by
 obtain ⟨_, _, rfl, rfl, ⟨_, _, rfl, rfl, ⟨_, _, rfl, rfl, s3⟩⟩⟩ := h
 obtain rfl := k23_openM s3
 exact rfl
theorem k34_mkM (w : World) (base : Nat) (ok : Nat → Prop) (x : S34)  : k34.M w base ok x [.int .i64 x.f0, .int .i64 x.f1, .int .i64 x.f2, .int .i64 x.f3.f0, .int .i64 x.f3.f1, .int .i64 x.f3.f2, .int .i64 x.f3.f3] := ⟨[.int .i64 x.f0], [.int .i64 x.f1, .int .i64 x.f2, .int .i64 x.f3.f0, .int .i64 x.f3.f1, .int .i64 x.f3.f2, .int .i64 x.f3.f3], rfl, rfl, ⟨[.int .i64 x.f1], [.int .i64 x.f2, .int .i64 x.f3.f0, .int .i64 x.f3.f1, .int .i64 x.f3.f2, .int .i64 x.f3.f3], rfl, rfl, ⟨[.int .i64 x.f2], [.int .i64 x.f3.f0, .int .i64 x.f3.f1, .int .i64 x.f3.f2, .int .i64 x.f3.f3], rfl, rfl, (k23_mkM w base ok x.f3 )⟩⟩⟩
def rd_T34 (xs : List S34) (i : Int) : S34 := xs.getD i.toNat z34
theorem at_T34 {w : World} {A : Option Addr} {n : Nat} {xs : List S34} (h : Kd.C k34 w A n xs) (i : Int) (h0 : 0 ≤ i) (h1 : i < n) : ∃ ad , A = some ad ∧ w.cell? (ad.add (i.toNat * 7)) = some (.int .i64 (rd_T34 xs i).f0) ∧ w.cell? ⟨(ad.add (i.toNat * 7)).block, (ad.add (i.toNat * 7)).off + 1, none⟩ = some (.int .i64 (rd_T34 xs i).f1) ∧ w.cell? ⟨(ad.add (i.toNat * 7)).block, (ad.add (i.toNat * 7)).off + 2, none⟩ = some (.int .i64 (rd_T34 xs i).f2) ∧ w.cell? ⟨(ad.add (i.toNat * 7)).block, (ad.add (i.toNat * 7)).off + 3, none⟩ = some (.int .i64 (rd_T34 xs i).f3.f0) ∧ w.cell? ⟨(ad.add (i.toNat * 7)).block, (ad.add (i.toNat * 7)).off + 4, none⟩ = some (.int .i64 (rd_T34 xs i).f3.f1) ∧ w.cell? ⟨(ad.add (i.toNat * 7)).block, (ad.add (i.toNat * 7)).off + 5, none⟩ = some (.int .i64 (rd_T34 xs i).f3.f2) ∧ w.cell? ⟨(ad.add (i.toNat * 7)).block, (ad.add (i.toNat * 7)).off + 6, none⟩ = some (.int .i64 (rd_T34 xs i).f3.f3) := by
 obtain ⟨ad, c, e, _, hK, hc0⟩ := Kd.C_get h z34 i h0 h1
 have hc : ∀ j u, c[j]? = some u → w.cell? (ad.add (i.toNat * 7 + j)) = some u := hc0
 obtain rfl := k34_open hK
 exact ⟨ad, e, hc 0 _ rfl, by rw [← add_field _ _ 1 (by omega)]; exact hc 1 _ rfl, by rw [← add_field _ _ 2 (by omega)]; exact hc 2 _ rfl, by rw [← add_field _ _ 3 (by omega)]; exact hc 3 _ rfl, by rw [← add_field _ _ 4 (by omega)]; exact hc 4 _ rfl, by rw [← add_field _ _ 5 (by omega)]; exact hc 5 _ rfl, by rw [← add_field _ _ 6 (by omega)]; exact hc 6 _ rfl⟩
end Go.Proofs.Ytejnbjclcdmopaa.PA
end

section
namespace Go.Proofs.Ytejnbjclcdmopaa.PA
open Go.RowKit Go.Proofs.YtejnbjclcdmopaaW.PrintWords Go.Proofs.YtejnbjclcdmopaaW.PrintLast Go.Proofs.YtejnbjclcdmopaaW.PrintMore
attribute [local go_sem] max2_int min2_int max_two min_two max_three min_three max_four min_four
attribute [local go_sem] Go.Proofs.Ytejnbjclcdmopaa.MS.isSome_setCell
set_option linter.unusedVariables false
set_option linter.unusedSimpArgs false
mutual
def mutoscopelaw5_rising.l0 : Nat → List (S34) → List (S34) → Int → Int → Option ((List (S34)))
 | 0, _, _, _, _ => none
 | k + 1, x0, x3, x4, x5 => if x5 < (x0.length : Int) then (mutoscopelaw5_rising.j1 k x0 x3 x4 x5 (decide (x5 < 40))) else (mutoscopelaw5_rising.j1 k x0 x3 x4 x5 false)
def mutoscopelaw5_rising.j1 : Nat → List (S34) → List (S34) → Int → Int → Bool → Option ((List (S34)))
 | 0, _, _, _, _, _ => none
 | k + 1, x0, x3, x4, x5, x14 => if x14 = true then (if 0 ≤ x5 then (if x5 < (x0.length : Int) then (if (Int.tmod (Go.bits .and .i64 (Int.tmod ((rd_T34 x0 x5).f1) 67108864) 3) 3) = 2 then (if x3.length < 2513169434916 then (mutoscopelaw5_rising.l0 k x0 (x3 ++ [(⟨wrap64 ((wrap64 (x4 + 1)) + (Go.bits .and .i64 ((rd_T34 x0 x5).f0) 7)), Int.tmod ((rd_T34 x0 x5).f1) 67108864, Int.tmod (Go.bits .and .i64 (Int.tmod ((rd_T34 x0 x5).f1) 67108864) 3) 3, (⟨Go.bits .and .i64 ((rd_T34 x0 x5).f3.f0) 65535, Int.tmod ((rd_T34 x0 x5).f3.f1) 65536, Go.bits .and .i64 ((rd_T34 x0 x5).f3.f2) 65535, Int.tmod ((rd_T34 x0 x5).f3.f3) 65536⟩ : S23)⟩ : S34)]) (wrap64 ((wrap64 (x4 + 1)) + (Go.bits .and .i64 ((rd_T34 x0 x5).f0) 7))) (wrap64 (x5 + 1))) else (none)) else (if x3.length < 2513169434916 then (mutoscopelaw5_rising.l0 k x0 (x3 ++ [(⟨wrap64 ((wrap64 (x4 + 1)) + (Go.bits .and .i64 ((rd_T34 x0 x5).f0) 7)), Int.tmod ((rd_T34 x0 x5).f1) 67108864, Int.tmod (Go.bits .and .i64 (Int.tmod ((rd_T34 x0 x5).f1) 67108864) 3) 3, (⟨0, 0, 0, 0⟩ : S23)⟩ : S34)]) (wrap64 ((wrap64 (x4 + 1)) + (Go.bits .and .i64 ((rd_T34 x0 x5).f0) 7))) (wrap64 (x5 + 1))) else (none))) else (none)) else (none)) else (some x3)
end
def mutoscopelaw5_rising.f (k : Nat) (l0 : List (S34)) : Option ((List (S34))) := mutoscopelaw5_rising.l0 k l0 ([] : List (S34)) (-5) 0
set_option maxHeartbeats 8000000 in
set_option maxRecDepth 100000 in
theorem mutoscopelaw5_rising.calls (k : Nat) (A0 : Option Addr) (c0 : Nat) (l0 : List (S34)) (r : List (S34)) (w : World) (hr0 : Kd.C k34 w A0 l0.length l0) (hc0 : l0.length ≤ c0) (h : mutoscopelaw5_rising.f k l0 = some r) :
  Calls Try.prog 17 #[.slice A0 l0.length c0] w fun e w' => ∃ v0_ : Value, e = .returned (v0_) ∧ Kd.R k34 34 w' w.heap.size (fun _ => True) v0_ r ∧ Below w.heap.size w w' := by
 have hu34 := Try.underlying34
 have hu23 := Try.underlying23
 have HR0 := Aside0.mk hr0
 have HC0 := Aside0.mk hc0
 clear hr0 hc0
 have HB := Aside0.mk (Below.refl w.heap.size w)
 have H : (mutoscopelaw5_rising.l0 k l0 ([] : List (S34)) (-5) 0) = some r := h
 clear h
 have H' := Aside0.mk H
 clear H
 go_enter Try.func17, Try.ntmps17
 go_wp2
 go_loopg [3, 4, 5] k (fun kq v3 v4 v5 w' => ∃ (x3_1 : List (S34)) (x4_1 : Int) (x5_1 : Int), v4 = .int .i64 x4_1 ∧ v5 = .int .i64 x5_1 ∧ Aside0 (mutoscopelaw5_rising.l0 kq l0 x3_1 x4_1 x5_1 = some r) ∧ Aside0 (kq ≤ k) ∧ Aside0 (Kd.R k34 34 w' w.heap.size (fun _ => True) v3 x3_1) ∧ Aside0 (Below w.heap.size w w'))
 case atStart => exact ⟨(([] : List (S34))), ((-5)), (0), (by first | rfl | (simp; done) | (simp [*]; done)), (by first | rfl | (simp; done) | (simp [*]; done)), H', ⟨Nat.le_refl _⟩, ⟨by first | exact Kd.R_nil _ _ _ _ _ | exact Kd.N_nil _ _ _ _ _ | exact Kd.V_nil _ _ _ _ _ | exact Kd.Q_nil _ _ _ _ _ | exact Kd.S_nil _ _ _ _ _⟩, ⟨by repeat (first | (with_reducible first | exact HB.out | apply below_alloc | apply pw_below_drewN | apply below_drew1) | exact HB.out)⟩⟩
 case round =>
  clear H'
  try clear c1
  obtain ⟨x3_1, x4_1, x5_1, rfl, rfl, HA, HK1, HO_3, HB⟩ := hrel
  cases gk with
  | zero => exact absurd HA.out (by simp [mutoscopelaw5_rising.l0])
  | succ k1 =>
   have H := HA.out
   clear HA
   simp only [mutoscopelaw5_rising.l0] at H
   have HC2 := Aside0.mk H
   clear H
   go_upto_region 4 with (fail)
   go_cut [14] (fun v14 wc => ∃ (kq : Nat) (x14_1 : Bool), v14 = .bool x14_1 ∧ Aside0 (mutoscopelaw5_rising.j1 kq l0 x3_1 x4_1 x5_1 x14_1 = some r) ∧ Aside0 (kq ≤ k1) ∧ Aside0 (Kd.R k34 34 wc w.heap.size (fun _ => True) u3 x3_1) ∧ Aside0 (Below w.heap.size w wc))
   case first =>
    have H := HC2.out
    clear HC2
    by_cases c3 : x5_1 < (l0.length : Int)
    ·rw [if_pos c3] at H
     have c3b0 : decide (x5_1 < (l0.length : Int)) = true := decide_eq_true c3
     clear c3
     (first | rw [c3b0] | (simp only [i64_w, i32_w]; rw [c3b0]) | skip)
     have H' := Aside0.mk H
     clear H
     go_wp2
     go_meet
     case rel => exact ⟨_, (decide (x5_1 < 40)), (by first | rfl | (simp; done) | (simp [*]; done)), H', ⟨by have := HK1.out; first | omega | exact Nat.le_refl _⟩, ⟨by (with_reducible repeat (first | apply Kd.R_alloc | apply Kd.R_drewN | apply Kd.R_drew)); exact HO_3.out⟩, ⟨by repeat (first | (with_reducible first | exact HB.out | apply below_alloc | apply pw_below_drewN | apply below_drew1) | exact HB.out)⟩⟩
    ·rw [if_neg c3] at H
     have c3b0 : decide (x5_1 < (l0.length : Int)) = false := decide_eq_false c3
     clear c3
     (first | rw [c3b0] | (simp only [i64_w, i32_w]; rw [c3b0]) | skip)
     have H' := Aside0.mk H
     clear H
     go_wp2
     go_meet
     case rel => exact ⟨_, (false), (by first | rfl | (simp; done) | (simp [*]; done)), H', ⟨by have := HK1.out; first | omega | exact Nat.le_refl _⟩, ⟨by (with_reducible repeat (first | apply Kd.R_alloc | apply Kd.R_drewN | apply Kd.R_drew)); exact HO_3.out⟩, ⟨by repeat (first | (with_reducible first | exact HB.out | apply below_alloc | apply pw_below_drewN | apply below_drew1) | exact HB.out)⟩⟩
   case rest =>
    clear HC2
    try clear c1
    try clear p2
    try clear c3
    try clear c3b0
    obtain ⟨kq, x14_1, rfl, HA, HJ1, HO_3, HB⟩ := hcut
    cases kq with
    | zero => exact absurd HA.out (by simp [mutoscopelaw5_rising.j1])
    | succ kj1 =>
     have H := HA.out
     clear HA
     simp only [mutoscopelaw5_rising.j1] at H
     by_cases c4 : x14_1 = true
     ·subst c4
      have H1 : (if 0 ≤ x5_1 then (if x5_1 < (l0.length : Int) then (if (Int.tmod (Go.bits .and .i64 (Int.tmod ((rd_T34 l0 x5_1).f1) 67108864) 3) 3) = 2 then (if x3_1.length < 2513169434916 then (mutoscopelaw5_rising.l0 kj1 l0 (x3_1 ++ [(⟨wrap64 ((wrap64 (x4_1 + 1)) + (Go.bits .and .i64 ((rd_T34 l0 x5_1).f0) 7)), Int.tmod ((rd_T34 l0 x5_1).f1) 67108864, Int.tmod (Go.bits .and .i64 (Int.tmod ((rd_T34 l0 x5_1).f1) 67108864) 3) 3, (⟨Go.bits .and .i64 ((rd_T34 l0 x5_1).f3.f0) 65535, Int.tmod ((rd_T34 l0 x5_1).f3.f1) 65536, Go.bits .and .i64 ((rd_T34 l0 x5_1).f3.f2) 65535, Int.tmod ((rd_T34 l0 x5_1).f3.f3) 65536⟩ : S23)⟩ : S34)]) (wrap64 ((wrap64 (x4_1 + 1)) + (Go.bits .and .i64 ((rd_T34 l0 x5_1).f0) 7))) (wrap64 (x5_1 + 1))) else (none)) else (if x3_1.length < 2513169434916 then (mutoscopelaw5_rising.l0 kj1 l0 (x3_1 ++ [(⟨wrap64 ((wrap64 (x4_1 + 1)) + (Go.bits .and .i64 ((rd_T34 l0 x5_1).f0) 7)), Int.tmod ((rd_T34 l0 x5_1).f1) 67108864, Int.tmod (Go.bits .and .i64 (Int.tmod ((rd_T34 l0 x5_1).f1) 67108864) 3) 3, (⟨0, 0, 0, 0⟩ : S23)⟩ : S34)]) (wrap64 ((wrap64 (x4_1 + 1)) + (Go.bits .and .i64 ((rd_T34 l0 x5_1).f0) 7))) (wrap64 (x5_1 + 1))) else (none))) else (none)) else (none)) = some r := by rw [if_pos rfl] at H; exact H
      clear H
      have H := H1
      clear H1
      by_cases c5 : 0 ≤ x5_1
      ·rw [if_pos c5] at H
       have c5b0 : decide (0 ≤ x5_1) = true := decide_eq_true c5
       clear c5
       by_cases c6 : x5_1 < (l0.length : Int)
       ·rw [if_pos c6] at H
        have c6b0 : decide (x5_1 < (l0.length : Int)) = true := decide_eq_true c6
        clear c6
        by_cases c7 : (Int.tmod (Go.bits .and .i64 (Int.tmod ((rd_T34 l0 x5_1).f1) 67108864) 3) 3) = 2
        ·rw [if_pos c7] at H
         have c7b0 : ((Int.tmod (Go.bits .and .i64 (Int.tmod ((rd_T34 l0 x5_1).f1) 67108864) 3) 3) == 2) = true := beq_iff_eq.mpr c7
         have c7b1 : ((Int.tmod (Go.bits .and .i64 (Int.tmod ((rd_T34 l0 x5_1).f1) 67108864) 3) 3) != 2) = false := bne_eq_false_iff_eq.mpr c7
         clear c7
         by_cases c8 : x3_1.length < 2513169434916
         ·rw [if_pos c8] at H
          have LMc8 := Aside0.mk c8
          clear c8
          obtain ⟨y248, hy248⟩ : ∃ y_ : List (S34), y_ = (x3_1 ++ [(⟨wrap64 ((wrap64 (x4_1 + 1)) + (Go.bits .and .i64 ((rd_T34 l0 x5_1).f0) 7)), Int.tmod ((rd_T34 l0 x5_1).f1) 67108864, Int.tmod (Go.bits .and .i64 (Int.tmod ((rd_T34 l0 x5_1).f1) 67108864) 3) 3, (⟨Go.bits .and .i64 ((rd_T34 l0 x5_1).f3.f0) 65535, Int.tmod ((rd_T34 l0 x5_1).f3.f1) 65536, Go.bits .and .i64 ((rd_T34 l0 x5_1).f3.f2) 65535, Int.tmod ((rd_T34 l0 x5_1).f3.f3) 65536⟩ : S23)⟩ : S34)]) := ⟨_, rfl⟩
          replace H : (mutoscopelaw5_rising.l0 kj1 l0 y248 (wrap64 ((wrap64 (x4_1 + 1)) + (Go.bits .and .i64 ((rd_T34 l0 x5_1).f0) 7))) (wrap64 (x5_1 + 1))) = some r := by first | (rw [hy248]; with_reducible exact H) | (have H2_ := (Option.bind_some _ _).symm.trans H; rw [hy248]; with_reducible exact H2_) | (have H2_ := (Option.bind_some _ _).symm.trans H; with_reducible exact H2_) | with_reducible exact H | (rw [hy248]; exact H) | exact H
          have Ny248 := Aside0.mk hy248
          clear hy248
          have H' := Aside0.mk H
          clear H
          have p246 : 0 ≤ (x5_1 : Int) := of_decide_eq_true (by first | (with_reducible assumption) | assumption)
          have q246 : x5_1 < (l0.length : Int) := of_decide_eq_true (by first | (with_reducible assumption) | assumption)
          obtain ⟨ad246, e246, hx246_0, hx246_1, hx246_2, hx246_3, hx246_4, hx246_5, hx246_6⟩ := at_T34 HR0.out x5_1 p246 q246
          cases e246
          replace hx246_0 := (HB.out.cell (World.block_lt_of_cell? w _ hx246_0)).trans hx246_0
          replace hx246_1 := (HB.out.cell (World.block_lt_of_cell? w _ hx246_1)).trans hx246_1
          replace hx246_2 := (HB.out.cell (World.block_lt_of_cell? w _ hx246_2)).trans hx246_2
          replace hx246_3 := (HB.out.cell (World.block_lt_of_cell? w _ hx246_3)).trans hx246_3
          replace hx246_4 := (HB.out.cell (World.block_lt_of_cell? w _ hx246_4)).trans hx246_4
          replace hx246_5 := (HB.out.cell (World.block_lt_of_cell? w _ hx246_5)).trans hx246_5
          replace hx246_6 := (HB.out.cell (World.block_lt_of_cell? w _ hx246_6)).trans hx246_6
          replace p246 := eq_true p246
          replace q246 := eq_true q246
          go_wp2_with (first | ((with_reducible refine gate_dst (N := 6) rfl ?_); refine box_event ?hg (N := 6) ?hd (cs := #[.int .i64 0, .int .i64 0, .int .i64 0, .int .i64 0, .int .i64 0, .int .i64 0, .int .i64 0]) (t := 34) ?hr ?_; (case hd => rfl); (case hg => rfl); (case hr => first | (go_simp; done) | (go_simp; rfl)); intro gb247 hg w9 hbox hb; have n0_ := Aside0.mk (Kd.R_below (Kd.R_elderB (by (with_reducible repeat (first | apply Kd.R_alloc | apply Kd.R_drewN | apply Kd.R_drew)); exact HO_3.out) gb247 (Nat.le_of_eq hg.symm)) hb); have n1_ := Aside0.mk (below_step (by repeat (first | (with_reducible first | exact HB.out | apply below_alloc | apply pw_below_drewN | apply below_drew1) | exact HB.out)) hb); have n2_ := Aside0.mk (hbox); have n3_ := Aside0.mk ((by rw [hg]; exact (below_size (by repeat (first | (with_reducible first | exact HB.out | apply below_alloc | apply pw_below_drewN | apply below_drew1) | exact HB.out))) : w.heap.size ≤ gb247)); have n4_ := Aside0.mk ((by rw [hg]; exact (below_size (by repeat (first | (with_reducible first | exact HB.out | apply below_alloc | apply pw_below_drewN | apply below_drew1) | exact HB.out))) : w.heap.size ≤ gb247)); clear HO_3; clear HB; have HO_3 := n0_; have HB := n1_; have BK247 := n2_; have GW247 := n3_; have GE247 := n4_; clear n0_ n1_ n2_ n3_ n4_; clear hb hbox hg; have hcz10_0 : w9.cell? ⟨gb247, 0, none⟩ = some (.int .i64 0) := (blk_cell BK247.out 0).trans rfl; have hcz10_1 : w9.cell? ⟨gb247, 1, none⟩ = some (.int .i64 0) := (blk_cell BK247.out 1).trans rfl; have hcz10_2 : w9.cell? ⟨gb247, 2, none⟩ = some (.int .i64 0) := (blk_cell BK247.out 2).trans rfl; have hcz10_3 : w9.cell? ⟨gb247, 3, none⟩ = some (.int .i64 0) := (blk_cell BK247.out 3).trans rfl; have hcz10_4 : w9.cell? ⟨gb247, 4, none⟩ = some (.int .i64 0) := (blk_cell BK247.out 4).trans rfl; have hcz10_5 : w9.cell? ⟨gb247, 5, none⟩ = some (.int .i64 0) := (blk_cell BK247.out 5).trans rfl; have hcz10_6 : w9.cell? ⟨gb247, 6, none⟩ = some (.int .i64 0) := (blk_cell BK247.out 6).trans rfl; have hfz10_0 := blk_frozen BK247.out 0; have hfz10_1 := blk_frozen BK247.out 1; have hfz10_2 := blk_frozen BK247.out 2; have hfz10_3 := blk_frozen BK247.out 3; have hfz10_4 := blk_frozen BK247.out 4; have hfz10_5 := blk_frozen BK247.out 5; have hfz10_6 := blk_frozen BK247.out 6) | ((with_reducible refine gate_builtin (b := .append) (xs := #[.tmp 61, .tmp 63]) rfl ?_); at_builtin; refine Kd.R_append k34 (w0 := w) w.heap.size rfl (.tmp 61) (.tmp 63) 31 34 (.agg #[(.int .i64 0), (.int .i64 0), (.int .i64 0), (.int .i64 0), (.int .i64 0), (.int .i64 0), (.int .i64 0)]) 56 rfl Try.underlying31 info34 rfl (by decide) (by omega) u3 x3_1 (⟨wrap64 ((wrap64 (x4_1 + 1)) + (Go.bits .and .i64 ((rd_T34 l0 x5_1).f0) 7)), Int.tmod ((rd_T34 l0 x5_1).f1) 67108864, Int.tmod (Go.bits .and .i64 (Int.tmod ((rd_T34 l0 x5_1).f1) 67108864) 3) 3, (⟨Go.bits .and .i64 ((rd_T34 l0 x5_1).f3.f0) 65535, Int.tmod ((rd_T34 l0 x5_1).f3.f1) 65536, Go.bits .and .i64 ((rd_T34 l0 x5_1).f3.f2) 65535, Int.tmod ((rd_T34 l0 x5_1).f3.f3) 65536⟩ : S23)⟩ : S34) [.int .i64 (wrap64 ((wrap64 (x4_1 + 1)) + (Go.bits .and .i64 ((rd_T34 l0 x5_1).f0) 7))), .int .i64 (Int.tmod ((rd_T34 l0 x5_1).f1) 67108864), .int .i64 (Int.tmod (Go.bits .and .i64 (Int.tmod ((rd_T34 l0 x5_1).f1) 67108864) 3) 3), .int .i64 (Go.bits .and .i64 ((rd_T34 l0 x5_1).f3.f0) 65535), .int .i64 (Int.tmod ((rd_T34 l0 x5_1).f3.f1) 65536), .int .i64 (Go.bits .and .i64 ((rd_T34 l0 x5_1).f3.f2) 65535), .int .i64 (Int.tmod ((rd_T34 l0 x5_1).f3.f3) 65536)] (fun k_ => k_ ≠ gb247) (fun _ => False) rfl (by first | (go_simp; done) | (go_simp; rfl)) ?aP (fun _ hk => hk.elim) ?aF ?aO ?aB ?aS ?aL ?_; (case aP => exact k34_mkM _ _ _ (⟨wrap64 ((wrap64 (x4_1 + 1)) + (Go.bits .and .i64 ((rd_T34 l0 x5_1).f0) 7)), Int.tmod ((rd_T34 l0 x5_1).f1) 67108864, Int.tmod (Go.bits .and .i64 (Int.tmod ((rd_T34 l0 x5_1).f1) 67108864) 3) 3, (⟨Go.bits .and .i64 ((rd_T34 l0 x5_1).f3.f0) 65535, Int.tmod ((rd_T34 l0 x5_1).f3.f1) 65536, Go.bits .and .i64 ((rd_T34 l0 x5_1).f3.f2) 65535, Int.tmod ((rd_T34 l0 x5_1).f3.f3) 65536⟩ : S23)⟩ : S34)); (case aB => exact (by repeat (first | (with_reducible first | exact HB.out | apply below_alloc | apply pw_below_drewN | apply below_drew1 | refine below_set ?_ GE247.out) | exact HB.out))); (case aF => exact (fun k_ hk => Kd.freshB (g := gb247) (o := .cells #[.int .i64 (wrap64 ((wrap64 (x4_1 + 1)) + (Go.bits .and .i64 ((rd_T34 l0 x5_1).f0) 7))), .int .i64 (Int.tmod ((rd_T34 l0 x5_1).f1) 67108864), .int .i64 (Int.tmod (Go.bits .and .i64 (Int.tmod ((rd_T34 l0 x5_1).f1) 67108864) 3) 3), .int .i64 (Go.bits .and .i64 ((rd_T34 l0 x5_1).f3.f0) 65535), .int .i64 (Int.tmod ((rd_T34 l0 x5_1).f3.f1) 65536), .int .i64 (Go.bits .and .i64 ((rd_T34 l0 x5_1).f3.f2) 65535), .int .i64 (Int.tmod ((rd_T34 l0 x5_1).f3.f3) 65536)] 34 (0, 0)) (by (with_reducible repeat (first | refine blk_drewN ?_ _ | refine blk_drew ?_ | refine blk_alloc ?_ _)); refine blk_put (cs := #[.int .i64 (wrap64 ((wrap64 (x4_1 + 1)) + (Go.bits .and .i64 ((rd_T34 l0 x5_1).f0) 7))), .int .i64 (Int.tmod ((rd_T34 l0 x5_1).f1) 67108864), .int .i64 (Int.tmod (Go.bits .and .i64 (Int.tmod ((rd_T34 l0 x5_1).f1) 67108864) 3) 3), .int .i64 (Go.bits .and .i64 ((rd_T34 l0 x5_1).f3.f0) 65535), .int .i64 (Int.tmod ((rd_T34 l0 x5_1).f3.f1) 65536), .int .i64 (Go.bits .and .i64 ((rd_T34 l0 x5_1).f3.f2) 65535), .int .i64 ((rd_T34 l0 x5_1).f3.f3)]) ?_ 6 _ rfl; (with_reducible repeat (first | refine blk_drewN ?_ _ | refine blk_drew ?_ | refine blk_alloc ?_ _)); refine blk_put (cs := #[.int .i64 (wrap64 ((wrap64 (x4_1 + 1)) + (Go.bits .and .i64 ((rd_T34 l0 x5_1).f0) 7))), .int .i64 (Int.tmod ((rd_T34 l0 x5_1).f1) 67108864), .int .i64 (Int.tmod (Go.bits .and .i64 (Int.tmod ((rd_T34 l0 x5_1).f1) 67108864) 3) 3), .int .i64 (Go.bits .and .i64 ((rd_T34 l0 x5_1).f3.f0) 65535), .int .i64 (Int.tmod ((rd_T34 l0 x5_1).f3.f1) 65536), .int .i64 ((rd_T34 l0 x5_1).f3.f2), .int .i64 ((rd_T34 l0 x5_1).f3.f3)]) ?_ 5 _ rfl; (with_reducible repeat (first | refine blk_drewN ?_ _ | refine blk_drew ?_ | refine blk_alloc ?_ _)); refine blk_put (cs := #[.int .i64 (wrap64 ((wrap64 (x4_1 + 1)) + (Go.bits .and .i64 ((rd_T34 l0 x5_1).f0) 7))), .int .i64 (Int.tmod ((rd_T34 l0 x5_1).f1) 67108864), .int .i64 (Int.tmod (Go.bits .and .i64 (Int.tmod ((rd_T34 l0 x5_1).f1) 67108864) 3) 3), .int .i64 (Go.bits .and .i64 ((rd_T34 l0 x5_1).f3.f0) 65535), .int .i64 ((rd_T34 l0 x5_1).f3.f1), .int .i64 ((rd_T34 l0 x5_1).f3.f2), .int .i64 ((rd_T34 l0 x5_1).f3.f3)]) ?_ 4 _ rfl; (with_reducible repeat (first | refine blk_drewN ?_ _ | refine blk_drew ?_ | refine blk_alloc ?_ _)); refine blk_put (cs := #[.int .i64 (wrap64 ((wrap64 (x4_1 + 1)) + (Go.bits .and .i64 ((rd_T34 l0 x5_1).f0) 7))), .int .i64 (Int.tmod ((rd_T34 l0 x5_1).f1) 67108864), .int .i64 (Int.tmod (Go.bits .and .i64 (Int.tmod ((rd_T34 l0 x5_1).f1) 67108864) 3) 3), .int .i64 ((rd_T34 l0 x5_1).f3.f0), .int .i64 ((rd_T34 l0 x5_1).f3.f1), .int .i64 ((rd_T34 l0 x5_1).f3.f2), .int .i64 ((rd_T34 l0 x5_1).f3.f3)]) ?_ 3 _ rfl; (with_reducible repeat (first | refine blk_drewN ?_ _ | refine blk_drew ?_ | refine blk_alloc ?_ _)); refine blk_put (cs := #[.int .i64 (wrap64 ((wrap64 (x4_1 + 1)) + (Go.bits .and .i64 ((rd_T34 l0 x5_1).f0) 7))), .int .i64 (Int.tmod ((rd_T34 l0 x5_1).f1) 67108864), .int .i64 ((rd_T34 l0 x5_1).f2), .int .i64 ((rd_T34 l0 x5_1).f3.f0), .int .i64 ((rd_T34 l0 x5_1).f3.f1), .int .i64 ((rd_T34 l0 x5_1).f3.f2), .int .i64 ((rd_T34 l0 x5_1).f3.f3)]) ?_ 2 _ rfl; (with_reducible repeat (first | refine blk_drewN ?_ _ | refine blk_drew ?_ | refine blk_alloc ?_ _)); refine blk_put (cs := #[.int .i64 (wrap64 ((wrap64 (x4_1 + 1)) + (Go.bits .and .i64 ((rd_T34 l0 x5_1).f0) 7))), .int .i64 ((rd_T34 l0 x5_1).f1), .int .i64 ((rd_T34 l0 x5_1).f2), .int .i64 ((rd_T34 l0 x5_1).f3.f0), .int .i64 ((rd_T34 l0 x5_1).f3.f1), .int .i64 ((rd_T34 l0 x5_1).f3.f2), .int .i64 ((rd_T34 l0 x5_1).f3.f3)]) ?_ 1 _ rfl; (with_reducible repeat (first | refine blk_drewN ?_ _ | refine blk_drew ?_ | refine blk_alloc ?_ _)); refine blk_put (cs := #[.int .i64 ((rd_T34 l0 x5_1).f0), .int .i64 ((rd_T34 l0 x5_1).f1), .int .i64 ((rd_T34 l0 x5_1).f2), .int .i64 ((rd_T34 l0 x5_1).f3.f0), .int .i64 ((rd_T34 l0 x5_1).f3.f1), .int .i64 ((rd_T34 l0 x5_1).f3.f2), .int .i64 ((rd_T34 l0 x5_1).f3.f3)]) ?_ 0 _ rfl; (with_reducible repeat (first | refine blk_drewN ?_ _ | refine blk_drew ?_ | refine blk_alloc ?_ _)); refine blk_put (cs := #[.int .i64 ((rd_T34 l0 x5_1).f0), .int .i64 ((rd_T34 l0 x5_1).f1), .int .i64 ((rd_T34 l0 x5_1).f2), .int .i64 ((rd_T34 l0 x5_1).f3.f0), .int .i64 ((rd_T34 l0 x5_1).f3.f1), .int .i64 ((rd_T34 l0 x5_1).f3.f2), .int .i64 0]) ?_ 6 _ rfl; (with_reducible repeat (first | refine blk_drewN ?_ _ | refine blk_drew ?_ | refine blk_alloc ?_ _)); refine blk_put (cs := #[.int .i64 ((rd_T34 l0 x5_1).f0), .int .i64 ((rd_T34 l0 x5_1).f1), .int .i64 ((rd_T34 l0 x5_1).f2), .int .i64 ((rd_T34 l0 x5_1).f3.f0), .int .i64 ((rd_T34 l0 x5_1).f3.f1), .int .i64 0, .int .i64 0]) ?_ 5 _ rfl; (with_reducible repeat (first | refine blk_drewN ?_ _ | refine blk_drew ?_ | refine blk_alloc ?_ _)); refine blk_put (cs := #[.int .i64 ((rd_T34 l0 x5_1).f0), .int .i64 ((rd_T34 l0 x5_1).f1), .int .i64 ((rd_T34 l0 x5_1).f2), .int .i64 ((rd_T34 l0 x5_1).f3.f0), .int .i64 0, .int .i64 0, .int .i64 0]) ?_ 4 _ rfl; (with_reducible repeat (first | refine blk_drewN ?_ _ | refine blk_drew ?_ | refine blk_alloc ?_ _)); refine blk_put (cs := #[.int .i64 ((rd_T34 l0 x5_1).f0), .int .i64 ((rd_T34 l0 x5_1).f1), .int .i64 ((rd_T34 l0 x5_1).f2), .int .i64 0, .int .i64 0, .int .i64 0, .int .i64 0]) ?_ 3 _ rfl; (with_reducible repeat (first | refine blk_drewN ?_ _ | refine blk_drew ?_ | refine blk_alloc ?_ _)); refine blk_put (cs := #[.int .i64 ((rd_T34 l0 x5_1).f0), .int .i64 ((rd_T34 l0 x5_1).f1), .int .i64 0, .int .i64 0, .int .i64 0, .int .i64 0, .int .i64 0]) ?_ 2 _ rfl; (with_reducible repeat (first | refine blk_drewN ?_ _ | refine blk_drew ?_ | refine blk_alloc ?_ _)); refine blk_put (cs := #[.int .i64 ((rd_T34 l0 x5_1).f0), .int .i64 0, .int .i64 0, .int .i64 0, .int .i64 0, .int .i64 0, .int .i64 0]) ?_ 1 _ rfl; (with_reducible repeat (first | refine blk_drewN ?_ _ | refine blk_drew ?_ | refine blk_alloc ?_ _)); refine blk_put (cs := #[.int .i64 0, .int .i64 0, .int .i64 0, .int .i64 0, .int .i64 0, .int .i64 0, .int .i64 0]) ?_ 0 _ rfl; (with_reducible repeat (first | refine blk_drewN ?_ _ | refine blk_drew ?_ | refine blk_alloc ?_ _)); exact BK247.out) k_ hk)); (case aO => exact (by (with_reducible repeat (first | apply Kd.R_alloc | apply Kd.R_drewN | apply Kd.R_drew)); exact Kd.R_mono (Kd.R_far (p := ⟨gb247, 6, none⟩) (Kd.R_far (p := ⟨gb247, 5, none⟩) (Kd.R_far (p := ⟨gb247, 4, none⟩) (Kd.R_far (p := ⟨gb247, 3, none⟩) (Kd.R_far (p := ⟨gb247, 2, none⟩) (Kd.R_far (p := ⟨gb247, 1, none⟩) (Kd.R_far (p := ⟨gb247, 0, none⟩) (Kd.R_far (p := ⟨gb247, 6, none⟩) (Kd.R_far (p := ⟨gb247, 5, none⟩) (Kd.R_far (p := ⟨gb247, 4, none⟩) (Kd.R_far (p := ⟨gb247, 3, none⟩) (Kd.R_far (p := ⟨gb247, 2, none⟩) (Kd.R_far (p := ⟨gb247, 1, none⟩) (Kd.R_far (p := ⟨gb247, 0, none⟩) (Kd.R_mono HO_3.out (fun k_ hk => (⟨hk, hk.2⟩ : _ ∧ k_ ≠ gb247))) (fun _ hk => hk.2) (.int .i64 ((rd_T34 l0 x5_1).f0))) (fun _ hk => hk.2) (.int .i64 ((rd_T34 l0 x5_1).f1))) (fun _ hk => hk.2) (.int .i64 ((rd_T34 l0 x5_1).f2))) (fun _ hk => hk.2) (.int .i64 ((rd_T34 l0 x5_1).f3.f0))) (fun _ hk => hk.2) (.int .i64 ((rd_T34 l0 x5_1).f3.f1))) (fun _ hk => hk.2) (.int .i64 ((rd_T34 l0 x5_1).f3.f2))) (fun _ hk => hk.2) (.int .i64 ((rd_T34 l0 x5_1).f3.f3))) (fun _ hk => hk.2) (.int .i64 (wrap64 ((wrap64 (x4_1 + 1)) + (Go.bits .and .i64 ((rd_T34 l0 x5_1).f0) 7))))) (fun _ hk => hk.2) (.int .i64 (Int.tmod ((rd_T34 l0 x5_1).f1) 67108864))) (fun _ hk => hk.2) (.int .i64 (Int.tmod (Go.bits .and .i64 (Int.tmod ((rd_T34 l0 x5_1).f1) 67108864) 3) 3))) (fun _ hk => hk.2) (.int .i64 (Go.bits .and .i64 ((rd_T34 l0 x5_1).f3.f0) 65535))) (fun _ hk => hk.2) (.int .i64 (Int.tmod ((rd_T34 l0 x5_1).f3.f1) 65536))) (fun _ hk => hk.2) (.int .i64 (Go.bits .and .i64 ((rd_T34 l0 x5_1).f3.f2) 65535))) (fun _ hk => hk.2) (.int .i64 (Int.tmod ((rd_T34 l0 x5_1).f3.f3) 65536))) (fun _ hk => hk.1.2))); (case aS => exact (below_size (by repeat (first | (with_reducible first | exact HB.out | apply below_alloc | apply pw_below_drewN | apply below_drew1 | refine below_set ?_ GE247.out) | exact HB.out)))); (case aL => have := LMc8.out; omega); intro v249 w11 ho hb hg hat; rw [← Ny248.out] at ho; have n0_ := Aside0.mk (blk_grown (g := gb247) (o := .cells #[.int .i64 (wrap64 ((wrap64 (x4_1 + 1)) + (Go.bits .and .i64 ((rd_T34 l0 x5_1).f0) 7))), .int .i64 (Int.tmod ((rd_T34 l0 x5_1).f1) 67108864), .int .i64 (Int.tmod (Go.bits .and .i64 (Int.tmod ((rd_T34 l0 x5_1).f1) 67108864) 3) 3), .int .i64 (Go.bits .and .i64 ((rd_T34 l0 x5_1).f3.f0) 65535), .int .i64 (Int.tmod ((rd_T34 l0 x5_1).f3.f1) 65536), .int .i64 (Go.bits .and .i64 ((rd_T34 l0 x5_1).f3.f2) 65535), .int .i64 (Int.tmod ((rd_T34 l0 x5_1).f3.f3) 65536)] 34 (0, 0)) (by (with_reducible repeat (first | refine blk_drewN ?_ _ | refine blk_drew ?_ | refine blk_alloc ?_ _)); refine blk_put (cs := #[.int .i64 (wrap64 ((wrap64 (x4_1 + 1)) + (Go.bits .and .i64 ((rd_T34 l0 x5_1).f0) 7))), .int .i64 (Int.tmod ((rd_T34 l0 x5_1).f1) 67108864), .int .i64 (Int.tmod (Go.bits .and .i64 (Int.tmod ((rd_T34 l0 x5_1).f1) 67108864) 3) 3), .int .i64 (Go.bits .and .i64 ((rd_T34 l0 x5_1).f3.f0) 65535), .int .i64 (Int.tmod ((rd_T34 l0 x5_1).f3.f1) 65536), .int .i64 (Go.bits .and .i64 ((rd_T34 l0 x5_1).f3.f2) 65535), .int .i64 ((rd_T34 l0 x5_1).f3.f3)]) ?_ 6 _ rfl; (with_reducible repeat (first | refine blk_drewN ?_ _ | refine blk_drew ?_ | refine blk_alloc ?_ _)); refine blk_put (cs := #[.int .i64 (wrap64 ((wrap64 (x4_1 + 1)) + (Go.bits .and .i64 ((rd_T34 l0 x5_1).f0) 7))), .int .i64 (Int.tmod ((rd_T34 l0 x5_1).f1) 67108864), .int .i64 (Int.tmod (Go.bits .and .i64 (Int.tmod ((rd_T34 l0 x5_1).f1) 67108864) 3) 3), .int .i64 (Go.bits .and .i64 ((rd_T34 l0 x5_1).f3.f0) 65535), .int .i64 (Int.tmod ((rd_T34 l0 x5_1).f3.f1) 65536), .int .i64 ((rd_T34 l0 x5_1).f3.f2), .int .i64 ((rd_T34 l0 x5_1).f3.f3)]) ?_ 5 _ rfl; (with_reducible repeat (first | refine blk_drewN ?_ _ | refine blk_drew ?_ | refine blk_alloc ?_ _)); refine blk_put (cs := #[.int .i64 (wrap64 ((wrap64 (x4_1 + 1)) + (Go.bits .and .i64 ((rd_T34 l0 x5_1).f0) 7))), .int .i64 (Int.tmod ((rd_T34 l0 x5_1).f1) 67108864), .int .i64 (Int.tmod (Go.bits .and .i64 (Int.tmod ((rd_T34 l0 x5_1).f1) 67108864) 3) 3), .int .i64 (Go.bits .and .i64 ((rd_T34 l0 x5_1).f3.f0) 65535), .int .i64 ((rd_T34 l0 x5_1).f3.f1), .int .i64 ((rd_T34 l0 x5_1).f3.f2), .int .i64 ((rd_T34 l0 x5_1).f3.f3)]) ?_ 4 _ rfl; (with_reducible repeat (first | refine blk_drewN ?_ _ | refine blk_drew ?_ | refine blk_alloc ?_ _)); refine blk_put (cs := #[.int .i64 (wrap64 ((wrap64 (x4_1 + 1)) + (Go.bits .and .i64 ((rd_T34 l0 x5_1).f0) 7))), .int .i64 (Int.tmod ((rd_T34 l0 x5_1).f1) 67108864), .int .i64 (Int.tmod (Go.bits .and .i64 (Int.tmod ((rd_T34 l0 x5_1).f1) 67108864) 3) 3), .int .i64 ((rd_T34 l0 x5_1).f3.f0), .int .i64 ((rd_T34 l0 x5_1).f3.f1), .int .i64 ((rd_T34 l0 x5_1).f3.f2), .int .i64 ((rd_T34 l0 x5_1).f3.f3)]) ?_ 3 _ rfl; (with_reducible repeat (first | refine blk_drewN ?_ _ | refine blk_drew ?_ | refine blk_alloc ?_ _)); refine blk_put (cs := #[.int .i64 (wrap64 ((wrap64 (x4_1 + 1)) + (Go.bits .and .i64 ((rd_T34 l0 x5_1).f0) 7))), .int .i64 (Int.tmod ((rd_T34 l0 x5_1).f1) 67108864), .int .i64 ((rd_T34 l0 x5_1).f2), .int .i64 ((rd_T34 l0 x5_1).f3.f0), .int .i64 ((rd_T34 l0 x5_1).f3.f1), .int .i64 ((rd_T34 l0 x5_1).f3.f2), .int .i64 ((rd_T34 l0 x5_1).f3.f3)]) ?_ 2 _ rfl; (with_reducible repeat (first | refine blk_drewN ?_ _ | refine blk_drew ?_ | refine blk_alloc ?_ _)); refine blk_put (cs := #[.int .i64 (wrap64 ((wrap64 (x4_1 + 1)) + (Go.bits .and .i64 ((rd_T34 l0 x5_1).f0) 7))), .int .i64 ((rd_T34 l0 x5_1).f1), .int .i64 ((rd_T34 l0 x5_1).f2), .int .i64 ((rd_T34 l0 x5_1).f3.f0), .int .i64 ((rd_T34 l0 x5_1).f3.f1), .int .i64 ((rd_T34 l0 x5_1).f3.f2), .int .i64 ((rd_T34 l0 x5_1).f3.f3)]) ?_ 1 _ rfl; (with_reducible repeat (first | refine blk_drewN ?_ _ | refine blk_drew ?_ | refine blk_alloc ?_ _)); refine blk_put (cs := #[.int .i64 ((rd_T34 l0 x5_1).f0), .int .i64 ((rd_T34 l0 x5_1).f1), .int .i64 ((rd_T34 l0 x5_1).f2), .int .i64 ((rd_T34 l0 x5_1).f3.f0), .int .i64 ((rd_T34 l0 x5_1).f3.f1), .int .i64 ((rd_T34 l0 x5_1).f3.f2), .int .i64 ((rd_T34 l0 x5_1).f3.f3)]) ?_ 0 _ rfl; (with_reducible repeat (first | refine blk_drewN ?_ _ | refine blk_drew ?_ | refine blk_alloc ?_ _)); refine blk_put (cs := #[.int .i64 ((rd_T34 l0 x5_1).f0), .int .i64 ((rd_T34 l0 x5_1).f1), .int .i64 ((rd_T34 l0 x5_1).f2), .int .i64 ((rd_T34 l0 x5_1).f3.f0), .int .i64 ((rd_T34 l0 x5_1).f3.f1), .int .i64 ((rd_T34 l0 x5_1).f3.f2), .int .i64 0]) ?_ 6 _ rfl; (with_reducible repeat (first | refine blk_drewN ?_ _ | refine blk_drew ?_ | refine blk_alloc ?_ _)); refine blk_put (cs := #[.int .i64 ((rd_T34 l0 x5_1).f0), .int .i64 ((rd_T34 l0 x5_1).f1), .int .i64 ((rd_T34 l0 x5_1).f2), .int .i64 ((rd_T34 l0 x5_1).f3.f0), .int .i64 ((rd_T34 l0 x5_1).f3.f1), .int .i64 0, .int .i64 0]) ?_ 5 _ rfl; (with_reducible repeat (first | refine blk_drewN ?_ _ | refine blk_drew ?_ | refine blk_alloc ?_ _)); refine blk_put (cs := #[.int .i64 ((rd_T34 l0 x5_1).f0), .int .i64 ((rd_T34 l0 x5_1).f1), .int .i64 ((rd_T34 l0 x5_1).f2), .int .i64 ((rd_T34 l0 x5_1).f3.f0), .int .i64 0, .int .i64 0, .int .i64 0]) ?_ 4 _ rfl; (with_reducible repeat (first | refine blk_drewN ?_ _ | refine blk_drew ?_ | refine blk_alloc ?_ _)); refine blk_put (cs := #[.int .i64 ((rd_T34 l0 x5_1).f0), .int .i64 ((rd_T34 l0 x5_1).f1), .int .i64 ((rd_T34 l0 x5_1).f2), .int .i64 0, .int .i64 0, .int .i64 0, .int .i64 0]) ?_ 3 _ rfl; (with_reducible repeat (first | refine blk_drewN ?_ _ | refine blk_drew ?_ | refine blk_alloc ?_ _)); refine blk_put (cs := #[.int .i64 ((rd_T34 l0 x5_1).f0), .int .i64 ((rd_T34 l0 x5_1).f1), .int .i64 0, .int .i64 0, .int .i64 0, .int .i64 0, .int .i64 0]) ?_ 2 _ rfl; (with_reducible repeat (first | refine blk_drewN ?_ _ | refine blk_drew ?_ | refine blk_alloc ?_ _)); refine blk_put (cs := #[.int .i64 ((rd_T34 l0 x5_1).f0), .int .i64 0, .int .i64 0, .int .i64 0, .int .i64 0, .int .i64 0, .int .i64 0]) ?_ 1 _ rfl; (with_reducible repeat (first | refine blk_drewN ?_ _ | refine blk_drew ?_ | refine blk_alloc ?_ _)); refine blk_put (cs := #[.int .i64 0, .int .i64 0, .int .i64 0, .int .i64 0, .int .i64 0, .int .i64 0, .int .i64 0]) ?_ 0 _ rfl; (with_reducible repeat (first | refine blk_drewN ?_ _ | refine blk_drew ?_ | refine blk_alloc ?_ _)); exact BK247.out) hg (Kd.R_away HO_3.out (fun _ hk => hk.2))); have n1_ := Aside0.mk (hb); have n2_ := Aside0.mk (ho); clear BK247; clear HB; clear HO_3; have BK247 := n0_; have HB := n1_; have HO250 := n2_; clear n0_ n1_ n2_; clear ho hb hg hat))
          go_roundg kj1
          case measure => have := HK1.out; have := HJ1.out; omega
          case rel => exact ⟨(y248), (wrap64 ((wrap64 (x4_1 + 1)) + (Go.bits .and .i64 ((rd_T34 l0 x5_1).f0) 7))), (wrap64 (x5_1 + 1)), (by first | rfl | (simp; done) | (simp [*]; done)), (by first | rfl | (simp; done) | (simp [*]; done)), H', ⟨by have := HK1.out; have := HJ1.out; omega⟩, ⟨by (with_reducible repeat (first | apply Kd.R_alloc | apply Kd.R_drewN | apply Kd.R_drew)); exact Kd.R_mono HO250.out (fun _ hk => trivial)⟩, ⟨by repeat (first | (with_reducible first | exact HB.out | apply below_alloc | apply pw_below_drewN | apply below_drew1 | refine below_set ?_ GE247.out) | exact HB.out)⟩⟩
         ·rw [if_neg c8] at H
          exact absurd H (by simp)
        ·rw [if_neg c7] at H
         have c7b0 : ((Int.tmod (Go.bits .and .i64 (Int.tmod ((rd_T34 l0 x5_1).f1) 67108864) 3) 3) == 2) = false := beq_eq_false_iff_ne.mpr c7
         have c7b1 : ((Int.tmod (Go.bits .and .i64 (Int.tmod ((rd_T34 l0 x5_1).f1) 67108864) 3) 3) != 2) = true := bne_iff_ne.mpr c7
         by_cases c12 : x3_1.length < 2513169434916
         ·rw [if_pos c12] at H
          have LMc12 := Aside0.mk c12
          clear c12
          obtain ⟨y251, hy251⟩ : ∃ y_ : List (S34), y_ = (x3_1 ++ [(⟨wrap64 ((wrap64 (x4_1 + 1)) + (Go.bits .and .i64 ((rd_T34 l0 x5_1).f0) 7)), Int.tmod ((rd_T34 l0 x5_1).f1) 67108864, Int.tmod (Go.bits .and .i64 (Int.tmod ((rd_T34 l0 x5_1).f1) 67108864) 3) 3, (⟨0, 0, 0, 0⟩ : S23)⟩ : S34)]) := ⟨_, rfl⟩
          replace H : (mutoscopelaw5_rising.l0 kj1 l0 y251 (wrap64 ((wrap64 (x4_1 + 1)) + (Go.bits .and .i64 ((rd_T34 l0 x5_1).f0) 7))) (wrap64 (x5_1 + 1))) = some r := by first | (rw [hy251]; with_reducible exact H) | (have H2_ := (Option.bind_some _ _).symm.trans H; rw [hy251]; with_reducible exact H2_) | (have H2_ := (Option.bind_some _ _).symm.trans H; with_reducible exact H2_) | with_reducible exact H | (rw [hy251]; exact H) | exact H
          have Ny251 := Aside0.mk hy251
          clear hy251
          have H' := Aside0.mk H
          clear H
          have p246 : 0 ≤ (x5_1 : Int) := of_decide_eq_true (by first | (with_reducible assumption) | assumption)
          have q246 : x5_1 < (l0.length : Int) := of_decide_eq_true (by first | (with_reducible assumption) | assumption)
          obtain ⟨ad246, e246, hx246_0, hx246_1, hx246_2, hx246_3, hx246_4, hx246_5, hx246_6⟩ := at_T34 HR0.out x5_1 p246 q246
          cases e246
          replace hx246_0 := (HB.out.cell (World.block_lt_of_cell? w _ hx246_0)).trans hx246_0
          replace hx246_1 := (HB.out.cell (World.block_lt_of_cell? w _ hx246_1)).trans hx246_1
          replace hx246_2 := (HB.out.cell (World.block_lt_of_cell? w _ hx246_2)).trans hx246_2
          replace hx246_3 := (HB.out.cell (World.block_lt_of_cell? w _ hx246_3)).trans hx246_3
          replace hx246_4 := (HB.out.cell (World.block_lt_of_cell? w _ hx246_4)).trans hx246_4
          replace hx246_5 := (HB.out.cell (World.block_lt_of_cell? w _ hx246_5)).trans hx246_5
          replace hx246_6 := (HB.out.cell (World.block_lt_of_cell? w _ hx246_6)).trans hx246_6
          replace p246 := eq_true p246
          replace q246 := eq_true q246
          go_wp2_with (first | ((with_reducible refine gate_dst (N := 6) rfl ?_); refine box_event ?hg (N := 6) ?hd (cs := #[.int .i64 0, .int .i64 0, .int .i64 0, .int .i64 0, .int .i64 0, .int .i64 0, .int .i64 0]) (t := 34) ?hr ?_; (case hd => rfl); (case hg => rfl); (case hr => first | (go_simp; done) | (go_simp; rfl)); intro gb247 hg w13 hbox hb; have n0_ := Aside0.mk (Kd.R_below (Kd.R_elderB (by (with_reducible repeat (first | apply Kd.R_alloc | apply Kd.R_drewN | apply Kd.R_drew)); exact HO_3.out) gb247 (Nat.le_of_eq hg.symm)) hb); have n1_ := Aside0.mk (below_step (by repeat (first | (with_reducible first | exact HB.out | apply below_alloc | apply pw_below_drewN | apply below_drew1) | exact HB.out)) hb); have n2_ := Aside0.mk (hbox); have n3_ := Aside0.mk ((by rw [hg]; exact (below_size (by repeat (first | (with_reducible first | exact HB.out | apply below_alloc | apply pw_below_drewN | apply below_drew1) | exact HB.out))) : w.heap.size ≤ gb247)); have n4_ := Aside0.mk ((by rw [hg]; exact (below_size (by repeat (first | (with_reducible first | exact HB.out | apply below_alloc | apply pw_below_drewN | apply below_drew1) | exact HB.out))) : w.heap.size ≤ gb247)); clear HO_3; clear HB; have HO_3 := n0_; have HB := n1_; have BK247 := n2_; have GW247 := n3_; have GE247 := n4_; clear n0_ n1_ n2_ n3_ n4_; clear hb hbox hg; have hcz14_0 : w13.cell? ⟨gb247, 0, none⟩ = some (.int .i64 0) := (blk_cell BK247.out 0).trans rfl; have hcz14_1 : w13.cell? ⟨gb247, 1, none⟩ = some (.int .i64 0) := (blk_cell BK247.out 1).trans rfl; have hcz14_2 : w13.cell? ⟨gb247, 2, none⟩ = some (.int .i64 0) := (blk_cell BK247.out 2).trans rfl; have hcz14_3 : w13.cell? ⟨gb247, 3, none⟩ = some (.int .i64 0) := (blk_cell BK247.out 3).trans rfl; have hcz14_4 : w13.cell? ⟨gb247, 4, none⟩ = some (.int .i64 0) := (blk_cell BK247.out 4).trans rfl; have hcz14_5 : w13.cell? ⟨gb247, 5, none⟩ = some (.int .i64 0) := (blk_cell BK247.out 5).trans rfl; have hcz14_6 : w13.cell? ⟨gb247, 6, none⟩ = some (.int .i64 0) := (blk_cell BK247.out 6).trans rfl; have hfz14_0 := blk_frozen BK247.out 0; have hfz14_1 := blk_frozen BK247.out 1; have hfz14_2 := blk_frozen BK247.out 2; have hfz14_3 := blk_frozen BK247.out 3; have hfz14_4 := blk_frozen BK247.out 4; have hfz14_5 := blk_frozen BK247.out 5; have hfz14_6 := blk_frozen BK247.out 6) | ((with_reducible refine gate_builtin (b := .append) (xs := #[.tmp 61, .tmp 63]) rfl ?_); at_builtin; refine Kd.R_append k34 (w0 := w) w.heap.size rfl (.tmp 61) (.tmp 63) 31 34 (.agg #[(.int .i64 0), (.int .i64 0), (.int .i64 0), (.int .i64 0), (.int .i64 0), (.int .i64 0), (.int .i64 0)]) 56 rfl Try.underlying31 info34 rfl (by decide) (by omega) u3 x3_1 (⟨wrap64 ((wrap64 (x4_1 + 1)) + (Go.bits .and .i64 ((rd_T34 l0 x5_1).f0) 7)), Int.tmod ((rd_T34 l0 x5_1).f1) 67108864, Int.tmod (Go.bits .and .i64 (Int.tmod ((rd_T34 l0 x5_1).f1) 67108864) 3) 3, (⟨0, 0, 0, 0⟩ : S23)⟩ : S34) [.int .i64 (wrap64 ((wrap64 (x4_1 + 1)) + (Go.bits .and .i64 ((rd_T34 l0 x5_1).f0) 7))), .int .i64 (Int.tmod ((rd_T34 l0 x5_1).f1) 67108864), .int .i64 (Int.tmod (Go.bits .and .i64 (Int.tmod ((rd_T34 l0 x5_1).f1) 67108864) 3) 3), .int .i64 0, .int .i64 0, .int .i64 0, .int .i64 0] (fun k_ => k_ ≠ gb247) (fun _ => False) rfl (by first | (go_simp; done) | (go_simp; rfl)) ?aP (fun _ hk => hk.elim) ?aF ?aO ?aB ?aS ?aL ?_; (case aP => exact k34_mkM _ _ _ (⟨wrap64 ((wrap64 (x4_1 + 1)) + (Go.bits .and .i64 ((rd_T34 l0 x5_1).f0) 7)), Int.tmod ((rd_T34 l0 x5_1).f1) 67108864, Int.tmod (Go.bits .and .i64 (Int.tmod ((rd_T34 l0 x5_1).f1) 67108864) 3) 3, (⟨0, 0, 0, 0⟩ : S23)⟩ : S34)); (case aB => exact (by repeat (first | (with_reducible first | exact HB.out | apply below_alloc | apply pw_below_drewN | apply below_drew1 | refine below_set ?_ GE247.out) | exact HB.out))); (case aF => exact (fun k_ hk => Kd.freshB (g := gb247) (o := .cells #[.int .i64 (wrap64 ((wrap64 (x4_1 + 1)) + (Go.bits .and .i64 ((rd_T34 l0 x5_1).f0) 7))), .int .i64 (Int.tmod ((rd_T34 l0 x5_1).f1) 67108864), .int .i64 (Int.tmod (Go.bits .and .i64 (Int.tmod ((rd_T34 l0 x5_1).f1) 67108864) 3) 3), .int .i64 0, .int .i64 0, .int .i64 0, .int .i64 0] 34 (0, 0)) (by (with_reducible repeat (first | refine blk_drewN ?_ _ | refine blk_drew ?_ | refine blk_alloc ?_ _)); refine blk_put (cs := #[.int .i64 (wrap64 ((wrap64 (x4_1 + 1)) + (Go.bits .and .i64 ((rd_T34 l0 x5_1).f0) 7))), .int .i64 (Int.tmod ((rd_T34 l0 x5_1).f1) 67108864), .int .i64 (Int.tmod (Go.bits .and .i64 (Int.tmod ((rd_T34 l0 x5_1).f1) 67108864) 3) 3), .int .i64 0, .int .i64 0, .int .i64 0, .int .i64 ((rd_T34 l0 x5_1).f3.f3)]) ?_ 6 _ rfl; (with_reducible repeat (first | refine blk_drewN ?_ _ | refine blk_drew ?_ | refine blk_alloc ?_ _)); refine blk_put (cs := #[.int .i64 (wrap64 ((wrap64 (x4_1 + 1)) + (Go.bits .and .i64 ((rd_T34 l0 x5_1).f0) 7))), .int .i64 (Int.tmod ((rd_T34 l0 x5_1).f1) 67108864), .int .i64 (Int.tmod (Go.bits .and .i64 (Int.tmod ((rd_T34 l0 x5_1).f1) 67108864) 3) 3), .int .i64 0, .int .i64 0, .int .i64 ((rd_T34 l0 x5_1).f3.f2), .int .i64 ((rd_T34 l0 x5_1).f3.f3)]) ?_ 5 _ rfl; (with_reducible repeat (first | refine blk_drewN ?_ _ | refine blk_drew ?_ | refine blk_alloc ?_ _)); refine blk_put (cs := #[.int .i64 (wrap64 ((wrap64 (x4_1 + 1)) + (Go.bits .and .i64 ((rd_T34 l0 x5_1).f0) 7))), .int .i64 (Int.tmod ((rd_T34 l0 x5_1).f1) 67108864), .int .i64 (Int.tmod (Go.bits .and .i64 (Int.tmod ((rd_T34 l0 x5_1).f1) 67108864) 3) 3), .int .i64 0, .int .i64 ((rd_T34 l0 x5_1).f3.f1), .int .i64 ((rd_T34 l0 x5_1).f3.f2), .int .i64 ((rd_T34 l0 x5_1).f3.f3)]) ?_ 4 _ rfl; (with_reducible repeat (first | refine blk_drewN ?_ _ | refine blk_drew ?_ | refine blk_alloc ?_ _)); refine blk_put (cs := #[.int .i64 (wrap64 ((wrap64 (x4_1 + 1)) + (Go.bits .and .i64 ((rd_T34 l0 x5_1).f0) 7))), .int .i64 (Int.tmod ((rd_T34 l0 x5_1).f1) 67108864), .int .i64 (Int.tmod (Go.bits .and .i64 (Int.tmod ((rd_T34 l0 x5_1).f1) 67108864) 3) 3), .int .i64 ((rd_T34 l0 x5_1).f3.f0), .int .i64 ((rd_T34 l0 x5_1).f3.f1), .int .i64 ((rd_T34 l0 x5_1).f3.f2), .int .i64 ((rd_T34 l0 x5_1).f3.f3)]) ?_ 3 _ rfl; (with_reducible repeat (first | refine blk_drewN ?_ _ | refine blk_drew ?_ | refine blk_alloc ?_ _)); refine blk_put (cs := #[.int .i64 (wrap64 ((wrap64 (x4_1 + 1)) + (Go.bits .and .i64 ((rd_T34 l0 x5_1).f0) 7))), .int .i64 (Int.tmod ((rd_T34 l0 x5_1).f1) 67108864), .int .i64 ((rd_T34 l0 x5_1).f2), .int .i64 ((rd_T34 l0 x5_1).f3.f0), .int .i64 ((rd_T34 l0 x5_1).f3.f1), .int .i64 ((rd_T34 l0 x5_1).f3.f2), .int .i64 ((rd_T34 l0 x5_1).f3.f3)]) ?_ 2 _ rfl; (with_reducible repeat (first | refine blk_drewN ?_ _ | refine blk_drew ?_ | refine blk_alloc ?_ _)); refine blk_put (cs := #[.int .i64 (wrap64 ((wrap64 (x4_1 + 1)) + (Go.bits .and .i64 ((rd_T34 l0 x5_1).f0) 7))), .int .i64 ((rd_T34 l0 x5_1).f1), .int .i64 ((rd_T34 l0 x5_1).f2), .int .i64 ((rd_T34 l0 x5_1).f3.f0), .int .i64 ((rd_T34 l0 x5_1).f3.f1), .int .i64 ((rd_T34 l0 x5_1).f3.f2), .int .i64 ((rd_T34 l0 x5_1).f3.f3)]) ?_ 1 _ rfl; (with_reducible repeat (first | refine blk_drewN ?_ _ | refine blk_drew ?_ | refine blk_alloc ?_ _)); refine blk_put (cs := #[.int .i64 ((rd_T34 l0 x5_1).f0), .int .i64 ((rd_T34 l0 x5_1).f1), .int .i64 ((rd_T34 l0 x5_1).f2), .int .i64 ((rd_T34 l0 x5_1).f3.f0), .int .i64 ((rd_T34 l0 x5_1).f3.f1), .int .i64 ((rd_T34 l0 x5_1).f3.f2), .int .i64 ((rd_T34 l0 x5_1).f3.f3)]) ?_ 0 _ rfl; (with_reducible repeat (first | refine blk_drewN ?_ _ | refine blk_drew ?_ | refine blk_alloc ?_ _)); refine blk_put (cs := #[.int .i64 ((rd_T34 l0 x5_1).f0), .int .i64 ((rd_T34 l0 x5_1).f1), .int .i64 ((rd_T34 l0 x5_1).f2), .int .i64 ((rd_T34 l0 x5_1).f3.f0), .int .i64 ((rd_T34 l0 x5_1).f3.f1), .int .i64 ((rd_T34 l0 x5_1).f3.f2), .int .i64 0]) ?_ 6 _ rfl; (with_reducible repeat (first | refine blk_drewN ?_ _ | refine blk_drew ?_ | refine blk_alloc ?_ _)); refine blk_put (cs := #[.int .i64 ((rd_T34 l0 x5_1).f0), .int .i64 ((rd_T34 l0 x5_1).f1), .int .i64 ((rd_T34 l0 x5_1).f2), .int .i64 ((rd_T34 l0 x5_1).f3.f0), .int .i64 ((rd_T34 l0 x5_1).f3.f1), .int .i64 0, .int .i64 0]) ?_ 5 _ rfl; (with_reducible repeat (first | refine blk_drewN ?_ _ | refine blk_drew ?_ | refine blk_alloc ?_ _)); refine blk_put (cs := #[.int .i64 ((rd_T34 l0 x5_1).f0), .int .i64 ((rd_T34 l0 x5_1).f1), .int .i64 ((rd_T34 l0 x5_1).f2), .int .i64 ((rd_T34 l0 x5_1).f3.f0), .int .i64 0, .int .i64 0, .int .i64 0]) ?_ 4 _ rfl; (with_reducible repeat (first | refine blk_drewN ?_ _ | refine blk_drew ?_ | refine blk_alloc ?_ _)); refine blk_put (cs := #[.int .i64 ((rd_T34 l0 x5_1).f0), .int .i64 ((rd_T34 l0 x5_1).f1), .int .i64 ((rd_T34 l0 x5_1).f2), .int .i64 0, .int .i64 0, .int .i64 0, .int .i64 0]) ?_ 3 _ rfl; (with_reducible repeat (first | refine blk_drewN ?_ _ | refine blk_drew ?_ | refine blk_alloc ?_ _)); refine blk_put (cs := #[.int .i64 ((rd_T34 l0 x5_1).f0), .int .i64 ((rd_T34 l0 x5_1).f1), .int .i64 0, .int .i64 0, .int .i64 0, .int .i64 0, .int .i64 0]) ?_ 2 _ rfl; (with_reducible repeat (first | refine blk_drewN ?_ _ | refine blk_drew ?_ | refine blk_alloc ?_ _)); refine blk_put (cs := #[.int .i64 ((rd_T34 l0 x5_1).f0), .int .i64 0, .int .i64 0, .int .i64 0, .int .i64 0, .int .i64 0, .int .i64 0]) ?_ 1 _ rfl; (with_reducible repeat (first | refine blk_drewN ?_ _ | refine blk_drew ?_ | refine blk_alloc ?_ _)); refine blk_put (cs := #[.int .i64 0, .int .i64 0, .int .i64 0, .int .i64 0, .int .i64 0, .int .i64 0, .int .i64 0]) ?_ 0 _ rfl; (with_reducible repeat (first | refine blk_drewN ?_ _ | refine blk_drew ?_ | refine blk_alloc ?_ _)); exact BK247.out) k_ hk)); (case aO => exact (by (with_reducible repeat (first | apply Kd.R_alloc | apply Kd.R_drewN | apply Kd.R_drew)); exact Kd.R_mono (Kd.R_far (p := ⟨gb247, 6, none⟩) (Kd.R_far (p := ⟨gb247, 5, none⟩) (Kd.R_far (p := ⟨gb247, 4, none⟩) (Kd.R_far (p := ⟨gb247, 3, none⟩) (Kd.R_far (p := ⟨gb247, 2, none⟩) (Kd.R_far (p := ⟨gb247, 1, none⟩) (Kd.R_far (p := ⟨gb247, 0, none⟩) (Kd.R_far (p := ⟨gb247, 6, none⟩) (Kd.R_far (p := ⟨gb247, 5, none⟩) (Kd.R_far (p := ⟨gb247, 4, none⟩) (Kd.R_far (p := ⟨gb247, 3, none⟩) (Kd.R_far (p := ⟨gb247, 2, none⟩) (Kd.R_far (p := ⟨gb247, 1, none⟩) (Kd.R_far (p := ⟨gb247, 0, none⟩) (Kd.R_mono HO_3.out (fun k_ hk => (⟨hk, hk.2⟩ : _ ∧ k_ ≠ gb247))) (fun _ hk => hk.2) (.int .i64 ((rd_T34 l0 x5_1).f0))) (fun _ hk => hk.2) (.int .i64 ((rd_T34 l0 x5_1).f1))) (fun _ hk => hk.2) (.int .i64 ((rd_T34 l0 x5_1).f2))) (fun _ hk => hk.2) (.int .i64 ((rd_T34 l0 x5_1).f3.f0))) (fun _ hk => hk.2) (.int .i64 ((rd_T34 l0 x5_1).f3.f1))) (fun _ hk => hk.2) (.int .i64 ((rd_T34 l0 x5_1).f3.f2))) (fun _ hk => hk.2) (.int .i64 ((rd_T34 l0 x5_1).f3.f3))) (fun _ hk => hk.2) (.int .i64 (wrap64 ((wrap64 (x4_1 + 1)) + (Go.bits .and .i64 ((rd_T34 l0 x5_1).f0) 7))))) (fun _ hk => hk.2) (.int .i64 (Int.tmod ((rd_T34 l0 x5_1).f1) 67108864))) (fun _ hk => hk.2) (.int .i64 (Int.tmod (Go.bits .and .i64 (Int.tmod ((rd_T34 l0 x5_1).f1) 67108864) 3) 3))) (fun _ hk => hk.2) (.int .i64 0)) (fun _ hk => hk.2) (.int .i64 0)) (fun _ hk => hk.2) (.int .i64 0)) (fun _ hk => hk.2) (.int .i64 0)) (fun _ hk => hk.1.2))); (case aS => exact (below_size (by repeat (first | (with_reducible first | exact HB.out | apply below_alloc | apply pw_below_drewN | apply below_drew1 | refine below_set ?_ GE247.out) | exact HB.out)))); (case aL => have := LMc12.out; omega); intro v252 w15 ho hb hg hat; rw [← Ny251.out] at ho; have n0_ := Aside0.mk (blk_grown (g := gb247) (o := .cells #[.int .i64 (wrap64 ((wrap64 (x4_1 + 1)) + (Go.bits .and .i64 ((rd_T34 l0 x5_1).f0) 7))), .int .i64 (Int.tmod ((rd_T34 l0 x5_1).f1) 67108864), .int .i64 (Int.tmod (Go.bits .and .i64 (Int.tmod ((rd_T34 l0 x5_1).f1) 67108864) 3) 3), .int .i64 0, .int .i64 0, .int .i64 0, .int .i64 0] 34 (0, 0)) (by (with_reducible repeat (first | refine blk_drewN ?_ _ | refine blk_drew ?_ | refine blk_alloc ?_ _)); refine blk_put (cs := #[.int .i64 (wrap64 ((wrap64 (x4_1 + 1)) + (Go.bits .and .i64 ((rd_T34 l0 x5_1).f0) 7))), .int .i64 (Int.tmod ((rd_T34 l0 x5_1).f1) 67108864), .int .i64 (Int.tmod (Go.bits .and .i64 (Int.tmod ((rd_T34 l0 x5_1).f1) 67108864) 3) 3), .int .i64 0, .int .i64 0, .int .i64 0, .int .i64 ((rd_T34 l0 x5_1).f3.f3)]) ?_ 6 _ rfl; (with_reducible repeat (first | refine blk_drewN ?_ _ | refine blk_drew ?_ | refine blk_alloc ?_ _)); refine blk_put (cs := #[.int .i64 (wrap64 ((wrap64 (x4_1 + 1)) + (Go.bits .and .i64 ((rd_T34 l0 x5_1).f0) 7))), .int .i64 (Int.tmod ((rd_T34 l0 x5_1).f1) 67108864), .int .i64 (Int.tmod (Go.bits .and .i64 (Int.tmod ((rd_T34 l0 x5_1).f1) 67108864) 3) 3), .int .i64 0, .int .i64 0, .int .i64 ((rd_T34 l0 x5_1).f3.f2), .int .i64 ((rd_T34 l0 x5_1).f3.f3)]) ?_ 5 _ rfl; (with_reducible repeat (first | refine blk_drewN ?_ _ | refine blk_drew ?_ | refine blk_alloc ?_ _)); refine blk_put (cs := #[.int .i64 (wrap64 ((wrap64 (x4_1 + 1)) + (Go.bits .and .i64 ((rd_T34 l0 x5_1).f0) 7))), .int .i64 (Int.tmod ((rd_T34 l0 x5_1).f1) 67108864), .int .i64 (Int.tmod (Go.bits .and .i64 (Int.tmod ((rd_T34 l0 x5_1).f1) 67108864) 3) 3), .int .i64 0, .int .i64 ((rd_T34 l0 x5_1).f3.f1), .int .i64 ((rd_T34 l0 x5_1).f3.f2), .int .i64 ((rd_T34 l0 x5_1).f3.f3)]) ?_ 4 _ rfl; (with_reducible repeat (first | refine blk_drewN ?_ _ | refine blk_drew ?_ | refine blk_alloc ?_ _)); refine blk_put (cs := #[.int .i64 (wrap64 ((wrap64 (x4_1 + 1)) + (Go.bits .and .i64 ((rd_T34 l0 x5_1).f0) 7))), .int .i64 (Int.tmod ((rd_T34 l0 x5_1).f1) 67108864), .int .i64 (Int.tmod (Go.bits .and .i64 (Int.tmod ((rd_T34 l0 x5_1).f1) 67108864) 3) 3), .int .i64 ((rd_T34 l0 x5_1).f3.f0), .int .i64 ((rd_T34 l0 x5_1).f3.f1), .int .i64 ((rd_T34 l0 x5_1).f3.f2), .int .i64 ((rd_T34 l0 x5_1).f3.f3)]) ?_ 3 _ rfl; (with_reducible repeat (first | refine blk_drewN ?_ _ | refine blk_drew ?_ | refine blk_alloc ?_ _)); refine blk_put (cs := #[.int .i64 (wrap64 ((wrap64 (x4_1 + 1)) + (Go.bits .and .i64 ((rd_T34 l0 x5_1).f0) 7))), .int .i64 (Int.tmod ((rd_T34 l0 x5_1).f1) 67108864), .int .i64 ((rd_T34 l0 x5_1).f2), .int .i64 ((rd_T34 l0 x5_1).f3.f0), .int .i64 ((rd_T34 l0 x5_1).f3.f1), .int .i64 ((rd_T34 l0 x5_1).f3.f2), .int .i64 ((rd_T34 l0 x5_1).f3.f3)]) ?_ 2 _ rfl; (with_reducible repeat (first | refine blk_drewN ?_ _ | refine blk_drew ?_ | refine blk_alloc ?_ _)); refine blk_put (cs := #[.int .i64 (wrap64 ((wrap64 (x4_1 + 1)) + (Go.bits .and .i64 ((rd_T34 l0 x5_1).f0) 7))), .int .i64 ((rd_T34 l0 x5_1).f1), .int .i64 ((rd_T34 l0 x5_1).f2), .int .i64 ((rd_T34 l0 x5_1).f3.f0), .int .i64 ((rd_T34 l0 x5_1).f3.f1), .int .i64 ((rd_T34 l0 x5_1).f3.f2), .int .i64 ((rd_T34 l0 x5_1).f3.f3)]) ?_ 1 _ rfl; (with_reducible repeat (first | refine blk_drewN ?_ _ | refine blk_drew ?_ | refine blk_alloc ?_ _)); refine blk_put (cs := #[.int .i64 ((rd_T34 l0 x5_1).f0), .int .i64 ((rd_T34 l0 x5_1).f1), .int .i64 ((rd_T34 l0 x5_1).f2), .int .i64 ((rd_T34 l0 x5_1).f3.f0), .int .i64 ((rd_T34 l0 x5_1).f3.f1), .int .i64 ((rd_T34 l0 x5_1).f3.f2), .int .i64 ((rd_T34 l0 x5_1).f3.f3)]) ?_ 0 _ rfl; (with_reducible repeat (first | refine blk_drewN ?_ _ | refine blk_drew ?_ | refine blk_alloc ?_ _)); refine blk_put (cs := #[.int .i64 ((rd_T34 l0 x5_1).f0), .int .i64 ((rd_T34 l0 x5_1).f1), .int .i64 ((rd_T34 l0 x5_1).f2), .int .i64 ((rd_T34 l0 x5_1).f3.f0), .int .i64 ((rd_T34 l0 x5_1).f3.f1), .int .i64 ((rd_T34 l0 x5_1).f3.f2), .int .i64 0]) ?_ 6 _ rfl; (with_reducible repeat (first | refine blk_drewN ?_ _ | refine blk_drew ?_ | refine blk_alloc ?_ _)); refine blk_put (cs := #[.int .i64 ((rd_T34 l0 x5_1).f0), .int .i64 ((rd_T34 l0 x5_1).f1), .int .i64 ((rd_T34 l0 x5_1).f2), .int .i64 ((rd_T34 l0 x5_1).f3.f0), .int .i64 ((rd_T34 l0 x5_1).f3.f1), .int .i64 0, .int .i64 0]) ?_ 5 _ rfl; (with_reducible repeat (first | refine blk_drewN ?_ _ | refine blk_drew ?_ | refine blk_alloc ?_ _)); refine blk_put (cs := #[.int .i64 ((rd_T34 l0 x5_1).f0), .int .i64 ((rd_T34 l0 x5_1).f1), .int .i64 ((rd_T34 l0 x5_1).f2), .int .i64 ((rd_T34 l0 x5_1).f3.f0), .int .i64 0, .int .i64 0, .int .i64 0]) ?_ 4 _ rfl; (with_reducible repeat (first | refine blk_drewN ?_ _ | refine blk_drew ?_ | refine blk_alloc ?_ _)); refine blk_put (cs := #[.int .i64 ((rd_T34 l0 x5_1).f0), .int .i64 ((rd_T34 l0 x5_1).f1), .int .i64 ((rd_T34 l0 x5_1).f2), .int .i64 0, .int .i64 0, .int .i64 0, .int .i64 0]) ?_ 3 _ rfl; (with_reducible repeat (first | refine blk_drewN ?_ _ | refine blk_drew ?_ | refine blk_alloc ?_ _)); refine blk_put (cs := #[.int .i64 ((rd_T34 l0 x5_1).f0), .int .i64 ((rd_T34 l0 x5_1).f1), .int .i64 0, .int .i64 0, .int .i64 0, .int .i64 0, .int .i64 0]) ?_ 2 _ rfl; (with_reducible repeat (first | refine blk_drewN ?_ _ | refine blk_drew ?_ | refine blk_alloc ?_ _)); refine blk_put (cs := #[.int .i64 ((rd_T34 l0 x5_1).f0), .int .i64 0, .int .i64 0, .int .i64 0, .int .i64 0, .int .i64 0, .int .i64 0]) ?_ 1 _ rfl; (with_reducible repeat (first | refine blk_drewN ?_ _ | refine blk_drew ?_ | refine blk_alloc ?_ _)); refine blk_put (cs := #[.int .i64 0, .int .i64 0, .int .i64 0, .int .i64 0, .int .i64 0, .int .i64 0, .int .i64 0]) ?_ 0 _ rfl; (with_reducible repeat (first | refine blk_drewN ?_ _ | refine blk_drew ?_ | refine blk_alloc ?_ _)); exact BK247.out) hg (Kd.R_away HO_3.out (fun _ hk => hk.2))); have n1_ := Aside0.mk (hb); have n2_ := Aside0.mk (ho); clear BK247; clear HB; clear HO_3; have BK247 := n0_; have HB := n1_; have HO253 := n2_; clear n0_ n1_ n2_; clear ho hb hg hat))
          go_roundg kj1
          case measure => have := HK1.out; have := HJ1.out; omega
          case rel => exact ⟨(y251), (wrap64 ((wrap64 (x4_1 + 1)) + (Go.bits .and .i64 ((rd_T34 l0 x5_1).f0) 7))), (wrap64 (x5_1 + 1)), (by first | rfl | (simp; done) | (simp [*]; done)), (by first | rfl | (simp; done) | (simp [*]; done)), H', ⟨by have := HK1.out; have := HJ1.out; omega⟩, ⟨by (with_reducible repeat (first | apply Kd.R_alloc | apply Kd.R_drewN | apply Kd.R_drew)); exact Kd.R_mono HO253.out (fun _ hk => trivial)⟩, ⟨by repeat (first | (with_reducible first | exact HB.out | apply below_alloc | apply pw_below_drewN | apply below_drew1 | refine below_set ?_ GE247.out) | exact HB.out)⟩⟩
         ·rw [if_neg c12] at H
          exact absurd H (by simp)
       ·rw [if_neg c6] at H
        exact absurd H (by simp)
      ·rw [if_neg c5] at H
       exact absurd H (by simp)
     ·replace c4 := Bool.eq_false_iff.mpr c4
      subst c4
      have H1 : (some x3_1) = some r := by rw [if_neg (show ¬ (false = true) by decide)] at H; exact H
      clear H
      have H := H1
      clear H1
      obtain rfl := Option.some.inj H
      go_wp2
      go_ret
      exact ⟨_, by first | rfl | (simp [errW_none, errW_some] <;> rfl) | (simp [*, errW_none, errW_some] <;> rfl), by (with_reducible repeat (first | apply Kd.R_alloc | apply Kd.R_drewN | apply Kd.R_drew)); exact HO_3.out, by repeat (first | (with_reducible first | exact HB.out | apply below_alloc | apply pw_below_drewN | apply below_drew1) | exact HB.out)⟩
end Go.Proofs.Ytejnbjclcdmopaa.PA
end

section
namespace Go.Proofs.Ytejnbjclcdmopaa.PA
open Go.RowKit Go.Proofs.YtejnbjclcdmopaaW.PrintWords Go.Proofs.YtejnbjclcdmopaaW.PrintLast Go.Proofs.YtejnbjclcdmopaaW.PrintMore
attribute [local go_sem] max2_int min2_int max_two min_two max_three min_three max_four min_four
attribute [local go_sem] Go.Proofs.Ytejnbjclcdmopaa.MS.isSome_setCell
set_option linter.unusedVariables false
set_option linter.unusedSimpArgs false
def q_Clamp.f (a0 : Int) (a1 : Int) (a2 : Int) : Option (Int) := if a0 < a1 then (some a1) else (if a0 > a2 then (some a2) else (some a0))
set_option maxHeartbeats 8000000 in
set_option maxRecDepth 100000 in
theorem q_Clamp.calls (a0 : Int) (a1 : Int) (a2 : Int) (r : Int) (w : World) (h : q_Clamp.f a0 a1 a2 = some r) :
  Calls Try.prog 44 #[.int .i64 a0, .int .i64 a1, .int .i64 a2] w fun e w' => e = .returned (.int .i64 r) ∧ Drawn0 w w' := by
 have H : (if a0 < a1 then (some a1) else (if a0 > a2 then (some a2) else (some a0))) = some r := h
 clear h
 by_cases c4 : a0 < a1
 ·rw [if_pos c4] at H
  have c4b0 : decide (a0 < a1) = true := decide_eq_true c4
  clear c4
  obtain rfl := Option.some.inj H
  go_enter Try.func44, Try.ntmps44
  go_wp2
  go_ret
  exact ⟨by first | rfl | (simp; done) | (simp [*]; done), by repeat (first | exact Drawn0.refl _ | apply Drawn0.step)⟩
 ·rw [if_neg c4] at H
  have c4b0 : decide (a0 < a1) = false := decide_eq_false c4
  clear c4
  by_cases c5 : a0 > a2
  ·rw [if_pos c5] at H
   have c5b0 : decide (a2 < a0) = true := decide_eq_true c5
   clear c5
   obtain rfl := Option.some.inj H
   go_enter Try.func44, Try.ntmps44
   go_wp2
   go_ret
   exact ⟨by first | rfl | (simp; done) | (simp [*]; done), by repeat (first | exact Drawn0.refl _ | apply Drawn0.step)⟩
  ·rw [if_neg c5] at H
   have c5b0 : decide (a2 < a0) = false := decide_eq_false c5
   clear c5
   obtain rfl := Option.some.inj H
   go_enter Try.func44, Try.ntmps44
   go_wp2
   go_ret
   exact ⟨by first | rfl | (simp; done) | (simp [*]; done), by repeat (first | exact Drawn0.refl _ | apply Drawn0.step)⟩
def q_Hold.f (a0 : Int) : Option (Int) := (q_Clamp.f a0 (-1099511627776) 1099511627776).bind fun t101 => (some t101)
set_option maxHeartbeats 8000000 in
set_option maxRecDepth 100000 in
theorem q_Hold.calls (a0 : Int) (r : Int) (w : World) (h : q_Hold.f a0 = some r) :
  Calls Try.prog 30 #[.int .i64 a0] w fun e w' => e = .returned (.int .i64 r) ∧ Drawn0 w w' := by
 have H : ((q_Clamp.f a0 (-1099511627776) 1099511627776).bind fun t101 => (some t101)) = some r := h
 clear h
 replace H := Option.bind_eq_some_iff.mp H
 obtain ⟨t101, A20, H⟩ := H
 replace H : (some t101) = some r := H
 have A2 := Aside0.mk A20
 clear A20
 obtain rfl := Option.some.inj H
 go_enter Try.func30, Try.ntmps30
 go_wp2_with (first | ((with_reducible refine gate_callee (f := 44) rfl ?_); refine goesL_ (some 4) rfl rfl Try.func44 (by kernel_rfl) rfl #[.int .i64 a0, .int .i64 (-1099511627776), .int .i64 1099511627776] rfl (by (try simp only [List.map_toArray, List.map_cons, List.map_nil]); first | done | rfl | (simp only [List.length_drop, List.length_take]; rfl)) ?_; (with_reducible refine (q_Clamp.calls a0 (-1099511627776) 1099511627776 t101 _ A2.out).mono ?_); rintro e w' ⟨rfl, ⟨nd, rfl⟩⟩; refine ⟨_, rfl, ?_⟩))
 go_ret
 exact ⟨by first | rfl | (simp; done) | (simp [*]; done), by repeat (first | exact Drawn0.refl _ | apply Drawn0.step)⟩
def q_down.j0 : Nat → Int → Int → Bool → Option (Int)
 | 0, _, _, _ => none
 | k + 1, x5, x6, x15 => if x15 = true then (some (-9223372036854775808)) else (if x5 > 0 then (some 9223372036854775807) else (if x5 = 0 then (if (x6 / 9223372036854775808) = 0 then (some (wrap64 (x6))) else (some 9223372036854775807)) else (some (wrap64 (x6)))))
def q_down.f (k : Nat) (a0 : Int) (a1 : Int) : Option (Int) := if ((wrap64 (a0)) / 65536) < (-1) then (q_down.j0 k ((wrap64 (a0)) / 65536) (Go.bits .or .u64 (IntKind.u64.wrap (a0 * 281474976710656)) (a1 / 65536)) true) else (if ((wrap64 (a0)) / 65536) = (-1) then (q_down.j0 k ((wrap64 (a0)) / 65536) (Go.bits .or .u64 (IntKind.u64.wrap (a0 * 281474976710656)) (a1 / 65536)) (((Go.bits .or .u64 (IntKind.u64.wrap (a0 * 281474976710656)) (a1 / 65536)) / 9223372036854775808) == 0)) else (q_down.j0 k ((wrap64 (a0)) / 65536) (Go.bits .or .u64 (IntKind.u64.wrap (a0 * 281474976710656)) (a1 / 65536)) false))
set_option maxHeartbeats 8000000 in
set_option maxRecDepth 100000 in
theorem q_down.calls (k : Nat) (a0 : Int) (a1 : Int) (r : Int) (w : World) (h : q_down.f k a0 a1 = some r) :
  Calls Try.prog 55 #[.int .u64 a0, .int .u64 a1] w fun e w' => e = .returned (.int .i64 r) ∧ Drawn0 w w' := by
 have H : (if ((wrap64 (a0)) / 65536) < (-1) then (q_down.j0 k ((wrap64 (a0)) / 65536) (Go.bits .or .u64 (IntKind.u64.wrap (a0 * 281474976710656)) (a1 / 65536)) true) else (if ((wrap64 (a0)) / 65536) = (-1) then (q_down.j0 k ((wrap64 (a0)) / 65536) (Go.bits .or .u64 (IntKind.u64.wrap (a0 * 281474976710656)) (a1 / 65536)) (((Go.bits .or .u64 (IntKind.u64.wrap (a0 * 281474976710656)) (a1 / 65536)) / 9223372036854775808) == 0)) else (q_down.j0 k ((wrap64 (a0)) / 65536) (Go.bits .or .u64 (IntKind.u64.wrap (a0 * 281474976710656)) (a1 / 65536)) false))) = some r := h
 clear h
 have HC3 := Aside0.mk H
 clear H
 go_enter Try.func55, Try.ntmps55
 go_upto_region 3 with (fail)
 go_cut [15] (fun v15 wc => ∃ (kq : Nat) (x15_2 : Bool), v15 = .bool x15_2 ∧ Aside0 (q_down.j0 kq ((wrap64 (a0)) / 65536) (Go.bits .or .u64 (IntKind.u64.wrap (a0 * 281474976710656)) (a1 / 65536)) x15_2 = some r) ∧ Aside0 (kq ≤ k) ∧ Drawn0 w wc)
 case first =>
  have H := HC3.out
  clear HC3
  by_cases c4 : ((wrap64 (a0)) / 65536) < (-1)
  ·rw [if_pos c4] at H
   have c4b0 : decide (((wrap64 (a0)) / 65536) < (-1)) = true := decide_eq_true c4
   clear c4
   (first | rw [c4b0] | (simp only [i64_w, i32_w]; rw [c4b0]) | skip)
   have H' := Aside0.mk H
   clear H
   go_wp2
   go_meet
   case rel => exact ⟨_, (true), (by first | rfl | (simp; done) | (simp [*]; done)), H', ⟨by first | omega | exact Nat.le_refl _⟩, by repeat (first | exact Drawn0.refl _ | apply Drawn0.step)⟩
  ·rw [if_neg c4] at H
   have c4b0 : decide (((wrap64 (a0)) / 65536) < (-1)) = false := decide_eq_false c4
   clear c4
   (first | rw [c4b0] | (simp only [i64_w, i32_w]; rw [c4b0]) | skip)
   by_cases c5 : ((wrap64 (a0)) / 65536) = (-1)
   ·rw [if_pos c5] at H
    have c5b0 : (((wrap64 (a0)) / 65536) == (-1)) = true := beq_iff_eq.mpr c5
    have c5b1 : (((wrap64 (a0)) / 65536) != (-1)) = false := bne_eq_false_iff_eq.mpr c5
    clear c5
    have H' := Aside0.mk H
    clear H
    go_wp2
    go_meet
    case rel => exact ⟨_, ((((Go.bits .or .u64 (IntKind.u64.wrap (a0 * 281474976710656)) (a1 / 65536)) / 9223372036854775808) == 0)), (by first | rfl | (simp; done) | (simp [*]; done)), H', ⟨by first | omega | exact Nat.le_refl _⟩, by repeat (first | exact Drawn0.refl _ | apply Drawn0.step)⟩
   ·rw [if_neg c5] at H
    have c5b0 : (((wrap64 (a0)) / 65536) == (-1)) = false := beq_eq_false_iff_ne.mpr c5
    have c5b1 : (((wrap64 (a0)) / 65536) != (-1)) = true := bne_iff_ne.mpr c5
    have H' := Aside0.mk H
    clear H
    go_wp2
    go_meet
    case rel => exact ⟨_, (false), (by first | rfl | (simp; done) | (simp [*]; done)), H', ⟨by first | omega | exact Nat.le_refl _⟩, by repeat (first | exact Drawn0.refl _ | apply Drawn0.step)⟩
 case rest =>
  clear HC3
  try clear p2
  try clear c4
  try clear c4b0
  try clear c5
  try clear c5b0
  try clear c5b1
  obtain ⟨kq, x15_2, rfl, HA, HJ2, ⟨mc2, rfl⟩⟩ := hcut
  cases kq with
  | zero => exact absurd HA.out (by simp [q_down.j0])
  | succ kj2 =>
   have H := HA.out
   clear HA
   simp only [q_down.j0] at H
   by_cases c6 : x15_2 = true
   ·subst c6
    have H1 : (some (-9223372036854775808)) = some r := by rw [if_pos rfl] at H; exact H
    clear H
    have H := H1
    clear H1
    obtain rfl := Option.some.inj H
    go_wp2
    go_ret
    exact ⟨by first | rfl | (simp; done) | (simp [*]; done), by repeat (first | exact Drawn0.refl _ | apply Drawn0.step)⟩
   ·replace c6 := Bool.eq_false_iff.mpr c6
    subst c6
    have H1 : (if ((wrap64 (a0)) / 65536) > 0 then (some 9223372036854775807) else (if ((wrap64 (a0)) / 65536) = 0 then (if ((Go.bits .or .u64 (IntKind.u64.wrap (a0 * 281474976710656)) (a1 / 65536)) / 9223372036854775808) = 0 then (some (wrap64 ((Go.bits .or .u64 (IntKind.u64.wrap (a0 * 281474976710656)) (a1 / 65536))))) else (some 9223372036854775807)) else (some (wrap64 ((Go.bits .or .u64 (IntKind.u64.wrap (a0 * 281474976710656)) (a1 / 65536))))))) = some r := by rw [if_neg (show ¬ (false = true) by decide)] at H; exact H
    clear H
    have H := H1
    clear H1
    by_cases c7 : ((wrap64 (a0)) / 65536) > 0
    ·rw [if_pos c7] at H
     have c7b0 : decide (0 < ((wrap64 (a0)) / 65536)) = true := decide_eq_true c7
     clear c7
     obtain rfl := Option.some.inj H
     go_wp2
     go_ret
     exact ⟨by first | rfl | (simp; done) | (simp [*]; done), by repeat (first | exact Drawn0.refl _ | apply Drawn0.step)⟩
    ·rw [if_neg c7] at H
     have c7b0 : decide (0 < ((wrap64 (a0)) / 65536)) = false := decide_eq_false c7
     clear c7
     by_cases c8 : ((wrap64 (a0)) / 65536) = 0
     ·rw [if_pos c8] at H
      have c8b0 : (((wrap64 (a0)) / 65536) == 0) = true := beq_iff_eq.mpr c8
      have c8b1 : (((wrap64 (a0)) / 65536) != 0) = false := bne_eq_false_iff_eq.mpr c8
      clear c8
      by_cases c9 : ((Go.bits .or .u64 (IntKind.u64.wrap (a0 * 281474976710656)) (a1 / 65536)) / 9223372036854775808) = 0
      ·rw [if_pos c9] at H
       have c9b0 : (((Go.bits .or .u64 (IntKind.u64.wrap (a0 * 281474976710656)) (a1 / 65536)) / 9223372036854775808) == 0) = true := beq_iff_eq.mpr c9
       have c9b1 : (((Go.bits .or .u64 (IntKind.u64.wrap (a0 * 281474976710656)) (a1 / 65536)) / 9223372036854775808) != 0) = false := bne_eq_false_iff_eq.mpr c9
       clear c9
       obtain rfl := Option.some.inj H
       go_wp2
       go_ret
       exact ⟨by first | rfl | (simp; done) | (simp [*]; done), by repeat (first | exact Drawn0.refl _ | apply Drawn0.step)⟩
      ·rw [if_neg c9] at H
       have c9b0 : (((Go.bits .or .u64 (IntKind.u64.wrap (a0 * 281474976710656)) (a1 / 65536)) / 9223372036854775808) == 0) = false := beq_eq_false_iff_ne.mpr c9
       have c9b1 : (((Go.bits .or .u64 (IntKind.u64.wrap (a0 * 281474976710656)) (a1 / 65536)) / 9223372036854775808) != 0) = true := bne_iff_ne.mpr c9
       obtain rfl := Option.some.inj H
       go_wp2
       go_ret
       exact ⟨by first | rfl | (simp; done) | (simp [*]; done), by repeat (first | exact Drawn0.refl _ | apply Drawn0.step)⟩
     ·rw [if_neg c8] at H
      have c8b0 : (((wrap64 (a0)) / 65536) == 0) = false := beq_eq_false_iff_ne.mpr c8
      have c8b1 : (((wrap64 (a0)) / 65536) != 0) = true := bne_iff_ne.mpr c8
      obtain rfl := Option.some.inj H
      go_wp2
      go_ret
      exact ⟨by first | rfl | (simp; done) | (simp [*]; done), by repeat (first | exact Drawn0.refl _ | apply Drawn0.step)⟩
def bits_Mul64.f (a0 : Int) (a1 : Int) : Option (Int × Int) := some (IntKind.u64.wrap ((IntKind.u64.wrap ((IntKind.u64.wrap ((a0 / 4294967296) * (a1 / 4294967296))) + ((IntKind.u64.wrap ((IntKind.u64.wrap ((a0 / 4294967296) * (Go.bits .and .u64 a1 4294967295))) + ((IntKind.u64.wrap ((Go.bits .and .u64 a0 4294967295) * (Go.bits .and .u64 a1 4294967295))) / 4294967296))) / 4294967296))) + ((IntKind.u64.wrap ((Go.bits .and .u64 (IntKind.u64.wrap ((IntKind.u64.wrap ((a0 / 4294967296) * (Go.bits .and .u64 a1 4294967295))) + ((IntKind.u64.wrap ((Go.bits .and .u64 a0 4294967295) * (Go.bits .and .u64 a1 4294967295))) / 4294967296))) 4294967295) + (IntKind.u64.wrap ((Go.bits .and .u64 a0 4294967295) * (a1 / 4294967296))))) / 4294967296)), IntKind.u64.wrap (a0 * a1))
set_option maxHeartbeats 8000000 in
set_option maxRecDepth 100000 in
theorem bits_Mul64.calls (a0 : Int) (a1 : Int) (r1 : Int) (r2 : Int) (w : World) (h : bits_Mul64.f a0 a1 = some (r1, r2)) :
  Calls Try.prog 58 #[.int .u64 a0, .int .u64 a1] w fun e w' => e = .returned (.tuple #[.int .u64 r1, .int .u64 r2]) ∧ Drawn0 w w' := by
 have H : (some (IntKind.u64.wrap ((IntKind.u64.wrap ((IntKind.u64.wrap ((a0 / 4294967296) * (a1 / 4294967296))) + ((IntKind.u64.wrap ((IntKind.u64.wrap ((a0 / 4294967296) * (Go.bits .and .u64 a1 4294967295))) + ((IntKind.u64.wrap ((Go.bits .and .u64 a0 4294967295) * (Go.bits .and .u64 a1 4294967295))) / 4294967296))) / 4294967296))) + ((IntKind.u64.wrap ((Go.bits .and .u64 (IntKind.u64.wrap ((IntKind.u64.wrap ((a0 / 4294967296) * (Go.bits .and .u64 a1 4294967295))) + ((IntKind.u64.wrap ((Go.bits .and .u64 a0 4294967295) * (Go.bits .and .u64 a1 4294967295))) / 4294967296))) 4294967295) + (IntKind.u64.wrap ((Go.bits .and .u64 a0 4294967295) * (a1 / 4294967296))))) / 4294967296)), IntKind.u64.wrap (a0 * a1))) = some (r1, r2) := h
 clear h
 simp only [Option.some.injEq, Prod.mk.injEq] at H
 obtain ⟨rfl, rfl⟩ := H
 go_enter Try.func58, Try.ntmps58
 go_wp2
 go_ret2
 exact ⟨by first | rfl | (simp; done) | (simp [*]; done), by repeat (first | exact Drawn0.refl _ | apply Drawn0.step)⟩
end Go.Proofs.Ytejnbjclcdmopaa.PA
end

section
namespace Go.Proofs.Ytejnbjclcdmopaa.PA
open Go.RowKit Go.Proofs.YtejnbjclcdmopaaW.PrintWords Go.Proofs.YtejnbjclcdmopaaW.PrintLast Go.Proofs.YtejnbjclcdmopaaW.PrintMore
attribute [local go_sem] max2_int min2_int max_two min_two max_three min_three max_four min_four
attribute [local go_sem] Go.Proofs.Ytejnbjclcdmopaa.MS.isSome_setCell
set_option linter.unusedVariables false
set_option linter.unusedSimpArgs false
def q_product.f (a0 : Int) (a1 : Int) : Option (Int × Int) := (bits_Mul64.f (IntKind.u64.wrap (a0)) (IntKind.u64.wrap (a1))).bind fun bt102 => (if a0 < 0 then (if a1 < 0 then (some (IntKind.u64.wrap ((IntKind.u64.wrap (bt102.1 - (IntKind.u64.wrap (a1)))) - (IntKind.u64.wrap (a0))), bt102.2)) else (some (IntKind.u64.wrap (bt102.1 - (IntKind.u64.wrap (a1))), bt102.2))) else (if a1 < 0 then (some (IntKind.u64.wrap (bt102.1 - (IntKind.u64.wrap (a0))), bt102.2)) else (some (bt102.1, bt102.2))))
set_option maxHeartbeats 8000000 in
set_option maxRecDepth 100000 in
theorem q_product.calls (a0 : Int) (a1 : Int) (r1 : Int) (r2 : Int) (w : World) (h : q_product.f a0 a1 = some (r1, r2)) :
  Calls Try.prog 56 #[.int .i64 a0, .int .i64 a1] w fun e w' => e = .returned (.tuple #[.int .u64 r1, .int .u64 r2]) ∧ Drawn0 w w' := by
 have H : ((bits_Mul64.f (IntKind.u64.wrap (a0)) (IntKind.u64.wrap (a1))).bind fun bt102 => (if a0 < 0 then (if a1 < 0 then (some (IntKind.u64.wrap ((IntKind.u64.wrap (bt102.1 - (IntKind.u64.wrap (a1)))) - (IntKind.u64.wrap (a0))), bt102.2)) else (some (IntKind.u64.wrap (bt102.1 - (IntKind.u64.wrap (a1))), bt102.2))) else (if a1 < 0 then (some (IntKind.u64.wrap (bt102.1 - (IntKind.u64.wrap (a0))), bt102.2)) else (some (bt102.1, bt102.2))))) = some (r1, r2) := h
 clear h
 replace H := Option.bind_eq_some_iff.mp H
 obtain ⟨⟨t102, t103⟩, A30, H⟩ := H
 replace H : (if a0 < 0 then (if a1 < 0 then (some (IntKind.u64.wrap ((IntKind.u64.wrap (t102 - (IntKind.u64.wrap (a1)))) - (IntKind.u64.wrap (a0))), t103)) else (some (IntKind.u64.wrap (t102 - (IntKind.u64.wrap (a1))), t103))) else (if a1 < 0 then (some (IntKind.u64.wrap (t102 - (IntKind.u64.wrap (a0))), t103)) else (some (t102, t103)))) = some (r1, r2) := H
 have A3 := Aside0.mk A30
 clear A30
 by_cases c4 : a0 < 0
 ·rw [if_pos c4] at H
  have c4b0 : decide (a0 < 0) = true := decide_eq_true c4
  clear c4
  by_cases c5 : a1 < 0
  ·rw [if_pos c5] at H
   have c5b0 : decide (a1 < 0) = true := decide_eq_true c5
   clear c5
   simp only [Option.some.injEq, Prod.mk.injEq] at H
   obtain ⟨rfl, rfl⟩ := H
   go_enter Try.func56, Try.ntmps56
   go_wp2_with (first | ((with_reducible refine gate_callee (f := 58) rfl ?_); refine goesL_ (some 13) rfl rfl Try.func58 (by kernel_rfl) rfl #[.int .u64 (IntKind.u64.wrap (a0)), .int .u64 (IntKind.u64.wrap (a1))] rfl (by (try simp only [List.map_toArray, List.map_cons, List.map_nil]); first | done | rfl | (simp only [List.length_drop, List.length_take]; rfl)) ?_; (with_reducible refine (bits_Mul64.calls (IntKind.u64.wrap (a0)) (IntKind.u64.wrap (a1)) t102 t103 _ A3.out).mono ?_); rintro e w' ⟨rfl, ⟨nd, rfl⟩⟩; refine ⟨_, rfl, ?_⟩))
   go_ret2
   exact ⟨by first | rfl | (simp; done) | (simp [*]; done), by repeat (first | exact Drawn0.refl _ | apply Drawn0.step)⟩
  ·rw [if_neg c5] at H
   have c5b0 : decide (a1 < 0) = false := decide_eq_false c5
   clear c5
   simp only [Option.some.injEq, Prod.mk.injEq] at H
   obtain ⟨rfl, rfl⟩ := H
   go_enter Try.func56, Try.ntmps56
   go_wp2_with (first | ((with_reducible refine gate_callee (f := 58) rfl ?_); refine goesL_ (some 13) rfl rfl Try.func58 (by kernel_rfl) rfl #[.int .u64 (IntKind.u64.wrap (a0)), .int .u64 (IntKind.u64.wrap (a1))] rfl (by (try simp only [List.map_toArray, List.map_cons, List.map_nil]); first | done | rfl | (simp only [List.length_drop, List.length_take]; rfl)) ?_; (with_reducible refine (bits_Mul64.calls (IntKind.u64.wrap (a0)) (IntKind.u64.wrap (a1)) t102 t103 _ A3.out).mono ?_); rintro e w' ⟨rfl, ⟨nd, rfl⟩⟩; refine ⟨_, rfl, ?_⟩))
   go_ret2
   exact ⟨by first | rfl | (simp; done) | (simp [*]; done), by repeat (first | exact Drawn0.refl _ | apply Drawn0.step)⟩
 ·rw [if_neg c4] at H
  have c4b0 : decide (a0 < 0) = false := decide_eq_false c4
  clear c4
  by_cases c6 : a1 < 0
  ·rw [if_pos c6] at H
   have c6b0 : decide (a1 < 0) = true := decide_eq_true c6
   clear c6
   simp only [Option.some.injEq, Prod.mk.injEq] at H
   obtain ⟨rfl, rfl⟩ := H
   go_enter Try.func56, Try.ntmps56
   go_wp2_with (first | ((with_reducible refine gate_callee (f := 58) rfl ?_); refine goesL_ (some 13) rfl rfl Try.func58 (by kernel_rfl) rfl #[.int .u64 (IntKind.u64.wrap (a0)), .int .u64 (IntKind.u64.wrap (a1))] rfl (by (try simp only [List.map_toArray, List.map_cons, List.map_nil]); first | done | rfl | (simp only [List.length_drop, List.length_take]; rfl)) ?_; (with_reducible refine (bits_Mul64.calls (IntKind.u64.wrap (a0)) (IntKind.u64.wrap (a1)) t102 t103 _ A3.out).mono ?_); rintro e w' ⟨rfl, ⟨nd, rfl⟩⟩; refine ⟨_, rfl, ?_⟩))
   go_ret2
   exact ⟨by first | rfl | (simp; done) | (simp [*]; done), by repeat (first | exact Drawn0.refl _ | apply Drawn0.step)⟩
  ·rw [if_neg c6] at H
   have c6b0 : decide (a1 < 0) = false := decide_eq_false c6
   clear c6
   simp only [Option.some.injEq, Prod.mk.injEq] at H
   obtain ⟨rfl, rfl⟩ := H
   go_enter Try.func56, Try.ntmps56
   go_wp2_with (first | ((with_reducible refine gate_callee (f := 58) rfl ?_); refine goesL_ (some 13) rfl rfl Try.func58 (by kernel_rfl) rfl #[.int .u64 (IntKind.u64.wrap (a0)), .int .u64 (IntKind.u64.wrap (a1))] rfl (by (try simp only [List.map_toArray, List.map_cons, List.map_nil]); first | done | rfl | (simp only [List.length_drop, List.length_take]; rfl)) ?_; (with_reducible refine (bits_Mul64.calls (IntKind.u64.wrap (a0)) (IntKind.u64.wrap (a1)) t102 t103 _ A3.out).mono ?_); rintro e w' ⟨rfl, ⟨nd, rfl⟩⟩; refine ⟨_, rfl, ?_⟩))
   go_ret2
   exact ⟨by first | rfl | (simp; done) | (simp [*]; done), by repeat (first | exact Drawn0.refl _ | apply Drawn0.step)⟩
def q_Mul.f (k : Nat) (a0 : Int) (a1 : Int) : Option (Int) := (q_Hold.f a0).bind fun t104 => ((q_Hold.f a1).bind fun t105 => ((q_product.f t104 t105).bind fun bt106 => ((q_down.f k bt106.1 bt106.2).bind fun t108 => ((q_Hold.f t108).bind fun t109 => (some t109)))))
set_option maxHeartbeats 8000000 in
set_option maxRecDepth 100000 in
theorem q_Mul.calls (k : Nat) (a0 : Int) (a1 : Int) (r : Int) (w : World) (h : q_Mul.f k a0 a1 = some r) :
  Calls Try.prog 45 #[.int .i64 a0, .int .i64 a1] w fun e w' => e = .returned (.int .i64 r) ∧ Drawn0 w w' := by
 have H : ((q_Hold.f a0).bind fun t104 => ((q_Hold.f a1).bind fun t105 => ((q_product.f t104 t105).bind fun bt106 => ((q_down.f k bt106.1 bt106.2).bind fun t108 => ((q_Hold.f t108).bind fun t109 => (some t109)))))) = some r := h
 clear h
 replace H := Option.bind_eq_some_iff.mp H
 obtain ⟨t104, A30, H⟩ := H
 replace H : ((q_Hold.f a1).bind fun t105 => ((q_product.f t104 t105).bind fun bt106 => ((q_down.f k bt106.1 bt106.2).bind fun t108 => ((q_Hold.f t108).bind fun t109 => (some t109))))) = some r := H
 have A3 := Aside0.mk A30
 clear A30
 replace H := Option.bind_eq_some_iff.mp H
 obtain ⟨t105, A40, H⟩ := H
 replace H : ((q_product.f t104 t105).bind fun bt106 => ((q_down.f k bt106.1 bt106.2).bind fun t108 => ((q_Hold.f t108).bind fun t109 => (some t109)))) = some r := H
 have A4 := Aside0.mk A40
 clear A40
 replace H := Option.bind_eq_some_iff.mp H
 obtain ⟨⟨t106, t107⟩, A50, H⟩ := H
 replace H : ((q_down.f k t106 t107).bind fun t108 => ((q_Hold.f t108).bind fun t109 => (some t109))) = some r := H
 have A5 := Aside0.mk A50
 clear A50
 replace H := Option.bind_eq_some_iff.mp H
 obtain ⟨t108, A60, H⟩ := H
 replace H : ((q_Hold.f t108).bind fun t109 => (some t109)) = some r := H
 have A6 := Aside0.mk A60
 clear A60
 replace H := Option.bind_eq_some_iff.mp H
 obtain ⟨t109, A70, H⟩ := H
 replace H : (some t109) = some r := H
 have A7 := Aside0.mk A70
 clear A70
 obtain rfl := Option.some.inj H
 go_enter Try.func45, Try.ntmps45
 go_wp2_with (first | ((with_reducible refine gate_callee (f := 30) rfl ?_); refine goesL_ (some 6) rfl rfl Try.func30 (by kernel_rfl) rfl #[.int .i64 a0] rfl (by (try simp only [List.map_toArray, List.map_cons, List.map_nil]); first | done | rfl | (simp only [List.length_drop, List.length_take]; rfl)) ?_; (with_reducible refine (q_Hold.calls a0 t104 _ A3.out).mono ?_); rintro e w' ⟨rfl, ⟨nd, rfl⟩⟩; refine ⟨_, rfl, ?_⟩) | ((with_reducible refine gate_callee (f := 30) rfl ?_); refine goesL_ (some 8) rfl rfl Try.func30 (by kernel_rfl) rfl #[.int .i64 a1] rfl (by (try simp only [List.map_toArray, List.map_cons, List.map_nil]); first | done | rfl | (simp only [List.length_drop, List.length_take]; rfl)) ?_; (with_reducible refine (q_Hold.calls a1 t105 _ A4.out).mono ?_); rintro e w' ⟨rfl, ⟨nd, rfl⟩⟩; refine ⟨_, rfl, ?_⟩) | ((with_reducible refine gate_callee (f := 56) rfl ?_); refine goesL_ (some 9) rfl rfl Try.func56 (by kernel_rfl) rfl #[.int .i64 t104, .int .i64 t105] rfl (by (try simp only [List.map_toArray, List.map_cons, List.map_nil]); first | done | rfl | (simp only [List.length_drop, List.length_take]; rfl)) ?_; (with_reducible refine (q_product.calls t104 t105 t106 t107 _ A5.out).mono ?_); rintro e w' ⟨rfl, ⟨nd, rfl⟩⟩; refine ⟨_, rfl, ?_⟩) | ((with_reducible refine gate_callee (f := 55) rfl ?_); refine goesL_ (some 12) rfl rfl Try.func55 (by kernel_rfl) rfl #[.int .u64 t106, .int .u64 t107] rfl (by (try simp only [List.map_toArray, List.map_cons, List.map_nil]); first | done | rfl | (simp only [List.length_drop, List.length_take]; rfl)) ?_; (with_reducible refine (q_down.calls k t106 t107 t108 _ A6.out).mono ?_); rintro e w' ⟨rfl, ⟨nd, rfl⟩⟩; refine ⟨_, rfl, ?_⟩) | ((with_reducible refine gate_callee (f := 30) rfl ?_); refine goesL_ (some 13) rfl rfl Try.func30 (by kernel_rfl) rfl #[.int .i64 t108] rfl (by (try simp only [List.map_toArray, List.map_cons, List.map_nil]); first | done | rfl | (simp only [List.length_drop, List.length_take]; rfl)) ?_; (with_reducible refine (q_Hold.calls t108 t109 _ A7.out).mono ?_); rintro e w' ⟨rfl, ⟨nd, rfl⟩⟩; refine ⟨_, rfl, ?_⟩))
 go_ret
 exact ⟨by first | rfl | (simp; done) | (simp [*]; done), by repeat (first | exact Drawn0.refl _ | apply Drawn0.step)⟩
def q_Add.f (a0 : Int) (a1 : Int) : Option (Int) := (q_Hold.f a0).bind fun t110 => ((q_Hold.f a1).bind fun t111 => ((q_Hold.f (wrap64 (t110 + t111))).bind fun t112 => (some t112)))
set_option maxHeartbeats 8000000 in
set_option maxRecDepth 100000 in
theorem q_Add.calls (a0 : Int) (a1 : Int) (r : Int) (w : World) (h : q_Add.f a0 a1 = some r) :
  Calls Try.prog 46 #[.int .i64 a0, .int .i64 a1] w fun e w' => e = .returned (.int .i64 r) ∧ Drawn0 w w' := by
 have H : ((q_Hold.f a0).bind fun t110 => ((q_Hold.f a1).bind fun t111 => ((q_Hold.f (wrap64 (t110 + t111))).bind fun t112 => (some t112)))) = some r := h
 clear h
 replace H := Option.bind_eq_some_iff.mp H
 obtain ⟨t110, A30, H⟩ := H
 replace H : ((q_Hold.f a1).bind fun t111 => ((q_Hold.f (wrap64 (t110 + t111))).bind fun t112 => (some t112))) = some r := H
 have A3 := Aside0.mk A30
 clear A30
 replace H := Option.bind_eq_some_iff.mp H
 obtain ⟨t111, A40, H⟩ := H
 replace H : ((q_Hold.f (wrap64 (t110 + t111))).bind fun t112 => (some t112)) = some r := H
 have A4 := Aside0.mk A40
 clear A40
 replace H := Option.bind_eq_some_iff.mp H
 obtain ⟨t112, A50, H⟩ := H
 replace H : (some t112) = some r := H
 have A5 := Aside0.mk A50
 clear A50
 obtain rfl := Option.some.inj H
 go_enter Try.func46, Try.ntmps46
 go_wp2_with (first | ((with_reducible refine gate_callee (f := 30) rfl ?_); refine goesL_ (some 6) rfl rfl Try.func30 (by kernel_rfl) rfl #[.int .i64 a0] rfl (by (try simp only [List.map_toArray, List.map_cons, List.map_nil]); first | done | rfl | (simp only [List.length_drop, List.length_take]; rfl)) ?_; (with_reducible refine (q_Hold.calls a0 t110 _ A3.out).mono ?_); rintro e w' ⟨rfl, ⟨nd, rfl⟩⟩; refine ⟨_, rfl, ?_⟩) | ((with_reducible refine gate_callee (f := 30) rfl ?_); refine goesL_ (some 8) rfl rfl Try.func30 (by kernel_rfl) rfl #[.int .i64 a1] rfl (by (try simp only [List.map_toArray, List.map_cons, List.map_nil]); first | done | rfl | (simp only [List.length_drop, List.length_take]; rfl)) ?_; (with_reducible refine (q_Hold.calls a1 t111 _ A4.out).mono ?_); rintro e w' ⟨rfl, ⟨nd, rfl⟩⟩; refine ⟨_, rfl, ?_⟩) | ((with_reducible refine gate_callee (f := 30) rfl ?_); refine goesL_ (some 10) rfl rfl Try.func30 (by kernel_rfl) rfl #[.int .i64 (wrap64 (t110 + t111))] rfl (by (try simp only [List.map_toArray, List.map_cons, List.map_nil]); first | done | rfl | (simp only [List.length_drop, List.length_take]; rfl)) ?_; (with_reducible refine (q_Hold.calls (wrap64 (t110 + t111)) t112 _ A5.out).mono ?_); rintro e w' ⟨rfl, ⟨nd, rfl⟩⟩; refine ⟨_, rfl, ?_⟩))
 go_ret
 exact ⟨by first | rfl | (simp; done) | (simp [*]; done), by repeat (first | exact Drawn0.refl _ | apply Drawn0.step)⟩
def ease_Bend.f (k : Nat) (a0 : Int) (a1 : Int) (a2 : Int) : Option (Int) := (q_Clamp.f a2 0 65536).bind fun t113 => ((q_Mul.f k (wrap64 (65536 - t113)) (wrap64 (65536 - t113))).bind fun t114 => ((q_Mul.f k t114 t113).bind fun t115 => ((q_Mul.f k (wrap64 (3 * t115)) a0).bind fun t116 => ((q_Mul.f k (wrap64 (65536 - t113)) t113).bind fun t117 => ((q_Mul.f k t117 t113).bind fun t118 => ((q_Mul.f k (wrap64 (3 * t118)) a1).bind fun t119 => ((q_Add.f t116 t119).bind fun t120 => ((q_Mul.f k t113 t113).bind fun t121 => ((q_Mul.f k t121 t113).bind fun t122 => ((q_Add.f t120 t122).bind fun t123 => (some t123)))))))))))
set_option maxHeartbeats 8000000 in
set_option maxRecDepth 100000 in
theorem ease_Bend.calls (k : Nat) (a0 : Int) (a1 : Int) (a2 : Int) (r : Int) (w : World) (h : ease_Bend.f k a0 a1 a2 = some r) :
  Calls Try.prog 29 #[.int .i64 a0, .int .i64 a1, .int .i64 a2] w fun e w' => e = .returned (.int .i64 r) ∧ Drawn0 w w' := by
 have H : ((q_Clamp.f a2 0 65536).bind fun t113 => ((q_Mul.f k (wrap64 (65536 - t113)) (wrap64 (65536 - t113))).bind fun t114 => ((q_Mul.f k t114 t113).bind fun t115 => ((q_Mul.f k (wrap64 (3 * t115)) a0).bind fun t116 => ((q_Mul.f k (wrap64 (65536 - t113)) t113).bind fun t117 => ((q_Mul.f k t117 t113).bind fun t118 => ((q_Mul.f k (wrap64 (3 * t118)) a1).bind fun t119 => ((q_Add.f t116 t119).bind fun t120 => ((q_Mul.f k t113 t113).bind fun t121 => ((q_Mul.f k t121 t113).bind fun t122 => ((q_Add.f t120 t122).bind fun t123 => (some t123)))))))))))) = some r := h
 clear h
 replace H := Option.bind_eq_some_iff.mp H
 obtain ⟨t113, A40, H⟩ := H
 replace H : ((q_Mul.f k (wrap64 (65536 - t113)) (wrap64 (65536 - t113))).bind fun t114 => ((q_Mul.f k t114 t113).bind fun t115 => ((q_Mul.f k (wrap64 (3 * t115)) a0).bind fun t116 => ((q_Mul.f k (wrap64 (65536 - t113)) t113).bind fun t117 => ((q_Mul.f k t117 t113).bind fun t118 => ((q_Mul.f k (wrap64 (3 * t118)) a1).bind fun t119 => ((q_Add.f t116 t119).bind fun t120 => ((q_Mul.f k t113 t113).bind fun t121 => ((q_Mul.f k t121 t113).bind fun t122 => ((q_Add.f t120 t122).bind fun t123 => (some t123))))))))))) = some r := H
 have A4 := Aside0.mk A40
 clear A40
 replace H := Option.bind_eq_some_iff.mp H
 obtain ⟨t114, A50, H⟩ := H
 replace H : ((q_Mul.f k t114 t113).bind fun t115 => ((q_Mul.f k (wrap64 (3 * t115)) a0).bind fun t116 => ((q_Mul.f k (wrap64 (65536 - t113)) t113).bind fun t117 => ((q_Mul.f k t117 t113).bind fun t118 => ((q_Mul.f k (wrap64 (3 * t118)) a1).bind fun t119 => ((q_Add.f t116 t119).bind fun t120 => ((q_Mul.f k t113 t113).bind fun t121 => ((q_Mul.f k t121 t113).bind fun t122 => ((q_Add.f t120 t122).bind fun t123 => (some t123)))))))))) = some r := H
 have A5 := Aside0.mk A50
 clear A50
 replace H := Option.bind_eq_some_iff.mp H
 obtain ⟨t115, A60, H⟩ := H
 replace H : ((q_Mul.f k (wrap64 (3 * t115)) a0).bind fun t116 => ((q_Mul.f k (wrap64 (65536 - t113)) t113).bind fun t117 => ((q_Mul.f k t117 t113).bind fun t118 => ((q_Mul.f k (wrap64 (3 * t118)) a1).bind fun t119 => ((q_Add.f t116 t119).bind fun t120 => ((q_Mul.f k t113 t113).bind fun t121 => ((q_Mul.f k t121 t113).bind fun t122 => ((q_Add.f t120 t122).bind fun t123 => (some t123))))))))) = some r := H
 have A6 := Aside0.mk A60
 clear A60
 replace H := Option.bind_eq_some_iff.mp H
 obtain ⟨t116, A70, H⟩ := H
 replace H : ((q_Mul.f k (wrap64 (65536 - t113)) t113).bind fun t117 => ((q_Mul.f k t117 t113).bind fun t118 => ((q_Mul.f k (wrap64 (3 * t118)) a1).bind fun t119 => ((q_Add.f t116 t119).bind fun t120 => ((q_Mul.f k t113 t113).bind fun t121 => ((q_Mul.f k t121 t113).bind fun t122 => ((q_Add.f t120 t122).bind fun t123 => (some t123)))))))) = some r := H
 have A7 := Aside0.mk A70
 clear A70
 replace H := Option.bind_eq_some_iff.mp H
 obtain ⟨t117, A80, H⟩ := H
 replace H : ((q_Mul.f k t117 t113).bind fun t118 => ((q_Mul.f k (wrap64 (3 * t118)) a1).bind fun t119 => ((q_Add.f t116 t119).bind fun t120 => ((q_Mul.f k t113 t113).bind fun t121 => ((q_Mul.f k t121 t113).bind fun t122 => ((q_Add.f t120 t122).bind fun t123 => (some t123))))))) = some r := H
 have A8 := Aside0.mk A80
 clear A80
 replace H := Option.bind_eq_some_iff.mp H
 obtain ⟨t118, A90, H⟩ := H
 replace H : ((q_Mul.f k (wrap64 (3 * t118)) a1).bind fun t119 => ((q_Add.f t116 t119).bind fun t120 => ((q_Mul.f k t113 t113).bind fun t121 => ((q_Mul.f k t121 t113).bind fun t122 => ((q_Add.f t120 t122).bind fun t123 => (some t123)))))) = some r := H
 have A9 := Aside0.mk A90
 clear A90
 replace H := Option.bind_eq_some_iff.mp H
 obtain ⟨t119, A100, H⟩ := H
 replace H : ((q_Add.f t116 t119).bind fun t120 => ((q_Mul.f k t113 t113).bind fun t121 => ((q_Mul.f k t121 t113).bind fun t122 => ((q_Add.f t120 t122).bind fun t123 => (some t123))))) = some r := H
 have A10 := Aside0.mk A100
 clear A100
 replace H := Option.bind_eq_some_iff.mp H
 obtain ⟨t120, A110, H⟩ := H
 replace H : ((q_Mul.f k t113 t113).bind fun t121 => ((q_Mul.f k t121 t113).bind fun t122 => ((q_Add.f t120 t122).bind fun t123 => (some t123)))) = some r := H
 have A11 := Aside0.mk A110
 clear A110
 replace H := Option.bind_eq_some_iff.mp H
 obtain ⟨t121, A120, H⟩ := H
 replace H : ((q_Mul.f k t121 t113).bind fun t122 => ((q_Add.f t120 t122).bind fun t123 => (some t123))) = some r := H
 have A12 := Aside0.mk A120
 clear A120
 replace H := Option.bind_eq_some_iff.mp H
 obtain ⟨t122, A130, H⟩ := H
 replace H : ((q_Add.f t120 t122).bind fun t123 => (some t123)) = some r := H
 have A13 := Aside0.mk A130
 clear A130
 replace H := Option.bind_eq_some_iff.mp H
 obtain ⟨t123, A140, H⟩ := H
 replace H : (some t123) = some r := H
 have A14 := Aside0.mk A140
 clear A140
 obtain rfl := Option.some.inj H
 go_enter Try.func29, Try.ntmps29
 go_wp2_with (first | ((with_reducible refine gate_callee (f := 44) rfl ?_); refine goesL_ (some 11) rfl rfl Try.func44 (by kernel_rfl) rfl #[.int .i64 a2, .int .i64 0, .int .i64 65536] rfl (by (try simp only [List.map_toArray, List.map_cons, List.map_nil]); first | done | rfl | (simp only [List.length_drop, List.length_take]; rfl)) ?_; (with_reducible refine (q_Clamp.calls a2 0 65536 t113 _ A4.out).mono ?_); rintro e w' ⟨rfl, ⟨nd, rfl⟩⟩; refine ⟨_, rfl, ?_⟩) | ((with_reducible refine gate_callee (f := 45) rfl ?_); refine goesL_ (some 16) rfl rfl Try.func45 (by kernel_rfl) rfl #[.int .i64 (wrap64 (65536 - t113)), .int .i64 (wrap64 (65536 - t113))] rfl (by (try simp only [List.map_toArray, List.map_cons, List.map_nil]); first | done | rfl | (simp only [List.length_drop, List.length_take]; rfl)) ?_; (with_reducible refine (q_Mul.calls k (wrap64 (65536 - t113)) (wrap64 (65536 - t113)) t114 _ A5.out).mono ?_); rintro e w' ⟨rfl, ⟨nd, rfl⟩⟩; refine ⟨_, rfl, ?_⟩) | ((with_reducible refine gate_callee (f := 45) rfl ?_); refine goesL_ (some 18) rfl rfl Try.func45 (by kernel_rfl) rfl #[.int .i64 t114, .int .i64 t113] rfl (by (try simp only [List.map_toArray, List.map_cons, List.map_nil]); first | done | rfl | (simp only [List.length_drop, List.length_take]; rfl)) ?_; (with_reducible refine (q_Mul.calls k t114 t113 t115 _ A6.out).mono ?_); rintro e w' ⟨rfl, ⟨nd, rfl⟩⟩; refine ⟨_, rfl, ?_⟩) | ((with_reducible refine gate_callee (f := 45) rfl ?_); refine goesL_ (some 21) rfl rfl Try.func45 (by kernel_rfl) rfl #[.int .i64 (wrap64 (3 * t115)), .int .i64 a0] rfl (by (try simp only [List.map_toArray, List.map_cons, List.map_nil]); first | done | rfl | (simp only [List.length_drop, List.length_take]; rfl)) ?_; (with_reducible refine (q_Mul.calls k (wrap64 (3 * t115)) a0 t116 _ A7.out).mono ?_); rintro e w' ⟨rfl, ⟨nd, rfl⟩⟩; refine ⟨_, rfl, ?_⟩) | ((with_reducible refine gate_callee (f := 45) rfl ?_); refine goesL_ (some 24) rfl rfl Try.func45 (by kernel_rfl) rfl #[.int .i64 (wrap64 (65536 - t113)), .int .i64 t113] rfl (by (try simp only [List.map_toArray, List.map_cons, List.map_nil]); first | done | rfl | (simp only [List.length_drop, List.length_take]; rfl)) ?_; (with_reducible refine (q_Mul.calls k (wrap64 (65536 - t113)) t113 t117 _ A8.out).mono ?_); rintro e w' ⟨rfl, ⟨nd, rfl⟩⟩; refine ⟨_, rfl, ?_⟩) | ((with_reducible refine gate_callee (f := 45) rfl ?_); refine goesL_ (some 26) rfl rfl Try.func45 (by kernel_rfl) rfl #[.int .i64 t117, .int .i64 t113] rfl (by (try simp only [List.map_toArray, List.map_cons, List.map_nil]); first | done | rfl | (simp only [List.length_drop, List.length_take]; rfl)) ?_; (with_reducible refine (q_Mul.calls k t117 t113 t118 _ A9.out).mono ?_); rintro e w' ⟨rfl, ⟨nd, rfl⟩⟩; refine ⟨_, rfl, ?_⟩) | ((with_reducible refine gate_callee (f := 45) rfl ?_); refine goesL_ (some 29) rfl rfl Try.func45 (by kernel_rfl) rfl #[.int .i64 (wrap64 (3 * t118)), .int .i64 a1] rfl (by (try simp only [List.map_toArray, List.map_cons, List.map_nil]); first | done | rfl | (simp only [List.length_drop, List.length_take]; rfl)) ?_; (with_reducible refine (q_Mul.calls k (wrap64 (3 * t118)) a1 t119 _ A10.out).mono ?_); rintro e w' ⟨rfl, ⟨nd, rfl⟩⟩; refine ⟨_, rfl, ?_⟩) | ((with_reducible refine gate_callee (f := 46) rfl ?_); refine goesL_ (some 32) rfl rfl Try.func46 (by kernel_rfl) rfl #[.int .i64 t116, .int .i64 t119] rfl (by (try simp only [List.map_toArray, List.map_cons, List.map_nil]); first | done | rfl | (simp only [List.length_drop, List.length_take]; rfl)) ?_; (with_reducible refine (q_Add.calls t116 t119 t120 _ A11.out).mono ?_); rintro e w' ⟨rfl, ⟨nd, rfl⟩⟩; refine ⟨_, rfl, ?_⟩) | ((with_reducible refine gate_callee (f := 45) rfl ?_); refine goesL_ (some 35) rfl rfl Try.func45 (by kernel_rfl) rfl #[.int .i64 t113, .int .i64 t113] rfl (by (try simp only [List.map_toArray, List.map_cons, List.map_nil]); first | done | rfl | (simp only [List.length_drop, List.length_take]; rfl)) ?_; (with_reducible refine (q_Mul.calls k t113 t113 t121 _ A12.out).mono ?_); rintro e w' ⟨rfl, ⟨nd, rfl⟩⟩; refine ⟨_, rfl, ?_⟩) | ((with_reducible refine gate_callee (f := 45) rfl ?_); refine goesL_ (some 37) rfl rfl Try.func45 (by kernel_rfl) rfl #[.int .i64 t121, .int .i64 t113] rfl (by (try simp only [List.map_toArray, List.map_cons, List.map_nil]); first | done | rfl | (simp only [List.length_drop, List.length_take]; rfl)) ?_; (with_reducible refine (q_Mul.calls k t121 t113 t122 _ A13.out).mono ?_); rintro e w' ⟨rfl, ⟨nd, rfl⟩⟩; refine ⟨_, rfl, ?_⟩) | ((with_reducible refine gate_callee (f := 46) rfl ?_); refine goesL_ (some 38) rfl rfl Try.func46 (by kernel_rfl) rfl #[.int .i64 t120, .int .i64 t122] rfl (by (try simp only [List.map_toArray, List.map_cons, List.map_nil]); first | done | rfl | (simp only [List.length_drop, List.length_take]; rfl)) ?_; (with_reducible refine (q_Add.calls t120 t122 t123 _ A14.out).mono ?_); rintro e w' ⟨rfl, ⟨nd, rfl⟩⟩; refine ⟨_, rfl, ?_⟩))
 go_ret
 exact ⟨by first | rfl | (simp; done) | (simp [*]; done), by repeat (first | exact Drawn0.refl _ | apply Drawn0.step)⟩
end Go.Proofs.Ytejnbjclcdmopaa.PA
end

section
namespace Go.Proofs.Ytejnbjclcdmopaa.PA
open Go.RowKit Go.Proofs.YtejnbjclcdmopaaW.PrintWords Go.Proofs.YtejnbjclcdmopaaW.PrintLast Go.Proofs.YtejnbjclcdmopaaW.PrintMore
attribute [local go_sem] max2_int min2_int max_two min_two max_three min_three max_four min_four
attribute [local go_sem] Go.Proofs.Ytejnbjclcdmopaa.MS.isSome_setCell
set_option linter.unusedVariables false
set_option linter.unusedSimpArgs false
def ease_At.l0 : Nat → Int → Int → Int → Int → Int → Int → Int → Int → Option (Int)
 | 0, _, _, _, _, _, _, _, _ => none
 | k + 1, x1, x5, x6, x14, x125000, x125001, x125002, x125003 => if x14 < 16 then ((ease_Bend.f k x125000 x125002 ((wrap64 (x5 + x6)) / 2)).bind fun t125 => (if t125 ≤ x1 then (ease_At.l0 k x1 ((wrap64 (x5 + x6)) / 2) x6 (wrap64 (x14 + 1)) x125000 x125001 x125002 x125003) else (ease_At.l0 k x1 x5 ((wrap64 (x5 + x6)) / 2) (wrap64 (x14 + 1)) x125000 x125001 x125002 x125003))) else ((ease_Bend.f k x125001 x125003 x5).bind fun t126 => (some t126))
def ease_At.f (k : Nat) (a0_0 : Int) (a0_1 : Int) (a0_2 : Int) (a0_3 : Int) (a1 : Int) : Option (Int) := if a1 ≤ 0 then (some 0) else (if a1 ≥ 65536 then (some 65536) else (ease_At.l0 k a1 0 65536 0 a0_0 a0_1 a0_2 a0_3))
set_option maxHeartbeats 8000000 in
set_option maxRecDepth 100000 in
theorem ease_At.calls (k : Nat) (a0_0 : Int) (a0_1 : Int) (a0_2 : Int) (a0_3 : Int) (a1 : Int) (r : Int) (w : World) (h : ease_At.f k a0_0 a0_1 a0_2 a0_3 a1 = some r) :
  Calls Try.prog 13 #[.agg #[.int .i64 a0_0, .int .i64 a0_1, .int .i64 a0_2, .int .i64 a0_3], .int .i64 a1] w fun e w' => e = .returned (.int .i64 r) ∧ Below w.heap.size w w' := by
 have hu23 := Try.underlying23
 have HB := Aside0.mk (Below.refl w.heap.size w)
 have H : (if a1 ≤ 0 then (some 0) else (if a1 ≥ 65536 then (some 65536) else (ease_At.l0 k a1 0 65536 0 a0_0 a0_1 a0_2 a0_3))) = some r := h
 clear h
 by_cases c3 : a1 ≤ 0
 ·rw [if_pos c3] at H
  have c3b0 : decide (a1 ≤ 0) = true := decide_eq_true c3
  clear c3
  obtain rfl := Option.some.inj H
  go_enter Try.func13, Try.ntmps13
  go_wp2_with (first | ((with_reducible refine gate_dst (N := 2) rfl ?_); refine box_event ?hg (N := 2) ?hd (cs := #[.int .i64 a0_0, .int .i64 a0_1, .int .i64 a0_2, .int .i64 a0_3]) (t := 23) ?hr ?_; (case hd => rfl); (case hg => rfl); (case hr => first | (go_simp; done) | (go_simp; rfl)); intro gb124 hg w4 hbox hb; have n0_ := Aside0.mk (below_step (by repeat (first | (with_reducible first | exact HB.out | apply below_alloc | apply pw_below_drewN | apply below_drew1) | exact HB.out)) hb); have n1_ := Aside0.mk (hbox); have n2_ := Aside0.mk ((by rw [hg]; exact (below_size (by repeat (first | (with_reducible first | exact HB.out | apply below_alloc | apply pw_below_drewN | apply below_drew1) | exact HB.out))) : w.heap.size ≤ gb124)); have n3_ := Aside0.mk ((by rw [hg]; exact (below_size (by repeat (first | (with_reducible first | exact HB.out | apply below_alloc | apply pw_below_drewN | apply below_drew1) | exact HB.out))) : w.heap.size ≤ gb124)); clear HB; have HB := n0_; have BK124 := n1_; have GW124 := n2_; have GE124 := n3_; clear n0_ n1_ n2_ n3_; clear hb hbox hg))
  go_ret
  exact ⟨by first | rfl | (simp [errW_none, errW_some] <;> rfl) | (simp [*, errW_none, errW_some] <;> rfl), by repeat (first | (with_reducible first | exact HB.out | apply below_alloc | apply pw_below_drewN | apply below_drew1 | refine below_set ?_ GE124.out) | exact HB.out)⟩
 ·rw [if_neg c3] at H
  have c3b0 : decide (a1 ≤ 0) = false := decide_eq_false c3
  clear c3
  by_cases c5 : a1 ≥ 65536
  ·rw [if_pos c5] at H
   have c5b0 : decide (65536 ≤ a1) = true := decide_eq_true c5
   clear c5
   obtain rfl := Option.some.inj H
   go_enter Try.func13, Try.ntmps13
   go_wp2_with (first | ((with_reducible refine gate_dst (N := 2) rfl ?_); refine box_event ?hg (N := 2) ?hd (cs := #[.int .i64 a0_0, .int .i64 a0_1, .int .i64 a0_2, .int .i64 a0_3]) (t := 23) ?hr ?_; (case hd => rfl); (case hg => rfl); (case hr => first | (go_simp; done) | (go_simp; rfl)); intro gb124 hg w6 hbox hb; have n0_ := Aside0.mk (below_step (by repeat (first | (with_reducible first | exact HB.out | apply below_alloc | apply pw_below_drewN | apply below_drew1) | exact HB.out)) hb); have n1_ := Aside0.mk (hbox); have n2_ := Aside0.mk ((by rw [hg]; exact (below_size (by repeat (first | (with_reducible first | exact HB.out | apply below_alloc | apply pw_below_drewN | apply below_drew1) | exact HB.out))) : w.heap.size ≤ gb124)); have n3_ := Aside0.mk ((by rw [hg]; exact (below_size (by repeat (first | (with_reducible first | exact HB.out | apply below_alloc | apply pw_below_drewN | apply below_drew1) | exact HB.out))) : w.heap.size ≤ gb124)); clear HB; have HB := n0_; have BK124 := n1_; have GW124 := n2_; have GE124 := n3_; clear n0_ n1_ n2_ n3_; clear hb hbox hg))
   go_ret
   exact ⟨by first | rfl | (simp [errW_none, errW_some] <;> rfl) | (simp [*, errW_none, errW_some] <;> rfl), by repeat (first | (with_reducible first | exact HB.out | apply below_alloc | apply pw_below_drewN | apply below_drew1 | refine below_set ?_ GE124.out) | exact HB.out)⟩
  ·rw [if_neg c5] at H
   have c5b0 : decide (65536 ≤ a1) = false := decide_eq_false c5
   clear c5
   have H' := Aside0.mk H
   clear H
   go_enter Try.func13, Try.ntmps13
   go_wp2_with (first | ((with_reducible refine gate_dst (N := 2) rfl ?_); refine box_event ?hg (N := 2) ?hd (cs := #[.int .i64 a0_0, .int .i64 a0_1, .int .i64 a0_2, .int .i64 a0_3]) (t := 23) ?hr ?_; (case hd => rfl); (case hg => rfl); (case hr => first | (go_simp; done) | (go_simp; rfl)); intro gb124 hg w7 hbox hb; have n0_ := Aside0.mk (below_step (by repeat (first | (with_reducible first | exact HB.out | apply below_alloc | apply pw_below_drewN | apply below_drew1) | exact HB.out)) hb); have n1_ := Aside0.mk (hbox); have n2_ := Aside0.mk ((by rw [hg]; exact (below_size (by repeat (first | (with_reducible first | exact HB.out | apply below_alloc | apply pw_below_drewN | apply below_drew1) | exact HB.out))) : w.heap.size ≤ gb124)); have n3_ := Aside0.mk ((by rw [hg]; exact (below_size (by repeat (first | (with_reducible first | exact HB.out | apply below_alloc | apply pw_below_drewN | apply below_drew1) | exact HB.out))) : w.heap.size ≤ gb124)); clear HB; have HB := n0_; have BK124 := n1_; have GW124 := n2_; have GE124 := n3_; clear n0_ n1_ n2_ n3_; clear hb hbox hg))
   go_loopg [5, 6, 14] k (fun kq v5 v6 v14 w' => ∃ (x5_1 : Int) (x6_1 : Int) (x14_1 : Int), v5 = .int .i64 x5_1 ∧ v6 = .int .i64 x6_1 ∧ v14 = .int .i64 x14_1 ∧ Aside0 (ease_At.l0 kq a1 x5_1 x6_1 x14_1 a0_0 a0_1 a0_2 a0_3 = some r) ∧ Aside0 (kq ≤ k) ∧ Aside0 (w'.heap[gb124]? = some (.cells #[.int .i64 a0_0, .int .i64 a0_1, .int .i64 a0_2, .int .i64 a0_3] 23 (0, 0))) ∧ Aside0 (Below w.heap.size w w'))
   case atStart => exact ⟨(0), (65536), (0), (by first | rfl | (simp; done) | (simp [*]; done)), (by first | rfl | (simp; done) | (simp [*]; done)), (by first | rfl | (simp; done) | (simp [*]; done)), H', ⟨Nat.le_refl _⟩, ⟨by (with_reducible repeat (first | refine blk_drewN ?_ _ | refine blk_drew ?_ | refine blk_alloc ?_ _)); exact BK124.out⟩, ⟨by repeat (first | (with_reducible first | exact HB.out | apply below_alloc | apply pw_below_drewN | apply below_drew1 | refine below_set ?_ GE124.out) | exact HB.out)⟩⟩
   case round =>
    clear H'
    try clear c1
    try clear p2
    try clear c3
    try clear c3b0
    try clear c5
    try clear c5b0
    obtain ⟨x5_1, x6_1, x14_1, rfl, rfl, rfl, HA, HK1, BK124, HB⟩ := hrel
    cases gk with
    | zero => exact absurd HA.out (by simp [ease_At.l0])
    | succ k1 =>
     have H := HA.out
     clear HA
     simp only [ease_At.l0] at H
     by_cases c8 : x14_1 < 16
     ·rw [if_pos c8] at H
      have c8b0 : decide (x14_1 < 16) = true := decide_eq_true c8
      clear c8
      replace H := Option.bind_eq_some_iff.mp H
      obtain ⟨t125, A90, H⟩ := H
      replace H : (if t125 ≤ a1 then (ease_At.l0 k1 a1 ((wrap64 (x5_1 + x6_1)) / 2) x6_1 (wrap64 (x14_1 + 1)) a0_0 a0_1 a0_2 a0_3) else (ease_At.l0 k1 a1 x5_1 ((wrap64 (x5_1 + x6_1)) / 2) (wrap64 (x14_1 + 1)) a0_0 a0_1 a0_2 a0_3)) = some r := H
      have A9 := Aside0.mk A90
      clear A90
      by_cases c10 : t125 ≤ a1
      ·rw [if_pos c10] at H
       have c10b0 : decide (t125 ≤ a1) = true := decide_eq_true c10
       clear c10
       have H' := Aside0.mk H
       clear H
       have hcz11_0 : wr.cell? ⟨gb124, 0, none⟩ = some (.int .i64 a0_0) := (blk_cell BK124.out 0).trans rfl
       have hcz11_1 : wr.cell? ⟨gb124, 1, none⟩ = some (.int .i64 a0_1) := (blk_cell BK124.out 1).trans rfl
       have hcz11_2 : wr.cell? ⟨gb124, 2, none⟩ = some (.int .i64 a0_2) := (blk_cell BK124.out 2).trans rfl
       have hcz11_3 : wr.cell? ⟨gb124, 3, none⟩ = some (.int .i64 a0_3) := (blk_cell BK124.out 3).trans rfl
       have hfz11_0 := blk_frozen BK124.out 0
       have hfz11_1 := blk_frozen BK124.out 1
       have hfz11_2 := blk_frozen BK124.out 2
       have hfz11_3 := blk_frozen BK124.out 3
       go_wp2_with (first | ((with_reducible refine gate_callee (f := 29) rfl ?_); refine goesL_ (some 25) rfl rfl Try.func29 (by kernel_rfl) rfl #[.int .i64 a0_0, .int .i64 a0_2, .int .i64 ((wrap64 (x5_1 + x6_1)) / 2)] rfl (by (try simp only [List.map_toArray, List.map_cons, List.map_nil]); first | done | rfl | (simp only [List.length_drop, List.length_take]; rfl)) ?_; (with_reducible refine (ease_Bend.calls k1 a0_0 a0_2 ((wrap64 (x5_1 + x6_1)) / 2) t125 _ A9.out).mono ?_); rintro e w' ⟨rfl, ⟨nd, rfl⟩⟩; refine ⟨_, rfl, ?_⟩))
       go_roundg k1
       case measure => have := HK1.out; omega
       case rel => exact ⟨((wrap64 (x5_1 + x6_1)) / 2), (x6_1), (wrap64 (x14_1 + 1)), (by first | rfl | (simp; done) | (simp [*]; done)), (by first | rfl | (simp; done) | (simp [*]; done)), (by first | rfl | (simp; done) | (simp [*]; done)), H', ⟨by have := HK1.out; omega⟩, ⟨by (with_reducible repeat (first | refine blk_drewN ?_ _ | refine blk_drew ?_ | refine blk_alloc ?_ _)); exact BK124.out⟩, ⟨by repeat (first | (with_reducible first | exact HB.out | apply below_alloc | apply pw_below_drewN | apply below_drew1 | refine below_set ?_ GE124.out) | exact HB.out)⟩⟩
      ·rw [if_neg c10] at H
       have c10b0 : decide (t125 ≤ a1) = false := decide_eq_false c10
       clear c10
       have H' := Aside0.mk H
       clear H
       have hcz12_0 : wr.cell? ⟨gb124, 0, none⟩ = some (.int .i64 a0_0) := (blk_cell BK124.out 0).trans rfl
       have hcz12_1 : wr.cell? ⟨gb124, 1, none⟩ = some (.int .i64 a0_1) := (blk_cell BK124.out 1).trans rfl
       have hcz12_2 : wr.cell? ⟨gb124, 2, none⟩ = some (.int .i64 a0_2) := (blk_cell BK124.out 2).trans rfl
       have hcz12_3 : wr.cell? ⟨gb124, 3, none⟩ = some (.int .i64 a0_3) := (blk_cell BK124.out 3).trans rfl
       have hfz12_0 := blk_frozen BK124.out 0
       have hfz12_1 := blk_frozen BK124.out 1
       have hfz12_2 := blk_frozen BK124.out 2
       have hfz12_3 := blk_frozen BK124.out 3
       go_wp2_with (first | ((with_reducible refine gate_callee (f := 29) rfl ?_); refine goesL_ (some 25) rfl rfl Try.func29 (by kernel_rfl) rfl #[.int .i64 a0_0, .int .i64 a0_2, .int .i64 ((wrap64 (x5_1 + x6_1)) / 2)] rfl (by (try simp only [List.map_toArray, List.map_cons, List.map_nil]); first | done | rfl | (simp only [List.length_drop, List.length_take]; rfl)) ?_; (with_reducible refine (ease_Bend.calls k1 a0_0 a0_2 ((wrap64 (x5_1 + x6_1)) / 2) t125 _ A9.out).mono ?_); rintro e w' ⟨rfl, ⟨nd, rfl⟩⟩; refine ⟨_, rfl, ?_⟩))
       go_roundg k1
       case measure => have := HK1.out; omega
       case rel => exact ⟨(x5_1), ((wrap64 (x5_1 + x6_1)) / 2), (wrap64 (x14_1 + 1)), (by first | rfl | (simp; done) | (simp [*]; done)), (by first | rfl | (simp; done) | (simp [*]; done)), (by first | rfl | (simp; done) | (simp [*]; done)), H', ⟨by have := HK1.out; omega⟩, ⟨by (with_reducible repeat (first | refine blk_drewN ?_ _ | refine blk_drew ?_ | refine blk_alloc ?_ _)); exact BK124.out⟩, ⟨by repeat (first | (with_reducible first | exact HB.out | apply below_alloc | apply pw_below_drewN | apply below_drew1 | refine below_set ?_ GE124.out) | exact HB.out)⟩⟩
     ·rw [if_neg c8] at H
      have c8b0 : decide (x14_1 < 16) = false := decide_eq_false c8
      clear c8
      replace H := Option.bind_eq_some_iff.mp H
      obtain ⟨t126, A130, H⟩ := H
      replace H : (some t126) = some r := H
      have A13 := Aside0.mk A130
      clear A130
      obtain rfl := Option.some.inj H
      have hcz14_0 : wr.cell? ⟨gb124, 0, none⟩ = some (.int .i64 a0_0) := (blk_cell BK124.out 0).trans rfl
      have hcz14_1 : wr.cell? ⟨gb124, 1, none⟩ = some (.int .i64 a0_1) := (blk_cell BK124.out 1).trans rfl
      have hcz14_2 : wr.cell? ⟨gb124, 2, none⟩ = some (.int .i64 a0_2) := (blk_cell BK124.out 2).trans rfl
      have hcz14_3 : wr.cell? ⟨gb124, 3, none⟩ = some (.int .i64 a0_3) := (blk_cell BK124.out 3).trans rfl
      have hfz14_0 := blk_frozen BK124.out 0
      have hfz14_1 := blk_frozen BK124.out 1
      have hfz14_2 := blk_frozen BK124.out 2
      have hfz14_3 := blk_frozen BK124.out 3
      go_wp2_with (first | ((with_reducible refine gate_callee (f := 29) rfl ?_); refine goesL_ (some 36) rfl rfl Try.func29 (by kernel_rfl) rfl #[.int .i64 a0_1, .int .i64 a0_3, .int .i64 x5_1] rfl (by (try simp only [List.map_toArray, List.map_cons, List.map_nil]); first | done | rfl | (simp only [List.length_drop, List.length_take]; rfl)) ?_; (with_reducible refine (ease_Bend.calls k1 a0_1 a0_3 x5_1 t126 _ A13.out).mono ?_); rintro e w' ⟨rfl, ⟨nd, rfl⟩⟩; refine ⟨_, rfl, ?_⟩))
      go_ret
      exact ⟨by first | rfl | (simp [errW_none, errW_some] <;> rfl) | (simp [*, errW_none, errW_some] <;> rfl), by repeat (first | (with_reducible first | exact HB.out | apply below_alloc | apply pw_below_drewN | apply below_drew1 | refine below_set ?_ GE124.out) | exact HB.out)⟩
def ease_Part.f (a0 : Int) (a1 : Int) (a2 : Int) : Option (Int) := (q_Hold.f a0).bind fun t127 => ((q_Hold.f a1).bind fun t128 => ((q_Hold.f a2).bind fun t129 => (if t129 ≤ t127 then (some 0) else (if t129 ≥ t128 then (some 65536) else (if (wrap64 (t128 - t127)) = 0 then (none) else (some (wrap64 (Int.tdiv (wrap64 ((wrap64 (t129 - t127)) * 65536)) (wrap64 (t128 - t127))))))))))
set_option maxHeartbeats 8000000 in
set_option maxRecDepth 100000 in
theorem ease_Part.calls (a0 : Int) (a1 : Int) (a2 : Int) (r : Int) (w : World) (h : ease_Part.f a0 a1 a2 = some r) :
  Calls Try.prog 15 #[.int .i64 a0, .int .i64 a1, .int .i64 a2] w fun e w' => e = .returned (.int .i64 r) ∧ Drawn0 w w' := by
 have H : ((q_Hold.f a0).bind fun t127 => ((q_Hold.f a1).bind fun t128 => ((q_Hold.f a2).bind fun t129 => (if t129 ≤ t127 then (some 0) else (if t129 ≥ t128 then (some 65536) else (if (wrap64 (t128 - t127)) = 0 then (none) else (some (wrap64 (Int.tdiv (wrap64 ((wrap64 (t129 - t127)) * 65536)) (wrap64 (t128 - t127))))))))))) = some r := h
 clear h
 replace H := Option.bind_eq_some_iff.mp H
 obtain ⟨t127, A40, H⟩ := H
 replace H : ((q_Hold.f a1).bind fun t128 => ((q_Hold.f a2).bind fun t129 => (if t129 ≤ t127 then (some 0) else (if t129 ≥ t128 then (some 65536) else (if (wrap64 (t128 - t127)) = 0 then (none) else (some (wrap64 (Int.tdiv (wrap64 ((wrap64 (t129 - t127)) * 65536)) (wrap64 (t128 - t127)))))))))) = some r := H
 have A4 := Aside0.mk A40
 clear A40
 replace H := Option.bind_eq_some_iff.mp H
 obtain ⟨t128, A50, H⟩ := H
 replace H : ((q_Hold.f a2).bind fun t129 => (if t129 ≤ t127 then (some 0) else (if t129 ≥ t128 then (some 65536) else (if (wrap64 (t128 - t127)) = 0 then (none) else (some (wrap64 (Int.tdiv (wrap64 ((wrap64 (t129 - t127)) * 65536)) (wrap64 (t128 - t127))))))))) = some r := H
 have A5 := Aside0.mk A50
 clear A50
 replace H := Option.bind_eq_some_iff.mp H
 obtain ⟨t129, A60, H⟩ := H
 replace H : (if t129 ≤ t127 then (some 0) else (if t129 ≥ t128 then (some 65536) else (if (wrap64 (t128 - t127)) = 0 then (none) else (some (wrap64 (Int.tdiv (wrap64 ((wrap64 (t129 - t127)) * 65536)) (wrap64 (t128 - t127)))))))) = some r := H
 have A6 := Aside0.mk A60
 clear A60
 by_cases c7 : t129 ≤ t127
 ·rw [if_pos c7] at H
  have c7b0 : decide (t129 ≤ t127) = true := decide_eq_true c7
  clear c7
  obtain rfl := Option.some.inj H
  go_enter Try.func15, Try.ntmps15
  go_wp2_with (first | ((with_reducible refine gate_callee (f := 30) rfl ?_); refine goesL_ (some 8) rfl rfl Try.func30 (by kernel_rfl) rfl #[.int .i64 a0] rfl (by (try simp only [List.map_toArray, List.map_cons, List.map_nil]); first | done | rfl | (simp only [List.length_drop, List.length_take]; rfl)) ?_; (with_reducible refine (q_Hold.calls a0 t127 _ A4.out).mono ?_); rintro e w' ⟨rfl, ⟨nd, rfl⟩⟩; refine ⟨_, rfl, ?_⟩) | ((with_reducible refine gate_callee (f := 30) rfl ?_); refine goesL_ (some 10) rfl rfl Try.func30 (by kernel_rfl) rfl #[.int .i64 a1] rfl (by (try simp only [List.map_toArray, List.map_cons, List.map_nil]); first | done | rfl | (simp only [List.length_drop, List.length_take]; rfl)) ?_; (with_reducible refine (q_Hold.calls a1 t128 _ A5.out).mono ?_); rintro e w' ⟨rfl, ⟨nd, rfl⟩⟩; refine ⟨_, rfl, ?_⟩) | ((with_reducible refine gate_callee (f := 30) rfl ?_); refine goesL_ (some 12) rfl rfl Try.func30 (by kernel_rfl) rfl #[.int .i64 a2] rfl (by (try simp only [List.map_toArray, List.map_cons, List.map_nil]); first | done | rfl | (simp only [List.length_drop, List.length_take]; rfl)) ?_; (with_reducible refine (q_Hold.calls a2 t129 _ A6.out).mono ?_); rintro e w' ⟨rfl, ⟨nd, rfl⟩⟩; refine ⟨_, rfl, ?_⟩))
  go_ret
  exact ⟨by first | rfl | (simp; done) | (simp [*]; done), by repeat (first | exact Drawn0.refl _ | apply Drawn0.step)⟩
 ·rw [if_neg c7] at H
  have c7b0 : decide (t129 ≤ t127) = false := decide_eq_false c7
  clear c7
  by_cases c8 : t129 ≥ t128
  ·rw [if_pos c8] at H
   have c8b0 : decide (t128 ≤ t129) = true := decide_eq_true c8
   clear c8
   obtain rfl := Option.some.inj H
   go_enter Try.func15, Try.ntmps15
   go_wp2_with (first | ((with_reducible refine gate_callee (f := 30) rfl ?_); refine goesL_ (some 8) rfl rfl Try.func30 (by kernel_rfl) rfl #[.int .i64 a0] rfl (by (try simp only [List.map_toArray, List.map_cons, List.map_nil]); first | done | rfl | (simp only [List.length_drop, List.length_take]; rfl)) ?_; (with_reducible refine (q_Hold.calls a0 t127 _ A4.out).mono ?_); rintro e w' ⟨rfl, ⟨nd, rfl⟩⟩; refine ⟨_, rfl, ?_⟩) | ((with_reducible refine gate_callee (f := 30) rfl ?_); refine goesL_ (some 10) rfl rfl Try.func30 (by kernel_rfl) rfl #[.int .i64 a1] rfl (by (try simp only [List.map_toArray, List.map_cons, List.map_nil]); first | done | rfl | (simp only [List.length_drop, List.length_take]; rfl)) ?_; (with_reducible refine (q_Hold.calls a1 t128 _ A5.out).mono ?_); rintro e w' ⟨rfl, ⟨nd, rfl⟩⟩; refine ⟨_, rfl, ?_⟩) | ((with_reducible refine gate_callee (f := 30) rfl ?_); refine goesL_ (some 12) rfl rfl Try.func30 (by kernel_rfl) rfl #[.int .i64 a2] rfl (by (try simp only [List.map_toArray, List.map_cons, List.map_nil]); first | done | rfl | (simp only [List.length_drop, List.length_take]; rfl)) ?_; (with_reducible refine (q_Hold.calls a2 t129 _ A6.out).mono ?_); rintro e w' ⟨rfl, ⟨nd, rfl⟩⟩; refine ⟨_, rfl, ?_⟩))
   go_ret
   exact ⟨by first | rfl | (simp; done) | (simp [*]; done), by repeat (first | exact Drawn0.refl _ | apply Drawn0.step)⟩
  ·rw [if_neg c8] at H
   have c8b0 : decide (t128 ≤ t129) = false := decide_eq_false c8
   clear c8
   by_cases c9 : (wrap64 (t128 - t127)) = 0
   ·rw [if_pos c9] at H
    exact absurd H (by simp)
   ·rw [if_neg c9] at H
    have c9b0 : ((wrap64 (t128 - t127)) == 0) = false := beq_eq_false_iff_ne.mpr c9
    have c9b1 : ((wrap64 (t128 - t127)) != 0) = true := bne_iff_ne.mpr c9
    obtain rfl := Option.some.inj H
    go_enter Try.func15, Try.ntmps15
    go_wp2_with (first | ((with_reducible refine gate_callee (f := 30) rfl ?_); refine goesL_ (some 8) rfl rfl Try.func30 (by kernel_rfl) rfl #[.int .i64 a0] rfl (by (try simp only [List.map_toArray, List.map_cons, List.map_nil]); first | done | rfl | (simp only [List.length_drop, List.length_take]; rfl)) ?_; (with_reducible refine (q_Hold.calls a0 t127 _ A4.out).mono ?_); rintro e w' ⟨rfl, ⟨nd, rfl⟩⟩; refine ⟨_, rfl, ?_⟩) | ((with_reducible refine gate_callee (f := 30) rfl ?_); refine goesL_ (some 10) rfl rfl Try.func30 (by kernel_rfl) rfl #[.int .i64 a1] rfl (by (try simp only [List.map_toArray, List.map_cons, List.map_nil]); first | done | rfl | (simp only [List.length_drop, List.length_take]; rfl)) ?_; (with_reducible refine (q_Hold.calls a1 t128 _ A5.out).mono ?_); rintro e w' ⟨rfl, ⟨nd, rfl⟩⟩; refine ⟨_, rfl, ?_⟩) | ((with_reducible refine gate_callee (f := 30) rfl ?_); refine goesL_ (some 12) rfl rfl Try.func30 (by kernel_rfl) rfl #[.int .i64 a2] rfl (by (try simp only [List.map_toArray, List.map_cons, List.map_nil]); first | done | rfl | (simp only [List.length_drop, List.length_take]; rfl)) ?_; (with_reducible refine (q_Hold.calls a2 t129 _ A6.out).mono ?_); rintro e w' ⟨rfl, ⟨nd, rfl⟩⟩; refine ⟨_, rfl, ?_⟩))
    go_ret
    exact ⟨by first | rfl | (simp; done) | (simp [*]; done), by repeat (first | exact Drawn0.refl _ | apply Drawn0.step)⟩
def ease_Right_1.f (a0 : Int) (a1 : Int) (a2 : Int) : Option (Bool) := if a0 ≥ a1 then (some (decide (a0 ≤ a2))) else (some false)
set_option maxHeartbeats 8000000 in
set_option maxRecDepth 100000 in
theorem ease_Right_1.calls (a0 : Int) (a1 : Int) (a2 : Int) (r : Bool) (w : World) (h : ease_Right_1.f a0 a1 a2 = some r) :
  Calls Try.prog 31 #[.int .i64 a0, .int .i64 a1, .int .i64 a2] w fun e w' => e = .returned (.bool r) ∧ Drawn0 w w' := by
 have H : (if a0 ≥ a1 then (some (decide (a0 ≤ a2))) else (some false)) = some r := h
 clear h
 by_cases c4 : a0 ≥ a1
 ·rw [if_pos c4] at H
  have c4b0 : decide (a1 ≤ a0) = true := decide_eq_true c4
  clear c4
  obtain rfl := Option.some.inj H
  go_enter Try.func31, Try.ntmps31
  go_wp2
  go_ret
  exact ⟨by first | rfl | (simp; done) | (simp [*]; done), by repeat (first | exact Drawn0.refl _ | apply Drawn0.step)⟩
 ·rw [if_neg c4] at H
  have c4b0 : decide (a1 ≤ a0) = false := decide_eq_false c4
  clear c4
  obtain rfl := Option.some.inj H
  go_enter Try.func31, Try.ntmps31
  go_wp2
  go_ret
  exact ⟨by first | rfl | (simp; done) | (simp [*]; done), by repeat (first | exact Drawn0.refl _ | apply Drawn0.step)⟩
end Go.Proofs.Ytejnbjclcdmopaa.PA
end

section
namespace Go.Proofs.Ytejnbjclcdmopaa.PA
open Go.RowKit Go.Proofs.YtejnbjclcdmopaaW.PrintWords Go.Proofs.YtejnbjclcdmopaaW.PrintLast Go.Proofs.YtejnbjclcdmopaaW.PrintMore
attribute [local go_sem] max2_int min2_int max_two min_two max_three min_three max_four min_four
attribute [local go_sem] Go.Proofs.Ytejnbjclcdmopaa.MS.isSome_setCell
set_option linter.unusedVariables false
set_option linter.unusedSimpArgs false
def key_Find.l0 : Nat → List (S34) → Int → Int → Option (Int)
 | 0, _, _, _ => none
 | k + 1, x0, x1, x5 => if x5 ≥ 0 then (if 0 ≤ x5 then (if x5 < (x0.length : Int) then (if ((rd_T34 x0 x5).f0) ≤ x1 then (some x5) else (key_Find.l0 k x0 x1 (wrap64 (x5 - 1)))) else (none)) else (none)) else (some (-1))
def key_Find.f (k : Nat) (l0 : List (S34)) (a1 : Int) : Option (Int) := key_Find.l0 k l0 a1 (wrap64 ((l0.length : Int) - 1))
set_option maxHeartbeats 8000000 in
set_option maxRecDepth 100000 in
theorem key_Find.calls (k : Nat) (A0 : Option Addr) (c0 : Nat) (l0 : List (S34)) (a1 : Int) (r : Int) (w : World) (hr0 : Kd.C k34 w A0 l0.length l0) (hc0 : l0.length ≤ c0) (h : key_Find.f k l0 a1 = some r) :
  Calls Try.prog 19 #[.slice A0 l0.length c0, .int .i64 a1] w fun e w' => e = .returned (.int .i64 r) ∧ Drawn0 w w' := by
 have HR0 := Aside0.mk hr0
 have HC0 := Aside0.mk hc0
 clear hr0 hc0
 have H : (key_Find.l0 k l0 a1 (wrap64 ((l0.length : Int) - 1))) = some r := h
 clear h
 have H' := Aside0.mk H
 clear H
 go_enter Try.func19, Try.ntmps19
 go_wp2
 go_loopg [5] k (fun kq v5 w' => ∃ (x5_1 : Int), v5 = .int .i64 x5_1 ∧ Aside0 (key_Find.l0 kq l0 a1 x5_1 = some r) ∧ Aside0 (kq ≤ k) ∧ Drawn0 w w')
 case atStart => exact ⟨(wrap64 ((l0.length : Int) - 1)), (by first | rfl | (simp; done) | (simp [*]; done)), H', ⟨Nat.le_refl _⟩, by repeat (first | exact Drawn0.refl _ | apply Drawn0.step)⟩
 case round =>
  clear H'
  try clear c1
  try clear p2
  obtain ⟨x5_1, rfl, HA, HK1, ⟨m1, rfl⟩⟩ := hrel
  cases gk with
  | zero => exact absurd HA.out (by simp [key_Find.l0])
  | succ k1 =>
   have H := HA.out
   clear HA
   simp only [key_Find.l0] at H
   by_cases c3 : x5_1 ≥ 0
   ·rw [if_pos c3] at H
    have c3b0 : decide (0 ≤ x5_1) = true := decide_eq_true c3
    clear c3
    by_cases c4 : 0 ≤ x5_1
    ·rw [if_pos c4] at H
     have c4b0 : decide (0 ≤ x5_1) = true := decide_eq_true c4
     clear c4
     by_cases c5 : x5_1 < (l0.length : Int)
     ·rw [if_pos c5] at H
      have c5b0 : decide (x5_1 < (l0.length : Int)) = true := decide_eq_true c5
      clear c5
      by_cases c6 : ((rd_T34 l0 x5_1).f0) ≤ a1
      ·rw [if_pos c6] at H
       have c6b0 : decide (((rd_T34 l0 x5_1).f0) ≤ a1) = true := decide_eq_true c6
       clear c6
       obtain rfl := Option.some.inj H
       have p254 : 0 ≤ (x5_1 : Int) := of_decide_eq_true (by first | (with_reducible assumption) | assumption)
       have q254 : x5_1 < (l0.length : Int) := of_decide_eq_true (by first | (with_reducible assumption) | assumption)
       obtain ⟨ad254, e254, hx254_0, hx254_1, hx254_2, hx254_3, hx254_4, hx254_5, hx254_6⟩ := at_T34 HR0.out x5_1 p254 q254
       cases e254
       replace p254 := eq_true p254
       replace q254 := eq_true q254
       go_wp2
       go_ret
       exact ⟨by first | rfl | (simp; done) | (simp [*]; done), by repeat (first | exact Drawn0.refl _ | apply Drawn0.step)⟩
      ·rw [if_neg c6] at H
       have c6b0 : decide (((rd_T34 l0 x5_1).f0) ≤ a1) = false := decide_eq_false c6
       clear c6
       have H' := Aside0.mk H
       clear H
       have p254 : 0 ≤ (x5_1 : Int) := of_decide_eq_true (by first | (with_reducible assumption) | assumption)
       have q254 : x5_1 < (l0.length : Int) := of_decide_eq_true (by first | (with_reducible assumption) | assumption)
       obtain ⟨ad254, e254, hx254_0, hx254_1, hx254_2, hx254_3, hx254_4, hx254_5, hx254_6⟩ := at_T34 HR0.out x5_1 p254 q254
       cases e254
       replace p254 := eq_true p254
       replace q254 := eq_true q254
       go_wp2
       go_roundg k1
       case measure => have := HK1.out; omega
       case rel => exact ⟨(wrap64 (x5_1 - 1)), (by first | rfl | (simp; done) | (simp [*]; done)), H', ⟨by have := HK1.out; omega⟩, by repeat (first | exact Drawn0.refl _ | apply Drawn0.step)⟩
     ·rw [if_neg c5] at H
      exact absurd H (by simp)
    ·rw [if_neg c4] at H
     exact absurd H (by simp)
   ·rw [if_neg c3] at H
    have c3b0 : decide (0 ≤ x5_1) = false := decide_eq_false c3
    clear c3
    obtain rfl := Option.some.inj H
    go_wp2
    go_ret
    exact ⟨by first | rfl | (simp; done) | (simp [*]; done), by repeat (first | exact Drawn0.refl _ | apply Drawn0.step)⟩
end Go.Proofs.Ytejnbjclcdmopaa.PA
end

section
namespace Go.Proofs.Ytejnbjclcdmopaa.PA
open Go.RowKit Go.Proofs.YtejnbjclcdmopaaW.PrintWords Go.Proofs.YtejnbjclcdmopaaW.PrintLast Go.Proofs.YtejnbjclcdmopaaW.PrintMore
attribute [local go_sem] max2_int min2_int max_two min_two max_three min_three max_four min_four
attribute [local go_sem] Go.Proofs.Ytejnbjclcdmopaa.MS.isSome_setCell
set_option linter.unusedVariables false
set_option linter.unusedSimpArgs false
def key_Goes.j0 : Nat → Int → Int → Bool → Int → Int → Int → Int → Option (Int)
 | 0, _, _, _, _, _, _, _ => none
 | k + 1, x0, x2, x7, x256000, x256001, x256002, x256003 => if x7 = true then (some 65536) else (if x0 = 1 then (some x2) else (if x0 = 2 then ((ease_At.f k x256000 x256001 x256002 x256003 x2).bind fun t256 => (some t256)) else (some 0)))
def key_Goes.f (k : Nat) (a0 : Int) (a1_0 : Int) (a1_1 : Int) (a1_2 : Int) (a1_3 : Int) (a2 : Int) : Option (Int) := if a0 = 0 then (key_Goes.j0 k a0 a2 (decide (a2 ≥ 65536)) a1_0 a1_1 a1_2 a1_3) else (key_Goes.j0 k a0 a2 false a1_0 a1_1 a1_2 a1_3)
set_option maxHeartbeats 8000000 in
set_option maxRecDepth 100000 in
theorem key_Goes.calls (k : Nat) (a0 : Int) (a1_0 : Int) (a1_1 : Int) (a1_2 : Int) (a1_3 : Int) (a2 : Int) (r : Int) (w : World) (h : key_Goes.f k a0 a1_0 a1_1 a1_2 a1_3 a2 = some r) :
  Calls Try.prog 27 #[.int .i64 a0, .agg #[.int .i64 a1_0, .int .i64 a1_1, .int .i64 a1_2, .int .i64 a1_3], .int .i64 a2] w fun e w' => e = .returned (.int .i64 r) ∧ Below w.heap.size w w' := by
 have hu23 := Try.underlying23
 have HB := Aside0.mk (Below.refl w.heap.size w)
 have H : (if a0 = 0 then (key_Goes.j0 k a0 a2 (decide (a2 ≥ 65536)) a1_0 a1_1 a1_2 a1_3) else (key_Goes.j0 k a0 a2 false a1_0 a1_1 a1_2 a1_3)) = some r := h
 clear h
 have HC4 := Aside0.mk H
 clear H
 go_enter Try.func27, Try.ntmps27
 go_upto_region 1 with (first | ((with_reducible refine gate_dst (N := 4) rfl ?_); refine box_event ?hg (N := 4) ?hd (cs := #[.int .i64 a1_0, .int .i64 a1_1, .int .i64 a1_2, .int .i64 a1_3]) (t := 23) ?hr ?_; (case hd => rfl); (case hg => rfl); (case hr => first | (go_simp; done) | (go_simp; rfl)); intro gb255 hg w5 hbox hb; have n0_ := Aside0.mk (below_step (by repeat (first | (with_reducible first | exact HB.out | apply below_alloc | apply pw_below_drewN | apply below_drew1) | exact HB.out)) hb); have n1_ := Aside0.mk (hbox); have n2_ := Aside0.mk ((by rw [hg]; exact (below_size (by repeat (first | (with_reducible first | exact HB.out | apply below_alloc | apply pw_below_drewN | apply below_drew1) | exact HB.out))) : w.heap.size ≤ gb255)); have n3_ := Aside0.mk ((by rw [hg]; exact (below_size (by repeat (first | (with_reducible first | exact HB.out | apply below_alloc | apply pw_below_drewN | apply below_drew1) | exact HB.out))) : w.heap.size ≤ gb255)); clear HB; have HB := n0_; have BK255 := n1_; have GW255 := n2_; have GE255 := n3_; clear n0_ n1_ n2_ n3_; clear hb hbox hg))
 (try simp only [Act.put, List.setIfInBounds_toArray, List.set_cons_zero, List.set_cons_succ])
 go_cut [7] (fun v7 wc => ∃ (kq : Nat) (x7_3 : Bool), v7 = .bool x7_3 ∧ Aside0 (key_Goes.j0 kq a0 a2 x7_3 a1_0 a1_1 a1_2 a1_3 = some r) ∧ Aside0 (kq ≤ k) ∧ Aside0 (wc.heap[gb255]? = some (.cells #[.int .i64 a1_0, .int .i64 a1_1, .int .i64 a1_2, .int .i64 a1_3] 23 (0, 0))) ∧ Aside0 (Below w.heap.size w wc))
 case first =>
  have H := HC4.out
  clear HC4
  by_cases c6 : a0 = 0
  ·rw [if_pos c6] at H
   have c6b0 : (a0 == 0) = true := beq_iff_eq.mpr c6
   have c6b1 : (a0 != 0) = false := bne_eq_false_iff_eq.mpr c6
   clear c6
   (first | rw [c6b0] | (simp only [i64_w, i32_w]; rw [c6b0]) | skip)
   have H' := Aside0.mk H
   clear H
   go_wp2
   go_meet
   case rel => exact ⟨_, (decide (a2 ≥ 65536)), (by first | rfl | (simp; done) | (simp [*]; done)), H', ⟨by first | omega | exact Nat.le_refl _⟩, ⟨by (with_reducible repeat (first | refine blk_drewN ?_ _ | refine blk_drew ?_ | refine blk_alloc ?_ _)); exact BK255.out⟩, ⟨by repeat (first | (with_reducible first | exact HB.out | apply below_alloc | apply pw_below_drewN | apply below_drew1 | refine below_set ?_ GE255.out) | exact HB.out)⟩⟩
  ·rw [if_neg c6] at H
   have c6b0 : (a0 == 0) = false := beq_eq_false_iff_ne.mpr c6
   have c6b1 : (a0 != 0) = true := bne_iff_ne.mpr c6
   (first | rw [c6b0] | (simp only [i64_w, i32_w]; rw [c6b0]) | skip)
   have H' := Aside0.mk H
   clear H
   go_wp2
   go_meet
   case rel => exact ⟨_, (false), (by first | rfl | (simp; done) | (simp [*]; done)), H', ⟨by first | omega | exact Nat.le_refl _⟩, ⟨by (with_reducible repeat (first | refine blk_drewN ?_ _ | refine blk_drew ?_ | refine blk_alloc ?_ _)); exact BK255.out⟩, ⟨by repeat (first | (with_reducible first | exact HB.out | apply below_alloc | apply pw_below_drewN | apply below_drew1 | refine below_set ?_ GE255.out) | exact HB.out)⟩⟩
 case rest =>
  clear HC4
  try clear c2
  try clear p2
  try clear c6
  try clear c6b0
  try clear c6b1
  obtain ⟨kq, x7_3, rfl, HA, HJ3, BK255, HB⟩ := hcut
  cases kq with
  | zero => exact absurd HA.out (by simp [key_Goes.j0])
  | succ kj3 =>
   have H := HA.out
   clear HA
   simp only [key_Goes.j0] at H
   by_cases c7 : x7_3 = true
   ·subst c7
    have H1 : (some 65536) = some r := by rw [if_pos rfl] at H; exact H
    clear H
    have H := H1
    clear H1
    obtain rfl := Option.some.inj H
    go_wp2
    go_ret
    exact ⟨by first | rfl | (simp [errW_none, errW_some] <;> rfl) | (simp [*, errW_none, errW_some] <;> rfl), by repeat (first | (with_reducible first | exact HB.out | apply below_alloc | apply pw_below_drewN | apply below_drew1 | refine below_set ?_ GE255.out) | exact HB.out)⟩
   ·replace c7 := Bool.eq_false_iff.mpr c7
    subst c7
    have H1 : (if a0 = 1 then (some a2) else (if a0 = 2 then ((ease_At.f kj3 a1_0 a1_1 a1_2 a1_3 a2).bind fun t256 => (some t256)) else (some 0))) = some r := by rw [if_neg (show ¬ (false = true) by decide)] at H; exact H
    clear H
    have H := H1
    clear H1
    by_cases c8 : a0 = 1
    ·rw [if_pos c8] at H
     have c8b0 : (a0 == 1) = true := beq_iff_eq.mpr c8
     have c8b1 : (a0 != 1) = false := bne_eq_false_iff_eq.mpr c8
     clear c8
     obtain rfl := Option.some.inj H
     go_wp2
     go_ret
     exact ⟨by first | rfl | (simp [errW_none, errW_some] <;> rfl) | (simp [*, errW_none, errW_some] <;> rfl), by repeat (first | (with_reducible first | exact HB.out | apply below_alloc | apply pw_below_drewN | apply below_drew1 | refine below_set ?_ GE255.out) | exact HB.out)⟩
    ·rw [if_neg c8] at H
     have c8b0 : (a0 == 1) = false := beq_eq_false_iff_ne.mpr c8
     have c8b1 : (a0 != 1) = true := bne_iff_ne.mpr c8
     by_cases c9 : a0 = 2
     ·rw [if_pos c9] at H
      have c9b0 : (a0 == 2) = true := beq_iff_eq.mpr c9
      have c9b1 : (a0 != 2) = false := bne_eq_false_iff_eq.mpr c9
      clear c9
      replace H := Option.bind_eq_some_iff.mp H
      obtain ⟨t256, A100, H⟩ := H
      replace H : (some t256) = some r := H
      have A10 := Aside0.mk A100
      clear A100
      obtain rfl := Option.some.inj H
      have hcz11_0 : wc.cell? ⟨gb255, 0, none⟩ = some (.int .i64 a1_0) := (blk_cell BK255.out 0).trans rfl
      have hcz11_1 : wc.cell? ⟨gb255, 1, none⟩ = some (.int .i64 a1_1) := (blk_cell BK255.out 1).trans rfl
      have hcz11_2 : wc.cell? ⟨gb255, 2, none⟩ = some (.int .i64 a1_2) := (blk_cell BK255.out 2).trans rfl
      have hcz11_3 : wc.cell? ⟨gb255, 3, none⟩ = some (.int .i64 a1_3) := (blk_cell BK255.out 3).trans rfl
      have hfz11_0 := blk_frozen BK255.out 0
      have hfz11_1 := blk_frozen BK255.out 1
      have hfz11_2 := blk_frozen BK255.out 2
      have hfz11_3 := blk_frozen BK255.out 3
      go_wp2_with (first | ((with_reducible refine gate_callee (f := 13) rfl ?_); refine goesL_ (some 23) rfl rfl Try.func13 (by kernel_rfl) rfl #[.agg #[.int .i64 a1_0, .int .i64 a1_1, .int .i64 a1_2, .int .i64 a1_3], .int .i64 a2] rfl (by (try simp only [List.map_toArray, List.map_cons, List.map_nil]); first | done | rfl | (simp only [List.length_drop, List.length_take]; rfl)) ?_; (with_reducible refine (ease_At.calls kj3 a1_0 a1_1 a1_2 a1_3 a2 t256 _ A10.out).mono ?_); rintro e w12 ⟨rfl, hb⟩; refine ⟨_, rfl, ?_⟩; have n0_ := Aside0.mk (blk_below (g := gb255) (o := .cells #[.int .i64 a1_0, .int .i64 a1_1, .int .i64 a1_2, .int .i64 a1_3] 23 (0, 0)) (by (with_reducible repeat (first | refine blk_drewN ?_ _ | refine blk_drew ?_ | refine blk_alloc ?_ _)); exact BK255.out) hb); have n1_ := Aside0.mk (below_step (by repeat (first | (with_reducible first | exact HB.out | apply below_alloc | apply pw_below_drewN | apply below_drew1 | refine below_set ?_ GE255.out) | exact HB.out)) hb); clear BK255; clear HB; have BK255 := n0_; have HB := n1_; clear n0_ n1_; (try clear hb); (try clear hb2); (try clear hk); (try clear hi)))
      go_ret
      exact ⟨by first | rfl | (simp [errW_none, errW_some] <;> rfl) | (simp [*, errW_none, errW_some] <;> rfl), by repeat (first | (with_reducible first | exact HB.out | apply below_alloc | apply pw_below_drewN | apply below_drew1 | refine below_set ?_ GE255.out) | exact HB.out)⟩
     ·rw [if_neg c9] at H
      have c9b0 : (a0 == 2) = false := beq_eq_false_iff_ne.mpr c9
      have c9b1 : (a0 != 2) = true := bne_iff_ne.mpr c9
      obtain rfl := Option.some.inj H
      go_wp2
      go_ret
      exact ⟨by first | rfl | (simp [errW_none, errW_some] <;> rfl) | (simp [*, errW_none, errW_some] <;> rfl), by repeat (first | (with_reducible first | exact HB.out | apply below_alloc | apply pw_below_drewN | apply below_drew1 | refine below_set ?_ GE255.out) | exact HB.out)⟩
def q_Mid.f (k : Nat) (a0 : Int) (a1 : Int) (a2 : Int) : Option (Int) := (q_Hold.f a0).bind fun t257 => ((q_Add.f a1 (wrap64 (-t257))).bind fun t258 => ((q_Mul.f k t258 a2).bind fun t259 => ((q_Add.f t257 t259).bind fun t260 => (some t260))))
set_option maxHeartbeats 8000000 in
set_option maxRecDepth 100000 in
theorem q_Mid.calls (k : Nat) (a0 : Int) (a1 : Int) (a2 : Int) (r : Int) (w : World) (h : q_Mid.f k a0 a1 a2 = some r) :
  Calls Try.prog 32 #[.int .i64 a0, .int .i64 a1, .int .i64 a2] w fun e w' => e = .returned (.int .i64 r) ∧ Drawn0 w w' := by
 have H : ((q_Hold.f a0).bind fun t257 => ((q_Add.f a1 (wrap64 (-t257))).bind fun t258 => ((q_Mul.f k t258 a2).bind fun t259 => ((q_Add.f t257 t259).bind fun t260 => (some t260))))) = some r := h
 clear h
 replace H := Option.bind_eq_some_iff.mp H
 obtain ⟨t257, A40, H⟩ := H
 replace H : ((q_Add.f a1 (wrap64 (-t257))).bind fun t258 => ((q_Mul.f k t258 a2).bind fun t259 => ((q_Add.f t257 t259).bind fun t260 => (some t260)))) = some r := H
 have A4 := Aside0.mk A40
 clear A40
 replace H := Option.bind_eq_some_iff.mp H
 obtain ⟨t258, A50, H⟩ := H
 replace H : ((q_Mul.f k t258 a2).bind fun t259 => ((q_Add.f t257 t259).bind fun t260 => (some t260))) = some r := H
 have A5 := Aside0.mk A50
 clear A50
 replace H := Option.bind_eq_some_iff.mp H
 obtain ⟨t259, A60, H⟩ := H
 replace H : ((q_Add.f t257 t259).bind fun t260 => (some t260)) = some r := H
 have A6 := Aside0.mk A60
 clear A60
 replace H := Option.bind_eq_some_iff.mp H
 obtain ⟨t260, A70, H⟩ := H
 replace H : (some t260) = some r := H
 have A7 := Aside0.mk A70
 clear A70
 obtain rfl := Option.some.inj H
 go_enter Try.func32, Try.ntmps32
 go_wp2_with (first | ((with_reducible refine gate_callee (f := 30) rfl ?_); refine goesL_ (some 8) rfl rfl Try.func30 (by kernel_rfl) rfl #[.int .i64 a0] rfl (by (try simp only [List.map_toArray, List.map_cons, List.map_nil]); first | done | rfl | (simp only [List.length_drop, List.length_take]; rfl)) ?_; (with_reducible refine (q_Hold.calls a0 t257 _ A4.out).mono ?_); rintro e w' ⟨rfl, ⟨nd, rfl⟩⟩; refine ⟨_, rfl, ?_⟩) | ((with_reducible refine gate_callee (f := 46) rfl ?_); refine goesL_ (some 13) rfl rfl Try.func46 (by kernel_rfl) rfl #[.int .i64 a1, .int .i64 (wrap64 (-t257))] rfl (by (try simp only [List.map_toArray, List.map_cons, List.map_nil]); first | done | rfl | (simp only [List.length_drop, List.length_take]; rfl)) ?_; (with_reducible refine (q_Add.calls a1 (wrap64 (-t257)) t258 _ A5.out).mono ?_); rintro e w' ⟨rfl, ⟨nd, rfl⟩⟩; refine ⟨_, rfl, ?_⟩) | ((with_reducible refine gate_callee (f := 45) rfl ?_); refine goesL_ (some 15) rfl rfl Try.func45 (by kernel_rfl) rfl #[.int .i64 t258, .int .i64 a2] rfl (by (try simp only [List.map_toArray, List.map_cons, List.map_nil]); first | done | rfl | (simp only [List.length_drop, List.length_take]; rfl)) ?_; (with_reducible refine (q_Mul.calls k t258 a2 t259 _ A6.out).mono ?_); rintro e w' ⟨rfl, ⟨nd, rfl⟩⟩; refine ⟨_, rfl, ?_⟩) | ((with_reducible refine gate_callee (f := 46) rfl ?_); refine goesL_ (some 16) rfl rfl Try.func46 (by kernel_rfl) rfl #[.int .i64 t257, .int .i64 t259] rfl (by (try simp only [List.map_toArray, List.map_cons, List.map_nil]); first | done | rfl | (simp only [List.length_drop, List.length_take]; rfl)) ?_; (with_reducible refine (q_Add.calls t257 t259 t260 _ A7.out).mono ?_); rintro e w' ⟨rfl, ⟨nd, rfl⟩⟩; refine ⟨_, rfl, ?_⟩))
 go_ret
 exact ⟨by first | rfl | (simp; done) | (simp [*]; done), by repeat (first | exact Drawn0.refl _ | apply Drawn0.step)⟩
end Go.Proofs.Ytejnbjclcdmopaa.PA
end
