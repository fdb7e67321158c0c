/- What the functions compute, and that they do so over the machine of plain values (printed by this session's program wip/vm/Walk.lean). No condition beyond those stated. -/
import Derived.Test.YtifalphladcdcaaGreatWk
import Derived.Test.YtifalphladcdcaaGreatHB
import Derived.Test.YtifalphladcdcaaGreatPNd
set_option linter.unusedVariables false
set_option linter.unusedSimpArgs false
namespace Go.Proofs.YtifalphladcdcaaGreat.H
open Go Go.VM
set_option maxRecDepth 100000
/-! ## F154 -/
noncomputable abbrev B154 : Code := (Tryz.f154.body).getD .skip
inductive T154_r19s0 where
  | mk (a d : Nat) (f : Bool) (i j l : LV)
abbrev T154_r19s0.st : T154_r19s0 → S
  | .mk a d f i j l => S.mk (U :: U :: U :: pT 0 :: un 4 (hS 1 a :: hS 2 d :: un 138 [])) [oF 2 [[vb f, lS 2 i]], oT 8 j, oT 2 l]
inductive T154_r19e0 where
  | mk (a d : Nat) (f : Bool) (i j : LV)
inductive N154_r19 where
  | e0 (x : T154_r19e0)
abbrev N154_r19.out : N154_r19 → VX × S
  | .e0 (.mk a d f i j) => (vN, S.mk (un 8 (hS 0 a :: hS 1 d :: un 124 (vb f :: un 13 []))) [oT 8 i, oT 2 j])
abbrev E154_r19 := Ent.o1 N154_r19.out .e0 fun ⟨x⟩ => ⟨x, rfl⟩
noncomputable def D154_r19 : T154_r19s0 → PT N154_r19 | .mk a d j l f i => .auto 1 <| .testB j (fun h0 => .auto 3 <| .ret (.e0 (.mk a d (decide ((↑a : Int) ≥ 2)) f i))) (fun h0 => .auto 3 <| .ret (.e0 (.mk a d false f i)))
noncomputable def J154_r19 (y : T154_r19s0) : Option N154_r19 := (D154_r19 y).ev some
theorem J154_r19_ok (y : T154_r19s0) : ∀ b, J154_r19 y = some b → regP Tryz.prog X CC 154 0 B154 19 y.st = some (E154_r19.out b) := by
  cases y; exact reg_ok (E := E154_r19) (fun x => by kernel_rfl)
inductive T154_2s0 where
  | mk (a d : Nat) (f : Int) (i : Bool) (j l m : LV)
inductive T154_2e0 where
  | mk (a d : Nat) (f : Bool) (i j l : LV)
inductive N154_2 where
  | s0 (x : T154_2s0)
  | e0 (x : T154_2e0)
abbrev N154_2.out : N154_2 → VX × S
  | .s0 (.mk a d f i j l m) => (vN, S.mk (U :: U :: U :: pT 0 :: un 4 (hS 1 a :: hS 2 d :: U :: U :: U :: i64 f :: un 134 [])) [oF 2 [[vb i, lS 2 j]], oT 8 l, oT 2 m])
  | .e0 (.mk o p q s t u) => (vX 2, S.mk (U :: U :: U :: pT 0 :: un 4 (hS 1 o :: hS 2 p :: un 138 [])) [oF 2 [[vb q, lS 2 s]], oT 8 t, oT 2 u])
abbrev E154_2 := Ent.o2 N154_2.out .s0 .e0 (fun b => by cases b <;> simp)
noncomputable def D154_2 : T154_2s0 → PT N154_2 | .mk j i a q s o p => .test (a < (↑j : Int)) (fun h0 => .test (0 ≤ w64 (a - 1) ∧ w64 (a - 1) < (↑j : Int)) (fun h1 => .look RW206 (o[(0 : Nat) + Int.toNat (w64 (a - (1 : Int)))]?) fun d => .test (0 ≤ a ∧ a < (↑j : Int)) (fun h2 => .look RW206 (o[(0 : Nat) + Int.toNat a]?) fun f => .ask E211 (F211_ok d.c0 d.c1 d.c2 d.c3 d.c4 d.c5 d.c6 d.c7 f.c0 f.c1 f.c2 f.c3 f.c4 f.c5 f.c6 f.c7) fun ⟨l, m⟩ => .test (0 + l ≤ List.length m) (fun h3 => .test (0 + i ≤ List.length p ∧ (i + List.length (List.take l m)) * 32 ≤ 140737488355328 ∧ i + List.length (List.take l m) ≤ 140737488355328) (fun h4 => .ret (.s0 (.mk j (i + List.length (List.take l m)) (w64 (a + 1)) q s o (List.take i p ++ List.take l m)))) (fun _ => .fail)) (fun _ => .fail)) (fun _ => .fail)) (fun _ => .fail)) (fun h0 => .ret (.e0 (.mk j i q s o p)))
noncomputable def L154_2 := E154_2.loop fun | .s0 x => D154_2 x | _ => .fail
theorem L154_2_ok : LU 154 0 B154 2 E154_2 L154_2 :=
  lk (L := notIn []) (fun b hb => by cases b <;> first | (cases hb; done) | (rename_i x; cases x; intro x; kernel_rfl) | (intro x; kernel_rfl))
noncomputable def N154_2.nx (n : Nat) : N154_2 → Option N154_2 | .s0 x => L154_2 n (.s0 x) | .e0 x => some (.e0 x)
theorem L154_2_s0 (n : Nat) (x : T154_2s0) : L154_2 (n + 1) (.s0 x) = (D154_2 x).ev (N154_2.nx n) := Ent.loop_eq fun c => by cases c <;> rfl
inductive T154_c69s0 where
  | mk (a : Int) (d f : Nat) (i : Int) (j l : Bool) (m o p : LV) (q s t u : Int)
abbrev T154_c69s0.st : T154_c69s0 → S
  | .mk a d f i j l m o p q s t u => S.mk (U :: U :: i64 a :: pT 0 :: un 4 (hS 1 d :: hS 2 f :: i64 i :: pT 3 :: pT 4 :: un 56 (vb j :: un 78 []))) [oF 2 [[vb l, lS 2 m]], oT 8 o, oT 2 p, oF 2 [[i64 q, i64 s]], oF 2 [[i64 t, i64 u]]]
inductive T154_c69e0 where
  | mk (a : Int) (d f : Nat) (i : Int) (j : Bool) (l m o : LV) (p q s t : Int)
inductive N154_c69 where
  | e0 (x : T154_c69e0)
abbrev N154_c69.out : N154_c69 → VX × S
  | .e0 (.mk a d f i j l m o p q s t) => (vN, S.mk (U :: U :: i64 a :: pT 0 :: un 4 (hS 1 d :: hS 2 f :: i64 i :: pT 3 :: pT 4 :: un 135 [])) [oF 2 [[vb j, lS 2 l]], oT 8 m, oT 2 o, oF 2 [[i64 p, i64 q]], oF 2 [[i64 s, i64 t]]])
abbrev E154_c69 := Ent.o1 N154_c69.out .e0 fun ⟨x⟩ => ⟨x, rfl⟩
noncomputable def D154_c69 : T154_c69s0 → PT N154_c69 | .mk i d j a v l m f o p q s t => .testB v (fun h0 => .auto 1 <| .test (0 ≤ a ∧ a < (↑d : Int)) (fun h1 => .look RW206 (f[(0 : Nat) + Int.toNat a]?) fun u => .ask E209 (F209_ok s t u.c4 u.c5 1) fun ⟨w, y⟩ => .auto 1 <| .ret (.e0 (.mk i d j a l m f o p q w y))) (fun _ => .fail)) (fun h0 => .ret (.e0 (.mk i d j a l m f o p q s t)))
noncomputable def J154_c69 (y : T154_c69s0) : Option N154_c69 := (D154_c69 y).ev some
theorem J154_c69_ok (y : T154_c69s0) : CU 154 0 B154 69 E154_c69 (J154_c69 y) y.st := by
  cases y; exact cond_ok (L := notIn []) fun x => by kernel_rfl
inductive T154_r12s0 where
  | mk (a : Int) (d f : Nat) (i : Int) (j : Bool) (l m o : LV) (p q s t : Int)
abbrev T154_r12s0.st : T154_r12s0 → S
  | .mk a d f i j l m o p q s t => S.mk (U :: U :: i64 a :: pT 0 :: un 4 (hS 1 d :: hS 2 f :: i64 i :: pT 3 :: pT 4 :: un 135 [])) [oF 2 [[vb j, lS 2 l]], oT 8 m, oT 2 o, oF 2 [[i64 p, i64 q]], oF 2 [[i64 s, i64 t]]]
inductive T154_r12e0 where
  | mk (a : Int) (d f : Nat) (i : Int) (j l : Bool) (m o p : LV) (q s t u : Int)
inductive N154_r12 where
  | e0 (x : T154_r12e0)
abbrev N154_r12.out : N154_r12 → VX × S
  | .e0 (.mk a d f i j l m o p q s t u) => (vN, S.mk (U :: U :: i64 a :: pT 0 :: un 4 (hS 1 d :: hS 2 f :: i64 i :: pT 3 :: pT 4 :: un 56 (vb j :: un 78 []))) [oF 2 [[vb l, lS 2 m]], oT 8 o, oT 2 p, oF 2 [[i64 q, i64 s]], oF 2 [[i64 t, i64 u]]])
abbrev E154_r12 := Ent.o1 N154_r12.out .e0 fun ⟨x⟩ => ⟨x, rfl⟩
noncomputable def D154_r12 : T154_r12s0 → PT N154_r12 | .mk a d j f i l m o p q s t => .testB (a == 1) (fun h0 => .auto 4 <| .testB (!i) (fun h1 => .auto 5 <| .ret (.e0 (.mk a d j f (f == w64 ((↑d : Int) - 1)) i l m o p q s t))) (fun h1 => .auto 5 <| .ret (.e0 (.mk a d j f false i l m o p q s t)))) (fun h0 => .auto 9 <| .ret (.e0 (.mk a d j f false i l m o p q s t)))
noncomputable def J154_r12 (y : T154_r12s0) : Option N154_r12 := (D154_r12 y).ev some
theorem J154_r12_ok (y : T154_r12s0) : ∀ b, J154_r12 y = some b → regP Tryz.prog X CC 154 0 B154 12 y.st = some (E154_r12.out b) := by
  cases y; exact reg_ok (E := E154_r12) (fun x => by kernel_rfl)
inductive T154_c48s0 where
  | mk (a : Int) (d f : Nat) (i : Int) (j l : Bool) (m o p : LV) (q s t u : Int)
abbrev T154_c48s0.st : T154_c48s0 → S
  | .mk a d f i j l m o p q s t u => S.mk (U :: U :: i64 a :: pT 0 :: un 4 (hS 1 d :: hS 2 f :: i64 i :: pT 3 :: pT 4 :: un 35 (vb j :: un 99 []))) [oF 2 [[vb l, lS 2 m]], oT 8 o, oT 2 p, oF 2 [[i64 q, i64 s]], oF 2 [[i64 t, i64 u]]]
inductive T154_c48e0 where
  | mk (a : Int) (d f : Nat) (i : Int) (j : Bool) (l m o : LV) (p q s t : Int)
inductive N154_c48 where
  | e0 (x : T154_c48e0)
abbrev N154_c48.out : N154_c48 → VX × S
  | .e0 (.mk a d f i j l m o p q s t) => (vN, S.mk (U :: U :: i64 a :: pT 0 :: un 4 (hS 1 d :: hS 2 f :: i64 i :: pT 3 :: pT 4 :: un 135 [])) [oF 2 [[vb j, lS 2 l]], oT 8 m, oT 2 o, oF 2 [[i64 p, i64 q]], oF 2 [[i64 s, i64 t]]])
abbrev E154_c48 := Ent.o1 N154_c48.out .e0 fun ⟨x⟩ => ⟨x, rfl⟩
noncomputable def D154_c48 : T154_c48s0 → PT N154_c48 | .mk i d j a v l m f o p q s t => .testB v (fun h0 => .auto 1 <| .test (0 ≤ a ∧ a < (↑d : Int)) (fun h1 => .look RW206 (f[(0 : Nat) + Int.toNat a]?) fun u => .ask E209 (F209_ok p q u.c4 u.c5 (-1)) fun ⟨w, y⟩ => .auto 1 <| .ret (.e0 (.mk i d j a l m f o w y s t))) (fun _ => .fail)) (fun h0 => .ret (.e0 (.mk i d j a l m f o p q s t)))
noncomputable def J154_c48 (y : T154_c48s0) : Option N154_c48 := (D154_c48 y).ev some
theorem J154_c48_ok (y : T154_c48s0) : CU 154 0 B154 48 E154_c48 (J154_c48 y) y.st := by
  cases y; exact cond_ok (L := notIn []) fun x => by kernel_rfl
inductive T154_r10s0 where
  | mk (a : Int) (d f : Nat) (i : Int) (j : Bool) (l m o : LV) (p q s t : Int)
abbrev T154_r10s0.st : T154_r10s0 → S
  | .mk a d f i j l m o p q s t => S.mk (U :: U :: i64 a :: pT 0 :: un 4 (hS 1 d :: hS 2 f :: i64 i :: pT 3 :: pT 4 :: un 135 [])) [oF 2 [[vb j, lS 2 l]], oT 8 m, oT 2 o, oF 2 [[i64 p, i64 q]], oF 2 [[i64 s, i64 t]]]
inductive T154_r10e0 where
  | mk (a : Int) (d f : Nat) (i : Int) (j l : Bool) (m o p : LV) (q s t u : Int)
inductive N154_r10 where
  | e0 (x : T154_r10e0)
abbrev N154_r10.out : N154_r10 → VX × S
  | .e0 (.mk a d f i j l m o p q s t u) => (vN, S.mk (U :: U :: i64 a :: pT 0 :: un 4 (hS 1 d :: hS 2 f :: i64 i :: pT 3 :: pT 4 :: un 35 (vb j :: un 99 []))) [oF 2 [[vb l, lS 2 m]], oT 8 o, oT 2 p, oF 2 [[i64 q, i64 s]], oF 2 [[i64 t, i64 u]]])
abbrev E154_r10 := Ent.o1 N154_r10.out .e0 fun ⟨x⟩ => ⟨x, rfl⟩
noncomputable def D154_r10 : T154_r10s0 → PT N154_r10 | .mk a i j d f l m o p q s t => .testB (a == 1) (fun h0 => .auto 4 <| .testB (!f) (fun h1 => .auto 2 <| .ret (.e0 (.mk a i j d (d == 0) f l m o p q s t))) (fun h1 => .auto 2 <| .ret (.e0 (.mk a i j d false f l m o p q s t)))) (fun h0 => .auto 6 <| .ret (.e0 (.mk a i j d false f l m o p q s t)))
noncomputable def J154_r10 (y : T154_r10s0) : Option N154_r10 := (D154_r10 y).ev some
theorem J154_r10_ok (y : T154_r10s0) : ∀ b, J154_r10 y = some b → regP Tryz.prog X CC 154 0 B154 10 y.st = some (E154_r10.out b) := by
  cases y; exact reg_ok (E := E154_r10) (fun x => by kernel_rfl)
inductive T154_0s0 where
  | mk (a : Int) (d f : Nat) (i : Int) (j : Bool) (l m o : LV)
inductive T154_0e0 where
  | mk (a d : Nat) (f : Bool) (i j l : LV)
inductive N154_0 where
  | s0 (x : T154_0s0)
  | e0 (x : T154_0e0)
abbrev N154_0.out : N154_0 → VX × S
  | .s0 (.mk a d f i j l m o) => (vN, S.mk (U :: U :: i64 a :: pT 0 :: un 4 (hS 1 d :: hS 2 f :: i64 i :: un 137 [])) [oF 2 [[vb j, lS 2 l]], oT 8 m, oT 2 o])
  | .e0 (.mk p q s t u v) => (vX 0, S.mk (U :: U :: U :: pT 0 :: un 4 (hS 1 p :: hS 2 q :: un 138 [])) [oF 2 [[vb s, lS 2 t]], oT 8 u, oT 2 v])
abbrev E154_0 := Ent.o2 N154_0.out .s0 .e0 (fun b => by cases b <;> simp)
noncomputable def D154_0 : T154_0s0 → PT N154_0 | .mk d7 j m d o p l q => .test (d < (↑j : Int)) (fun h0 => .test (0 ≤ d ∧ d < (↑j : Int)) (fun h1 => .look RW206 (l[(0 : Nat) + Int.toNat d]?) fun s => .known (decide_eq_true h1) <| .look RW206 (l[(0 : Nat) + Int.toNat d]?) fun t => .auto 2 <| .cut E154_r10 (J154_r10_ok (.mk d7 j m d o p l q s.c0 s.c1 t.c2 t.c3)) fun | .e0 (.mk d8 d9 f0 f1 f2 f3 f4 f5 f6 f7 f8 f9 j0) => .cut E154_c48 (J154_c48_ok (.mk d8 d9 f0 f1 f2 f3 f4 f5 f6 f7 f8 f9 j0)) fun | .e0 (.mk j1 j2 j3 j4 j5 j6 j7 j8 j9 l0 l1 l2) => .cut E154_r12 (J154_r12_ok (.mk j1 j2 j3 j4 j5 j6 j7 j8 j9 l0 l1 l2)) fun | .e0 (.mk l3 l4 l5 l6 l7 l8 l9 m0 m1 m2 m3 m4 m5) => .cut E154_c69 (J154_c69_ok (.mk l3 l4 l5 l6 l7 l8 l9 m0 m1 m2 m3 m4 m5)) fun | .e0 (.mk m6 u f a m7 m8 i v w y z d0) => .auto 1 <| .test (0 ≤ a ∧ a < (↑u : Int)) (fun h2 => .look RW206 (i[(0 : Nat) + Int.toNat a]?) fun d1 => .ask E209 (F209_ok w y d1.c6 d1.c7 1) fun ⟨m9, o0⟩ => .auto 1 <| .known (decide_eq_true h2) <| .look RW206 (i[(0 : Nat) + Int.toNat a]?) fun d2 => .ask E209 (F209_ok z d0 d2.c6 d2.c7 1) fun ⟨o1, o2⟩ => .auto 1 <| .known (decide_eq_true h2) <| .look RW206 (i[(0 : Nat) + Int.toNat a]?) fun d3 => .ask E209 (F209_ok z d0 d3.c6 d3.c7 (-1)) fun ⟨o3, o4⟩ => .auto 1 <| .known (decide_eq_true h2) <| .look RW206 (i[(0 : Nat) + Int.toNat a]?) fun d4 => .ask E209 (F209_ok w y d4.c6 d4.c7 (-1)) fun ⟨o5, o6⟩ => .auto 1 <| .ask E210 (F210_ok ([[i64 m9, i64 o0], [i64 o1, i64 o2], [i64 o3, i64 o4], [i64 o5, i64 o6]])) fun ⟨o7, d5, d6⟩ => .test (0 + d5 ≤ List.length d6) (fun h3 => .auto 1 <| .test (0 + f ≤ List.length v ∧ (f + 1) * 32 ≤ 140737488355328 ∧ f + 1 ≤ 140737488355328) (fun h4 => .ret (.s0 (.mk m6 u (f + 1) (w64 (a + 1)) m7 m8 i (List.take f v ++ [[vb o7, lS 2 (List.take d5 d6)]])))) (fun _ => .fail)) (fun _ => .fail)) (fun _ => .fail)) (fun _ => .fail)) (fun h0 => .ret (.e0 (.mk j m o p l q)))
noncomputable def L154_0 := E154_0.loop fun | .s0 x => D154_0 x | _ => .fail
theorem L154_0_ok : LU 154 0 B154 0 E154_0 L154_0 :=
  lk (L := notIn []) (fun b hb => by cases b <;> first | (cases hb; done) | (rename_i x; cases x; intro x; kernel_rfl) | (intro x; kernel_rfl))
noncomputable def N154_0.nx (n : Nat) : N154_0 → Option N154_0 | .s0 x => L154_0 n (.s0 x) | .e0 x => some (.e0 x)
theorem L154_0_s0 (n : Nat) (x : T154_0s0) : L154_0 (n + 1) (.s0 x) = (D154_0 x).ev (N154_0.nx n) := Ent.loop_eq fun c => by cases c <;> rfl
noncomputable def D154 (o : Bool) (p : LV) (t u : Int) : PT A154 := .auto 1 <| .tot O145 (F145_ok (Int.fdiv t 2) 0 67108864) fun q => .testB (q == 0) (fun h0 => .ret (.a0 0 ([]))) (fun h0 => .auto 1 <| .ask E208 (F208_ok o p q) fun ⟨v, w⟩ => .cut E154_0 (L154_0_ok (.s0 (.mk u v 0 0 o p w ([]))) rfl) fun | .e0 (.mk y z d0 d1 d2 d3) => (.cut E154_2 (L154_2_ok (.s0 (.mk y z 1 d0 d1 d2 d3)) rfl) fun | .e0 (.mk d4 d5 d6 d7 d8 d9) => (.cut E154_r19 (J154_r19_ok (.mk d4 d5 d6 d7 d8 d9)) fun | .e0 (.mk i f f0 s m) => .testB f0 (fun h1 => .test (0 ≤ w64 ((↑i : Int) - 1) ∧ w64 ((↑i : Int) - 1) < (↑i : Int)) (fun h2 => .look RW206 (s[(0 : Nat) + Int.toNat (w64 ((↑i : Int) - (1 : Int)))]?) fun a => .test ((0 : Int) ≤ (0 : Int) ∧ (0 : Int) < (↑i : Int)) (fun h3 => .look RW206 (s[(0 : Nat)]?) fun d => .ask E211 (F211_ok a.c0 a.c1 a.c2 a.c3 a.c4 a.c5 a.c6 a.c7 d.c0 d.c1 d.c2 d.c3 d.c4 d.c5 d.c6 d.c7) fun ⟨j, l⟩ => .test (0 + j ≤ List.length l) (fun h4 => .test (0 + f ≤ List.length m ∧ (f + List.length (List.take j l)) * 32 ≤ 140737488355328 ∧ f + List.length (List.take j l) ≤ 140737488355328) (fun h5 => .ret (.a0 (f + List.length (List.take j l)) (List.take f m ++ List.take j l))) (fun _ => .fail)) (fun _ => .fail)) (fun _ => .fail)) (fun _ => .fail)) (fun h1 => .ret (.a0 f m))) | _ => .fail) | _ => .fail)
noncomputable def F154 (a : Bool) (d : LV) (f i : Int) : Option A154 := (D154 a d f i).ev some
theorem F154_ok (a : Bool) (d : LV) (f i : Int) : FU E154 (F154 a d f i) 154 [V.agg [vb a, lS 2 d], i64 f, i64 i] := fu rfl rfl fun x => by kernel_rfl
/-! ## F88 -/
noncomputable abbrev B88 : Code := (Tryz.f88.body).getD .skip
inductive T88_2s0 where
  | mk (a d : Int) (f i j : Nat) (l m : Int) (o : Nat) (p q : Int) (s : W34) (t : W59) (u v w y : LV)
inductive T88_2e0 where
  | mk (a d : Int) (f i j : Nat) (l m : Int) (o : W34) (p : W59) (q s t : LV)
inductive N88_2 where
  | s0 (x : T88_2s0)
  | e0 (x : T88_2e0)
abbrev N88_2.out : N88_2 → VX × S
  | .s0 (.mk a d f i j l m o p q s t u v w y) => (vN, S.mk (U :: i64 a :: U :: i64 d :: pT 0 :: U :: pT 1 :: U :: U :: hS 2 f :: U :: U :: hS 3 i :: un 52 (hS 4 j :: i64 l :: i64 m :: un 6 (hS 5 o :: i64 p :: i64 q :: un 32 []))) [oF 32 [W34.cells s], oF 6 [W59.cells t], oT 17 u, oT 2 v, oT 2 w, oT 2 y])
  | .e0 (.mk z d0 d1 d2 d3 d4 d5 d6 d7 d8 d9 f0) => (vX 2, S.mk (U :: i64 z :: U :: i64 d0 :: pT 0 :: U :: pT 1 :: U :: U :: hS 2 d1 :: U :: U :: hS 3 d2 :: un 52 (hS 4 d3 :: i64 d4 :: i64 d5 :: un 41 [])) [oF 32 [W34.cells d6], oF 6 [W59.cells d7], oT 17 d8, oT 2 d9, oT 2 f0])
abbrev E88_2 := Ent.o2 N88_2.out .s0 .e0 (fun b => by cases b <;> simp)
noncomputable def D88_2 : T88_2s0 → PT N88_2 | .mk l o p a q s t u v d j w y m z d0 => .test (d < v) (fun h0 => .test (0 ≤ d ∧ d < (↑u : Int)) (fun h1 => .look RW88 (d0[(0 : Nat) + Int.toNat d]?) fun d1 => .auto 3 <| .ask E143 (F143_ok j.c23 l 0) fun ⟨d2⟩ => .auto 1 <| .ask E154 (F154_ok d1.c0 d1.c1 d2 j.c28) fun ⟨f, i⟩ => .test (0 + f ≤ List.length i) (fun h2 => .test (0 + a ≤ List.length m ∧ (a + List.length (List.take f i)) * 32 ≤ 140737488355328 ∧ a + List.length (List.take f i) ≤ 140737488355328) (fun h3 => .ret (.s0 (.mk l o p (a + List.length (List.take f i)) q s t u v (w64 (d + 1)) j w y (List.take a m ++ List.take f i) z d0))) (fun _ => .fail)) (fun _ => .fail)) (fun _ => .fail)) (fun h0 => .ret (.e0 (.mk l o p a q s t j w y m z)))
noncomputable def L88_2 := E88_2.loop fun | .s0 x => D88_2 x | _ => .fail
theorem L88_2_ok : LU 88 0 B88 2 E88_2 L88_2 :=
  lk (L := notIn []) (fun b hb => by cases b <;> first | (cases hb; done) | (rename_i x; cases x; intro x; kernel_rfl) | (intro x; kernel_rfl))
noncomputable def N88_2.nx (n : Nat) : N88_2 → Option N88_2 | .s0 x => L88_2 n (.s0 x) | .e0 x => some (.e0 x)
theorem L88_2_s0 (n : Nat) (x : T88_2s0) : L88_2 (n + 1) (.s0 x) = (D88_2 x).ev (N88_2.nx n) := Ent.loop_eq fun c => by cases c <;> rfl
inductive T88_0s0 where
  | mk (a d : Int) (f i j : Nat) (l m : Int) (o : W34) (p : W59) (q s t : LV)
inductive T88_0e0 where
  | mk (a : Int) (d f : Nat) (i : W34) (j : W59) (l m : LV)
inductive N88_0 where
  | s0 (x : T88_0s0)
  | e0 (x : T88_0e0)
abbrev N88_0.out : N88_0 → VX × S
  | .s0 (.mk a d f i j l m o p q s t) => (vN, S.mk (U :: i64 a :: U :: i64 d :: pT 0 :: U :: pT 1 :: U :: U :: hS 2 f :: U :: U :: hS 3 i :: un 52 (hS 4 j :: i64 l :: i64 m :: un 41 [])) [oF 32 [W34.cells o], oF 6 [W59.cells p], oT 17 q, oT 2 s, oT 2 t])
  | .e0 (.mk u v w y z d0 d1) => (vX 0, S.mk (U :: U :: U :: i64 u :: pT 0 :: U :: pT 1 :: U :: U :: hS 2 v :: U :: U :: hS 3 w :: un 96 []) [oF 32 [W34.cells y], oF 6 [W59.cells z], oT 17 d0, oT 2 d1])
abbrev E88_0 := Ent.o2 N88_0.out .s0 .e0 (fun b => by cases b <;> simp)
noncomputable def D88_0 : T88_0s0 → PT N88_0 | .mk v f i j l m a d o p q s => .test (a < m) (fun h0 => .test (0 ≤ a ∧ a < (↑l : Int)) (fun h1 => .look RW88 (s[(0 : Nat) + Int.toNat a]?) fun t => .auto 3 <| .ask E153 (F153_ok t.c0 t.c1 d.c29) fun ⟨u, w⟩ => .cut E88_2 (L88_2_ok (.s0 (.mk v f i j l m a u ((↑u : Int)) 0 d o p q s w)) rfl) fun | .e0 (.mk y z d0 d1 d2 d3 d4 d5 d6 d7 d8 d9) => .ret (.s0 (.mk y z d0 d1 d2 d3 (w64 (d4 + 1)) d5 d6 d7 d8 d9)) | _ => .fail) (fun _ => .fail)) (fun h0 => .ret (.e0 (.mk f i j d o p q)))
noncomputable def L88_0 := E88_0.loop fun | .s0 x => D88_0 x | _ => .fail
theorem L88_0_ok : LU 88 0 B88 0 E88_0 L88_0 :=
  lk (L := notIn []) (fun b hb => by cases b <;> first | (cases hb; done) | (rename_i x; cases x; intro x; kernel_rfl) | (intro x; kernel_rfl))
noncomputable def N88_0.nx (n : Nat) : N88_0 → Option N88_0 | .s0 x => L88_0 n (.s0 x) | .e0 x => some (.e0 x)
theorem L88_0_s0 (n : Nat) (x : T88_0s0) : L88_0 (n + 1) (.s0 x) = (D88_0 x).ev (N88_0.nx n) := Ent.loop_eq fun c => by cases c <;> rfl
inductive T88_c27s0 where
  | mk (a d : Int) (f : Bool) (i : W34) (j : W59) (l : Bool) (m : Nat) (o : LV)
abbrev T88_c27s0.st : T88_c27s0 → S
  | .mk a d f i j l m o => S.mk (U :: i64 a :: U :: i64 d :: pT 0 :: U :: pT 1 :: U :: U :: hS 2 0 :: pT 3 :: un 16 (vb f :: un 81 [])) [oF 32 [W34.cells i], oF 6 [W59.cells j], oT 17 [], oF 2 [[vb l, hS 4 m]], oT 2 o]
inductive T88_c27e0 where
  | mk (a d : Int) (f : W34) (i : W59) (j : LV) (l : Bool) (m : Nat) (o : LV)
inductive T88_c27e1 where
  | mk (a d : Int) (f : W34) (i : W59) (j : Bool) (l : Nat) (m : LV)
inductive N88_c27 where
  | e0 (x : T88_c27e0)
  | e1 (x : T88_c27e1)
abbrev N88_c27.out : N88_c27 → VX × S
  | .e0 (.mk a d f i j l m o) => (vN, S.mk (U :: i64 a :: U :: i64 d :: pT 0 :: U :: pT 1 :: U :: U :: hS 2 1 :: pT 3 :: un 98 []) [oF 32 [W34.cells f], oF 6 [W59.cells i], oT 17 j, oF 2 [[vb l, hS 4 m]], Ob.cells false true 2 o])
  | .e1 (.mk p q s t u v w) => (vN, S.mk (U :: i64 p :: U :: i64 q :: pT 0 :: U :: pT 1 :: U :: U :: hS 2 0 :: pT 3 :: un 98 []) [oF 32 [W34.cells s], oF 6 [W59.cells t], oT 17 [], oF 2 [[vb u, hS 4 v]], oT 2 w])
abbrev E88_c27 := Ent.o2 N88_c27.out .e0 .e1 (fun b => by cases b <;> simp)
noncomputable def D88_c27 : T88_c27s0 → PT N88_c27 | .mk j l q a d m f i => .testB q (fun h0 => .auto 2 <| .ask E150 (F150_ok d a.c7 a.c8 a.c9 a.c10 a.c11 a.c12 a.c13 a.c14 a.c15 a.c16 a.c17 a.c18 a.c19 a.c20) fun ⟨s, t, u, v, w, y, z, d0, d1, d2, d3, d4, d5, d6⟩ => .auto 3 <| .ask E151 (F151_ok a.c21 j t u v w) fun ⟨d7, d8, d9, f0⟩ => .auto 3 <| .test (0 + f ≤ List.length i) (fun h1 => .auto 1 <| .ask E148 (F148_ok d ([[vb m, lS 2 (List.take f i)]])) fun ⟨o, p⟩ => .auto 2 <| .test (0 + o ≤ List.length p) (fun h2 => .auto 2 <| .ret (.e0 (.mk j l a d ([[lS 2 (List.take o p), i64 a.c6, i64 s, u8 d7, u8 d8, u8 d9, u8 f0, u8 y, u8 z, u8 d0, u8 d1, i64 d2, i64 d3, i64 d4, i64 d5, i64 d6, i64 l]]) m f i))) (fun _ => .fail)) (fun _ => .fail)) (fun h0 => .ret (.e1 (.mk j l a d m f i)))
noncomputable def J88_c27 (y : T88_c27s0) : Option N88_c27 := (D88_c27 y).ev some
theorem J88_c27_ok (y : T88_c27s0) : CU 88 0 B88 27 E88_c27 (J88_c27 y) y.st := by
  cases y; exact cond_ok (L := notIn []) fun x => by kernel_rfl
noncomputable def D88 (m : W34) (v : Int) (f3 : W59) (f4 : Int) : PT A88 := .auto 1 <| .ask E52 (F52_ok m v) fun ⟨f5, w, y⟩ => .test (0 + w ≤ List.length y) (fun h0 => .ask E149 (F149_ok f5 (List.take w y)) fun ⟨f6, z, f7⟩ => .auto 2 <| .testB ((↑z : Int) == 0) (fun h1 => .ret (.a0 0 ([]))) (fun h1 => .auto 1 <| .cut E88_c27 (J88_c27_ok (.mk v f4 m.c5 m f3 f6 z f7)) fun | .e0 (.mk o f8 j f9 d0 j0 d1 d2) => (.auto 1 <| .testB (!j.c22) (fun h2 => .ret (.a0 1 d0)) (fun h2 => .auto 1 <| .test (0 + d1 ≤ List.length d2) (fun h3 => .auto 1 <| .ask E143 (F143_ok j.c30 o 0) fun ⟨j1⟩ => .auto 1 <| .ask E143 (F143_ok j.c31 o 65536) fun ⟨j2⟩ => .auto 1 <| .ask E152 (F152_ok ([[vb j0, lS 2 (List.take d1 d2)]]) j1 j2) fun ⟨d3, j3⟩ => .cut E88_0 (L88_0_ok (.s0 (.mk o f8 1 0 d3 ((↑d3 : Int)) 0 j f9 d0 ([]) j3)) rfl) fun | .e0 (.mk j4 f p a j5 q d4) => (.test ((↑p : Int) > 0) (fun h4 => .auto 1 <| .test (0 + p ≤ List.length d4) (fun h5 => .ask E148 (F148_ok j5 (List.take p d4)) fun ⟨d5, d6⟩ => .auto 2 <| .test (0 + d5 ≤ List.length d6) (fun h6 => .auto 1 <| .test (0 + f ≤ List.length q ∧ (f + 1) * 96 ≤ 140737488355328 ∧ f + 1 ≤ 140737488355328) (fun h7 => .ret (.a0 (f + 1) (List.take f q ++ [[lS 2 (List.take d5 d6), i64 0, i64 0, u8 a.c24, u8 a.c25, u8 a.c26, u8 a.c27, u8 a.c24, u8 a.c25, u8 a.c26, u8 a.c27, i64 0, i64 0, i64 0, i64 0, i64 0, i64 j4]]))) (fun _ => .fail)) (fun _ => .fail)) (fun _ => .fail)) (fun h4 => .ret (.a0 f q))) | _ => .fail) (fun _ => .fail))) | .e1 (.mk s j6 l j7 j8 d7 d8) => .auto 1 <| .testB (!l.c22) (fun h2 => .ret (.a0 0 ([]))) (fun h2 => .auto 1 <| .test (0 + d7 ≤ List.length d8) (fun h3 => .auto 1 <| .ask E143 (F143_ok l.c30 s 0) fun ⟨j9⟩ => .auto 1 <| .ask E143 (F143_ok l.c31 s 65536) fun ⟨l0⟩ => .auto 1 <| .ask E152 (F152_ok ([[vb j8, lS 2 (List.take d7 d8)]]) j9 l0) fun ⟨d9, l1⟩ => .cut E88_0 (L88_0_ok (.s0 (.mk s j6 0 0 d9 ((↑d9 : Int)) 0 l j7 ([]) ([]) l1)) rfl) fun | .e0 (.mk l2 i t d l3 u f0) => (.test ((↑t : Int) > 0) (fun h4 => .auto 1 <| .test (0 + t ≤ List.length f0) (fun h5 => .ask E148 (F148_ok l3 (List.take t f0)) fun ⟨f1, f2⟩ => .auto 2 <| .test (0 + f1 ≤ List.length f2) (fun h6 => .auto 1 <| .test (0 + i ≤ List.length u ∧ (i + 1) * 96 ≤ 140737488355328 ∧ i + 1 ≤ 140737488355328) (fun h7 => .ret (.a0 (i + 1) (List.take i u ++ [[lS 2 (List.take f1 f2), i64 0, i64 0, u8 d.c24, u8 d.c25, u8 d.c26, u8 d.c27, u8 d.c24, u8 d.c25, u8 d.c26, u8 d.c27, i64 0, i64 0, i64 0, i64 0, i64 0, i64 l2]]))) (fun _ => .fail)) (fun _ => .fail)) (fun _ => .fail)) (fun h4 => .ret (.a0 i u))) | _ => .fail) (fun _ => .fail)))) (fun _ => .fail)
noncomputable def F88 (a : W34) (d : Int) (f : W59) (i : Int) : Option A88 := (D88 a d f i).ev some
theorem F88_ok (a : W34) (d : Int) (f : W59) (i : Int) : FU E88 (F88 a d f i) 88 [V.agg (W34.cells a), i64 d, V.agg (W59.cells f), i64 i] := fu rfl rfl fun x => by kernel_rfl
/-! ## F89 -/
noncomputable def D89 (a : W85) (d : W85) : PT A89 := .auto 2 <| .ask E85 (F85_ok a.c0 d.c0) fun ⟨f⟩ => .testB f (fun h0 => .auto 7 <| .testB (a.c1 == d.c1) (fun h1 => .auto 7 <| .testB (a.c2 == d.c2 && (a.c3 == d.c3 && (a.c4 == d.c4 && (a.c5 == d.c5 && (a.c6 == d.c6 && true))) && (a.c7 == d.c7 && (a.c8 == d.c8 && (a.c9 == d.c9 && (a.c10 == d.c10 && true))) && (a.c11 == d.c11 && (a.c12 == d.c12 && true) && (a.c13 == d.c13 && (a.c14 == d.c14 && true) && (a.c15 == d.c15 && true)))))) (fun h2 => .auto 7 <| .ret (.a0 (a.c16 == d.c16))) (fun h2 => .auto 5 <| .ret (.a0 false))) (fun h1 => .auto 11 <| .ret (.a0 false))) (fun h0 => .auto 17 <| .ret (.a0 false))
noncomputable def F89 (a : W85) (d : W85) : Option A89 := (D89 a d).ev some
theorem F89_ok (a : W85) (d : W85) : FU E89 (F89 a d) 89 [V.agg (W85.cells a), V.agg (W85.cells d)] := fu rfl rfl fun x => by kernel_rfl
/-! ## F30 -/
noncomputable abbrev B30 : Code := (Tryz.f30.body).getD .skip
inductive T30_0s0 where
  | mk (a d : Nat) (f i : Int) (j l : LV)
inductive N30_0 where
  | s0 (x : T30_0s0)
  | e0
  | e1
abbrev N30_0.out : N30_0 → VX × S
  | .s0 (.mk a d f i j l) => (vN, S.mk (un 9 (hS 0 a :: hS 1 d :: un 17 (i64 f :: i64 i :: un 13 []))) [oT 17 j, oT 17 l])
  | .e0 => (VX.ret, S.mk (un 8 (vb false :: un 34 [])) [])
  | .e1 => (vX 0, S.mk (un 43 []) [])
abbrev E30_0 := Ent.o3 N30_0.out .s0 (fun (_ : Unit) => .e0) (fun (_ : Unit) => .e1) (fun b => by cases b <;> simp)
noncomputable def D30_0 : T30_0s0 → PT N30_0 | .mk d f i a j l => .test (a < i) (fun h0 => .test (0 ≤ a ∧ a < (↑d : Int)) (fun h1 => .look RW85 (j[(0 : Nat) + Int.toNat a]?) fun m => .test (0 ≤ a ∧ a < (↑f : Int)) (fun h2 => .look RW85 (l[(0 : Nat) + Int.toNat a]?) fun o => .ask E89 (F89_ok m o) fun ⟨p⟩ => .testB (!p) (fun h3 => .ret .e0) (fun h3 => .ret (.s0 (.mk d f i (w64 (a + 1)) j l)))) (fun _ => .fail)) (fun _ => .fail)) (fun h0 => .ret .e1)
noncomputable def L30_0 := E30_0.loop fun | .s0 x => D30_0 x | _ => .fail
theorem L30_0_ok : LU 30 0 B30 0 E30_0 L30_0 :=
  lk (L := notIn []) (fun b hb => by cases b <;> first | (cases hb; done) | (rename_i x; cases x; intro x; kernel_rfl) | (intro x; kernel_rfl))
noncomputable def N30_0.nx (n : Nat) : N30_0 → Option N30_0 | .s0 x => L30_0 n (.s0 x) | .e0 => some .e0 | .e1 => some .e1
theorem L30_0_s0 (n : Nat) (x : T30_0s0) : L30_0 (n + 1) (.s0 x) = (D30_0 x).ev (N30_0.nx n) := Ent.loop_eq fun c => by cases c <;> rfl
noncomputable def D30 (d : W34) (f : Int) (i : W59) (j : Int) : PT A30 := .auto 2 <| .ask E75 (F75_ok d f i j) fun ⟨a, m⟩ => .auto 2 <| .ask E88 (F88_ok d f i j) fun ⟨l, o⟩ => .testB ((↑a : Int) != (↑l : Int)) (fun h0 => .ret (.a0 false)) (fun h0 => .cut E30_0 (L30_0_ok (.s0 (.mk a l ((↑a : Int)) 0 m o)) rfl) fun | .e0 => .ret (.a0 false) | .e1 => .ret (.a0 true) | _ => .fail)
noncomputable def F30 (a : W34) (d : Int) (f : W59) (i : Int) : Option A30 := (D30 a d f i).ev some
theorem F30_ok (a : W34) (d : Int) (f : W59) (i : Int) : FU E30 (F30 a d f i) 30 [V.agg (W34.cells a), i64 d, V.agg (W59.cells f), i64 i] := fu rfl rfl fun x => by kernel_rfl
/-! ## F28 -/
noncomputable abbrev B28 : Code := (Tryz.f28.body).getD .skip
inductive T28_0s0 where
  | mk (a : Int) (d : Nat) (f : Int) (i : LV)
inductive T28_0e0 where
  | mk (a : Nat) (d : LV)
inductive N28_0 where
  | s0 (x : T28_0s0)
  | e0 (x : T28_0e0)
abbrev N28_0.out : N28_0 → VX × S
  | .s0 (.mk a d f i) => (vN, S.mk (i64 a :: U :: U :: hS 0 d :: i64 f :: un 20 []) [oT 1 i])
  | .e0 (.mk j l) => (vX 0, S.mk (U :: U :: U :: hS 0 j :: un 21 []) [oT 1 l])
abbrev E28_0 := Ent.o2 N28_0.out .s0 .e0 (fun b => by cases b <;> simp)
noncomputable def D28_0 : T28_0s0 → PT N28_0 | .mk f a d i => .test (d < 250) (fun h0 => .auto 2 <| .test (0 + a ≤ List.length i ∧ (a + 1) * 8 ≤ 140737488355328 ∧ a + 1 ≤ 140737488355328) (fun h1 => .ret (.s0 (.mk f (a + 1) (w64 (d + 1)) (List.take a i ++ [[i64 (Int.tmod (w64 (w64 (w64 (w64 (d * d) * 7) + w64 (f * 31)) + w64 (d * f))) 211)]])))) (fun _ => .fail)) (fun h0 => .ret (.e0 (.mk a i)))
noncomputable def L28_0 := E28_0.loop fun | .s0 x => D28_0 x | _ => .fail
theorem L28_0_ok : LU 28 0 B28 0 E28_0 L28_0 :=
  lk (L := notIn []) (fun b hb => by cases b <;> first | (cases hb; done) | (rename_i x; cases x; intro x; kernel_rfl) | (intro x; kernel_rfl))
noncomputable def N28_0.nx (n : Nat) : N28_0 → Option N28_0 | .s0 x => L28_0 n (.s0 x) | .e0 x => some (.e0 x)
theorem L28_0_s0 (n : Nat) (x : T28_0s0) : L28_0 (n + 1) (.s0 x) = (D28_0 x).ev (N28_0.nx n) := Ent.loop_eq fun c => by cases c <;> rfl
noncomputable def D28 (a : Int) : PT A28 := .cut E28_0 (L28_0_ok (.s0 (.mk a 0 0 ([]))) rfl) fun | .e0 (.mk d f) => .ret (.a0 d f) | _ => .fail
noncomputable def F28 (a : Int) : Option A28 := (D28 a).ev some
theorem F28_ok (a : Int) : FU E28 (F28 a) 28 [i64 a] := fu rfl rfl fun x => by kernel_rfl
/-! ## F6 -/
noncomputable abbrev B6 : Code := (Tryz.f6.body).getD .skip
inductive T6_6s0 where
  | mk (a d : Int) (f : Nat) (i j : Int) (l : LV) (m o : Int) (p : LV)
inductive T6_6e1 where
  | mk (a d : Int) (f : Nat) (i j : Int) (l m : LV)
inductive N6_6 where
  | s0 (x : T6_6s0)
  | e0
  | e1 (x : T6_6e1)
abbrev N6_6.out : N6_6 → VX × S
  | .s0 (.mk d f i j l a m o p) => (vN, S.mk (U :: pT 0 :: i64 d :: U :: pT 1 :: i64 f :: un 11 (hS 2 i :: i64 j :: i64 l :: un 13 (lS 50 a :: i64 m :: i64 o :: un 34 []))) [oF 6 [W59.cells (W59.mk 131072 9 (-65536) 65536 458752 (-5))], oF 1 [[lS 50 a]], oT 1 p])
  | .e0 => (VX.ret, S.mk (vb false :: un 69 []) [])
  | .e1 (.mk q s t u v w y) => (vX 6, S.mk (U :: pT 0 :: i64 q :: U :: pT 1 :: i64 s :: un 11 (hS 2 t :: i64 u :: i64 v :: un 50 [])) [oF 6 [W59.cells (W59.mk 131072 9 (-65536) 65536 458752 (-5))], oF 1 [[lS 50 w]], oT 1 y])
abbrev E6_6 := Ent.o3 N6_6.out .s0 (fun (_ : Unit) => .e0) .e1 (fun b => by cases b <;> simp)
noncomputable def D6_6 : T6_6s0 → PT N6_6 | .mk j d l m o i p f q => .test (f < p) (fun h0 => .test (0 ≤ f) (fun h1 => .look RW57 (i[Int.toNat f]?) fun a => .auto 3 <| .ask E30 (F30_ok (W34.mk a.c18 a.c19 a.c20 a.c21 a.c22 a.c23 a.c24 a.c25 a.c26 a.c27 a.c28 a.c29 a.c30 a.c31 a.c32 a.c33 a.c34 a.c35 a.c36 a.c37 a.c38 a.c39 a.c40 a.c41 a.c42 a.c43 a.c44 a.c45 a.c46 a.c47 a.c48 a.c49) d (W59.mk 131072 9 (-65536) 65536 458752 (-5)) (w64 (d * 10))) fun ⟨s⟩ => .testB (!s) (fun h2 => .ret .e0) (fun h2 => .ret (.s0 (.mk j d l m o i p (w64 (f + 1)) q)))) (fun _ => .fail)) (fun h0 => .ret (.e1 (.mk j d l m o i q)))
noncomputable def L6_6 := E6_6.loop fun | .s0 x => D6_6 x | _ => .fail
theorem L6_6_ok : LU 6 0 B6 6 E6_6 L6_6 :=
  lk (L := notIn []) (fun b hb => by cases b <;> first | (cases hb; done) | (rename_i x; cases x; intro x; kernel_rfl) | (intro x; kernel_rfl))
noncomputable def N6_6.nx (n : Nat) : N6_6 → Option N6_6 | .s0 x => L6_6 n (.s0 x) | .e0 => some .e0 | .e1 x => some (.e1 x)
theorem L6_6_s0 (n : Nat) (x : T6_6s0) : L6_6 (n + 1) (.s0 x) = (D6_6 x).ev (N6_6.nx n) := Ent.loop_eq fun c => by cases c <;> rfl
inductive T6_4s0 where
  | mk (a d : Int) (f : Nat) (i j : Int) (l m : LV)
inductive T6_4e1 where
  | mk (a : Int) (d : Nat) (f i : Int) (j : LV)
inductive N6_4 where
  | s0 (x : T6_4s0)
  | e0
  | e1 (x : T6_4e1)
abbrev N6_4.out : N6_4 → VX × S
  | .s0 (.mk a d f i j l m) => (vN, S.mk (U :: pT 0 :: i64 a :: U :: pT 1 :: i64 d :: un 11 (hS 2 f :: i64 i :: i64 j :: un 50 [])) [oF 6 [W59.cells (W59.mk 131072 9 (-65536) 65536 458752 (-5))], oF 1 [[lS 50 l]], oT 1 m])
  | .e0 => (VX.ret, S.mk (vb false :: un 69 []) [])
  | .e1 (.mk o p q s t) => (vX 4, S.mk (U :: pT 0 :: i64 o :: un 14 (hS 1 p :: i64 q :: i64 s :: un 50 [])) [oF 6 [W59.cells (W59.mk 131072 9 (-65536) 65536 458752 (-5))], oT 1 t])
abbrev E6_4 := Ent.o3 N6_4.out .s0 (fun (_ : Unit) => .e0) .e1 (fun b => by cases b <;> simp)
noncomputable def D6_4 : T6_4s0 → PT N6_4 | .mk f a i j l d m => .test (a < 25) (fun h0 => .auto 2 <| .ask E29 (F29_ok d a (W59.mk 131072 9 (-65536) 65536 458752 (-5))) fun ⟨o⟩ => .testB (!o) (fun h1 => .ret .e0) (fun h1 => .auto 1 <| .cut E6_6 (L6_6_ok (.s0 (.mk f a i j l d ((d.length : Int)) 0 m)) rfl) fun | .e0 => .ret .e0 | .e1 (.mk p q s t u v w) => .ret (.s0 (.mk p (w64 (q + 4)) s t u v w)) | _ => .fail)) (fun h0 => .ret (.e1 (.mk f i j l m)))
noncomputable def L6_4 := E6_4.loop fun | .s0 x => D6_4 x | _ => .fail
theorem L6_4_ok : LU 6 0 B6 4 E6_4 L6_4 :=
  lk (L := notIn []) (fun b hb => by cases b <;> first | (cases hb; done) | (rename_i x; cases x; intro x; kernel_rfl) | (intro x; kernel_rfl))
noncomputable def N6_4.nx (n : Nat) : N6_4 → Option N6_4 | .s0 x => L6_4 n (.s0 x) | .e0 => some .e0 | .e1 x => some (.e1 x)
theorem L6_4_s0 (n : Nat) (x : T6_4s0) : L6_4 (n + 1) (.s0 x) = (D6_4 x).ev (N6_4.nx n) := Ent.loop_eq fun c => by cases c <;> rfl
inductive T6_2s0 where
  | mk (a : Int) (d : Nat) (f i : Int) (j : LV)
inductive T6_2e1 where
  | mk (a : Int)
inductive N6_2 where
  | s0 (x : T6_2s0)
  | e0
  | e1 (x : T6_2e1)
abbrev N6_2.out : N6_2 → VX × S
  | .s0 (.mk a d f i j) => (vN, S.mk (U :: pT 0 :: i64 a :: un 14 (hS 1 d :: i64 f :: i64 i :: un 50 [])) [oF 6 [W59.cells (W59.mk 131072 9 (-65536) 65536 458752 (-5))], oT 1 j])
  | .e0 => (VX.ret, S.mk (vb false :: un 69 []) [])
  | .e1 (.mk l) => (vX 2, S.mk (U :: pT 0 :: i64 l :: un 67 []) [oF 6 [W59.cells (W59.mk 131072 9 (-65536) 65536 458752 (-5))]])
abbrev E6_2 := Ent.o3 N6_2.out .s0 (fun (_ : Unit) => .e0) .e1 (fun b => by cases b <;> simp)
noncomputable def D6_2 : T6_2s0 → PT N6_2 | .mk d f i a j => .test (a < i) (fun h0 => .test (0 ≤ a ∧ a < (↑f : Int)) (fun h1 => .look RW52 (j[(0 : Nat) + Int.toNat a]?) fun l => .auto 1 <| .cut E6_4 (L6_4_ok (.s0 (.mk d (-3) f i a l.c0 j)) rfl) fun | .e0 => .ret .e0 | .e1 (.mk m o p q s) => .ret (.s0 (.mk m o p (w64 (q + 1)) s)) | _ => .fail) (fun _ => .fail)) (fun h0 => .ret (.e1 (.mk d)))
noncomputable def L6_2 := E6_2.loop fun | .s0 x => D6_2 x | _ => .fail
theorem L6_2_ok : LU 6 0 B6 2 E6_2 L6_2 :=
  lk (L := notIn []) (fun b hb => by cases b <;> first | (cases hb; done) | (rename_i x; cases x; intro x; kernel_rfl) | (intro x; kernel_rfl))
noncomputable def N6_2.nx (n : Nat) : N6_2 → Option N6_2 | .s0 x => L6_2 n (.s0 x) | .e0 => some .e0 | .e1 x => some (.e1 x)
theorem L6_2_s0 (n : Nat) (x : T6_2s0) : L6_2 (n + 1) (.s0 x) = (D6_2 x).ev (N6_2.nx n) := Ent.loop_eq fun c => by cases c <;> rfl
inductive T6_0s0 where
  | mk (a : Int)
inductive N6_0 where
  | s0 (x : T6_0s0)
  | e0
  | e1
abbrev N6_0.out : N6_0 → VX × S
  | .s0 (.mk a) => (vN, S.mk (U :: pT 0 :: i64 a :: un 67 []) [oF 6 [W59.cells (W59.mk 131072 9 (-65536) 65536 458752 (-5))]])
  | .e0 => (VX.ret, S.mk (vb false :: un 69 []) [])
  | .e1 => (vX 0, S.mk (U :: pT 0 :: un 68 []) [oF 6 [W59.cells (W59.mk 131072 9 (-65536) 65536 458752 (-5))]])
abbrev E6_0 := Ent.o3 N6_0.out .s0 (fun (_ : Unit) => .e0) (fun (_ : Unit) => .e1) (fun b => by cases b <;> simp)
noncomputable def D6_0 : T6_0s0 → PT N6_0 | .mk a => .test (a < 40) (fun h0 => .ask E28 (F28_ok a) fun ⟨d, f⟩ => .test (0 + d ≤ List.length f) (fun h1 => .ask E20 (F20_ok (List.take d f)) fun ⟨m, o, i, j⟩ => .cut E6_2 (L6_2_ok (.s0 (.mk a i ((↑i : Int)) 0 j)) rfl) fun | .e0 => .ret .e0 | .e1 (.mk l) => .ret (.s0 (.mk (w64 (l + 1)))) | _ => .fail) (fun _ => .fail)) (fun h0 => .ret .e1)
noncomputable def L6_0 := E6_0.loop fun | .s0 x => D6_0 x | _ => .fail
theorem L6_0_ok : LU 6 0 B6 0 E6_0 L6_0 :=
  lk (L := notIn []) (fun b hb => by cases b <;> first | (cases hb; done) | (rename_i x; cases x; intro x; kernel_rfl) | (intro x; kernel_rfl))
noncomputable def N6_0.nx (n : Nat) : N6_0 → Option N6_0 | .s0 x => L6_0 n (.s0 x) | .e0 => some .e0 | .e1 => some .e1
theorem L6_0_s0 (n : Nat) (x : T6_0s0) : L6_0 (n + 1) (.s0 x) = (D6_0 x).ev (N6_0.nx n) := Ent.loop_eq fun c => by cases c <;> rfl
noncomputable def D6 : PT A6 := .auto 1 <| .cut E6_0 (L6_0_ok (.s0 (.mk 0)) rfl) fun | .e1 => (.auto 6 <| .ask E29 (F29_ok ([[i64 0, i64 1, i64 0, i64 0, i64 0, i64 0, i64 0, lS 7 [[i64 0, i64 65536, i64 0, i64 0, i64 0, i64 0, i64 0]], lS 7 [], lS 7 [], lS 7 [], lS 7 [], lS 7 [], lS 7 [], lS 7 [], lS 7 [], vb false, lS 2 [], i64 0, i64 0, lS 7 [], lS 7 [], lS 8 [], vb false, i64 0, i64 0, u8 0, u8 0, u8 0, u8 0, u8 0, u8 0, u8 0, u8 0, i64 0, i64 0, i64 0, i64 0, i64 0, lS 10 [], vb false, lS 7 [], u8 0, u8 0, u8 0, u8 0, i64 0, lS 1 [], lS 7 [], lS 7 []], [i64 0, i64 0, i64 0, i64 0, i64 0, i64 0, i64 0, lS 7 [], lS 7 [[i64 0, i64 65536, i64 0, i64 0, i64 0, i64 0, i64 0]], lS 7 [], lS 7 [], lS 7 [], lS 7 [], lS 7 [], lS 7 [], lS 7 [], vb false, lS 2 [], i64 0, i64 0, lS 7 [], lS 7 [], lS 8 [], vb false, i64 0, i64 0, u8 0, u8 0, u8 0, u8 0, u8 0, u8 0, u8 0, u8 0, i64 0, i64 0, i64 0, i64 0, i64 0, lS 10 [], vb false, lS 7 [], u8 0, u8 0, u8 0, u8 0, i64 0, lS 1 [], lS 7 [], lS 7 []]]) 0 (W59.mk 131072 9 (-65536) 65536 458752 (-5))) fun ⟨a⟩ => .testB a (fun h0 => .auto 6 <| .ask E29 (F29_ok ([[i64 0, i64 7, i64 0, i64 0, i64 0, i64 0, i64 0, lS 7 [], lS 7 [], lS 7 [], lS 7 [], lS 7 [], lS 7 [], lS 7 [], lS 7 [], lS 7 [], vb false, lS 2 [], i64 0, i64 0, lS 7 [], lS 7 [], lS 8 [], vb false, i64 0, i64 0, u8 0, u8 0, u8 0, u8 0, u8 0, u8 0, u8 0, u8 0, i64 0, i64 0, i64 0, i64 0, i64 0, lS 10 [], vb false, lS 7 [], u8 0, u8 0, u8 0, u8 0, i64 0, lS 1 [], lS 7 [], lS 7 []]]) 4611686018427387904 (W59.mk 131072 9 (-65536) 65536 458752 (-5))) fun ⟨d⟩ => .auto 1 <| .testB d (fun h1 => .ask E25 F25_ok fun ⟨f⟩ => .auto 1 <| .ret (.a0 f)) (fun _ => .fail)) (fun _ => .fail)) | _ => .fail
noncomputable def F6 : Option A6 := (D6).ev some
theorem F6_ok : ∀ b, F6 = some b → UU 6 ([]) ([]) = some (A6.out b) :=
  fn_ok (E := E6) (L := notIn []) rfl rfl (fun x => by kernel_rfl)


end Go.Proofs.YtifalphladcdcaaGreat.H
