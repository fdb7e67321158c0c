/- What the functions compute, and that they do so over the machine of plain values (printed by this session's program wip/vm/Walk.lean). No condition beyond those stated. -/
import Derived.Test.YtifalphladcdcaaGreatWk
import Derived.Test.YtifalphladcdcaaGreatHB
import Derived.Test.YtifalphladcdcaaGreatPTd
set_option linter.unusedVariables false
set_option linter.unusedSimpArgs false
namespace Go.Proofs.YtifalphladcdcaaGreat.H
open Go Go.VM
set_option maxRecDepth 100000
/-! ## F148 -/
noncomputable abbrev B148 : Code := (Tryz.f148.body).getD .skip
inductive T148_0s0 where
  | mk (a : LV) (d : Nat) (f : Int) (i : W59) (j : LV)
inductive T148_0e0 where
  | mk (a : Nat) (d : LV)
inductive N148_0 where
  | s0 (x : T148_0s0)
  | e0 (x : T148_0e0)
abbrev N148_0.out : N148_0 → VX × S
  | .s0 (.mk a d f i j) => (vN, S.mk (U :: lS 2 a :: pT 0 :: U :: U :: hS 1 d :: i64 f :: un 23 []) [oF 6 [W59.cells i], oT 2 j])
  | .e0 (.mk l m) => (vX 0, S.mk (un 5 (hS 0 l :: un 24 [])) [oT 2 m])
abbrev E148_0 := Ent.o2 N148_0.out .s0 .e0 (fun b => by cases b <;> simp)
noncomputable def D148_0 : T148_0s0 → PT N148_0 | .mk f a d j i => .test (d < (f.length : Int)) (fun h0 => .test (0 ≤ d) (fun h1 => .look RW88 (f[Int.toNat d]?) fun o => .auto 1 <| .known (decide_eq_true h1) <| .look RW88 (f[Int.toNat d]?) fun p => .ask E199 (F199_ok j p.c1) fun ⟨l, m⟩ => .test (0 + l ≤ List.length m) (fun h2 => .auto 1 <| .test (0 + a ≤ List.length i ∧ (a + 1) * 32 ≤ 140737488355328 ∧ a + 1 ≤ 140737488355328) (fun h3 => .ret (.s0 (.mk f (a + 1) (w64 (d + 1)) j (List.take a i ++ [[vb o.c0, lS 2 (List.take l m)]])))) (fun _ => .fail)) (fun _ => .fail)) (fun _ => .fail)) (fun h0 => .ret (.e0 (.mk a i)))
noncomputable def L148_0 := E148_0.loop fun | .s0 x => D148_0 x | _ => .fail
theorem L148_0_ok : LU 148 0 B148 0 E148_0 L148_0 :=
  lk (L := notIn []) (fun b hb => by cases b <;> first | (cases hb; done) | (rename_i x; cases x; intro x; kernel_rfl) | (intro x; kernel_rfl))
noncomputable def N148_0.nx (n : Nat) : N148_0 → Option N148_0 | .s0 x => L148_0 n (.s0 x) | .e0 x => some (.e0 x)
theorem L148_0_s0 (n : Nat) (x : T148_0s0) : L148_0 (n + 1) (.s0 x) = (D148_0 x).ev (N148_0.nx n) := Ent.loop_eq fun c => by cases c <;> rfl
noncomputable def D148 (a : W59) (d : LV) : PT A148 := .cut E148_0 (L148_0_ok (.s0 (.mk d 0 0 a ([]))) rfl) fun | .e0 (.mk f i) => .ret (.a0 f i) | _ => .fail
noncomputable def F148 (a : W59) (d : LV) : Option A148 := (D148 a d).ev some
theorem F148_ok (a : W59) (d : LV) : FU E148 (F148 a d) 148 [V.agg (W59.cells a), lS 2 d] := fu rfl rfl fun x => by kernel_rfl
/-! ## F87 -/
noncomputable def D87 (a : W57) (i : W59) : PT A87 := .auto 1 <| .testB (((List.length a.c17) : Int) == 0) (fun h0 => .ret (.a0 0 ([]))) (fun h0 => .auto 2 <| .ask E149 (F149_ok a.c16 a.c17) fun ⟨j, d, f⟩ => .test (0 + d ≤ List.length f) (fun h1 => .auto 1 <| .ask E148 (F148_ok i ([[vb j, lS 2 (List.take d f)]])) fun ⟨l, m⟩ => .ret (.a0 l m)) (fun _ => .fail))
noncomputable def F87 (a : W57) (d : W59) : Option A87 := (D87 a d).ev some
theorem F87_ok (a : W57) (d : W59) : FU E87 (F87 a d) 87 [V.agg (W57.cells a), V.agg (W59.cells d)] := fu rfl rfl fun x => by kernel_rfl
/-! ## F108 -/
noncomputable abbrev B108 : Code := (Tryz.f108.body).getD .skip
inductive T108_0s0 where
  | mk (a d : LV) (f : Int)
inductive N108_0 where
  | s0 (x : T108_0s0)
  | e0
  | e1
abbrev N108_0.out : N108_0 → VX × S
  | .s0 (.mk a d f) => (vN, S.mk (lS 2 a :: lS 2 d :: U :: U :: U :: i64 f :: un 20 []) [])
  | .e0 => (VX.ret, S.mk (un 4 (vb false :: un 21 [])) [])
  | .e1 => (vX 0, S.mk (un 26 []) [])
abbrev E108_0 := Ent.o3 N108_0.out .s0 (fun (_ : Unit) => .e0) (fun (_ : Unit) => .e1) (fun b => by cases b <;> simp)
noncomputable def D108_0 : T108_0s0 → PT N108_0 | .mk d f a => .test (a < (d.length : Int)) (fun h0 => .test (0 ≤ a) (fun h1 => .look RW28 (d[Int.toNat a]?) fun i => .known (decide_eq_true h1) <| .look RW28 (f[Int.toNat a]?) fun j => .testB (!(i.c0 == j.c0 && (i.c1 == j.c1 && true))) (fun h2 => .ret .e0) (fun h2 => .ret (.s0 (.mk d f (w64 (a + 1)))))) (fun _ => .fail)) (fun h0 => .ret .e1)
noncomputable def L108_0 := E108_0.loop fun | .s0 x => D108_0 x | _ => .fail
theorem L108_0_ok : LU 108 0 B108 0 E108_0 L108_0 :=
  lk (L := notIn []) (fun b hb => by cases b <;> first | (cases hb; done) | (rename_i x; cases x; intro x; kernel_rfl) | (intro x; kernel_rfl))
noncomputable def N108_0.nx (n : Nat) : N108_0 → Option N108_0 | .s0 x => L108_0 n (.s0 x) | .e0 => some .e0 | .e1 => some .e1
theorem L108_0_s0 (n : Nat) (x : T108_0s0) : L108_0 (n + 1) (.s0 x) = (D108_0 x).ev (N108_0.nx n) := Ent.loop_eq fun c => by cases c <;> rfl
noncomputable def D108 (a d : LV) : PT A108 := .testB ((a.length : Int) != (d.length : Int)) (fun h0 => .ret (.a0 false)) (fun h0 => .cut E108_0 (L108_0_ok (.s0 (.mk a d 0)) rfl) fun | .e0 => .ret (.a0 false) | .e1 => .ret (.a0 true) | _ => .fail)
noncomputable def F108 (a d : LV) : Option A108 := (D108 a d).ev some
theorem F108_ok (a d : LV) : FU E108 (F108 a d) 108 [lS 2 a, lS 2 d] := fu rfl rfl fun x => by kernel_rfl
/-! ## F85 -/
noncomputable abbrev B85 : Code := (Tryz.f85.body).getD .skip
inductive T85_0s0 where
  | mk (a d : LV) (f : Int)
inductive N85_0 where
  | s0 (x : T85_0s0)
  | e0
  | e1
abbrev N85_0.out : N85_0 → VX × S
  | .s0 (.mk a d f) => (vN, S.mk (lS 2 a :: lS 2 d :: U :: U :: U :: i64 f :: un 36 []) [])
  | .e0 => (VX.ret, S.mk (un 4 (vb false :: un 37 [])) [])
  | .e1 => (vX 0, S.mk (un 42 []) [])
abbrev E85_0 := Ent.o3 N85_0.out .s0 (fun (_ : Unit) => .e0) (fun (_ : Unit) => .e1) (fun b => by cases b <;> simp)
noncomputable def D85_0 : T85_0s0 → PT N85_0 | .mk d f a => .test (a < (d.length : Int)) (fun h0 => .test (0 ≤ a) (fun h1 => .look RW88 (d[Int.toNat a]?) fun i => .known (decide_eq_true h1) <| .look RW88 (f[Int.toNat a]?) fun j => .testB (!i.c0 == j.c0) (fun h2 => .auto 13 <| .ret .e0) (fun h2 => .auto 2 <| .known (decide_eq_true h1) <| .look RW88 (d[Int.toNat a]?) fun l => .auto 5 <| .known (decide_eq_true h1) <| .look RW88 (f[Int.toNat a]?) fun m => .auto 3 <| .ask E108 (F108_ok l.c1 m.c1) fun ⟨o⟩ => .auto 2 <| .testB (!o) (fun h3 => .ret .e0) (fun h3 => .ret (.s0 (.mk d f (w64 (a + 1))))))) (fun _ => .fail)) (fun h0 => .ret .e1)
noncomputable def L85_0 := E85_0.loop fun | .s0 x => D85_0 x | _ => .fail
theorem L85_0_ok : LU 85 0 B85 0 E85_0 L85_0 :=
  lk (L := notIn []) (fun b hb => by cases b <;> first | (cases hb; done) | (rename_i x; cases x; intro x; kernel_rfl) | (intro x; kernel_rfl))
noncomputable def N85_0.nx (n : Nat) : N85_0 → Option N85_0 | .s0 x => L85_0 n (.s0 x) | .e0 => some .e0 | .e1 => some .e1
theorem L85_0_s0 (n : Nat) (x : T85_0s0) : L85_0 (n + 1) (.s0 x) = (D85_0 x).ev (N85_0.nx n) := Ent.loop_eq fun c => by cases c <;> rfl
noncomputable def D85 (a d : LV) : PT A85 := .testB ((a.length : Int) != (d.length : Int)) (fun h0 => .ret (.a0 false)) (fun h0 => .cut E85_0 (L85_0_ok (.s0 (.mk a d 0)) rfl) fun | .e0 => .ret (.a0 false) | .e1 => .ret (.a0 true) | _ => .fail)
noncomputable def F85 (a d : LV) : Option A85 := (D85 a d).ev some
theorem F85_ok (a d : LV) : FU E85 (F85 a d) 85 [lS 2 a, lS 2 d] := fu rfl rfl fun x => by kernel_rfl
/-! ## F29 -/
noncomputable abbrev B29 : Code := (Tryz.f29.body).getD .skip
inductive T29_2s0 where
  | mk (a : Int) (d : LV) (f i : Int) (j : W59)
inductive N29_2 where
  | s0 (x : T29_2s0)
  | e0
  | e1
abbrev N29_2.out : N29_2 → VX × S
  | .s0 (.mk a d f i j) => (vN, S.mk (U :: i64 a :: U :: U :: U :: pT 0 :: un 21 (lS 50 d :: i64 f :: i64 i :: un 48 [])) [oF 6 [W59.cells j]])
  | .e0 => (VX.ret, S.mk (un 6 (vb false :: un 71 [])) [])
  | .e1 => (vX 2, S.mk (un 78 []) [])
abbrev E29_2 := Ent.o3 N29_2.out .s0 (fun (_ : Unit) => .e0) (fun (_ : Unit) => .e1) (fun b => by cases b <;> simp)
noncomputable def D29_2 : T29_2s0 → PT N29_2 | .mk d m o j l => .test (j < o) (fun h0 => .test (0 ≤ j) (fun h1 => .look RW57 (m[Int.toNat j]?) fun a => .auto 2 <| .tot O23 (F23_ok a d) fun u => .auto 1 <| .tot O81 (F81_ok a d) fun v => .testB (!u == v) (fun h2 => .auto 33 <| .ret .e0) (fun h2 => .auto 3 <| .ask E21 (F21_ok a d) fun ⟨f⟩ => .auto 4 <| .ask E82 (F82_ok a d) fun ⟨i⟩ => .auto 2 <| .testB (!(f.c0 == i.c0 && (f.c1 == i.c1 && (f.c2 == i.c2 && (f.c3 == i.c3 && (f.c4 == i.c4 && (f.c5 == i.c5 && true))))))) (fun h3 => .auto 25 <| .ret .e0) (fun h3 => .auto 3 <| .ask E22 (F22_ok a d) fun ⟨w⟩ => .auto 4 <| .ask E83 (F83_ok a d) fun ⟨y⟩ => .auto 2 <| .testB (w != y) (fun h4 => .auto 17 <| .ret .e0) (fun h4 => .auto 3 <| .ask E24 (F24_ok a d) fun ⟨z⟩ => .auto 4 <| .ask E84 (F84_ok a d) fun ⟨d0⟩ => .auto 2 <| .testB (z != d0) (fun h5 => .auto 9 <| .ret .e0) (fun h5 => .auto 4 <| .ask E86 (F86_ok a l) fun ⟨p, q⟩ => .auto 5 <| .ask E87 (F87_ok a l) fun ⟨s, t⟩ => .auto 1 <| .test (0 + p ≤ List.length q) (fun h6 => .test (0 + s ≤ List.length t) (fun h7 => .ask E85 (F85_ok (List.take p q) (List.take s t)) fun ⟨d1⟩ => .auto 2 <| .testB (!d1) (fun h8 => .ret .e0) (fun h8 => .ret (.s0 (.mk d m o (w64 (j + 1)) l)))) (fun _ => .fail)) (fun _ => .fail)))))) (fun _ => .fail)) (fun h0 => .ret .e1)
noncomputable def L29_2 := E29_2.loop fun | .s0 x => D29_2 x | _ => .fail
theorem L29_2_ok : LU 29 0 B29 2 E29_2 L29_2 :=
  lk (L := notIn []) (fun b hb => by cases b <;> first | (cases hb; done) | (rename_i x; cases x; intro x; kernel_rfl) | (intro x; kernel_rfl))
noncomputable def N29_2.nx (n : Nat) : N29_2 → Option N29_2 | .s0 x => L29_2 n (.s0 x) | .e0 => some .e0 | .e1 => some .e1
theorem L29_2_s0 (n : Nat) (x : T29_2s0) : L29_2 (n + 1) (.s0 x) = (D29_2 x).ev (N29_2.nx n) := Ent.loop_eq fun c => by cases c <;> rfl
inductive T29_0s0 where
  | mk (a d : Int) (f : LV) (i : W59)
inductive T29_0e1 where
  | mk (a : Int) (d : LV) (f : W59)
inductive N29_0 where
  | s0 (x : T29_0s0)
  | e0
  | e1 (x : T29_0e1)
abbrev N29_0.out : N29_0 → VX × S
  | .s0 (.mk a d f i) => (vN, S.mk (U :: i64 a :: U :: pT 0 :: U :: pT 1 :: U :: i64 d :: un 70 []) [oF 1 [[lS 50 f]], oF 6 [W59.cells i]])
  | .e0 => (VX.ret, S.mk (un 6 (vb false :: un 71 [])) [])
  | .e1 (.mk j l m) => (vX 0, S.mk (U :: i64 j :: U :: pT 0 :: U :: pT 1 :: un 72 []) [oF 1 [[lS 50 l]], oF 6 [W59.cells m]])
abbrev E29_0 := Ent.o3 N29_0.out .s0 (fun (_ : Unit) => .e0) .e1 (fun b => by cases b <;> simp)
noncomputable def D29_0 : T29_0s0 → PT N29_0 | .mk i j f l => .auto 1 <| .test (j ≤ (f.length : Int)) (fun h0 => .auto 1 <| .ask E27 (F27_ok f j i) fun ⟨a⟩ => .auto 1 <| .ask E80 (F80_ok f j i) fun ⟨d⟩ => .testB (!(a.c0 == d.c0 && (a.c1 == d.c1 && (a.c2 == d.c2 && (a.c3 == d.c3 && (a.c4 == d.c4 && (a.c5 == d.c5 && true))))))) (fun h1 => .ret .e0) (fun h1 => .ret (.s0 (.mk i (w64 (j + 1)) f l)))) (fun h0 => .ret (.e1 (.mk i f l)))
noncomputable def L29_0 := E29_0.loop fun | .s0 x => D29_0 x | _ => .fail
theorem L29_0_ok : LU 29 0 B29 0 E29_0 L29_0 :=
  lk (L := notIn []) (fun b hb => by cases b <;> first | (cases hb; done) | (rename_i x; cases x; intro x; kernel_rfl) | (intro x; kernel_rfl))
noncomputable def N29_0.nx (n : Nat) : N29_0 → Option N29_0 | .s0 x => L29_0 n (.s0 x) | .e0 => some .e0 | .e1 x => some (.e1 x)
theorem L29_0_s0 (n : Nat) (x : T29_0s0) : L29_0 (n + 1) (.s0 x) = (D29_0 x).ev (N29_0.nx n) := Ent.loop_eq fun c => by cases c <;> rfl
noncomputable def D29 (d : LV) (f : Int) (i : W59) : PT A29 := .cut E29_0 (L29_0_ok (.s0 (.mk f (-1) d i)) rfl) fun | .e0 => .ret (.a0 false) | .e1 (.mk j a l) => (.auto 1 <| .cut E29_2 (L29_2_ok (.s0 (.mk j a ((a.length : Int)) 0 l)) rfl) fun | .e0 => .ret (.a0 false) | .e1 => .ret (.a0 true) | _ => .fail) | _ => .fail
noncomputable def F29 (a : LV) (d : Int) (f : W59) : Option A29 := (D29 a d f).ev some
theorem F29_ok (a : LV) (d : Int) (f : W59) : FU E29 (F29 a d f) 29 [V.agg [lS 50 a], i64 d, V.agg (W59.cells f)] := fu rfl rfl fun x => by kernel_rfl
/-! ## F124 -/
noncomputable abbrev B124 : Code := (Tryz.f124.body).getD .skip
inductive T124_0s0 where
  | mk (a : LV) (d : Int) (f : Nat) (i : LV)
inductive T124_0e0 where
  | mk (a : Nat) (d : LV)
inductive N124_0 where
  | s0 (x : T124_0s0)
  | e0 (x : T124_0e0)
abbrev N124_0.out : N124_0 → VX × S
  | .s0 (.mk a d f i) => (vN, S.mk (lS 2 a :: U :: pT 0 :: pT 1 :: i64 d :: un 34 []) [oF 2 [[vb false, hS 2 0]], oF 2 [[vb true, hS 3 f]], oT 2 [], oT 2 i])
  | .e0 (.mk j l) => (vX 0, S.mk (U :: U :: pT 0 :: pT 1 :: un 35 []) [oF 2 [[vb false, hS 2 0]], oF 2 [[vb true, hS 3 j]], oT 2 [], oT 2 l])
abbrev E124_0 := Ent.o2 N124_0.out .s0 .e0 (fun b => by cases b <;> simp)
noncomputable def D124_0 : T124_0s0 → PT N124_0 | .mk a d f j => .test (d < (a.length : Int)) (fun h0 => .test (0 ≤ d) (fun h1 => .look RW28 (a[Int.toNat d]?) fun l => .test ((a.length : Int) = 0) (fun _ => .fail) (fun h2 => .test (0 ≤ Int.tmod (w64 (d + 1)) (a.length : Int)) (fun h3 => .look RW28 (a[Int.toNat (Int.tmod (w64 (d + (1 : Int))) (a.length : Int))]?) fun i => .auto 7 <| .test (0 + f ≤ List.length j ∧ (f + 3) * 16 ≤ 140737488355328 ∧ f + 3 ≤ 140737488355328) (fun h4 => .auto 1 <| .ret (.s0 (.mk a (w64 (d + 1)) (f + 3) (List.take f j ++ [[i64 l.c0, i64 l.c1], [i64 i.c0, i64 i.c1], [i64 i.c0, i64 i.c1]])))) (fun _ => .fail)) (fun _ => .fail))) (fun _ => .fail)) (fun h0 => .ret (.e0 (.mk f j)))
noncomputable def L124_0 := E124_0.loop fun | .s0 x => D124_0 x | _ => .fail
theorem L124_0_ok : LU 124 0 B124 0 E124_0 L124_0 :=
  lk (L := notIn []) (fun b hb => by cases b <;> first | (cases hb; done) | (rename_i x; cases x; intro x; kernel_rfl) | (intro x; kernel_rfl))
noncomputable def N124_0.nx (n : Nat) : N124_0 → Option N124_0 | .s0 x => L124_0 n (.s0 x) | .e0 x => some (.e0 x)
theorem L124_0_s0 (n : Nat) (x : T124_0s0) : L124_0 (n + 1) (.s0 x) = (D124_0 x).ev (N124_0.nx n) := Ent.loop_eq fun c => by cases c <;> rfl
noncomputable def D124 (a : LV) : PT A124 := .auto 1 <| .look RW28 (a[(0 : Nat)]?) fun d => .auto 1 <| .cut E124_0 (L124_0_ok (.s0 (.mk a 0 1 ([[i64 d.c0, i64 d.c1]]))) rfl) fun | .e0 (.mk f i) => (.auto 2 <| .ret (.a0 true f i)) | _ => .fail
noncomputable def F124 (a : LV) : Option A124 := (D124 a).ev some
theorem F124_ok (a : LV) : FU E124 (F124 a) 124 [lS 2 a] := fu rfl rfl fun x => by kernel_rfl
/-! ## F64 -/
noncomputable def D64 (a d : Int) : PT A64 := .auto 3 <| .ask E124 (F124_ok ([[i64 (w64 (0 - Int.fdiv a 2)), i64 (w64 (0 - Int.fdiv d 2))], [i64 (w64 (a + w64 (0 - Int.fdiv a 2))), i64 (w64 (0 - Int.fdiv d 2))], [i64 (w64 (a + w64 (0 - Int.fdiv a 2))), i64 (w64 (d + w64 (0 - Int.fdiv d 2)))], [i64 (w64 (0 - Int.fdiv a 2)), i64 (w64 (d + w64 (0 - Int.fdiv d 2)))]])) fun ⟨f, i, j⟩ => .auto 1 <| .ret (.a0 f i j)
noncomputable def F64 (a d : Int) : Option A64 := (D64 a d).ev some
theorem F64_ok (a d : Int) : FU E64 (F64 a d) 64 [i64 a, i64 d] := fu rfl rfl fun x => by kernel_rfl
/-! ## F66 -/
noncomputable def D66 (a d : Int) : PT A66 := .auto 2 <| .ask E126 (F126_ok (Int.fdiv a 2) 36195) fun ⟨f⟩ => .ask E126 (F126_ok (Int.fdiv d 2) 36195) fun ⟨i⟩ => .auto 1 <| .ret (.a0 true 13 ([[i64 (Int.fdiv a 2), i64 0], [i64 (Int.fdiv a 2), i64 i], [i64 f, i64 (Int.fdiv d 2)], [i64 0, i64 (Int.fdiv d 2)], [i64 (w64 (0 - f)), i64 (Int.fdiv d 2)], [i64 (w64 (0 - Int.fdiv a 2)), i64 i], [i64 (w64 (0 - Int.fdiv a 2)), i64 0], [i64 (w64 (0 - Int.fdiv a 2)), i64 (w64 (0 - i))], [i64 (w64 (0 - f)), i64 (w64 (0 - Int.fdiv d 2))], [i64 0, i64 (w64 (0 - Int.fdiv d 2))], [i64 f, i64 (w64 (0 - Int.fdiv d 2))], [i64 (Int.fdiv a 2), i64 (w64 (0 - i))], [i64 (Int.fdiv a 2), i64 0]]))
noncomputable def F66 (a d : Int) : Option A66 := (D66 a d).ev some
theorem F66_ok (a d : Int) : FU E66 (F66 a d) 66 [i64 a, i64 d] := fu rfl rfl fun x => by kernel_rfl
/-! ## F68 -/
noncomputable abbrev B68 : Code := (Tryz.f68.body).getD .skip
inductive T68_c29s0 where
  | mk (a d f : Int) (i : Nat) (j l : Int) (m : Bool) (o : LV)
abbrev T68_c29s0.st : T68_c29s0 → S
  | .mk d a f i j l m o => S.mk (i64 d :: i64 a :: i64 f :: U :: U :: U :: pT 0 :: hS 1 i :: i64 j :: i64 l :: i64 a :: un 18 (vb m :: un 15 [])) [oF 2 [[vb false, hS 2 0]], oT 2 o, oT 2 []]
inductive T68_c29e0 where
  | mk (a d f : Int) (i : Nat) (j l m : Int) (o : LV)
inductive N68_c29 where
  | e0 (x : T68_c29e0)
abbrev N68_c29.out : N68_c29 → VX × S
  | .e0 (.mk a d f i j l m o) => (vN, S.mk (i64 a :: i64 d :: i64 f :: U :: U :: U :: pT 0 :: hS 1 i :: i64 j :: i64 l :: i64 m :: un 34 []) [oF 2 [[vb false, hS 2 0]], oT 2 o, oT 2 []])
abbrev E68_c29 := Ent.o1 N68_c29.out .e0 fun ⟨x⟩ => ⟨x, rfl⟩
noncomputable def D68_c29 : T68_c29s0 → PT N68_c29 | .mk f a d i j l o m => .testB o (fun h0 => .ret (.e0 (.mk f a d i j l d m))) (fun h0 => .ret (.e0 (.mk f a d i j l a m)))
noncomputable def J68_c29 (y : T68_c29s0) : Option N68_c29 := (D68_c29 y).ev some
theorem J68_c29_ok (y : T68_c29s0) : CU 68 0 B68 29 E68_c29 (J68_c29 y) y.st := by
  cases y; exact cond_ok (L := notIn []) fun x => by kernel_rfl
inductive T68_0s0 where
  | mk (a d f : Int) (i : Nat) (j : Int) (l : LV)
inductive T68_0e0 where
  | mk (a : Nat) (d : LV)
inductive N68_0 where
  | s0 (x : T68_0s0)
  | e0 (x : T68_0e0)
abbrev N68_0.out : N68_0 → VX × S
  | .s0 (.mk a d f i j l) => (vN, S.mk (i64 a :: i64 d :: i64 f :: U :: U :: U :: pT 0 :: hS 1 i :: i64 j :: un 36 []) [oF 2 [[vb false, hS 2 0]], oT 2 l, oT 2 []])
  | .e0 (.mk m o) => (vX 0, S.mk (un 6 (pT 0 :: hS 1 m :: un 37 [])) [oF 2 [[vb false, hS 2 0]], oT 2 o, oT 2 []])
abbrev E68_0 := Ent.o2 N68_0.out .s0 .e0 (fun b => by cases b <;> simp)
noncomputable def D68_0 : T68_0s0 → PT N68_0 | .mk d p q i f j => .test (f < w64 (2 * d)) (fun h0 => .test (d = 0) (fun _ => .fail) (fun h1 => .auto 1 <| .cut E68_c29 (J68_c29_ok (.mk d p q i f (w64 (w64 (Int.tdiv (w64 (w64 (f * 180) * 65536)) d) - 5898240)) (Int.tmod f 2 == 1) j)) fun | .e0 (.mk s t u a v l m o) => .ask E129 (F129_ok l) fun ⟨w⟩ => .ask E126 (F126_ok m w) fun ⟨y⟩ => .ask E130 (F130_ok l) fun ⟨z⟩ => .ask E126 (F126_ok m z) fun ⟨d0⟩ => .auto 1 <| .test (0 + a ≤ List.length o ∧ (a + 1) * 16 ≤ 140737488355328 ∧ a + 1 ≤ 140737488355328) (fun h2 => .ret (.s0 (.mk s t u (a + 1) (w64 (v + 1)) (List.take a o ++ [[i64 y, i64 d0]])))) (fun _ => .fail))) (fun h0 => .ret (.e0 (.mk i j)))
noncomputable def L68_0 := E68_0.loop fun | .s0 x => D68_0 x | _ => .fail
theorem L68_0_ok : LU 68 0 B68 0 E68_0 L68_0 :=
  lk (L := notIn []) (fun b hb => by cases b <;> first | (cases hb; done) | (rename_i x; cases x; intro x; kernel_rfl) | (intro x; kernel_rfl))
noncomputable def N68_0.nx (n : Nat) : N68_0 → Option N68_0 | .s0 x => L68_0 n (.s0 x) | .e0 x => some (.e0 x)
theorem L68_0_s0 (n : Nat) (x : T68_0s0) : L68_0 (n + 1) (.s0 x) = (D68_0 x).ev (N68_0.nx n) := Ent.loop_eq fun c => by cases c <;> rfl
noncomputable def D68 (a i j : Int) : PT A68 := .cut E68_0 (L68_0_ok (.s0 (.mk (if 2 > if 16 < a then 16 else a then 2 else if 16 < a then 16 else a) i j 0 0 ([]))) rfl) fun | .e0 (.mk d f) => (.test (0 + d ≤ List.length f) (fun h0 => .ask E124 (F124_ok (List.take d f)) fun ⟨l, m, o⟩ => .auto 1 <| .ret (.a0 l m o)) (fun _ => .fail)) | _ => .fail
noncomputable def F68 (a d f : Int) : Option A68 := (D68 a d f).ev some
theorem F68_ok (a d f : Int) : FU E68 (F68 a d f) 68 [i64 a, i64 d, i64 f] := fu rfl rfl fun x => by kernel_rfl
/-! ## F120 -/
noncomputable def D120 (a : Bool) (d : LV) (f : Bool) (i : LV) : PT Bool := .auto 2 <| .testB ((d.length : Int) == (i.length : Int)) (fun h0 => .auto 7 <| .ret (a == f)) (fun h0 => .auto 5 <| .ret false)
abbrev O120 (a : Bool) : V × Store := (vb a, [])
noncomputable def F120 (a : Bool) (d : LV) (f : Bool) (i : LV) : Bool := (D120 a d f i).evT
theorem F120_ok (a : Bool) (d : LV) (f : Bool) (i : LV) : UU 120 ([V.agg [vb a, lS 2 d], V.agg [vb f, lS 2 i]]) ([]) = some (O120 (F120 a d f i)) :=
  fnT_ok (out := O120) (L := notIn []) rfl rfl (fun x => by kernel_rfl) (by simp [D120, PT.isT])
/-! ## F176 -/
noncomputable abbrev B176 : Code := (Tryz.f176.body).getD .skip
inductive T176_0s0 where
  | mk (a d : Int) (f : Bool) (i : LV) (j : Bool) (l : LV) (m : Nat) (o : LV)
inductive T176_0e0 where
  | mk (a : Bool) (d : Nat) (f : LV)
inductive N176_0 where
  | s0 (x : T176_0s0)
  | e0 (x : T176_0e0)
abbrev N176_0.out : N176_0 → VX × S
  | .s0 (.mk d f a i j l m o) => (vN, S.mk (U :: U :: i64 d :: pT 0 :: pT 1 :: U :: pT 2 :: pT 3 :: i64 f :: un 47 []) [oF 2 [[vb a, lS 2 i]], oF 2 [[vb j, lS 2 l]], oF 2 [[vb false, hS 4 0]], oF 2 [[vb a, hS 5 m]], oT 2 [], oT 2 o])
  | .e0 (.mk p q s) => (vX 0, S.mk (un 6 (pT 0 :: pT 1 :: un 48 [])) [oF 2 [[vb false, hS 2 0]], oF 2 [[vb p, hS 3 q]], oT 2 [], oT 2 s])
abbrev E176_0 := Ent.o2 N176_0.out .s0 .e0 (fun b => by cases b <;> simp)
noncomputable def D176_0 : T176_0s0 → PT N176_0 | .mk l d m f p i a j => .auto 1 <| .test (d < (f.length : Int)) (fun h0 => .auto 1 <| .test (0 ≤ d) (fun h1 => .look RW28 (f[Int.toNat d]?) fun o => .auto 3 <| .tot O120 (F120_ok m f p i) fun q => .testB q (fun h2 => .auto 2 <| .known (decide_eq_true h1) <| .look RW28 (i[Int.toNat d]?) fun s => .ask E173 (F173_ok o.c0 s.c0 l) fun ⟨t⟩ => .auto 2 <| .known (decide_eq_true h1) <| .look RW28 (i[Int.toNat d]?) fun u => .ask E173 (F173_ok o.c1 u.c1 l) fun ⟨v⟩ => .auto 4 <| .test (0 + a ≤ List.length j ∧ (a + 1) * 16 ≤ 140737488355328 ∧ a + 1 ≤ 140737488355328) (fun h3 => .auto 1 <| .ret (.s0 (.mk l (w64 (d + 1)) m f p i (a + 1) (List.take a j ++ [[i64 t, i64 v]])))) (fun _ => .fail)) (fun h2 => .auto 3 <| .test (0 + a ≤ List.length j ∧ (a + 1) * 16 ≤ 140737488355328 ∧ a + 1 ≤ 140737488355328) (fun h3 => .auto 1 <| .ret (.s0 (.mk l (w64 (d + 1)) m f p i (a + 1) (List.take a j ++ [[i64 o.c0, i64 o.c1]])))) (fun _ => .fail))) (fun _ => .fail)) (fun h0 => .ret (.e0 (.mk m a j)))
noncomputable def L176_0 := E176_0.loop fun | .s0 x => D176_0 x | _ => .fail
theorem L176_0_ok : LU 176 0 B176 0 E176_0 L176_0 :=
  lk (L := notIn []) (fun b hb => by cases b <;> first | (cases hb; done) | (rename_i x; cases x; intro x; kernel_rfl) | (intro x; kernel_rfl))
noncomputable def N176_0.nx (n : Nat) : N176_0 → Option N176_0 | .s0 x => L176_0 n (.s0 x) | .e0 x => some (.e0 x)
theorem L176_0_s0 (n : Nat) (x : T176_0s0) : L176_0 (n + 1) (.s0 x) = (D176_0 x).ev (N176_0.nx n) := Ent.loop_eq fun c => by cases c <;> rfl
noncomputable def D176 (a : Bool) (d : LV) (f : Bool) (i : LV) (j : Int) : PT A176 := .auto 2 <| .cut E176_0 (L176_0_ok (.s0 (.mk j 0 a d f i 0 ([]))) rfl) fun | .e0 (.mk l m o) => (.auto 2 <| .ret (.a0 l m o)) | _ => .fail
noncomputable def F176 (a : Bool) (d : LV) (f : Bool) (i : LV) (j : Int) : Option A176 := (D176 a d f i j).ev some
theorem F176_ok (a : Bool) (d : LV) (f : Bool) (i : LV) (j : Int) : FU E176 (F176 a d f i j) 176 [V.agg [vb a, lS 2 d], V.agg [vb f, lS 2 i], i64 j] := fu rfl rfl fun x => by kernel_rfl
/-! ## F111 -/
noncomputable abbrev B111 : Code := (Tryz.f111.body).getD .skip
inductive T111_0s0 where
  | mk (a : LV) (d f i : Int)
inductive T111_0e0 where
  | mk (a : LV) (d f : Int)
inductive N111_0 where
  | s0 (x : T111_0s0)
  | e0 (x : T111_0e0)
abbrev N111_0.out : N111_0 → VX × S
  | .s0 (.mk a d f i) => (vN, S.mk (lS 8 a :: i64 d :: U :: U :: pT 0 :: i64 f :: i64 i :: un 81 []) [oF 2 [[vb false, hS 1 0]], oT 2 []])
  | .e0 (.mk j l m) => (vX 0, S.mk (lS 8 j :: i64 l :: U :: U :: pT 0 :: i64 m :: un 82 []) [oF 2 [[vb false, hS 1 0]], oT 2 []])
abbrev E111_0 := Ent.o2 N111_0.out .s0 .e0 (fun b => by cases b <;> simp)
noncomputable def D111_0 : T111_0s0 → PT N111_0 | .mk d f i a => .test (a < (d.length : Int)) (fun h0 => .test (0 ≤ a) (fun h1 => .look RW100 (d[Int.toNat a]?) fun j => .test (j.c0 ≤ f) (fun h2 => .ret (.s0 (.mk d f a (w64 (a + 1))))) (fun h2 => .ret (.s0 (.mk d f i (w64 (a + 1)))))) (fun _ => .fail)) (fun h0 => .ret (.e0 (.mk d f i)))
noncomputable def L111_0 := E111_0.loop fun | .s0 x => D111_0 x | _ => .fail
theorem L111_0_ok : LU 111 0 B111 0 E111_0 L111_0 :=
  lk (L := notIn []) (fun b hb => by cases b <;> first | (cases hb; done) | (rename_i x; cases x; intro x; kernel_rfl) | (intro x; kernel_rfl))
noncomputable def N111_0.nx (n : Nat) : N111_0 → Option N111_0 | .s0 x => L111_0 n (.s0 x) | .e0 x => some (.e0 x)
theorem L111_0_s0 (n : Nat) (x : T111_0s0) : L111_0 (n + 1) (.s0 x) = (D111_0 x).ev (N111_0.nx n) := Ent.loop_eq fun c => by cases c <;> rfl
noncomputable def D111 (i : LV) (s : Int) : PT A111 := .testB ((i.length : Int) == 0) (fun h0 => .auto 1 <| .ret (.a0 false 0 ([]))) (fun h0 => .cut E111_0 (L111_0_ok (.s0 (.mk i s (-1) 0)) rfl) fun | .e0 (.mk d t a) => (.test (a < 0) (fun h1 => .auto 1 <| .look RW100 (d[(0 : Nat)]?) fun j => .auto 1 <| .look RW100 (d[(0 : Nat)]?) fun l => .ask E176 (F176_ok j.c1 j.c2 l.c1 l.c2 0) fun ⟨u, v, w⟩ => .auto 1 <| .ret (.a0 u v w)) (fun h1 => .testB (a == w64 ((d.length : Int) - 1)) (fun h2 => .test (0 ≤ a) (fun h3 => .look RW100 (d[Int.toNat a]?) fun m => .known (decide_eq_true h3) <| .look RW100 (d[Int.toNat a]?) fun o => .ask E176 (F176_ok m.c1 m.c2 o.c1 o.c2 0) fun ⟨y, z, d0⟩ => .auto 1 <| .ret (.a0 y z d0)) (fun _ => .fail)) (fun h2 => .test (0 ≤ a) (fun h3 => .look RW100 (d[Int.toNat a]?) fun p => .test (0 ≤ w64 (a + 1)) (fun h4 => .look RW100 (d[Int.toNat (w64 (a + (1 : Int)))]?) fun q => .known (decide_eq_true h3) <| .look RW100 (d[Int.toNat a]?) fun d1 => .known (decide_eq_true h3) <| .look RW100 (d[Int.toNat a]?) fun f => .known (decide_eq_true h3) <| .look RW100 (d[Int.toNat a]?) fun d2 => .known (decide_eq_true h4) <| .look RW100 (d[Int.toNat (w64 (a + (1 : Int)))]?) fun d3 => .ask E175 (F175_ok d2.c0 d3.c0 t) fun ⟨d4⟩ => .ask E174 (F174_ok d1.c3 f.c4 f.c5 f.c6 f.c7 d4) fun ⟨d5⟩ => .ask E176 (F176_ok p.c1 p.c2 q.c1 q.c2 d5) fun ⟨d6, d7, d8⟩ => .auto 1 <| .ret (.a0 d6 d7 d8)) (fun _ => .fail)) (fun _ => .fail)))) | _ => .fail)
noncomputable def F111 (a : LV) (d : Int) : Option A111 := (D111 a d).ev some
theorem F111_ok (a : LV) (d : Int) : FU E111 (F111 a d) 111 [lS 8 a, i64 d] := fu rfl rfl fun x => by kernel_rfl
/-! ## F52 -/
noncomputable def D52 (a : W34) (d : Int) : PT A52 := .auto 1 <| .ask E110 (F110_ok a.c2 d 0) fun ⟨f⟩ => .auto 1 <| .ask E110 (F110_ok a.c3 d 0) fun ⟨i⟩ => .auto 1 <| .testB (a.c0 == 0) (fun h0 => .ask E64 (F64_ok f i) fun ⟨j, l, m⟩ => .auto 1 <| .ret (.a0 j l m)) (fun h0 => .testB (a.c0 == 1) (fun h1 => .ask E66 (F66_ok f i) fun ⟨o, p, q⟩ => .auto 1 <| .ret (.a0 o p q)) (fun h1 => .testB (a.c0 == 2) (fun h2 => .auto 1 <| .ask E68 (F68_ok a.c1 f i) fun ⟨s, t, u⟩ => .auto 1 <| .ret (.a0 s t u)) (fun h2 => .testB (a.c0 == 3) (fun h3 => .auto 1 <| .ask E111 (F111_ok a.c4 d) fun ⟨v, w, y⟩ => .auto 1 <| .ret (.a0 v w y)) (fun h3 => .auto 1 <| .ret (.a0 false 0 ([]))))))
noncomputable def F52 (a : W34) (d : Int) : Option A52 := (D52 a d).ev some
theorem F52_ok (a : W34) (d : Int) : FU E52 (F52 a d) 52 [V.agg (W34.cells a), i64 d] := fu rfl rfl fun x => by kernel_rfl
/-! ## F274 -/
noncomputable abbrev B274 : Code := (Tryz.f274.body).getD .skip
inductive T274_0s0 where
  | mk (a d f : Int)
inductive T274_0e0 where
  | mk (a : Int)
inductive N274_0 where
  | s0 (x : T274_0s0)
  | e0 (x : T274_0e0)
abbrev N274_0.out : N274_0 → VX × S
  | .s0 (.mk a d f) => (vN, S.mk (V.int IntKind.u64 a :: U :: U :: V.int IntKind.u64 d :: V.int IntKind.u64 f :: un 17 []) [])
  | .e0 (.mk i) => (vX 0, S.mk (U :: U :: U :: V.int IntKind.u64 i :: un 18 []) [])
abbrev E274_0 := Ent.o2 N274_0.out .s0 .e0 (fun b => by cases b <;> simp)
noncomputable def D274_0 : T274_0s0 → PT N274_0 | .mk f d a => .test (a > 0) (fun h0 => .test (IntKind.wrap IntKind.u64 (IntKind.wrap IntKind.u64 (d + a) * IntKind.wrap IntKind.u64 (d + a)) ≤ f) (fun h1 => .auto 1 <| .ret (.s0 (.mk f (IntKind.wrap IntKind.u64 (d + a)) (IntKind.wrap IntKind.u64 (Int.tdiv a 2))))) (fun h1 => .auto 1 <| .ret (.s0 (.mk f d (IntKind.wrap IntKind.u64 (Int.tdiv a 2)))))) (fun h0 => .ret (.e0 (.mk d)))
noncomputable def L274_0 := E274_0.loop fun | .s0 x => D274_0 x | _ => .fail
theorem L274_0_ok : LU 274 0 B274 0 E274_0 L274_0 :=
  lk (L := notIn []) (fun b hb => by cases b <;> first | (cases hb; done) | (rename_i x; cases x; intro x; kernel_rfl) | (intro x; kernel_rfl))
noncomputable def N274_0.nx (n : Nat) : N274_0 → Option N274_0 | .s0 x => L274_0 n (.s0 x) | .e0 x => some (.e0 x)
theorem L274_0_s0 (n : Nat) (x : T274_0s0) : L274_0 (n + 1) (.s0 x) = (D274_0 x).ev (N274_0.nx n) := Ent.loop_eq fun c => by cases c <;> rfl
noncomputable def D274 (a : Int) : PT A274 := .cut E274_0 (L274_0_ok (.s0 (.mk a 0 2147483648)) rfl) fun | .e0 (.mk d) => .ret (.a0 d) | _ => .fail
noncomputable def F274 (a : Int) : Option A274 := (D274 a).ev some
theorem F274_ok (a : Int) : FU E274 (F274 a) 274 [V.int IntKind.u64 a] := fu rfl rfl fun x => by kernel_rfl
/-! ## F244 -/
noncomputable def D244 (f i : Int) : PT A244 := .tot O145 (F145_ok f (-1073741824) 1073741824) fun a => .tot O145 (F145_ok i (-1073741824) 1073741824) fun d => .ask E274 (F274_ok (IntKind.wrap IntKind.u64 (IntKind.wrap IntKind.u64 (w64 (a * a)) + IntKind.wrap IntKind.u64 (w64 (d * d))))) fun ⟨j⟩ => .ret (.a0 (w64 j))
noncomputable def F244 (a d : Int) : Option A244 := (D244 a d).ev some
theorem F244_ok (a d : Int) : FU E244 (F244 a d) 244 [i64 a, i64 d] := fu rfl rfl fun x => by kernel_rfl
/-! ## F202 -/
noncomputable def D202 (a : W59) : PT A202 := .auto 2 <| .ask E244 (F244_ok a.c0 a.c1) fun ⟨d⟩ => .ret (.a0 d)
noncomputable def F202 (a : W59) : Option A202 := (D202 a).ev some
theorem F202_ok (a : W59) : FU E202 (F202 a) 202 [V.agg (W59.cells a)] := fu rfl rfl fun x => by kernel_rfl
/-! ## F150 -/
noncomputable def D150 (a : W59) (d f i j l m o p q s t u v w : Int) : PT A150 := .auto 2 <| .ask E201 (F201_ok a s t) fun ⟨y, z⟩ => .auto 2 <| .ask E201 (F201_ok a u v) fun ⟨d0, d1⟩ => .auto 4 <| .ask E202 (F202_ok a) fun ⟨d2⟩ => .ask E126 (F126_ok w d2) fun ⟨d3⟩ => .auto 3 <| .ret (.a0 d f i j l m o p q y z d0 d1 d3)
noncomputable def F150 (a : W59) (d f i j l m o p q s t u v w : Int) : Option A150 := (D150 a d f i j l m o p q s t u v w).ev some
theorem F150_ok (a : W59) (d f i j l m o p q s t u v w : Int) : FU E150 (F150 a d f i j l m o p q s t u v w) 150 [V.agg (W59.cells a), V.agg [i64 d, u8 f, u8 i, u8 j, u8 l, u8 m, u8 o, u8 p, u8 q, i64 s, i64 t, i64 u, i64 v, i64 w]] := fu rfl rfl fun x => by kernel_rfl
/-! ## F203 -/
noncomputable def D203 (q l i d w p j f d6 : Int) : PT A203 := .tot O186 (F186_ok d6) fun a => .auto 5 <| .test (Int.tmod (w64 (w64 (w64 w - w64 q) * a)) 65536 < 0) (fun h0 => .auto 1 <| .tot O145 (F145_ok (w64 (w64 q + w64 (w64 (Int.tdiv (w64 (w64 (w64 w - w64 q) * a)) 65536) - 1))) 0 255) fun m => .auto 6 <| .test (Int.tmod (w64 (w64 (w64 p - w64 l) * a)) 65536 < 0) (fun h1 => .auto 1 <| .tot O145 (F145_ok (w64 (w64 l + w64 (w64 (Int.tdiv (w64 (w64 (w64 p - w64 l) * a)) 65536) - 1))) 0 255) fun s => .auto 6 <| .test (Int.tmod (w64 (w64 (w64 j - w64 i) * a)) 65536 < 0) (fun h2 => .auto 1 <| .tot O145 (F145_ok (w64 (w64 i + w64 (w64 (Int.tdiv (w64 (w64 (w64 j - w64 i) * a)) 65536) - 1))) 0 255) fun y => .auto 6 <| .test (Int.tmod (w64 (w64 (w64 f - w64 d) * a)) 65536 < 0) (fun h3 => .auto 1 <| .tot O145 (F145_ok (w64 (w64 d + w64 (w64 (Int.tdiv (w64 (w64 (w64 f - w64 d) * a)) 65536) - 1))) 0 255) fun d7 => .auto 4 <| .ret (.a0 (IntKind.wrap IntKind.u8 m) (IntKind.wrap IntKind.u8 s) (IntKind.wrap IntKind.u8 y) (IntKind.wrap IntKind.u8 d7))) (fun h3 => .auto 1 <| .tot O145 (F145_ok (w64 (w64 d + w64 (Int.tdiv (w64 (w64 (w64 f - w64 d) * a)) 65536))) 0 255) fun d8 => .auto 4 <| .ret (.a0 (IntKind.wrap IntKind.u8 m) (IntKind.wrap IntKind.u8 s) (IntKind.wrap IntKind.u8 y) (IntKind.wrap IntKind.u8 d8)))) (fun h2 => .auto 1 <| .tot O145 (F145_ok (w64 (w64 i + w64 (Int.tdiv (w64 (w64 (w64 j - w64 i) * a)) 65536))) 0 255) fun z => .auto 6 <| .test (Int.tmod (w64 (w64 (w64 f - w64 d) * a)) 65536 < 0) (fun h3 => .auto 1 <| .tot O145 (F145_ok (w64 (w64 d + w64 (w64 (Int.tdiv (w64 (w64 (w64 f - w64 d) * a)) 65536) - 1))) 0 255) fun d9 => .auto 4 <| .ret (.a0 (IntKind.wrap IntKind.u8 m) (IntKind.wrap IntKind.u8 s) (IntKind.wrap IntKind.u8 z) (IntKind.wrap IntKind.u8 d9))) (fun h3 => .auto 1 <| .tot O145 (F145_ok (w64 (w64 d + w64 (Int.tdiv (w64 (w64 (w64 f - w64 d) * a)) 65536))) 0 255) fun f0 => .auto 4 <| .ret (.a0 (IntKind.wrap IntKind.u8 m) (IntKind.wrap IntKind.u8 s) (IntKind.wrap IntKind.u8 z) (IntKind.wrap IntKind.u8 f0))))) (fun h1 => .auto 1 <| .tot O145 (F145_ok (w64 (w64 l + w64 (Int.tdiv (w64 (w64 (w64 p - w64 l) * a)) 65536))) 0 255) fun t => .auto 6 <| .test (Int.tmod (w64 (w64 (w64 j - w64 i) * a)) 65536 < 0) (fun h2 => .auto 1 <| .tot O145 (F145_ok (w64 (w64 i + w64 (w64 (Int.tdiv (w64 (w64 (w64 j - w64 i) * a)) 65536) - 1))) 0 255) fun d0 => .auto 6 <| .test (Int.tmod (w64 (w64 (w64 f - w64 d) * a)) 65536 < 0) (fun h3 => .auto 1 <| .tot O145 (F145_ok (w64 (w64 d + w64 (w64 (Int.tdiv (w64 (w64 (w64 f - w64 d) * a)) 65536) - 1))) 0 255) fun f1 => .auto 4 <| .ret (.a0 (IntKind.wrap IntKind.u8 m) (IntKind.wrap IntKind.u8 t) (IntKind.wrap IntKind.u8 d0) (IntKind.wrap IntKind.u8 f1))) (fun h3 => .auto 1 <| .tot O145 (F145_ok (w64 (w64 d + w64 (Int.tdiv (w64 (w64 (w64 f - w64 d) * a)) 65536))) 0 255) fun f2 => .auto 4 <| .ret (.a0 (IntKind.wrap IntKind.u8 m) (IntKind.wrap IntKind.u8 t) (IntKind.wrap IntKind.u8 d0) (IntKind.wrap IntKind.u8 f2)))) (fun h2 => .auto 1 <| .tot O145 (F145_ok (w64 (w64 i + w64 (Int.tdiv (w64 (w64 (w64 j - w64 i) * a)) 65536))) 0 255) fun d1 => .auto 6 <| .test (Int.tmod (w64 (w64 (w64 f - w64 d) * a)) 65536 < 0) (fun h3 => .auto 1 <| .tot O145 (F145_ok (w64 (w64 d + w64 (w64 (Int.tdiv (w64 (w64 (w64 f - w64 d) * a)) 65536) - 1))) 0 255) fun f3 => .auto 4 <| .ret (.a0 (IntKind.wrap IntKind.u8 m) (IntKind.wrap IntKind.u8 t) (IntKind.wrap IntKind.u8 d1) (IntKind.wrap IntKind.u8 f3))) (fun h3 => .auto 1 <| .tot O145 (F145_ok (w64 (w64 d + w64 (Int.tdiv (w64 (w64 (w64 f - w64 d) * a)) 65536))) 0 255) fun f4 => .auto 4 <| .ret (.a0 (IntKind.wrap IntKind.u8 m) (IntKind.wrap IntKind.u8 t) (IntKind.wrap IntKind.u8 d1) (IntKind.wrap IntKind.u8 f4)))))) (fun h0 => .auto 1 <| .tot O145 (F145_ok (w64 (w64 q + w64 (Int.tdiv (w64 (w64 (w64 w - w64 q) * a)) 65536))) 0 255) fun o => .auto 6 <| .test (Int.tmod (w64 (w64 (w64 p - w64 l) * a)) 65536 < 0) (fun h1 => .auto 1 <| .tot O145 (F145_ok (w64 (w64 l + w64 (w64 (Int.tdiv (w64 (w64 (w64 p - w64 l) * a)) 65536) - 1))) 0 255) fun u => .auto 6 <| .test (Int.tmod (w64 (w64 (w64 j - w64 i) * a)) 65536 < 0) (fun h2 => .auto 1 <| .tot O145 (F145_ok (w64 (w64 i + w64 (w64 (Int.tdiv (w64 (w64 (w64 j - w64 i) * a)) 65536) - 1))) 0 255) fun d2 => .auto 6 <| .test (Int.tmod (w64 (w64 (w64 f - w64 d) * a)) 65536 < 0) (fun h3 => .auto 1 <| .tot O145 (F145_ok (w64 (w64 d + w64 (w64 (Int.tdiv (w64 (w64 (w64 f - w64 d) * a)) 65536) - 1))) 0 255) fun f5 => .auto 4 <| .ret (.a0 (IntKind.wrap IntKind.u8 o) (IntKind.wrap IntKind.u8 u) (IntKind.wrap IntKind.u8 d2) (IntKind.wrap IntKind.u8 f5))) (fun h3 => .auto 1 <| .tot O145 (F145_ok (w64 (w64 d + w64 (Int.tdiv (w64 (w64 (w64 f - w64 d) * a)) 65536))) 0 255) fun f6 => .auto 4 <| .ret (.a0 (IntKind.wrap IntKind.u8 o) (IntKind.wrap IntKind.u8 u) (IntKind.wrap IntKind.u8 d2) (IntKind.wrap IntKind.u8 f6)))) (fun h2 => .auto 1 <| .tot O145 (F145_ok (w64 (w64 i + w64 (Int.tdiv (w64 (w64 (w64 j - w64 i) * a)) 65536))) 0 255) fun d3 => .auto 6 <| .test (Int.tmod (w64 (w64 (w64 f - w64 d) * a)) 65536 < 0) (fun h3 => .auto 1 <| .tot O145 (F145_ok (w64 (w64 d + w64 (w64 (Int.tdiv (w64 (w64 (w64 f - w64 d) * a)) 65536) - 1))) 0 255) fun f7 => .auto 4 <| .ret (.a0 (IntKind.wrap IntKind.u8 o) (IntKind.wrap IntKind.u8 u) (IntKind.wrap IntKind.u8 d3) (IntKind.wrap IntKind.u8 f7))) (fun h3 => .auto 1 <| .tot O145 (F145_ok (w64 (w64 d + w64 (Int.tdiv (w64 (w64 (w64 f - w64 d) * a)) 65536))) 0 255) fun f8 => .auto 4 <| .ret (.a0 (IntKind.wrap IntKind.u8 o) (IntKind.wrap IntKind.u8 u) (IntKind.wrap IntKind.u8 d3) (IntKind.wrap IntKind.u8 f8))))) (fun h1 => .auto 1 <| .tot O145 (F145_ok (w64 (w64 l + w64 (Int.tdiv (w64 (w64 (w64 p - w64 l) * a)) 65536))) 0 255) fun v => .auto 6 <| .test (Int.tmod (w64 (w64 (w64 j - w64 i) * a)) 65536 < 0) (fun h2 => .auto 1 <| .tot O145 (F145_ok (w64 (w64 i + w64 (w64 (Int.tdiv (w64 (w64 (w64 j - w64 i) * a)) 65536) - 1))) 0 255) fun d4 => .auto 6 <| .test (Int.tmod (w64 (w64 (w64 f - w64 d) * a)) 65536 < 0) (fun h3 => .auto 1 <| .tot O145 (F145_ok (w64 (w64 d + w64 (w64 (Int.tdiv (w64 (w64 (w64 f - w64 d) * a)) 65536) - 1))) 0 255) fun f9 => .auto 4 <| .ret (.a0 (IntKind.wrap IntKind.u8 o) (IntKind.wrap IntKind.u8 v) (IntKind.wrap IntKind.u8 d4) (IntKind.wrap IntKind.u8 f9))) (fun h3 => .auto 1 <| .tot O145 (F145_ok (w64 (w64 d + w64 (Int.tdiv (w64 (w64 (w64 f - w64 d) * a)) 65536))) 0 255) fun j0 => .auto 4 <| .ret (.a0 (IntKind.wrap IntKind.u8 o) (IntKind.wrap IntKind.u8 v) (IntKind.wrap IntKind.u8 d4) (IntKind.wrap IntKind.u8 j0)))) (fun h2 => .auto 1 <| .tot O145 (F145_ok (w64 (w64 i + w64 (Int.tdiv (w64 (w64 (w64 j - w64 i) * a)) 65536))) 0 255) fun d5 => .auto 6 <| .test (Int.tmod (w64 (w64 (w64 f - w64 d) * a)) 65536 < 0) (fun h3 => .auto 1 <| .tot O145 (F145_ok (w64 (w64 d + w64 (w64 (Int.tdiv (w64 (w64 (w64 f - w64 d) * a)) 65536) - 1))) 0 255) fun j1 => .auto 4 <| .ret (.a0 (IntKind.wrap IntKind.u8 o) (IntKind.wrap IntKind.u8 v) (IntKind.wrap IntKind.u8 d5) (IntKind.wrap IntKind.u8 j1))) (fun h3 => .auto 1 <| .tot O145 (F145_ok (w64 (w64 d + w64 (Int.tdiv (w64 (w64 (w64 f - w64 d) * a)) 65536))) 0 255) fun j2 => .auto 4 <| .ret (.a0 (IntKind.wrap IntKind.u8 o) (IntKind.wrap IntKind.u8 v) (IntKind.wrap IntKind.u8 d5) (IntKind.wrap IntKind.u8 j2))))))
noncomputable def F203 (a d f i j l m o p : Int) : Option A203 := (D203 a d f i j l m o p).ev some
theorem F203_ok (a d f i j l m o p : Int) : ∀ b, F203 a d f i j l m o p = some b → UU 203 ([V.agg [u8 a, u8 d, u8 f, u8 i], V.agg [u8 j, u8 l, u8 m, u8 o], i64 p]) ([]) = some (A203.out b) :=
  fn_ok (E := E203) (L := notIn [0]) rfl rfl (fun x => by kernel_rfl)
/-! ## F151 -/
noncomputable abbrev B151 : Code := (Tryz.f151.body).getD .skip
inductive T151_0s0 where
  | mk (a : LV) (d f i : Int)
inductive T151_0e0 where
  | mk (a : LV) (d f : Int)
inductive N151_0 where
  | s0 (x : T151_0s0)
  | e0 (x : T151_0e0)
abbrev N151_0.out : N151_0 → VX × S
  | .s0 (.mk a d f i) => (vN, S.mk (lS 10 a :: i64 d :: un 4 (pT 0 :: i64 f :: i64 i :: un 70 [])) [oF 4 [[u8 0, u8 0, u8 0, u8 0]]])
  | .e0 (.mk j l m) => (vX 0, S.mk (lS 10 j :: i64 l :: un 4 (pT 0 :: i64 m :: un 71 [])) [oF 4 [[u8 0, u8 0, u8 0, u8 0]]])
abbrev E151_0 := Ent.o2 N151_0.out .s0 .e0 (fun b => by cases b <;> simp)
noncomputable def D151_0 : T151_0s0 → PT N151_0 | .mk d f i a => .test (a < (d.length : Int)) (fun h0 => .test (0 ≤ a) (fun h1 => .look RW108 (d[Int.toNat a]?) fun j => .test (j.c0 ≤ f) (fun h2 => .ret (.s0 (.mk d f a (w64 (a + 1))))) (fun h2 => .ret (.s0 (.mk d f i (w64 (a + 1)))))) (fun _ => .fail)) (fun h0 => .ret (.e0 (.mk d f i)))
noncomputable def L151_0 := E151_0.loop fun | .s0 x => D151_0 x | _ => .fail
theorem L151_0_ok : LU 151 0 B151 0 E151_0 L151_0 :=
  lk (L := notIn []) (fun b hb => by cases b <;> first | (cases hb; done) | (rename_i x; cases x; intro x; kernel_rfl) | (intro x; kernel_rfl))
noncomputable def N151_0.nx (n : Nat) : N151_0 → Option N151_0 | .s0 x => L151_0 n (.s0 x) | .e0 x => some (.e0 x)
theorem L151_0_s0 (n : Nat) (x : T151_0s0) : L151_0 (n + 1) (.s0 x) = (D151_0 x).ev (N151_0.nx n) := Ent.loop_eq fun c => by cases c <;> rfl
noncomputable def D151 (o : LV) (p q s t u : Int) : PT A151 := .testB ((o.length : Int) == 0) (fun h0 => .auto 2 <| .ret (.a0 q s t u)) (fun h0 => .cut E151_0 (L151_0_ok (.s0 (.mk o p (-1) 0)) rfl) fun | .e0 (.mk d v a) => (.test (a < 0) (fun h1 => .auto 1 <| .look RW108 (d[(0 : Nat)]?) fun f => .auto 1 <| .ret (.a0 f.c1 f.c2 f.c3 f.c4)) (fun h1 => .testB (a == w64 ((d.length : Int) - 1)) (fun h2 => .test (0 ≤ a) (fun h3 => .look RW108 (d[Int.toNat a]?) fun i => .auto 1 <| .ret (.a0 i.c1 i.c2 i.c3 i.c4)) (fun _ => .fail)) (fun h2 => .test (0 ≤ a) (fun h3 => .look RW108 (d[Int.toNat a]?) fun j => .test (0 ≤ w64 (a + 1)) (fun h4 => .look RW108 (d[Int.toNat (w64 (a + (1 : Int)))]?) fun l => .known (decide_eq_true h3) <| .look RW108 (d[Int.toNat a]?) fun w => .known (decide_eq_true h3) <| .look RW108 (d[Int.toNat a]?) fun m => .known (decide_eq_true h3) <| .look RW108 (d[Int.toNat a]?) fun y => .known (decide_eq_true h4) <| .look RW108 (d[Int.toNat (w64 (a + (1 : Int)))]?) fun z => .ask E175 (F175_ok y.c0 z.c0 v) fun ⟨d0⟩ => .ask E174 (F174_ok w.c5 m.c6 m.c7 m.c8 m.c9 d0) fun ⟨d1⟩ => .ask E203 (F203_ok j.c1 j.c2 j.c3 j.c4 l.c1 l.c2 l.c3 l.c4 d1) fun ⟨d2, d3, d4, d5⟩ => .auto 1 <| .ret (.a0 d2 d3 d4 d5)) (fun _ => .fail)) (fun _ => .fail)))) | _ => .fail)
noncomputable def F151 (a : LV) (d f i j l : Int) : Option A151 := (D151 a d f i j l).ev some
theorem F151_ok (a : LV) (d f i j l : Int) : FU E151 (F151 a d f i j l) 151 [lS 10 a, i64 d, V.agg [u8 f, u8 i, u8 j, u8 l]] := fu rfl rfl fun x => by kernel_rfl
/-! ## F204 -/
noncomputable def D204 (f i : Int) : PT A204 := .tot O145 (F145_ok f 0 65536) fun a => .tot O145 (F145_ok i 0 65536) fun d => .ret (.a0 (if d < a then d else a) (if d > a then d else a))
noncomputable def F204 (a d : Int) : Option A204 := (D204 a d).ev some
theorem F204_ok (a d : Int) : FU E204 (F204 a d) 204 [i64 a, i64 d] := fu rfl rfl fun x => by kernel_rfl
/-! ## F205 -/
noncomputable def D205 (d : Bool) (a : LV) : PT A205 := .auto 2 <| .test ((0 : Nat) ≤ (0 : Nat) ∧ ((0 : Nat) + List.length a) * (16 : Nat) ≤ (140737488355328 : Nat) ∧ (0 : Nat) + List.length a ≤ (140737488355328 : Nat)) (fun h0 => .auto 1 <| .ret (.a0 d (0 + List.length a) ([] ++ a))) (fun _ => .fail)
noncomputable def F205 (a : Bool) (d : LV) : Option A205 := (D205 a d).ev some
theorem F205_ok (a : Bool) (d : LV) : FU E205 (F205 a d) 205 [V.agg [vb a, lS 2 d]] := fu rfl rfl fun x => by kernel_rfl
/-! ## F245 -/
noncomputable def D245 (d : Bool) (a : LV) : PT Int := .auto 1 <| .test ((a.length : Int) < 2) (fun h0 => .ret 0) (fun h0 => .auto 1 <| .testB d (fun h1 => .ret ((a.length : Int))) (fun h1 => .ret (w64 ((a.length : Int) - 1))))
abbrev O245 (a : Int) : V × Store := (i64 a, [])
noncomputable def F245 (a : Bool) (d : LV) : Int := (D245 a d).evT
theorem F245_ok (a : Bool) (d : LV) : UU 245 ([V.agg [vb a, lS 2 d]]) ([]) = some (O245 (F245 a d)) :=
  fnT_ok (out := O245) (L := notIn []) rfl rfl (fun x => by kernel_rfl) (by simp [D245, PT.isT])
/-! ## F250 -/
noncomputable def D250 (a d : Int) : PT A250 := .auto 1 <| .tot O243 (F243_ok a) fun f => .auto 1 <| .tot O243 (F243_ok d) fun i => .auto 1 <| .ret (.a0 f i)
noncomputable def F250 (a d : Int) : Option A250 := (D250 a d).ev some
theorem F250_ok (a d : Int) : FU E250 (F250 a d) 250 [V.agg [i64 a, i64 d]] := fu rfl rfl fun x => by kernel_rfl
/-! ## F246 -/
noncomputable def D246 (p : Bool) (a : LV) (d : Int) : PT A246 := .auto 1 <| .test (0 ≤ d) (fun h0 => .look RW28 (a[Int.toNat d]?) fun f => .ask E250 (F250_ok f.c0 f.c1) fun ⟨j, l⟩ => .auto 2 <| .test ((a.length : Int) = 0) (fun _ => .fail) (fun h1 => .test (0 ≤ Int.tmod (w64 (d + 1)) (a.length : Int)) (fun h2 => .look RW28 (a[Int.toNat (Int.tmod (w64 (d + (1 : Int))) (a.length : Int))]?) fun i => .ask E250 (F250_ok i.c0 i.c1) fun ⟨m, o⟩ => .auto 2 <| .ret (.a0 j l m o)) (fun _ => .fail))) (fun _ => .fail)
noncomputable def F246 (a : Bool) (d : LV) (f : Int) : Option A246 := (D246 a d f).ev some
theorem F246_ok (a : Bool) (d : LV) (f : Int) : FU E246 (F246 a d f) 246 [V.agg [vb a, lS 2 d], i64 f] := fu rfl rfl fun x => by kernel_rfl
/-! ## F247 -/
noncomputable def D247 (a d f i : Int) : PT A247 := .auto 4 <| .ask E244 (F244_ok (w64 (f - a)) (w64 (i - d))) fun ⟨j⟩ => .ret (.a0 j)
noncomputable def F247 (a d f i : Int) : Option A247 := (D247 a d f i).ev some
theorem F247_ok (a d f i : Int) : FU E247 (F247 a d f i) 247 [V.agg [i64 a, i64 d], V.agg [i64 f, i64 i]] := fu rfl rfl fun x => by kernel_rfl
/-! ## F206 -/
noncomputable abbrev B206 : Code := (Tryz.f206.body).getD .skip
inductive T206_0s0 where
  | mk (a d : Int) (f : Bool) (i : LV)
inductive T206_0e0 where
  | mk (a : Int)
inductive N206_0 where
  | s0 (x : T206_0s0)
  | e0 (x : T206_0e0)
abbrev N206_0.out : N206_0 → VX × S
  | .s0 (.mk a d f i) => (vN, S.mk (U :: pT 0 :: U :: i64 a :: i64 d :: un 20 []) [oF 2 [[vb f, lS 2 i]]])
  | .e0 (.mk j) => (vX 0, S.mk (U :: U :: U :: i64 j :: un 21 []) [])
abbrev E206_0 := Ent.o2 N206_0.out .s0 .e0 (fun b => by cases b <;> simp)
noncomputable def D206_0 : T206_0s0 → PT N206_0 | .mk i a d f => .auto 1 <| .tot O245 (F245_ok d f) fun j => .test (a < j) (fun h0 => .auto 1 <| .ask E246 (F246_ok d f a) fun ⟨l, m, o, p⟩ => .auto 4 <| .ask E247 (F247_ok l m o p) fun ⟨q⟩ => .tot O141 (F141_ok i q) fun s => .ret (.s0 (.mk s (w64 (a + 1)) d f))) (fun h0 => .ret (.e0 (.mk i)))
noncomputable def L206_0 := E206_0.loop fun | .s0 x => D206_0 x | _ => .fail
theorem L206_0_ok : LU 206 0 B206 0 E206_0 L206_0 :=
  lk (L := notIn []) (fun b hb => by cases b <;> first | (cases hb; done) | (rename_i x; cases x; intro x; kernel_rfl) | (intro x; kernel_rfl))
noncomputable def N206_0.nx (n : Nat) : N206_0 → Option N206_0 | .s0 x => L206_0 n (.s0 x) | .e0 x => some (.e0 x)
theorem L206_0_s0 (n : Nat) (x : T206_0s0) : L206_0 (n + 1) (.s0 x) = (D206_0 x).ev (N206_0.nx n) := Ent.loop_eq fun c => by cases c <;> rfl
noncomputable def D206 (a : Bool) (d : LV) : PT A206 := .cut E206_0 (L206_0_ok (.s0 (.mk 0 0 a d)) rfl) fun | .e0 (.mk f) => .ret (.a0 f) | _ => .fail
noncomputable def F206 (a : Bool) (d : LV) : Option A206 := (D206 a d).ev some
theorem F206_ok (a : Bool) (d : LV) : FU E206 (F206 a d) 206 [V.agg [vb a, lS 2 d]] := fu rfl rfl fun x => by kernel_rfl
/-! ## F249 -/
noncomputable def D249 (d f : Int) : PT A249 := .tot O186 (F186_ok d) fun i => .ask E185 (F185_ok i) fun ⟨j, l⟩ => .tot O186 (F186_ok f) fun m => .ask E185 (F185_ok m) fun ⟨a, o⟩ => .testB (a == 0) (fun h0 => .ret (.a0 0)) (fun h0 => .ask E187 (F187_ok j 65536) fun ⟨p, q⟩ => .ask E188 (F188_ok p q a (!l == o)) fun ⟨s⟩ => .ret (.a0 s))
noncomputable def F249 (a d : Int) : Option A249 := (D249 a d).ev some
theorem F249_ok (a d : Int) : FU E249 (F249 a d) 249 [i64 a, i64 d] := fu rfl rfl fun x => by kernel_rfl
/-! ## F248 -/
noncomputable def D248 (o p q s t d : Int) : PT A248 := .auto 1 <| .ask E250 (F250_ok o p) fun ⟨f, i⟩ => .auto 1 <| .ask E250 (F250_ok q s) fun ⟨j, l⟩ => .tot O186 (F186_ok t) fun a => .auto 2 <| .test (a ≤ 0) (fun h0 => .auto 2 <| .ret (.a0 f i)) (fun h0 => .test (a ≥ d) (fun h1 => .auto 2 <| .ret (.a0 j l)) (fun h1 => .ask E249 (F249_ok a d) fun ⟨m⟩ => .auto 2 <| .ask E173 (F173_ok f j m) fun ⟨u⟩ => .auto 2 <| .ask E173 (F173_ok i l m) fun ⟨v⟩ => .auto 1 <| .ret (.a0 u v)))
noncomputable def F248 (a d f i j l : Int) : Option A248 := (D248 a d f i j l).ev some
theorem F248_ok (a d f i j l : Int) : FU E248 (F248 a d f i j l) 248 [V.agg [i64 a, i64 d], V.agg [i64 f, i64 i], i64 j, i64 l] := fu rfl rfl fun x => by kernel_rfl
/-! ## F207 -/
noncomputable abbrev B207 : Code := (Tryz.f207.body).getD .skip
inductive T207_r12s0 where
  | mk (a d f i j l : Int) (m : Bool) (o : LV) (p : Nat) (q s t u : Int) (v : LV)
abbrev T207_r12s0.st : T207_r12s0 → S
  | .mk a d f i j l m o p q s t u v => S.mk (U :: i64 a :: i64 d :: pT 0 :: U :: U :: pT 1 :: pT 2 :: i64 f :: i64 i :: pT 3 :: pT 4 :: i64 j :: i64 l :: un 68 []) [oF 2 [[vb m, lS 2 o]], oF 2 [[vb false, hS 5 0]], oF 2 [[vb false, hS 6 p]], oF 2 [[i64 q, i64 s]], oF 2 [[i64 t, i64 u]], oT 2 [], oT 2 v]
inductive T207_r12e0 where
  | mk (a d f i j l : Int) (m o : Bool) (p : LV) (q : Nat) (s t u v : Int) (w : LV)
inductive N207_r12 where
  | e0 (x : T207_r12e0)
abbrev N207_r12.out : N207_r12 → VX × S
  | .e0 (.mk a d f i j l m o p q s t u v w) => (vN, S.mk (U :: i64 a :: i64 d :: pT 0 :: U :: U :: pT 1 :: pT 2 :: i64 f :: i64 i :: pT 3 :: pT 4 :: i64 j :: i64 l :: un 37 (vb m :: un 30 [])) [oF 2 [[vb o, lS 2 p]], oF 2 [[vb false, hS 5 0]], oF 2 [[vb false, hS 6 q]], oF 2 [[i64 s, i64 t]], oF 2 [[i64 u, i64 v]], oT 2 [], oT 2 w])
abbrev E207_r12 := Ent.o1 N207_r12.out .e0 fun ⟨x⟩ => ⟨x, rfl⟩
noncomputable def D207_r12 : T207_r12s0 → PT N207_r12 | .mk a d f l i j m o p q s t u v => .test (i > 0) (fun h0 => .auto 3 <| .test (j > a) (fun h1 => .auto 3 <| .ret (.e0 (.mk a d f l i j (decide (f < d)) m o p q s t u v))) (fun h1 => .auto 3 <| .ret (.e0 (.mk a d f l i j false m o p q s t u v)))) (fun h0 => .auto 7 <| .ret (.e0 (.mk a d f l i j false m o p q s t u v)))
noncomputable def J207_r12 (y : T207_r12s0) : Option N207_r12 := (D207_r12 y).ev some
theorem J207_r12_ok (y : T207_r12s0) : ∀ b, J207_r12 y = some b → regP Tryz.prog X CC 207 0 B207 12 y.st = some (E207_r12.out b) := by
  cases y; exact reg_ok (E := E207_r12) (fun x => by kernel_rfl)
inductive T207_0s0 where
  | mk (a d f i : Int) (j : Bool) (l : LV) (m : Nat) (o : LV)
inductive T207_0e0 where
  | mk (a : Nat) (d : LV)
inductive N207_0 where
  | s0 (x : T207_0s0)
  | e0 (x : T207_0e0)
abbrev N207_0.out : N207_0 → VX × S
  | .s0 (.mk a d f i j l m o) => (vN, S.mk (U :: i64 a :: i64 d :: pT 0 :: U :: U :: pT 1 :: pT 2 :: i64 f :: i64 i :: un 72 []) [oF 2 [[vb j, lS 2 l]], oF 2 [[vb false, hS 3 0]], oF 2 [[vb false, hS 4 m]], oT 2 [], oT 2 o])
  | .e0 (.mk p q) => (vX 0, S.mk (un 6 (pT 0 :: pT 1 :: un 74 [])) [oF 2 [[vb false, hS 2 0]], oF 2 [[vb false, hS 3 p]], oT 2 [], oT 2 q])
abbrev E207_0 := Ent.o2 N207_0.out .s0 .e0 (fun b => by cases b <;> simp)
noncomputable def D207_0 : T207_0s0 → PT N207_0 | .mk f0 f1 d0 j l m d1 d2 => .auto 1 <| .tot O245 (F245_ok l m) fun f2 => .test (j < f2) (fun h0 => .auto 1 <| .ask E246 (F246_ok l m j) fun ⟨d3, d4, d5, d6⟩ => .auto 4 <| .ask E247 (F247_ok d3 d4 d5 d6) fun ⟨d7⟩ => .tot O141 (F141_ok d0 d7) fun f3 => .cut E207_r12 (J207_r12_ok (.mk f0 f1 d0 j d7 f3 l m d1 d3 d4 d5 d6 d2)) fun | .e0 (.mk i f o p q s f4 t u a v w y z d) => .testB f4 (fun h1 => .auto 1 <| .testB ((↑a : Int) == 0) (fun h2 => .auto 3 <| .ask E248 (F248_ok v w y z (w64 (i - o)) q) fun ⟨d8, d9⟩ => .auto 1 <| .test (0 + a ≤ List.length d ∧ (a + 1) * 16 ≤ 140737488355328 ∧ a + 1 ≤ 140737488355328) (fun h3 => .auto 4 <| .ask E248 (F248_ok v w y z (w64 (f - o)) q) fun ⟨f5, f6⟩ => .auto 1 <| .test (0 + (a + 1) ≤ List.length (List.take a d ++ [[i64 d8, i64 d9]]) ∧ (a + 1 + 1) * 16 ≤ 140737488355328 ∧ a + 1 + 1 ≤ 140737488355328) (fun h4 => .auto 1 <| .ret (.s0 (.mk i f s (w64 (p + 1)) t u (a + 1 + 1) (List.take (a + 1) (List.take a d ++ [[i64 d8, i64 d9]]) ++ [[i64 f5, i64 f6]])))) (fun _ => .fail)) (fun _ => .fail)) (fun h2 => .auto 3 <| .ask E248 (F248_ok v w y z (w64 (f - o)) q) fun ⟨f7, f8⟩ => .auto 1 <| .test (0 + a ≤ List.length d ∧ (a + 1) * 16 ≤ 140737488355328 ∧ a + 1 ≤ 140737488355328) (fun h3 => .auto 1 <| .ret (.s0 (.mk i f s (w64 (p + 1)) t u (a + 1) (List.take a d ++ [[i64 f7, i64 f8]])))) (fun _ => .fail))) (fun h1 => .ret (.s0 (.mk i f s (w64 (p + 1)) t u a d)))) (fun h0 => .ret (.e0 (.mk d1 d2)))
noncomputable def L207_0 := E207_0.loop fun | .s0 x => D207_0 x | _ => .fail
theorem L207_0_ok : LU 207 0 B207 0 E207_0 L207_0 :=
  lk (L := notIn []) (fun b hb => by cases b <;> first | (cases hb; done) | (rename_i x; cases x; intro x; kernel_rfl) | (intro x; kernel_rfl))
noncomputable def N207_0.nx (n : Nat) : N207_0 → Option N207_0 | .s0 x => L207_0 n (.s0 x) | .e0 x => some (.e0 x)
theorem L207_0_s0 (n : Nat) (x : T207_0s0) : L207_0 (n + 1) (.s0 x) = (D207_0 x).ev (N207_0.nx n) := Ent.loop_eq fun c => by cases c <;> rfl
noncomputable def D207 (f : Bool) (i : LV) (j l : Int) : PT A207 := .tot O186 (F186_ok j) fun a => .tot O186 (F186_ok l) fun d => .test (a ≥ d) (fun h0 => .auto 2 <| .ret (.a0 false 0 ([]))) (fun h0 => .cut E207_0 (L207_0_ok (.s0 (.mk a d 0 0 f i 0 ([]))) rfl) fun | .e0 (.mk m o) => (.auto 2 <| .ret (.a0 false m o)) | _ => .fail)
noncomputable def F207 (a : Bool) (d : LV) (f i : Int) : Option A207 := (D207 a d f i).ev some
theorem F207_ok (a : Bool) (d : LV) (f i : Int) : FU E207 (F207 a d f i) 207 [V.agg [vb a, lS 2 d], i64 f, i64 i] := fu rfl rfl fun x => by kernel_rfl
/-! ## F152 -/
noncomputable abbrev B152 : Code := (Tryz.f152.body).getD .skip
inductive T152_r7s0 where
  | mk (a : LV) (d f : Int) (i : Nat) (j : Int) (l : LV) (m : Bool) (o : Nat) (p : LV)
abbrev T152_r7s0.st : T152_r7s0 → S
  | .mk a d f i j l m o p => S.mk (lS 2 a :: un 6 (i64 d :: i64 f :: hS 0 i :: i64 j :: pT 1 :: un 43 [])) [oT 2 l, oF 2 [[vb m, hS 2 o]], oT 2 p]
inductive T152_r7e0 where
  | mk (a : LV) (d f : Int) (i : Nat) (j : Int) (l : Bool) (m : LV) (o : Bool) (p : Nat) (q : LV)
inductive N152_r7 where
  | e0 (x : T152_r7e0)
abbrev N152_r7.out : N152_r7 → VX × S
  | .e0 (.mk a d f i j l m o p q) => (vN, S.mk (lS 2 a :: un 6 (i64 d :: i64 f :: hS 0 i :: i64 j :: pT 1 :: un 23 (vb l :: un 19 []))) [oT 2 m, oF 2 [[vb o, hS 2 p]], oT 2 q])
abbrev E152_r7 := Ent.o1 N152_r7.out .e0 fun ⟨x⟩ => ⟨x, rfl⟩
noncomputable def D152_r7 : T152_r7s0 → PT N152_r7 | .mk f a d i j l m o p => .testB (a != 0) (fun h0 => .auto 2 <| .ret (.e0 (.mk f a d i j true l m o p))) (fun h0 => .auto 2 <| .ret (.e0 (.mk f a d i j (d != 65536) l m o p)))
noncomputable def J152_r7 (y : T152_r7s0) : Option N152_r7 := (D152_r7 y).ev some
theorem J152_r7_ok (y : T152_r7s0) : ∀ b, J152_r7 y = some b → regP Tryz.prog X CC 152 0 B152 7 y.st = some (E152_r7.out b) := by
  cases y; exact reg_ok (E := E152_r7) (fun x => by kernel_rfl)
inductive T152_0s0 where
  | mk (a : LV) (d f : Int) (i : Nat) (j : Int) (l : LV)
inductive T152_0e0 where
  | mk (a : Nat) (d : LV)
inductive N152_0 where
  | s0 (x : T152_0s0)
  | e0 (x : T152_0e0)
abbrev N152_0.out : N152_0 → VX × S
  | .s0 (.mk a d f i j l) => (vN, S.mk (lS 2 a :: un 6 (i64 d :: i64 f :: hS 0 i :: i64 j :: un 44 [])) [oT 2 l])
  | .e0 (.mk m o) => (vX 0, S.mk (un 9 (hS 0 m :: un 45 [])) [oT 2 o])
abbrev E152_0 := Ent.o2 N152_0.out .s0 .e0 (fun b => by cases b <;> simp)
noncomputable def D152_0 : T152_0s0 → PT N152_0 | .mk o d0 d1 u j v => .test (j < (o.length : Int)) (fun h0 => .test (0 ≤ j) (fun h1 => .look RW88 (o[Int.toNat j]?) fun w => .ask E205 (F205_ok w.c0 w.c1) fun ⟨d2, d3, d4⟩ => .auto 1 <| .cut E152_r7 (J152_r7_ok (.mk o d0 d1 u j v d2 d3 d4)) fun | .e0 (.mk p l m a q d5 d s f i) => .testB d5 (fun h2 => .auto 1 <| .test (0 + f ≤ List.length i) (fun h3 => .ask E206 (F206_ok s (List.take f i)) fun ⟨y⟩ => .auto 1 <| .ask E126 (F126_ok y l) fun ⟨d6⟩ => .ask E126 (F126_ok y m) fun ⟨d7⟩ => .known (decide_eq_true h3) <| .ask E207 (F207_ok s (List.take f i) d6 d7) fun ⟨d8, t, z⟩ => .auto 2 <| .test ((↑t : Int) < 2) (fun h4 => .ret (.s0 (.mk p l m a (w64 (q + 1)) d))) (fun h4 => .auto 1 <| .test (0 + t ≤ List.length z) (fun h5 => .auto 1 <| .test (0 + a ≤ List.length d ∧ (a + 1) * 32 ≤ 140737488355328 ∧ a + 1 ≤ 140737488355328) (fun h6 => .ret (.s0 (.mk p l m (a + 1) (w64 (q + 1)) (List.take a d ++ [[vb d8, lS 2 (List.take t z)]])))) (fun _ => .fail)) (fun _ => .fail))) (fun _ => .fail)) (fun h2 => .auto 1 <| .test (0 + f ≤ List.length i) (fun h3 => .auto 1 <| .test (0 + a ≤ List.length d ∧ (a + 1) * 32 ≤ 140737488355328 ∧ a + 1 ≤ 140737488355328) (fun h4 => .ret (.s0 (.mk p l m (a + 1) (w64 (q + 1)) (List.take a d ++ [[vb s, lS 2 (List.take f i)]])))) (fun _ => .fail)) (fun _ => .fail))) (fun _ => .fail)) (fun h0 => .ret (.e0 (.mk u v)))
noncomputable def L152_0 := E152_0.loop fun | .s0 x => D152_0 x | _ => .fail
theorem L152_0_ok : LU 152 0 B152 0 E152_0 L152_0 :=
  lk (L := notIn []) (fun b hb => by cases b <;> first | (cases hb; done) | (rename_i x; cases x; intro x; kernel_rfl) | (intro x; kernel_rfl))
noncomputable def N152_0.nx (n : Nat) : N152_0 → Option N152_0 | .s0 x => L152_0 n (.s0 x) | .e0 x => some (.e0 x)
theorem L152_0_s0 (n : Nat) (x : T152_0s0) : L152_0 (n + 1) (.s0 x) = (D152_0 x).ev (N152_0.nx n) := Ent.loop_eq fun c => by cases c <;> rfl
noncomputable def D152 (a : LV) (d f : Int) : PT A152 := .ask E204 (F204_ok d f) fun ⟨i, j⟩ => .cut E152_0 (L152_0_ok (.s0 (.mk a i j 0 0 ([]))) rfl) fun | .e0 (.mk l m) => .ret (.a0 l m) | _ => .fail
noncomputable def F152 (a : LV) (d f : Int) : Option A152 := (D152 a d f).ev some
theorem F152_ok (a : LV) (d f : Int) : FU E152 (F152 a d f) 152 [lS 2 a, i64 d, i64 f] := fu rfl rfl fun x => by kernel_rfl
/-! ## F62 -/
noncomputable abbrev B62 : Code := (Tryz.f62.body).getD .skip
inductive T62_0s0 where
  | mk (a : LV) (d : Int)
inductive T62_0e1 where
  | mk (a : LV)
inductive N62_0 where
  | s0 (x : T62_0s0)
  | e0
  | e1 (x : T62_0e1)
abbrev N62_0.out : N62_0 → VX × S
  | .s0 (.mk a d) => (vN, S.mk (lS 1 a :: U :: U :: i64 d :: un 21 []) [])
  | .e0 => (VX.ret, S.mk (U :: U :: vb false :: un 22 []) [])
  | .e1 (.mk f) => (vX 0, S.mk (lS 1 f :: un 24 []) [])
abbrev E62_0 := Ent.o3 N62_0.out .s0 (fun (_ : Unit) => .e0) .e1 (fun b => by cases b <;> simp)
noncomputable def D62_0 : T62_0s0 → PT N62_0 | .mk a d => .test (d < (a.length : Int)) (fun h0 => .test (0 ≤ d) (fun h1 => .look RW2 (a[Int.toNat d]?) fun f => .test (f.c0 < 65536) (fun h2 => .auto 6 <| .ret .e0) (fun h2 => .auto 2 <| .known (decide_eq_true h1) <| .look RW2 (a[Int.toNat d]?) fun i => .auto 3 <| .test (i.c0 > 67108864) (fun h3 => .ret .e0) (fun h3 => .ret (.s0 (.mk a (w64 (d + 1))))))) (fun _ => .fail)) (fun h0 => .ret (.e1 (.mk a)))
noncomputable def L62_0 := E62_0.loop fun | .s0 x => D62_0 x | _ => .fail
theorem L62_0_ok : LU 62 0 B62 0 E62_0 L62_0 :=
  lk (L := notIn []) (fun b hb => by cases b <;> first | (cases hb; done) | (rename_i x; cases x; intro x; kernel_rfl) | (intro x; kernel_rfl))
noncomputable def N62_0.nx (n : Nat) : N62_0 → Option N62_0 | .s0 x => L62_0 n (.s0 x) | .e0 => some .e0 | .e1 x => some (.e1 x)
theorem L62_0_s0 (n : Nat) (x : T62_0s0) : L62_0 (n + 1) (.s0 x) = (D62_0 x).ev (N62_0.nx n) := Ent.loop_eq fun c => by cases c <;> rfl
noncomputable def D62 (a : LV) : PT A62 := .cut E62_0 (L62_0_ok (.s0 (.mk a 0)) rfl) fun | .e0 => .ret (.a0 false) | .e1 (.mk d) => .ret (.a0 (decide ((d.length : Int) ≤ 8))) | _ => .fail
noncomputable def F62 (a : LV) : Option A62 := (D62 a).ev some
theorem F62_ok (a : LV) : FU E62 (F62 a) 62 [lS 1 a] := fu rfl rfl fun x => by kernel_rfl
/-! ## F153 -/
noncomputable abbrev B153 : Code := (Tryz.f153.body).getD .skip
inductive T153_r7s0 where
  | mk (a : LV) (d : Nat) (f i j : Int) (l : Bool) (m o : LV)
abbrev T153_r7s0.st : T153_r7s0 → S
  | .mk a d f i j l m o => S.mk (U :: lS 1 a :: pT 0 :: U :: U :: hS 1 d :: i64 f :: i64 i :: i64 j :: un 52 []) [oF 2 [[vb l, lS 2 m]], oT 2 o]
inductive T153_r7e0 where
  | mk (a : LV) (d : Nat) (f i j : Int) (l m : Bool) (o p : LV)
inductive N153_r7 where
  | e0 (x : T153_r7e0)
abbrev N153_r7.out : N153_r7 → VX × S
  | .e0 (.mk a d f i j l m o p) => (vN, S.mk (U :: lS 1 a :: pT 0 :: U :: U :: hS 1 d :: i64 f :: i64 i :: i64 j :: un 21 (vb l :: un 30 [])) [oF 2 [[vb m, lS 2 o]], oT 2 p])
abbrev E153_r7 := Ent.o1 N153_r7.out .e0 fun ⟨x⟩ => ⟨x, rfl⟩
noncomputable def D153_r7 : T153_r7s0 → PT N153_r7 | .mk i j a d f l m o => .test (f < 128) (fun h0 => .auto 3 <| .ret (.e0 (.mk i j a d f (decide (d < a)) l m o))) (fun h0 => .auto 3 <| .ret (.e0 (.mk i j a d f false l m o)))
noncomputable def J153_r7 (y : T153_r7s0) : Option N153_r7 := (D153_r7 y).ev some
theorem J153_r7_ok (y : T153_r7s0) : ∀ b, J153_r7 y = some b → regP Tryz.prog X CC 153 0 B153 7 y.st = some (E153_r7.out b) := by
  cases y; exact reg_ok (E := E153_r7) (fun x => by kernel_rfl)
inductive T153_0s0 where
  | mk (a : LV) (d : Nat) (f i j : Int) (l : Bool) (m o : LV)
inductive T153_0e0 where
  | mk (a : Nat) (d : LV)
inductive N153_0 where
  | s0 (x : T153_0s0)
  | e0 (x : T153_0e0)
abbrev N153_0.out : N153_0 → VX × S
  | .s0 (.mk a d f i j l m o) => (vN, S.mk (U :: lS 1 a :: pT 0 :: U :: U :: hS 1 d :: i64 f :: i64 i :: i64 j :: un 52 []) [oF 2 [[vb l, lS 2 m]], oT 2 o])
  | .e0 (.mk p q) => (vX 0, S.mk (un 5 (hS 0 p :: un 55 [])) [oT 2 q])
abbrev E153_0 := Ent.o2 N153_0.out .s0 .e0 (fun b => by cases b <;> simp)
noncomputable def D153_0 : T153_0s0 → PT N153_0 | .mk t u v w y z d0 d1 => .cut E153_r7 (J153_r7_ok (.mk t u v w y z d0 d1)) fun | .e0 (.mk d a p i f d2 l m j) => .testB d2 (fun h0 => .test ((d.length : Int) = 0) (fun _ => .fail) (fun h1 => .test (0 ≤ Int.tmod f (d.length : Int)) (fun h2 => .look RW2 (d[Int.toNat (Int.tmod f (d.length : Int))]?) fun o => .auto 1 <| .testB (Int.tmod f 2 == 0) (fun h3 => .auto 1 <| .ask E207 (F207_ok l m i (w64 (i + o.c0))) fun ⟨d3, q, s⟩ => .auto 2 <| .test ((↑q : Int) ≥ 2) (fun h4 => .auto 1 <| .test (0 + q ≤ List.length s) (fun h5 => .auto 1 <| .test (0 + a ≤ List.length j ∧ (a + 1) * 32 ≤ 140737488355328 ∧ a + 1 ≤ 140737488355328) (fun h6 => .ret (.s0 (.mk d (a + 1) p (w64 (i + o.c0)) (w64 (f + 1)) l m (List.take a j ++ [[vb d3, lS 2 (List.take q s)]])))) (fun _ => .fail)) (fun _ => .fail)) (fun h4 => .ret (.s0 (.mk d a p (w64 (i + o.c0)) (w64 (f + 1)) l m j)))) (fun h3 => .ret (.s0 (.mk d a p (w64 (i + o.c0)) (w64 (f + 1)) l m j)))) (fun _ => .fail))) (fun h0 => .ret (.e0 (.mk a j)))
noncomputable def L153_0 := E153_0.loop fun | .s0 x => D153_0 x | _ => .fail
theorem L153_0_ok : LU 153 0 B153 0 E153_0 L153_0 :=
  lk (L := notIn []) (fun b hb => by cases b <;> first | (cases hb; done) | (rename_i x; cases x; intro x; kernel_rfl) | (intro x; kernel_rfl))
noncomputable def N153_0.nx (n : Nat) : N153_0 → Option N153_0 | .s0 x => L153_0 n (.s0 x) | .e0 x => some (.e0 x)
theorem L153_0_s0 (n : Nat) (x : T153_0s0) : L153_0 (n + 1) (.s0 x) = (D153_0 x).ev (N153_0.nx n) := Ent.loop_eq fun c => by cases c <;> rfl
inductive T153_r1s0 where
  | mk (a : LV) (d : Bool) (f : LV)
abbrev T153_r1s0.st : T153_r1s0 → S
  | .mk a d f => S.mk (U :: lS 1 a :: pT 0 :: un 58 []) [oF 2 [[vb d, lS 2 f]]]
inductive T153_r1e0 where
  | mk (a : LV) (d f : Bool) (i : LV)
inductive N153_r1 where
  | e0 (x : T153_r1e0)
abbrev N153_r1.out : N153_r1 → VX × S
  | .e0 (.mk a d f i) => (vN, S.mk (U :: lS 1 a :: pT 0 :: un 15 (vb d :: un 42 [])) [oF 2 [[vb f, lS 2 i]]])
abbrev E153_r1 := Ent.o1 N153_r1.out .e0 fun ⟨x⟩ => ⟨x, rfl⟩
noncomputable def D153_r1 : T153_r1s0 → PT N153_r1 | .mk a d f => .testB ((a.length : Int) == 0) (fun h0 => .auto 3 <| .ret (.e0 (.mk a true d f))) (fun h0 => .auto 1 <| .ask E62 (F62_ok a) fun ⟨i⟩ => .auto 2 <| .ret (.e0 (.mk a (!i) d f)))
noncomputable def J153_r1 (y : T153_r1s0) : Option N153_r1 := (D153_r1 y).ev some
theorem J153_r1_ok (y : T153_r1s0) : ∀ b, J153_r1 y = some b → regP Tryz.prog X CC 153 0 B153 1 y.st = some (E153_r1.out b) := by
  cases y; exact reg_ok (E := E153_r1) (fun x => by kernel_rfl)
noncomputable def D153 (j : Bool) (l m : LV) : PT A153 := .cut E153_r1 (J153_r1_ok (.mk m j l)) fun | .e0 (.mk o p a d) => .testB p (fun h0 => .auto 1 <| .ask E205 (F205_ok a d) fun ⟨q, f, i⟩ => .test (0 + f ≤ List.length i) (fun h1 => .ret (.a0 1 ([[vb q, lS 2 (List.take f i)]]))) (fun _ => .fail)) (fun h0 => .auto 1 <| .ask E206 (F206_ok a d) fun ⟨s⟩ => .cut E153_0 (L153_0_ok (.s0 (.mk o 0 s 0 0 a d ([]))) rfl) fun | .e0 (.mk t u) => .ret (.a0 t u) | _ => .fail)
noncomputable def F153 (a : Bool) (d f : LV) : Option A153 := (D153 a d f).ev some
theorem F153_ok (a : Bool) (d f : LV) : FU E153 (F153 a d f) 153 [V.agg [vb a, lS 2 d], lS 1 f] := fu rfl rfl fun x => by kernel_rfl
/-! ## F208 -/
noncomputable abbrev B208 : Code := (Tryz.f208.body).getD .skip
inductive T208_0s0 where
  | mk (a : Int) (d : Nat) (f : Int) (i : Bool) (j l : LV)
inductive T208_0e0 where
  | mk (a : Nat) (d : LV)
inductive N208_0 where
  | s0 (x : T208_0s0)
  | e0 (x : T208_0e0)
abbrev N208_0.out : N208_0 → VX × S
  | .s0 (.mk a d f i j l) => (vN, S.mk (U :: i64 a :: pT 0 :: U :: U :: hS 1 d :: i64 f :: un 58 []) [oF 2 [[vb i, lS 2 j]], oT 8 l])
  | .e0 (.mk m o) => (vX 0, S.mk (un 5 (hS 0 m :: un 59 [])) [oT 8 o])
abbrev E208_0 := Ent.o2 N208_0.out .s0 .e0 (fun b => by cases b <;> simp)
noncomputable def D208_0 : T208_0s0 → PT N208_0 | .mk d a f i j l => .auto 1 <| .tot O245 (F245_ok i j) fun v => .test (f < v) (fun h0 => .auto 1 <| .ask E246 (F246_ok i j f) fun ⟨m, o, p, q⟩ => .auto 4 <| .ask E247 (F247_ok m o p q) fun ⟨s⟩ => .test (s > 0) (fun h1 => .auto 2 <| .ask E249 (F249_ok (w64 (p - m)) s) fun ⟨t⟩ => .auto 2 <| .ask E249 (F249_ok (w64 (q - o)) s) fun ⟨u⟩ => .auto 2 <| .ask E126 (F126_ok t d) fun ⟨w⟩ => .ask E126 (F126_ok u d) fun ⟨y⟩ => .ask E126 (F126_ok (w64 (0 - u)) d) fun ⟨z⟩ => .ask E126 (F126_ok t d) fun ⟨d0⟩ => .auto 1 <| .test (0 + a ≤ List.length l ∧ (a + 1) * 64 ≤ 140737488355328 ∧ a + 1 ≤ 140737488355328) (fun h2 => .ret (.s0 (.mk d (a + 1) (w64 (f + 1)) i j (List.take a l ++ [[i64 m, i64 o, i64 p, i64 q, i64 w, i64 y, i64 z, i64 d0]])))) (fun _ => .fail)) (fun h1 => .ret (.s0 (.mk d a (w64 (f + 1)) i j l)))) (fun h0 => .ret (.e0 (.mk a l)))
noncomputable def L208_0 := E208_0.loop fun | .s0 x => D208_0 x | _ => .fail
theorem L208_0_ok : LU 208 0 B208 0 E208_0 L208_0 :=
  lk (L := notIn []) (fun b hb => by cases b <;> first | (cases hb; done) | (rename_i x; cases x; intro x; kernel_rfl) | (intro x; kernel_rfl))
noncomputable def N208_0.nx (n : Nat) : N208_0 → Option N208_0 | .s0 x => L208_0 n (.s0 x) | .e0 x => some (.e0 x)
theorem L208_0_s0 (n : Nat) (x : T208_0s0) : L208_0 (n + 1) (.s0 x) = (D208_0 x).ev (N208_0.nx n) := Ent.loop_eq fun c => by cases c <;> rfl
noncomputable def D208 (a : Bool) (d : LV) (f : Int) : PT A208 := .cut E208_0 (L208_0_ok (.s0 (.mk f 0 0 a d ([]))) rfl) fun | .e0 (.mk i j) => .ret (.a0 i j) | _ => .fail
noncomputable def F208 (a : Bool) (d : LV) (f : Int) : Option A208 := (D208 a d f).ev some
theorem F208_ok (a : Bool) (d : LV) (f : Int) : FU E208 (F208 a d f) 208 [V.agg [vb a, lS 2 d], i64 f] := fu rfl rfl fun x => by kernel_rfl
/-! ## F209 -/
noncomputable def D209 (d f i j a : Int) : PT A209 := .auto 5 <| .ret (.a0 (w64 (d + w64 (a * i))) (w64 (f + w64 (a * j))))
noncomputable def F209 (a d f i j : Int) : Option A209 := (D209 a d f i j).ev some
theorem F209_ok (a d f i j : Int) : FU E209 (F209 a d f i j) 209 [V.agg [i64 a, i64 d], V.agg [i64 f, i64 i], i64 j] := fu rfl rfl fun x => by kernel_rfl
/-! ## F275 -/
noncomputable abbrev B275 : Code := (Tryz.f275.body).getD .skip
inductive T275_0s0 where
  | mk (a : LV) (d f : Int)
inductive T275_0e0 where
  | mk (a : Int)
inductive N275_0 where
  | s0 (x : T275_0s0)
  | e0 (x : T275_0e0)
abbrev N275_0.out : N275_0 → VX × S
  | .s0 (.mk a d f) => (vN, S.mk (lS 2 a :: U :: U :: i64 d :: i64 f :: un 36 []) [])
  | .e0 (.mk i) => (vX 0, S.mk (U :: U :: U :: i64 i :: un 37 []) [])
abbrev E275_0 := Ent.o2 N275_0.out .s0 .e0 (fun b => by cases b <;> simp)
noncomputable def D275_0 : T275_0s0 → PT N275_0 | .mk a f d => .test (d < (a.length : Int)) (fun h0 => .test (0 ≤ d) (fun h1 => .look RW28 (a[Int.toNat d]?) fun i => .ask E250 (F250_ok i.c0 i.c1) fun ⟨l, m⟩ => .test ((a.length : Int) = 0) (fun _ => .fail) (fun h2 => .test (0 ≤ Int.tmod (w64 (d + 1)) (a.length : Int)) (fun h3 => .look RW28 (a[Int.toNat (Int.tmod (w64 (d + (1 : Int))) (a.length : Int))]?) fun j => .ask E250 (F250_ok j.c0 j.c1) fun ⟨o, p⟩ => .auto 6 <| .ret (.s0 (.mk a (w64 (w64 (f + w64 (l * p)) - w64 (o * m))) (w64 (d + 1))))) (fun _ => .fail))) (fun _ => .fail)) (fun h0 => .ret (.e0 (.mk f)))
noncomputable def L275_0 := E275_0.loop fun | .s0 x => D275_0 x | _ => .fail
theorem L275_0_ok : LU 275 0 B275 0 E275_0 L275_0 :=
  lk (L := notIn []) (fun b hb => by cases b <;> first | (cases hb; done) | (rename_i x; cases x; intro x; kernel_rfl) | (intro x; kernel_rfl))
noncomputable def N275_0.nx (n : Nat) : N275_0 → Option N275_0 | .s0 x => L275_0 n (.s0 x) | .e0 x => some (.e0 x)
theorem L275_0_s0 (n : Nat) (x : T275_0s0) : L275_0 (n + 1) (.s0 x) = (D275_0 x).ev (N275_0.nx n) := Ent.loop_eq fun c => by cases c <;> rfl
noncomputable def D275 (a : LV) : PT A275 := .cut E275_0 (L275_0_ok (.s0 (.mk a 0 0)) rfl) fun | .e0 (.mk d) => .ret (.a0 d) | _ => .fail
noncomputable def F275 (a : LV) : Option A275 := (D275 a).ev some
theorem F275_ok (a : LV) : FU E275 (F275 a) 275 [lS 2 a] := fu rfl rfl fun x => by kernel_rfl
/-! ## F251 -/
noncomputable abbrev B251 : Code := (Tryz.f251.body).getD .skip
inductive T251_0s0 where
  | mk (a : LV) (d : Nat) (f : Bool) (i : Int) (j : LV)
inductive T251_0e0 where
  | mk (a : Nat) (d : LV)
inductive N251_0 where
  | s0 (x : T251_0s0)
  | e0 (x : T251_0e0)
abbrev N251_0.out : N251_0 → VX × S
  | .s0 (.mk a d f i j) => (vN, S.mk (lS 2 a :: U :: U :: hS 0 d :: vb f :: i64 i :: un 25 []) [oT 2 j])
  | .e0 (.mk l m) => (vX 0, S.mk (U :: U :: U :: hS 0 l :: un 27 []) [oT 2 m])
abbrev E251_0 := Ent.o2 N251_0.out .s0 .e0 (fun b => by cases b <;> simp)
noncomputable def D251_0 : T251_0s0 → PT N251_0 | .mk d a j f i => .test (f < (d.length : Int)) (fun h0 => .testB j (fun h1 => .test (0 ≤ w64 (w64 ((d.length : Int) - 1) - f)) (fun h2 => .look RW28 (d[Int.toNat (w64 (w64 ((d.length : Int) - (1 : Int)) - f))]?) fun l => .auto 1 <| .test (0 + a ≤ List.length i ∧ (a + 1) * 16 ≤ 140737488355328 ∧ a + 1 ≤ 140737488355328) (fun h3 => .ret (.s0 (.mk d (a + 1) j (w64 (f + 1)) (List.take a i ++ [[i64 l.c0, i64 l.c1]])))) (fun _ => .fail)) (fun _ => .fail)) (fun h1 => .test (0 ≤ f) (fun h2 => .look RW28 (d[Int.toNat f]?) fun m => .auto 1 <| .test (0 + a ≤ List.length i ∧ (a + 1) * 16 ≤ 140737488355328 ∧ a + 1 ≤ 140737488355328) (fun h3 => .ret (.s0 (.mk d (a + 1) j (w64 (f + 1)) (List.take a i ++ [[i64 m.c0, i64 m.c1]])))) (fun _ => .fail)) (fun _ => .fail))) (fun h0 => .ret (.e0 (.mk a i)))
noncomputable def L251_0 := E251_0.loop fun | .s0 x => D251_0 x | _ => .fail
theorem L251_0_ok : LU 251 0 B251 0 E251_0 L251_0 :=
  lk (L := notIn []) (fun b hb => by cases b <;> first | (cases hb; done) | (rename_i x; cases x; intro x; kernel_rfl) | (intro x; kernel_rfl))
noncomputable def N251_0.nx (n : Nat) : N251_0 → Option N251_0 | .s0 x => L251_0 n (.s0 x) | .e0 x => some (.e0 x)
theorem L251_0_s0 (n : Nat) (x : T251_0s0) : L251_0 (n + 1) (.s0 x) = (D251_0 x).ev (N251_0.nx n) := Ent.loop_eq fun c => by cases c <;> rfl
noncomputable def D251 (a : LV) : PT A251 := .ask E275 (F275_ok a) fun ⟨d⟩ => .cut E251_0 (L251_0_ok (.s0 (.mk a 0 (decide (d < 0)) 0 ([]))) rfl) fun | .e0 (.mk f i) => .ret (.a0 f i) | _ => .fail
noncomputable def F251 (a : LV) : Option A251 := (D251 a).ev some
theorem F251_ok (a : LV) : FU E251 (F251 a) 251 [lS 2 a] := fu rfl rfl fun x => by kernel_rfl
/-! ## F210 -/
noncomputable abbrev B210 : Code := (Tryz.f210.body).getD .skip
inductive T210_0s0 where
  | mk (a : LV) (d : Nat) (f : Int) (i : LV)
inductive T210_0e0 where
  | mk (a : Nat) (d : LV)
inductive N210_0 where
  | s0 (x : T210_0s0)
  | e0 (x : T210_0e0)
abbrev N210_0.out : N210_0 → VX × S
  | .s0 (.mk a d f i) => (vN, S.mk (lS 2 a :: U :: pT 0 :: hS 1 d :: i64 f :: un 17 []) [oF 2 [[vb false, hS 2 0]], oT 2 i, oT 2 []])
  | .e0 (.mk j l) => (vX 0, S.mk (U :: U :: pT 0 :: hS 1 j :: un 18 []) [oF 2 [[vb false, hS 2 0]], oT 2 l, oT 2 []])
abbrev E210_0 := Ent.o2 N210_0.out .s0 .e0 (fun b => by cases b <;> simp)
noncomputable def D210_0 : T210_0s0 → PT N210_0 | .mk f a d i => .test (d < (f.length : Int)) (fun h0 => .test (0 ≤ d) (fun h1 => .look RW28 (f[Int.toNat d]?) fun j => .ask E250 (F250_ok j.c0 j.c1) fun ⟨l, m⟩ => .auto 1 <| .test (0 + a ≤ List.length i ∧ (a + 1) * 16 ≤ 140737488355328 ∧ a + 1 ≤ 140737488355328) (fun h2 => .ret (.s0 (.mk f (a + 1) (w64 (d + 1)) (List.take a i ++ [[i64 l, i64 m]])))) (fun _ => .fail)) (fun _ => .fail)) (fun h0 => .ret (.e0 (.mk a i)))
noncomputable def L210_0 := E210_0.loop fun | .s0 x => D210_0 x | _ => .fail
theorem L210_0_ok : LU 210 0 B210 0 E210_0 L210_0 :=
  lk (L := notIn []) (fun b hb => by cases b <;> first | (cases hb; done) | (rename_i x; cases x; intro x; kernel_rfl) | (intro x; kernel_rfl))
noncomputable def N210_0.nx (n : Nat) : N210_0 → Option N210_0 | .s0 x => L210_0 n (.s0 x) | .e0 x => some (.e0 x)
theorem L210_0_s0 (n : Nat) (x : T210_0s0) : L210_0 (n + 1) (.s0 x) = (D210_0 x).ev (N210_0.nx n) := Ent.loop_eq fun c => by cases c <;> rfl
noncomputable def D210 (f : LV) : PT A210 := .cut E210_0 (L210_0_ok (.s0 (.mk f 0 0 ([]))) rfl) fun | .e0 (.mk a d) => (.test (0 + a ≤ List.length d) (fun h0 => .ask E251 (F251_ok (List.take a d)) fun ⟨i, j⟩ => .auto 1 <| .ret (.a0 true i j)) (fun _ => .fail)) | _ => .fail
noncomputable def F210 (a : LV) : Option A210 := (D210 a).ev some
theorem F210_ok (a : LV) : FU E210 (F210 a) 210 [lS 2 a] := fu rfl rfl fun x => by kernel_rfl
/-! ## F211 -/
noncomputable def D211 (d3 d4 d5 d6 d7 d8 f i a d d9 f0 f1 f2 j l : Int) : PT A211 := .auto 5 <| .ask E209 (F209_ok a d f i 1) fun ⟨s, t⟩ => .auto 2 <| .ask E209 (F209_ok a d j l 1) fun ⟨u, v⟩ => .auto 1 <| .ask E210 (F210_ok ([[i64 a, i64 d], [i64 s, i64 t], [i64 u, i64 v]])) fun ⟨w, m, o⟩ => .auto 3 <| .ask E209 (F209_ok a d f i (-1)) fun ⟨y, z⟩ => .auto 2 <| .ask E209 (F209_ok a d j l (-1)) fun ⟨d0, d1⟩ => .auto 1 <| .ask E210 (F210_ok ([[i64 a, i64 d], [i64 y, i64 z], [i64 d0, i64 d1]])) fun ⟨d2, p, q⟩ => .test (0 + m ≤ List.length o) (fun h0 => .test (0 + p ≤ List.length q) (fun h1 => .ret (.a0 2 ([[vb w, lS 2 (List.take m o)], [vb d2, lS 2 (List.take p q)]]))) (fun _ => .fail)) (fun _ => .fail)
noncomputable def F211 (a d f i j l m o p q s t u v w y : Int) : Option A211 := (D211 a d f i j l m o p q s t u v w y).ev some
theorem F211_ok (a d f i j l m o p q s t u v w y : Int) : FU E211 (F211 a d f i j l m o p q s t u v w y) 211 [V.agg [i64 a, i64 d, i64 f, i64 i, i64 j, i64 l, i64 m, i64 o], V.agg [i64 p, i64 q, i64 s, i64 t, i64 u, i64 v, i64 w, i64 y]] := fu rfl rfl fun x => by kernel_rfl
/-! ## F154 -/
noncomputable abbrev B154 : Code := (Tryz.f154.body).getD .skip
inductive T154_r19s0 where
  | mk (a d : Nat) (f : Bool) (i j l : LV)
abbrev T154_r19s0.st : T154_r19s0 → S
  | .mk a d f i j l => S.mk (U :: U :: U :: pT 0 :: un 4 (hS 1 a :: hS 2 d :: un 138 [])) [oF 2 [[vb f, lS 2 i]], oT 8 j, oT 2 l]
inductive T154_r19e0 where
  | mk (a d : Nat) (f : Bool) (i j : LV)
inductive N154_r19 where
  | e0 (x : T154_r19e0)
abbrev N154_r19.out : N154_r19 → VX × S
  | .e0 (.mk a d f i j) => (vN, S.mk (un 8 (hS 0 a :: hS 1 d :: un 124 (vb f :: un 13 []))) [oT 8 i, oT 2 j])
abbrev E154_r19 := Ent.o1 N154_r19.out .e0 fun ⟨x⟩ => ⟨x, rfl⟩
noncomputable def D154_r19 : T154_r19s0 → PT N154_r19 | .mk a d j l f i => .auto 1 <| .testB j (fun h0 => .auto 3 <| .ret (.e0 (.mk a d (decide ((↑a : Int) ≥ 2)) f i))) (fun h0 => .auto 3 <| .ret (.e0 (.mk a d false f i)))
noncomputable def J154_r19 (y : T154_r19s0) : Option N154_r19 := (D154_r19 y).ev some
theorem J154_r19_ok (y : T154_r19s0) : ∀ b, J154_r19 y = some b → regP Tryz.prog X CC 154 0 B154 19 y.st = some (E154_r19.out b) := by
  cases y; exact reg_ok (E := E154_r19) (fun x => by kernel_rfl)
inductive T154_2s0 where
  | mk (a d : Nat) (f : Int) (i : Bool) (j l m : LV)
inductive T154_2e0 where
  | mk (a d : Nat) (f : Bool) (i j l : LV)
inductive N154_2 where
  | s0 (x : T154_2s0)
  | e0 (x : T154_2e0)
abbrev N154_2.out : N154_2 → VX × S
  | .s0 (.mk a d f i j l m) => (vN, S.mk (U :: U :: U :: pT 0 :: un 4 (hS 1 a :: hS 2 d :: U :: U :: U :: i64 f :: un 134 [])) [oF 2 [[vb i, lS 2 j]], oT 8 l, oT 2 m])
  | .e0 (.mk o p q s t u) => (vX 2, S.mk (U :: U :: U :: pT 0 :: un 4 (hS 1 o :: hS 2 p :: un 138 [])) [oF 2 [[vb q, lS 2 s]], oT 8 t, oT 2 u])
abbrev E154_2 := Ent.o2 N154_2.out .s0 .e0 (fun b => by cases b <;> simp)
noncomputable def D154_2 : T154_2s0 → PT N154_2 | .mk j i a q s o p => .test (a < (↑j : Int)) (fun h0 => .test (0 ≤ w64 (a - 1) ∧ w64 (a - 1) < (↑j : Int)) (fun h1 => .look RW206 (o[(0 : Nat) + Int.toNat (w64 (a - (1 : Int)))]?) fun d => .test (0 ≤ a ∧ a < (↑j : Int)) (fun h2 => .look RW206 (o[(0 : Nat) + Int.toNat a]?) fun f => .ask E211 (F211_ok d.c0 d.c1 d.c2 d.c3 d.c4 d.c5 d.c6 d.c7 f.c0 f.c1 f.c2 f.c3 f.c4 f.c5 f.c6 f.c7) fun ⟨l, m⟩ => .test (0 + l ≤ List.length m) (fun h3 => .test (0 + i ≤ List.length p ∧ (i + List.length (List.take l m)) * 32 ≤ 140737488355328 ∧ i + List.length (List.take l m) ≤ 140737488355328) (fun h4 => .ret (.s0 (.mk j (i + List.length (List.take l m)) (w64 (a + 1)) q s o (List.take i p ++ List.take l m)))) (fun _ => .fail)) (fun _ => .fail)) (fun _ => .fail)) (fun _ => .fail)) (fun h0 => .ret (.e0 (.mk j i q s o p)))
noncomputable def L154_2 := E154_2.loop fun | .s0 x => D154_2 x | _ => .fail
theorem L154_2_ok : LU 154 0 B154 2 E154_2 L154_2 :=
  lk (L := notIn []) (fun b hb => by cases b <;> first | (cases hb; done) | (rename_i x; cases x; intro x; kernel_rfl) | (intro x; kernel_rfl))
noncomputable def N154_2.nx (n : Nat) : N154_2 → Option N154_2 | .s0 x => L154_2 n (.s0 x) | .e0 x => some (.e0 x)
theorem L154_2_s0 (n : Nat) (x : T154_2s0) : L154_2 (n + 1) (.s0 x) = (D154_2 x).ev (N154_2.nx n) := Ent.loop_eq fun c => by cases c <;> rfl
inductive T154_c69s0 where
  | mk (a : Int) (d f : Nat) (i : Int) (j l : Bool) (m o p : LV) (q s t u : Int)
abbrev T154_c69s0.st : T154_c69s0 → S
  | .mk a d f i j l m o p q s t u => S.mk (U :: U :: i64 a :: pT 0 :: un 4 (hS 1 d :: hS 2 f :: i64 i :: pT 3 :: pT 4 :: un 56 (vb j :: un 78 []))) [oF 2 [[vb l, lS 2 m]], oT 8 o, oT 2 p, oF 2 [[i64 q, i64 s]], oF 2 [[i64 t, i64 u]]]
inductive T154_c69e0 where
  | mk (a : Int) (d f : Nat) (i : Int) (j : Bool) (l m o : LV) (p q s t : Int)
inductive N154_c69 where
  | e0 (x : T154_c69e0)
abbrev N154_c69.out : N154_c69 → VX × S
  | .e0 (.mk a d f i j l m o p q s t) => (vN, S.mk (U :: U :: i64 a :: pT 0 :: un 4 (hS 1 d :: hS 2 f :: i64 i :: pT 3 :: pT 4 :: un 135 [])) [oF 2 [[vb j, lS 2 l]], oT 8 m, oT 2 o, oF 2 [[i64 p, i64 q]], oF 2 [[i64 s, i64 t]]])
abbrev E154_c69 := Ent.o1 N154_c69.out .e0 fun ⟨x⟩ => ⟨x, rfl⟩
noncomputable def D154_c69 : T154_c69s0 → PT N154_c69 | .mk i d j a v l m f o p q s t => .testB v (fun h0 => .auto 1 <| .test (0 ≤ a ∧ a < (↑d : Int)) (fun h1 => .look RW206 (f[(0 : Nat) + Int.toNat a]?) fun u => .ask E209 (F209_ok s t u.c4 u.c5 1) fun ⟨w, y⟩ => .auto 1 <| .ret (.e0 (.mk i d j a l m f o p q w y))) (fun _ => .fail)) (fun h0 => .ret (.e0 (.mk i d j a l m f o p q s t)))
noncomputable def J154_c69 (y : T154_c69s0) : Option N154_c69 := (D154_c69 y).ev some
theorem J154_c69_ok (y : T154_c69s0) : CU 154 0 B154 69 E154_c69 (J154_c69 y) y.st := by
  cases y; exact cond_ok (L := notIn []) fun x => by kernel_rfl
inductive T154_r12s0 where
  | mk (a : Int) (d f : Nat) (i : Int) (j : Bool) (l m o : LV) (p q s t : Int)
abbrev T154_r12s0.st : T154_r12s0 → S
  | .mk a d f i j l m o p q s t => S.mk (U :: U :: i64 a :: pT 0 :: un 4 (hS 1 d :: hS 2 f :: i64 i :: pT 3 :: pT 4 :: un 135 [])) [oF 2 [[vb j, lS 2 l]], oT 8 m, oT 2 o, oF 2 [[i64 p, i64 q]], oF 2 [[i64 s, i64 t]]]
inductive T154_r12e0 where
  | mk (a : Int) (d f : Nat) (i : Int) (j l : Bool) (m o p : LV) (q s t u : Int)
inductive N154_r12 where
  | e0 (x : T154_r12e0)
abbrev N154_r12.out : N154_r12 → VX × S
  | .e0 (.mk a d f i j l m o p q s t u) => (vN, S.mk (U :: U :: i64 a :: pT 0 :: un 4 (hS 1 d :: hS 2 f :: i64 i :: pT 3 :: pT 4 :: un 56 (vb j :: un 78 []))) [oF 2 [[vb l, lS 2 m]], oT 8 o, oT 2 p, oF 2 [[i64 q, i64 s]], oF 2 [[i64 t, i64 u]]])
abbrev E154_r12 := Ent.o1 N154_r12.out .e0 fun ⟨x⟩ => ⟨x, rfl⟩
noncomputable def D154_r12 : T154_r12s0 → PT N154_r12 | .mk a d j f i l m o p q s t => .testB (a == 1) (fun h0 => .auto 4 <| .testB (!i) (fun h1 => .auto 5 <| .ret (.e0 (.mk a d j f (f == w64 ((↑d : Int) - 1)) i l m o p q s t))) (fun h1 => .auto 5 <| .ret (.e0 (.mk a d j f false i l m o p q s t)))) (fun h0 => .auto 9 <| .ret (.e0 (.mk a d j f false i l m o p q s t)))
noncomputable def J154_r12 (y : T154_r12s0) : Option N154_r12 := (D154_r12 y).ev some
theorem J154_r12_ok (y : T154_r12s0) : ∀ b, J154_r12 y = some b → regP Tryz.prog X CC 154 0 B154 12 y.st = some (E154_r12.out b) := by
  cases y; exact reg_ok (E := E154_r12) (fun x => by kernel_rfl)
inductive T154_c48s0 where
  | mk (a : Int) (d f : Nat) (i : Int) (j l : Bool) (m o p : LV) (q s t u : Int)
abbrev T154_c48s0.st : T154_c48s0 → S
  | .mk a d f i j l m o p q s t u => S.mk (U :: U :: i64 a :: pT 0 :: un 4 (hS 1 d :: hS 2 f :: i64 i :: pT 3 :: pT 4 :: un 35 (vb j :: un 99 []))) [oF 2 [[vb l, lS 2 m]], oT 8 o, oT 2 p, oF 2 [[i64 q, i64 s]], oF 2 [[i64 t, i64 u]]]
inductive T154_c48e0 where
  | mk (a : Int) (d f : Nat) (i : Int) (j : Bool) (l m o : LV) (p q s t : Int)
inductive N154_c48 where
  | e0 (x : T154_c48e0)
abbrev N154_c48.out : N154_c48 → VX × S
  | .e0 (.mk a d f i j l m o p q s t) => (vN, S.mk (U :: U :: i64 a :: pT 0 :: un 4 (hS 1 d :: hS 2 f :: i64 i :: pT 3 :: pT 4 :: un 135 [])) [oF 2 [[vb j, lS 2 l]], oT 8 m, oT 2 o, oF 2 [[i64 p, i64 q]], oF 2 [[i64 s, i64 t]]])
abbrev E154_c48 := Ent.o1 N154_c48.out .e0 fun ⟨x⟩ => ⟨x, rfl⟩
noncomputable def D154_c48 : T154_c48s0 → PT N154_c48 | .mk i d j a v l m f o p q s t => .testB v (fun h0 => .auto 1 <| .test (0 ≤ a ∧ a < (↑d : Int)) (fun h1 => .look RW206 (f[(0 : Nat) + Int.toNat a]?) fun u => .ask E209 (F209_ok p q u.c4 u.c5 (-1)) fun ⟨w, y⟩ => .auto 1 <| .ret (.e0 (.mk i d j a l m f o w y s t))) (fun _ => .fail)) (fun h0 => .ret (.e0 (.mk i d j a l m f o p q s t)))
noncomputable def J154_c48 (y : T154_c48s0) : Option N154_c48 := (D154_c48 y).ev some
theorem J154_c48_ok (y : T154_c48s0) : CU 154 0 B154 48 E154_c48 (J154_c48 y) y.st := by
  cases y; exact cond_ok (L := notIn []) fun x => by kernel_rfl
inductive T154_r10s0 where
  | mk (a : Int) (d f : Nat) (i : Int) (j : Bool) (l m o : LV) (p q s t : Int)
abbrev T154_r10s0.st : T154_r10s0 → S
  | .mk a d f i j l m o p q s t => S.mk (U :: U :: i64 a :: pT 0 :: un 4 (hS 1 d :: hS 2 f :: i64 i :: pT 3 :: pT 4 :: un 135 [])) [oF 2 [[vb j, lS 2 l]], oT 8 m, oT 2 o, oF 2 [[i64 p, i64 q]], oF 2 [[i64 s, i64 t]]]
inductive T154_r10e0 where
  | mk (a : Int) (d f : Nat) (i : Int) (j l : Bool) (m o p : LV) (q s t u : Int)
inductive N154_r10 where
  | e0 (x : T154_r10e0)
abbrev N154_r10.out : N154_r10 → VX × S
  | .e0 (.mk a d f i j l m o p q s t u) => (vN, S.mk (U :: U :: i64 a :: pT 0 :: un 4 (hS 1 d :: hS 2 f :: i64 i :: pT 3 :: pT 4 :: un 35 (vb j :: un 99 []))) [oF 2 [[vb l, lS 2 m]], oT 8 o, oT 2 p, oF 2 [[i64 q, i64 s]], oF 2 [[i64 t, i64 u]]])
abbrev E154_r10 := Ent.o1 N154_r10.out .e0 fun ⟨x⟩ => ⟨x, rfl⟩
noncomputable def D154_r10 : T154_r10s0 → PT N154_r10 | .mk a i j d f l m o p q s t => .testB (a == 1) (fun h0 => .auto 4 <| .testB (!f) (fun h1 => .auto 2 <| .ret (.e0 (.mk a i j d (d == 0) f l m o p q s t))) (fun h1 => .auto 2 <| .ret (.e0 (.mk a i j d false f l m o p q s t)))) (fun h0 => .auto 6 <| .ret (.e0 (.mk a i j d false f l m o p q s t)))
noncomputable def J154_r10 (y : T154_r10s0) : Option N154_r10 := (D154_r10 y).ev some
theorem J154_r10_ok (y : T154_r10s0) : ∀ b, J154_r10 y = some b → regP Tryz.prog X CC 154 0 B154 10 y.st = some (E154_r10.out b) := by
  cases y; exact reg_ok (E := E154_r10) (fun x => by kernel_rfl)
inductive T154_0s0 where
  | mk (a : Int) (d f : Nat) (i : Int) (j : Bool) (l m o : LV)
inductive T154_0e0 where
  | mk (a d : Nat) (f : Bool) (i j l : LV)
inductive N154_0 where
  | s0 (x : T154_0s0)
  | e0 (x : T154_0e0)
abbrev N154_0.out : N154_0 → VX × S
  | .s0 (.mk a d f i j l m o) => (vN, S.mk (U :: U :: i64 a :: pT 0 :: un 4 (hS 1 d :: hS 2 f :: i64 i :: un 137 [])) [oF 2 [[vb j, lS 2 l]], oT 8 m, oT 2 o])
  | .e0 (.mk p q s t u v) => (vX 0, S.mk (U :: U :: U :: pT 0 :: un 4 (hS 1 p :: hS 2 q :: un 138 [])) [oF 2 [[vb s, lS 2 t]], oT 8 u, oT 2 v])
abbrev E154_0 := Ent.o2 N154_0.out .s0 .e0 (fun b => by cases b <;> simp)
noncomputable def D154_0 : T154_0s0 → PT N154_0 | .mk d7 j m d o p l q => .test (d < (↑j : Int)) (fun h0 => .test (0 ≤ d ∧ d < (↑j : Int)) (fun h1 => .look RW206 (l[(0 : Nat) + Int.toNat d]?) fun s => .known (decide_eq_true h1) <| .look RW206 (l[(0 : Nat) + Int.toNat d]?) fun t => .auto 2 <| .cut E154_r10 (J154_r10_ok (.mk d7 j m d o p l q s.c0 s.c1 t.c2 t.c3)) fun | .e0 (.mk d8 d9 f0 f1 f2 f3 f4 f5 f6 f7 f8 f9 j0) => .cut E154_c48 (J154_c48_ok (.mk d8 d9 f0 f1 f2 f3 f4 f5 f6 f7 f8 f9 j0)) fun | .e0 (.mk j1 j2 j3 j4 j5 j6 j7 j8 j9 l0 l1 l2) => .cut E154_r12 (J154_r12_ok (.mk j1 j2 j3 j4 j5 j6 j7 j8 j9 l0 l1 l2)) fun | .e0 (.mk l3 l4 l5 l6 l7 l8 l9 m0 m1 m2 m3 m4 m5) => .cut E154_c69 (J154_c69_ok (.mk l3 l4 l5 l6 l7 l8 l9 m0 m1 m2 m3 m4 m5)) fun | .e0 (.mk m6 u f a m7 m8 i v w y z d0) => .auto 1 <| .test (0 ≤ a ∧ a < (↑u : Int)) (fun h2 => .look RW206 (i[(0 : Nat) + Int.toNat a]?) fun d1 => .ask E209 (F209_ok w y d1.c6 d1.c7 1) fun ⟨m9, o0⟩ => .auto 1 <| .known (decide_eq_true h2) <| .look RW206 (i[(0 : Nat) + Int.toNat a]?) fun d2 => .ask E209 (F209_ok z d0 d2.c6 d2.c7 1) fun ⟨o1, o2⟩ => .auto 1 <| .known (decide_eq_true h2) <| .look RW206 (i[(0 : Nat) + Int.toNat a]?) fun d3 => .ask E209 (F209_ok z d0 d3.c6 d3.c7 (-1)) fun ⟨o3, o4⟩ => .auto 1 <| .known (decide_eq_true h2) <| .look RW206 (i[(0 : Nat) + Int.toNat a]?) fun d4 => .ask E209 (F209_ok w y d4.c6 d4.c7 (-1)) fun ⟨o5, o6⟩ => .auto 1 <| .ask E210 (F210_ok ([[i64 m9, i64 o0], [i64 o1, i64 o2], [i64 o3, i64 o4], [i64 o5, i64 o6]])) fun ⟨o7, d5, d6⟩ => .test (0 + d5 ≤ List.length d6) (fun h3 => .auto 1 <| .test (0 + f ≤ List.length v ∧ (f + 1) * 32 ≤ 140737488355328 ∧ f + 1 ≤ 140737488355328) (fun h4 => .ret (.s0 (.mk m6 u (f + 1) (w64 (a + 1)) m7 m8 i (List.take f v ++ [[vb o7, lS 2 (List.take d5 d6)]])))) (fun _ => .fail)) (fun _ => .fail)) (fun _ => .fail)) (fun _ => .fail)) (fun h0 => .ret (.e0 (.mk j m o p l q)))
noncomputable def L154_0 := E154_0.loop fun | .s0 x => D154_0 x | _ => .fail
theorem L154_0_ok : LU 154 0 B154 0 E154_0 L154_0 :=
  lk (L := notIn []) (fun b hb => by cases b <;> first | (cases hb; done) | (rename_i x; cases x; intro x; kernel_rfl) | (intro x; kernel_rfl))
noncomputable def N154_0.nx (n : Nat) : N154_0 → Option N154_0 | .s0 x => L154_0 n (.s0 x) | .e0 x => some (.e0 x)
theorem L154_0_s0 (n : Nat) (x : T154_0s0) : L154_0 (n + 1) (.s0 x) = (D154_0 x).ev (N154_0.nx n) := Ent.loop_eq fun c => by cases c <;> rfl
noncomputable def D154 (o : Bool) (p : LV) (t u : Int) : PT A154 := .auto 1 <| .tot O145 (F145_ok (Int.fdiv t 2) 0 67108864) fun q => .testB (q == 0) (fun h0 => .ret (.a0 0 ([]))) (fun h0 => .auto 1 <| .ask E208 (F208_ok o p q) fun ⟨v, w⟩ => .cut E154_0 (L154_0_ok (.s0 (.mk u v 0 0 o p w ([]))) rfl) fun | .e0 (.mk y z d0 d1 d2 d3) => (.cut E154_2 (L154_2_ok (.s0 (.mk y z 1 d0 d1 d2 d3)) rfl) fun | .e0 (.mk d4 d5 d6 d7 d8 d9) => (.cut E154_r19 (J154_r19_ok (.mk d4 d5 d6 d7 d8 d9)) fun | .e0 (.mk i f f0 s m) => .testB f0 (fun h1 => .test (0 ≤ w64 ((↑i : Int) - 1) ∧ w64 ((↑i : Int) - 1) < (↑i : Int)) (fun h2 => .look RW206 (s[(0 : Nat) + Int.toNat (w64 ((↑i : Int) - (1 : Int)))]?) fun a => .test ((0 : Int) ≤ (0 : Int) ∧ (0 : Int) < (↑i : Int)) (fun h3 => .look RW206 (s[(0 : Nat)]?) fun d => .ask E211 (F211_ok a.c0 a.c1 a.c2 a.c3 a.c4 a.c5 a.c6 a.c7 d.c0 d.c1 d.c2 d.c3 d.c4 d.c5 d.c6 d.c7) fun ⟨j, l⟩ => .test (0 + j ≤ List.length l) (fun h4 => .test (0 + f ≤ List.length m ∧ (f + List.length (List.take j l)) * 32 ≤ 140737488355328 ∧ f + List.length (List.take j l) ≤ 140737488355328) (fun h5 => .ret (.a0 (f + List.length (List.take j l)) (List.take f m ++ List.take j l))) (fun _ => .fail)) (fun _ => .fail)) (fun _ => .fail)) (fun _ => .fail)) (fun h1 => .ret (.a0 f m))) | _ => .fail) | _ => .fail)
noncomputable def F154 (a : Bool) (d : LV) (f i : Int) : Option A154 := (D154 a d f i).ev some
theorem F154_ok (a : Bool) (d : LV) (f i : Int) : FU E154 (F154 a d f i) 154 [V.agg [vb a, lS 2 d], i64 f, i64 i] := fu rfl rfl fun x => by kernel_rfl
/-! ## F88 -/
noncomputable abbrev B88 : Code := (Tryz.f88.body).getD .skip
inductive T88_2s0 where
  | mk (a d : Int) (f i j : Nat) (l m : Int) (o : Nat) (p q : Int) (s : W34) (t : W59) (u v w y : LV)
inductive T88_2e0 where
  | mk (a d : Int) (f i j : Nat) (l m : Int) (o : W34) (p : W59) (q s t : LV)
inductive N88_2 where
  | s0 (x : T88_2s0)
  | e0 (x : T88_2e0)
abbrev N88_2.out : N88_2 → VX × S
  | .s0 (.mk a d f i j l m o p q s t u v w y) => (vN, S.mk (U :: i64 a :: U :: i64 d :: pT 0 :: U :: pT 1 :: U :: U :: hS 2 f :: U :: U :: hS 3 i :: un 52 (hS 4 j :: i64 l :: i64 m :: un 6 (hS 5 o :: i64 p :: i64 q :: un 32 []))) [oF 32 [W34.cells s], oF 6 [W59.cells t], oT 17 u, oT 2 v, oT 2 w, oT 2 y])
  | .e0 (.mk z d0 d1 d2 d3 d4 d5 d6 d7 d8 d9 f0) => (vX 2, S.mk (U :: i64 z :: U :: i64 d0 :: pT 0 :: U :: pT 1 :: U :: U :: hS 2 d1 :: U :: U :: hS 3 d2 :: un 52 (hS 4 d3 :: i64 d4 :: i64 d5 :: un 41 [])) [oF 32 [W34.cells d6], oF 6 [W59.cells d7], oT 17 d8, oT 2 d9, oT 2 f0])
abbrev E88_2 := Ent.o2 N88_2.out .s0 .e0 (fun b => by cases b <;> simp)
noncomputable def D88_2 : T88_2s0 → PT N88_2 | .mk l o p a q s t u v d j w y m z d0 => .test (d < v) (fun h0 => .test (0 ≤ d ∧ d < (↑u : Int)) (fun h1 => .look RW88 (d0[(0 : Nat) + Int.toNat d]?) fun d1 => .auto 3 <| .ask E143 (F143_ok j.c23 l 0) fun ⟨d2⟩ => .auto 1 <| .ask E154 (F154_ok d1.c0 d1.c1 d2 j.c28) fun ⟨f, i⟩ => .test (0 + f ≤ List.length i) (fun h2 => .test (0 + a ≤ List.length m ∧ (a + List.length (List.take f i)) * 32 ≤ 140737488355328 ∧ a + List.length (List.take f i) ≤ 140737488355328) (fun h3 => .ret (.s0 (.mk l o p (a + List.length (List.take f i)) q s t u v (w64 (d + 1)) j w y (List.take a m ++ List.take f i) z d0))) (fun _ => .fail)) (fun _ => .fail)) (fun _ => .fail)) (fun h0 => .ret (.e0 (.mk l o p a q s t j w y m z)))
noncomputable def L88_2 := E88_2.loop fun | .s0 x => D88_2 x | _ => .fail
theorem L88_2_ok : LU 88 0 B88 2 E88_2 L88_2 :=
  lk (L := notIn []) (fun b hb => by cases b <;> first | (cases hb; done) | (rename_i x; cases x; intro x; kernel_rfl) | (intro x; kernel_rfl))
noncomputable def N88_2.nx (n : Nat) : N88_2 → Option N88_2 | .s0 x => L88_2 n (.s0 x) | .e0 x => some (.e0 x)
theorem L88_2_s0 (n : Nat) (x : T88_2s0) : L88_2 (n + 1) (.s0 x) = (D88_2 x).ev (N88_2.nx n) := Ent.loop_eq fun c => by cases c <;> rfl
inductive T88_0s0 where
  | mk (a d : Int) (f i j : Nat) (l m : Int) (o : W34) (p : W59) (q s t : LV)
inductive T88_0e0 where
  | mk (a : Int) (d f : Nat) (i : W34) (j : W59) (l m : LV)
inductive N88_0 where
  | s0 (x : T88_0s0)
  | e0 (x : T88_0e0)
abbrev N88_0.out : N88_0 → VX × S
  | .s0 (.mk a d f i j l m o p q s t) => (vN, S.mk (U :: i64 a :: U :: i64 d :: pT 0 :: U :: pT 1 :: U :: U :: hS 2 f :: U :: U :: hS 3 i :: un 52 (hS 4 j :: i64 l :: i64 m :: un 41 [])) [oF 32 [W34.cells o], oF 6 [W59.cells p], oT 17 q, oT 2 s, oT 2 t])
  | .e0 (.mk u v w y z d0 d1) => (vX 0, S.mk (U :: U :: U :: i64 u :: pT 0 :: U :: pT 1 :: U :: U :: hS 2 v :: U :: U :: hS 3 w :: un 96 []) [oF 32 [W34.cells y], oF 6 [W59.cells z], oT 17 d0, oT 2 d1])
abbrev E88_0 := Ent.o2 N88_0.out .s0 .e0 (fun b => by cases b <;> simp)
noncomputable def D88_0 : T88_0s0 → PT N88_0 | .mk v f i j l m a d o p q s => .test (a < m) (fun h0 => .test (0 ≤ a ∧ a < (↑l : Int)) (fun h1 => .look RW88 (s[(0 : Nat) + Int.toNat a]?) fun t => .auto 3 <| .ask E153 (F153_ok t.c0 t.c1 d.c29) fun ⟨u, w⟩ => .cut E88_2 (L88_2_ok (.s0 (.mk v f i j l m a u ((↑u : Int)) 0 d o p q s w)) rfl) fun | .e0 (.mk y z d0 d1 d2 d3 d4 d5 d6 d7 d8 d9) => .ret (.s0 (.mk y z d0 d1 d2 d3 (w64 (d4 + 1)) d5 d6 d7 d8 d9)) | _ => .fail) (fun _ => .fail)) (fun h0 => .ret (.e0 (.mk f i j d o p q)))
noncomputable def L88_0 := E88_0.loop fun | .s0 x => D88_0 x | _ => .fail
theorem L88_0_ok : LU 88 0 B88 0 E88_0 L88_0 :=
  lk (L := notIn []) (fun b hb => by cases b <;> first | (cases hb; done) | (rename_i x; cases x; intro x; kernel_rfl) | (intro x; kernel_rfl))
noncomputable def N88_0.nx (n : Nat) : N88_0 → Option N88_0 | .s0 x => L88_0 n (.s0 x) | .e0 x => some (.e0 x)
theorem L88_0_s0 (n : Nat) (x : T88_0s0) : L88_0 (n + 1) (.s0 x) = (D88_0 x).ev (N88_0.nx n) := Ent.loop_eq fun c => by cases c <;> rfl
inductive T88_c27s0 where
  | mk (a d : Int) (f : Bool) (i : W34) (j : W59) (l : Bool) (m : Nat) (o : LV)
abbrev T88_c27s0.st : T88_c27s0 → S
  | .mk a d f i j l m o => S.mk (U :: i64 a :: U :: i64 d :: pT 0 :: U :: pT 1 :: U :: U :: hS 2 0 :: pT 3 :: un 16 (vb f :: un 81 [])) [oF 32 [W34.cells i], oF 6 [W59.cells j], oT 17 [], oF 2 [[vb l, hS 4 m]], oT 2 o]
inductive T88_c27e0 where
  | mk (a d : Int) (f : W34) (i : W59) (j : LV) (l : Bool) (m : Nat) (o : LV)
inductive T88_c27e1 where
  | mk (a d : Int) (f : W34) (i : W59) (j : Bool) (l : Nat) (m : LV)
inductive N88_c27 where
  | e0 (x : T88_c27e0)
  | e1 (x : T88_c27e1)
abbrev N88_c27.out : N88_c27 → VX × S
  | .e0 (.mk a d f i j l m o) => (vN, S.mk (U :: i64 a :: U :: i64 d :: pT 0 :: U :: pT 1 :: U :: U :: hS 2 1 :: pT 3 :: un 98 []) [oF 32 [W34.cells f], oF 6 [W59.cells i], oT 17 j, oF 2 [[vb l, hS 4 m]], Ob.cells false true 2 o])
  | .e1 (.mk p q s t u v w) => (vN, S.mk (U :: i64 p :: U :: i64 q :: pT 0 :: U :: pT 1 :: U :: U :: hS 2 0 :: pT 3 :: un 98 []) [oF 32 [W34.cells s], oF 6 [W59.cells t], oT 17 [], oF 2 [[vb u, hS 4 v]], oT 2 w])
abbrev E88_c27 := Ent.o2 N88_c27.out .e0 .e1 (fun b => by cases b <;> simp)
noncomputable def D88_c27 : T88_c27s0 → PT N88_c27 | .mk j l q a d m f i => .testB q (fun h0 => .auto 2 <| .ask E150 (F150_ok d a.c7 a.c8 a.c9 a.c10 a.c11 a.c12 a.c13 a.c14 a.c15 a.c16 a.c17 a.c18 a.c19 a.c20) fun ⟨s, t, u, v, w, y, z, d0, d1, d2, d3, d4, d5, d6⟩ => .auto 3 <| .ask E151 (F151_ok a.c21 j t u v w) fun ⟨d7, d8, d9, f0⟩ => .auto 3 <| .test (0 + f ≤ List.length i) (fun h1 => .auto 1 <| .ask E148 (F148_ok d ([[vb m, lS 2 (List.take f i)]])) fun ⟨o, p⟩ => .auto 2 <| .test (0 + o ≤ List.length p) (fun h2 => .auto 2 <| .ret (.e0 (.mk j l a d ([[lS 2 (List.take o p), i64 a.c6, i64 s, u8 d7, u8 d8, u8 d9, u8 f0, u8 y, u8 z, u8 d0, u8 d1, i64 d2, i64 d3, i64 d4, i64 d5, i64 d6, i64 l]]) m f i))) (fun _ => .fail)) (fun _ => .fail)) (fun h0 => .ret (.e1 (.mk j l a d m f i)))
noncomputable def J88_c27 (y : T88_c27s0) : Option N88_c27 := (D88_c27 y).ev some
theorem J88_c27_ok (y : T88_c27s0) : CU 88 0 B88 27 E88_c27 (J88_c27 y) y.st := by
  cases y; exact cond_ok (L := notIn []) fun x => by kernel_rfl
noncomputable def D88 (m : W34) (v : Int) (f3 : W59) (f4 : Int) : PT A88 := .auto 1 <| .ask E52 (F52_ok m v) fun ⟨f5, w, y⟩ => .test (0 + w ≤ List.length y) (fun h0 => .ask E149 (F149_ok f5 (List.take w y)) fun ⟨f6, z, f7⟩ => .auto 2 <| .testB ((↑z : Int) == 0) (fun h1 => .ret (.a0 0 ([]))) (fun h1 => .auto 1 <| .cut E88_c27 (J88_c27_ok (.mk v f4 m.c5 m f3 f6 z f7)) fun | .e0 (.mk o f8 j f9 d0 j0 d1 d2) => (.auto 1 <| .testB (!j.c22) (fun h2 => .ret (.a0 1 d0)) (fun h2 => .auto 1 <| .test (0 + d1 ≤ List.length d2) (fun h3 => .auto 1 <| .ask E143 (F143_ok j.c30 o 0) fun ⟨j1⟩ => .auto 1 <| .ask E143 (F143_ok j.c31 o 65536) fun ⟨j2⟩ => .auto 1 <| .ask E152 (F152_ok ([[vb j0, lS 2 (List.take d1 d2)]]) j1 j2) fun ⟨d3, j3⟩ => .cut E88_0 (L88_0_ok (.s0 (.mk o f8 1 0 d3 ((↑d3 : Int)) 0 j f9 d0 ([]) j3)) rfl) fun | .e0 (.mk j4 f p a j5 q d4) => (.test ((↑p : Int) > 0) (fun h4 => .auto 1 <| .test (0 + p ≤ List.length d4) (fun h5 => .ask E148 (F148_ok j5 (List.take p d4)) fun ⟨d5, d6⟩ => .auto 2 <| .test (0 + d5 ≤ List.length d6) (fun h6 => .auto 1 <| .test (0 + f ≤ List.length q ∧ (f + 1) * 96 ≤ 140737488355328 ∧ f + 1 ≤ 140737488355328) (fun h7 => .ret (.a0 (f + 1) (List.take f q ++ [[lS 2 (List.take d5 d6), i64 0, i64 0, u8 a.c24, u8 a.c25, u8 a.c26, u8 a.c27, u8 a.c24, u8 a.c25, u8 a.c26, u8 a.c27, i64 0, i64 0, i64 0, i64 0, i64 0, i64 j4]]))) (fun _ => .fail)) (fun _ => .fail)) (fun _ => .fail)) (fun h4 => .ret (.a0 f q))) | _ => .fail) (fun _ => .fail))) | .e1 (.mk s j6 l j7 j8 d7 d8) => .auto 1 <| .testB (!l.c22) (fun h2 => .ret (.a0 0 ([]))) (fun h2 => .auto 1 <| .test (0 + d7 ≤ List.length d8) (fun h3 => .auto 1 <| .ask E143 (F143_ok l.c30 s 0) fun ⟨j9⟩ => .auto 1 <| .ask E143 (F143_ok l.c31 s 65536) fun ⟨l0⟩ => .auto 1 <| .ask E152 (F152_ok ([[vb j8, lS 2 (List.take d7 d8)]]) j9 l0) fun ⟨d9, l1⟩ => .cut E88_0 (L88_0_ok (.s0 (.mk s j6 0 0 d9 ((↑d9 : Int)) 0 l j7 ([]) ([]) l1)) rfl) fun | .e0 (.mk l2 i t d l3 u f0) => (.test ((↑t : Int) > 0) (fun h4 => .auto 1 <| .test (0 + t ≤ List.length f0) (fun h5 => .ask E148 (F148_ok l3 (List.take t f0)) fun ⟨f1, f2⟩ => .auto 2 <| .test (0 + f1 ≤ List.length f2) (fun h6 => .auto 1 <| .test (0 + i ≤ List.length u ∧ (i + 1) * 96 ≤ 140737488355328 ∧ i + 1 ≤ 140737488355328) (fun h7 => .ret (.a0 (i + 1) (List.take i u ++ [[lS 2 (List.take f1 f2), i64 0, i64 0, u8 d.c24, u8 d.c25, u8 d.c26, u8 d.c27, u8 d.c24, u8 d.c25, u8 d.c26, u8 d.c27, i64 0, i64 0, i64 0, i64 0, i64 0, i64 l2]]))) (fun _ => .fail)) (fun _ => .fail)) (fun _ => .fail)) (fun h4 => .ret (.a0 i u))) | _ => .fail) (fun _ => .fail)))) (fun _ => .fail)
noncomputable def F88 (a : W34) (d : Int) (f : W59) (i : Int) : Option A88 := (D88 a d f i).ev some
theorem F88_ok (a : W34) (d : Int) (f : W59) (i : Int) : FU E88 (F88 a d f i) 88 [V.agg (W34.cells a), i64 d, V.agg (W59.cells f), i64 i] := fu rfl rfl fun x => by kernel_rfl
/-! ## F89 -/
noncomputable def D89 (a : W85) (d : W85) : PT A89 := .auto 2 <| .ask E85 (F85_ok a.c0 d.c0) fun ⟨f⟩ => .testB f (fun h0 => .auto 7 <| .testB (a.c1 == d.c1) (fun h1 => .auto 7 <| .testB (a.c2 == d.c2 && (a.c3 == d.c3 && (a.c4 == d.c4 && (a.c5 == d.c5 && (a.c6 == d.c6 && true))) && (a.c7 == d.c7 && (a.c8 == d.c8 && (a.c9 == d.c9 && (a.c10 == d.c10 && true))) && (a.c11 == d.c11 && (a.c12 == d.c12 && true) && (a.c13 == d.c13 && (a.c14 == d.c14 && true) && (a.c15 == d.c15 && true)))))) (fun h2 => .auto 7 <| .ret (.a0 (a.c16 == d.c16))) (fun h2 => .auto 5 <| .ret (.a0 false))) (fun h1 => .auto 11 <| .ret (.a0 false))) (fun h0 => .auto 17 <| .ret (.a0 false))
noncomputable def F89 (a : W85) (d : W85) : Option A89 := (D89 a d).ev some
theorem F89_ok (a : W85) (d : W85) : FU E89 (F89 a d) 89 [V.agg (W85.cells a), V.agg (W85.cells d)] := fu rfl rfl fun x => by kernel_rfl
/-! ## F30 -/
noncomputable abbrev B30 : Code := (Tryz.f30.body).getD .skip
inductive T30_0s0 where
  | mk (a d : Nat) (f i : Int) (j l : LV)
inductive N30_0 where
  | s0 (x : T30_0s0)
  | e0
  | e1
abbrev N30_0.out : N30_0 → VX × S
  | .s0 (.mk a d f i j l) => (vN, S.mk (un 9 (hS 0 a :: hS 1 d :: un 17 (i64 f :: i64 i :: un 13 []))) [oT 17 j, oT 17 l])
  | .e0 => (VX.ret, S.mk (un 8 (vb false :: un 34 [])) [])
  | .e1 => (vX 0, S.mk (un 43 []) [])
abbrev E30_0 := Ent.o3 N30_0.out .s0 (fun (_ : Unit) => .e0) (fun (_ : Unit) => .e1) (fun b => by cases b <;> simp)
noncomputable def D30_0 : T30_0s0 → PT N30_0 | .mk d f i a j l => .test (a < i) (fun h0 => .test (0 ≤ a ∧ a < (↑d : Int)) (fun h1 => .look RW85 (j[(0 : Nat) + Int.toNat a]?) fun m => .test (0 ≤ a ∧ a < (↑f : Int)) (fun h2 => .look RW85 (l[(0 : Nat) + Int.toNat a]?) fun o => .ask E89 (F89_ok m o) fun ⟨p⟩ => .testB (!p) (fun h3 => .ret .e0) (fun h3 => .ret (.s0 (.mk d f i (w64 (a + 1)) j l)))) (fun _ => .fail)) (fun _ => .fail)) (fun h0 => .ret .e1)
noncomputable def L30_0 := E30_0.loop fun | .s0 x => D30_0 x | _ => .fail
theorem L30_0_ok : LU 30 0 B30 0 E30_0 L30_0 :=
  lk (L := notIn []) (fun b hb => by cases b <;> first | (cases hb; done) | (rename_i x; cases x; intro x; kernel_rfl) | (intro x; kernel_rfl))
noncomputable def N30_0.nx (n : Nat) : N30_0 → Option N30_0 | .s0 x => L30_0 n (.s0 x) | .e0 => some .e0 | .e1 => some .e1
theorem L30_0_s0 (n : Nat) (x : T30_0s0) : L30_0 (n + 1) (.s0 x) = (D30_0 x).ev (N30_0.nx n) := Ent.loop_eq fun c => by cases c <;> rfl
noncomputable def D30 (d : W34) (f : Int) (i : W59) (j : Int) : PT A30 := .auto 2 <| .ask E75 (F75_ok d f i j) fun ⟨a, m⟩ => .auto 2 <| .ask E88 (F88_ok d f i j) fun ⟨l, o⟩ => .testB ((↑a : Int) != (↑l : Int)) (fun h0 => .ret (.a0 false)) (fun h0 => .cut E30_0 (L30_0_ok (.s0 (.mk a l ((↑a : Int)) 0 m o)) rfl) fun | .e0 => .ret (.a0 false) | .e1 => .ret (.a0 true) | _ => .fail)
noncomputable def F30 (a : W34) (d : Int) (f : W59) (i : Int) : Option A30 := (D30 a d f i).ev some
theorem F30_ok (a : W34) (d : Int) (f : W59) (i : Int) : FU E30 (F30 a d f i) 30 [V.agg (W34.cells a), i64 d, V.agg (W59.cells f), i64 i] := fu rfl rfl fun x => by kernel_rfl
/-! ## F7 -/
noncomputable abbrev B7 : Code := (Tryz.f7.body).getD .skip
inductive T7_r11s0 where
  | mk (a d f i : Int) (j : LV) (l m : Int) (o : W59) (p q : LV)
abbrev T7_r11s0.st : T7_r11s0 → S
  | .mk a d f i j l m o p q => S.mk (U :: U :: i64 a :: U :: i64 d :: U :: U :: U :: pT 0 :: un 6 (pT 1 :: i64 f :: un 6 (hS 2 2 :: i64 2 :: i64 i :: un 4 (lS 1 j :: i64 l :: i64 m :: un 44 [])))) [oF 6 [W59.cells o], oF 1 [[lS 50 p]], oT 3 q]
inductive T7_r11e0 where
  | mk (a d f i : Int) (j : LV) (l m : Int) (o : Bool) (p : W59) (q s : LV)
inductive N7_r11 where
  | e0 (x : T7_r11e0)
abbrev N7_r11.out : N7_r11 → VX × S
  | .e0 (.mk a d f i j l m o p q s) => (vN, S.mk (U :: U :: i64 a :: U :: i64 d :: U :: U :: U :: pT 0 :: un 6 (pT 1 :: i64 f :: un 6 (hS 2 2 :: i64 2 :: i64 i :: un 4 (lS 1 j :: i64 l :: i64 m :: un 25 (vb o :: un 18 []))))) [oF 6 [W59.cells p], oF 1 [[lS 50 q]], oT 3 s])
abbrev E7_r11 := Ent.o1 N7_r11.out .e0 fun ⟨x⟩ => ⟨x, rfl⟩
noncomputable def D7_r11 : T7_r11s0 → PT N7_r11 | .mk f i a j l m o p d q => .auto 1 <| .test (a < (d.length : Int)) (fun h0 => .auto 2 <| .ret (.e0 (.mk f i a j l m o (decide (a < 6)) p d q))) (fun h0 => .auto 2 <| .ret (.e0 (.mk f i a j l m o false p d q)))
noncomputable def J7_r11 (y : T7_r11s0) : Option N7_r11 := (D7_r11 y).ev some
theorem J7_r11_ok (y : T7_r11s0) : ∀ b, J7_r11 y = some b → regP Tryz.prog X CC 7 0 B7 11 y.st = some (E7_r11.out b) := by
  cases y; exact reg_ok (E := E7_r11) (fun x => by kernel_rfl)
inductive T7_4s0 where
  | mk (a d f i : Int) (j : LV) (l m : Int) (o : W59) (p q : LV)
inductive T7_4e1 where
  | mk (a d f : Int) (i : LV) (j l : Int) (m : W59) (o : LV)
inductive N7_4 where
  | s0 (x : T7_4s0)
  | e0
  | e1 (x : T7_4e1)
abbrev N7_4.out : N7_4 → VX × S
  | .s0 (.mk a d f i j l m o p q) => (vN, S.mk (U :: U :: i64 a :: U :: i64 d :: U :: U :: U :: pT 0 :: un 6 (pT 1 :: i64 f :: un 6 (hS 2 2 :: i64 2 :: i64 i :: un 4 (lS 1 j :: i64 l :: i64 m :: un 44 [])))) [oF 6 [W59.cells o], oF 1 [[lS 50 p]], oT 3 q])
  | .e0 => (VX.ret, S.mk (un 10 (vb false :: un 66 [])) [])
  | .e1 (.mk s t u v w y z d0) => (vX 4, S.mk (U :: U :: i64 s :: U :: i64 t :: U :: U :: U :: pT 0 :: un 14 (hS 1 2 :: i64 2 :: i64 u :: un 4 (lS 1 v :: i64 w :: i64 y :: un 44 []))) [oF 6 [W59.cells z], oT 3 d0])
abbrev E7_4 := Ent.o3 N7_4.out .s0 (fun (_ : Unit) => .e0) .e1 (fun b => by cases b <;> simp)
noncomputable def D7_4 : T7_4s0 → PT N7_4 | .mk t u v w y z d0 d1 d2 d3 => .cut E7_r11 (J7_r11_ok (.mk t u v w y z d0 d1 d2 d3)) fun | .e0 (.mk d f i l m o p d4 j q s) => .testB d4 (fun h0 => .auto 1 <| .test (0 ≤ i) (fun h1 => .look RW57 (q[Int.toNat i]?) fun a => .auto 1 <| .ask E30 (F30_ok (W34.mk a.c18 a.c19 a.c20 a.c21 a.c22 a.c23 a.c24 a.c25 a.c26 a.c27 a.c28 a.c29 a.c30 a.c31 a.c32 a.c33 a.c34 a.c35 a.c36 a.c37 a.c38 a.c39 a.c40 a.c41 a.c42 a.c43 a.c44 a.c45 a.c46 a.c47 a.c48 a.c49) (w64 (w64 (↑(BitVec.toNat (BitVec.ofInt (IntKind.bits IntKind.i64) d &&& BitVec.ofInt (IntKind.bits IntKind.i64) 31)) : Int) - 4)) j f) fun ⟨d5⟩ => .testB (!d5) (fun h2 => .ret .e0) (fun h2 => .ret (.s0 (.mk d f (w64 (i + 1)) l m o p j q s)))) (fun _ => .fail)) (fun h0 => .ret (.e1 (.mk d f l m o p j s)))
noncomputable def L7_4 := E7_4.loop fun | .s0 x => D7_4 x | _ => .fail
theorem L7_4_ok : LU 7 0 B7 4 E7_4 L7_4 :=
  lk (L := notIn []) (fun b hb => by cases b <;> first | (cases hb; done) | (rename_i x; cases x; intro x; kernel_rfl) | (intro x; kernel_rfl))
noncomputable def N7_4.nx (n : Nat) : N7_4 → Option N7_4 | .s0 x => L7_4 n (.s0 x) | .e0 => some .e0 | .e1 x => some (.e1 x)
theorem L7_4_s0 (n : Nat) (x : T7_4s0) : L7_4 (n + 1) (.s0 x) = (D7_4 x).ev (N7_4.nx n) := Ent.loop_eq fun c => by cases c <;> rfl
inductive T7_r8s0 where
  | mk (a d f : Int) (i : LV) (j l : Int) (m : W59) (o p : LV)
abbrev T7_r8s0.st : T7_r8s0 → S
  | .mk a d f i j l m o p => S.mk (U :: U :: i64 a :: U :: i64 d :: U :: U :: U :: pT 0 :: un 6 (pT 1 :: un 7 (hS 2 2 :: i64 2 :: i64 f :: un 4 (lS 1 i :: i64 j :: i64 l :: un 44 [])))) [oF 6 [W59.cells m], oF 1 [[lS 50 o]], oT 3 p]
inductive T7_r8e0 where
  | mk (a d f : Int) (i : LV) (j l : Int) (m : Bool) (o : W59) (p q : LV)
inductive N7_r8 where
  | e0 (x : T7_r8e0)
abbrev N7_r8.out : N7_r8 → VX × S
  | .e0 (.mk a d f i j l m o p q) => (vN, S.mk (U :: U :: i64 a :: U :: i64 d :: U :: U :: U :: pT 0 :: un 6 (pT 1 :: un 7 (hS 2 2 :: i64 2 :: i64 f :: un 4 (lS 1 i :: i64 j :: i64 l :: un 16 (vb m :: un 27 []))))) [oF 6 [W59.cells o], oF 1 [[lS 50 p]], oT 3 q])
abbrev E7_r8 := Ent.o1 N7_r8.out .e0 fun ⟨x⟩ => ⟨x, rfl⟩
noncomputable def D7_r8 : T7_r8s0 → PT N7_r8 | .mk a i j l m o f d p => .auto 2 <| .ask E29 (F29_ok d (w64 (w64 (↑(BitVec.toNat (BitVec.ofInt (IntKind.bits IntKind.i64) a &&& BitVec.ofInt (IntKind.bits IntKind.i64) 31)) : Int) - 4)) f) fun ⟨q⟩ => .testB (!q) (fun h0 => .auto 5 <| .ret (.e0 (.mk a i j l m o true f d p))) (fun h0 => .auto 3 <| .tot O32 F32_ok fun s => .auto 1 <| .ask E29 (F29_ok d a s) fun ⟨t⟩ => .auto 2 <| .ret (.e0 (.mk a i j l m o (!t) f d p)))
noncomputable def J7_r8 (y : T7_r8s0) : Option N7_r8 := (D7_r8 y).ev some
theorem J7_r8_ok (y : T7_r8s0) : ∀ b, J7_r8 y = some b → regP Tryz.prog X CC 7 0 B7 8 y.st = some (E7_r8.out b) := by
  cases y; exact reg_ok (E := E7_r8) (fun x => by kernel_rfl)
inductive T7_2s0 where
  | mk (a d f : Int) (i : LV) (j l : Int) (m : W59) (o : LV)
inductive T7_2e1 where
  | mk (a d f : Int) (i : W59) (j : LV)
inductive N7_2 where
  | s0 (x : T7_2s0)
  | e0
  | e1 (x : T7_2e1)
abbrev N7_2.out : N7_2 → VX × S
  | .s0 (.mk a d f i j l m o) => (vN, S.mk (U :: U :: i64 a :: U :: i64 d :: U :: U :: U :: pT 0 :: un 14 (hS 1 2 :: i64 2 :: i64 f :: un 4 (lS 1 i :: i64 j :: i64 l :: un 44 []))) [oF 6 [W59.cells m], oT 3 o])
  | .e0 => (VX.ret, S.mk (un 10 (vb false :: un 66 [])) [])
  | .e1 (.mk p q s t u) => (vX 2, S.mk (U :: U :: i64 p :: U :: i64 q :: U :: U :: U :: pT 0 :: un 14 (hS 1 2 :: i64 2 :: i64 s :: un 51 [])) [oF 6 [W59.cells t], oT 3 u])
abbrev E7_2 := Ent.o3 N7_2.out .s0 (fun (_ : Unit) => .e0) .e1 (fun b => by cases b <;> simp)
noncomputable def D7_2 : T7_2s0 → PT N7_2 | .mk d f i j l a m o => .test (a < l) (fun h0 => .test (0 ≤ a) (fun h1 => .look RW52 (j[Int.toNat a]?) fun p => .auto 1 <| .cut E7_r8 (J7_r8_ok (.mk d f i j l a m p.c0 o)) fun | .e0 (.mk q s t u v w y z d0 d1) => .testB y (fun h2 => .ret .e0) (fun h2 => .cut E7_4 (L7_4_ok (.s0 (.mk q s 0 t u v w z d0 d1)) rfl) fun | .e0 => .ret .e0 | .e1 (.mk d2 d3 d4 d5 d6 d7 d8 d9) => .ret (.s0 (.mk d2 d3 d4 d5 d6 (w64 (d7 + 1)) d8 d9)) | _ => .fail)) (fun _ => .fail)) (fun h0 => .ret (.e1 (.mk d f i m o)))
noncomputable def L7_2 := E7_2.loop fun | .s0 x => D7_2 x | _ => .fail
theorem L7_2_ok : LU 7 0 B7 2 E7_2 L7_2 :=
  lk (L := notIn []) (fun b hb => by cases b <;> first | (cases hb; done) | (rename_i x; cases x; intro x; kernel_rfl) | (intro x; kernel_rfl))
noncomputable def N7_2.nx (n : Nat) : N7_2 → Option N7_2 | .s0 x => L7_2 n (.s0 x) | .e0 => some .e0 | .e1 x => some (.e1 x)
theorem L7_2_s0 (n : Nat) (x : T7_2s0) : L7_2 (n + 1) (.s0 x) = (D7_2 x).ev (N7_2.nx n) := Ent.loop_eq fun c => by cases c <;> rfl
inductive T7_0s0 where
  | mk (a d f : Int) (i : W59) (j : LV)
inductive N7_0 where
  | s0 (x : T7_0s0)
  | e0
  | e1
abbrev N7_0.out : N7_0 → VX × S
  | .s0 (.mk a d f i j) => (vN, S.mk (U :: U :: i64 a :: U :: i64 d :: U :: U :: U :: pT 0 :: un 14 (hS 1 2 :: i64 2 :: i64 f :: un 51 [])) [oF 6 [W59.cells i], oT 3 j])
  | .e0 => (VX.ret, S.mk (un 10 (vb false :: un 66 [])) [])
  | .e1 => (vX 0, S.mk (un 77 []) [])
abbrev E7_0 := Ent.o3 N7_0.out .s0 (fun (_ : Unit) => .e0) (fun (_ : Unit) => .e1) (fun b => by cases b <;> simp)
noncomputable def D7_0 : T7_0s0 → PT N7_0 | .mk i j a l d => .test (a < 2) (fun h0 => .test (0 ≤ a ∧ a < 2) (fun h1 => .look RW48 (d[(0 : Nat) + Int.toNat a]?) fun f => .auto 2 <| .cut E7_2 (L7_2_ok (.s0 (.mk i j a f.c2 (((List.length f.c2) : Int)) 0 l d)) rfl) fun | .e0 => .ret .e0 | .e1 (.mk m o p q s) => .ret (.s0 (.mk m o (w64 (p + 1)) q s)) | _ => .fail) (fun _ => .fail)) (fun h0 => .ret .e1)
noncomputable def L7_0 := E7_0.loop fun | .s0 x => D7_0 x | _ => .fail
theorem L7_0_ok : LU 7 0 B7 0 E7_0 L7_0 :=
  lk (L := notIn []) (fun b hb => by cases b <;> first | (cases hb; done) | (rename_i x; cases x; intro x; kernel_rfl) | (intro x; kernel_rfl))
noncomputable def N7_0.nx (n : Nat) : N7_0 → Option N7_0 | .s0 x => L7_0 n (.s0 x) | .e0 => some .e0 | .e1 => some .e1
theorem L7_0_s0 (n : Nat) (x : T7_0s0) : L7_0 (n + 1) (.s0 x) = (D7_0 x).ev (N7_0.nx n) := Ent.loop_eq fun c => by cases c <;> rfl
noncomputable def D7 (t u : LV) (j : Int) (l : W59) (m : Int) : PT A7 := .ask E20 (F20_ok t) fun ⟨f, i, a, v⟩ => .auto 3 <| .ask E31 (F31_ok f i a u v) fun | .a0 w y o d => (.test (0 + a ≤ List.length d) (fun h0 => .test (0 + o ≤ List.length d) (fun h1 => .cut E7_0 (L7_0_ok (.s0 (.mk j m 0 l ([[i64 f, i64 i, lS 1 (List.take a d)], [i64 w, i64 y, lS 1 (List.take o d)]]))) rfl) fun | .e1 => .ask E25 F25_ok fun ⟨z⟩ => .ret (.a0 z) | _ => .fail) (fun _ => .fail)) (fun _ => .fail)) | .a1 d0 d1 p q s => .test (0 + a ≤ List.length q) (fun h0 => .test (0 + p ≤ List.length s) (fun h1 => .cut E7_0 (L7_0_ok (.s0 (.mk j m 0 l ([[i64 f, i64 i, lS 1 (List.take a q)], [i64 d0, i64 d1, lS 1 (List.take p s)]]))) rfl) fun | .e1 => .ask E25 F25_ok fun ⟨d2⟩ => .ret (.a0 d2) | _ => .fail) (fun _ => .fail)) (fun _ => .fail)
noncomputable def F7 (a d : LV) (f : Int) (i : W59) (j : Int) : Option A7 := (D7 a d f i j).ev some
theorem F7_ok (a d : LV) (f : Int) (i : W59) (j : Int) : FU E7 (F7 a d f i j) 7 [lS 1 a, lS 4 d, i64 f, V.agg (W59.cells i), i64 j] := fu rfl rfl fun x => by kernel_rfl
end Go.Proofs.YtifalphladcdcaaGreat.H
