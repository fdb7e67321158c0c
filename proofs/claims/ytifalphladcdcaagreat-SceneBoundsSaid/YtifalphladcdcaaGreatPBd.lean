/- What the functions compute, and that they do so over the machine of plain values (printed by this session's program wip/vm/Walk.lean). No condition beyond those stated. -/
import Derived.Test.YtifalphladcdcaaGreatWk
import Derived.Test.YtifalphladcdcaaGreatHB
import Derived.Test.YtifalphladcdcaaGreatPBc
set_option linter.unusedVariables false
set_option linter.unusedSimpArgs false
namespace Go.Proofs.YtifalphladcdcaaGreat.H
open Go Go.VM
set_option maxRecDepth 100000
/-! ## F284 -/
noncomputable abbrev B284 : Code := (Tryz.f284.body).getD .skip
inductive T284_0s0 where
  | mk (a d f : Int)
inductive T284_0e0 where
  | mk (a : Int)
inductive N284_0 where
  | s0 (x : T284_0s0)
  | e0 (x : T284_0e0)
abbrev N284_0.out : N284_0 → VX × S
  | .s0 (.mk a d f) => (vN, S.mk (V.int IntKind.u64 a :: U :: U :: V.int IntKind.u64 d :: V.int IntKind.u64 f :: un 16 []) [])
  | .e0 (.mk i) => (vX 0, S.mk (U :: U :: U :: V.int IntKind.u64 i :: un 17 []) [])
abbrev E284_0 := Ent.o2 N284_0.out .s0 .e0 (fun b => by cases b <;> simp)
noncomputable def D284_0 : T284_0s0 → PT N284_0 | .mk f d a => .test (a > 0) (fun h0 => .test (IntKind.wrap IntKind.u64 (IntKind.wrap IntKind.u64 (↑(BitVec.toNat (BitVec.ofInt (IntKind.bits IntKind.u64) d ||| BitVec.ofInt (IntKind.bits IntKind.u64) a)) : Int) * IntKind.wrap IntKind.u64 (↑(BitVec.toNat (BitVec.ofInt (IntKind.bits IntKind.u64) d ||| BitVec.ofInt (IntKind.bits IntKind.u64) a)) : Int)) ≤ f) (fun h1 => .auto 1 <| .ret (.s0 (.mk f (IntKind.wrap IntKind.u64 (↑(BitVec.toNat (BitVec.ofInt (IntKind.bits IntKind.u64) d ||| BitVec.ofInt (IntKind.bits IntKind.u64) a)) : Int)) (Int.fdiv a 2)))) (fun h1 => .auto 1 <| .ret (.s0 (.mk f d (Int.fdiv a 2))))) (fun h0 => .ret (.e0 (.mk d)))
noncomputable def L284_0 := E284_0.loop fun | .s0 x => D284_0 x | _ => .fail
theorem L284_0_ok : LU 284 0 B284 0 E284_0 L284_0 :=
  lk (L := notIn []) (fun b hb => by cases b <;> first | (cases hb; done) | (rename_i x; cases x; intro x; kernel_rfl) | (intro x; kernel_rfl))
noncomputable def N284_0.nx (n : Nat) : N284_0 → Option N284_0 | .s0 x => L284_0 n (.s0 x) | .e0 x => some (.e0 x)
theorem L284_0_s0 (n : Nat) (x : T284_0s0) : L284_0 (n + 1) (.s0 x) = (D284_0 x).ev (N284_0.nx n) := Ent.loop_eq fun c => by cases c <;> rfl
noncomputable def D284 (a : Int) : PT A284 := .cut E284_0 (L284_0_ok (.s0 (.mk a 0 2147483648)) rfl) fun | .e0 (.mk d) => .ret (.a0 (w64 d)) | _ => .fail
noncomputable def F284 (a : Int) : Option A284 := (D284 a).ev some
theorem F284_ok (a : Int) : FU E284 (F284 a) 284 [V.int IntKind.u64 a] := fu rfl rfl fun x => by kernel_rfl
/-! ## F265 -/
noncomputable def D265 (f i : Int) : PT A265 := .tot O74 (F74_ok f (-1073741824) 1073741824) fun a => .tot O74 (F74_ok i (-1073741824) 1073741824) fun d => .ask E284 (F284_ok (IntKind.wrap IntKind.u64 (w64 (w64 (a * a) + w64 (d * d))))) fun ⟨j⟩ => .tot O132 (F132_ok j) fun l => .ret (.a0 l)
noncomputable def F265 (a d : Int) : Option A265 := (D265 a d).ev some
theorem F265_ok (a d : Int) : FU E265 (F265 a d) 265 [i64 a, i64 d] := fu rfl rfl fun x => by kernel_rfl
/-! ## F234 -/
noncomputable def D234 (a : W59) : PT A234 := .auto 2 <| .ask E265 (F265_ok a.c0 a.c1) fun ⟨d⟩ => .ret (.a0 d)
noncomputable def F234 (a : W59) : Option A234 := (D234 a).ev some
theorem F234_ok (a : W59) : FU E234 (F234 a) 234 [V.agg (W59.cells a)] := fu rfl rfl fun x => by kernel_rfl
/-! ## F194 -/
noncomputable def D194 (a : W59) (d f i j l m o p q s t u v w : Int) : PT A194 := .auto 2 <| .ask E198 (F198_ok a s t) fun ⟨y, z⟩ => .auto 2 <| .ask E198 (F198_ok a u v) fun ⟨d0, d1⟩ => .auto 2 <| .ask E234 (F234_ok a) fun ⟨d2⟩ => .ask E125 (F125_ok w d2) fun ⟨d3⟩ => .auto 5 <| .ret (.a0 d f i j l m o p q y z d0 d1 d3)
noncomputable def F194 (a : W59) (d f i j l m o p q s t u v w : Int) : Option A194 := (D194 a d f i j l m o p q s t u v w).ev some
theorem F194_ok (a : W59) (d f i j l m o p q s t u v w : Int) : FU E194 (F194 a d f i j l m o p q s t u v w) 194 [V.agg (W59.cells a), V.agg [i64 d, u8 f, u8 i, u8 j, u8 l, u8 m, u8 o, u8 p, u8 q, i64 s, i64 t, i64 u, i64 v, i64 w]] := fu rfl rfl fun x => by kernel_rfl
/-! ## F139 -/
noncomputable def D139 (a : W34) (f : Int) (d : W59) (i : Int) (j : LV) : PT A139 := .auto 4 <| .ask E193 (F193_ok a.c21 f a.c8 a.c9 a.c10 a.c11) fun ⟨l, m, o, p⟩ => .auto 2 <| .ask E147 (F147_ok d j) fun ⟨q, s⟩ => .auto 3 <| .ask E194 (F194_ok d a.c7 l m o p a.c12 a.c13 a.c14 a.c15 a.c16 a.c17 a.c18 a.c19 a.c20) fun ⟨t, u, v, w, y, z, d0, d1, d2, d3, d4, d5, d6, d7⟩ => .auto 1 <| .ret (.a0 q a.c6 t u v w y z d0 d1 d2 d3 d4 d5 d6 d7 i s)
noncomputable def F139 (a : W34) (d : Int) (f : W59) (i : Int) (j : LV) : Option A139 := (D139 a d f i j).ev some
theorem F139_ok (a : W34) (d : Int) (f : W59) (i : Int) (j : LV) : FU E139 (F139 a d f i j) 139 [V.agg (W34.cells a), i64 d, V.agg (W59.cells f), i64 i, lS 2 j] := fu rfl rfl fun x => by kernel_rfl
/-! ## F235 -/
noncomputable def D235 (f i : Int) : PT A235 := .tot O74 (F74_ok f 0 65536) fun a => .tot O74 (F74_ok i 0 65536) fun d => .ret (.a0 (if d < a then d else a) (if d > a then d else a))
noncomputable def F235 (a d : Int) : Option A235 := (D235 a d).ev some
theorem F235_ok (a d : Int) : FU E235 (F235 a d) 235 [i64 a, i64 d] := fu rfl rfl fun x => by kernel_rfl
/-! ## F266 -/
noncomputable def D266 (d : Bool) (a : LV) : PT Int := .auto 2 <| .testB d (fun h0 => .auto 2 <| .test ((a.length : Int) ≥ 2) (fun h1 => .ret ((a.length : Int))) (fun h1 => .ret (if w64 ((a.length : Int) - 1) > 0 then w64 ((a.length : Int) - 1) else 0))) (fun h0 => .auto 3 <| .ret (if w64 ((a.length : Int) - 1) > 0 then w64 ((a.length : Int) - 1) else 0))
abbrev O266 (a : Int) : V × Store := (i64 a, [])
noncomputable def F266 (a : Bool) (d : LV) : Int := (D266 a d).evT
theorem F266_ok (a : Bool) (d : LV) : UU 266 ([V.agg [vb a, lS 2 d]]) ([]) = some (O266 (F266 a d)) :=
  fnT_ok (out := O266) (L := notIn []) rfl rfl (fun x => by kernel_rfl) (by simp [D266, PT.isT])
/-! ## F285 -/
noncomputable def D285 (a d : Int) : PT A285 := .auto 1 <| .tot O241 (F241_ok a) fun f => .auto 1 <| .tot O241 (F241_ok d) fun i => .auto 1 <| .ret (.a0 f i)
noncomputable def F285 (a d : Int) : Option A285 := (D285 a d).ev some
theorem F285_ok (a d : Int) : FU E285 (F285 a d) 285 [V.agg [i64 a, i64 d]] := fu rfl rfl fun x => by kernel_rfl
/-! ## F267 -/
noncomputable def D267 (q : Bool) (a : LV) (d : Int) : PT A267 := .auto 1 <| .test (0 ≤ d) (fun h0 => .look RW28 (a[Int.toNat d]?) fun f => .ask E285 (F285_ok f.c0 f.c1) fun ⟨i, j⟩ => .auto 2 <| .test ((a.length : Int) = 0) (fun _ => .fail) (fun h1 => .test (0 ≤ Int.tmod (w64 (d + 1)) (a.length : Int)) (fun h2 => .look RW28 (a[Int.toNat (Int.tmod (w64 (d + (1 : Int))) (a.length : Int))]?) fun l => .ask E285 (F285_ok l.c0 l.c1) fun ⟨m, o⟩ => .auto 8 <| .ask E265 (F265_ok (w64 (m - i)) (w64 (o - j))) fun ⟨p⟩ => .auto 2 <| .ret (.a0 i j m o p)) (fun _ => .fail))) (fun _ => .fail)
noncomputable def F267 (a : Bool) (d : LV) (f : Int) : Option A267 := (D267 a d f).ev some
theorem F267_ok (a : Bool) (d : LV) (f : Int) : FU E267 (F267 a d f) 267 [V.agg [vb a, lS 2 d], i64 f] := fu rfl rfl fun x => by kernel_rfl
/-! ## F236 -/
noncomputable abbrev B236 : Code := (Tryz.f236.body).getD .skip
inductive T236_0s0 where
  | mk (a d f : Int) (i : Bool) (j : LV)
inductive T236_0e0 where
  | mk (a : Int)
inductive N236_0 where
  | s0 (x : T236_0s0)
  | e0 (x : T236_0e0)
abbrev N236_0.out : N236_0 → VX × S
  | .s0 (.mk a d f i j) => (vN, S.mk (U :: pT 0 :: U :: i64 a :: un 5 (i64 d :: i64 f :: un 14 [])) [oF 2 [[vb i, lS 2 j]]])
  | .e0 (.mk l) => (vX 0, S.mk (U :: U :: U :: i64 l :: un 21 []) [])
abbrev E236_0 := Ent.o2 N236_0.out .s0 .e0 (fun b => by cases b <;> simp)
noncomputable def D236_0 : T236_0s0 → PT N236_0 | .mk d f a i j => .test (a < f) (fun h0 => .auto 1 <| .ask E267 (F267_ok i j a) fun ⟨o, p, q, s, l⟩ => .auto 2 <| .tot O131 (F131_ok d l) fun m => .ret (.s0 (.mk m f (w64 (a + 1)) i j))) (fun h0 => .ret (.e0 (.mk d)))
noncomputable def L236_0 := E236_0.loop fun | .s0 x => D236_0 x | _ => .fail
theorem L236_0_ok : LU 236 0 B236 0 E236_0 L236_0 :=
  lk (L := notIn []) (fun b hb => by cases b <;> first | (cases hb; done) | (rename_i x; cases x; intro x; kernel_rfl) | (intro x; kernel_rfl))
noncomputable def N236_0.nx (n : Nat) : N236_0 → Option N236_0 | .s0 x => L236_0 n (.s0 x) | .e0 x => some (.e0 x)
theorem L236_0_s0 (n : Nat) (x : T236_0s0) : L236_0 (n + 1) (.s0 x) = (D236_0 x).ev (N236_0.nx n) := Ent.loop_eq fun c => by cases c <;> rfl
noncomputable def D236 (a : Bool) (d : LV) : PT A236 := .auto 1 <| .tot O266 (F266_ok a d) fun f => .cut E236_0 (L236_0_ok (.s0 (.mk 0 f 0 a d)) rfl) fun | .e0 (.mk i) => .ret (.a0 i) | _ => .fail
noncomputable def F236 (a : Bool) (d : LV) : Option A236 := (D236 a d).ev some
theorem F236_ok (a : Bool) (d : LV) : FU E236 (F236 a d) 236 [V.agg [vb a, lS 2 d]] := fu rfl rfl fun x => by kernel_rfl
/-! ## F269 -/
noncomputable def D269 (f i : Int) : PT A269 := .tot O132 (F132_ok f) fun d => .auto 1 <| .tot O132 (F132_ok i) fun a => .testB (a == 0) (fun h0 => .ret (.a0 0)) (fun h0 => .test (a = 0) (fun _ => .fail) (fun h1 => .known (decide_eq_false h1) <| .testB (Int.tmod (w64 (d * 65536)) a != 0) (fun h2 => .auto 5 <| .testB (!decide (w64 (d * 65536) < 0) == decide (a < 0)) (fun h3 => .tot O132 (F132_ok (w64 (w64 (Int.tdiv (w64 (d * 65536)) a) - 1))) fun j => .ret (.a0 j)) (fun h3 => .tot O132 (F132_ok (w64 (Int.tdiv (w64 (d * 65536)) a))) fun l => .ret (.a0 l))) (fun h2 => .auto 6 <| .tot O132 (F132_ok (w64 (Int.tdiv (w64 (d * 65536)) a))) fun m => .ret (.a0 m))))
noncomputable def F269 (a d : Int) : Option A269 := (D269 a d).ev some
theorem F269_ok (a d : Int) : FU E269 (F269 a d) 269 [i64 a, i64 d] := fu rfl rfl fun x => by kernel_rfl
/-! ## F268 -/
noncomputable def D268 (o p q s a d : Int) : PT A268 := .auto 1 <| .ask E285 (F285_ok o p) fun ⟨f, i⟩ => .auto 1 <| .ask E285 (F285_ok q s) fun ⟨j, l⟩ => .auto 2 <| .test (a ≤ 0) (fun h0 => .auto 2 <| .ret (.a0 f i)) (fun h0 => .test (a ≥ d) (fun h1 => .auto 2 <| .ret (.a0 j l)) (fun h1 => .ask E269 (F269_ok a d) fun ⟨m⟩ => .auto 2 <| .ask E134 (F134_ok f j m) fun ⟨t⟩ => .auto 2 <| .ask E134 (F134_ok i l m) fun ⟨u⟩ => .auto 1 <| .ret (.a0 t u)))
noncomputable def F268 (a d f i j l : Int) : Option A268 := (D268 a d f i j l).ev some
theorem F268_ok (a d f i j l : Int) : FU E268 (F268 a d f i j l) 268 [V.agg [i64 a, i64 d], V.agg [i64 f, i64 i], i64 j, i64 l] := fu rfl rfl fun x => by kernel_rfl
/-! ## F237 -/
noncomputable abbrev B237 : Code := (Tryz.f237.body).getD .skip
inductive T237_c50s0 where
  | mk (a d f i j l : Int) (m o : Bool) (p : LV) (q : Nat) (s t u v : Int) (w : LV)
abbrev T237_c50s0.st : T237_c50s0 → S
  | .mk a d f i j l m o p q s t u v w => S.mk (U :: i64 a :: i64 d :: pT 0 :: U :: U :: pT 1 :: pT 2 :: i64 f :: U :: pT 3 :: pT 4 :: i64 i :: un 9 (i64 j :: i64 l :: un 26 (vb m :: un 29 []))) [oF 2 [[vb o, lS 2 p]], oF 2 [[vb false, hS 5 0]], oF 2 [[vb false, hS 6 q]], oF 2 [[i64 s, i64 t]], oF 2 [[i64 u, i64 v]], oT 2 [], oT 2 w]
inductive T237_c50e0 where
  | mk (a d f i j l : Int) (m : Bool) (o : LV) (p : Nat) (q s t u : Int) (v : LV)
inductive N237_c50 where
  | e0 (x : T237_c50e0)
abbrev N237_c50.out : N237_c50 → VX × S
  | .e0 (.mk a d f i j l m o p q s t u v) => (vN, S.mk (U :: i64 a :: i64 d :: pT 0 :: U :: U :: pT 1 :: pT 2 :: i64 f :: U :: pT 3 :: pT 4 :: i64 i :: un 9 (i64 j :: i64 l :: un 56 [])) [oF 2 [[vb m, lS 2 o]], oF 2 [[vb false, hS 5 0]], oF 2 [[vb false, hS 6 p]], oF 2 [[i64 q, i64 s]], oF 2 [[i64 t, i64 u]], oT 2 [], oT 2 v])
abbrev E237_c50 := Ent.o1 N237_c50.out .e0 fun ⟨x⟩ => ⟨x, rfl⟩
noncomputable def D237_c50 : T237_c50s0 → PT N237_c50 | .mk d q f i s t w u v a j l m o p => .testB w (fun h0 => .auto 3 <| .ask E268 (F268_ok j l m o (w64 (d - f)) i) fun ⟨y, z⟩ => .auto 1 <| .test (0 + a ≤ List.length p ∧ (a + 1) * 16 ≤ 140737488355328 ∧ a + 1 ≤ 140737488355328) (fun h1 => .auto 1 <| .ret (.e0 (.mk d q f i s t u v (a + 1) j l m o (List.take a p ++ [[i64 y, i64 z]])))) (fun _ => .fail)) (fun h0 => .ret (.e0 (.mk d q f i s t u v a j l m o p)))
noncomputable def J237_c50 (y : T237_c50s0) : Option N237_c50 := (D237_c50 y).ev some
theorem J237_c50_ok (y : T237_c50s0) : CU 237 0 B237 50 E237_c50 (J237_c50 y) y.st := by
  cases y; exact cond_ok (L := notIn []) fun x => by kernel_rfl
inductive T237_r10s0 where
  | mk (a d f i j l : Int) (m : Bool) (o : LV) (p : Nat) (q s t u : Int) (v : LV)
abbrev T237_r10s0.st : T237_r10s0 → S
  | .mk a d f i j l m o p q s t u v => S.mk (U :: i64 a :: i64 d :: pT 0 :: U :: U :: pT 1 :: pT 2 :: i64 f :: U :: pT 3 :: pT 4 :: i64 i :: un 9 (i64 j :: i64 l :: un 56 [])) [oF 2 [[vb m, lS 2 o]], oF 2 [[vb false, hS 5 0]], oF 2 [[vb false, hS 6 p]], oF 2 [[i64 q, i64 s]], oF 2 [[i64 t, i64 u]], oT 2 [], oT 2 v]
inductive T237_r10e0 where
  | mk (a d f i j l : Int) (m o : Bool) (p : LV) (q : Nat) (s t u v : Int) (w : LV)
inductive N237_r10 where
  | e0 (x : T237_r10e0)
abbrev N237_r10.out : N237_r10 → VX × S
  | .e0 (.mk a d f i j l m o p q s t u v w) => (vN, S.mk (U :: i64 a :: i64 d :: pT 0 :: U :: U :: pT 1 :: pT 2 :: i64 f :: U :: pT 3 :: pT 4 :: i64 i :: un 9 (i64 j :: i64 l :: un 22 (vb m :: un 33 []))) [oF 2 [[vb o, lS 2 p]], oF 2 [[vb false, hS 5 0]], oF 2 [[vb false, hS 6 q]], oF 2 [[i64 s, i64 t]], oF 2 [[i64 u, i64 v]], oT 2 [], oT 2 w])
abbrev E237_r10 := Ent.o1 N237_r10.out .e0 fun ⟨x⟩ => ⟨x, rfl⟩
noncomputable def D237_r10 : T237_r10s0 → PT N237_r10 | .mk f i a d j l m o p q s t u v => .test (d > 0) (fun h0 => .auto 2 <| .tot O131 (F131_ok a d) fun w => .auto 3 <| .test (w > f) (fun h1 => .auto 3 <| .ret (.e0 (.mk f i a d j l (decide (a < i)) m o p q s t u v))) (fun h1 => .auto 3 <| .ret (.e0 (.mk f i a d j l false m o p q s t u v)))) (fun h0 => .auto 9 <| .ret (.e0 (.mk f i a d j l false m o p q s t u v)))
noncomputable def J237_r10 (y : T237_r10s0) : Option N237_r10 := (D237_r10 y).ev some
theorem J237_r10_ok (y : T237_r10s0) : ∀ b, J237_r10 y = some b → regP Tryz.prog X CC 237 0 B237 10 y.st = some (E237_r10.out b) := by
  cases y; exact reg_ok (E := E237_r10) (fun x => by kernel_rfl)
inductive T237_0s0 where
  | mk (a d f i j : Int) (l : Bool) (m : LV) (o : Nat) (p : LV)
inductive T237_0e0 where
  | mk (a : Nat) (d : LV)
inductive N237_0 where
  | s0 (x : T237_0s0)
  | e0 (x : T237_0e0)
abbrev N237_0.out : N237_0 → VX × S
  | .s0 (.mk a d f i j l m o p) => (vN, S.mk (U :: i64 a :: i64 d :: pT 0 :: U :: U :: pT 1 :: pT 2 :: i64 f :: un 13 (i64 i :: i64 j :: un 56 [])) [oF 2 [[vb l, lS 2 m]], oF 2 [[vb false, hS 3 0]], oF 2 [[vb false, hS 4 o]], oT 2 [], oT 2 p])
  | .e0 (.mk q s) => (vX 0, S.mk (un 6 (pT 0 :: pT 1 :: un 72 [])) [oF 2 [[vb false, hS 2 0]], oF 2 [[vb false, hS 3 q]], oT 2 [], oT 2 s])
abbrev E237_0 := Ent.o2 N237_0.out .s0 .e0 (fun b => by cases b <;> simp)
noncomputable def D237_0 : T237_0s0 → PT N237_0 | .mk d4 d5 d6 i d j l m o => .test (d < i) (fun h0 => .auto 1 <| .ask E267 (F267_ok j l d) fun ⟨d7, d8, d9, f0, f1⟩ => .auto 2 <| .cut E237_r10 (J237_r10_ok (.mk d4 d5 d6 f1 i d j l m d7 d8 d9 f0 o)) fun | .e0 (.mk p q s t u v f2 w y f f3 f4 f5 f6 z) => .testB f2 (fun h1 => .auto 1 <| .cut E237_c50 (J237_c50_ok (.mk p q s t u v ((↑f : Int) == 0) w y f f3 f4 f5 f6 z)) fun | .e0 (.mk f7 d0 d1 d2 f8 f9 j0 j1 a j2 j3 j4 j5 d3) => .auto 3 <| .ask E268 (F268_ok j2 j3 j4 j5 (w64 (d0 - d1)) d2) fun ⟨j6, j7⟩ => .auto 1 <| .test (0 + a ≤ List.length d3 ∧ (a + 1) * 16 ≤ 140737488355328 ∧ a + 1 ≤ 140737488355328) (fun h2 => .auto 1 <| .tot O131 (F131_ok d1 d2) fun j8 => .ret (.s0 (.mk f7 d0 j8 f8 (w64 (f9 + 1)) j0 j1 (a + 1) (List.take a d3 ++ [[i64 j6, i64 j7]])))) (fun _ => .fail)) (fun h1 => .tot O131 (F131_ok s t) fun j9 => .ret (.s0 (.mk p q j9 u (w64 (v + 1)) w y f z)))) (fun h0 => .ret (.e0 (.mk m o)))
noncomputable def L237_0 := E237_0.loop fun | .s0 x => D237_0 x | _ => .fail
theorem L237_0_ok : LU 237 0 B237 0 E237_0 L237_0 :=
  lk (L := notIn []) (fun b hb => by cases b <;> first | (cases hb; done) | (rename_i x; cases x; intro x; kernel_rfl) | (intro x; kernel_rfl))
noncomputable def N237_0.nx (n : Nat) : N237_0 → Option N237_0 | .s0 x => L237_0 n (.s0 x) | .e0 x => some (.e0 x)
theorem L237_0_s0 (n : Nat) (x : T237_0s0) : L237_0 (n + 1) (.s0 x) = (D237_0 x).ev (N237_0.nx n) := Ent.loop_eq fun c => by cases c <;> rfl
noncomputable def D237 (a : Bool) (d : LV) (j l : Int) : PT A237 := .tot O132 (F132_ok j) fun f => .tot O132 (F132_ok l) fun i => .test (f ≥ i) (fun h0 => .auto 2 <| .ret (.a0 false 0 ([]))) (fun h0 => .auto 1 <| .tot O266 (F266_ok a d) fun m => .cut E237_0 (L237_0_ok (.s0 (.mk f i 0 m 0 a d 0 ([]))) rfl) fun | .e0 (.mk o p) => (.auto 2 <| .ret (.a0 false o p)) | _ => .fail)
noncomputable def F237 (a : Bool) (d : LV) (f i : Int) : Option A237 := (D237 a d f i).ev some
theorem F237_ok (a : Bool) (d : LV) (f i : Int) : FU E237 (F237 a d f i) 237 [V.agg [vb a, lS 2 d], i64 f, i64 i] := fu rfl rfl fun x => by kernel_rfl
/-! ## F195 -/
noncomputable abbrev B195 : Code := (Tryz.f195.body).getD .skip
inductive T195_r6s0 where
  | mk (a d : Int) (f : Nat) (i : LV) (j l : Int) (m : LV) (o : Bool) (p : LV)
abbrev T195_r6s0.st : T195_r6s0 → S
  | .mk a d f i j l m o p => S.mk (U :: i64 a :: i64 d :: un 4 (hS 0 f :: U :: pT 1 :: un 8 (lS 2 i :: i64 j :: i64 l :: un 38 []))) [oT 2 m, oF 2 [[vb o, lS 2 p]]]
inductive T195_r6e0 where
  | mk (a d : Int) (f : Nat) (i : LV) (j l : Int) (m : Bool) (o : LV) (p : Bool) (q : LV)
inductive N195_r6 where
  | e0 (x : T195_r6e0)
abbrev N195_r6.out : N195_r6 → VX × S
  | .e0 (.mk a d f i j l m o p q) => (vN, S.mk (U :: i64 a :: i64 d :: un 4 (hS 0 f :: U :: pT 1 :: un 8 (lS 2 i :: i64 j :: i64 l :: un 8 (vb m :: un 29 [])))) [oT 2 o, oF 2 [[vb p, lS 2 q]]])
abbrev E195_r6 := Ent.o1 N195_r6.out .e0 fun ⟨x⟩ => ⟨x, rfl⟩
noncomputable def D195_r6 : T195_r6s0 → PT N195_r6 | .mk a d f i j l m o p => .testB (a == 0) (fun h0 => .auto 2 <| .ret (.e0 (.mk a d f i j l (d == 65536) m o p))) (fun h0 => .auto 2 <| .ret (.e0 (.mk a d f i j l false m o p)))
noncomputable def J195_r6 (y : T195_r6s0) : Option N195_r6 := (D195_r6 y).ev some
theorem J195_r6_ok (y : T195_r6s0) : ∀ b, J195_r6 y = some b → regP Tryz.prog X CC 195 0 B195 6 y.st = some (E195_r6.out b) := by
  cases y; exact reg_ok (E := E195_r6) (fun x => by kernel_rfl)
inductive T195_0s0 where
  | mk (a d : Int) (f : Nat) (i : LV) (j l : Int) (m : LV)
inductive T195_0e0 where
  | mk (a : Nat) (d : LV)
inductive N195_0 where
  | s0 (x : T195_0s0)
  | e0 (x : T195_0e0)
abbrev N195_0.out : N195_0 → VX × S
  | .s0 (.mk a d f i j l m) => (vN, S.mk (U :: i64 a :: i64 d :: un 4 (hS 0 f :: un 10 (lS 2 i :: i64 j :: i64 l :: un 38 []))) [oT 2 m])
  | .e0 (.mk o p) => (vX 0, S.mk (un 7 (hS 0 o :: un 51 [])) [oT 2 p])
abbrev E195_0 := Ent.o2 N195_0.out .s0 .e0 (fun b => by cases b <;> simp)
noncomputable def D195_0 : T195_0s0 → PT N195_0 | .mk d2 d3 u v w f y => .test (f < w) (fun h0 => .test (0 ≤ f) (fun h1 => .look RW88 (v[Int.toNat f]?) fun z => .auto 1 <| .cut E195_r6 (J195_r6_ok (.mk d2 d3 u v w f y z.c0 z.c1)) fun | .e0 (.mk i j a m o p d4 d q s) => .testB d4 (fun h2 => .auto 2 <| .ask E224 (F224_ok s) fun ⟨l⟩ => .test (0 + List.length l ≤ List.length l) (fun h3 => .auto 1 <| .test (0 + a ≤ List.length d ∧ (a + 1) * 32 ≤ 140737488355328 ∧ a + 1 ≤ 140737488355328) (fun h4 => .ret (.s0 (.mk i j (a + 1) m o (w64 (p + 1)) (List.take a d ++ [[vb q, lS 2 (List.take (List.length l) l)]])))) (fun _ => .fail)) (fun _ => .fail)) (fun h2 => .auto 1 <| .ask E236 (F236_ok q s) fun ⟨d0⟩ => .auto 1 <| .ask E125 (F125_ok d0 i) fun ⟨d5⟩ => .ask E125 (F125_ok d0 j) fun ⟨d6⟩ => .ask E237 (F237_ok q s d5 d6) fun ⟨d7, t, d1⟩ => .auto 2 <| .test ((↑t : Int) ≥ 2) (fun h3 => .auto 1 <| .test (0 + t ≤ List.length d1) (fun h4 => .auto 1 <| .test (0 + a ≤ List.length d ∧ (a + 1) * 32 ≤ 140737488355328 ∧ a + 1 ≤ 140737488355328) (fun h5 => .ret (.s0 (.mk i j (a + 1) m o (w64 (p + 1)) (List.take a d ++ [[vb d7, lS 2 (List.take t d1)]])))) (fun _ => .fail)) (fun _ => .fail)) (fun h3 => .ret (.s0 (.mk i j a m o (w64 (p + 1)) d))))) (fun _ => .fail)) (fun h0 => .ret (.e0 (.mk u y)))
noncomputable def L195_0 := E195_0.loop fun | .s0 x => D195_0 x | _ => .fail
theorem L195_0_ok : LU 195 0 B195 0 E195_0 L195_0 :=
  lk (L := notIn []) (fun b hb => by cases b <;> first | (cases hb; done) | (rename_i x; cases x; intro x; kernel_rfl) | (intro x; kernel_rfl))
noncomputable def N195_0.nx (n : Nat) : N195_0 → Option N195_0 | .s0 x => L195_0 n (.s0 x) | .e0 x => some (.e0 x)
theorem L195_0_s0 (n : Nat) (x : T195_0s0) : L195_0 (n + 1) (.s0 x) = (D195_0 x).ev (N195_0.nx n) := Ent.loop_eq fun c => by cases c <;> rfl
noncomputable def D195 (a : LV) (d f : Int) : PT A195 := .ask E235 (F235_ok d f) fun ⟨i, j⟩ => .cut E195_0 (L195_0_ok (.s0 (.mk i j 0 a ((a.length : Int)) 0 ([]))) rfl) fun | .e0 (.mk l m) => .ret (.a0 l m) | _ => .fail
noncomputable def F195 (a : LV) (d f : Int) : Option A195 := (D195 a d f).ev some
theorem F195_ok (a : LV) (d f : Int) : FU E195 (F195 a d f) 195 [lS 2 a, i64 d, i64 f] := fu rfl rfl fun x => by kernel_rfl
/-! ## F196 -/
noncomputable abbrev B196 : Code := (Tryz.f196.body).getD .skip
inductive T196_r6s0 where
  | mk (a : LV) (d : Nat) (f i j : Int) (l : Bool) (m o : LV)
abbrev T196_r6s0.st : T196_r6s0 → S
  | .mk a d f i j l m o => S.mk (U :: lS 1 a :: pT 0 :: U :: U :: hS 1 d :: i64 f :: i64 i :: i64 j :: un 56 []) [oF 2 [[vb l, lS 2 m]], oT 2 o]
inductive T196_r6e0 where
  | mk (a : LV) (d : Nat) (f i j : Int) (l m : Bool) (o p : LV)
inductive N196_r6 where
  | e0 (x : T196_r6e0)
abbrev N196_r6.out : N196_r6 → VX × S
  | .e0 (.mk a d f i j l m o p) => (vN, S.mk (U :: lS 1 a :: pT 0 :: U :: U :: hS 1 d :: i64 f :: i64 i :: i64 j :: un 25 (vb l :: un 30 [])) [oF 2 [[vb m, lS 2 o]], oT 2 p])
abbrev E196_r6 := Ent.o1 N196_r6.out .e0 fun ⟨x⟩ => ⟨x, rfl⟩
noncomputable def D196_r6 : T196_r6s0 → PT N196_r6 | .mk i j a d f l m o => .test (f < 128) (fun h0 => .auto 3 <| .ret (.e0 (.mk i j a d f (decide (d < a)) l m o))) (fun h0 => .auto 3 <| .ret (.e0 (.mk i j a d f false l m o)))
noncomputable def J196_r6 (y : T196_r6s0) : Option N196_r6 := (D196_r6 y).ev some
theorem J196_r6_ok (y : T196_r6s0) : ∀ b, J196_r6 y = some b → regP Tryz.prog X CC 196 0 B196 6 y.st = some (E196_r6.out b) := by
  cases y; exact reg_ok (E := E196_r6) (fun x => by kernel_rfl)
inductive T196_0s0 where
  | mk (a : LV) (d : Nat) (f i j : Int) (l : Bool) (m o : LV)
inductive T196_0e0 where
  | mk (a : Nat) (d : LV)
inductive N196_0 where
  | s0 (x : T196_0s0)
  | e0 (x : T196_0e0)
abbrev N196_0.out : N196_0 → VX × S
  | .s0 (.mk a d f i j l m o) => (vN, S.mk (U :: lS 1 a :: pT 0 :: U :: U :: hS 1 d :: i64 f :: i64 i :: i64 j :: un 56 []) [oF 2 [[vb l, lS 2 m]], oT 2 o])
  | .e0 (.mk p q) => (vX 0, S.mk (un 5 (hS 0 p :: un 59 [])) [oT 2 q])
abbrev E196_0 := Ent.o2 N196_0.out .s0 .e0 (fun b => by cases b <;> simp)
noncomputable def D196_0 : T196_0s0 → PT N196_0 | .mk t u v w y z d0 d1 => .cut E196_r6 (J196_r6_ok (.mk t u v w y z d0 d1)) fun | .e0 (.mk d a p i f d2 l m j) => .testB d2 (fun h0 => .test ((d.length : Int) = 0) (fun _ => .fail) (fun h1 => .test (0 ≤ Int.tmod f (d.length : Int)) (fun h2 => .look RW2 (d[Int.toNat (Int.tmod f (d.length : Int))]?) fun o => .auto 1 <| .testB (Int.tmod f 2 == 0) (fun h3 => .auto 1 <| .ask E237 (F237_ok l m i (w64 (i + o.c0))) fun ⟨d3, q, s⟩ => .auto 2 <| .test ((↑q : Int) ≥ 2) (fun h4 => .auto 1 <| .test (0 + q ≤ List.length s) (fun h5 => .auto 1 <| .test (0 + a ≤ List.length j ∧ (a + 1) * 32 ≤ 140737488355328 ∧ a + 1 ≤ 140737488355328) (fun h6 => .ret (.s0 (.mk d (a + 1) p (w64 (i + o.c0)) (w64 (f + 1)) l m (List.take a j ++ [[vb d3, lS 2 (List.take q s)]])))) (fun _ => .fail)) (fun _ => .fail)) (fun h4 => .ret (.s0 (.mk d a p (w64 (i + o.c0)) (w64 (f + 1)) l m j)))) (fun h3 => .ret (.s0 (.mk d a p (w64 (i + o.c0)) (w64 (f + 1)) l m j)))) (fun _ => .fail))) (fun h0 => .ret (.e0 (.mk a j)))
noncomputable def L196_0 := E196_0.loop fun | .s0 x => D196_0 x | _ => .fail
theorem L196_0_ok : LU 196 0 B196 0 E196_0 L196_0 :=
  lk (L := notIn []) (fun b hb => by cases b <;> first | (cases hb; done) | (rename_i x; cases x; intro x; kernel_rfl) | (intro x; kernel_rfl))
noncomputable def N196_0.nx (n : Nat) : N196_0 → Option N196_0 | .s0 x => L196_0 n (.s0 x) | .e0 x => some (.e0 x)
theorem L196_0_s0 (n : Nat) (x : T196_0s0) : L196_0 (n + 1) (.s0 x) = (D196_0 x).ev (N196_0.nx n) := Ent.loop_eq fun c => by cases c <;> rfl
inductive T196_r1s0 where
  | mk (a : LV) (d : Bool) (f : LV)
abbrev T196_r1s0.st : T196_r1s0 → S
  | .mk a d f => S.mk (U :: lS 1 a :: pT 0 :: un 62 []) [oF 2 [[vb d, lS 2 f]]]
inductive T196_r1e0 where
  | mk (a : LV) (d f : Bool) (i : LV)
inductive N196_r1 where
  | e0 (x : T196_r1e0)
abbrev N196_r1.out : N196_r1 → VX × S
  | .e0 (.mk a d f i) => (vN, S.mk (U :: lS 1 a :: pT 0 :: un 15 (vb d :: un 46 [])) [oF 2 [[vb f, lS 2 i]]])
abbrev E196_r1 := Ent.o1 N196_r1.out .e0 fun ⟨x⟩ => ⟨x, rfl⟩
noncomputable def D196_r1 : T196_r1s0 → PT N196_r1 | .mk a d f => .testB ((a.length : Int) == 0) (fun h0 => .auto 3 <| .ret (.e0 (.mk a true d f))) (fun h0 => .auto 1 <| .ask E57 (F57_ok a) fun ⟨i⟩ => .auto 2 <| .ret (.e0 (.mk a (!i) d f)))
noncomputable def J196_r1 (y : T196_r1s0) : Option N196_r1 := (D196_r1 y).ev some
theorem J196_r1_ok (y : T196_r1s0) : ∀ b, J196_r1 y = some b → regP Tryz.prog X CC 196 0 B196 1 y.st = some (E196_r1.out b) := by
  cases y; exact reg_ok (E := E196_r1) (fun x => by kernel_rfl)
noncomputable def D196 (i : Bool) (j l : LV) : PT A196 := .cut E196_r1 (J196_r1_ok (.mk l i j)) fun | .e0 (.mk m o d f) => .testB o (fun h0 => .auto 2 <| .ask E224 (F224_ok f) fun ⟨a⟩ => .test (0 + List.length a ≤ List.length a) (fun h1 => .ret (.a0 1 ([[vb d, lS 2 (List.take (List.length a) a)]]))) (fun _ => .fail)) (fun h0 => .auto 1 <| .ask E236 (F236_ok d f) fun ⟨p⟩ => .cut E196_0 (L196_0_ok (.s0 (.mk m 0 p 0 0 d f ([]))) rfl) fun | .e0 (.mk q s) => .ret (.a0 q s) | _ => .fail)
noncomputable def F196 (a : Bool) (d f : LV) : Option A196 := (D196 a d f).ev some
theorem F196_ok (a : Bool) (d f : LV) : FU E196 (F196 a d f) 196 [V.agg [vb a, lS 2 d], lS 1 f] := fu rfl rfl fun x => by kernel_rfl
/-! ## F238 -/
noncomputable abbrev B238 : Code := (Tryz.f238.body).getD .skip
inductive T238_0s0 where
  | mk (a : Nat) (d f : Int) (i : Bool) (j l : LV)
inductive T238_0e0 where
  | mk (a : Nat) (d : LV)
inductive N238_0 where
  | s0 (x : T238_0s0)
  | e0 (x : T238_0e0)
abbrev N238_0.out : N238_0 → VX × S
  | .s0 (.mk a d f i j l) => (vN, S.mk (U :: pT 0 :: U :: hS 1 a :: un 5 (i64 d :: i64 f :: un 33 [])) [oF 2 [[vb i, lS 2 j]], oT 6 l])
  | .e0 (.mk m o) => (vX 0, S.mk (U :: U :: U :: hS 0 m :: un 40 []) [oT 6 o])
abbrev E238_0 := Ent.o2 N238_0.out .s0 .e0 (fun b => by cases b <;> simp)
noncomputable def D238_0 : T238_0s0 → PT N238_0 | .mk a i d j l f => .test (d < i) (fun h0 => .auto 1 <| .ask E267 (F267_ok j l d) fun ⟨o, p, q, s, m⟩ => .auto 2 <| .test (m > 0) (fun h1 => .auto 4 <| .ask E269 (F269_ok (w64 (q - o)) m) fun ⟨t⟩ => .auto 2 <| .ask E269 (F269_ok (w64 (s - p)) m) fun ⟨u⟩ => .auto 1 <| .test (0 + a ≤ List.length f ∧ (a + 1) * 48 ≤ 140737488355328 ∧ a + 1 ≤ 140737488355328) (fun h2 => .ret (.s0 (.mk (a + 1) i (w64 (d + 1)) j l (List.take a f ++ [[i64 o, i64 p, i64 q, i64 s, i64 t, i64 u]])))) (fun _ => .fail)) (fun h1 => .ret (.s0 (.mk a i (w64 (d + 1)) j l f)))) (fun h0 => .ret (.e0 (.mk a f)))
noncomputable def L238_0 := E238_0.loop fun | .s0 x => D238_0 x | _ => .fail
theorem L238_0_ok : LU 238 0 B238 0 E238_0 L238_0 :=
  lk (L := notIn []) (fun b hb => by cases b <;> first | (cases hb; done) | (rename_i x; cases x; intro x; kernel_rfl) | (intro x; kernel_rfl))
noncomputable def N238_0.nx (n : Nat) : N238_0 → Option N238_0 | .s0 x => L238_0 n (.s0 x) | .e0 x => some (.e0 x)
theorem L238_0_s0 (n : Nat) (x : T238_0s0) : L238_0 (n + 1) (.s0 x) = (D238_0 x).ev (N238_0.nx n) := Ent.loop_eq fun c => by cases c <;> rfl
noncomputable def D238 (a : Bool) (d : LV) : PT A238 := .auto 1 <| .tot O266 (F266_ok a d) fun f => .cut E238_0 (L238_0_ok (.s0 (.mk 0 f 0 a d ([]))) rfl) fun | .e0 (.mk i j) => .ret (.a0 i j) | _ => .fail
noncomputable def F238 (a : Bool) (d : LV) : Option A238 := (D238 a d).ev some
theorem F238_ok (a : Bool) (d : LV) : FU E238 (F238 a d) 238 [V.agg [vb a, lS 2 d]] := fu rfl rfl fun x => by kernel_rfl
/-! ## F270 -/
noncomputable def D270 (a : W59) (d : Int) : PT A270 := .auto 1 <| .ask E125 (F125_ok (w64 (0 - a.c5)) d) fun ⟨f⟩ => .auto 1 <| .ask E125 (F125_ok a.c4 d) fun ⟨i⟩ => .ret (.a0 f i)
noncomputable def F270 (a : W59) (d : Int) : Option A270 := (D270 a d).ev some
theorem F270_ok (a : W59) (d : Int) : FU E270 (F270 a d) 270 [V.agg (W59.cells a), i64 d] := fu rfl rfl fun x => by kernel_rfl
/-! ## F271 -/
noncomputable def D271 (a d f i : Int) : PT A271 := .auto 3 <| .ret (.a0 (w64 (a + f)) (w64 (d + i)))
noncomputable def F271 (a d f i : Int) : Option A271 := (D271 a d f i).ev some
theorem F271_ok (a d f i : Int) : FU E271 (F271 a d f i) 271 [V.agg [i64 a, i64 d], i64 f, i64 i] := fu rfl rfl fun x => by kernel_rfl
/-! ## F286 -/
noncomputable def D286 (a d : Int) : PT A286 := .tot O241 (F241_ok a) fun f => .tot O241 (F241_ok d) fun i => .auto 1 <| .ret (.a0 f i)
noncomputable def F286 (a d : Int) : Option A286 := (D286 a d).ev some
theorem F286_ok (a d : Int) : FU E286 (F286 a d) 286 [i64 a, i64 d] := fu rfl rfl fun x => by kernel_rfl
/-! ## F295 -/
noncomputable abbrev B295 : Code := (Tryz.f295.body).getD .skip
inductive T295_0s0 where
  | mk (a : LV) (d f i : Int)
inductive T295_0e0 where
  | mk (a : Int)
inductive N295_0 where
  | s0 (x : T295_0s0)
  | e0 (x : T295_0e0)
abbrev N295_0.out : N295_0 → VX × S
  | .s0 (.mk a d f i) => (vN, S.mk (lS 2 a :: U :: U :: i64 d :: U :: U :: U :: lS 2 a :: i64 f :: i64 i :: un 37 []) [])
  | .e0 (.mk j) => (vX 0, S.mk (U :: U :: U :: i64 j :: un 43 []) [])
abbrev E295_0 := Ent.o2 N295_0.out .s0 .e0 (fun b => by cases b <;> simp)
noncomputable def D295_0 : T295_0s0 → PT N295_0 | .mk a f i d => .test (d < i) (fun h0 => .test (0 ≤ d) (fun h1 => .look RW28 (a[Int.toNat d]?) fun j => .auto 1 <| .test ((a.length : Int) = 0) (fun _ => .fail) (fun h2 => .test (0 ≤ Int.tmod (w64 (d + 1)) (a.length : Int)) (fun h3 => .look RW28 (a[Int.toNat (Int.tmod (w64 (d + (1 : Int))) (a.length : Int))]?) fun l => .auto 3 <| .ask E286 (F286_ok j.c0 j.c1) fun ⟨m, o⟩ => .auto 2 <| .ask E286 (F286_ok l.c0 l.c1) fun ⟨p, q⟩ => .auto 6 <| .ret (.s0 (.mk a (w64 (f + w64 (w64 (m * q) - w64 (p * o)))) i (w64 (d + 1))))) (fun _ => .fail))) (fun _ => .fail)) (fun h0 => .ret (.e0 (.mk f)))
noncomputable def L295_0 := E295_0.loop fun | .s0 x => D295_0 x | _ => .fail
theorem L295_0_ok : LU 295 0 B295 0 E295_0 L295_0 :=
  lk (L := notIn []) (fun b hb => by cases b <;> first | (cases hb; done) | (rename_i x; cases x; intro x; kernel_rfl) | (intro x; kernel_rfl))
noncomputable def N295_0.nx (n : Nat) : N295_0 → Option N295_0 | .s0 x => L295_0 n (.s0 x) | .e0 x => some (.e0 x)
theorem L295_0_s0 (n : Nat) (x : T295_0s0) : L295_0 (n + 1) (.s0 x) = (D295_0 x).ev (N295_0.nx n) := Ent.loop_eq fun c => by cases c <;> rfl
noncomputable def D295 (a : LV) : PT A295 := .cut E295_0 (L295_0_ok (.s0 (.mk a 0 ((a.length : Int)) 0)) rfl) fun | .e0 (.mk d) => .ret (.a0 d) | _ => .fail
noncomputable def F295 (a : LV) : Option A295 := (D295 a).ev some
theorem F295_ok (a : LV) : FU E295 (F295 a) 295 [lS 2 a] := fu rfl rfl fun x => by kernel_rfl
/-! ## F296 -/
noncomputable abbrev B296 : Code := (Tryz.f296.body).getD .skip
inductive T296_0s0 where
  | mk (a : Nat) (d f : Int) (i : LV)
inductive T296_0e0 where
  | mk (a : LV)
inductive N296_0 where
  | s0 (x : T296_0s0)
  | e0 (x : T296_0e0)
abbrev N296_0.out : N296_0 → VX × S
  | .s0 (.mk a d f i) => (vN, S.mk (hS 0 a :: U :: i64 d :: i64 f :: un 24 []) [oT 2 i])
  | .e0 (.mk j) => (vX 0, S.mk (un 28 []) [oT 2 j])
abbrev E296_0 := Ent.o2 N296_0.out .s0 .e0 (fun b => by cases b <;> simp)
noncomputable def D296_0 : T296_0s0 → PT N296_0 | .mk j a d f => .test (a < d) (fun h0 => .test (0 ≤ d ∧ d < (↑j : Int)) (fun h1 => .look RW28 (f[(0 : Nat) + Int.toNat d]?) fun i => .test (0 ≤ a ∧ a < (↑j : Int)) (fun h2 => .look RW28 (f[(0 : Nat) + Int.toNat a]?) fun l => .known (decide_eq_true h2) <| .look RW28 (f[(0 : Nat) + Int.toNat a]?) fun m => .known (decide_eq_true h1) <| .look RW28 ((List.set f ((0 : Nat) + Int.toNat a) [i64 i.c0, i64 i.c1])[(0 : Nat) + Int.toNat d]?) fun o => .ret (.s0 (.mk j (w64 (a + 1)) (w64 (d - 1)) (List.set (List.set f (0 + Int.toNat a) [i64 i.c0, i64 i.c1]) (0 + Int.toNat d) [i64 l.c0, i64 l.c1])))) (fun _ => .fail)) (fun _ => .fail)) (fun h0 => .ret (.e0 (.mk f)))
noncomputable def L296_0 := E296_0.loop fun | .s0 x => D296_0 x | _ => .fail
theorem L296_0_ok : LU 296 1 B296 0 E296_0 L296_0 :=
  lk (L := notIn []) (fun b hb => by cases b <;> first | (cases hb; done) | (rename_i x; cases x; intro x; kernel_rfl) | (intro x; kernel_rfl))
noncomputable def N296_0.nx (n : Nat) : N296_0 → Option N296_0 | .s0 x => L296_0 n (.s0 x) | .e0 x => some (.e0 x)
theorem L296_0_s0 (n : Nat) (x : T296_0s0) : L296_0 (n + 1) (.s0 x) = (D296_0 x).ev (N296_0.nx n) := Ent.loop_eq fun c => by cases c <;> rfl
noncomputable def D296 (a : Nat) (d : LV) : PT A296 := .cut E296_0 (L296_0_ok (.s0 (.mk a 0 (w64 ((↑a : Int) - 1)) d)) rfl) fun | .e0 (.mk f) => .ret (.a0 f) | _ => .fail
noncomputable def F296 (a : Nat) (d : LV) : Option A296 := (D296 a d).ev some
theorem F296_ok (a : Nat) (d : LV) : FU E296 (F296 a d) 296 [hS 0 a] [oT 2 d] := fu rfl rfl fun x => by kernel_rfl
/-! ## F287 -/
noncomputable def D287 (d : LV) : PT A287 := .ask E224 (F224_ok d) fun ⟨a⟩ => .ask E295 (F295_ok d) fun ⟨f⟩ => .test (f < 0) (fun h0 => .ask E296 (F296_ok (List.length a) a) fun ⟨i⟩ => .ret (.a0 (List.length a) i)) (fun h0 => .ret (.a0 (List.length a) a))
noncomputable def F287 (a : LV) : Option A287 := (D287 a).ev some
theorem F287_ok (a : LV) : FU E287 (F287 a) 287 [lS 2 a] := fu rfl rfl fun x => by kernel_rfl
/-! ## F272 -/
noncomputable abbrev B272 : Code := (Tryz.f272.body).getD .skip
inductive T272_0s0 where
  | mk (a : Nat) (d f : Int) (i : LV)
inductive T272_0e0 where
  | mk (a : Nat) (d : LV)
inductive N272_0 where
  | s0 (x : T272_0s0)
  | e0 (x : T272_0e0)
abbrev N272_0.out : N272_0 → VX × S
  | .s0 (.mk a d f i) => (vN, S.mk (hS 0 a :: U :: pT 1 :: U :: U :: i64 d :: i64 f :: un 20 []) [oT 2 i, oF 2 [[vb false, hS 2 0]], oT 2 []])
  | .e0 (.mk j l) => (vX 0, S.mk (hS 0 j :: U :: pT 1 :: un 24 []) [oT 2 l, oF 2 [[vb false, hS 2 0]], oT 2 []])
abbrev E272_0 := Ent.o2 N272_0.out .s0 .e0 (fun b => by cases b <;> simp)
noncomputable def D272_0 : T272_0s0 → PT N272_0 | .mk f i a d => .test (a < i) (fun h0 => .test (0 ≤ a ∧ a < (↑f : Int)) (fun h1 => .look RW28 (d[(0 : Nat) + Int.toNat a]?) fun j => .known (decide_eq_true h1) <| .look RW28 (d[(0 : Nat) + Int.toNat a]?) fun l => .ask E286 (F286_ok j.c0 l.c1) fun ⟨m, o⟩ => .known (decide_eq_true h1) <| .look RW28 (d[(0 : Nat) + Int.toNat a]?) fun p => .ret (.s0 (.mk f i (w64 (a + 1)) (List.set d (0 + Int.toNat a) [i64 m, i64 o])))) (fun _ => .fail)) (fun h0 => .ret (.e0 (.mk f d)))
noncomputable def L272_0 := E272_0.loop fun | .s0 x => D272_0 x | _ => .fail
theorem L272_0_ok : LU 272 1 B272 0 E272_0 L272_0 :=
  lk (L := notIn []) (fun b hb => by cases b <;> first | (cases hb; done) | (rename_i x; cases x; intro x; kernel_rfl) | (intro x; kernel_rfl))
noncomputable def N272_0.nx (n : Nat) : N272_0 → Option N272_0 | .s0 x => L272_0 n (.s0 x) | .e0 x => some (.e0 x)
theorem L272_0_s0 (n : Nat) (x : T272_0s0) : L272_0 (n + 1) (.s0 x) = (D272_0 x).ev (N272_0.nx n) := Ent.loop_eq fun c => by cases c <;> rfl
noncomputable def D272 (d : Nat) (i : LV) : PT A272 := .cut E272_0 (L272_0_ok (.s0 (.mk d ((↑d : Int)) 0 i)) rfl) fun | .e0 (.mk f a) => (.test (0 + f ≤ List.length a) (fun h0 => .ask E287 (F287_ok (List.take f a)) fun ⟨j, l⟩ => .auto 1 <| .ret (.a0 true j a l)) (fun _ => .fail)) | _ => .fail
noncomputable def F272 (a : Nat) (d : LV) : Option A272 := (D272 a d).ev some
theorem F272_ok (a : Nat) (d : LV) : FU E272 (F272 a d) 272 [hS 0 a] [oT 2 d] := fu rfl rfl fun x => by kernel_rfl
/-! ## F239 -/
noncomputable abbrev B239 : Code := (Tryz.f239.body).getD .skip
inductive T239_c40s0 where
  | mk (a d f i : Int) (j : Bool) (l m o p : Int)
abbrev T239_c40s0.st : T239_c40s0 → S
  | .mk a d f i j l m o p => S.mk (un 8 (pT 0 :: i64 a :: i64 d :: i64 f :: i64 i :: pT 1 :: pT 2 :: un 25 (vb j :: un 26 []))) [oF 2 [[vb false, hS 3 0]], oF 2 [[i64 l, i64 m]], oF 2 [[i64 o, i64 p]], oT 2 []]
inductive T239_c40e0 where
  | mk (a d f i j l : Int)
inductive N239_c40 where
  | e0 (x : T239_c40e0)
abbrev N239_c40.out : N239_c40 → VX × S
  | .e0 (.mk a d f i j l) => (vN, S.mk (un 8 (pT 0 :: i64 a :: i64 d :: U :: U :: pT 1 :: pT 2 :: un 52 [])) [oF 2 [[vb false, hS 3 0]], oF 2 [[i64 f, i64 i]], oF 2 [[i64 j, i64 l]], oT 2 []])
abbrev E239_c40 := Ent.o1 N239_c40.out .e0 fun ⟨x⟩ => ⟨x, rfl⟩
noncomputable def D239_c40 : T239_c40s0 → PT N239_c40 | .mk a d m o p f i j l => .testB p (fun h0 => .auto 1 <| .ask E271 (F271_ok j l m o) fun ⟨q, s⟩ => .auto 1 <| .ret (.e0 (.mk a d f i q s))) (fun h0 => .ret (.e0 (.mk a d f i j l)))
noncomputable def J239_c40 (y : T239_c40s0) : Option N239_c40 := (D239_c40 y).ev some
theorem J239_c40_ok (y : T239_c40s0) : CU 239 0 B239 40 E239_c40 (J239_c40 y) y.st := by
  cases y; exact cond_ok (L := notIn []) fun x => by kernel_rfl
inductive T239_c33s0 where
  | mk (a : Bool) (d f i j : Int) (l : Bool) (m o p q : Int)
abbrev T239_c33s0.st : T239_c33s0 → S
  | .mk a d f i j l m o p q => S.mk (U :: U :: U :: vb a :: un 4 (pT 0 :: i64 d :: i64 f :: i64 i :: i64 j :: pT 1 :: pT 2 :: un 18 (vb l :: un 33 []))) [oF 2 [[vb false, hS 3 0]], oF 2 [[i64 m, i64 o]], oF 2 [[i64 p, i64 q]], oT 2 []]
inductive T239_c33e0 where
  | mk (a : Bool) (d f i j l m o p : Int)
inductive N239_c33 where
  | e0 (x : T239_c33e0)
abbrev N239_c33.out : N239_c33 → VX × S
  | .e0 (.mk a d f i j l m o p) => (vN, S.mk (U :: U :: U :: vb a :: un 4 (pT 0 :: i64 d :: i64 f :: i64 i :: i64 j :: pT 1 :: pT 2 :: un 52 [])) [oF 2 [[vb false, hS 3 0]], oF 2 [[i64 l, i64 m]], oF 2 [[i64 o, i64 p]], oT 2 []])
abbrev E239_c33 := Ent.o1 N239_c33.out .e0 fun ⟨x⟩ => ⟨x, rfl⟩
noncomputable def D239_c33 : T239_c33s0 → PT N239_c33 | .mk f i j a d q l m o p => .testB q (fun h0 => .auto 1 <| .ask E271 (F271_ok l m (w64 (0 - a)) (w64 (0 - d))) fun ⟨s, t⟩ => .auto 1 <| .ret (.e0 (.mk f i j a d s t o p))) (fun h0 => .ret (.e0 (.mk f i j a d l m o p)))
noncomputable def J239_c33 (y : T239_c33s0) : Option N239_c33 := (D239_c33 y).ev some
theorem J239_c33_ok (y : T239_c33s0) : CU 239 0 B239 33 E239_c33 (J239_c33 y) y.st := by
  cases y; exact cond_ok (L := notIn []) fun x => by kernel_rfl
noncomputable def D239 (a : W59) (i : Int) (p q : Bool) : PT A239 := .auto 1 <| .ask E270 (F270_ok a i) fun ⟨s, t⟩ => .auto 1 <| .ask E125 (F125_ok a.c4 i) fun ⟨u⟩ => .auto 1 <| .ask E125 (F125_ok a.c5 i) fun ⟨v⟩ => .auto 4 <| .cut E239_c33 (J239_c33_ok (.mk q s t u v p a.c0 a.c1 a.c2 a.c3)) fun | .e0 (.mk w y z d0 d1 d2 d3 d4 d5) => .cut E239_c40 (J239_c40_ok (.mk y z d0 d1 w d2 d3 d4 d5)) fun | .e0 (.mk d f j l m o) => .auto 1 <| .ask E271 (F271_ok j l d f) fun ⟨d6, d7⟩ => .auto 1 <| .ask E271 (F271_ok m o d f) fun ⟨d8, d9⟩ => .auto 1 <| .ask E271 (F271_ok m o (w64 (0 - d)) (w64 (0 - f))) fun ⟨f0, f1⟩ => .auto 1 <| .ask E271 (F271_ok j l (w64 (0 - d)) (w64 (0 - f))) fun ⟨f2, f3⟩ => .ask E272 (F272_ok 4 ([[i64 d6, i64 d7], [i64 d8, i64 d9], [i64 f0, i64 f1], [i64 f2, i64 f3]])) fun ⟨f4, f5, f7, f6⟩ => .auto 1 <| .ret (.a0 f4 f5 f6)
noncomputable def F239 (a : W59) (d : Int) (f i : Bool) : Option A239 := (D239 a d f i).ev some
theorem F239_ok (a : W59) (d : Int) (f i : Bool) : FU E239 (F239 a d f i) 239 [V.agg (W59.cells a), i64 d, vb f, vb i] := fu rfl rfl fun x => by kernel_rfl
/-! ## F240 -/
noncomputable def D240 (s : W59) (a : W59) (d : Int) : PT A240 := .auto 1 <| .ask E270 (F270_ok s d) fun ⟨f, i⟩ => .auto 1 <| .ask E270 (F270_ok a d) fun ⟨j, l⟩ => .auto 4 <| .ask E271 (F271_ok a.c0 a.c1 f i) fun ⟨t, u⟩ => .auto 1 <| .ask E271 (F271_ok a.c0 a.c1 j l) fun ⟨v, w⟩ => .ask E272 (F272_ok 3 ([[i64 a.c0, i64 a.c1], [i64 t, i64 u], [i64 v, i64 w]])) fun ⟨y, m, d4, o⟩ => .auto 2 <| .ask E271 (F271_ok a.c0 a.c1 (w64 (0 - f)) (w64 (0 - i))) fun ⟨z, d0⟩ => .auto 1 <| .ask E271 (F271_ok a.c0 a.c1 (w64 (0 - j)) (w64 (0 - l))) fun ⟨d1, d2⟩ => .ask E272 (F272_ok 3 ([[i64 a.c0, i64 a.c1], [i64 z, i64 d0], [i64 d1, i64 d2]])) fun ⟨d3, p, d5, q⟩ => .test (0 + m ≤ List.length o) (fun h0 => .test (0 + p ≤ List.length q) (fun h1 => .ret (.a0 2 ([[vb y, lS 2 (List.take m o)], [vb d3, lS 2 (List.take p q)]]))) (fun _ => .fail)) (fun _ => .fail)
noncomputable def F240 (a : W59) (d : W59) (f : Int) : Option A240 := (D240 a d f).ev some
theorem F240_ok (a : W59) (d : W59) (f : Int) : FU E240 (F240 a d f) 240 [V.agg (W59.cells a), V.agg (W59.cells d), i64 f] := fu rfl rfl fun x => by kernel_rfl
/-! ## F197 -/
noncomputable abbrev B197 : Code := (Tryz.f197.body).getD .skip
inductive T197_r16s0 where
  | mk (a : Int) (d f : Nat) (i : Bool) (j l m : LV)
abbrev T197_r16s0.st : T197_r16s0 → S
  | .mk a d f i j l m => S.mk (U :: U :: U :: pT 0 :: U :: U :: U :: i64 a :: hS 1 d :: U :: hS 2 f :: un 84 []) [oF 2 [[vb i, lS 2 j]], oT 6 l, oT 2 m]
inductive T197_r16e0 where
  | mk (a : Int) (d f : Nat) (i : Bool) (j l : LV)
inductive N197_r16 where
  | e0 (x : T197_r16e0)
abbrev N197_r16.out : N197_r16 → VX × S
  | .e0 (.mk a d f i j l) => (vN, S.mk (un 7 (i64 a :: hS 0 d :: U :: hS 1 f :: un 69 (vb i :: un 14 []))) [oT 6 j, oT 2 l])
abbrev E197_r16 := Ent.o1 N197_r16.out .e0 fun ⟨x⟩ => ⟨x, rfl⟩
noncomputable def D197_r16 : T197_r16s0 → PT N197_r16 | .mk d a f l m i j => .auto 1 <| .testB l (fun h0 => .auto 3 <| .ret (.e0 (.mk d a f (decide ((↑a : Int) ≥ 2)) i j))) (fun h0 => .auto 3 <| .ret (.e0 (.mk d a f false i j)))
noncomputable def J197_r16 (y : T197_r16s0) : Option N197_r16 := (D197_r16 y).ev some
theorem J197_r16_ok (y : T197_r16s0) : ∀ b, J197_r16 y = some b → regP Tryz.prog X CC 197 0 B197 16 y.st = some (E197_r16.out b) := by
  cases y; exact reg_ok (E := E197_r16) (fun x => by kernel_rfl)
inductive T197_2s0 where
  | mk (a : Int) (d f : Nat) (i : Int) (j : Bool) (l m o : LV)
inductive T197_2e0 where
  | mk (a : Int) (d f : Nat) (i : Bool) (j l m : LV)
inductive N197_2 where
  | s0 (x : T197_2s0)
  | e0 (x : T197_2e0)
abbrev N197_2.out : N197_2 → VX × S
  | .s0 (.mk a d f i j l m o) => (vN, S.mk (U :: U :: U :: pT 0 :: U :: U :: U :: i64 a :: hS 1 d :: U :: hS 2 f :: U :: U :: i64 i :: un 81 []) [oF 2 [[vb j, lS 2 l]], oT 6 m, oT 2 o])
  | .e0 (.mk p q s t u v w) => (vX 2, S.mk (U :: U :: U :: pT 0 :: U :: U :: U :: i64 p :: hS 1 q :: U :: hS 2 s :: un 84 []) [oF 2 [[vb t, lS 2 u]], oT 6 v, oT 2 w])
abbrev E197_2 := Ent.o2 N197_2.out .s0 .e0 (fun b => by cases b <;> simp)
noncomputable def D197_2 : T197_2s0 → PT N197_2 | .mk p j d a s t o q => .test (a < (↑j : Int)) (fun h0 => .test (0 ≤ w64 (a - 1) ∧ w64 (a - 1) < (↑j : Int)) (fun h1 => .look RW223 (o[(0 : Nat) + Int.toNat (w64 (a - (1 : Int)))]?) fun f => .test (0 ≤ a ∧ a < (↑j : Int)) (fun h2 => .look RW223 (o[(0 : Nat) + Int.toNat a]?) fun i => .ask E240 (F240_ok (W59.mk f.c0 f.c1 f.c2 f.c3 f.c4 f.c5) (W59.mk i.c0 i.c1 i.c2 i.c3 i.c4 i.c5) p) fun ⟨l, m⟩ => .test (0 + l ≤ List.length m) (fun h3 => .test (0 + d ≤ List.length q ∧ (d + List.length (List.take l m)) * 32 ≤ 140737488355328 ∧ d + List.length (List.take l m) ≤ 140737488355328) (fun h4 => .ret (.s0 (.mk p j (d + List.length (List.take l m)) (w64 (a + 1)) s t o (List.take d q ++ List.take l m)))) (fun _ => .fail)) (fun _ => .fail)) (fun _ => .fail)) (fun _ => .fail)) (fun h0 => .ret (.e0 (.mk p j d s t o q)))
noncomputable def L197_2 := E197_2.loop fun | .s0 x => D197_2 x | _ => .fail
theorem L197_2_ok : LU 197 0 B197 2 E197_2 L197_2 :=
  lk (L := notIn []) (fun b hb => by cases b <;> first | (cases hb; done) | (rename_i x; cases x; intro x; kernel_rfl) | (intro x; kernel_rfl))
noncomputable def N197_2.nx (n : Nat) : N197_2 → Option N197_2 | .s0 x => L197_2 n (.s0 x) | .e0 x => some (.e0 x)
theorem L197_2_s0 (n : Nat) (x : T197_2s0) : L197_2 (n + 1) (.s0 x) = (D197_2 x).ev (N197_2.nx n) := Ent.loop_eq fun c => by cases c <;> rfl
inductive T197_0s0 where
  | mk (a : Int) (d : Nat) (f : Bool) (i : Nat) (j l : Int) (m : Bool) (o p q : LV)
inductive T197_0e0 where
  | mk (a : Int) (d f : Nat) (i : Bool) (j l m : LV)
inductive N197_0 where
  | s0 (x : T197_0s0)
  | e0 (x : T197_0e0)
abbrev N197_0.out : N197_0 → VX × S
  | .s0 (.mk d a f i j l m o p q) => (vN, S.mk (U :: U :: U :: pT 0 :: U :: U :: U :: i64 d :: hS 1 a :: vb f :: hS 2 i :: un 17 (hS 1 a :: i64 j :: i64 l :: un 64 [])) [oF 2 [[vb m, lS 2 o]], oT 6 p, oT 2 q])
  | .e0 (.mk s t u v w y z) => (vX 0, S.mk (U :: U :: U :: pT 0 :: U :: U :: U :: i64 s :: hS 1 t :: U :: hS 2 u :: un 84 []) [oF 2 [[vb v, lS 2 w]], oT 6 y, oT 2 z])
abbrev E197_0 := Ent.o2 N197_0.out .s0 .e0 (fun b => by cases b <;> simp)
noncomputable def D197_0 : T197_0s0 → PT N197_0 | .mk i j o d p f q s m l => .test (f < p) (fun h0 => .test (0 ≤ f ∧ f < (↑j : Int)) (fun h1 => .look RW223 (m[(0 : Nat) + Int.toNat f]?) fun a => .auto 2 <| .testB o (fun h2 => .auto 2 <| .known h2 <| .auto 5 <| .ask E239 (F239_ok (W59.mk a.c0 a.c1 a.c2 a.c3 a.c4 a.c5) i (f == 0) (f == w64 ((↑j : Int) - 1))) fun ⟨y, t, u⟩ => .test (0 + t ≤ List.length u) (fun h3 => .auto 1 <| .test (0 + d ≤ List.length l ∧ (d + 1) * 32 ≤ 140737488355328 ∧ d + 1 ≤ 140737488355328) (fun h4 => .ret (.s0 (.mk i j o (d + 1) p (w64 (f + 1)) q s m (List.take d l ++ [[vb y, lS 2 (List.take t u)]])))) (fun _ => .fail)) (fun _ => .fail)) (fun h2 => .auto 2 <| .known h2 <| .auto 5 <| .ask E239 (F239_ok (W59.mk a.c0 a.c1 a.c2 a.c3 a.c4 a.c5) i false false) fun ⟨z, v, w⟩ => .test (0 + v ≤ List.length w) (fun h3 => .auto 1 <| .test (0 + d ≤ List.length l ∧ (d + 1) * 32 ≤ 140737488355328 ∧ d + 1 ≤ 140737488355328) (fun h4 => .ret (.s0 (.mk i j o (d + 1) p (w64 (f + 1)) q s m (List.take d l ++ [[vb z, lS 2 (List.take v w)]])))) (fun _ => .fail)) (fun _ => .fail))) (fun _ => .fail)) (fun h0 => .ret (.e0 (.mk i j d q s m l)))
noncomputable def L197_0 := E197_0.loop fun | .s0 x => D197_0 x | _ => .fail
theorem L197_0_ok : LU 197 0 B197 0 E197_0 L197_0 :=
  lk (L := notIn []) (fun b hb => by cases b <;> first | (cases hb; done) | (rename_i x; cases x; intro x; kernel_rfl) | (intro x; kernel_rfl))
noncomputable def N197_0.nx (n : Nat) : N197_0 → Option N197_0 | .s0 x => L197_0 n (.s0 x) | .e0 x => some (.e0 x)
theorem L197_0_s0 (n : Nat) (x : T197_0s0) : L197_0 (n + 1) (.s0 x) = (D197_0 x).ev (N197_0.nx n) := Ent.loop_eq fun c => by cases c <;> rfl
inductive T197_r5s0 where
  | mk (a d : Int) (f : Nat) (i : Bool) (j l : LV)
abbrev T197_r5s0.st : T197_r5s0 → S
  | .mk a d f i j l => S.mk (U :: U :: i64 a :: pT 0 :: U :: U :: U :: i64 d :: hS 1 f :: un 86 []) [oF 2 [[vb i, lS 2 j]], oT 6 l]
inductive T197_r5e0 where
  | mk (a : Int) (d : Nat) (f i : Bool) (j l : LV)
inductive N197_r5 where
  | e0 (x : T197_r5e0)
abbrev N197_r5.out : N197_r5 → VX × S
  | .e0 (.mk a d f i j l) => (vN, S.mk (U :: U :: U :: pT 0 :: U :: U :: U :: i64 a :: hS 1 d :: vb f :: un 85 []) [oF 2 [[vb i, lS 2 j]], oT 6 l])
abbrev E197_r5 := Ent.o1 N197_r5.out .e0 fun ⟨x⟩ => ⟨x, rfl⟩
noncomputable def D197_r5 : T197_r5s0 → PT N197_r5 | .mk l d f a i j => .testB (l == 1) (fun h0 => .auto 4 <| .ret (.e0 (.mk d f (!a) a i j))) (fun h0 => .auto 3 <| .ret (.e0 (.mk d f false a i j)))
noncomputable def J197_r5 (y : T197_r5s0) : Option N197_r5 := (D197_r5 y).ev some
theorem J197_r5_ok (y : T197_r5s0) : ∀ b, J197_r5 y = some b → regP Tryz.prog X CC 197 0 B197 5 y.st = some (E197_r5.out b) := by
  cases y; exact reg_ok (E := E197_r5) (fun x => by kernel_rfl)
noncomputable def D197 (o : Bool) (p : LV) (u v : Int) : PT A197 := .auto 1 <| .tot O74 (F74_ok (Int.fdiv u 2) 0 67108864) fun q => .testB (q == 0) (fun h0 => .ret (.a0 0 ([]))) (fun h0 => .auto 1 <| .ask E238 (F238_ok o p) fun ⟨w, y⟩ => .cut E197_r5 (J197_r5_ok (.mk v q w o p y)) fun | .e0 (.mk z s d0 d1 d2 d3) => .cut E197_0 (L197_0_ok (.s0 (.mk z s d0 0 ((↑s : Int)) 0 d1 d2 d3 ([]))) rfl) fun | .e0 (.mk d4 d5 d6 d7 d8 d9 f0) => (.cut E197_2 (L197_2_ok (.s0 (.mk d4 d5 d6 1 d7 d8 d9 f0)) rfl) fun | .e0 (.mk f1 f2 f3 f4 f5 f6 f7) => (.cut E197_r16 (J197_r16_ok (.mk f1 f2 f3 f4 f5 f6 f7)) fun | .e0 (.mk f8 i a f9 t m) => .testB f9 (fun h1 => .test (0 ≤ w64 ((↑i : Int) - 1) ∧ w64 ((↑i : Int) - 1) < (↑i : Int)) (fun h2 => .look RW223 (t[(0 : Nat) + Int.toNat (w64 ((↑i : Int) - (1 : Int)))]?) fun d => .test ((0 : Int) ≤ (0 : Int) ∧ (0 : Int) < (↑i : Int)) (fun h3 => .look RW223 (t[(0 : Nat)]?) fun f => .ask E240 (F240_ok (W59.mk d.c0 d.c1 d.c2 d.c3 d.c4 d.c5) (W59.mk f.c0 f.c1 f.c2 f.c3 f.c4 f.c5) f8) fun ⟨j, l⟩ => .test (0 + j ≤ List.length l) (fun h4 => .test (0 + a ≤ List.length m ∧ (a + List.length (List.take j l)) * 32 ≤ 140737488355328 ∧ a + List.length (List.take j l) ≤ 140737488355328) (fun h5 => .ret (.a0 (a + List.length (List.take j l)) (List.take a m ++ List.take j l))) (fun _ => .fail)) (fun _ => .fail)) (fun _ => .fail)) (fun _ => .fail)) (fun h1 => .ret (.a0 a m))) | _ => .fail) | _ => .fail)
noncomputable def F197 (a : Bool) (d : LV) (f i : Int) : Option A197 := (D197 a d f i).ev some
theorem F197_ok (a : Bool) (d : LV) (f i : Int) : FU E197 (F197 a d f i) 197 [V.agg [vb a, lS 2 d], i64 f, i64 i] := fu rfl rfl fun x => by kernel_rfl
/-! ## F140 -/
noncomputable abbrev B140 : Code := (Tryz.f140.body).getD .skip
inductive T140_2s0 where
  | mk (a : Int) (d : Nat) (f i : Int) (j : Nat) (l m : Int) (o : W34) (p : W59) (q : Nat) (s t u v w : Int) (y z d0 : LV)
inductive T140_2e0 where
  | mk (a : Int) (d : Nat) (f i : Int) (j : W34) (l : W59) (m : Nat) (o p q s t : Int) (u v : LV)
inductive N140_2 where
  | s0 (x : T140_2s0)
  | e0 (x : T140_2e0)
abbrev N140_2.out : N140_2 → VX × S
  | .s0 (.mk p q s t u v w y z d0 a d f i d1 d2 d3 d4) => (vN, S.mk (un 5 (pT 0 :: U :: pT 1 :: U :: U :: pT 2 :: pT 3 :: i64 p :: un 24 (hS 4 q :: i64 s :: i64 t :: un 6 (hS 5 u :: i64 v :: i64 w :: un 17 [])))) [oF 32 [W34.cells y], oF 6 [W59.cells z], oF 17 [[hS 6 0, i64 0, i64 0, u8 0, u8 0, u8 0, u8 0, u8 0, u8 0, u8 0, u8 0, i64 0, i64 0, i64 0, i64 0, i64 0, i64 0]], oF 17 [[hS 7 d0, i64 0, i64 0, u8 a, u8 d, u8 f, u8 i, u8 a, u8 d, u8 f, u8 i, i64 0, i64 0, i64 0, i64 0, i64 0, i64 d1]], oT 2 d2, oT 2 d3, oT 2 [], oT 2 d4])
  | .e0 (.mk d5 d6 d7 d8 d9 f0 f1 j l m o f2 f3 f4) => (vX 2, S.mk (un 5 (pT 0 :: U :: pT 1 :: U :: U :: pT 2 :: pT 3 :: i64 d5 :: un 24 (hS 4 d6 :: i64 d7 :: i64 d8 :: un 26 []))) [oF 32 [W34.cells d9], oF 6 [W59.cells f0], oF 17 [[hS 5 0, i64 0, i64 0, u8 0, u8 0, u8 0, u8 0, u8 0, u8 0, u8 0, u8 0, i64 0, i64 0, i64 0, i64 0, i64 0, i64 0]], oF 17 [[hS 6 f1, i64 0, i64 0, u8 j, u8 l, u8 m, u8 o, u8 j, u8 l, u8 m, u8 o, i64 0, i64 0, i64 0, i64 0, i64 0, i64 f2]], oT 2 f3, oT 2 [], oT 2 f4])
abbrev E140_2 := Ent.o2 N140_2.out .s0 .e0 (fun b => by cases b <;> simp)
noncomputable def D140_2 : T140_2s0 → PT N140_2 | .mk j p q s t u d l m a v w y z d0 d1 d2 o => .test (d < u) (fun h0 => .test (0 ≤ d ∧ d < (↑t : Int)) (fun h1 => .look RW88 (d2[(0 : Nat) + Int.toNat d]?) fun d3 => .auto 5 <| .ask E197 (F197_ok d3.c0 d3.c1 j l.c28) fun ⟨d4, d5⟩ => .test (0 + d4 ≤ List.length d5) (fun h2 => .ask E147 (F147_ok m (List.take d4 d5)) fun ⟨f, i⟩ => .test (0 + f ≤ List.length i) (fun h3 => .test (0 + a ≤ List.length o ∧ (a + List.length (List.take f i)) * 32 ≤ 140737488355328 ∧ a + List.length (List.take f i) ≤ 140737488355328) (fun h4 => .auto 1 <| .ret (.s0 (.mk j p q s t u (w64 (d + 1)) l m (a + List.length (List.take f i)) v w y z d0 d1 d2 (List.take a o ++ List.take f i)))) (fun _ => .fail)) (fun _ => .fail)) (fun _ => .fail)) (fun _ => .fail)) (fun h0 => .ret (.e0 (.mk j p q s l m a v w y z d0 d1 o)))
noncomputable def L140_2 := E140_2.loop fun | .s0 x => D140_2 x | _ => .fail
theorem L140_2_ok : LU 140 0 B140 2 E140_2 L140_2 :=
  lk (L := notIn []) (fun b hb => by cases b <;> first | (cases hb; done) | (rename_i x; cases x; intro x; kernel_rfl) | (intro x; kernel_rfl))
noncomputable def N140_2.nx (n : Nat) : N140_2 → Option N140_2 | .s0 x => L140_2 n (.s0 x) | .e0 x => some (.e0 x)
theorem L140_2_s0 (n : Nat) (x : T140_2s0) : L140_2 (n + 1) (.s0 x) = (D140_2 x).ev (N140_2.nx n) := Ent.loop_eq fun c => by cases c <;> rfl
inductive T140_0s0 where
  | mk (a : Int) (d : Nat) (f i : Int) (j : W34) (l : W59) (m : Nat) (o p q s t : Int) (u v : LV)
inductive T140_0e0 where
  | mk (a : Nat) (d f i j l : Int) (m : LV)
inductive N140_0 where
  | s0 (x : T140_0s0)
  | e0 (x : T140_0e0)
abbrev N140_0.out : N140_0 → VX × S
  | .s0 (.mk p q s t u v w a d f i y z d0) => (vN, S.mk (un 5 (pT 0 :: U :: pT 1 :: U :: U :: pT 2 :: pT 3 :: i64 p :: un 24 (hS 4 q :: i64 s :: i64 t :: un 26 []))) [oF 32 [W34.cells u], oF 6 [W59.cells v], oF 17 [[hS 5 0, i64 0, i64 0, u8 0, u8 0, u8 0, u8 0, u8 0, u8 0, u8 0, u8 0, i64 0, i64 0, i64 0, i64 0, i64 0, i64 0]], oF 17 [[hS 6 w, i64 0, i64 0, u8 a, u8 d, u8 f, u8 i, u8 a, u8 d, u8 f, u8 i, i64 0, i64 0, i64 0, i64 0, i64 0, i64 y]], oT 2 z, oT 2 [], oT 2 d0])
  | .e0 (.mk d1 j l m o d2 d3) => (vX 0, S.mk (un 10 (pT 0 :: pT 1 :: un 54 [])) [oF 17 [[hS 2 0, i64 0, i64 0, u8 0, u8 0, u8 0, u8 0, u8 0, u8 0, u8 0, u8 0, i64 0, i64 0, i64 0, i64 0, i64 0, i64 0]], oF 17 [[hS 3 d1, i64 0, i64 0, u8 j, u8 l, u8 m, u8 o, u8 j, u8 l, u8 m, u8 o, i64 0, i64 0, i64 0, i64 0, i64 0, i64 d2]], oT 2 [], oT 2 d3])
abbrev E140_0 := Ent.o2 N140_0.out .s0 .e0 (fun b => by cases b <;> simp)
noncomputable def D140_0 : T140_0s0 → PT N140_0 | .mk w d f a i y j l m o p q s t => .test (a < f) (fun h0 => .test (0 ≤ a ∧ a < (↑d : Int)) (fun h1 => .look RW88 (s[(0 : Nat) + Int.toNat a]?) fun u => .auto 3 <| .ask E196 (F196_ok u.c0 u.c1 i.c29) fun ⟨v, z⟩ => .cut E140_2 (L140_2_ok (.s0 (.mk w d f a v ((↑v : Int)) 0 i y j l m o p q s z t)) rfl) fun | .e0 (.mk d0 d1 d2 d3 d4 d5 d6 d7 d8 d9 f0 f1 f2 f3) => .ret (.s0 (.mk d0 d1 d2 (w64 (d3 + 1)) d4 d5 d6 d7 d8 d9 f0 f1 f2 f3)) | _ => .fail) (fun _ => .fail)) (fun h0 => .ret (.e0 (.mk j l m o p q t)))
noncomputable def L140_0 := E140_0.loop fun | .s0 x => D140_0 x | _ => .fail
theorem L140_0_ok : LU 140 0 B140 0 E140_0 L140_0 :=
  lk (L := notIn []) (fun b hb => by cases b <;> first | (cases hb; done) | (rename_i x; cases x; intro x; kernel_rfl) | (intro x; kernel_rfl))
noncomputable def N140_0.nx (n : Nat) : N140_0 → Option N140_0 | .s0 x => L140_0 n (.s0 x) | .e0 x => some (.e0 x)
theorem L140_0_s0 (n : Nat) (x : T140_0s0) : L140_0 (n + 1) (.s0 x) = (D140_0 x).ev (N140_0.nx n) := Ent.loop_eq fun c => by cases c <;> rfl
noncomputable def D140 (a : W34) (d : Int) (o : W59) (p : Int) (q : LV) : PT A140 := .auto 4 <| .ask E72 (F72_ok a.c23 d 0) fun ⟨s⟩ => .auto 1 <| .ask E72 (F72_ok a.c30 d 0) fun ⟨t⟩ => .auto 1 <| .ask E72 (F72_ok a.c31 d 65536) fun ⟨u⟩ => .ask E195 (F195_ok q t u) fun ⟨f, v⟩ => .cut E140_0 (L140_0_ok (.s0 (.mk s f ((↑f : Int)) 0 a o 0 a.c24 a.c25 a.c26 a.c27 p v ([]))) rfl) fun | .e0 (.mk w i j l m y z) => (.auto 2 <| .ret (.a0 w 0 0 i j l m i j l m 0 0 0 0 0 y z)) | _ => .fail
noncomputable def F140 (a : W34) (d : Int) (f : W59) (i : Int) (j : LV) : Option A140 := (D140 a d f i j).ev some
theorem F140_ok (a : W34) (d : Int) (f : W59) (i : Int) (j : LV) : FU E140 (F140 a d f i j) 140 [V.agg (W34.cells a), i64 d, V.agg (W59.cells f), i64 i, lS 2 j] := fu rfl rfl fun x => by kernel_rfl
/-! ## F75 -/
noncomputable abbrev B75 : Code := (Tryz.f75.body).getD .skip
inductive T75_c24s0 where
  | mk (a d : Int) (f : Bool) (i : W34) (j : W59) (l : LV)
abbrev T75_c24s0.st : T75_c24s0 → S
  | .mk a d f i j l => S.mk (U :: i64 a :: U :: i64 d :: pT 0 :: U :: pT 1 :: U :: U :: U :: hS 2 0 :: hS 3 1 :: un 12 (vb f :: un 26 [])) [oF 32 [W34.cells i], oF 6 [W59.cells j], oT 17 [], oT 2 l]
inductive T75_c24e0 where
  | mk (a d : Int) (f : W34) (i : W59) (j l : LV)
inductive T75_c24e1 where
  | mk (a d : Int) (f : W34) (i : W59) (j : LV)
inductive N75_c24 where
  | e0 (x : T75_c24e0)
  | e1 (x : T75_c24e1)
abbrev N75_c24.out : N75_c24 → VX × S
  | .e0 (.mk a d f i j l) => (vN, S.mk (U :: i64 a :: U :: i64 d :: pT 0 :: U :: pT 1 :: U :: U :: U :: hS 2 1 :: hS 3 1 :: un 39 []) [oF 32 [W34.cells f], oF 6 [W59.cells i], oT 17 j, Ob.cells false true 2 l])
  | .e1 (.mk m o p q s) => (vN, S.mk (U :: i64 m :: U :: i64 o :: pT 0 :: U :: pT 1 :: U :: U :: U :: hS 2 0 :: hS 3 1 :: un 39 []) [oF 32 [W34.cells p], oF 6 [W59.cells q], oT 17 [], oT 2 s])
abbrev E75_c24 := Ent.o2 N75_c24.out .e0 .e1 (fun b => by cases b <;> simp)
noncomputable def D75_c24 : T75_c24s0 → PT N75_c24 | .mk d f o i j a => .testB o (fun h0 => .auto 2 <| .test (1 ≤ List.length a) (fun h1 => .ask E139 (F139_ok i d j f (List.take 1 a)) fun ⟨l, p, q, s, t, u, v, w, y, z, d0, d1, d2, d3, d4, d5, d6, m⟩ => .test (0 + l ≤ List.length m) (fun h2 => .auto 2 <| .ret (.e0 (.mk d f i j ([[lS 2 (List.take l m), i64 p, i64 q, u8 s, u8 t, u8 u, u8 v, u8 w, u8 y, u8 z, u8 d0, i64 d1, i64 d2, i64 d3, i64 d4, i64 d5, i64 d6]]) a))) (fun _ => .fail)) (fun _ => .fail)) (fun h0 => .ret (.e1 (.mk d f i j a)))
noncomputable def J75_c24 (y : T75_c24s0) : Option N75_c24 := (D75_c24 y).ev some
theorem J75_c24_ok (y : T75_c24s0) : CU 75 0 B75 24 E75_c24 (J75_c24 y) y.st := by
  cases y; exact cond_ok (L := notIn []) fun x => by kernel_rfl
noncomputable def D75 (d : W34) (l : Int) (y : W59) (z : Int) : PT A75 := .auto 1 <| .ask E51 (F51_ok d l) fun ⟨d0, m, o⟩ => .test (0 + m ≤ List.length o) (fun h0 => .ask E138 (F138_ok d0 (List.take m o)) fun ⟨d1, f, p⟩ => .auto 2 <| .testB ((↑f : Int) == 0) (fun h1 => .ret (.a0 0 ([]))) (fun h1 => .auto 1 <| .test (0 + f ≤ List.length p) (fun h2 => .auto 1 <| .cut E75_c24 (J75_c24_ok (.mk l z d.c5 d y ([[vb d1, lS 2 (List.take f p)]]))) fun | .e0 (.mk d2 d3 q d4 a s) => (.auto 1 <| .testB q.c22 (fun h3 => .auto 2 <| .test (1 ≤ List.length s) (fun h4 => .ask E140 (F140_ok q d2 d4 d3 (List.take 1 s)) fun ⟨i, d5, d6, d7, d8, d9, f0, f1, f2, f3, f4, f5, f6, f7, f8, f9, j0, t⟩ => .auto 2 <| .test ((↑i : Int) > 0) (fun h5 => .auto 1 <| .test (0 + i ≤ List.length t) (fun h6 => .auto 1 <| .test ((1 : Nat) ≤ List.length a ∧ (192 : Nat) ≤ (140737488355328 : Nat) ∧ (2 : Nat) ≤ (140737488355328 : Nat)) (fun h7 => .ret (.a0 2 (List.take 1 a ++ [[lS 2 (List.take i t), i64 d5, i64 d6, u8 d7, u8 d8, u8 d9, u8 f0, u8 f1, u8 f2, u8 f3, u8 f4, i64 f5, i64 f6, i64 f7, i64 f8, i64 f9, i64 j0]]))) (fun _ => .fail)) (fun _ => .fail)) (fun h5 => .ret (.a0 1 a))) (fun _ => .fail)) (fun h3 => .ret (.a0 1 a))) | .e1 (.mk j1 j2 u j3 v) => .auto 1 <| .testB u.c22 (fun h3 => .auto 2 <| .test (1 ≤ List.length v) (fun h4 => .ask E140 (F140_ok u j1 j3 j2 (List.take 1 v)) fun ⟨j, j4, j5, j6, j7, j8, j9, l0, l1, l2, l3, l4, l5, l6, l7, l8, l9, w⟩ => .auto 2 <| .test ((↑j : Int) > 0) (fun h5 => .auto 1 <| .test (0 + j ≤ List.length w) (fun h6 => .auto 2 <| .ret (.a0 1 ([[lS 2 (List.take j w), i64 j4, i64 j5, u8 j6, u8 j7, u8 j8, u8 j9, u8 l0, u8 l1, u8 l2, u8 l3, i64 l4, i64 l5, i64 l6, i64 l7, i64 l8, i64 l9]]))) (fun _ => .fail)) (fun h5 => .ret (.a0 0 ([])))) (fun _ => .fail)) (fun h3 => .ret (.a0 0 ([])))) (fun _ => .fail))) (fun _ => .fail)
noncomputable def F75 (a : W34) (d : Int) (f : W59) (i : Int) : Option A75 := (D75 a d f i).ev some
theorem F75_ok (a : W34) (d : Int) (f : W59) (i : Int) : FU E75 (F75 a d f i) 75 [V.agg (W34.cells a), i64 d, V.agg (W59.cells f), i64 i] := fu rfl rfl fun x => by kernel_rfl
/-! ## F86 -/
noncomputable def D86 (a : W57) (i : W59) : PT A86 := .auto 1 <| .tot O146 (F146_ok a.c16 a.c17) fun j => .testB j (fun h0 => .ret (.a0 0 ([]))) (fun h0 => .auto 2 <| .ask E138 (F138_ok a.c16 a.c17) fun ⟨l, d, f⟩ => .test (0 + d ≤ List.length f) (fun h1 => .auto 1 <| .ask E147 (F147_ok i ([[vb l, lS 2 (List.take d f)]])) fun ⟨m, o⟩ => .ret (.a0 m o)) (fun _ => .fail))
noncomputable def F86 (a : W57) (d : W59) : Option A86 := (D86 a d).ev some
theorem F86_ok (a : W57) (d : W59) : FU E86 (F86 a d) 86 [V.agg (W57.cells a), V.agg (W59.cells d)] := fu rfl rfl fun x => by kernel_rfl
/-! ## F259 -/
abbrev K158 := Int → Int → LV → Int → Int → W59 → Int → Option A158
abbrev H158 (r : K158) : Prop := ∀ (j l : Int) (m : LV) (o p : Int) (q : W59) (s : Int) (b : A158), r j l m o p q s = some b → UU 158 ([V.agg [i64 j, i64 l, lS 1 m], i64 o, i64 p, V.agg (W59.cells q), i64 s]) ([]) = some (A158.out b)
noncomputable abbrev B259 : Code := (Tryz.f259.body).getD .skip
inductive T259_0s0 where
  | mk (a d : Nat) (f i : Int) (j l : LV)
inductive T259_0e0 where
  | mk (a : Nat) (d : LV)
inductive N259_0 where
  | s0 (x : T259_0s0)
  | e0 (x : T259_0e0)
abbrev N259_0.out : N259_0 → VX × S
  | .s0 (.mk a d f i j l) => (vN, S.mk (un 13 (hS 0 a :: un 22 (hS 1 d :: i64 f :: i64 i :: un 10 []))) [oT 23 j, oT 17 l])
  | .e0 (.mk m o) => (vX 0, S.mk (un 13 (hS 0 m :: un 35 [])) [oT 23 o])
abbrev E259_0 := Ent.o2 N259_0.out .s0 .e0 (fun b => by cases b <;> simp)
noncomputable def D259_0 (rF158 : K158) (hF158 : H158 rF158) : T259_0s0 → PT N259_0
  | .mk d t u f i v =>
   .test (f < u)
    (fun h0 =>
    .test (0 ≤ f ∧ f < (↑t : Int))
     (fun h1 =>
     .look RW85 (v[(0 : Nat) + Int.toNat f]?) fun a =>
     .auto 3 <|
     .test (0 + d ≤ List.length i ∧ (d + 1) * 192 ≤ 140737488355328 ∧ d + 1 ≤ 140737488355328)
      (fun h2 =>
      .ret (.s0 (.mk (d + 1) t u (w64 (f + 1)) (List.take d i ++ [[vb false, lS 2 a.c0, i64 a.c1, i64 a.c2, u8 a.c3, u8 a.c4, u8 a.c5, u8 a.c6, u8 a.c7, u8 a.c8, u8 a.c9, u8 a.c10, i64 a.c11, i64 a.c12, i64 a.c13, i64 a.c14, i64 a.c15, i64 a.c16, lS 23 [], lS 2 [], i64 0, lS 23 [], i64 0]]) v))
     )
      (fun _ => .fail)
    )
     (fun _ => .fail)
   )
    (fun h0 =>
    .ret (.e0 (.mk d i))
   )
noncomputable def L259_0 (rF158 : K158) (hF158 : H158 rF158) := E259_0.loop fun | .s0 x => D259_0 rF158 hF158 x | _ => .fail
theorem L259_0_ok (rF158 : K158) (hF158 : H158 rF158) : LU 259 0 B259 0 E259_0 (L259_0 rF158 hF158) :=
  lk (L := notIn []) (fun b hb => by cases b <;> first | (cases hb; done) | (rename_i x; cases x; intro x; kernel_rfl) | (intro x; kernel_rfl))
noncomputable def N259_0.nx (rF158 : K158) (hF158 : H158 rF158) (n : Nat) : N259_0 → Option N259_0 | .s0 x => L259_0 rF158 hF158 n (.s0 x) | .e0 x => some (.e0 x)
theorem L259_0_s0 (rF158 : K158) (hF158 : H158 rF158) (n : Nat) (x : T259_0s0) : L259_0 rF158 hF158 (n + 1) (.s0 x) = (D259_0 rF158 hF158 x).ev (N259_0.nx rF158 hF158 n) := Ent.loop_eq fun c => by cases c <;> rfl
noncomputable def D259 (rF158 : K158) (hF158 : H158 rF158) (t u : Int) (v : LV) (a : W57) (p : Int) (q : W59) (w y : Int) : PT A259 := .auto 1 <| .testB (a.c0 == 1) (fun h0 => .auto 3 <| .ask E24 (F24_ok a p) fun ⟨z⟩ => .auto 1 <| .ask E158 (hF158 t u v a.c2 z q (w64 (w + 1))) fun ⟨d0, d1⟩ => .ret (.a0 d0 d1)) (fun h0 => .auto 2 <| .tot O70 (F70_ok a p) fun d2 => .auto 1 <| .ask E75 (F75_ok (W34.mk a.c18 a.c19 a.c20 a.c21 a.c22 a.c23 a.c24 a.c25 a.c26 a.c27 a.c28 a.c29 a.c30 a.c31 a.c32 a.c33 a.c34 a.c35 a.c36 a.c37 a.c38 a.c39 a.c40 a.c41 a.c42 a.c43 a.c44 a.c45 a.c46 a.c47 a.c48 a.c49) d2 q y) fun ⟨s, d3⟩ => .cut E259_0 (L259_0_ok rF158 hF158 (.s0 (.mk 0 s ((↑s : Int)) 0 ([]) d3)) rfl) fun | .e0 (.mk d4 d5) => .ret (.a0 d4 d5) | _ => .fail)
noncomputable def F259 (rF158 : K158) (hF158 : H158 rF158) (o p : Int) (q : LV) (s : W57) (t : Int) (u : W59) (v w : Int) : Option A259 := (D259 rF158 hF158 o p q s t u v w).ev some
theorem F259_ok (rF158 : K158) (hF158 : H158 rF158) (o p : Int) (q : LV) (s : W57) (t : Int) (u : W59) (v w : Int) : FU E259 (F259 rF158 hF158 o p q s t u v w) 259 [V.agg [i64 o, i64 p, lS 1 q], V.agg (W57.cells s), i64 t, V.agg (W59.cells u), i64 v, i64 w] := fu rfl rfl fun x => by kernel_rfl
/-! ## F218 -/
abbrev K218 := Int → Int → LV → LV → Int → Int → W59 → Int → Option A218
abbrev H218 (r : K218) : Prop := ∀ (d1 d2 : Int) (d3 d4 : LV) (d5 d6 : Int) (d7 : W59) (d8 : Int) (b : A218), r d1 d2 d3 d4 d5 d6 d7 d8 = some b → UU 218 ([V.agg [i64 d1, i64 d2, lS 1 d3], V.agg [lS 50 d4], i64 d5, i64 d6, V.agg (W59.cells d7), i64 d8]) ([]) = some (A218.out b)
noncomputable abbrev B218 : Code := (Tryz.f218.body).getD .skip
inductive T218_r6s0 where
  | mk (a d f i j l : Int) (m o : LV) (p : W59) (q : W57) (s : W59)
abbrev T218_r6s0.st : T218_r6s0 → S
  | .mk a d f i j l m o p q s => S.mk (U :: U :: i64 a :: i64 d :: U :: i64 f :: pT 0 :: pT 1 :: U :: U :: pT 2 :: U :: U :: pT 3 :: i64 i :: pT 4 :: un 78 []) [oF 3 [[i64 j, i64 l, lS 1 m]], oF 1 [[lS 50 o]], oF 6 [W59.cells p], oF 50 [W57.cells q], oF 6 [W59.cells s]]
inductive T218_r6e0 where
  | mk (a d f i : Int) (j : Bool) (l m : Int) (o p : LV) (q : W59) (s : W57) (t : W59)
inductive N218_r6 where
  | e0 (x : T218_r6e0)
abbrev N218_r6.out : N218_r6 → VX × S
  | .e0 (.mk a d f i j l m o p q s t) => (vN, S.mk (U :: U :: i64 a :: i64 d :: U :: i64 f :: pT 0 :: pT 1 :: U :: U :: pT 2 :: U :: U :: pT 3 :: i64 i :: pT 4 :: un 39 (vb j :: un 38 [])) [oF 3 [[i64 l, i64 m, lS 1 o]], oF 1 [[lS 50 p]], oF 6 [W59.cells q], oF 50 [W57.cells s], oF 6 [W59.cells t]])
abbrev E218_r6 := Ent.o1 N218_r6.out .e0 fun ⟨x⟩ => ⟨x, rfl⟩
noncomputable def D218_r6 (rF158 : K158) (hF158 : H158 rF158) (rF218 : K218) (hF218 : H218 rF218) : T218_r6s0 → PT N218_r6
  | .mk f i j d l m o p q a s =>
   .auto 1 <|
   .testB (a.c3 == 0)
    (fun h0 =>
    .auto 3 <|
    .tot O146 (F146_ok a.c16 a.c17) fun d9 =>
    .auto 1 <|
    .testB d9
     (fun h1 =>
     .auto 4 <|
     .testB (a.c0 == 0)
      (fun h2 =>
      .auto 4 <|
      .ret (.e0 (.mk f i j d true l m o p q a s))
     )
      (fun h2 =>
      .auto 4 <|
      .ret (.e0 (.mk f i j d (d == 255) l m o p q a s))
     )
    )
     (fun h1 =>
     .auto 5 <|
     .ret (.e0 (.mk f i j d false l m o p q a s))
    )
   )
    (fun h0 =>
    .auto 9 <|
    .ret (.e0 (.mk f i j d false l m o p q a s))
   )
noncomputable def J218_r6 (rF158 : K158) (hF158 : H158 rF158) (rF218 : K218) (hF218 : H218 rF218) (y : T218_r6s0) : Option N218_r6 := (D218_r6 rF158 hF158 rF218 hF218 y).ev some
theorem J218_r6_ok (rF158 : K158) (hF158 : H158 rF158) (rF218 : K218) (hF218 : H218 rF218) (y : T218_r6s0) : ∀ b, J218_r6 rF158 hF158 rF218 hF218 y = some b → regP Tryz.prog X CC 218 0 B218 6 y.st = some (E218_r6.out b) := by
  cases y; exact reg_ok (E := E218_r6) (fun x => by kernel_rfl)
inductive T218_r3s0 where
  | mk (a d f i j l : Int) (m o : LV) (p : W59) (q : W57)
abbrev T218_r3s0.st : T218_r3s0 → S
  | .mk a d f i j l m o p q => S.mk (U :: U :: i64 a :: i64 d :: U :: i64 f :: pT 0 :: pT 1 :: U :: U :: pT 2 :: U :: U :: pT 3 :: i64 i :: un 79 []) [oF 3 [[i64 j, i64 l, lS 1 m]], oF 1 [[lS 50 o]], oF 6 [W59.cells p], oF 50 [W57.cells q]]
inductive T218_r3e0 where
  | mk (a d f i : Int) (j : Bool) (l m : Int) (o p : LV) (q : W59) (s : W57)
inductive N218_r3 where
  | e0 (x : T218_r3e0)
abbrev N218_r3.out : N218_r3 → VX × S
  | .e0 (.mk a d f i j l m o p q s) => (vN, S.mk (U :: U :: i64 a :: i64 d :: U :: i64 f :: pT 0 :: pT 1 :: U :: U :: pT 2 :: U :: U :: pT 3 :: i64 i :: un 17 (vb j :: un 61 [])) [oF 3 [[i64 l, i64 m, lS 1 o]], oF 1 [[lS 50 p]], oF 6 [W59.cells q], oF 50 [W57.cells s]])
abbrev E218_r3 := Ent.o1 N218_r3.out .e0 fun ⟨x⟩ => ⟨x, rfl⟩
noncomputable def D218_r3 (rF158 : K158) (hF158 : H158 rF158) (rF218 : K218) (hF218 : H218 rF218) : T218_r3s0 → PT N218_r3
  | .mk d1 a d2 d d3 d4 d5 d6 d7 f =>
   .auto 1 <|
   .tot O23 (F23_ok f a) fun d8 =>
   .testB (!d8)
    (fun h0 =>
    .auto 2 <|
    .ret (.e0 (.mk d1 a d2 d true d3 d4 d5 d6 d7 f))
   )
    (fun h0 =>
    .auto 2 <|
    .ret (.e0 (.mk d1 a d2 d (d == 0) d3 d4 d5 d6 d7 f))
   )
noncomputable def J218_r3 (rF158 : K158) (hF158 : H158 rF158) (rF218 : K218) (hF218 : H218 rF218) (y : T218_r3s0) : Option N218_r3 := (D218_r3 rF158 hF158 rF218 hF218 y).ev some
theorem J218_r3_ok (rF158 : K158) (hF158 : H158 rF158) (rF218 : K218) (hF218 : H218 rF218) (y : T218_r3s0) : ∀ b, J218_r3 rF158 hF158 rF218 hF218 y = some b → regP Tryz.prog X CC 218 0 B218 3 y.st = some (E218_r3.out b) := by
  cases y; exact reg_ok (E := E218_r3) (fun x => by kernel_rfl)
noncomputable def D218 (rF158 : K158) (hF158 : H158 rF158) (rF218 : K218) (hF218 : H218 rF218) (p q : Int) (s m : LV) (d o : Int) (t : W59) (u : Int) : PT A218 := .auto 1 <| .test (0 ≤ d) (fun h0 => .look RW57 (m[Int.toNat d]?) fun f0 => .auto 2 <| .ask E22 (F22_ok f0 o) fun ⟨f8⟩ => .cut E218_r3 (J218_r3_ok rF158 hF158 rF218 hF218 (.mk d o u f8 p q s m t f0)) fun | .e0 (.mk f1 f2 f9 j0 j1 j2 j3 j4 f3 f4 j5) => .testB j1 (fun h1 => .ret (.a0 0 ([]))) (fun h1 => .auto 2 <| .ask E27 (F27_ok f3 f1 f2) fun ⟨j6⟩ => .ask E79 (F79_ok f4 j6) fun ⟨j7⟩ => .auto 1 <| .cut E218_r6 (J218_r6_ok rF158 hF158 rF218 hF218 (.mk f1 f2 f9 j0 j2 j3 j4 f3 f4 j5 j7)) fun | .e0 (.mk f5 w y v j8 z d0 d1 j9 l0 a d2) => .testB j8 (fun h2 => .auto 3 <| .ask E259 (F259_ok rF158 hF158 z d0 d1 a w d2 y v) fun ⟨l1, l2⟩ => .ret (.a0 l1 l2)) (fun h2 => .auto 3 <| .ask E259 (F259_ok rF158 hF158 z d0 d1 a w d2 y 255) fun ⟨f, i⟩ => .auto 2 <| .ask E86 (F86_ok a d2) fun ⟨j, l⟩ => .auto 3 <| .testB (a.c3 != 0) (fun h3 => .auto 2 <| .test (f5 > 0) (fun h4 => .auto 3 <| .ask E218 (hF218 z d0 d1 j9 (w64 (f5 - 1)) w l0 y) fun ⟨f6, f7⟩ => .auto 2 <| .test (0 + f ≤ List.length i) (fun h5 => .test (0 + j ≤ List.length l) (fun h6 => .test (0 + f6 ≤ List.length f7) (fun h7 => .ret (.a0 1 ([[vb true, lS 2 [], i64 0, i64 0, u8 0, u8 0, u8 0, u8 0, u8 0, u8 0, u8 0, u8 0, i64 0, i64 0, i64 0, i64 0, i64 0, i64 0, lS 23 (List.take f i), lS 2 (List.take j l), i64 a.c3, lS 23 (List.take f6 f7), i64 v]]))) (fun _ => .fail)) (fun _ => .fail)) (fun _ => .fail)) (fun h4 => .auto 1 <| .test (0 + f ≤ List.length i) (fun h5 => .test (0 + j ≤ List.length l) (fun h6 => .ret (.a0 1 ([[vb true, lS 2 [], i64 0, i64 0, u8 0, u8 0, u8 0, u8 0, u8 0, u8 0, u8 0, u8 0, i64 0, i64 0, i64 0, i64 0, i64 0, i64 0, lS 23 (List.take f i), lS 2 (List.take j l), i64 a.c3, lS 23 [], i64 v]]))) (fun _ => .fail)) (fun _ => .fail))) (fun h3 => .auto 4 <| .test (0 + f ≤ List.length i) (fun h4 => .test (0 + j ≤ List.length l) (fun h5 => .ret (.a0 1 ([[vb true, lS 2 [], i64 0, i64 0, u8 0, u8 0, u8 0, u8 0, u8 0, u8 0, u8 0, u8 0, i64 0, i64 0, i64 0, i64 0, i64 0, i64 0, lS 23 (List.take f i), lS 2 (List.take j l), i64 a.c3, lS 23 [], i64 v]]))) (fun _ => .fail)) (fun _ => .fail))))) (fun _ => .fail)
theorem D218_ok (rF158 : K158) (hF158 : H158 rF158) (rF218 : K218) (hF218 : H218 rF218) (a d : Int) (f i : LV) (j l : Int) (m : W59) (o : Int) : ∀ b, (D218 rF158 hF158 rF218 hF218 a d f i j l m o).ev some = some b → UU 218 ([V.agg [i64 a, i64 d, lS 1 f], V.agg [lS 50 i], i64 j, i64 l, V.agg (W59.cells m), i64 o]) ([]) = some (A218.out b) :=
  fn_ok (E := E218) (L := notIn []) rfl rfl (fun x => by kernel_rfl)
noncomputable def G218 (rF158 : K158) (hF158 : H158 rF158) : Nat → { r : Int → Int → LV → LV → Int → Int → W59 → Int → Option A218 // ∀ (a d : Int) (f i : LV) (j l : Int) (m : W59) (o : Int) (b : A218), r a d f i j l m o = some b → UU 218 ([V.agg [i64 a, i64 d, lS 1 f], V.agg [lS 50 i], i64 j, i64 l, V.agg (W59.cells m), i64 o]) ([]) = some (A218.out b) }
  | 0 => ⟨fun _ _ _ _ _ _ _ _ => none, fun _ _ _ _ _ _ _ _ _ h => by cases h⟩
  | n + 1 => ⟨fun a d f i j l m o => (D218 rF158 hF158 (G218 rF158 hF158 n).1 (G218 rF158 hF158 n).2 a d f i j l m o).ev some, fun a d f i j l m o => D218_ok rF158 hF158 (G218 rF158 hF158 n).1 (G218 rF158 hF158 n).2 a d f i j l m o⟩
noncomputable def F218 (rF158 : K158) (hF158 : H158 rF158) (n : Nat) (o p : Int) (q s : LV) (t u : Int) (v : W59) (w : Int) : Option A218 := (G218 rF158 hF158 n).1 o p q s t u v w
theorem F218_ok (rF158 : K158) (hF158 : H158 rF158) (n : Nat) (a d : Int) (f i : LV) (j l : Int) (m : W59) (o : Int) : ∀ b, F218 rF158 hF158 n a d f i j l m o = some b → UU 218 ([V.agg [i64 a, i64 d, lS 1 f], V.agg [lS 50 i], i64 j, i64 l, V.agg (W59.cells m), i64 o]) ([]) = some (A218.out b) := (G218 rF158 hF158 n).2 a d f i j l m o
theorem F218_succ (rF158 : K158) (hF158 : H158 rF158) (n : Nat) (o p : Int) (q s : LV) (t u : Int) (v : W59) (w : Int) : F218 rF158 hF158 (n + 1) o p q s t u v w = (D218 rF158 hF158 (F218 rF158 hF158 n) (F218_ok rF158 hF158 n) o p q s t u v w).ev some := rfl
/-! ## F158 -/
noncomputable abbrev B158 : Code := (Tryz.f158.body).getD .skip
inductive T158_0s0 where
  | mk (a d : Int) (f : Nat) (i j l m : Int) (o : LV) (p : W59) (q s : LV)
inductive T158_0e0 where
  | mk (a : Nat) (d : LV)
inductive N158_0 where
  | s0 (x : T158_0s0)
  | e0 (x : T158_0e0)
abbrev N158_0.out : N158_0 → VX × S
  | .s0 (.mk a d f i j l m o p q s) => (vN, S.mk (U :: U :: i64 a :: U :: i64 d :: pT 0 :: U :: U :: pT 1 :: U :: U :: hS 2 f :: pT 3 :: un 14 (i64 i :: i64 j :: un 29 [])) [oF 3 [[i64 l, i64 m, lS 1 o]], oF 6 [W59.cells p], oT 23 q, oF 1 [[lS 50 s]]])
  | .e0 (.mk t u) => (vX 0, S.mk (un 11 (hS 0 t :: un 46 [])) [oT 23 u])
abbrev E158_0 := Ent.o2 N158_0.out .s0 .e0 (fun b => by cases b <;> simp)
noncomputable def D158_0 (rF158 : K158) (hF158 : H158 rF158) : T158_0s0 → PT N158_0
  | .mk j l a w d m o p q i f =>
   .test (d < w)
    (fun h0 =>
    .auto 1 <|
    .test (w64 (d + 1) < (f.length : Int))
     (fun h1 =>
     .auto 5 <|
     .test (0 ≤ w64 (d + 1))
      (fun h2 =>
      .look RW57 (f[Int.toNat (w64 (d + (1 : Int)))]?) fun d5 =>
      .auto 4 <|
      .testB (d5.c3 != 0)
       (fun h3 =>
       .ret (.s0 (.mk j l a w (w64 (d + 1)) m o p q i f))
      )
       (fun h3 =>
       .auto 3 <|
       .ask E218 (F218_ok rF158 hF158 100000 m o p f d j q l) fun (r : A218) => match r with
       | .a0 s t =>
        .test (0 + s ≤ List.length t)
         (fun h4 =>
         .test (0 + a ≤ List.length i ∧ (a + List.length (List.take s t)) * 192 ≤ 140737488355328 ∧ a + List.length (List.take s t) ≤ 140737488355328)
          (fun h5 =>
          .ret (.s0 (.mk j l (a + List.length (List.take s t)) w (w64 (d + 1)) m o p q (List.take a i ++ List.take s t) f))
         )
          (fun _ => .fail)
        )
         (fun _ => .fail)
      )
     )
      (fun _ => .fail)
    )
     (fun h1 =>
     .auto 12 <|
     .ask E218 (F218_ok rF158 hF158 100000 m o p f d j q l) fun (r : A218) => match r with
     | .a0 u v =>
      .test (0 + u ≤ List.length v)
       (fun h2 =>
       .test (0 + a ≤ List.length i ∧ (a + List.length (List.take u v)) * 192 ≤ 140737488355328 ∧ a + List.length (List.take u v) ≤ 140737488355328)
        (fun h3 =>
        .ret (.s0 (.mk j l (a + List.length (List.take u v)) w (w64 (d + 1)) m o p q (List.take a i ++ List.take u v) f))
       )
        (fun _ => .fail)
      )
       (fun _ => .fail)
    )
   )
    (fun h0 =>
    .ret (.e0 (.mk a i))
   )
noncomputable def L158_0 (rF158 : K158) (hF158 : H158 rF158) := E158_0.loop fun | .s0 x => D158_0 rF158 hF158 x | _ => .fail
theorem L158_0_ok (rF158 : K158) (hF158 : H158 rF158) : LU 158 0 B158 0 E158_0 (L158_0 rF158 hF158) :=
  lk (L := notIn []) (fun b hb => by cases b <;> first | (cases hb; done) | (rename_i x; cases x; intro x; kernel_rfl) | (intro x; kernel_rfl))
noncomputable def N158_0.nx (rF158 : K158) (hF158 : H158 rF158) (n : Nat) : N158_0 → Option N158_0 | .s0 x => L158_0 rF158 hF158 n (.s0 x) | .e0 x => some (.e0 x)
theorem L158_0_s0 (rF158 : K158) (hF158 : H158 rF158) (n : Nat) (x : T158_0s0) : L158_0 rF158 hF158 (n + 1) (.s0 x) = (D158_0 rF158 hF158 x).ev (N158_0.nx rF158 hF158 n) := Ent.loop_eq fun c => by cases c <;> rfl
inductive T158_r1s0 where
  | mk (a d f i j : Int) (l : LV) (m : W59)
abbrev T158_r1s0.st : T158_r1s0 → S
  | .mk a d f i j l m => S.mk (U :: i64 a :: i64 d :: U :: i64 f :: pT 0 :: U :: U :: pT 1 :: un 49 []) [oF 3 [[i64 i, i64 j, lS 1 l]], oF 6 [W59.cells m]]
inductive T158_r1e0 where
  | mk (a d f : Int) (i : Bool) (j l : Int) (m : LV) (o : W59)
inductive N158_r1 where
  | e0 (x : T158_r1e0)
abbrev N158_r1.out : N158_r1 → VX × S
  | .e0 (.mk a d f i j l m o) => (vN, S.mk (U :: i64 a :: i64 d :: U :: i64 f :: pT 0 :: U :: U :: pT 1 :: un 10 (vb i :: un 38 [])) [oF 3 [[i64 j, i64 l, lS 1 m]], oF 6 [W59.cells o]])
abbrev E158_r1 := Ent.o1 N158_r1.out .e0 fun ⟨x⟩ => ⟨x, rfl⟩
noncomputable def D158_r1 (rF158 : K158) (hF158 : H158 rF158) : T158_r1s0 → PT N158_r1
  | .mk p q a s t u v =>
   .test (a < 0)
    (fun h0 =>
    .auto 2 <|
    .ret (.e0 (.mk p q a true s t u v))
   )
    (fun h0 =>
    .auto 2 <|
    .ret (.e0 (.mk p q a (decide (a ≥ 4)) s t u v))
   )
noncomputable def J158_r1 (rF158 : K158) (hF158 : H158 rF158) (y : T158_r1s0) : Option N158_r1 := (D158_r1 rF158 hF158 y).ev some
theorem J158_r1_ok (rF158 : K158) (hF158 : H158 rF158) (y : T158_r1s0) : ∀ b, J158_r1 rF158 hF158 y = some b → regP Tryz.prog X CC 158 0 B158 1 y.st = some (E158_r1.out b) := by
  cases y; exact reg_ok (E := E158_r1) (fun x => by kernel_rfl)
noncomputable def D158 (rF158 : K158) (hF158 : H158 rF158) (a d : Int) (f : LV) (i j : Int) (l : W59) (m : Int) : PT A158 := .cut E158_r1 (J158_r1_ok rF158 hF158 (.mk i j m a d f l)) fun | .e0 (.mk o s t u v w p y) => .testB u (fun h0 => .ret (.a0 0 ([]))) (fun h0 => .auto 1 <| .test (0 ≤ o) (fun h1 => .look RW52 (p[Int.toNat o]?) fun q => .auto 2 <| .cut E158_0 (L158_0_ok rF158 hF158 (.s0 (.mk s t 0 (((List.length q.c0) : Int)) 0 v w p y ([]) q.c0)) rfl) fun | .e0 (.mk z d0) => .ret (.a0 z d0) | _ => .fail) (fun _ => .fail))
theorem D158_ok (rF158 : K158) (hF158 : H158 rF158) (a d : Int) (f : LV) (i j : Int) (l : W59) (m : Int) : ∀ b, (D158 rF158 hF158 a d f i j l m).ev some = some b → UU 158 ([V.agg [i64 a, i64 d, lS 1 f], i64 i, i64 j, V.agg (W59.cells l), i64 m]) ([]) = some (A158.out b) :=
  fn_ok (E := E158) (L := notIn []) rfl rfl (fun x => by kernel_rfl)
noncomputable def G158 : Nat → { r : Int → Int → LV → Int → Int → W59 → Int → Option A158 // ∀ (a d : Int) (f : LV) (i j : Int) (l : W59) (m : Int) (b : A158), r a d f i j l m = some b → UU 158 ([V.agg [i64 a, i64 d, lS 1 f], i64 i, i64 j, V.agg (W59.cells l), i64 m]) ([]) = some (A158.out b) }
  | 0 => ⟨fun _ _ _ _ _ _ _ => none, fun _ _ _ _ _ _ _ _ h => by cases h⟩
  | n + 1 => ⟨fun a d f i j l m => (D158 (G158 n).1 (G158 n).2 a d f i j l m).ev some, fun a d f i j l m => D158_ok (G158 n).1 (G158 n).2 a d f i j l m⟩
noncomputable def F158 (n : Nat) (a d : Int) (f : LV) (i j : Int) (l : W59) (m : Int) : Option A158 := (G158 n).1 a d f i j l m
theorem F158_ok (n : Nat) (a d : Int) (f : LV) (i j : Int) (l : W59) (m : Int) : ∀ b, F158 n a d f i j l m = some b → UU 158 ([V.agg [i64 a, i64 d, lS 1 f], i64 i, i64 j, V.agg (W59.cells l), i64 m]) ([]) = some (A158.out b) := (G158 n).2 a d f i j l m
theorem F158_succ (n : Nat) (a d : Int) (f : LV) (i j : Int) (l : W59) (m : Int) : F158 (n + 1) a d f i j l m = (D158 (F158 n) (F158_ok n) a d f i j l m).ev some := rfl
/-! ## F91 -/
noncomputable def D91 (f i : Int) (a : LV) (d j : Int) (l : W59) (m : Int) : PT A91 := .auto 1 <| .ask E157 (F157_ok f i a) fun ⟨o⟩ => .testB (o != 0) (fun h0 => .auto 9 <| .ret (.a0 0 ([]))) (fun h0 => .auto 2 <| .test (d < 0) (fun h1 => .auto 6 <| .ret (.a0 0 ([]))) (fun h1 => .auto 6 <| .test (d ≥ (a.length : Int)) (fun h2 => .ret (.a0 0 ([]))) (fun h2 => .auto 2 <| .ask E158 (F158_ok 100000 f i a d j l m) fun ⟨p, q⟩ => .ret (.a0 p q))))
noncomputable def F91 (a d : Int) (f : LV) (i j : Int) (l : W59) (m : Int) : Option A91 := (D91 a d f i j l m).ev some
theorem F91_ok (a d : Int) (f : LV) (i j : Int) (l : W59) (m : Int) : FU E91 (F91 a d f i j l m) 91 [V.agg [i64 a, i64 d, lS 1 f], i64 i, i64 j, V.agg (W59.cells l), i64 m] := fu rfl rfl fun x => by kernel_rfl
/-! ## F33 -/
noncomputable def D33 (a d : Int) (f : LV) (i : Int) : PT A33 := .auto 1 <| .tot O78 F78_ok fun j => .ask E91 (F91_ok a d f 0 i j 0) fun ⟨l, m⟩ => .ret (.a0 l m)
noncomputable def F33 (a d : Int) (f : LV) (i : Int) : Option A33 := (D33 a d f i).ev some
theorem F33_ok (a d : Int) (f : LV) (i : Int) : FU E33 (F33 a d f i) 33 [V.agg [i64 a, i64 d, lS 1 f], i64 i] := fu rfl rfl fun x => by kernel_rfl
/-! ## F37 -/
abbrev K37 := LV → Int → Option A37
abbrev H37 (r : K37) : Prop := ∀ (f : LV) (i : Int) (b : A37), r f i = some b → UU 37 ([lS 23 f, i64 i]) ([]) = some (A37.out b)
noncomputable abbrev B37 : Code := (Tryz.f37.body).getD .skip
inductive T37_4s0 where
  | mk (a : Int) (d : LV) (f i : Int) (j : Nat) (l m : Int) (o : LV) (p q : Int) (s : LV)
inductive T37_4e1 where
  | mk (a : Int) (d : LV) (f i : Int) (j : Nat) (l m : Int) (o : LV)
inductive N37_4 where
  | s0 (x : T37_4s0)
  | e0
  | e1 (x : T37_4e1)
abbrev N37_4.out : N37_4 → VX × S
  | .s0 (.mk a d f i j l m o p q s) => (vN, S.mk (U :: i64 a :: un 9 (lS 23 d :: i64 f :: i64 i :: un 32 (hS 0 j :: i64 l :: i64 m :: un 4 (lS 2 o :: i64 p :: i64 q :: un 24 [])))) [oT 2 s])
  | .e0 => (VX.ret, S.mk (un 4 (vb false :: un 75 [])) [])
  | .e1 (.mk t u v w y z d0 d1) => (vX 4, S.mk (U :: i64 t :: un 9 (lS 23 u :: i64 v :: i64 w :: un 32 (hS 0 y :: i64 z :: i64 d0 :: un 31 []))) [oT 2 d1])
abbrev E37_4 := Ent.o3 N37_4.out .s0 (fun (_ : Unit) => .e0) .e1 (fun b => by cases b <;> simp)
noncomputable def D37_4 (rF37 : K37) (hF37 : H37 rF37) : T37_4s0 → PT N37_4
  | .mk j l m o p q s t u a v =>
   .test (a < u)
    (fun h0 =>
    .test (0 ≤ a)
     (fun h1 =>
     .look RW28 (t[Int.toNat a]?) fun d =>
     .auto 2 <|
     .test (d.c0 < -536870912)
      (fun h2 =>
      .auto 12 <|
      .ret .e0
     )
      (fun h2 =>
      .auto 4 <|
      .test (d.c0 > 536870912)
       (fun h3 =>
       .auto 8 <|
       .ret .e0
      )
       (fun h3 =>
       .auto 4 <|
       .test (d.c1 < -536870912)
        (fun h4 =>
        .auto 4 <|
        .ret .e0
       )
        (fun h4 =>
        .auto 4 <|
        .test (d.c1 > 536870912)
         (fun h5 =>
         .ret .e0
        )
         (fun h5 =>
         .ret (.s0 (.mk j l m o p q s t u (w64 (a + 1)) v))
        )
       )
      )
     )
    )
     (fun _ => .fail)
   )
    (fun h0 =>
    .ret (.e1 (.mk j l m o p q s v))
   )
noncomputable def L37_4 (rF37 : K37) (hF37 : H37 rF37) := E37_4.loop fun | .s0 x => D37_4 rF37 hF37 x | _ => .fail
theorem L37_4_ok (rF37 : K37) (hF37 : H37 rF37) : LU 37 0 B37 4 E37_4 (L37_4 rF37 hF37) :=
  lk (L := notIn []) (fun b hb => by cases b <;> first | (cases hb; done) | (rename_i x; cases x; intro x; kernel_rfl) | (intro x; kernel_rfl))
noncomputable def N37_4.nx (rF37 : K37) (hF37 : H37 rF37) (n : Nat) : N37_4 → Option N37_4 | .s0 x => L37_4 rF37 hF37 n (.s0 x) | .e0 => some .e0 | .e1 x => some (.e1 x)
theorem L37_4_s0 (rF37 : K37) (hF37 : H37 rF37) (n : Nat) (x : T37_4s0) : L37_4 rF37 hF37 (n + 1) (.s0 x) = (D37_4 rF37 hF37 x).ev (N37_4.nx rF37 hF37 n) := Ent.loop_eq fun c => by cases c <;> rfl
inductive T37_2s0 where
  | mk (a : Int) (d : LV) (f i : Int) (j : Nat) (l m : Int) (o : LV)
inductive T37_2e1 where
  | mk (a : Int) (d : LV) (f i : Int)
inductive N37_2 where
  | s0 (x : T37_2s0)
  | e0
  | e1 (x : T37_2e1)
abbrev N37_2.out : N37_2 → VX × S
  | .s0 (.mk a d f i j l m o) => (vN, S.mk (U :: i64 a :: un 9 (lS 23 d :: i64 f :: i64 i :: un 32 (hS 0 j :: i64 l :: i64 m :: un 31 []))) [oT 2 o])
  | .e0 => (VX.ret, S.mk (un 4 (vb false :: un 75 [])) [])
  | .e1 (.mk p q s t) => (vX 2, S.mk (U :: i64 p :: un 9 (lS 23 q :: i64 s :: i64 t :: un 66 [])) [])
abbrev E37_2 := Ent.o3 N37_2.out .s0 (fun (_ : Unit) => .e0) .e1 (fun b => by cases b <;> simp)
noncomputable def D37_2 (rF37 : K37) (hF37 : H37 rF37) : T37_2s0 → PT N37_2
  | .mk i j l m o p a q =>
   .test (a < p)
    (fun h0 =>
    .test (0 ≤ a ∧ a < (↑o : Int))
     (fun h1 =>
     .look RW88 (q[(0 : Nat) + Int.toNat a]?) fun s =>
     .auto 2 <|
     .cut E37_4 (L37_4_ok rF37 hF37 (.s0 (.mk i j l m o p a s.c1 (((List.length s.c1) : Int)) 0 q)) rfl) fun (r : N37_4) => match r with
     | .e0 =>
      .ret .e0
     | .e1 (.mk t u v w y z d0 d1) =>
      .ret (.s0 (.mk t u v w y z (w64 (d0 + 1)) d1))
     | _ => .fail
    )
     (fun _ => .fail)
   )
    (fun h0 =>
    .ret (.e1 (.mk i j l m))
   )
noncomputable def L37_2 (rF37 : K37) (hF37 : H37 rF37) := E37_2.loop fun | .s0 x => D37_2 rF37 hF37 x | _ => .fail
theorem L37_2_ok (rF37 : K37) (hF37 : H37 rF37) : LU 37 0 B37 2 E37_2 (L37_2 rF37 hF37) :=
  lk (L := notIn []) (fun b hb => by cases b <;> first | (cases hb; done) | (rename_i x; cases x; intro x; kernel_rfl) | (intro x; kernel_rfl))
noncomputable def N37_2.nx (rF37 : K37) (hF37 : H37 rF37) (n : Nat) : N37_2 → Option N37_2 | .s0 x => L37_2 rF37 hF37 n (.s0 x) | .e0 => some .e0 | .e1 x => some (.e1 x)
theorem L37_2_s0 (rF37 : K37) (hF37 : H37 rF37) (n : Nat) (x : T37_2s0) : L37_2 rF37 hF37 (n + 1) (.s0 x) = (D37_2 rF37 hF37 x).ev (N37_2.nx rF37 hF37 n) := Ent.loop_eq fun c => by cases c <;> rfl
inductive T37_r4s0 where
  | mk (a : Int) (d : LV) (f i : Int) (j : W87)
abbrev T37_r4s0.st : T37_r4s0 → S
  | .mk a d f i j => S.mk (U :: i64 a :: un 4 (pT 0 :: un 4 (lS 23 d :: i64 f :: i64 i :: un 66 []))) [oF 23 [W87.cells j]]
inductive T37_r4e0 where
  | mk (a : Int) (d : LV) (f i : Int) (j : Bool) (l : W87)
inductive N37_r4 where
  | e0 (x : T37_r4e0)
abbrev N37_r4.out : N37_r4 → VX × S
  | .e0 (.mk a d f i j l) => (vN, S.mk (U :: i64 a :: un 4 (pT 0 :: un 4 (lS 23 d :: i64 f :: i64 i :: un 24 (vb j :: un 41 [])))) [oF 23 [W87.cells l]])
abbrev E37_r4 := Ent.o1 N37_r4.out .e0 fun ⟨x⟩ => ⟨x, rfl⟩
noncomputable def D37_r4 (rF37 : K37) (hF37 : H37 rF37) : T37_r4s0 → PT N37_r4
  | .mk a f i j d =>
   .test (a > 8)
    (fun h0 =>
    .auto 4 <|
    .ret (.e0 (.mk a f i j true d))
   )
    (fun h0 =>
    .auto 3 <|
    .testB d.c0
     (fun h1 =>
     .auto 5 <|
     .ask E37 (hF37 d.c18 (w64 (a + 1))) fun (r : A37) => match r with
     | .a0 o =>
      .auto 2 <|
      .testB (!o)
       (fun h2 =>
       .auto 10 <|
       .ret (.e0 (.mk a f i j true d))
      )
       (fun h2 =>
       .auto 5 <|
       .ask E37 (hF37 d.c21 (w64 (a + 1))) fun (r : A37) => match r with
       | .a0 p =>
        .auto 6 <|
        .ret (.e0 (.mk a f i j (!p) d))
      )
    )
     (fun h1 =>
     .auto 10 <|
     .ret (.e0 (.mk a f i j false d))
    )
   )
noncomputable def J37_r4 (rF37 : K37) (hF37 : H37 rF37) (y : T37_r4s0) : Option N37_r4 := (D37_r4 rF37 hF37 y).ev some
theorem J37_r4_ok (rF37 : K37) (hF37 : H37 rF37) (y : T37_r4s0) : ∀ b, J37_r4 rF37 hF37 y = some b → regP Tryz.prog X CC 37 0 B37 4 y.st = some (E37_r4.out b) := by
  cases y; exact reg_ok (E := E37_r4) (fun x => by kernel_rfl)
inductive T37_0s0 where
  | mk (a : Int) (d : LV) (f i : Int)
inductive N37_0 where
  | s0 (x : T37_0s0)
  | e0
  | e1
abbrev N37_0.out : N37_0 → VX × S
  | .s0 (.mk a d f i) => (vN, S.mk (U :: i64 a :: un 9 (lS 23 d :: i64 f :: i64 i :: un 66 [])) [])
  | .e0 => (VX.ret, S.mk (un 4 (vb false :: un 75 [])) [])
  | .e1 => (vX 0, S.mk (un 80 []) [])
abbrev E37_0 := Ent.o3 N37_0.out .s0 (fun (_ : Unit) => .e0) (fun (_ : Unit) => .e1) (fun b => by cases b <;> simp)
noncomputable def D37_0 (rF37 : K37) (hF37 : H37 rF37) : T37_0s0 → PT N37_0
  | .mk m j l d =>
   .test (d < l)
    (fun h0 =>
    .test (0 ≤ d)
     (fun h1 =>
     .look RW87 (j[Int.toNat d]?) fun o =>
     .auto 1 <|
     .cut E37_r4 (J37_r4_ok rF37 hF37 (.mk m j l d o)) fun (r : N37_r4) => match r with
     | .e0 (.mk p q s t u a) =>
      .testB u
       (fun h2 =>
       .ret .e0
      )
       (fun h2 =>
       .auto 1 <|
       .test ((0 : Nat) ≤ (0 : Nat) ∧ ((0 : Nat) + List.length a.c1) * (32 : Nat) ≤ (140737488355328 : Nat) ∧ (0 : Nat) + List.length a.c1 ≤ (140737488355328 : Nat))
        (fun h3 =>
        .auto 1 <|
        .test (0 + (0 + List.length a.c1) ≤ List.length ([] ++ a.c1) ∧ (0 + List.length a.c1 + List.length a.c19) * 32 ≤ 140737488355328 ∧ 0 + List.length a.c1 + List.length a.c19 ≤ 140737488355328)
         (fun h4 =>
         .cut E37_2 (L37_2_ok rF37 hF37 (.s0 (.mk p q s t (0 + List.length a.c1 + List.length a.c19) ((↑(0 + List.length a.c1 + List.length a.c19) : Int)) 0 (List.take (0 + List.length a.c1) ([] ++ a.c1) ++ a.c19))) rfl) fun (r : N37_2) => match r with
         | .e0 =>
          .ret .e0
         | .e1 (.mk v w y z) =>
          .ret (.s0 (.mk v w y (w64 (z + 1))))
         | _ => .fail
        )
         (fun _ => .fail)
       )
        (fun _ => .fail)
      )
    )
     (fun _ => .fail)
   )
    (fun h0 =>
    .ret .e1
   )
noncomputable def L37_0 (rF37 : K37) (hF37 : H37 rF37) := E37_0.loop fun | .s0 x => D37_0 rF37 hF37 x | _ => .fail
theorem L37_0_ok (rF37 : K37) (hF37 : H37 rF37) : LU 37 0 B37 0 E37_0 (L37_0 rF37 hF37) :=
  lk (L := notIn []) (fun b hb => by cases b <;> first | (cases hb; done) | (rename_i x; cases x; intro x; kernel_rfl) | (intro x; kernel_rfl))
noncomputable def N37_0.nx (rF37 : K37) (hF37 : H37 rF37) (n : Nat) : N37_0 → Option N37_0 | .s0 x => L37_0 rF37 hF37 n (.s0 x) | .e0 => some .e0 | .e1 => some .e1
theorem L37_0_s0 (rF37 : K37) (hF37 : H37 rF37) (n : Nat) (x : T37_0s0) : L37_0 rF37 hF37 (n + 1) (.s0 x) = (D37_0 rF37 hF37 x).ev (N37_0.nx rF37 hF37 n) := Ent.loop_eq fun c => by cases c <;> rfl
noncomputable def D37 (rF37 : K37) (hF37 : H37 rF37) (a : LV) (d : Int) : PT A37 := .cut E37_0 (L37_0_ok rF37 hF37 (.s0 (.mk d a ((a.length : Int)) 0)) rfl) fun | .e0 => .ret (.a0 false) | .e1 => .ret (.a0 true) | _ => .fail
theorem D37_ok (rF37 : K37) (hF37 : H37 rF37) (a : LV) (d : Int) : ∀ b, (D37 rF37 hF37 a d).ev some = some b → UU 37 ([lS 23 a, i64 d]) ([]) = some (A37.out b) :=
  fn_ok (E := E37) (L := notIn []) rfl rfl (fun x => by kernel_rfl)
noncomputable def G37 : Nat → { r : LV → Int → Option A37 // ∀ (a : LV) (d : Int) (b : A37), r a d = some b → UU 37 ([lS 23 a, i64 d]) ([]) = some (A37.out b) }
  | 0 => ⟨fun _ _ => none, fun _ _ _ h => by cases h⟩
  | n + 1 => ⟨fun a d => (D37 (G37 n).1 (G37 n).2 a d).ev some, fun a d => D37_ok (G37 n).1 (G37 n).2 a d⟩
noncomputable def F37 (n : Nat) (a : LV) (d : Int) : Option A37 := (G37 n).1 a d
theorem F37_ok (n : Nat) (a : LV) (d : Int) : ∀ b, F37 n a d = some b → UU 37 ([lS 23 a, i64 d]) ([]) = some (A37.out b) := (G37 n).2 a d
theorem F37_succ (n : Nat) (a : LV) (d : Int) : F37 (n + 1) a d = (D37 (F37 n) (F37_ok n) a d).ev some := rfl
/-! ## F38 -/
abbrev K38 := LV → Option A38
abbrev H38 (r : K38) : Prop := ∀ (d : LV) (b : A38), r d = some b → UU 38 ([lS 23 d]) ([]) = some (A38.out b)
noncomputable abbrev B38 : Code := (Tryz.f38.body).getD .skip
inductive T38_0s0 where
  | mk (a : Int) (d : LV) (f i : Int)
inductive T38_0e0 where
  | mk (a : Int)
inductive N38_0 where
  | s0 (x : T38_0s0)
  | e0 (x : T38_0e0)
abbrev N38_0.out : N38_0 → VX × S
  | .s0 (.mk a d f i) => (vN, S.mk (U :: U :: U :: i64 a :: un 4 (lS 23 d :: i64 f :: i64 i :: un 14 [])) [])
  | .e0 (.mk j) => (vX 0, S.mk (U :: U :: U :: i64 j :: un 21 []) [])
abbrev E38_0 := Ent.o2 N38_0.out .s0 .e0 (fun b => by cases b <;> simp)
noncomputable def D38_0 (rF38 : K38) (hF38 : H38 rF38) : T38_0s0 → PT N38_0
  | .mk f i j a =>
   .test (a < j)
    (fun h0 =>
    .test (0 ≤ a)
     (fun h1 =>
     .look RW87 (i[Int.toNat a]?) fun l =>
     .auto 2 <|
     .ask E38 (hF38 l.c18) fun (r : A38) => match r with
     | .a0 m =>
      .auto 1 <|
      .ask E38 (hF38 l.c21) fun (r : A38) => match r with
      | .a0 o =>
       .ret (.s0 (.mk (w64 (w64 (f + m) + o)) i j (w64 (a + 1))))
    )
     (fun _ => .fail)
   )
    (fun h0 =>
    .ret (.e0 (.mk f))
   )
noncomputable def L38_0 (rF38 : K38) (hF38 : H38 rF38) := E38_0.loop fun | .s0 x => D38_0 rF38 hF38 x | _ => .fail
theorem L38_0_ok (rF38 : K38) (hF38 : H38 rF38) : LU 38 0 B38 0 E38_0 (L38_0 rF38 hF38) :=
  lk (L := notIn []) (fun b hb => by cases b <;> first | (cases hb; done) | (rename_i x; cases x; intro x; kernel_rfl) | (intro x; kernel_rfl))
noncomputable def N38_0.nx (rF38 : K38) (hF38 : H38 rF38) (n : Nat) : N38_0 → Option N38_0 | .s0 x => L38_0 rF38 hF38 n (.s0 x) | .e0 x => some (.e0 x)
theorem L38_0_s0 (rF38 : K38) (hF38 : H38 rF38) (n : Nat) (x : T38_0s0) : L38_0 rF38 hF38 (n + 1) (.s0 x) = (D38_0 rF38 hF38 x).ev (N38_0.nx rF38 hF38 n) := Ent.loop_eq fun c => by cases c <;> rfl
noncomputable def D38 (rF38 : K38) (hF38 : H38 rF38) (a : LV) : PT A38 := .cut E38_0 (L38_0_ok rF38 hF38 (.s0 (.mk ((a.length : Int)) a ((a.length : Int)) 0)) rfl) fun | .e0 (.mk d) => .ret (.a0 d) | _ => .fail
theorem D38_ok (rF38 : K38) (hF38 : H38 rF38) (a : LV) : ∀ b, (D38 rF38 hF38 a).ev some = some b → UU 38 ([lS 23 a]) ([]) = some (A38.out b) :=
  fn_ok (E := E38) (L := notIn []) rfl rfl (fun x => by kernel_rfl)
noncomputable def G38 : Nat → { r : LV → Option A38 // ∀ (a : LV) (b : A38), r a = some b → UU 38 ([lS 23 a]) ([]) = some (A38.out b) }
  | 0 => ⟨fun _ => none, fun _ _ h => by cases h⟩
  | n + 1 => ⟨fun a => (D38 (G38 n).1 (G38 n).2 a).ev some, fun a => D38_ok (G38 n).1 (G38 n).2 a⟩
noncomputable def F38 (n : Nat) (a : LV) : Option A38 := (G38 n).1 a
theorem F38_ok (n : Nat) (a : LV) : ∀ b, F38 n a = some b → UU 38 ([lS 23 a]) ([]) = some (A38.out b) := (G38 n).2 a
theorem F38_succ (n : Nat) (a : LV) : F38 (n + 1) a = (D38 (F38 n) (F38_ok n) a).ev some := rfl
/-! ## F219 -/
noncomputable def D219 (a : Int) : PT Int := .auto 1 <| .testB (w64 (↑(BitVec.toNat (BitVec.ofInt (IntKind.bits IntKind.i64) a &&& BitVec.ofInt (IntKind.bits IntKind.i64) 65535)) : Int) != 0) (fun h0 => .ret (w64 (Int.fdiv a 65536 + 1))) (fun h0 => .ret (Int.fdiv a 65536))
abbrev O219 (a : Int) : V × Store := (i64 a, [])
noncomputable def F219 (a : Int) : Int := (D219 a).evT
theorem F219_ok (a : Int) : UU 219 ([i64 a]) ([]) = some (O219 (F219 a)) :=
  fnT_ok (out := O219) (L := notIn []) rfl rfl (fun x => by kernel_rfl) (by simp [D219, PT.isT])
/-! ## F162 -/
noncomputable abbrev B162 : Code := (Tryz.f162.body).getD .skip
inductive T162_c36s0 where
  | mk (a : Bool) (d : LV) (f i : Int) (j : LV) (l m o p q s t u v w : Int)
abbrev T162_c36s0.st : T162_c36s0 → S
  | .mk a d f i j l m o p q s t u v w => S.mk (U :: U :: pT 0 :: pT 1 :: vb a :: un 4 (pT 2 :: lS 2 d :: i64 f :: i64 i :: un 4 (lS 2 j :: i64 l :: i64 m :: un 16 (vb a :: un 25 [])))) [oF 4 [[i64 0, i64 0, i64 0, i64 0]], oF 4 [[i64 o, i64 p, i64 q, i64 s]], oF 4 [[i64 t, i64 u, i64 v, i64 w]]]
inductive T162_c36e0 where
  | mk (a : Bool) (d : LV) (f i : Int) (j : LV) (l m o p q s t u v w : Int)
inductive N162_c36 where
  | e0 (x : T162_c36e0)
abbrev N162_c36.out : N162_c36 → VX × S
  | .e0 (.mk a d f i j l m o p q s t u v w) => (vN, S.mk (U :: U :: pT 0 :: pT 1 :: vb a :: un 4 (pT 2 :: lS 2 d :: i64 f :: i64 i :: un 4 (lS 2 j :: i64 l :: i64 m :: un 42 []))) [oF 4 [[i64 0, i64 0, i64 0, i64 0]], oF 4 [[i64 o, i64 p, i64 q, i64 s]], oF 4 [[i64 t, i64 u, i64 v, i64 w]]])
abbrev E162_c36 := Ent.o1 N162_c36.out .e0 fun ⟨x⟩ => ⟨x, rfl⟩
noncomputable def D162_c36 : T162_c36s0 → PT N162_c36 | .mk j l m o p q s t u v w a d f i => .testB j (fun h0 => .auto 2 <| .ret (.e0 (.mk false l m o p q s a d f i a d f i))) (fun h0 => .ret (.e0 (.mk j l m o p q s t u v w a d f i)))
noncomputable def J162_c36 (y : T162_c36s0) : Option N162_c36 := (D162_c36 y).ev some
theorem J162_c36_ok (y : T162_c36s0) : CU 162 0 B162 36 E162_c36 (J162_c36 y) y.st := by
  cases y; exact cond_ok (L := notIn []) fun x => by kernel_rfl
inductive T162_2s0 where
  | mk (a : Bool) (d : LV) (f i : Int) (j : LV) (l m o p q s : Int)
inductive T162_2e0 where
  | mk (a : Bool) (d : LV) (f i j l m o : Int)
inductive N162_2 where
  | s0 (x : T162_2s0)
  | e0 (x : T162_2e0)
abbrev N162_2.out : N162_2 → VX × S
  | .s0 (.mk a d f i j l m o p q s) => (vN, S.mk (U :: U :: pT 0 :: pT 1 :: vb a :: un 5 (lS 2 d :: i64 f :: i64 i :: un 4 (lS 2 j :: i64 l :: i64 m :: un 42 []))) [oF 4 [[i64 0, i64 0, i64 0, i64 0]], oF 4 [[i64 o, i64 p, i64 q, i64 s]]])
  | .e0 (.mk t u v w y z d0 d1) => (vX 2, S.mk (U :: U :: pT 0 :: pT 1 :: vb t :: un 5 (lS 2 u :: i64 v :: i64 w :: un 49 [])) [oF 4 [[i64 0, i64 0, i64 0, i64 0]], oF 4 [[i64 y, i64 z, i64 d0, i64 d1]]])
abbrev E162_2 := Ent.o2 N162_2.out .s0 .e0 (fun b => by cases b <;> simp)
noncomputable def D162_2 : T162_2s0 → PT N162_2 | .mk f i j l m o a p q s t => .test (a < o) (fun h0 => .test (0 ≤ a) (fun h1 => .look RW28 (m[Int.toNat a]?) fun d => .auto 6 <| .tot O219 (F219_ok d.c0) fun d3 => .auto 1 <| .tot O219 (F219_ok d.c1) fun d4 => .auto 1 <| .cut E162_c36 (J162_c36_ok (.mk f i j l m o a p q s t (Int.fdiv d.c0 65536) (Int.fdiv d.c1 65536) d3 d4)) fun | .e0 (.mk d5 d6 d7 d8 d9 f0 f1 u v w y z d0 d1 d2) => .auto 9 <| .ret (.s0 (.mk d5 d6 d7 d8 d9 f0 (w64 (f1 + 1)) (if z < u then z else u) (if d0 < v then d0 else v) (if d1 > w then d1 else w) (if d2 > y then d2 else y)))) (fun _ => .fail)) (fun h0 => .ret (.e0 (.mk f i j l p q s t)))
noncomputable def L162_2 := E162_2.loop fun | .s0 x => D162_2 x | _ => .fail
theorem L162_2_ok : LU 162 0 B162 2 E162_2 L162_2 :=
  lk (L := notIn []) (fun b hb => by cases b <;> first | (cases hb; done) | (rename_i x; cases x; intro x; kernel_rfl) | (intro x; kernel_rfl))
noncomputable def N162_2.nx (n : Nat) : N162_2 → Option N162_2 | .s0 x => L162_2 n (.s0 x) | .e0 x => some (.e0 x)
theorem L162_2_s0 (n : Nat) (x : T162_2s0) : L162_2 (n + 1) (.s0 x) = (D162_2 x).ev (N162_2.nx n) := Ent.loop_eq fun c => by cases c <;> rfl
inductive T162_0s0 where
  | mk (a : Bool) (d : LV) (f i j l m o : Int)
inductive T162_0e0 where
  | mk (a d f i : Int)
inductive N162_0 where
  | s0 (x : T162_0s0)
  | e0 (x : T162_0e0)
abbrev N162_0.out : N162_0 → VX × S
  | .s0 (.mk a d f i j l m o) => (vN, S.mk (U :: U :: pT 0 :: pT 1 :: vb a :: un 5 (lS 2 d :: i64 f :: i64 i :: un 49 [])) [oF 4 [[i64 0, i64 0, i64 0, i64 0]], oF 4 [[i64 j, i64 l, i64 m, i64 o]]])
  | .e0 (.mk p q s t) => (vX 0, S.mk (U :: U :: pT 0 :: pT 1 :: un 58 []) [oF 4 [[i64 0, i64 0, i64 0, i64 0]], oF 4 [[i64 p, i64 q, i64 s, i64 t]]])
abbrev E162_0 := Ent.o2 N162_0.out .s0 .e0 (fun b => by cases b <;> simp)
noncomputable def D162_0 : T162_0s0 → PT N162_0 | .mk p d f a i j l m => .test (a < f) (fun h0 => .test (0 ≤ a) (fun h1 => .look RW88 (d[Int.toNat a]?) fun o => .auto 2 <| .cut E162_2 (L162_2_ok (.s0 (.mk p d f a o.c1 (((List.length o.c1) : Int)) 0 i j l m)) rfl) fun | .e0 (.mk q s t u v w y z) => .ret (.s0 (.mk q s t (w64 (u + 1)) v w y z)) | _ => .fail) (fun _ => .fail)) (fun h0 => .ret (.e0 (.mk i j l m)))
noncomputable def L162_0 := E162_0.loop fun | .s0 x => D162_0 x | _ => .fail
theorem L162_0_ok : LU 162 0 B162 0 E162_0 L162_0 :=
  lk (L := notIn []) (fun b hb => by cases b <;> first | (cases hb; done) | (rename_i x; cases x; intro x; kernel_rfl) | (intro x; kernel_rfl))
noncomputable def N162_0.nx (n : Nat) : N162_0 → Option N162_0 | .s0 x => L162_0 n (.s0 x) | .e0 x => some (.e0 x)
theorem L162_0_s0 (n : Nat) (x : T162_0s0) : L162_0 (n + 1) (.s0 x) = (D162_0 x).ev (N162_0.nx n) := Ent.loop_eq fun c => by cases c <;> rfl
noncomputable def D162 (a : LV) : PT A162 := .cut E162_0 (L162_0_ok (.s0 (.mk true a ((a.length : Int)) 0 0 0 0 0)) rfl) fun | .e0 (.mk d f i j) => (.auto 2 <| .ret (.a0 d f i j)) | _ => .fail
noncomputable def F162 (a : LV) : Option A162 := (D162 a).ev some
theorem F162_ok (a : LV) : FU E162 (F162 a) 162 [lS 2 a] := fu rfl rfl fun x => by kernel_rfl
/-! ## F220 -/
noncomputable def D220 (a d f i : Int) : PT Bool := .auto 2 <| .test (f ≤ a) (fun h0 => .auto 5 <| .ret true) (fun h0 => .auto 7 <| .ret (decide (i ≤ d)))
abbrev O220 (a : Bool) : V × Store := (vb a, [])
noncomputable def F220 (a d f i : Int) : Bool := (D220 a d f i).evT
theorem F220_ok (a d f i : Int) : UU 220 ([V.agg [i64 a, i64 d, i64 f, i64 i]]) ([]) = some (O220 (F220 a d f i)) :=
  fnT_ok (out := O220) (L := notIn []) rfl rfl (fun x => by kernel_rfl) (by simp [D220, PT.isT])
/-! ## F166 -/
noncomputable abbrev B166 : Code := (Tryz.f166.body).getD .skip
inductive T166_r1s0 where
  | mk (a d f i j l m o : Int)
abbrev T166_r1s0.st : T166_r1s0 → S
  | .mk a d f i j l m o => S.mk (U :: U :: pT 0 :: pT 1 :: pT 2 :: un 37 []) [oF 4 [[i64 a, i64 d, i64 f, i64 i]], oF 4 [[i64 j, i64 l, i64 m, i64 o]], oF 4 [[i64 0, i64 0, i64 0, i64 0]]]
inductive T166_r1e0 where
  | mk (a : Bool) (d f i j l m o p : Int)
inductive N166_r1 where
  | e0 (x : T166_r1e0)
abbrev N166_r1.out : N166_r1 → VX × S
  | .e0 (.mk a d f i j l m o p) => (vN, S.mk (U :: U :: pT 0 :: pT 1 :: pT 2 :: vb a :: un 36 []) [oF 4 [[i64 d, i64 f, i64 i, i64 j]], oF 4 [[i64 l, i64 m, i64 o, i64 p]], oF 4 [[i64 0, i64 0, i64 0, i64 0]]])
abbrev E166_r1 := Ent.o1 N166_r1.out .e0 fun ⟨x⟩ => ⟨x, rfl⟩
noncomputable def D166_r1 : T166_r1s0 → PT N166_r1 | .mk a d f i j l m o => .auto 1 <| .tot O220 (F220_ok a d f i) fun p => .testB p (fun h0 => .auto 2 <| .tot O220 (F220_ok j l m o) fun q => .auto 1 <| .ret (.e0 (.mk q a d f i j l m o))) (fun h0 => .auto 2 <| .ret (.e0 (.mk false a d f i j l m o)))
noncomputable def J166_r1 (y : T166_r1s0) : Option N166_r1 := (D166_r1 y).ev some
theorem J166_r1_ok (y : T166_r1s0) : ∀ b, J166_r1 y = some b → regP Tryz.prog X CC 166 0 B166 1 y.st = some (E166_r1.out b) := by
  cases y; exact reg_ok (E := E166_r1) (fun x => by kernel_rfl)
noncomputable def D166 (p q s t u v w y : Int) : PT A166 := .cut E166_r1 (J166_r1_ok (.mk p q s t u v w y)) fun | .e0 (.mk z a d f i j l m o) => .testB z (fun h0 => .auto 1 <| .ret (.a0 0 0 0 0)) (fun h0 => .auto 1 <| .tot O220 (F220_ok a d f i) fun d0 => .testB d0 (fun h1 => .auto 2 <| .ret (.a0 j l m o)) (fun h1 => .auto 1 <| .tot O220 (F220_ok j l m o) fun d1 => .testB d1 (fun h2 => .auto 2 <| .ret (.a0 a d f i)) (fun h2 => .auto 9 <| .ret (.a0 (if j < a then j else a) (if l < d then l else d) (if m > f then m else f) (if o > i then o else i)))))
noncomputable def F166 (a d f i j l m o : Int) : Option A166 := (D166 a d f i j l m o).ev some
theorem F166_ok (a d f i j l m o : Int) : FU E166 (F166 a d f i j l m o) 166 [V.agg [i64 a, i64 d, i64 f, i64 i], V.agg [i64 j, i64 l, i64 m, i64 o]] := fu rfl rfl fun x => by kernel_rfl
/-! ## F102 -/
abbrev K94 := W87 → Option A94
abbrev H94 (r : K94) : Prop := ∀ (d : W87) (b : A94), r d = some b → UU 94 ([V.agg (W87.cells d)]) ([]) = some (A94.out b)
noncomputable abbrev B102 : Code := (Tryz.f102.body).getD .skip
inductive T102_0s0 where
  | mk (a : LV) (d f i j l m : Int)
inductive T102_0e0 where
  | mk (a d f i : Int)
inductive N102_0 where
  | s0 (x : T102_0s0)
  | e0 (x : T102_0e0)
abbrev N102_0.out : N102_0 → VX × S
  | .s0 (.mk a d f i j l m) => (vN, S.mk (U :: U :: pT 0 :: pT 1 :: U :: U :: lS 23 a :: i64 d :: i64 f :: un 9 []) [oF 4 [[i64 0, i64 0, i64 0, i64 0]], oF 4 [[i64 i, i64 j, i64 l, i64 m]]])
  | .e0 (.mk o p q s) => (vX 0, S.mk (U :: U :: pT 0 :: pT 1 :: un 14 []) [oF 4 [[i64 0, i64 0, i64 0, i64 0]], oF 4 [[i64 o, i64 p, i64 q, i64 s]]])
abbrev E102_0 := Ent.o2 N102_0.out .s0 .e0 (fun b => by cases b <;> simp)
noncomputable def D102_0 (rF94 : K94) (hF94 : H94 rF94) : T102_0s0 → PT N102_0
  | .mk f i a j l m o =>
   .test (a < i)
    (fun h0 =>
    .test (0 ≤ a)
     (fun h1 =>
     .look RW87 (f[Int.toNat a]?) fun p =>
     .auto 3 <|
     .ask E94 (hF94 p) fun (r : A94) => match r with
     | .a0 q s t u =>
      .ask E166 (F166_ok j l m o q s t u) fun (r : A166) => match r with
      | .a0 v w y z =>
       .auto 1 <|
       .ret (.s0 (.mk f i (w64 (a + 1)) v w y z))
    )
     (fun _ => .fail)
   )
    (fun h0 =>
    .ret (.e0 (.mk j l m o))
   )
noncomputable def L102_0 (rF94 : K94) (hF94 : H94 rF94) := E102_0.loop fun | .s0 x => D102_0 rF94 hF94 x | _ => .fail
theorem L102_0_ok (rF94 : K94) (hF94 : H94 rF94) : LU 102 0 B102 0 E102_0 (L102_0 rF94 hF94) :=
  lk (L := notIn []) (fun b hb => by cases b <;> first | (cases hb; done) | (rename_i x; cases x; intro x; kernel_rfl) | (intro x; kernel_rfl))
noncomputable def N102_0.nx (rF94 : K94) (hF94 : H94 rF94) (n : Nat) : N102_0 → Option N102_0 | .s0 x => L102_0 rF94 hF94 n (.s0 x) | .e0 x => some (.e0 x)
theorem L102_0_s0 (rF94 : K94) (hF94 : H94 rF94) (n : Nat) (x : T102_0s0) : L102_0 rF94 hF94 (n + 1) (.s0 x) = (D102_0 rF94 hF94 x).ev (N102_0.nx rF94 hF94 n) := Ent.loop_eq fun c => by cases c <;> rfl
noncomputable def D102 (rF94 : K94) (hF94 : H94 rF94) (d : LV) : PT A102 := .cut E102_0 (L102_0_ok rF94 hF94 (.s0 (.mk d ((d.length : Int)) 0 0 0 0 0)) rfl) fun | .e0 (.mk f i j l) => (.auto 2 <| .ret (.a0 f i j l)) | _ => .fail
noncomputable def F102 (rF94 : K94) (hF94 : H94 rF94) (d : LV) : Option A102 := (D102 rF94 hF94 d).ev some
theorem F102_ok (rF94 : K94) (hF94 : H94 rF94) (d : LV) : FU E102 (F102 rF94 hF94 d) 102 [lS 23 d] := fu rfl rfl fun x => by kernel_rfl
/-! ## F94 -/
noncomputable def D94 (rF94 : K94) (hF94 : H94 rF94) (a : W87) : PT A94 := .auto 1 <| .testB a.c0 (fun h0 => .auto 1 <| .ask E102 (F102_ok rF94 hF94 a.c18) fun ⟨d, f, i, j⟩ => .auto 1 <| .ret (.a0 d f i j)) (fun h0 => .auto 1 <| .ask E162 (F162_ok a.c1) fun ⟨l, m, o, p⟩ => .auto 1 <| .ret (.a0 l m o p))
theorem D94_ok (rF94 : K94) (hF94 : H94 rF94) (a : W87) : ∀ b, (D94 rF94 hF94 a).ev some = some b → UU 94 ([V.agg (W87.cells a)]) ([]) = some (A94.out b) :=
  fn_ok (E := E94) (L := notIn []) rfl rfl (fun x => by kernel_rfl)
noncomputable def G94 : Nat → { r : W87 → Option A94 // ∀ (a : W87) (b : A94), r a = some b → UU 94 ([V.agg (W87.cells a)]) ([]) = some (A94.out b) }
  | 0 => ⟨fun _ => none, fun _ _ h => by cases h⟩
  | n + 1 => ⟨fun a => (D94 (G94 n).1 (G94 n).2 a).ev some, fun a => D94_ok (G94 n).1 (G94 n).2 a⟩
noncomputable def F94 (n : Nat) (a : W87) : Option A94 := (G94 n).1 a
theorem F94_ok (n : Nat) (a : W87) : ∀ b, F94 n a = some b → UU 94 ([V.agg (W87.cells a)]) ([]) = some (A94.out b) := (G94 n).2 a
theorem F94_succ (n : Nat) (a : W87) : F94 (n + 1) a = (D94 (F94 n) (F94_ok n) a).ev some := rfl
/-! ## F160 -/
noncomputable def D160 (a : Bool) (d : LV) (f : Bool) (i : LV) : PT A160 := .auto 2 <| .testB (a == f) (fun h0 => .auto 6 <| .ask E161 (F161_ok d i) fun ⟨j⟩ => .auto 1 <| .ret (.a0 j)) (fun h0 => .auto 5 <| .ret (.a0 false))
noncomputable def F160 (a : Bool) (d : LV) (f : Bool) (i : LV) : Option A160 := (D160 a d f i).ev some
theorem F160_ok (a : Bool) (d : LV) (f : Bool) (i : LV) : FU E160 (F160 a d f i) 160 [V.agg [vb a, lS 2 d], V.agg [vb f, lS 2 i]] := fu rfl rfl fun x => by kernel_rfl
/-! ## F159 -/
noncomputable abbrev B159 : Code := (Tryz.f159.body).getD .skip
inductive T159_0s0 where
  | mk (a d : LV) (f i : Int)
inductive N159_0 where
  | s0 (x : T159_0s0)
  | e0
  | e1
abbrev N159_0.out : N159_0 → VX × S
  | .s0 (.mk a d f i) => (vN, S.mk (U :: lS 2 a :: V.fn 160 [] :: un 12 (lS 2 d :: i64 f :: i64 i :: un 14 [])) [])
  | .e0 => (VX.ret, S.mk (un 6 (vb false :: un 25 [])) [])
  | .e1 => (vX 0, S.mk (un 32 []) [])
abbrev E159_0 := Ent.o3 N159_0.out .s0 (fun (_ : Unit) => .e0) (fun (_ : Unit) => .e1) (fun b => by cases b <;> simp)
noncomputable def D159_0 : T159_0s0 → PT N159_0 | .mk d f i a => .test (a < i) (fun h0 => .test (0 ≤ a) (fun h1 => .look RW88 (f[Int.toNat a]?) fun j => .auto 1 <| .known (decide_eq_true h1) <| .look RW88 (d[Int.toNat a]?) fun l => .auto 3 <| .ask E160 (F160_ok j.c0 j.c1 l.c0 l.c1) fun ⟨m⟩ => .testB (!m) (fun h2 => .ret .e0) (fun h2 => .ret (.s0 (.mk d f i (w64 (a + 1)))))) (fun _ => .fail)) (fun h0 => .ret .e1)
noncomputable def L159_0 := E159_0.loop fun | .s0 x => D159_0 x | _ => .fail
theorem L159_0_ok : LU 159 0 B159 0 E159_0 L159_0 :=
  lk (L := notIn []) (fun b hb => by cases b <;> first | (cases hb; done) | (rename_i x; cases x; intro x; kernel_rfl) | (intro x; kernel_rfl))
noncomputable def N159_0.nx (n : Nat) : N159_0 → Option N159_0 | .s0 x => L159_0 n (.s0 x) | .e0 => some .e0 | .e1 => some .e1
theorem L159_0_s0 (n : Nat) (x : T159_0s0) : L159_0 (n + 1) (.s0 x) = (D159_0 x).ev (N159_0.nx n) := Ent.loop_eq fun c => by cases c <;> rfl
noncomputable def D159 (a d : LV) : PT A159 := .testB ((a.length : Int) != (d.length : Int)) (fun h0 => .ret (.a0 false)) (fun h0 => .cut E159_0 (L159_0_ok (.s0 (.mk d a ((a.length : Int)) 0)) rfl) fun | .e0 => .ret (.a0 false) | .e1 => .ret (.a0 true) | _ => .fail)
noncomputable def F159 (a d : LV) : Option A159 := (D159 a d).ev some
theorem F159_ok (a d : LV) : FU E159 (F159 a d) 159 [lS 2 a, lS 2 d, V.fn 160 []] := fu rfl rfl fun x => by kernel_rfl
/-! ## F92 -/
noncomputable def D92 (a d : LV) : PT A92 := .ask E159 (F159_ok a d) fun ⟨f⟩ => .ret (.a0 f)
noncomputable def F92 (a d : LV) : Option A92 := (D92 a d).ev some
theorem F92_ok (a d : LV) : FU E92 (F92 a d) 92 [lS 2 a, lS 2 d] := fu rfl rfl fun x => by kernel_rfl
end Go.Proofs.YtifalphladcdcaaGreat.H
