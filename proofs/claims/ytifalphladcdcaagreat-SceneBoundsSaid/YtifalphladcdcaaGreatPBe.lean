/- What the functions compute, and that they do so over the machine of plain values (printed by this session's program wip/vm/Walk.lean). No condition beyond those stated. -/
import Derived.Test.YtifalphladcdcaaGreatWk
import Derived.Test.YtifalphladcdcaaGreatHB
import Derived.Test.YtifalphladcdcaaGreatPBd
set_option linter.unusedVariables false
set_option linter.unusedSimpArgs false
namespace Go.Proofs.YtifalphladcdcaaGreat.H
open Go Go.VM
set_option maxRecDepth 100000
/-! ## F93 -/
abbrev K34 := W87 → W87 → Option A34
abbrev H34 (r : K34) : Prop := ∀ (d : W87) (f : W87) (b : A34), r d f = some b → UU 34 ([V.agg (W87.cells d), V.agg (W87.cells f)]) ([]) = some (A34.out b)
noncomputable abbrev B93 : Code := (Tryz.f93.body).getD .skip
inductive T93_0s0 where
  | mk (a d : LV) (f i : Int)
inductive N93_0 where
  | s0 (x : T93_0s0)
  | e0
  | e1
abbrev N93_0.out : N93_0 → VX × S
  | .s0 (.mk a d f i) => (vN, S.mk (U :: lS 23 a :: V.fn 34 [] :: un 12 (lS 23 d :: i64 f :: i64 i :: un 14 [])) [])
  | .e0 => (VX.ret, S.mk (un 6 (vb false :: un 25 [])) [])
  | .e1 => (vX 0, S.mk (un 32 []) [])
abbrev E93_0 := Ent.o3 N93_0.out .s0 (fun (_ : Unit) => .e0) (fun (_ : Unit) => .e1) (fun b => by cases b <;> simp)
noncomputable def D93_0 (rF34 : K34) (hF34 : H34 rF34) : T93_0s0 → PT N93_0
  | .mk i j l a =>
   .test (a < l)
    (fun h0 =>
    .test (0 ≤ a)
     (fun h1 =>
     .look RW87 (j[Int.toNat a]?) fun m =>
     .auto 1 <|
     .known (decide_eq_true h1) <|
     .look RW87 (i[Int.toNat a]?) fun o =>
     .auto 3 <|
     .ask E34 (hF34 m o) fun (r : A34) => match r with
     | .a0 p =>
      .testB (!p)
       (fun h2 =>
       .ret .e0
      )
       (fun h2 =>
       .ret (.s0 (.mk i j l (w64 (a + 1))))
      )
    )
     (fun _ => .fail)
   )
    (fun h0 =>
    .ret .e1
   )
noncomputable def L93_0 (rF34 : K34) (hF34 : H34 rF34) := E93_0.loop fun | .s0 x => D93_0 rF34 hF34 x | _ => .fail
theorem L93_0_ok (rF34 : K34) (hF34 : H34 rF34) : LU 93 0 B93 0 E93_0 (L93_0 rF34 hF34) :=
  lk (L := notIn []) (fun b hb => by cases b <;> first | (cases hb; done) | (rename_i x; cases x; intro x; kernel_rfl) | (intro x; kernel_rfl))
noncomputable def N93_0.nx (rF34 : K34) (hF34 : H34 rF34) (n : Nat) : N93_0 → Option N93_0 | .s0 x => L93_0 rF34 hF34 n (.s0 x) | .e0 => some .e0 | .e1 => some .e1
theorem L93_0_s0 (rF34 : K34) (hF34 : H34 rF34) (n : Nat) (x : T93_0s0) : L93_0 rF34 hF34 (n + 1) (.s0 x) = (D93_0 rF34 hF34 x).ev (N93_0.nx rF34 hF34 n) := Ent.loop_eq fun c => by cases c <;> rfl
noncomputable def D93 (rF34 : K34) (hF34 : H34 rF34) (a i : LV) : PT A93 := .testB ((a.length : Int) != (i.length : Int)) (fun h0 => .ret (.a0 false)) (fun h0 => .cut E93_0 (L93_0_ok rF34 hF34 (.s0 (.mk i a ((a.length : Int)) 0)) rfl) fun | .e0 => .ret (.a0 false) | .e1 => .ret (.a0 true) | _ => .fail)
noncomputable def F93 (rF34 : K34) (hF34 : H34 rF34) (f i : LV) : Option A93 := (D93 rF34 hF34 f i).ev some
theorem F93_ok (rF34 : K34) (hF34 : H34 rF34) (f i : LV) : FU E93 (F93 rF34 hF34 f i) 93 [lS 23 f, lS 23 i, V.fn 34 []] := fu rfl rfl fun x => by kernel_rfl
/-! ## F34 -/
noncomputable abbrev B34 : Code := (Tryz.f34.body).getD .skip
inductive T34_r2s0 where
  | mk (a : Bool) (d : W87) (f : W87)
abbrev T34_r2s0.st : T34_r2s0 → S
  | .mk a d f => S.mk (U :: U :: pT 0 :: pT 1 :: U :: vb a :: un 79 []) [oF 23 [W87.cells d], oF 23 [W87.cells f]]
inductive T34_r2e0 where
  | mk (a d : Bool) (f : W87) (i : W87)
inductive N34_r2 where
  | e0 (x : T34_r2e0)
abbrev N34_r2.out : N34_r2 → VX × S
  | .e0 (.mk a d f i) => (vN, S.mk (U :: U :: pT 0 :: pT 1 :: U :: vb a :: vb d :: un 78 []) [oF 23 [W87.cells f], oF 23 [W87.cells i]])
abbrev E34_r2 := Ent.o1 N34_r2.out .e0 fun ⟨x⟩ => ⟨x, rfl⟩
noncomputable def D34_r2 (rF34 : K34) (hF34 : H34 rF34) : T34_r2s0 → PT N34_r2
  | .mk f a d =>
   .auto 2 <|
   .testB (a.c0 == d.c0)
    (fun h0 =>
    .auto 7 <|
    .testB (a.c20 == d.c20)
     (fun h1 =>
     .auto 7 <|
     .testB (a.c22 == d.c22)
      (fun h2 =>
      .auto 6 <|
      .ask E92 (F92_ok a.c19 d.c19) fun (r : A92) => match r with
      | .a0 l =>
       .auto 1 <|
       .ret (.e0 (.mk f l a d))
     )
      (fun h2 =>
      .auto 5 <|
      .ret (.e0 (.mk f false a d))
     )
    )
     (fun h1 =>
     .auto 11 <|
     .ret (.e0 (.mk f false a d))
    )
   )
    (fun h0 =>
    .auto 17 <|
    .ret (.e0 (.mk f false a d))
   )
noncomputable def J34_r2 (rF34 : K34) (hF34 : H34 rF34) (y : T34_r2s0) : Option N34_r2 := (D34_r2 rF34 hF34 y).ev some
theorem J34_r2_ok (rF34 : K34) (hF34 : H34 rF34) (y : T34_r2s0) : ∀ b, J34_r2 rF34 hF34 y = some b → regP Tryz.prog X CC 34 0 B34 2 y.st = some (E34_r2.out b) := by
  cases y; exact reg_ok (E := E34_r2) (fun x => by kernel_rfl)
inductive T34_r1s0 where
  | mk (a : W87) (d : W87)
abbrev T34_r1s0.st : T34_r1s0 → S
  | .mk a d => S.mk (U :: U :: pT 0 :: pT 1 :: un 81 []) [oF 23 [W87.cells a], oF 23 [W87.cells d]]
inductive T34_r1e0 where
  | mk (a : Bool) (d : W87) (f : W87)
inductive N34_r1 where
  | e0 (x : T34_r1e0)
abbrev N34_r1.out : N34_r1 → VX × S
  | .e0 (.mk a d f) => (vN, S.mk (U :: U :: pT 0 :: pT 1 :: U :: vb a :: un 79 []) [oF 23 [W87.cells d], oF 23 [W87.cells f]])
abbrev E34_r1 := Ent.o1 N34_r1.out .e0 fun ⟨x⟩ => ⟨x, rfl⟩
noncomputable def D34_r1 (rF34 : K34) (hF34 : H34 rF34) : T34_r1s0 → PT N34_r1
  | .mk a d =>
   .auto 2 <|
   .testB (a.c2 == d.c2)
    (fun h0 =>
    .auto 9 <|
    .testB (a.c3 == d.c3 && (a.c4 == d.c4 && (a.c5 == d.c5 && (a.c6 == d.c6 && (a.c7 == d.c7 && true))) && (a.c8 == d.c8 && (a.c9 == d.c9 && (a.c10 == d.c10 && (a.c11 == d.c11 && true))) && (a.c12 == d.c12 && (a.c13 == d.c13 && true) && (a.c14 == d.c14 && (a.c15 == d.c15 && true) && (a.c16 == d.c16 && true))))))
     (fun h1 =>
     .auto 9 <|
     .testB (a.c17 == d.c17)
      (fun h2 =>
      .auto 8 <|
      .ask E92 (F92_ok a.c1 d.c1) fun (r : A92) => match r with
      | .a0 j =>
       .auto 1 <|
       .ret (.e0 (.mk j a d))
     )
      (fun h2 =>
      .auto 7 <|
      .ret (.e0 (.mk false a d))
     )
    )
     (fun h1 =>
     .auto 15 <|
     .ret (.e0 (.mk false a d))
    )
   )
    (fun h0 =>
    .auto 23 <|
    .ret (.e0 (.mk false a d))
   )
noncomputable def J34_r1 (rF34 : K34) (hF34 : H34 rF34) (y : T34_r1s0) : Option N34_r1 := (D34_r1 rF34 hF34 y).ev some
theorem J34_r1_ok (rF34 : K34) (hF34 : H34 rF34) (y : T34_r1s0) : ∀ b, J34_r1 rF34 hF34 y = some b → regP Tryz.prog X CC 34 0 B34 1 y.st = some (E34_r1.out b) := by
  cases y; exact reg_ok (E := E34_r1) (fun x => by kernel_rfl)
noncomputable def D34 (rF34 : K34) (hF34 : H34 rF34) (a : W87) (d : W87) : PT A34 := .cut E34_r1 (J34_r1_ok rF34 hF34 (.mk a d)) fun | .e0 (.mk j l m) => .cut E34_r2 (J34_r2_ok rF34 hF34 (.mk j l m)) fun | .e0 (.mk o p f i) => .testB o (fun h0 => .auto 1 <| .testB p (fun h1 => .auto 6 <| .ask E93 (F93_ok rF34 hF34 f.c18 i.c18) fun ⟨q⟩ => .auto 1 <| .testB q (fun h2 => .auto 6 <| .ask E93 (F93_ok rF34 hF34 f.c21 i.c21) fun ⟨s⟩ => .auto 1 <| .ret (.a0 s)) (fun h2 => .auto 5 <| .ret (.a0 false))) (fun h1 => .auto 11 <| .ret (.a0 false))) (fun h0 => .auto 13 <| .ret (.a0 false))
theorem D34_ok (rF34 : K34) (hF34 : H34 rF34) (a : W87) (d : W87) : ∀ b, (D34 rF34 hF34 a d).ev some = some b → UU 34 ([V.agg (W87.cells a), V.agg (W87.cells d)]) ([]) = some (A34.out b) :=
  fn_ok (E := E34) (L := notIn []) rfl rfl (fun x => by kernel_rfl)
noncomputable def G34 : Nat → { r : W87 → W87 → Option A34 // ∀ (a : W87) (d : W87) (b : A34), r a d = some b → UU 34 ([V.agg (W87.cells a), V.agg (W87.cells d)]) ([]) = some (A34.out b) }
  | 0 => ⟨fun _ _ => none, fun _ _ _ h => by cases h⟩
  | n + 1 => ⟨fun a d => (D34 (G34 n).1 (G34 n).2 a d).ev some, fun a d => D34_ok (G34 n).1 (G34 n).2 a d⟩
noncomputable def F34 (n : Nat) (a : W87) (d : W87) : Option A34 := (G34 n).1 a d
theorem F34_ok (n : Nat) (a : W87) (d : W87) : ∀ b, F34 n a d = some b → UU 34 ([V.agg (W87.cells a), V.agg (W87.cells d)]) ([]) = some (A34.out b) := (G34 n).2 a d
theorem F34_succ (n : Nat) (a : W87) (d : W87) : F34 (n + 1) a d = (D34 (F34 n) (F34_ok n) a d).ev some := rfl
/-! ## F35 -/
noncomputable def D35 : PT A35 := .auto 8 <| .ask E33 (F33_ok 0 9 ([[lS 50 [[i64 0, i64 (-1), i64 0, i64 0, i64 0, i64 5, i64 0, lS 7 [], lS 7 [], lS 7 [], lS 7 [], lS 7 [], lS 7 [], lS 7 [], lS 7 [], lS 7 [], vb false, lS 2 [], i64 0, i64 0, lS 7 [[i64 0, i64 65536, i64 0, i64 0, i64 0, i64 0, i64 0]], lS 7 [[i64 0, i64 65536, i64 0, i64 0, i64 0, i64 0, i64 0]], lS 8 [], vb true, i64 0, i64 0, u8 0, u8 0, u8 0, u8 0, u8 0, u8 0, u8 0, u8 0, i64 0, i64 0, i64 0, i64 0, i64 0, lS 10 [], vb false, lS 7 [], u8 0, u8 0, u8 0, u8 0, i64 0, lS 1 [], lS 7 [], lS 7 []]]]]) 3) fun ⟨d, a⟩ => .testB ((↑d : Int) == 1) (fun h0 => .auto 1 <| .test ((0 : Int) ≤ (0 : Int) ∧ (0 : Int) < (↑d : Int)) (fun h1 => .auto 2 <| .look RW87 (a[(0 : Nat)]?) fun f => .auto 2 <| .testB (!f.c0) (fun h2 => .auto 1 <| .known (decide_eq_true h1) <| .auto 3 <| .look RW87 (a[(0 : Nat)]?) fun i => .auto 2 <| .testB (i.c17 == 255) (fun h3 => .auto 3 <| .ask E33 (F33_ok 0 9 ([[lS 50 [[i64 0, i64 (-1), i64 0, i64 0, i64 0, i64 5, i64 0, lS 7 [], lS 7 [], lS 7 [], lS 7 [], lS 7 [], lS 7 [], lS 7 [], lS 7 [], lS 7 [], vb false, lS 2 [], i64 0, i64 0, lS 7 [[i64 0, i64 65536, i64 0, i64 0, i64 0, i64 0, i64 0]], lS 7 [[i64 0, i64 65536, i64 0, i64 0, i64 0, i64 0, i64 0]], lS 8 [], vb true, i64 0, i64 0, u8 0, u8 0, u8 0, u8 0, u8 0, u8 0, u8 0, u8 0, i64 0, i64 0, i64 0, i64 0, i64 0, lS 10 [], vb false, lS 7 [], u8 0, u8 0, u8 0, u8 0, i64 0, lS 1 [], lS 7 [], lS 7 []]]]]) 6) fun ⟨j, w⟩ => .auto 3 <| .testB ((↑j : Int) == 0) (fun h4 => .auto 1 <| .known (decide_eq_true h1) <| .auto 1 <| .look RW87 (a[(0 : Nat)]?) fun l => .auto 1 <| .ask E94 (F94_ok 100000 l) fun ⟨m, o, p, q⟩ => .auto 3 <| .testB (m == -1 && (o == -1 && (p == 1 && (q == 1 && true)))) (fun h5 => .auto 1 <| .known (decide_eq_true h1) <| .auto 1 <| .look RW87 (a[(0 : Nat)]?) fun s => .auto 2 <| .known (decide_eq_true h1) <| .auto 1 <| .look RW87 (a[(0 : Nat)]?) fun t => .auto 1 <| .ask E34 (F34_ok 100000 s t) fun ⟨u⟩ => .auto 1 <| .testB u (fun h6 => .auto 1 <| .ask E33 (F33_ok 0 0 ([]) 0) fun ⟨v, y⟩ => .auto 3 <| .ret (.a0 ((↑v : Int) == 0))) (fun h6 => .auto 4 <| .ret (.a0 false))) (fun h5 => .auto 12 <| .ret (.a0 false))) (fun h4 => .auto 19 <| .ret (.a0 false))) (fun h3 => .auto 24 <| .ret (.a0 false))) (fun h2 => .auto 31 <| .ret (.a0 false))) (fun _ => .fail)) (fun h0 => .auto 37 <| .ret (.a0 false))
noncomputable def F35 : Option A35 := (D35).ev some
theorem F35_ok : FU E35 F35 35 [] := fu rfl rfl fun x => by kernel_rfl
/-! ## F9 -/
noncomputable def D9 (q : LV) (j : Int) : PT A9 := .ask E20 (F20_ok q) fun ⟨f, i, a, d⟩ => .auto 2 <| .test (0 + a ≤ List.length d) (fun h0 => .ask E36 (F36_ok f i (List.take a d)) fun ⟨s⟩ => .testB (s != 0) (fun h1 => .auto 10 <| .ret (.a0 true)) (fun h1 => .auto 5 <| .known (decide_eq_true h0) <| .ask E33 (F33_ok f i (List.take a d) (w64 (w64 (↑(BitVec.toNat (BitVec.ofInt (IntKind.bits IntKind.i64) j &&& BitVec.ofInt (IntKind.bits IntKind.i64) 63)) : Int) - 8))) fun ⟨l, m⟩ => .auto 1 <| .test (0 + l ≤ List.length m) (fun h2 => .ask E37 (F37_ok 100000 (List.take l m) 0) fun ⟨t⟩ => .auto 1 <| .testB t (fun h3 => .auto 5 <| .known (decide_eq_true h0) <| .ask E33 (F33_ok f i (List.take a d) (w64 (w64 (↑(BitVec.toNat (BitVec.ofInt (IntKind.bits IntKind.i64) j &&& BitVec.ofInt (IntKind.bits IntKind.i64) 63)) : Int) - 8))) fun ⟨o, p⟩ => .auto 1 <| .test (0 + o ≤ List.length p) (fun h4 => .ask E38 (F38_ok 100000 (List.take o p)) fun ⟨u⟩ => .auto 4 <| .test (u ≤ 512) (fun h5 => .ask E35 F35_ok fun ⟨v⟩ => .auto 3 <| .ret (.a0 v)) (fun _ => .fail)) (fun _ => .fail)) (fun _ => .fail)) (fun _ => .fail))) (fun _ => .fail)
noncomputable def F9 (a : LV) (d : Int) : Option A9 := (D9 a d).ev some
theorem F9_ok (a : LV) (d : Int) : FU E9 (F9 a d) 9 [lS 1 a, i64 d] := fu rfl rfl fun x => by kernel_rfl
end Go.Proofs.YtifalphladcdcaaGreat.H
