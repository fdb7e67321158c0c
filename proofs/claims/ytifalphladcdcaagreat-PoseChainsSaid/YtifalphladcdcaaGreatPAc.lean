/- What the functions compute, and that they do so over the machine of plain values (printed by this session's program wip/vm/Walk.lean). No condition beyond those stated. -/
import Derived.Test.YtifalphladcdcaaGreatWk
import Derived.Test.YtifalphladcdcaaGreatPAb
set_option linter.unusedVariables false
set_option linter.unusedSimpArgs false
namespace Go.Proofs.YtifalphladcdcaaGreat.H
open Go Go.VM
set_option maxRecDepth 100000
/-! ## F230 -/
noncomputable abbrev B230 : Code := (Tryz.f230.body).getD .skip
inductive T230_2s0 where
  | mk (a d f i j l m o p : Int)
inductive T230_2e0 where
  | mk (a d f i j l : Int)
inductive N230_2 where
  | s0 (x : T230_2s0)
  | e0 (x : T230_2e0)
@[reducible] def N230_2.out : N230_2 → VX × S
  | .s0 (.mk a d f i j l m o p) => (vN, S.mk (U :: U :: V.int IntKind.u64 a :: un 5 (V.int IntKind.u64 d :: V.int IntKind.u64 f :: V.int IntKind.u64 i :: U :: U :: U :: V.int IntKind.u64 j :: V.int IntKind.u64 l :: V.int IntKind.u64 m :: V.int IntKind.u64 o :: V.int IntKind.u64 p :: un 116 [])) [])
  | .e0 (.mk q s t u v w) => (vX 2, S.mk (U :: U :: V.int IntKind.u64 q :: un 5 (V.int IntKind.u64 s :: un 5 (V.int IntKind.u64 t :: V.int IntKind.u64 u :: U :: V.int IntKind.u64 v :: V.int IntKind.u64 w :: un 116 []))) [])
abbrev E230_2 : Ent (VX × S) := ⟨N230_2, N230_2.out, fun g => (∃ x, g (.s0 x)) ∨ (∃ x, g (.e0 x)), fun g => ⟨fun h => match h with
  | .inl ⟨_, h⟩ => ⟨_, h⟩
  | .inr (⟨_, h⟩) => ⟨_, h⟩, fun ⟨b, h⟩ => match b, h with
  | .s0 _, h => .inl ⟨_, h⟩
  | .e0 _, h => .inr (⟨_, h⟩)⟩⟩
noncomputable def D230_2 : T230_2s0 → PT N230_2
  | .mk i j d p f l m o a =>
   .test (a ≥ 4294967296)
    (fun h0 =>
    .auto 9 <|
    .test (IntKind.wrap IntKind.u64 (m + d) ≥ 4294967296)
     (fun h1 =>
     .ret (.e0 (.mk i j f l o (IntKind.wrap IntKind.u64 (a - 1))))
     )
     (fun h1 =>
     .ret (.s0 (.mk i j d p f l (IntKind.wrap IntKind.u64 (m + d)) o (IntKind.wrap IntKind.u64 (a - 1))))
     )
    )
    (fun h0 =>
    .auto 8 <|
    .test (IntKind.wrap IntKind.u64 (a * p) > IntKind.wrap IntKind.u64 (IntKind.wrap IntKind.u64 (4294967296 * m) + f))
     (fun h1 =>
     .test (IntKind.wrap IntKind.u64 (m + d) ≥ 4294967296)
      (fun h2 =>
      .ret (.e0 (.mk i j f l o (IntKind.wrap IntKind.u64 (a - 1))))
      )
      (fun h2 =>
      .ret (.s0 (.mk i j d p f l (IntKind.wrap IntKind.u64 (m + d)) o (IntKind.wrap IntKind.u64 (a - 1))))
      )
     )
     (fun h1 =>
     .ret (.e0 (.mk i j f l o a))
     )
    )
noncomputable def S230_2 : N230_2 → PT N230_2
  | .s0 x => D230_2 x
  | _ => .fail
def N230_2.off : N230_2 → Bool
  | .s0 _ => false
  | _ => true
noncomputable def L230_2 (n : Nat) (b : N230_2) : Option N230_2 := PT.loop S230_2 N230_2.off n b
theorem L230_2_ok : ∀ (n : Nat) (b : N230_2), N230_2.off b = false → ∀ c, L230_2 n b = some c → loopP Tryz.prog X CC 230 0 18446744073709551616 B230 2 n (E230_2.out b).2 = some (E230_2.out c) :=
  loop_ok (E := E230_2) (step := S230_2) (L := notIn []) (fun b hb => by cases b <;> first | (cases hb; done) | (rename_i x; cases x; intro x; kernel_rfl) | (intro x; kernel_rfl)) (fun b => by cases b <;> rfl)
noncomputable def N230_2.nx (n : Nat) (c : N230_2) : Option N230_2 := match N230_2.off c with
  | true => some c
  | false => L230_2 n c
theorem L230_2_s0 (n : Nat) (x : T230_2s0) : L230_2 (n + 1) (.s0 x) = (D230_2 x).ev (N230_2.nx n) := rfl
theorem N230_2.nx_s0 (n : Nat) (x : T230_2s0) : N230_2.nx n (.s0 x) = L230_2 n (.s0 x) := rfl
theorem N230_2.nx_e0 (n : Nat) (x : T230_2e0) : N230_2.nx n (.e0 x) = some (.e0 x) := rfl
inductive T230_0s0 where
  | mk (a d f i j l m o p : Int)
inductive T230_0e0 where
  | mk (a d f i j l m o : Int)
inductive N230_0 where
  | s0 (x : T230_0s0)
  | e0 (x : T230_0e0)
@[reducible] def N230_0.out : N230_0 → VX × S
  | .s0 (.mk a d f i j l m o p) => (vN, S.mk (U :: U :: V.int IntKind.u64 a :: un 5 (V.int IntKind.u64 d :: V.int IntKind.u64 f :: V.int IntKind.u64 i :: V.int IntKind.u64 j :: U :: V.int IntKind.u64 l :: V.int IntKind.u64 m :: V.int IntKind.u64 o :: V.int IntKind.u64 p :: un 118 [])) [])
  | .e0 (.mk q s t u v w y z) => (vX 0, S.mk (U :: U :: V.int IntKind.u64 q :: un 5 (V.int IntKind.u64 s :: V.int IntKind.u64 t :: V.int IntKind.u64 u :: V.int IntKind.u64 v :: U :: V.int IntKind.u64 w :: V.int IntKind.u64 y :: V.int IntKind.u64 z :: un 119 [])) [])
abbrev E230_0 : Ent (VX × S) := ⟨N230_0, N230_0.out, fun g => (∃ x, g (.s0 x)) ∨ (∃ x, g (.e0 x)), fun g => ⟨fun h => match h with
  | .inl ⟨_, h⟩ => ⟨_, h⟩
  | .inr (⟨_, h⟩) => ⟨_, h⟩, fun ⟨b, h⟩ => match b, h with
  | .s0 _, h => .inl ⟨_, h⟩
  | .e0 _, h => .inr (⟨_, h⟩)⟩⟩
noncomputable def D230_0 : T230_0s0 → PT N230_0
  | .mk j l a f m i o d p =>
   .test (d ≥ 4294967296)
    (fun h0 =>
    .auto 9 <|
    .test (IntKind.wrap IntKind.u64 (p + a) ≥ 4294967296)
     (fun h1 =>
     .ret (.e0 (.mk j l a f m i o (IntKind.wrap IntKind.u64 (d - 1))))
     )
     (fun h1 =>
     .ret (.s0 (.mk j l a f m i o (IntKind.wrap IntKind.u64 (d - 1)) (IntKind.wrap IntKind.u64 (p + a))))
     )
    )
    (fun h0 =>
    .auto 8 <|
    .test (IntKind.wrap IntKind.u64 (d * f) > IntKind.wrap IntKind.u64 (IntKind.wrap IntKind.u64 (4294967296 * p) + i))
     (fun h1 =>
     .test (IntKind.wrap IntKind.u64 (p + a) ≥ 4294967296)
      (fun h2 =>
      .ret (.e0 (.mk j l a f m i o (IntKind.wrap IntKind.u64 (d - 1))))
      )
      (fun h2 =>
      .ret (.s0 (.mk j l a f m i o (IntKind.wrap IntKind.u64 (d - 1)) (IntKind.wrap IntKind.u64 (p + a))))
      )
     )
     (fun h1 =>
     .ret (.e0 (.mk j l a f m i o d))
     )
    )
noncomputable def S230_0 : N230_0 → PT N230_0
  | .s0 x => D230_0 x
  | _ => .fail
def N230_0.off : N230_0 → Bool
  | .s0 _ => false
  | _ => true
noncomputable def L230_0 (n : Nat) (b : N230_0) : Option N230_0 := PT.loop S230_0 N230_0.off n b
theorem L230_0_ok : ∀ (n : Nat) (b : N230_0), N230_0.off b = false → ∀ c, L230_0 n b = some c → loopP Tryz.prog X CC 230 0 18446744073709551616 B230 0 n (E230_0.out b).2 = some (E230_0.out c) :=
  loop_ok (E := E230_0) (step := S230_0) (L := notIn []) (fun b hb => by cases b <;> first | (cases hb; done) | (rename_i x; cases x; intro x; kernel_rfl) | (intro x; kernel_rfl)) (fun b => by cases b <;> rfl)
noncomputable def N230_0.nx (n : Nat) (c : N230_0) : Option N230_0 := match N230_0.off c with
  | true => some c
  | false => L230_0 n c
theorem L230_0_s0 (n : Nat) (x : T230_0s0) : L230_0 (n + 1) (.s0 x) = (D230_0 x).ev (N230_0.nx n) := rfl
theorem N230_0.nx_s0 (n : Nat) (x : T230_0s0) : N230_0.nx n (.s0 x) = L230_0 n (.s0 x) := rfl
theorem N230_0.nx_e0 (n : Nat) (x : T230_0e0) : N230_0.nx n (.e0 x) = some (.e0 x) := rfl
noncomputable def D230 (i f d : Int) : PT A230 :=
  .testB (d == 0)
   (fun _ => .fail)
   (fun h0 =>
   .test (d ≤ i)
    (fun _ => .fail)
    (fun h1 =>
    .testB (i == 0)
     (fun h2 =>
     .test (d = 0)
      (fun _ => .fail)
      (fun h3 =>
      .known (decide_eq_false h3) <|
      .ret (.a0 (IntKind.wrap IntKind.u64 (Int.tdiv f d)) (Int.tmod f d))
      )
     )
     (fun h2 =>
     .ask E263 (F263_ok d) fun (r : A263) => match r with
     | .a0 a =>
      .test (IntKind.wrap IntKind.u64 a < 0)
       (fun _ => .fail)
       (fun h3 =>
       .auto 1 <|
       .known (decide_eq_false h3) <|
       .test (IntKind.wrap IntKind.u64 (64 - IntKind.wrap IntKind.u64 a) < 0)
        (fun _ => .fail)
        (fun h4 =>
        .known (decide_eq_false h3) <|
        .auto 1 <|
        .test (Int.fdiv (IntKind.wrap IntKind.u64 (d * 2 ^ min (Int.toNat (IntKind.wrap IntKind.u64 a)) 64)) 4294967296 = 0)
         (fun _ => .fail)
         (fun h5 =>
         .cut E230_0 (L230_0_ok 18446744073709551616 (.s0 (.mk (IntKind.wrap IntKind.u64 (d * 2 ^ min (Int.toNat (IntKind.wrap IntKind.u64 a)) 64)) (IntKind.wrap IntKind.u64 a) (Int.fdiv (IntKind.wrap IntKind.u64 (d * 2 ^ min (Int.toNat (IntKind.wrap IntKind.u64 a)) 64)) 4294967296) (IntKind.wrap IntKind.u64 (↑(BitVec.toNat (BitVec.ofInt (IntKind.bits IntKind.u64) (IntKind.wrap IntKind.u64 (d * 2 ^ min (Int.toNat (IntKind.wrap IntKind.u64 a)) 64)) &&& BitVec.ofInt (IntKind.bits IntKind.u64) 4294967295)) : Int)) (IntKind.wrap IntKind.u64 (↑(BitVec.toNat (BitVec.ofInt (IntKind.bits IntKind.u64) (IntKind.wrap IntKind.u64 (i * 2 ^ min (Int.toNat (IntKind.wrap IntKind.u64 a)) (IntKind.bits IntKind.u64))) ||| BitVec.ofInt (IntKind.bits IntKind.u64) (Int.fdiv f (2 ^ min (Int.toNat (IntKind.wrap IntKind.u64 (64 - IntKind.wrap IntKind.u64 a))) (IntKind.bits IntKind.u64))))) : Int)) (Int.fdiv (IntKind.wrap IntKind.u64 (f * 2 ^ min (Int.toNat (IntKind.wrap IntKind.u64 a)) 64)) 4294967296) (IntKind.wrap IntKind.u64 (↑(BitVec.toNat (BitVec.ofInt (IntKind.bits IntKind.u64) (IntKind.wrap IntKind.u64 (f * 2 ^ min (Int.toNat (IntKind.wrap IntKind.u64 a)) 64)) &&& BitVec.ofInt (IntKind.bits IntKind.u64) 4294967295)) : Int)) (IntKind.wrap IntKind.u64 (Int.tdiv (IntKind.wrap IntKind.u64 (↑(BitVec.toNat (BitVec.ofInt (IntKind.bits IntKind.u64) (IntKind.wrap IntKind.u64 (i * 2 ^ min (Int.toNat (IntKind.wrap IntKind.u64 a)) (IntKind.bits IntKind.u64))) ||| BitVec.ofInt (IntKind.bits IntKind.u64) (Int.fdiv f (2 ^ min (Int.toNat (IntKind.wrap IntKind.u64 (64 - IntKind.wrap IntKind.u64 a))) (IntKind.bits IntKind.u64))))) : Int)) (Int.fdiv (IntKind.wrap IntKind.u64 (d * 2 ^ min (Int.toNat (IntKind.wrap IntKind.u64 a)) 64)) 4294967296))) (IntKind.wrap IntKind.u64 (IntKind.wrap IntKind.u64 (↑(BitVec.toNat (BitVec.ofInt (IntKind.bits IntKind.u64) (IntKind.wrap IntKind.u64 (i * 2 ^ min (Int.toNat (IntKind.wrap IntKind.u64 a)) (IntKind.bits IntKind.u64))) ||| BitVec.ofInt (IntKind.bits IntKind.u64) (Int.fdiv f (2 ^ min (Int.toNat (IntKind.wrap IntKind.u64 (64 - IntKind.wrap IntKind.u64 a))) (IntKind.bits IntKind.u64))))) : Int) - IntKind.wrap IntKind.u64 (IntKind.wrap IntKind.u64 (Int.tdiv (IntKind.wrap IntKind.u64 (↑(BitVec.toNat (BitVec.ofInt (IntKind.bits IntKind.u64) (IntKind.wrap IntKind.u64 (i * 2 ^ min (Int.toNat (IntKind.wrap IntKind.u64 a)) (IntKind.bits IntKind.u64))) ||| BitVec.ofInt (IntKind.bits IntKind.u64) (Int.fdiv f (2 ^ min (Int.toNat (IntKind.wrap IntKind.u64 (64 - IntKind.wrap IntKind.u64 a))) (IntKind.bits IntKind.u64))))) : Int)) (Int.fdiv (IntKind.wrap IntKind.u64 (d * 2 ^ min (Int.toNat (IntKind.wrap IntKind.u64 a)) 64)) 4294967296)) * Int.fdiv (IntKind.wrap IntKind.u64 (d * 2 ^ min (Int.toNat (IntKind.wrap IntKind.u64 a)) 64)) 4294967296))))) rfl) fun (r : N230_0) => match r with
         | .e0 (.mk j t l u o p v m) =>
          .test (l = 0)
           (fun _ => .fail)
           (fun h6 =>
           .cut E230_2 (L230_2_ok 18446744073709551616 (.s0 (.mk j t l u v m (IntKind.wrap IntKind.u64 (IntKind.wrap IntKind.u64 (IntKind.wrap IntKind.u64 (IntKind.wrap IntKind.u64 (o * 4294967296) + p) - IntKind.wrap IntKind.u64 (m * j)) - IntKind.wrap IntKind.u64 (IntKind.wrap IntKind.u64 (Int.tdiv (IntKind.wrap IntKind.u64 (IntKind.wrap IntKind.u64 (IntKind.wrap IntKind.u64 (o * 4294967296) + p) - IntKind.wrap IntKind.u64 (m * j))) l) * l))) (IntKind.wrap IntKind.u64 (IntKind.wrap IntKind.u64 (IntKind.wrap IntKind.u64 (o * 4294967296) + p) - IntKind.wrap IntKind.u64 (m * j))) (IntKind.wrap IntKind.u64 (Int.tdiv (IntKind.wrap IntKind.u64 (IntKind.wrap IntKind.u64 (IntKind.wrap IntKind.u64 (o * 4294967296) + p) - IntKind.wrap IntKind.u64 (m * j))) l)))) rfl) fun (r : N230_2) => match r with
           | .e0 (.mk w q y z d0 s) =>
            .test (q < 0)
             (fun _ => .fail)
             (fun h7 =>
             .ret (.a0 (IntKind.wrap IntKind.u64 (IntKind.wrap IntKind.u64 (z * 4294967296) + s)) (Int.fdiv (IntKind.wrap IntKind.u64 (IntKind.wrap IntKind.u64 (IntKind.wrap IntKind.u64 (d0 * 4294967296) + y) - IntKind.wrap IntKind.u64 (s * w))) (2 ^ min (Int.toNat q) 64)))
             )
           | _ => .fail
           )
         | _ => .fail
         )
        )
       )
     )
    )
   )
noncomputable def F230 (a d f : Int) : Option A230 := (D230 a d f).ev some
theorem F230_ok (a d f : Int) : ∀ b, F230 a d f = some b → UU 230 ([V.int IntKind.u64 a, V.int IntKind.u64 d, V.int IntKind.u64 f]) ([]) = some (A230.out b) :=
  fn_ok (E := E230) (L := notIn []) rfl rfl (fun x => by kernel_rfl)
/-! ## F188 -/
noncomputable abbrev B188 : Code := (Tryz.f188.body).getD .skip
inductive T188_r6s0 where
  | mk (a : Bool) (d f : Int)
@[reducible] def T188_r6s0.st : T188_r6s0 → S
  | .mk a d f => S.mk (U :: U :: U :: vb a :: un 5 (V.int IntKind.u64 d :: V.int IntKind.u64 f :: un 31 [])) []
inductive T188_r6e0 where
  | mk (a : Bool) (d : Int) (f : Bool)
inductive N188_r6 where
  | e0 (x : T188_r6e0)
@[reducible] def N188_r6.out : N188_r6 → VX × S
  | .e0 (.mk a d f) => (vN, S.mk (U :: U :: U :: vb a :: un 5 (V.int IntKind.u64 d :: un 21 (vb f :: un 10 []))) [])
abbrev E188_r6 : Ent (VX × S) := ⟨N188_r6, N188_r6.out, fun g => (∃ x, g (.e0 x)), fun g => ⟨fun h => match h with
  | ⟨_, h⟩ => ⟨_, h⟩, fun ⟨b, h⟩ => match b, h with
  | .e0 _, h => ⟨_, h⟩⟩⟩
noncomputable def D188_r6 : T188_r6s0 → PT N188_r6
  | .mk a d f =>
   .testB a
    (fun h0 =>
    .auto 2 <|
    .test (f > 0)
     (fun h1 =>
     .auto 2 <|
     .ret (.e0 (.mk a d (decide (d < 4611686018427387904))))
     )
     (fun h1 =>
     .auto 2 <|
     .ret (.e0 (.mk a d false))
     )
    )
    (fun h0 =>
    .auto 5 <|
    .ret (.e0 (.mk a d false))
    )
noncomputable def J188_r6 (y : T188_r6s0) : Option N188_r6 := (D188_r6 y).ev some
theorem J188_r6_ok (y : T188_r6s0) : ∀ b, J188_r6 y = some b → regP Tryz.prog X CC 188 0 B188 6 y.st = some (E188_r6.out b) := by
  cases y; exact reg_ok (E := E188_r6) (fun x => by kernel_rfl)
noncomputable def D188 (d l f : Int) (i : Bool) : PT A188 :=
  .test (d ≥ f)
   (fun h0 =>
   .testB i
    (fun h1 =>
    .ret (.a0 (-1099511627776))
    )
    (fun h1 =>
    .ret (.a0 1099511627776)
    )
   )
   (fun h0 =>
   .ask E230 (F230_ok d l f) fun (r : A230) => match r with
   | .a0 m o =>
    .cut E188_r6 (J188_r6_ok (.mk i m o)) fun (r : N188_r6) => match r with
    | .e0 (.mk j a p) =>
     .testB p
      (fun h1 =>
      .testB j
       (fun h2 =>
       .tot O186 (F186_ok (w64 (0 - w64 (if 4611686018427387904 < IntKind.wrap IntKind.u64 (a + 1) then 4611686018427387904 else IntKind.wrap IntKind.u64 (a + 1))))) fun q =>
       .ret (.a0 q)
       )
       (fun h2 =>
       .tot O186 (F186_ok (w64 (if 4611686018427387904 < IntKind.wrap IntKind.u64 (a + 1) then 4611686018427387904 else IntKind.wrap IntKind.u64 (a + 1)))) fun s =>
       .ret (.a0 s)
       )
      )
      (fun h1 =>
      .testB j
       (fun h2 =>
       .tot O186 (F186_ok (w64 (0 - w64 (if 4611686018427387904 < a then 4611686018427387904 else a)))) fun t =>
       .ret (.a0 t)
       )
       (fun h2 =>
       .tot O186 (F186_ok (w64 (if 4611686018427387904 < a then 4611686018427387904 else a))) fun u =>
       .ret (.a0 u)
       )
      )
   )
noncomputable def F188 (a d f : Int) (i : Bool) : Option A188 := (D188 a d f i).ev some
theorem F188_ok (a d f : Int) (i : Bool) : ∀ b, F188 a d f i = some b → UU 188 ([V.int IntKind.u64 a, V.int IntKind.u64 d, V.int IntKind.u64 f, vb i]) ([]) = some (A188.out b) :=
  fn_ok (E := E188) (L := notIn []) rfl rfl (fun x => by kernel_rfl)
/-! ## F126 -/
noncomputable def D126 (a d : Int) : PT A126 :=
  .tot O186 (F186_ok a) fun f =>
  .ask E185 (F185_ok f) fun (r : A185) => match r with
  | .a0 i j =>
   .tot O186 (F186_ok d) fun l =>
   .ask E185 (F185_ok l) fun (r : A185) => match r with
   | .a0 m o =>
    .ask E187 (F187_ok i m) fun (r : A187) => match r with
    | .a0 p q =>
     .ask E188 (F188_ok p q 65536 (!j == o)) fun (r : A188) => match r with
     | .a0 s =>
      .ret (.a0 s)
noncomputable def F126 (a d : Int) : Option A126 := (D126 a d).ev some
theorem F126_ok (a d : Int) : ∀ b, F126 a d = some b → UU 126 ([i64 a, i64 d]) ([]) = some (A126.out b) :=
  fn_ok (E := E126) (L := notIn []) rfl rfl (fun x => by kernel_rfl)
/-! ## F141 -/
noncomputable def D141 (a d : Int) : PT Int :=
  .tot O186 (F186_ok a) fun f =>
  .tot O186 (F186_ok d) fun i =>
  .tot O186 (F186_ok (w64 (f + i))) fun j =>
  .ret j
@[reducible] def O141 (a : Int) : V × Store := (i64 a, [])
noncomputable def F141 (a d : Int) : Int := (D141 a d).evT
theorem F141_ok (a d : Int) : UU 141 ([i64 a, i64 d]) ([]) = some (O141 (F141 a d)) :=
  fnT_ok (out := O141) (L := notIn []) rfl rfl (fun x => by kernel_rfl) (by simp [D141, PT.isT])
/-! ## F76 -/
noncomputable def D76 (a d f i j : Int) : PT A76 :=
  .ask E126 (F126_ok a d) fun (r : A126) => match r with
  | .a0 l =>
   .ask E126 (F126_ok f i) fun (r : A126) => match r with
   | .a0 m =>
    .tot O141 (F141_ok l m) fun o =>
    .tot O141 (F141_ok o j) fun p =>
    .ret (.a0 p)
noncomputable def F76 (a d f i j : Int) : Option A76 := (D76 a d f i j).ev some
theorem F76_ok (a d f i j : Int) : ∀ b, F76 a d f i j = some b → UU 76 ([i64 a, i64 d, i64 f, i64 i, i64 j]) ([]) = some (A76.out b) :=
  fn_ok (E := E76) (L := notIn []) rfl rfl (fun x => by kernel_rfl)
/-! ## F26 -/
noncomputable def D26 (a : W59) (d : W59) : PT A26 :=
  .auto 4 <|
  .ask E76 (F76_ok a.c0 d.c0 a.c2 d.c1 0) fun (r : A76) => match r with
  | .a0 f =>
   .auto 4 <|
   .ask E76 (F76_ok a.c1 d.c0 a.c3 d.c1 0) fun (r : A76) => match r with
   | .a0 i =>
    .auto 4 <|
    .ask E76 (F76_ok a.c0 d.c2 a.c2 d.c3 0) fun (r : A76) => match r with
    | .a0 j =>
     .auto 4 <|
     .ask E76 (F76_ok a.c1 d.c2 a.c3 d.c3 0) fun (r : A76) => match r with
     | .a0 l =>
      .auto 5 <|
      .ask E76 (F76_ok a.c0 d.c4 a.c2 d.c5 a.c4) fun (r : A76) => match r with
      | .a0 m =>
       .auto 5 <|
       .ask E76 (F76_ok a.c1 d.c4 a.c3 d.c5 a.c5) fun (r : A76) => match r with
       | .a0 o =>
        .auto 1 <|
        .ret (.a0 (W59.mk f i j l m o))
noncomputable def F26 (a : W59) (d : W59) : Option A26 := (D26 a d).ev some
theorem F26_ok (a : W59) (d : W59) : ∀ b, F26 a d = some b → UU 26 ([V.agg (W59.cells a), V.agg (W59.cells d)]) ([]) = some (A26.out b) :=
  fn_ok (E := E26) (L := notIn []) rfl rfl (fun x => by kernel_rfl)
/-! ## F32 -/
noncomputable def D32 : PT W59 :=
  .auto 1 <|
  .ret (W59.mk 65536 0 0 65536 0 0)
@[reducible] def O32 (a : W59) : V × Store := (V.agg (W59.cells a), [])
noncomputable def F32 : W59 := (D32).evT
theorem F32_ok : UU 32 ([]) ([]) = some (O32 F32) :=
  fnT_ok (out := O32) (L := notIn []) rfl rfl (fun x => by kernel_rfl) (by simp [D32, PT.isT])
/-! ## F22 -/
noncomputable def D22 (a : W57) (d : Int) : PT A22 :=
  .auto 2 <|
  .tot O70 (F70_ok a d) fun f =>
  .ask E72 (F72_ok a.c14 f 65536) fun (r : A72) => match r with
  | .a0 i =>
   .tot O74 (F74_ok i 0 65536) fun j =>
   .auto 1 <|
   .ret (.a0 (w64 (Int.tdiv (w64 (j * 255)) 65536)))
noncomputable def F22 (a : W57) (d : Int) : Option A22 := (D22 a d).ev some
theorem F22_ok (a : W57) (d : Int) : ∀ b, F22 a d = some b → UU 22 ([V.agg (W57.cells a), i64 d]) ([]) = some (A22.out b) :=
  fn_ok (E := E22) (L := notIn []) rfl rfl (fun x => by kernel_rfl)
/-! ## F23 -/
noncomputable def D23 (a : W57) (d : Int) : PT Bool :=
  .auto 1 <|
  .test (a.c4 ≤ d)
   (fun h0 =>
   .auto 5 <|
   .ret (decide (d < a.c5))
   )
   (fun h0 =>
   .auto 4 <|
   .ret false
   )
@[reducible] def O23 (a : Bool) : V × Store := (vb a, [])
noncomputable def F23 (a : W57) (d : Int) : Bool := (D23 a d).evT
theorem F23_ok (a : W57) (d : Int) : UU 23 ([V.agg (W57.cells a), i64 d]) ([]) = some (O23 (F23 a d)) :=
  fnT_ok (out := O23) (L := notIn []) rfl rfl (fun x => by kernel_rfl) (by simp [D23, PT.isT])
/-! ## F24 -/
noncomputable def D24 (a : W57) (f : Int) : PT A24 :=
  .auto 1 <|
  .tot O70 (F70_ok a f) fun d =>
  .auto 1 <|
  .ask E72 (F72_ok a.c15 d d) fun (r : A72) => match r with
  | .a0 i =>
   .ret (.a0 i)
noncomputable def F24 (a : W57) (d : Int) : Option A24 := (D24 a d).ev some
theorem F24_ok (a : W57) (d : Int) : ∀ b, F24 a d = some b → UU 24 ([V.agg (W57.cells a), i64 d]) ([]) = some (A24.out b) :=
  fn_ok (E := E24) (L := notIn []) rfl rfl (fun x => by kernel_rfl)
/-! ## F123 -/
noncomputable def D123 (a d : Int) : PT A123 :=
  .auto 1 <|
  .ret (.a0 a d)
noncomputable def F123 (a d : Int) : Option A123 := (D123 a d).ev some
theorem F123_ok (a d : Int) : ∀ b, F123 a d = some b → UU 123 ([i64 a, i64 d]) ([]) = some (A123.out b) :=
  fn_ok (E := E123) (L := notIn []) rfl rfl (fun x => by kernel_rfl)
/-! ## F122 -/
noncomputable abbrev B122 : Code := (Tryz.f122.body).getD .skip
inductive T122_0s0 where
  | mk (a : LV) (d f : Int) (i : Nat) (j : LV)
inductive T122_0e0 where
  | mk (a : Nat) (d : LV)
inductive N122_0 where
  | s0 (x : T122_0s0)
  | e0 (x : T122_0e0)
@[reducible] def N122_0.out : N122_0 → VX × S
  | .s0 (.mk a d f i j) => (vN, S.mk (lS 2 a :: U :: pT 0 :: pT 1 :: un 8 (lS 2 a :: i64 d :: i64 f :: un 22 [])) [oF 2 [[vb false, hS 2 0]], oF 2 [[vb true, hS 3 i]], oT 2 [], oT 2 j])
  | .e0 (.mk l m) => (vX 0, S.mk (U :: U :: pT 0 :: pT 1 :: un 33 []) [oF 2 [[vb false, hS 2 0]], oF 2 [[vb true, hS 3 l]], oT 2 [], oT 2 m])
abbrev E122_0 : Ent (VX × S) := ⟨N122_0, N122_0.out, fun g => (∃ x, g (.s0 x)) ∨ (∃ x, g (.e0 x)), fun g => ⟨fun h => match h with
  | .inl ⟨_, h⟩ => ⟨_, h⟩
  | .inr (⟨_, h⟩) => ⟨_, h⟩, fun ⟨b, h⟩ => match b, h with
  | .s0 _, h => .inl ⟨_, h⟩
  | .e0 _, h => .inr (⟨_, h⟩)⟩⟩
noncomputable def D122_0 : T122_0s0 → PT N122_0
  | .mk a l d f j =>
   .test (d < l)
    (fun h0 =>
    .test (0 ≤ d)
     (fun h1 =>
     .look RW28 (a[Int.toNat d]?) fun m =>
     .auto 1 <|
     .test ((↑(List.length a) : Int) = 0)
      (fun _ => .fail)
      (fun h2 =>
      .test (0 ≤ Int.tmod (w64 (d + 1)) (↑(List.length a) : Int))
       (fun h3 =>
       .look RW28 (a[Int.toNat (Int.tmod (w64 (d + (1 : Int))) (↑(List.length a) : Int))]?) fun i =>
       .auto 6 <|
       .test (0 + f ≤ List.length j ∧ (f + 3) * 16 ≤ 140737488355328 ∧ f + 3 ≤ 140737488355328)
        (fun h4 =>
        .auto 1 <|
        .ret (.s0 (.mk a l (w64 (d + 1)) (f + 3) (List.take f j ++ [[i64 m.c0, i64 m.c1], [i64 i.c0, i64 i.c1], [i64 i.c0, i64 i.c1]])))
        )
        (fun _ => .fail)
       )
       (fun _ => .fail)
      )
     )
     (fun _ => .fail)
    )
    (fun h0 =>
    .ret (.e0 (.mk f j))
    )
noncomputable def S122_0 : N122_0 → PT N122_0
  | .s0 x => D122_0 x
  | _ => .fail
def N122_0.off : N122_0 → Bool
  | .s0 _ => false
  | _ => true
noncomputable def L122_0 (n : Nat) (b : N122_0) : Option N122_0 := PT.loop S122_0 N122_0.off n b
theorem L122_0_ok : ∀ (n : Nat) (b : N122_0), N122_0.off b = false → ∀ c, L122_0 n b = some c → loopP Tryz.prog X CC 122 0 18446744073709551616 B122 0 n (E122_0.out b).2 = some (E122_0.out c) :=
  loop_ok (E := E122_0) (step := S122_0) (L := notIn []) (fun b hb => by cases b <;> first | (cases hb; done) | (rename_i x; cases x; intro x; kernel_rfl) | (intro x; kernel_rfl)) (fun b => by cases b <;> rfl)
noncomputable def N122_0.nx (n : Nat) (c : N122_0) : Option N122_0 := match N122_0.off c with
  | true => some c
  | false => L122_0 n c
theorem L122_0_s0 (n : Nat) (x : T122_0s0) : L122_0 (n + 1) (.s0 x) = (D122_0 x).ev (N122_0.nx n) := rfl
theorem N122_0.nx_s0 (n : Nat) (x : T122_0s0) : N122_0.nx n (.s0 x) = L122_0 n (.s0 x) := rfl
theorem N122_0.nx_e0 (n : Nat) (x : T122_0e0) : N122_0.nx n (.e0 x) = some (.e0 x) := rfl
noncomputable def D122 (a : LV) : PT A122 :=
  .auto 1 <|
  .look RW28 (a[(0 : Nat)]?) fun d =>
  .auto 1 <|
  .cut E122_0 (L122_0_ok 18446744073709551616 (.s0 (.mk a ((↑(List.length a) : Int)) 0 1 ([[i64 d.c0, i64 d.c1]]))) rfl) fun (r : N122_0) => match r with
  | .e0 (.mk f i) =>
   .auto 2 <|
   .ret (.a0 true f i)
  | _ => .fail
noncomputable def F122 (a : LV) : Option A122 := (D122 a).ev some
theorem F122_ok (a : LV) : ∀ b, F122 a = some b → UU 122 ([lS 2 a]) ([]) = some (A122.out b) :=
  fn_ok (E := E122) (L := notIn []) rfl rfl (fun x => by kernel_rfl)
/-! ## F63 -/
noncomputable def D63 (a d : Int) : PT A63 :=
  .auto 2 <|
  .ask E123 (F123_ok (w64 (0 - Int.fdiv a 2)) (w64 (0 - Int.fdiv d 2))) fun (r : A123) => match r with
  | .a0 f i =>
   .ask E123 (F123_ok (w64 (a - Int.fdiv a 2)) (w64 (0 - Int.fdiv d 2))) fun (r : A123) => match r with
   | .a0 j l =>
    .ask E123 (F123_ok (w64 (a - Int.fdiv a 2)) (w64 (d - Int.fdiv d 2))) fun (r : A123) => match r with
    | .a0 m o =>
     .ask E123 (F123_ok (w64 (0 - Int.fdiv a 2)) (w64 (d - Int.fdiv d 2))) fun (r : A123) => match r with
     | .a0 p q =>
      .auto 1 <|
      .ask E122 (F122_ok ([[i64 f, i64 i], [i64 j, i64 l], [i64 m, i64 o], [i64 p, i64 q]])) fun (r : A122) => match r with
      | .a0 s t u =>
       .auto 1 <|
       .ret (.a0 s t u)
noncomputable def F63 (a d : Int) : Option A63 := (D63 a d).ev some
theorem F63_ok (a d : Int) : ∀ b, F63 a d = some b → UU 63 ([i64 a, i64 d]) ([]) = some (A63.out b) :=
  fn_ok (E := E63) (L := notIn []) rfl rfl (fun x => by kernel_rfl)
/-! ## F65 -/
noncomputable def D65 (a d : Int) : PT A65 :=
  .auto 2 <|
  .ask E125 (F125_ok (Int.fdiv a 2) 36195) fun (r : A125) => match r with
  | .a0 f =>
   .ask E125 (F125_ok (Int.fdiv d 2) 36195) fun (r : A125) => match r with
   | .a0 i =>
    .ask E123 (F123_ok (Int.fdiv a 2) 0) fun (r : A123) => match r with
    | .a0 j l =>
     .ask E123 (F123_ok (Int.fdiv a 2) i) fun (r : A123) => match r with
     | .a0 m o =>
      .ask E123 (F123_ok f (Int.fdiv d 2)) fun (r : A123) => match r with
      | .a0 p q =>
       .ask E123 (F123_ok 0 (Int.fdiv d 2)) fun (r : A123) => match r with
       | .a0 s t =>
        .ask E123 (F123_ok (w64 (0 - f)) (Int.fdiv d 2)) fun (r : A123) => match r with
        | .a0 u v =>
         .ask E123 (F123_ok (w64 (0 - Int.fdiv a 2)) i) fun (r : A123) => match r with
         | .a0 w y =>
          .ask E123 (F123_ok (w64 (0 - Int.fdiv a 2)) 0) fun (r : A123) => match r with
          | .a0 z d0 =>
           .ask E123 (F123_ok (w64 (0 - Int.fdiv a 2)) (w64 (0 - i))) fun (r : A123) => match r with
           | .a0 d1 d2 =>
            .ask E123 (F123_ok (w64 (0 - f)) (w64 (0 - Int.fdiv d 2))) fun (r : A123) => match r with
            | .a0 d3 d4 =>
             .ask E123 (F123_ok 0 (w64 (0 - Int.fdiv d 2))) fun (r : A123) => match r with
             | .a0 d5 d6 =>
              .ask E123 (F123_ok f (w64 (0 - Int.fdiv d 2))) fun (r : A123) => match r with
              | .a0 d7 d8 =>
               .ask E123 (F123_ok (Int.fdiv a 2) (w64 (0 - i))) fun (r : A123) => match r with
               | .a0 d9 f0 =>
                .ask E123 (F123_ok (Int.fdiv a 2) 0) fun (r : A123) => match r with
                | .a0 f1 f2 =>
                 .auto 1 <|
                 .ret (.a0 true 13 ([[i64 j, i64 l], [i64 m, i64 o], [i64 p, i64 q], [i64 s, i64 t], [i64 u, i64 v], [i64 w, i64 y], [i64 z, i64 d0], [i64 d1, i64 d2], [i64 d3, i64 d4], [i64 d5, i64 d6], [i64 d7, i64 d8], [i64 d9, i64 f0], [i64 f1, i64 f2]]))
noncomputable def F65 (a d : Int) : Option A65 := (D65 a d).ev some
theorem F65_ok (a d : Int) : ∀ b, F65 a d = some b → UU 65 ([i64 a, i64 d]) ([]) = some (A65.out b) :=
  fn_ok (E := E65) (L := notIn []) rfl rfl (fun x => by kernel_rfl)
/-! ## F67 -/
noncomputable abbrev B67 : Code := (Tryz.f67.body).getD .skip
inductive T67_c27s0 where
  | mk (a d f : Int) (i : Nat) (j l m : Int) (o : Bool) (p : LV)
@[reducible] def T67_c27s0.st : T67_c27s0 → S
  | .mk d a f i j l m o p => S.mk (i64 d :: i64 a :: i64 f :: U :: U :: U :: pT 0 :: hS 1 i :: U :: i64 j :: i64 a :: un 4 (i64 l :: i64 m :: un 10 (vb o :: un 16 []))) [oF 2 [[vb false, hS 2 0]], oT 2 p, oT 2 []]
inductive T67_c27e0 where
  | mk (a d f : Int) (i : Nat) (j l m o : Int) (p : LV)
inductive N67_c27 where
  | e0 (x : T67_c27e0)
@[reducible] def N67_c27.out : N67_c27 → VX × S
  | .e0 (.mk a d f i j l m o p) => (vN, S.mk (i64 a :: i64 d :: i64 f :: U :: U :: U :: pT 0 :: hS 1 i :: U :: i64 j :: i64 l :: un 4 (i64 m :: i64 o :: un 27 [])) [oF 2 [[vb false, hS 2 0]], oT 2 p, oT 2 []])
abbrev E67_c27 : Ent (VX × S) := ⟨N67_c27, N67_c27.out, fun g => (∃ x, g (.e0 x)), fun g => ⟨fun h => match h with
  | ⟨_, h⟩ => ⟨_, h⟩, fun ⟨b, h⟩ => match b, h with
  | .e0 _, h => ⟨_, h⟩⟩⟩
noncomputable def D67_c27 : T67_c27s0 → PT N67_c27
  | .mk f a d i j l m p o =>
   .testB p
    (fun h0 =>
    .ret (.e0 (.mk f a d i j d l m o))
    )
    (fun h0 =>
    .ret (.e0 (.mk f a d i j a l m o))
    )
noncomputable def J67_c27 (y : T67_c27s0) : Option N67_c27 := (D67_c27 y).ev some
theorem J67_c27_ok (y : T67_c27s0) : ∀ b, J67_c27 y = some b → condP Tryz.prog X CC 67 0 18446744073709551616 B67 27 y.st = some (E67_c27.out b) := by
  cases y; exact cond_ok (E := E67_c27) (L := notIn []) (fun x => by kernel_rfl)
inductive T67_0s0 where
  | mk (a d f : Int) (i : Nat) (j l : Int) (m : LV)
inductive T67_0e0 where
  | mk (a : Nat) (d : LV)
inductive N67_0 where
  | s0 (x : T67_0s0)
  | e0 (x : T67_0e0)
@[reducible] def N67_0.out : N67_0 → VX × S
  | .s0 (.mk a d f i j l m) => (vN, S.mk (i64 a :: i64 d :: i64 f :: U :: U :: U :: pT 0 :: hS 1 i :: un 7 (i64 j :: i64 l :: un 27 [])) [oF 2 [[vb false, hS 2 0]], oT 2 m, oT 2 []])
  | .e0 (.mk o p) => (vX 0, S.mk (un 6 (pT 0 :: hS 1 o :: un 36 [])) [oF 2 [[vb false, hS 2 0]], oT 2 p, oT 2 []])
abbrev E67_0 : Ent (VX × S) := ⟨N67_0, N67_0.out, fun g => (∃ x, g (.s0 x)) ∨ (∃ x, g (.e0 x)), fun g => ⟨fun h => match h with
  | .inl ⟨_, h⟩ => ⟨_, h⟩
  | .inr (⟨_, h⟩) => ⟨_, h⟩, fun ⟨b, h⟩ => match b, h with
  | .s0 _, h => .inl ⟨_, h⟩
  | .e0 _, h => .inr (⟨_, h⟩)⟩⟩
noncomputable def D67_0 : T67_0s0 → PT N67_0
  | .mk f q s i j d l =>
   .test (d < j)
    (fun h0 =>
    .test (f = 0)
     (fun _ => .fail)
     (fun h1 =>
     .auto 1 <|
     .cut E67_c27 (J67_c27_ok (.mk f q s i (w64 (w64 (Int.tdiv (w64 (d * 11796480)) f) - 5898240)) j d (Int.tmod d 2 == 1) l)) fun (r : N67_c27) => match r with
     | .e0 (.mk t u v a m o w y p) =>
      .ask E127 (F127_ok m) fun (r : A127) => match r with
      | .a0 z =>
       .ask E125 (F125_ok o z) fun (r : A125) => match r with
       | .a0 d0 =>
        .ask E128 (F128_ok 100000 m) fun (r : A128) => match r with
        | .a0 d1 =>
         .ask E125 (F125_ok o d1) fun (r : A125) => match r with
         | .a0 d2 =>
          .ask E123 (F123_ok d0 d2) fun (r : A123) => match r with
          | .a0 d3 d4 =>
           .auto 1 <|
           .test (0 + a ≤ List.length p ∧ (a + 1) * 16 ≤ 140737488355328 ∧ a + 1 ≤ 140737488355328)
            (fun h2 =>
            .ret (.s0 (.mk t u v (a + 1) w (w64 (y + 1)) (List.take a p ++ [[i64 d3, i64 d4]])))
            )
            (fun _ => .fail)
     )
    )
    (fun h0 =>
    .ret (.e0 (.mk i l))
    )
noncomputable def S67_0 : N67_0 → PT N67_0
  | .s0 x => D67_0 x
  | _ => .fail
def N67_0.off : N67_0 → Bool
  | .s0 _ => false
  | _ => true
noncomputable def L67_0 (n : Nat) (b : N67_0) : Option N67_0 := PT.loop S67_0 N67_0.off n b
theorem L67_0_ok : ∀ (n : Nat) (b : N67_0), N67_0.off b = false → ∀ c, L67_0 n b = some c → loopP Tryz.prog X CC 67 0 18446744073709551616 B67 0 n (E67_0.out b).2 = some (E67_0.out c) :=
  loop_ok (E := E67_0) (step := S67_0) (L := notIn []) (fun b hb => by cases b <;> first | (cases hb; done) | (rename_i x; cases x; intro x; kernel_rfl) | (intro x; kernel_rfl)) (fun b => by cases b <;> rfl)
noncomputable def N67_0.nx (n : Nat) (c : N67_0) : Option N67_0 := match N67_0.off c with
  | true => some c
  | false => L67_0 n c
theorem L67_0_s0 (n : Nat) (x : T67_0s0) : L67_0 (n + 1) (.s0 x) = (D67_0 x).ev (N67_0.nx n) := rfl
theorem N67_0.nx_s0 (n : Nat) (x : T67_0s0) : N67_0.nx n (.s0 x) = L67_0 n (.s0 x) := rfl
theorem N67_0.nx_e0 (n : Nat) (x : T67_0e0) : N67_0.nx n (.e0 x) = some (.e0 x) := rfl
noncomputable def D67 (a i j : Int) : PT A67 :=
  .cut E67_0 (L67_0_ok 18446744073709551616 (.s0 (.mk (if (if 16 < a then 16 else a) > 2 then if 16 < a then 16 else a else 2) i j 0 (w64 (2 * if (if 16 < a then 16 else a) > 2 then if 16 < a then 16 else a else 2)) 0 ([]))) rfl) fun (r : N67_0) => match r with
  | .e0 (.mk d f) =>
   .test (0 + d ≤ List.length f)
    (fun h0 =>
    .ask E122 (F122_ok (List.take d f)) fun (r : A122) => match r with
    | .a0 l m o =>
     .auto 1 <|
     .ret (.a0 l m o)
    )
    (fun _ => .fail)
  | _ => .fail
noncomputable def F67 (a d f : Int) : Option A67 := (D67 a d f).ev some
theorem F67_ok (a d f : Int) : ∀ b, F67 a d f = some b → UU 67 ([i64 a, i64 d, i64 f]) ([]) = some (A67.out b) :=
  fn_ok (E := E67) (L := notIn []) rfl rfl (fun x => by kernel_rfl)
/-! ## F224 -/
def F224 (a : LV) : Option A224 :=
  if List.length a * 16 ≤ 140737488355328 ∧ List.length a ≤ 140737488355328 then
   some (A224.a0 a)
  else
   none
theorem F224_ok (a : LV) (r : A224) (h : F224 a = some r) : UU 224 ([lS 2 a]) ([]) = some (A224.out r) := by
  unfold F224 at h
  rcases ite_eq h with ⟨h0, h⟩ | ⟨h0, h⟩
  · cases h
    exact UC_of (n := 1) (call_oracle (cloneO_eq rfl a h0))
  · cases h
/-! ## F170 -/
noncomputable def D170 (d : Bool) (f : LV) : PT A170 :=
  .auto 2 <|
  .ask E224 (F224_ok f) fun (r : A224) => match r with
  | .a0 a =>
   .auto 1 <|
   .ret (.a0 d (List.length a) a)
noncomputable def F170 (a : Bool) (d : LV) : Option A170 := (D170 a d).ev some
theorem F170_ok (a : Bool) (d : LV) : ∀ b, F170 a d = some b → UU 170 ([V.agg [vb a, lS 2 d]]) ([]) = some (A170.out b) :=
  fn_ok (E := E170) (L := notIn []) rfl rfl (fun x => by kernel_rfl)
/-! ## F178 -/
noncomputable def D178 (a : Bool) (d : LV) (f : Bool) (i : LV) : PT Bool :=
  .auto 2 <|
  .testB ((↑(List.length d) : Int) == (↑(List.length i) : Int))
   (fun h0 =>
   .auto 7 <|
   .ret (a == f)
   )
   (fun h0 =>
   .auto 5 <|
   .ret false
   )
@[reducible] def O178 (a : Bool) : V × Store := (vb a, [])
noncomputable def F178 (a : Bool) (d : LV) (f : Bool) (i : LV) : Bool := (D178 a d f i).evT
theorem F178_ok (a : Bool) (d : LV) (f : Bool) (i : LV) : UU 178 ([V.agg [vb a, lS 2 d], V.agg [vb f, lS 2 i]]) ([]) = some (O178 (F178 a d f i)) :=
  fnT_ok (out := O178) (L := notIn []) rfl rfl (fun x => by kernel_rfl) (by simp [D178, PT.isT])
/-! ## F171 -/
noncomputable abbrev B171 : Code := (Tryz.f171.body).getD .skip
inductive T171_0s0 where
  | mk (a : Int) (d : LV) (f i : Int) (j : Bool) (l : LV) (m : Nat) (o : LV)
inductive T171_0e0 where
  | mk (a : Bool) (d : Nat) (f : LV)
inductive N171_0 where
  | s0 (x : T171_0s0)
  | e0 (x : T171_0e0)
@[reducible] def N171_0.out : N171_0 → VX × S
  | .s0 (.mk d f i j a l m o) => (vN, S.mk (U :: U :: i64 d :: pT 0 :: U :: U :: pT 1 :: pT 2 :: un 14 (lS 2 f :: i64 i :: i64 j :: un 31 [])) [oF 2 [[vb a, lS 2 l]], oF 2 [[vb false, hS 3 0]], oF 2 [[vb a, hS 4 m]], oT 2 [], oT 2 o])
  | .e0 (.mk p q s) => (vX 0, S.mk (un 6 (pT 0 :: pT 1 :: un 48 [])) [oF 2 [[vb false, hS 2 0]], oF 2 [[vb p, hS 3 q]], oT 2 [], oT 2 s])
abbrev E171_0 : Ent (VX × S) := ⟨N171_0, N171_0.out, fun g => (∃ x, g (.s0 x)) ∨ (∃ x, g (.e0 x)), fun g => ⟨fun h => match h with
  | .inl ⟨_, h⟩ => ⟨_, h⟩
  | .inr (⟨_, h⟩) => ⟨_, h⟩, fun ⟨b, h⟩ => match b, h with
  | .s0 _, h => .inl ⟨_, h⟩
  | .e0 _, h => .inr (⟨_, h⟩)⟩⟩
noncomputable def D171_0 : T171_0s0 → PT N171_0
  | .mk d l m a o f i j =>
   .test (a < m)
    (fun h0 =>
    .test (0 ≤ a)
     (fun h1 =>
     .look RW28 (l[Int.toNat a]?) fun p =>
     .auto 3 <|
     .known (decide_eq_true h1) <|
     .look RW28 (f[Int.toNat a]?) fun q =>
     .auto 1 <|
     .ask E134 (F134_ok q.c0 p.c0 d) fun (r : A134) => match r with
     | .a0 s =>
      .auto 1 <|
      .known (decide_eq_true h1) <|
      .look RW28 (f[Int.toNat a]?) fun t =>
      .auto 1 <|
      .ask E134 (F134_ok t.c1 p.c1 d) fun (r : A134) => match r with
      | .a0 u =>
       .test (0 ≤ a ∧ a < (↑i : Int))
        (fun h2 =>
        .look RW28 (j[(0 : Nat) + Int.toNat a]?) fun v =>
        .ret (.s0 (.mk d l m (w64 (a + 1)) o f i (List.set j (0 + Int.toNat a) [i64 s, i64 u])))
        )
        (fun _ => .fail)
     )
     (fun _ => .fail)
    )
    (fun h0 =>
    .ret (.e0 (.mk o i j))
    )
noncomputable def S171_0 : N171_0 → PT N171_0
  | .s0 x => D171_0 x
  | _ => .fail
def N171_0.off : N171_0 → Bool
  | .s0 _ => false
  | _ => true
noncomputable def L171_0 (n : Nat) (b : N171_0) : Option N171_0 := PT.loop S171_0 N171_0.off n b
theorem L171_0_ok : ∀ (n : Nat) (b : N171_0), N171_0.off b = false → ∀ c, L171_0 n b = some c → loopP Tryz.prog X CC 171 0 18446744073709551616 B171 0 n (E171_0.out b).2 = some (E171_0.out c) :=
  loop_ok (E := E171_0) (step := S171_0) (L := notIn []) (fun b hb => by cases b <;> first | (cases hb; done) | (rename_i x; cases x; intro x; kernel_rfl) | (intro x; kernel_rfl)) (fun b => by cases b <;> rfl)
noncomputable def N171_0.nx (n : Nat) (c : N171_0) : Option N171_0 := match N171_0.off c with
  | true => some c
  | false => L171_0 n c
theorem L171_0_s0 (n : Nat) (x : T171_0s0) : L171_0 (n + 1) (.s0 x) = (D171_0 x).ev (N171_0.nx n) := rfl
theorem N171_0.nx_s0 (n : Nat) (x : T171_0s0) : N171_0.nx n (.s0 x) = L171_0 n (.s0 x) := rfl
theorem N171_0.nx_e0 (n : Nat) (x : T171_0e0) : N171_0.nx n (.e0 x) = some (.e0 x) := rfl
noncomputable def D171 (d : Bool) (f : LV) (j : Bool) (i : LV) (l : Int) : PT A171 :=
  .auto 2 <|
  .ask E224 (F224_ok f) fun (r : A224) => match r with
  | .a0 a =>
   .auto 3 <|
   .tot O178 (F178_ok d f j i) fun m =>
   .testB (!m)
    (fun h0 =>
    .auto 2 <|
    .ret (.a0 d (List.length a) a)
    )
    (fun h0 =>
    .auto 1 <|
    .cut E171_0 (L171_0_ok 18446744073709551616 (.s0 (.mk l i ((↑(List.length i) : Int)) 0 d f (List.length a) a)) rfl) fun (r : N171_0) => match r with
    | .e0 (.mk o p q) =>
     .auto 2 <|
     .ret (.a0 o p q)
    | _ => .fail
    )
noncomputable def F171 (a : Bool) (d : LV) (f : Bool) (i : LV) (j : Int) : Option A171 := (D171 a d f i j).ev some
theorem F171_ok (a : Bool) (d : LV) (f : Bool) (i : LV) (j : Int) : ∀ b, F171 a d f i j = some b → UU 171 ([V.agg [vb a, lS 2 d], V.agg [vb f, lS 2 i], i64 j]) ([]) = some (A171.out b) :=
  fn_ok (E := E171) (L := notIn []) rfl rfl (fun x => by kernel_rfl)
/-! ## F109 -/
noncomputable abbrev B109 : Code := (Tryz.f109.body).getD .skip
inductive T109_0s0 where
  | mk (a : LV) (d f : Int)
inductive T109_0e0 where
  | mk (a : LV) (d f : Int)
inductive N109_0 where
  | s0 (x : T109_0s0)
  | e0 (x : T109_0e0)
@[reducible] def N109_0.out : N109_0 → VX × S
  | .s0 (.mk a d f) => (vN, S.mk (lS 8 a :: i64 d :: U :: U :: pT 0 :: i64 f :: un 66 []) [oF 2 [[vb false, hS 1 0]], oT 2 []])
  | .e0 (.mk i j l) => (vX 0, S.mk (lS 8 i :: i64 j :: U :: U :: pT 0 :: i64 l :: un 66 []) [oF 2 [[vb false, hS 1 0]], oT 2 []])
abbrev E109_0 : Ent (VX × S) := ⟨N109_0, N109_0.out, fun g => (∃ x, g (.s0 x)) ∨ (∃ x, g (.e0 x)), fun g => ⟨fun h => match h with
  | .inl ⟨_, h⟩ => ⟨_, h⟩
  | .inr (⟨_, h⟩) => ⟨_, h⟩, fun ⟨b, h⟩ => match b, h with
  | .s0 _, h => .inl ⟨_, h⟩
  | .e0 _, h => .inr (⟨_, h⟩)⟩⟩
noncomputable def D109_0 : T109_0s0 → PT N109_0
  | .mk d f a =>
   .test (a ≥ 0)
    (fun h0 =>
    .auto 2 <|
    .test (0 ≤ a)
     (fun h1 =>
     .look RW100 (d[Int.toNat a]?) fun i =>
     .auto 5 <|
     .test (i.c0 > f)
      (fun h2 =>
      .ret (.s0 (.mk d f (w64 (a - 1))))
      )
      (fun h2 =>
      .ret (.e0 (.mk d f a))
      )
     )
     (fun _ => .fail)
    )
    (fun h0 =>
    .auto 8 <|
    .ret (.e0 (.mk d f a))
    )
noncomputable def S109_0 : N109_0 → PT N109_0
  | .s0 x => D109_0 x
  | _ => .fail
def N109_0.off : N109_0 → Bool
  | .s0 _ => false
  | _ => true
noncomputable def L109_0 (n : Nat) (b : N109_0) : Option N109_0 := PT.loop S109_0 N109_0.off n b
theorem L109_0_ok : ∀ (n : Nat) (b : N109_0), N109_0.off b = false → ∀ c, L109_0 n b = some c → loopP Tryz.prog X CC 109 0 18446744073709551616 B109 0 n (E109_0.out b).2 = some (E109_0.out c) :=
  loop_ok (E := E109_0) (step := S109_0) (L := notIn []) (fun b hb => by cases b <;> first | (cases hb; done) | (rename_i x; cases x; intro x; kernel_rfl) | (intro x; kernel_rfl)) (fun b => by cases b <;> rfl)
noncomputable def N109_0.nx (n : Nat) (c : N109_0) : Option N109_0 := match N109_0.off c with
  | true => some c
  | false => L109_0 n c
theorem L109_0_s0 (n : Nat) (x : T109_0s0) : L109_0 (n + 1) (.s0 x) = (D109_0 x).ev (N109_0.nx n) := rfl
theorem N109_0.nx_s0 (n : Nat) (x : T109_0s0) : N109_0.nx n (.s0 x) = L109_0 n (.s0 x) := rfl
theorem N109_0.nx_e0 (n : Nat) (x : T109_0e0) : N109_0.nx n (.e0 x) = some (.e0 x) := rfl
noncomputable def D109 (i : LV) (o : Int) : PT A109 :=
  .testB ((↑(List.length i) : Int) == 0)
   (fun h0 =>
   .auto 1 <|
   .ret (.a0 false 0 ([]))
   )
   (fun h0 =>
   .cut E109_0 (L109_0_ok 18446744073709551616 (.s0 (.mk i o (w64 ((↑(List.length i) : Int) - 1)))) rfl) fun (r : N109_0) => match r with
   | .e0 (.mk f p a) =>
    .testB (a == -1)
     (fun h1 =>
     .auto 1 <|
     .look RW100 (f[(0 : Nat)]?) fun l =>
     .ask E170 (F170_ok l.c1 l.c2) fun (r : A170) => match r with
     | .a0 q s t =>
      .auto 1 <|
      .ret (.a0 q s t)
     )
     (fun h1 =>
     .testB (a == w64 ((↑(List.length f) : Int) - 1))
      (fun h2 =>
      .test (0 ≤ a)
       (fun h3 =>
       .look RW100 (f[Int.toNat a]?) fun m =>
       .ask E170 (F170_ok m.c1 m.c2) fun (r : A170) => match r with
       | .a0 u v w =>
        .auto 1 <|
        .ret (.a0 u v w)
       )
       (fun _ => .fail)
      )
      (fun h2 =>
      .test (0 ≤ a)
       (fun h3 =>
       .look RW100 (f[Int.toNat a]?) fun d =>
       .test (0 ≤ w64 (a + 1))
        (fun h4 =>
        .look RW100 (f[Int.toNat (w64 (a + (1 : Int)))]?) fun j =>
        .auto 8 <|
        .ask E136 (F136_ok d.c0 j.c0 p) fun (r : A136) => match r with
        | .a0 y =>
         .ask E135 (F135_ok d.c3 d.c4 d.c5 d.c6 d.c7 y) fun (r : A135) => match r with
         | .a0 z =>
          .ask E171 (F171_ok d.c1 d.c2 j.c1 j.c2 z) fun (r : A171) => match r with
          | .a0 d0 d1 d2 =>
           .auto 1 <|
           .ret (.a0 d0 d1 d2)
        )
        (fun _ => .fail)
       )
       (fun _ => .fail)
      )
     )
   | _ => .fail
   )
noncomputable def F109 (a : LV) (d : Int) : Option A109 := (D109 a d).ev some
theorem F109_ok (a : LV) (d : Int) : ∀ b, F109 a d = some b → UU 109 ([lS 8 a, i64 d]) ([]) = some (A109.out b) :=
  fn_ok (E := E109) (L := notIn []) rfl rfl (fun x => by kernel_rfl)
/-! ## F51 -/
noncomputable def D51 (a j : Int) (l m o : LV) (d3 : Bool) (d4 d5 d6 d7 d8 d9 f0 f1 f2 f3 f4 f5 f6 f7 f8 : Int) (f9 : LV) (j0 : Bool) (j1 : LV) (j2 j3 j4 j5 j6 : Int) (j7 j8 j9 : LV) (d : Int) : PT A51 :=
  .auto 1 <|
  .ask E72 (F72_ok l d 0) fun (r : A72) => match r with
  | .a0 f =>
   .auto 1 <|
   .ask E72 (F72_ok m d 0) fun (r : A72) => match r with
   | .a0 i =>
    .auto 1 <|
    .testB (a == 0)
     (fun h0 =>
     .ask E63 (F63_ok f i) fun (r : A63) => match r with
     | .a0 p q s =>
      .auto 1 <|
      .ret (.a0 p q s)
     )
     (fun h0 =>
     .testB (a == 1)
      (fun h1 =>
      .ask E65 (F65_ok f i) fun (r : A65) => match r with
      | .a0 t u v =>
       .auto 1 <|
       .ret (.a0 t u v)
      )
      (fun h1 =>
      .testB (a == 2)
       (fun h2 =>
       .auto 1 <|
       .ask E67 (F67_ok j f i) fun (r : A67) => match r with
       | .a0 w y z =>
        .auto 1 <|
        .ret (.a0 w y z)
       )
       (fun h2 =>
       .testB (a == 3)
        (fun h3 =>
        .auto 1 <|
        .ask E109 (F109_ok o d) fun (r : A109) => match r with
        | .a0 d0 d1 d2 =>
         .auto 1 <|
         .ret (.a0 d0 d1 d2)
        )
        (fun h3 =>
        .auto 1 <|
        .ret (.a0 false 0 ([]))
        )
       )
      )
     )
noncomputable def F51 (a d : Int) (f i j : LV) (l : Bool) (m o p q s t u v w y z d0 d1 d2 d3 : Int) (d4 : LV) (d5 : Bool) (d6 : LV) (d7 d8 d9 f0 f1 : Int) (f2 f3 f4 : LV) (f5 : Int) : Option A51 := (D51 a d f i j l m o p q s t u v w y z d0 d1 d2 d3 d4 d5 d6 d7 d8 d9 f0 f1 f2 f3 f4 f5).ev some
theorem F51_ok (a d : Int) (f i j : LV) (l : Bool) (m o p q s t u v w y z d0 d1 d2 d3 : Int) (d4 : LV) (d5 : Bool) (d6 : LV) (d7 d8 d9 f0 f1 : Int) (f2 f3 f4 : LV) (f5 : Int) : ∀ b, F51 a d f i j l m o p q s t u v w y z d0 d1 d2 d3 d4 d5 d6 d7 d8 d9 f0 f1 f2 f3 f4 f5 = some b → UU 51 ([V.agg [i64 a, i64 d, lS 7 f, lS 7 i, lS 8 j, vb l, i64 m, i64 o, u8 p, u8 q, u8 s, u8 t, u8 u, u8 v, u8 w, u8 y, i64 z, i64 d0, i64 d1, i64 d2, i64 d3, lS 10 d4, vb d5, lS 7 d6, u8 d7, u8 d8, u8 d9, u8 f0, i64 f1, lS 1 f2, lS 7 f3, lS 7 f4], i64 f5]) ([]) = some (A51.out b) :=
  fn_ok (E := E51) (L := notIn []) rfl rfl (fun x => by kernel_rfl)
/-! ## F146 -/
noncomputable def D146 (d : Bool) (a : LV) : PT Bool :=
  .auto 1 <|
  .ret ((↑(List.length a) : Int) == 0)
@[reducible] def O146 (a : Bool) : V × Store := (vb a, [])
noncomputable def F146 (a : Bool) (d : LV) : Bool := (D146 a d).evT
theorem F146_ok (a : Bool) (d : LV) : UU 146 ([V.agg [vb a, lS 2 d]]) ([]) = some (O146 (F146 a d)) :=
  fnT_ok (out := O146) (L := notIn []) rfl rfl (fun x => by kernel_rfl) (by simp [D146, PT.isT])
/-! ## F228 -/
noncomputable def D228 (a : Int) : PT Bool :=
  .test (a ≥ -67108864)
   (fun h0 =>
   .auto 2 <|
   .ret (decide (a ≤ 67108864))
   )
   (fun h0 =>
   .auto 2 <|
   .ret false
   )
@[reducible] def O228 (a : Bool) : V × Store := (vb a, [])
noncomputable def F228 (a : Int) : Bool := (D228 a).evT
theorem F228_ok (a : Int) : UU 228 ([i64 a]) ([]) = some (O228 (F228 a)) :=
  fnT_ok (out := O228) (L := notIn []) rfl rfl (fun x => by kernel_rfl) (by simp [D228, PT.isT])
/-! ## F227 -/
noncomputable def D227 (a d : Int) : PT Bool :=
  .auto 1 <|
  .tot O228 (F228_ok a) fun f =>
  .testB (!f)
   (fun h0 =>
   .auto 4 <|
   .ret true
   )
   (fun h0 =>
   .auto 3 <|
   .tot O228 (F228_ok d) fun i =>
   .auto 2 <|
   .ret (!i)
   )
@[reducible] def O227 (a : Bool) : V × Store := (vb a, [])
noncomputable def F227 (a d : Int) : Bool := (D227 a d).evT
theorem F227_ok (a d : Int) : UU 227 ([V.agg [i64 a, i64 d]]) ([]) = some (O227 (F227 a d)) :=
  fnT_ok (out := O227) (L := notIn []) rfl rfl (fun x => by kernel_rfl) (by simp [D227, PT.isT])
/-! ## F262 -/
noncomputable abbrev B262 : Code := (Tryz.f262.body).getD .skip
inductive T262_0s0 where
  | mk (a : LV) (d f : Int)
inductive T262_0e0 where
  | mk (a : Int)
inductive N262_0 where
  | s0 (x : T262_0s0)
  | e0 (x : T262_0e0)
  | e1
@[reducible] def N262_0.out : N262_0 → VX × S
  | .s0 (.mk a d f) => (vN, S.mk (lS 2 a :: V.fn 227 [] :: un 5 (i64 d :: i64 f :: un 10 [])) [])
  | .e0 (.mk i) => (VX.ret, S.mk (un 4 (i64 i :: un 14 [])) [])
  | .e1 => (vX 0, S.mk (un 19 []) [])
abbrev E262_0 : Ent (VX × S) := ⟨N262_0, N262_0.out, fun g => (∃ x, g (.s0 x)) ∨ (∃ x, g (.e0 x)) ∨ g .e1, fun g => ⟨fun h => match h with
  | .inl ⟨_, h⟩ => ⟨_, h⟩
  | .inr (.inl ⟨_, h⟩) => ⟨_, h⟩
  | .inr (.inr h) => ⟨_, h⟩, fun ⟨b, h⟩ => match b, h with
  | .s0 _, h => .inl ⟨_, h⟩
  | .e0 _, h => .inr (.inl ⟨_, h⟩)
  | .e1, h => .inr (.inr h)⟩⟩
noncomputable def D262_0 : T262_0s0 → PT N262_0
  | .mk d f a =>
   .test (a < f)
    (fun h0 =>
    .test (0 ≤ a)
     (fun h1 =>
     .look RW28 (d[Int.toNat a]?) fun i =>
     .tot O227 (F227_ok i.c0 i.c1) fun j =>
     .testB j
      (fun h2 =>
      .ret (.e0 (.mk a))
      )
      (fun h2 =>
      .ret (.s0 (.mk d f (w64 (a + 1))))
      )
     )
     (fun _ => .fail)
    )
    (fun h0 =>
    .ret .e1
    )
noncomputable def S262_0 : N262_0 → PT N262_0
  | .s0 x => D262_0 x
  | _ => .fail
def N262_0.off : N262_0 → Bool
  | .s0 _ => false
  | _ => true
noncomputable def L262_0 (n : Nat) (b : N262_0) : Option N262_0 := PT.loop S262_0 N262_0.off n b
theorem L262_0_ok : ∀ (n : Nat) (b : N262_0), N262_0.off b = false → ∀ c, L262_0 n b = some c → loopP Tryz.prog X CC 262 0 18446744073709551616 B262 0 n (E262_0.out b).2 = some (E262_0.out c) :=
  loop_ok (E := E262_0) (step := S262_0) (L := notIn []) (fun b hb => by cases b <;> first | (cases hb; done) | (rename_i x; cases x; intro x; kernel_rfl) | (intro x; kernel_rfl)) (fun b => by cases b <;> rfl)
noncomputable def N262_0.nx (n : Nat) (c : N262_0) : Option N262_0 := match N262_0.off c with
  | true => some c
  | false => L262_0 n c
theorem L262_0_s0 (n : Nat) (x : T262_0s0) : L262_0 (n + 1) (.s0 x) = (D262_0 x).ev (N262_0.nx n) := rfl
theorem N262_0.nx_s0 (n : Nat) (x : T262_0s0) : N262_0.nx n (.s0 x) = L262_0 n (.s0 x) := rfl
theorem N262_0.nx_e0 (n : Nat) (x : T262_0e0) : N262_0.nx n (.e0 x) = some (.e0 x) := rfl
theorem N262_0.nx_e1 (n : Nat) : N262_0.nx n .e1 = some .e1 := rfl
noncomputable def D262 (a : LV) : PT A262 :=
  .cut E262_0 (L262_0_ok 18446744073709551616 (.s0 (.mk a ((↑(List.length a) : Int)) 0)) rfl) fun (r : N262_0) => match r with
  | .e0 (.mk d) =>
   .ret (.a0 d)
  | .e1 =>
   .ret (.a0 (-1))
  | _ => .fail
noncomputable def F262 (a : LV) : Option A262 := (D262 a).ev some
theorem F262_ok (a : LV) : ∀ b, F262 a = some b → UU 262 ([lS 2 a, V.fn 227 []]) ([]) = some (A262.out b) :=
  fn_ok (E := E262) (L := notIn []) rfl rfl (fun x => by kernel_rfl)
/-! ## F226 -/
noncomputable def D226 (a : LV) : PT A226 :=
  .ask E262 (F262_ok a) fun (r : A262) => match r with
  | .a0 d =>
   .ret (.a0 (decide (d ≥ 0)))
noncomputable def F226 (a : LV) : Option A226 := (D226 a).ev some
theorem F226_ok (a : LV) : ∀ b, F226 a = some b → UU 226 ([lS 2 a, V.fn 227 []]) ([]) = some (A226.out b) :=
  fn_ok (E := E226) (L := notIn []) rfl rfl (fun x => by kernel_rfl)
/-! ## F177 -/
noncomputable def D177 (d : Bool) (a : LV) : PT A177 :=
  .auto 1 <|
  .testB ((↑(List.length a) : Int) == 0)
   (fun h0 =>
   .auto 1 <|
   .ret (.a0 (!d))
   )
   (fun h0 =>
   .test ((↑(List.length a) : Int) ≥ 4)
    (fun h1 =>
    .auto 2 <|
    .test ((↑(List.length a) : Int) ≤ 97)
     (fun h2 =>
     .auto 4 <|
     .testB (Int.tmod (↑(List.length a) : Int) 3 == 1)
      (fun h3 =>
      .auto 3 <|
      .ask E226 (F226_ok a) fun (r : A226) => match r with
      | .a0 f =>
       .auto 2 <|
       .ret (.a0 (!f))
      )
      (fun h3 =>
      .auto 4 <|
      .ret (.a0 false)
      )
     )
     (fun h2 =>
     .auto 8 <|
     .ret (.a0 false)
     )
    )
    (fun h1 =>
    .auto 11 <|
    .ret (.a0 false)
    )
   )
noncomputable def F177 (a : Bool) (d : LV) : Option A177 := (D177 a d).ev some
theorem F177_ok (a : Bool) (d : LV) : ∀ b, F177 a d = some b → UU 177 ([V.agg [vb a, lS 2 d]]) ([]) = some (A177.out b) :=
  fn_ok (E := E177) (L := notIn []) rfl rfl (fun x => by kernel_rfl)
/-! ## F283 -/
noncomputable def D283 (a d : Int) : PT Int :=
  .auto 1 <|
  .ret (w64 (w64 (↑(BitVec.toNat (BitVec.ofInt (IntKind.bits IntKind.i64) a &&& BitVec.ofInt (IntKind.bits IntKind.i64) d)) : Int) + Int.fdiv (w64 (↑(BitVec.toNat (BitVec.ofInt (IntKind.bits IntKind.i64) a ^^^ BitVec.ofInt (IntKind.bits IntKind.i64) d)) : Int)) 2))
@[reducible] def O283 (a : Int) : V × Store := (i64 a, [])
noncomputable def F283 (a d : Int) : Int := (D283 a d).evT
theorem F283_ok (a d : Int) : UU 283 ([i64 a, i64 d]) ([]) = some (O283 (F283 a d)) :=
  fnT_ok (out := O283) (L := notIn []) rfl rfl (fun x => by kernel_rfl) (by simp [D283, PT.isT])
/-! ## F264 -/
noncomputable def D264 (a d f i : Int) : PT A264 :=
  .auto 2 <|
  .tot O283 (F283_ok a f) fun j =>
  .auto 2 <|
  .tot O283 (F283_ok d i) fun l =>
  .auto 1 <|
  .ret (.a0 j l)
noncomputable def F264 (a d f i : Int) : Option A264 := (D264 a d f i).ev some
theorem F264_ok (a d f i : Int) : ∀ b, F264 a d f i = some b → UU 264 ([V.agg [i64 a, i64 d], V.agg [i64 f, i64 i]]) ([]) = some (A264.out b) :=
  fn_ok (E := E264) (L := notIn []) rfl rfl (fun x => by kernel_rfl)
/-! ## F232v1 -/
noncomputable def D232v1 (rF232v1 : Nat → Int → Int → Int → Int → Int → Int → Int → Int → Int → LV → Option A232v1) (hF232v1 : ∀ (a : Nat) (l m o p q s d f i : Int) (j : LV) (b : A232v1), rF232v1 a l m o p q s d f i j = some b → UU 232 ([hS 0 a, V.agg [i64 l, i64 m], V.agg [i64 o, i64 p], V.agg [i64 q, i64 s], V.agg [i64 d, i64 f], i64 i]) ([oT 2 j]) = some (A232v1.out b)) (a : Nat) (l m o p q s d f i : Int) (j : LV) : PT A232v1 :=
  .testB (i == 0)
   (fun h0 =>
   .auto 2 <|
   .test (0 + a ≤ List.length j ∧ (a + 1) * 16 ≤ 140737488355328 ∧ a + 1 ≤ 140737488355328)
    (fun h1 =>
    .ret (.a0 (a + 1) (List.take a j ++ [[i64 d, i64 f]]))
    )
    (fun _ => .fail)
   )
   (fun h0 =>
   .auto 2 <|
   .ask E264 (F264_ok l m o p) fun (r : A264) => match r with
   | .a0 t u =>
    .auto 2 <|
    .ask E264 (F264_ok o p q s) fun (r : A264) => match r with
    | .a0 v w =>
     .auto 2 <|
     .ask E264 (F264_ok q s d f) fun (r : A264) => match r with
     | .a0 y z =>
      .auto 5 <|
      .ask E264 (F264_ok t u v w) fun (r : A264) => match r with
      | .a0 d0 d1 =>
       .auto 2 <|
       .ask E264 (F264_ok v w y z) fun (r : A264) => match r with
       | .a0 d2 d3 =>
        .auto 4 <|
        .ask E264 (F264_ok d0 d1 d2 d3) fun (r : A264) => match r with
        | .a0 d4 d5 =>
         .auto 5 <|
         .ask E232v1 (hF232v1 a l m t u d0 d1 d4 d5 (w64 (i - 1)) j) fun (r : A232v1) => match r with
         | .a0 d6 d7 =>
          .auto 4 <|
          .ask E232v1 (hF232v1 d6 d4 d5 d2 d3 y z d f (w64 (i - 1)) d7) fun (r : A232v1) => match r with
          | .a0 d8 d9 =>
           .ret (.a0 d8 d9)
   )
theorem D232v1_ok (rF232v1 : Nat → Int → Int → Int → Int → Int → Int → Int → Int → Int → LV → Option A232v1) (hF232v1 : ∀ (a : Nat) (d f i j l m o p q : Int) (s : LV) (b : A232v1), rF232v1 a d f i j l m o p q s = some b → UU 232 ([hS 0 a, V.agg [i64 d, i64 f], V.agg [i64 i, i64 j], V.agg [i64 l, i64 m], V.agg [i64 o, i64 p], i64 q]) ([oT 2 s]) = some (A232v1.out b)) (a : Nat) (d f i j l m o p q : Int) (s : LV) : ∀ b, (D232v1 rF232v1 hF232v1 a d f i j l m o p q s).ev some = some b → UU 232 ([hS 0 a, V.agg [i64 d, i64 f], V.agg [i64 i, i64 j], V.agg [i64 l, i64 m], V.agg [i64 o, i64 p], i64 q]) ([oT 2 s]) = some (A232v1.out b) :=
  fn_ok (E := E232v1) (L := notIn []) rfl rfl (fun x => by kernel_rfl)
noncomputable def G232v1 : Nat → { r : Nat → Int → Int → Int → Int → Int → Int → Int → Int → Int → LV → Option A232v1 // ∀ (a : Nat) (d f i j l m o p q : Int) (s : LV) (b : A232v1), r a d f i j l m o p q s = some b → UU 232 ([hS 0 a, V.agg [i64 d, i64 f], V.agg [i64 i, i64 j], V.agg [i64 l, i64 m], V.agg [i64 o, i64 p], i64 q]) ([oT 2 s]) = some (A232v1.out b) }
  | 0 => ⟨fun _ _ _ _ _ _ _ _ _ _ _ => none, fun _ _ _ _ _ _ _ _ _ _ _ _ h => by cases h⟩
  | n + 1 => ⟨fun a d f i j l m o p q s => (D232v1 (G232v1 n).1 (G232v1 n).2 a d f i j l m o p q s).ev some, fun a d f i j l m o p q s => D232v1_ok (G232v1 n).1 (G232v1 n).2 a d f i j l m o p q s⟩
noncomputable def F232v1 (n a : Nat) (d f i j l m o p q : Int) (s : LV) : Option A232v1 := (G232v1 n).1 a d f i j l m o p q s
theorem F232v1_ok (n a : Nat) (d f i j l m o p q : Int) (s : LV) : ∀ b, F232v1 n a d f i j l m o p q s = some b → UU 232 ([hS 0 a, V.agg [i64 d, i64 f], V.agg [i64 i, i64 j], V.agg [i64 l, i64 m], V.agg [i64 o, i64 p], i64 q]) ([oT 2 s]) = some (A232v1.out b) := (G232v1 n).2 a d f i j l m o p q s
theorem F232v1_succ (n a : Nat) (d f i j l m o p q : Int) (s : LV) : F232v1 (n + 1) a d f i j l m o p q s = (D232v1 (F232v1 n) (F232v1_ok n) a d f i j l m o p q s).ev some := rfl
/-! ## F232 -/
noncomputable def D232 (rF232 : Int → Int → Int → Int → Int → Int → Int → Int → Int → Option A232) (hF232 : ∀ (i j l m o p a d f : Int) (b : A232), rF232 i j l m o p a d f = some b → UU 232 ([V.nilS, V.agg [i64 i, i64 j], V.agg [i64 l, i64 m], V.agg [i64 o, i64 p], V.agg [i64 a, i64 d], i64 f]) ([]) = some (A232.out b)) (i j l m o p a d f : Int) : PT A232 :=
  .testB (f == 0)
   (fun h0 =>
   .auto 3 <|
   .ret (.a0 1 ([[i64 a, i64 d]]))
   )
   (fun h0 =>
   .auto 2 <|
   .ask E264 (F264_ok i j l m) fun (r : A264) => match r with
   | .a0 q s =>
    .auto 2 <|
    .ask E264 (F264_ok l m o p) fun (r : A264) => match r with
    | .a0 t u =>
     .auto 2 <|
     .ask E264 (F264_ok o p a d) fun (r : A264) => match r with
     | .a0 v w =>
      .auto 5 <|
      .ask E264 (F264_ok q s t u) fun (r : A264) => match r with
      | .a0 y z =>
       .auto 2 <|
       .ask E264 (F264_ok t u v w) fun (r : A264) => match r with
       | .a0 d0 d1 =>
        .auto 4 <|
        .ask E264 (F264_ok y z d0 d1) fun (r : A264) => match r with
        | .a0 d2 d3 =>
         .auto 5 <|
         .ask E232 (hF232 i j q s y z d2 d3 (w64 (f - 1))) fun (r : A232) => match r with
         | .a0 d4 d5 =>
          .auto 4 <|
          .ask E232v1 (F232v1_ok 100000 d4 d2 d3 d0 d1 v w a d (w64 (f - 1)) d5) fun (r : A232v1) => match r with
          | .a0 d6 d7 =>
           .ret (.a0 d6 d7)
   )
theorem D232_ok (rF232 : Int → Int → Int → Int → Int → Int → Int → Int → Int → Option A232) (hF232 : ∀ (a d f i j l m o p : Int) (b : A232), rF232 a d f i j l m o p = some b → UU 232 ([V.nilS, V.agg [i64 a, i64 d], V.agg [i64 f, i64 i], V.agg [i64 j, i64 l], V.agg [i64 m, i64 o], i64 p]) ([]) = some (A232.out b)) (a d f i j l m o p : Int) : ∀ b, (D232 rF232 hF232 a d f i j l m o p).ev some = some b → UU 232 ([V.nilS, V.agg [i64 a, i64 d], V.agg [i64 f, i64 i], V.agg [i64 j, i64 l], V.agg [i64 m, i64 o], i64 p]) ([]) = some (A232.out b) :=
  fn_ok (E := E232) (L := notIn []) rfl rfl (fun x => by kernel_rfl)
noncomputable def G232 : Nat → { r : Int → Int → Int → Int → Int → Int → Int → Int → Int → Option A232 // ∀ (a d f i j l m o p : Int) (b : A232), r a d f i j l m o p = some b → UU 232 ([V.nilS, V.agg [i64 a, i64 d], V.agg [i64 f, i64 i], V.agg [i64 j, i64 l], V.agg [i64 m, i64 o], i64 p]) ([]) = some (A232.out b) }
  | 0 => ⟨fun _ _ _ _ _ _ _ _ _ => none, fun _ _ _ _ _ _ _ _ _ _ h => by cases h⟩
  | n + 1 => ⟨fun a d f i j l m o p => (D232 (G232 n).1 (G232 n).2 a d f i j l m o p).ev some, fun a d f i j l m o p => D232_ok (G232 n).1 (G232 n).2 a d f i j l m o p⟩
noncomputable def F232 (n : Nat) (a d f i j l m o p : Int) : Option A232 := (G232 n).1 a d f i j l m o p
theorem F232_ok (n : Nat) (a d f i j l m o p : Int) : ∀ b, F232 n a d f i j l m o p = some b → UU 232 ([V.nilS, V.agg [i64 a, i64 d], V.agg [i64 f, i64 i], V.agg [i64 j, i64 l], V.agg [i64 m, i64 o], i64 p]) ([]) = some (A232.out b) := (G232 n).2 a d f i j l m o p
theorem F232_succ (n : Nat) (a d f i j l m o p : Int) : F232 (n + 1) a d f i j l m o p = (D232 (F232 n) (F232_ok n) a d f i j l m o p).ev some := rfl
/-! ## F192 -/
noncomputable def D192 (a d f i j l m o : Int) : PT A192 :=
  .auto 4 <|
  .ask E232 (F232_ok 100000 a d f i j l m o 3) fun (r : A232) => match r with
  | .a0 p q =>
   .ret (.a0 p q)
noncomputable def F192 (a d f i j l m o : Int) : Option A192 := (D192 a d f i j l m o).ev some
theorem F192_ok (a d f i j l m o : Int) : ∀ b, F192 a d f i j l m o = some b → UU 192 ([V.agg [i64 a, i64 d], V.agg [i64 f, i64 i], V.agg [i64 j, i64 l], V.agg [i64 m, i64 o]]) ([]) = some (A192.out b) :=
  fn_ok (E := E192) (L := notIn []) rfl rfl (fun x => by kernel_rfl)
/-! ## F138 -/
noncomputable abbrev B138 : Code := (Tryz.f138.body).getD .skip
inductive T138_r8s0 where
  | mk (a : Nat) (d : Int) (f : Bool) (i j : LV) (l m o p q s t u : Int)
@[reducible] def T138_r8s0.st : T138_r8s0 → S
  | .mk a d f i j l m o p q s t u => S.mk (U :: pT 0 :: pT 1 :: hS 2 a :: i64 d :: pT 3 :: pT 4 :: pT 5 :: pT 6 :: un 69 []) [oF 2 [[vb f, lS 2 i]], oF 2 [[vb false, hS 7 0]], oT 2 j, oF 2 [[i64 l, i64 m]], oF 2 [[i64 o, i64 p]], oF 2 [[i64 q, i64 s]], oF 2 [[i64 t, i64 u]], oT 2 []]
inductive T138_r8e0 where
  | mk (a : Nat) (d : Int) (f i : Bool) (j l : LV) (m o p q s t u v : Int)
inductive N138_r8 where
  | e0 (x : T138_r8e0)
@[reducible] def N138_r8.out : N138_r8 → VX × S
  | .e0 (.mk a d f i j l m o p q s t u v) => (vN, S.mk (U :: pT 0 :: pT 1 :: hS 2 a :: i64 d :: pT 3 :: pT 4 :: pT 5 :: pT 6 :: un 53 (vb f :: un 15 [])) [oF 2 [[vb i, lS 2 j]], oF 2 [[vb false, hS 7 0]], oT 2 l, oF 2 [[i64 m, i64 o]], oF 2 [[i64 p, i64 q]], oF 2 [[i64 s, i64 t]], oF 2 [[i64 u, i64 v]], oT 2 []])
abbrev E138_r8 : Ent (VX × S) := ⟨N138_r8, N138_r8.out, fun g => (∃ x, g (.e0 x)), fun g => ⟨fun h => match h with
  | ⟨_, h⟩ => ⟨_, h⟩, fun ⟨b, h⟩ => match b, h with
  | .e0 _, h => ⟨_, h⟩⟩⟩
noncomputable def D138_r8 : T138_r8s0 → PT N138_r8
  | .mk p q s t u a d f i j l m o =>
   .auto 2 <|
   .testB (f == a && (i == d && true))
    (fun h0 =>
    .auto 5 <|
    .ret (.e0 (.mk p q (j == m && (l == o && true)) s t u a d f i j l m o))
    )
    (fun h0 =>
    .auto 3 <|
    .ret (.e0 (.mk p q false s t u a d f i j l m o))
    )
noncomputable def J138_r8 (y : T138_r8s0) : Option N138_r8 := (D138_r8 y).ev some
theorem J138_r8_ok (y : T138_r8s0) : ∀ b, J138_r8 y = some b → regP Tryz.prog X CC 138 0 B138 8 y.st = some (E138_r8.out b) := by
  cases y; exact reg_ok (E := E138_r8) (fun x => by kernel_rfl)
inductive T138_0s0 where
  | mk (a : Nat) (d : Int) (f : Bool) (i j : LV)
inductive T138_0e0 where
  | mk (a : Nat) (d : Bool) (f i : LV)
inductive N138_0 where
  | s0 (x : T138_0s0)
  | e0 (x : T138_0e0)
@[reducible] def N138_0.out : N138_0 → VX × S
  | .s0 (.mk a d f i j) => (vN, S.mk (U :: pT 0 :: pT 1 :: hS 2 a :: i64 d :: un 73 []) [oF 2 [[vb f, lS 2 i]], oF 2 [[vb false, hS 3 0]], oT 2 j, oT 2 []])
  | .e0 (.mk l m o p) => (vX 0, S.mk (U :: pT 0 :: pT 1 :: hS 2 l :: un 74 []) [oF 2 [[vb m, lS 2 o]], oF 2 [[vb false, hS 3 0]], oT 2 p, oT 2 []])
abbrev E138_0 : Ent (VX × S) := ⟨N138_0, N138_0.out, fun g => (∃ x, g (.s0 x)) ∨ (∃ x, g (.e0 x)), fun g => ⟨fun h => match h with
  | .inl ⟨_, h⟩ => ⟨_, h⟩
  | .inr (⟨_, h⟩) => ⟨_, h⟩, fun ⟨b, h⟩ => match b, h with
  | .s0 _, h => .inl ⟨_, h⟩
  | .e0 _, h => .inr (⟨_, h⟩)⟩⟩
noncomputable def D138_0 : T138_0s0 → PT N138_0
  | .mk m a o f p =>
   .auto 1 <|
   .test (w64 (a + 3) < (↑(List.length f) : Int))
    (fun h0 =>
    .auto 1 <|
    .test (0 ≤ a)
     (fun h1 =>
     .look RW28 (f[Int.toNat a]?) fun q =>
     .auto 1 <|
     .test (0 ≤ w64 (a + 1))
      (fun h2 =>
      .look RW28 (f[Int.toNat (w64 (a + (1 : Int)))]?) fun s =>
      .auto 1 <|
      .test (0 ≤ w64 (a + 2))
       (fun h3 =>
       .look RW28 (f[Int.toNat (w64 (a + (2 : Int)))]?) fun t =>
       .auto 1 <|
       .test (0 ≤ w64 (a + 3))
        (fun h4 =>
        .look RW28 (f[Int.toNat (w64 (a + (3 : Int)))]?) fun u =>
        .auto 4 <|
        .cut E138_r8 (J138_r8_ok (.mk m a o f p q.c0 q.c1 s.c0 s.c1 t.c0 t.c1 u.c0 u.c1)) fun (r : N138_r8) => match r with
        | .e0 (.mk d v d1 w y l d2 d3 d4 d5 d6 d7 z d0) =>
         .testB d1
          (fun h5 =>
          .auto 2 <|
          .test (0 + d ≤ List.length l ∧ (d + 1) * 16 ≤ 140737488355328 ∧ d + 1 ≤ 140737488355328)
           (fun h6 =>
           .ret (.s0 (.mk (d + 1) (w64 (v + 3)) w y (List.take d l ++ [[i64 z, i64 d0]])))
           )
           (fun _ => .fail)
          )
          (fun h5 =>
          .auto 4 <|
          .ask E192 (F192_ok d2 d3 d4 d5 d6 d7 z d0) fun (r : A192) => match r with
          | .a0 i j =>
           .test (0 + i ≤ List.length j)
            (fun h6 =>
            .test (0 + d ≤ List.length l ∧ (d + List.length (List.take i j)) * 16 ≤ 140737488355328 ∧ d + List.length (List.take i j) ≤ 140737488355328)
             (fun h7 =>
             .ret (.s0 (.mk (d + List.length (List.take i j)) (w64 (v + 3)) w y (List.take d l ++ List.take i j)))
             )
             (fun _ => .fail)
            )
            (fun _ => .fail)
          )
        )
        (fun _ => .fail)
       )
       (fun _ => .fail)
      )
      (fun _ => .fail)
     )
     (fun _ => .fail)
    )
    (fun h0 =>
    .ret (.e0 (.mk m o f p))
    )
noncomputable def S138_0 : N138_0 → PT N138_0
  | .s0 x => D138_0 x
  | _ => .fail
def N138_0.off : N138_0 → Bool
  | .s0 _ => false
  | _ => true
noncomputable def L138_0 (n : Nat) (b : N138_0) : Option N138_0 := PT.loop S138_0 N138_0.off n b
theorem L138_0_ok : ∀ (n : Nat) (b : N138_0), N138_0.off b = false → ∀ c, L138_0 n b = some c → loopP Tryz.prog X CC 138 0 18446744073709551616 B138 0 n (E138_0.out b).2 = some (E138_0.out c) :=
  loop_ok (E := E138_0) (step := S138_0) (L := notIn []) (fun b hb => by cases b <;> first | (cases hb; done) | (rename_i x; cases x; intro x; kernel_rfl) | (intro x; kernel_rfl)) (fun b => by cases b <;> rfl)
noncomputable def N138_0.nx (n : Nat) (c : N138_0) : Option N138_0 := match N138_0.off c with
  | true => some c
  | false => L138_0 n c
theorem L138_0_s0 (n : Nat) (x : T138_0s0) : L138_0 (n + 1) (.s0 x) = (D138_0 x).ev (N138_0.nx n) := rfl
theorem N138_0.nx_s0 (n : Nat) (x : T138_0s0) : N138_0.nx n (.s0 x) = L138_0 n (.s0 x) := rfl
theorem N138_0.nx_e0 (n : Nat) (x : T138_0e0) : N138_0.nx n (.e0 x) = some (.e0 x) := rfl
inductive T138_r1s0 where
  | mk (a : Bool) (d : LV)
@[reducible] def T138_r1s0.st : T138_r1s0 → S
  | .mk a d => S.mk (U :: pT 0 :: pT 1 :: un 75 []) [oF 2 [[vb a, lS 2 d]], oF 2 [[vb false, hS 2 0]], oT 2 []]
inductive T138_r1e0 where
  | mk (a d : Bool) (f : LV)
inductive N138_r1 where
  | e0 (x : T138_r1e0)
@[reducible] def N138_r1.out : N138_r1 → VX × S
  | .e0 (.mk a d f) => (vN, S.mk (U :: pT 0 :: pT 1 :: un 12 (vb a :: un 62 [])) [oF 2 [[vb d, lS 2 f]], oF 2 [[vb false, hS 2 0]], oT 2 []])
abbrev E138_r1 : Ent (VX × S) := ⟨N138_r1, N138_r1.out, fun g => (∃ x, g (.e0 x)), fun g => ⟨fun h => match h with
  | ⟨_, h⟩ => ⟨_, h⟩, fun ⟨b, h⟩ => match b, h with
  | .e0 _, h => ⟨_, h⟩⟩⟩
noncomputable def D138_r1 : T138_r1s0 → PT N138_r1
  | .mk a d =>
   .auto 1 <|
   .tot O146 (F146_ok a d) fun f =>
   .testB f
    (fun h0 =>
    .auto 3 <|
    .ret (.e0 (.mk true a d))
    )
    (fun h0 =>
    .auto 2 <|
    .ask E177 (F177_ok a d) fun (r : A177) => match r with
    | .a0 i =>
     .auto 2 <|
     .ret (.e0 (.mk (!i) a d))
    )
noncomputable def J138_r1 (y : T138_r1s0) : Option N138_r1 := (D138_r1 y).ev some
theorem J138_r1_ok (y : T138_r1s0) : ∀ b, J138_r1 y = some b → regP Tryz.prog X CC 138 0 B138 1 y.st = some (E138_r1.out b) := by
  cases y; exact reg_ok (E := E138_r1) (fun x => by kernel_rfl)
noncomputable def D138 (i : Bool) (j : LV) : PT A138 :=
  .cut E138_r1 (J138_r1_ok (.mk i j)) fun (r : N138_r1) => match r with
  | .e0 (.mk l a d) =>
   .testB l
    (fun h0 =>
    .auto 2 <|
    .ret (.a0 a 0 ([]))
    )
    (fun h0 =>
    .auto 2 <|
    .look RW28 (d[(0 : Nat)]?) fun f =>
    .cut E138_0 (L138_0_ok 18446744073709551616 (.s0 (.mk 1 0 a d ([[i64 f.c0, i64 f.c1]]))) rfl) fun (r : N138_0) => match r with
    | .e0 (.mk m o q p) =>
     .auto 2 <|
     .ret (.a0 o m p)
    | _ => .fail
    )
noncomputable def F138 (a : Bool) (d : LV) : Option A138 := (D138 a d).ev some
theorem F138_ok (a : Bool) (d : LV) : ∀ b, F138 a d = some b → UU 138 ([V.agg [vb a, lS 2 d]]) ([]) = some (A138.out b) :=
  fn_ok (E := E138) (L := notIn []) rfl rfl (fun x => by kernel_rfl)
/-! ## F233 -/
noncomputable def D233 (d f i j l m o p q : Int) : PT A233 :=
  .tot O132 (F132_ok q) fun a =>
  .auto 5 <|
  .tot O74 (F74_ok (w64 (w64 d + Int.fdiv (w64 (w64 (w64 l - w64 d) * a)) 65536)) 0 255) fun s =>
  .auto 6 <|
  .tot O74 (F74_ok (w64 (w64 f + Int.fdiv (w64 (w64 (w64 m - w64 f) * a)) 65536)) 0 255) fun t =>
  .auto 6 <|
  .tot O74 (F74_ok (w64 (w64 i + Int.fdiv (w64 (w64 (w64 o - w64 i) * a)) 65536)) 0 255) fun u =>
  .auto 6 <|
  .tot O74 (F74_ok (w64 (w64 j + Int.fdiv (w64 (w64 (w64 p - w64 j) * a)) 65536)) 0 255) fun v =>
  .auto 4 <|
  .ret (.a0 (IntKind.wrap IntKind.u8 s) (IntKind.wrap IntKind.u8 t) (IntKind.wrap IntKind.u8 u) (IntKind.wrap IntKind.u8 v))
noncomputable def F233 (a d f i j l m o p : Int) : Option A233 := (D233 a d f i j l m o p).ev some
theorem F233_ok (a d f i j l m o p : Int) : ∀ b, F233 a d f i j l m o p = some b → UU 233 ([V.agg [u8 a, u8 d, u8 f, u8 i], V.agg [u8 j, u8 l, u8 m, u8 o], i64 p]) ([]) = some (A233.out b) :=
  fn_ok (E := E233) (L := notIn [0]) rfl rfl (fun x => by kernel_rfl)
/-! ## F193 -/
noncomputable abbrev B193 : Code := (Tryz.f193.body).getD .skip
inductive T193_0s0 where
  | mk (a : LV) (d f : Int)
inductive T193_0e0 where
  | mk (a : LV) (d f : Int)
inductive N193_0 where
  | s0 (x : T193_0s0)
  | e0 (x : T193_0e0)
@[reducible] def N193_0.out : N193_0 → VX × S
  | .s0 (.mk a d f) => (vN, S.mk (lS 10 a :: i64 d :: un 4 (pT 0 :: i64 f :: un 64 [])) [oF 4 [[u8 0, u8 0, u8 0, u8 0]]])
  | .e0 (.mk i j l) => (vX 0, S.mk (lS 10 i :: i64 j :: un 4 (pT 0 :: i64 l :: un 64 [])) [oF 4 [[u8 0, u8 0, u8 0, u8 0]]])
abbrev E193_0 : Ent (VX × S) := ⟨N193_0, N193_0.out, fun g => (∃ x, g (.s0 x)) ∨ (∃ x, g (.e0 x)), fun g => ⟨fun h => match h with
  | .inl ⟨_, h⟩ => ⟨_, h⟩
  | .inr (⟨_, h⟩) => ⟨_, h⟩, fun ⟨b, h⟩ => match b, h with
  | .s0 _, h => .inl ⟨_, h⟩
  | .e0 _, h => .inr (⟨_, h⟩)⟩⟩
noncomputable def D193_0 : T193_0s0 → PT N193_0
  | .mk d f a =>
   .test (a ≥ 0)
    (fun h0 =>
    .auto 2 <|
    .test (0 ≤ a)
     (fun h1 =>
     .look RW108 (d[Int.toNat a]?) fun i =>
     .auto 5 <|
     .test (i.c0 > f)
      (fun h2 =>
      .ret (.s0 (.mk d f (w64 (a - 1))))
      )
      (fun h2 =>
      .ret (.e0 (.mk d f a))
      )
     )
     (fun _ => .fail)
    )
    (fun h0 =>
    .auto 8 <|
    .ret (.e0 (.mk d f a))
    )
noncomputable def S193_0 : N193_0 → PT N193_0
  | .s0 x => D193_0 x
  | _ => .fail
def N193_0.off : N193_0 → Bool
  | .s0 _ => false
  | _ => true
noncomputable def L193_0 (n : Nat) (b : N193_0) : Option N193_0 := PT.loop S193_0 N193_0.off n b
theorem L193_0_ok : ∀ (n : Nat) (b : N193_0), N193_0.off b = false → ∀ c, L193_0 n b = some c → loopP Tryz.prog X CC 193 0 18446744073709551616 B193 0 n (E193_0.out b).2 = some (E193_0.out c) :=
  loop_ok (E := E193_0) (step := S193_0) (L := notIn []) (fun b hb => by cases b <;> first | (cases hb; done) | (rename_i x; cases x; intro x; kernel_rfl) | (intro x; kernel_rfl)) (fun b => by cases b <;> rfl)
noncomputable def N193_0.nx (n : Nat) (c : N193_0) : Option N193_0 := match N193_0.off c with
  | true => some c
  | false => L193_0 n c
theorem L193_0_s0 (n : Nat) (x : T193_0s0) : L193_0 (n + 1) (.s0 x) = (D193_0 x).ev (N193_0.nx n) := rfl
theorem N193_0.nx_s0 (n : Nat) (x : T193_0s0) : N193_0.nx n (.s0 x) = L193_0 n (.s0 x) := rfl
theorem N193_0.nx_e0 (n : Nat) (x : T193_0e0) : N193_0.nx n (.e0 x) = some (.e0 x) := rfl
noncomputable def D193 (m : LV) (o p q s t : Int) : PT A193 :=
  .testB ((↑(List.length m) : Int) == 0)
   (fun h0 =>
   .auto 2 <|
   .ret (.a0 p q s t)
   )
   (fun h0 =>
   .cut E193_0 (L193_0_ok 18446744073709551616 (.s0 (.mk m o (w64 ((↑(List.length m) : Int) - 1)))) rfl) fun (r : N193_0) => match r with
   | .e0 (.mk f u d) =>
    .testB (d == -1)
     (fun h1 =>
     .auto 1 <|
     .look RW108 (f[(0 : Nat)]?) fun j =>
     .auto 1 <|
     .ret (.a0 j.c1 j.c2 j.c3 j.c4)
     )
     (fun h1 =>
     .testB (d == w64 ((↑(List.length f) : Int) - 1))
      (fun h2 =>
      .test (0 ≤ d)
       (fun h3 =>
       .look RW108 (f[Int.toNat d]?) fun l =>
       .auto 1 <|
       .ret (.a0 l.c1 l.c2 l.c3 l.c4)
       )
       (fun _ => .fail)
      )
      (fun h2 =>
      .test (0 ≤ d)
       (fun h3 =>
       .look RW108 (f[Int.toNat d]?) fun a =>
       .test (0 ≤ w64 (d + 1))
        (fun h4 =>
        .look RW108 (f[Int.toNat (w64 (d + (1 : Int)))]?) fun i =>
        .auto 8 <|
        .ask E136 (F136_ok a.c0 i.c0 u) fun (r : A136) => match r with
        | .a0 v =>
         .ask E135 (F135_ok a.c5 a.c6 a.c7 a.c8 a.c9 v) fun (r : A135) => match r with
         | .a0 w =>
          .ask E233 (F233_ok a.c1 a.c2 a.c3 a.c4 i.c1 i.c2 i.c3 i.c4 w) fun (r : A233) => match r with
          | .a0 y z d0 d1 =>
           .auto 1 <|
           .ret (.a0 y z d0 d1)
        )
        (fun _ => .fail)
       )
       (fun _ => .fail)
      )
     )
   | _ => .fail
   )
noncomputable def F193 (a : LV) (d f i j l : Int) : Option A193 := (D193 a d f i j l).ev some
theorem F193_ok (a : LV) (d f i j l : Int) : ∀ b, F193 a d f i j l = some b → UU 193 ([lS 10 a, i64 d, V.agg [u8 f, u8 i, u8 j, u8 l]]) ([]) = some (A193.out b) :=
  fn_ok (E := E193) (L := notIn []) rfl rfl (fun x => by kernel_rfl)
/-! ## F241 -/
noncomputable def D241 (a : Int) : PT Int :=
  .tot O74 (F74_ok a (-536870912) 536870912) fun d =>
  .ret d
@[reducible] def O241 (a : Int) : V × Store := (i64 a, [])
noncomputable def F241 (a : Int) : Int := (D241 a).evT
theorem F241_ok (a : Int) : UU 241 ([i64 a]) ([]) = some (O241 (F241 a)) :=
  fnT_ok (out := O241) (L := notIn []) rfl rfl (fun x => by kernel_rfl) (by simp [D241, PT.isT])
/-! ## F198 -/
noncomputable def D198 (a : W59) (d f : Int) : PT A198 :=
  .auto 4 <|
  .ask E137 (F137_ok a.c0 d a.c2 f) fun (r : A137) => match r with
  | .a0 i =>
   .auto 1 <|
   .tot O131 (F131_ok i a.c4) fun j =>
   .tot O241 (F241_ok j) fun l =>
   .auto 4 <|
   .ask E137 (F137_ok a.c1 d a.c3 f) fun (r : A137) => match r with
   | .a0 m =>
    .auto 1 <|
    .tot O131 (F131_ok m a.c5) fun o =>
    .tot O241 (F241_ok o) fun p =>
    .auto 1 <|
    .ret (.a0 l p)
noncomputable def F198 (a : W59) (d f : Int) : Option A198 := (D198 a d f).ev some
theorem F198_ok (a : W59) (d f : Int) : ∀ b, F198 a d f = some b → UU 198 ([V.agg (W59.cells a), V.agg [i64 d, i64 f]]) ([]) = some (A198.out b) :=
  fn_ok (E := E198) (L := notIn []) rfl rfl (fun x => by kernel_rfl)
/-! ## F147 -/
noncomputable abbrev B147 : Code := (Tryz.f147.body).getD .skip
inductive T147_2s0 where
  | mk (a : Nat) (d : LV) (f i : Int) (j : LV) (l m : Int) (o : W59) (p : LV) (q : Bool) (s : Nat) (t : LV)
inductive T147_2e0 where
  | mk (a : Nat) (d : LV) (f i : Int) (j : W59) (l : LV) (m : Bool) (o : Nat) (p : LV)
inductive N147_2 where
  | s0 (x : T147_2s0)
  | e0 (x : T147_2e0)
@[reducible] def N147_2.out : N147_2 → VX × S
  | .s0 (.mk a d f i j l m o p q s t) => (vN, S.mk (U :: U :: pT 0 :: U :: U :: hS 1 a :: U :: U :: pT 2 :: U :: U :: lS 2 d :: i64 f :: i64 i :: un 7 (lS 2 j :: i64 l :: i64 m :: un 18 [])) [oF 6 [W59.cells o], oT 2 p, oF 2 [[vb q, hS 3 s]], oT 2 t])
  | .e0 (.mk u v w y z d0 d1 d2 d3) => (vX 2, S.mk (U :: U :: pT 0 :: U :: U :: hS 1 u :: U :: U :: pT 2 :: U :: U :: lS 2 v :: i64 w :: i64 y :: un 28 []) [oF 6 [W59.cells z], oT 2 d0, oF 2 [[vb d1, hS 3 d2]], oT 2 d3])
abbrev E147_2 : Ent (VX × S) := ⟨N147_2, N147_2.out, fun g => (∃ x, g (.s0 x)) ∨ (∃ x, g (.e0 x)), fun g => ⟨fun h => match h with
  | .inl ⟨_, h⟩ => ⟨_, h⟩
  | .inr (⟨_, h⟩) => ⟨_, h⟩, fun ⟨b, h⟩ => match b, h with
  | .s0 _, h => .inl ⟨_, h⟩
  | .e0 _, h => .inr (⟨_, h⟩)⟩⟩
noncomputable def D147_2 : T147_2s0 → PT N147_2
  | .mk j l m o p q d f s t a i =>
   .test (d < q)
    (fun h0 =>
    .test (0 ≤ d)
     (fun h1 =>
     .look RW28 (p[Int.toNat d]?) fun u =>
     .auto 4 <|
     .ask E198 (F198_ok f u.c0 u.c1) fun (r : A198) => match r with
     | .a0 v w =>
      .auto 1 <|
      .test (0 + a ≤ List.length i ∧ (a + 1) * 16 ≤ 140737488355328 ∧ a + 1 ≤ 140737488355328)
       (fun h2 =>
       .auto 1 <|
       .ret (.s0 (.mk j l m o p q (w64 (d + 1)) f s t (a + 1) (List.take a i ++ [[i64 v, i64 w]])))
       )
       (fun _ => .fail)
     )
     (fun _ => .fail)
    )
    (fun h0 =>
    .ret (.e0 (.mk j l m o f s t a i))
    )
noncomputable def S147_2 : N147_2 → PT N147_2
  | .s0 x => D147_2 x
  | _ => .fail
def N147_2.off : N147_2 → Bool
  | .s0 _ => false
  | _ => true
noncomputable def L147_2 (n : Nat) (b : N147_2) : Option N147_2 := PT.loop S147_2 N147_2.off n b
theorem L147_2_ok : ∀ (n : Nat) (b : N147_2), N147_2.off b = false → ∀ c, L147_2 n b = some c → loopP Tryz.prog X CC 147 0 18446744073709551616 B147 2 n (E147_2.out b).2 = some (E147_2.out c) :=
  loop_ok (E := E147_2) (step := S147_2) (L := notIn []) (fun b hb => by cases b <;> first | (cases hb; done) | (rename_i x; cases x; intro x; kernel_rfl) | (intro x; kernel_rfl)) (fun b => by cases b <;> rfl)
noncomputable def N147_2.nx (n : Nat) (c : N147_2) : Option N147_2 := match N147_2.off c with
  | true => some c
  | false => L147_2 n c
theorem L147_2_s0 (n : Nat) (x : T147_2s0) : L147_2 (n + 1) (.s0 x) = (D147_2 x).ev (N147_2.nx n) := rfl
theorem N147_2.nx_s0 (n : Nat) (x : T147_2s0) : N147_2.nx n (.s0 x) = L147_2 n (.s0 x) := rfl
theorem N147_2.nx_e0 (n : Nat) (x : T147_2e0) : N147_2.nx n (.e0 x) = some (.e0 x) := rfl
inductive T147_0s0 where
  | mk (a : Nat) (d : LV) (f i : Int) (j : W59) (l : LV)
inductive T147_0e0 where
  | mk (a : Nat) (d : LV)
inductive N147_0 where
  | s0 (x : T147_0s0)
  | e0 (x : T147_0e0)
@[reducible] def N147_0.out : N147_0 → VX × S
  | .s0 (.mk a d f i j l) => (vN, S.mk (U :: U :: pT 0 :: U :: U :: hS 1 a :: un 5 (lS 2 d :: i64 f :: i64 i :: un 28 [])) [oF 6 [W59.cells j], oT 2 l])
  | .e0 (.mk m o) => (vX 0, S.mk (un 5 (hS 0 m :: un 36 [])) [oT 2 o])
abbrev E147_0 : Ent (VX × S) := ⟨N147_0, N147_0.out, fun g => (∃ x, g (.s0 x)) ∨ (∃ x, g (.e0 x)), fun g => ⟨fun h => match h with
  | .inl ⟨_, h⟩ => ⟨_, h⟩
  | .inr (⟨_, h⟩) => ⟨_, h⟩, fun ⟨b, h⟩ => match b, h with
  | .s0 _, h => .inl ⟨_, h⟩
  | .e0 _, h => .inr (⟨_, h⟩)⟩⟩
noncomputable def D147_0 : T147_0s0 → PT N147_0
  | .mk i j l d s m =>
   .test (d < l)
    (fun h0 =>
    .test (0 ≤ d)
     (fun h1 =>
     .look RW88 (j[Int.toNat d]?) fun f =>
     .auto 4 <|
     .cut E147_2 (L147_2_ok 18446744073709551616 (.s0 (.mk i j l d f.c1 ((↑(List.length f.c1) : Int)) 0 s m f.c0 0 ([]))) rfl) fun (r : N147_2) => match r with
     | .e0 (.mk a t u v w o y p q) =>
      .auto 1 <|
      .test (0 + p ≤ List.length q)
       (fun h2 =>
       .auto 1 <|
       .test (0 + a ≤ List.length o ∧ (a + 1) * 32 ≤ 140737488355328 ∧ a + 1 ≤ 140737488355328)
        (fun h3 =>
        .ret (.s0 (.mk (a + 1) t u (w64 (v + 1)) w (List.take a o ++ [[vb y, lS 2 (List.take p q)]])))
        )
        (fun _ => .fail)
       )
       (fun _ => .fail)
     | _ => .fail
     )
     (fun _ => .fail)
    )
    (fun h0 =>
    .ret (.e0 (.mk i m))
    )
noncomputable def S147_0 : N147_0 → PT N147_0
  | .s0 x => D147_0 x
  | _ => .fail
def N147_0.off : N147_0 → Bool
  | .s0 _ => false
  | _ => true
noncomputable def L147_0 (n : Nat) (b : N147_0) : Option N147_0 := PT.loop S147_0 N147_0.off n b
theorem L147_0_ok : ∀ (n : Nat) (b : N147_0), N147_0.off b = false → ∀ c, L147_0 n b = some c → loopP Tryz.prog X CC 147 0 18446744073709551616 B147 0 n (E147_0.out b).2 = some (E147_0.out c) :=
  loop_ok (E := E147_0) (step := S147_0) (L := notIn []) (fun b hb => by cases b <;> first | (cases hb; done) | (rename_i x; cases x; intro x; kernel_rfl) | (intro x; kernel_rfl)) (fun b => by cases b <;> rfl)
noncomputable def N147_0.nx (n : Nat) (c : N147_0) : Option N147_0 := match N147_0.off c with
  | true => some c
  | false => L147_0 n c
theorem L147_0_s0 (n : Nat) (x : T147_0s0) : L147_0 (n + 1) (.s0 x) = (D147_0 x).ev (N147_0.nx n) := rfl
theorem N147_0.nx_s0 (n : Nat) (x : T147_0s0) : N147_0.nx n (.s0 x) = L147_0 n (.s0 x) := rfl
theorem N147_0.nx_e0 (n : Nat) (x : T147_0e0) : N147_0.nx n (.e0 x) = some (.e0 x) := rfl
noncomputable def D147 (d : W59) (a : LV) : PT A147 :=
  .cut E147_0 (L147_0_ok 18446744073709551616 (.s0 (.mk 0 a ((↑(List.length a) : Int)) 0 d ([]))) rfl) fun (r : N147_0) => match r with
  | .e0 (.mk f i) =>
   .ret (.a0 f i)
  | _ => .fail
noncomputable def F147 (a : W59) (d : LV) : Option A147 := (D147 a d).ev some
theorem F147_ok (a : W59) (d : LV) : ∀ b, F147 a d = some b → UU 147 ([V.agg (W59.cells a), lS 2 d]) ([]) = some (A147.out b) :=
  fn_ok (E := E147) (L := notIn []) rfl rfl (fun x => by kernel_rfl)
/-! ## F284 -/
noncomputable abbrev B284 : Code := (Tryz.f284.body).getD .skip
inductive T284_0s0 where
  | mk (a d f : Int)
inductive T284_0e0 where
  | mk (a : Int)
inductive N284_0 where
  | s0 (x : T284_0s0)
  | e0 (x : T284_0e0)
@[reducible] def N284_0.out : N284_0 → VX × S
  | .s0 (.mk a d f) => (vN, S.mk (V.int IntKind.u64 a :: U :: U :: V.int IntKind.u64 d :: V.int IntKind.u64 f :: un 16 []) [])
  | .e0 (.mk i) => (vX 0, S.mk (U :: U :: U :: V.int IntKind.u64 i :: un 17 []) [])
abbrev E284_0 : Ent (VX × S) := ⟨N284_0, N284_0.out, fun g => (∃ x, g (.s0 x)) ∨ (∃ x, g (.e0 x)), fun g => ⟨fun h => match h with
  | .inl ⟨_, h⟩ => ⟨_, h⟩
  | .inr (⟨_, h⟩) => ⟨_, h⟩, fun ⟨b, h⟩ => match b, h with
  | .s0 _, h => .inl ⟨_, h⟩
  | .e0 _, h => .inr (⟨_, h⟩)⟩⟩
noncomputable def D284_0 : T284_0s0 → PT N284_0
  | .mk f d a =>
   .test (a > 0)
    (fun h0 =>
    .test (IntKind.wrap IntKind.u64 (IntKind.wrap IntKind.u64 (↑(BitVec.toNat (BitVec.ofInt (IntKind.bits IntKind.u64) d ||| BitVec.ofInt (IntKind.bits IntKind.u64) a)) : Int) * IntKind.wrap IntKind.u64 (↑(BitVec.toNat (BitVec.ofInt (IntKind.bits IntKind.u64) d ||| BitVec.ofInt (IntKind.bits IntKind.u64) a)) : Int)) ≤ f)
     (fun h1 =>
     .auto 1 <|
     .ret (.s0 (.mk f (IntKind.wrap IntKind.u64 (↑(BitVec.toNat (BitVec.ofInt (IntKind.bits IntKind.u64) d ||| BitVec.ofInt (IntKind.bits IntKind.u64) a)) : Int)) (Int.fdiv a 2)))
     )
     (fun h1 =>
     .auto 1 <|
     .ret (.s0 (.mk f d (Int.fdiv a 2)))
     )
    )
    (fun h0 =>
    .ret (.e0 (.mk d))
    )
noncomputable def S284_0 : N284_0 → PT N284_0
  | .s0 x => D284_0 x
  | _ => .fail
def N284_0.off : N284_0 → Bool
  | .s0 _ => false
  | _ => true
noncomputable def L284_0 (n : Nat) (b : N284_0) : Option N284_0 := PT.loop S284_0 N284_0.off n b
theorem L284_0_ok : ∀ (n : Nat) (b : N284_0), N284_0.off b = false → ∀ c, L284_0 n b = some c → loopP Tryz.prog X CC 284 0 18446744073709551616 B284 0 n (E284_0.out b).2 = some (E284_0.out c) :=
  loop_ok (E := E284_0) (step := S284_0) (L := notIn []) (fun b hb => by cases b <;> first | (cases hb; done) | (rename_i x; cases x; intro x; kernel_rfl) | (intro x; kernel_rfl)) (fun b => by cases b <;> rfl)
noncomputable def N284_0.nx (n : Nat) (c : N284_0) : Option N284_0 := match N284_0.off c with
  | true => some c
  | false => L284_0 n c
theorem L284_0_s0 (n : Nat) (x : T284_0s0) : L284_0 (n + 1) (.s0 x) = (D284_0 x).ev (N284_0.nx n) := rfl
theorem N284_0.nx_s0 (n : Nat) (x : T284_0s0) : N284_0.nx n (.s0 x) = L284_0 n (.s0 x) := rfl
theorem N284_0.nx_e0 (n : Nat) (x : T284_0e0) : N284_0.nx n (.e0 x) = some (.e0 x) := rfl
noncomputable def D284 (a : Int) : PT A284 :=
  .cut E284_0 (L284_0_ok 18446744073709551616 (.s0 (.mk a 0 2147483648)) rfl) fun (r : N284_0) => match r with
  | .e0 (.mk d) =>
   .ret (.a0 (w64 d))
  | _ => .fail
noncomputable def F284 (a : Int) : Option A284 := (D284 a).ev some
theorem F284_ok (a : Int) : ∀ b, F284 a = some b → UU 284 ([V.int IntKind.u64 a]) ([]) = some (A284.out b) :=
  fn_ok (E := E284) (L := notIn []) rfl rfl (fun x => by kernel_rfl)
/-! ## F265 -/
noncomputable def D265 (f i : Int) : PT A265 :=
  .tot O74 (F74_ok f (-1073741824) 1073741824) fun a =>
  .tot O74 (F74_ok i (-1073741824) 1073741824) fun d =>
  .ask E284 (F284_ok (IntKind.wrap IntKind.u64 (w64 (w64 (a * a) + w64 (d * d))))) fun (r : A284) => match r with
  | .a0 j =>
   .tot O132 (F132_ok j) fun l =>
   .ret (.a0 l)
noncomputable def F265 (a d : Int) : Option A265 := (D265 a d).ev some
theorem F265_ok (a d : Int) : ∀ b, F265 a d = some b → UU 265 ([i64 a, i64 d]) ([]) = some (A265.out b) :=
  fn_ok (E := E265) (L := notIn []) rfl rfl (fun x => by kernel_rfl)
/-! ## F234 -/
noncomputable def D234 (a : W59) : PT A234 :=
  .auto 2 <|
  .ask E265 (F265_ok a.c0 a.c1) fun (r : A265) => match r with
  | .a0 d =>
   .ret (.a0 d)
noncomputable def F234 (a : W59) : Option A234 := (D234 a).ev some
theorem F234_ok (a : W59) : ∀ b, F234 a = some b → UU 234 ([V.agg (W59.cells a)]) ([]) = some (A234.out b) :=
  fn_ok (E := E234) (L := notIn []) rfl rfl (fun x => by kernel_rfl)
/-! ## F194 -/
noncomputable def D194 (a : W59) (d f i j l m o p q s t u v w : Int) : PT A194 :=
  .auto 2 <|
  .ask E198 (F198_ok a s t) fun (r : A198) => match r with
  | .a0 y z =>
   .auto 2 <|
   .ask E198 (F198_ok a u v) fun (r : A198) => match r with
   | .a0 d0 d1 =>
    .auto 2 <|
    .ask E234 (F234_ok a) fun (r : A234) => match r with
    | .a0 d2 =>
     .ask E125 (F125_ok w d2) fun (r : A125) => match r with
     | .a0 d3 =>
      .auto 5 <|
      .ret (.a0 d f i j l m o p q y z d0 d1 d3)
noncomputable def F194 (a : W59) (d f i j l m o p q s t u v w : Int) : Option A194 := (D194 a d f i j l m o p q s t u v w).ev some
theorem F194_ok (a : W59) (d f i j l m o p q s t u v w : Int) : ∀ b, F194 a d f i j l m o p q s t u v w = some b → UU 194 ([V.agg (W59.cells a), V.agg [i64 d, u8 f, u8 i, u8 j, u8 l, u8 m, u8 o, u8 p, u8 q, i64 s, i64 t, i64 u, i64 v, i64 w]]) ([]) = some (A194.out b) :=
  fn_ok (E := E194) (L := notIn []) rfl rfl (fun x => by kernel_rfl)
/-! ## F139 -/
noncomputable def D139 (j3 j4 : Int) (j5 j6 j7 : LV) (j8 : Bool) (d f i j l m o p q s t u v w y : Int) (z : LV) (j9 : Bool) (l0 : LV) (l1 l2 l3 l4 l5 : Int) (l6 l7 l8 : LV) (d0 : Int) (a : W59) (d1 : Int) (d2 : LV) : PT A139 :=
  .auto 4 <|
  .ask E193 (F193_ok z d0 i j l m) fun (r : A193) => match r with
  | .a0 d3 d4 d5 d6 =>
   .auto 2 <|
   .ask E147 (F147_ok a d2) fun (r : A147) => match r with
   | .a0 d7 d8 =>
    .auto 3 <|
    .ask E194 (F194_ok a f d3 d4 d5 d6 o p q s t u v w y) fun (r : A194) => match r with
    | .a0 d9 f0 f1 f2 f3 f4 f5 f6 f7 f8 f9 j0 j1 j2 =>
     .auto 1 <|
     .ret (.a0 d7 d d9 f0 f1 f2 f3 f4 f5 f6 f7 f8 f9 j0 j1 j2 d1 d8)
noncomputable def F139 (a d : Int) (f i j : LV) (l : Bool) (m o p q s t u v w y z d0 d1 d2 d3 : Int) (d4 : LV) (d5 : Bool) (d6 : LV) (d7 d8 d9 f0 f1 : Int) (f2 f3 f4 : LV) (f5 : Int) (f6 : W59) (f7 : Int) (f8 : LV) : Option A139 := (D139 a d f i j l m o p q s t u v w y z d0 d1 d2 d3 d4 d5 d6 d7 d8 d9 f0 f1 f2 f3 f4 f5 f6 f7 f8).ev some
theorem F139_ok (a d : Int) (f i j : LV) (l : Bool) (m o p q s t u v w y z d0 d1 d2 d3 : Int) (d4 : LV) (d5 : Bool) (d6 : LV) (d7 d8 d9 f0 f1 : Int) (f2 f3 f4 : LV) (f5 : Int) (f6 : W59) (f7 : Int) (f8 : LV) : ∀ b, F139 a d f i j l m o p q s t u v w y z d0 d1 d2 d3 d4 d5 d6 d7 d8 d9 f0 f1 f2 f3 f4 f5 f6 f7 f8 = some b → UU 139 ([V.agg [i64 a, i64 d, lS 7 f, lS 7 i, lS 8 j, vb l, i64 m, i64 o, u8 p, u8 q, u8 s, u8 t, u8 u, u8 v, u8 w, u8 y, i64 z, i64 d0, i64 d1, i64 d2, i64 d3, lS 10 d4, vb d5, lS 7 d6, u8 d7, u8 d8, u8 d9, u8 f0, i64 f1, lS 1 f2, lS 7 f3, lS 7 f4], i64 f5, V.agg (W59.cells f6), i64 f7, lS 2 f8]) ([]) = some (A139.out b) :=
  fn_ok (E := E139) (L := notIn []) rfl rfl (fun x => by kernel_rfl)
/-! ## F235 -/
noncomputable def D235 (f i : Int) : PT A235 :=
  .tot O74 (F74_ok f 0 65536) fun a =>
  .tot O74 (F74_ok i 0 65536) fun d =>
  .ret (.a0 (if d < a then d else a) (if d > a then d else a))
noncomputable def F235 (a d : Int) : Option A235 := (D235 a d).ev some
theorem F235_ok (a d : Int) : ∀ b, F235 a d = some b → UU 235 ([i64 a, i64 d]) ([]) = some (A235.out b) :=
  fn_ok (E := E235) (L := notIn []) rfl rfl (fun x => by kernel_rfl)
/-! ## F266 -/
noncomputable def D266 (d : Bool) (a : LV) : PT Int :=
  .auto 2 <|
  .testB d
   (fun h0 =>
   .auto 2 <|
   .test ((↑(List.length a) : Int) ≥ 2)
    (fun h1 =>
    .ret ((↑(List.length a) : Int))
    )
    (fun h1 =>
    .ret (if w64 ((↑(List.length a) : Int) - 1) > 0 then w64 ((↑(List.length a) : Int) - 1) else 0)
    )
   )
   (fun h0 =>
   .auto 3 <|
   .ret (if w64 ((↑(List.length a) : Int) - 1) > 0 then w64 ((↑(List.length a) : Int) - 1) else 0)
   )
@[reducible] def O266 (a : Int) : V × Store := (i64 a, [])
noncomputable def F266 (a : Bool) (d : LV) : Int := (D266 a d).evT
theorem F266_ok (a : Bool) (d : LV) : UU 266 ([V.agg [vb a, lS 2 d]]) ([]) = some (O266 (F266 a d)) :=
  fnT_ok (out := O266) (L := notIn []) rfl rfl (fun x => by kernel_rfl) (by simp [D266, PT.isT])
/-! ## F285 -/
noncomputable def D285 (a d : Int) : PT A285 :=
  .auto 1 <|
  .tot O241 (F241_ok a) fun f =>
  .auto 1 <|
  .tot O241 (F241_ok d) fun i =>
  .auto 1 <|
  .ret (.a0 f i)
noncomputable def F285 (a d : Int) : Option A285 := (D285 a d).ev some
theorem F285_ok (a d : Int) : ∀ b, F285 a d = some b → UU 285 ([V.agg [i64 a, i64 d]]) ([]) = some (A285.out b) :=
  fn_ok (E := E285) (L := notIn []) rfl rfl (fun x => by kernel_rfl)
/-! ## F267 -/
noncomputable def D267 (q : Bool) (a : LV) (d : Int) : PT A267 :=
  .auto 1 <|
  .test (0 ≤ d)
   (fun h0 =>
   .look RW28 (a[Int.toNat d]?) fun f =>
   .ask E285 (F285_ok f.c0 f.c1) fun (r : A285) => match r with
   | .a0 i j =>
    .auto 2 <|
    .test ((↑(List.length a) : Int) = 0)
     (fun _ => .fail)
     (fun h1 =>
     .test (0 ≤ Int.tmod (w64 (d + 1)) (↑(List.length a) : Int))
      (fun h2 =>
      .look RW28 (a[Int.toNat (Int.tmod (w64 (d + (1 : Int))) (↑(List.length a) : Int))]?) fun l =>
      .ask E285 (F285_ok l.c0 l.c1) fun (r : A285) => match r with
      | .a0 m o =>
       .auto 8 <|
       .ask E265 (F265_ok (w64 (m - i)) (w64 (o - j))) fun (r : A265) => match r with
       | .a0 p =>
        .auto 2 <|
        .ret (.a0 i j m o p)
      )
      (fun _ => .fail)
     )
   )
   (fun _ => .fail)
noncomputable def F267 (a : Bool) (d : LV) (f : Int) : Option A267 := (D267 a d f).ev some
theorem F267_ok (a : Bool) (d : LV) (f : Int) : ∀ b, F267 a d f = some b → UU 267 ([V.agg [vb a, lS 2 d], i64 f]) ([]) = some (A267.out b) :=
  fn_ok (E := E267) (L := notIn []) rfl rfl (fun x => by kernel_rfl)
/-! ## F236 -/
noncomputable abbrev B236 : Code := (Tryz.f236.body).getD .skip
inductive T236_0s0 where
  | mk (a d f : Int) (i : Bool) (j : LV)
inductive T236_0e0 where
  | mk (a : Int)
inductive N236_0 where
  | s0 (x : T236_0s0)
  | e0 (x : T236_0e0)
@[reducible] def N236_0.out : N236_0 → VX × S
  | .s0 (.mk a d f i j) => (vN, S.mk (U :: pT 0 :: U :: i64 a :: un 5 (i64 d :: i64 f :: un 14 [])) [oF 2 [[vb i, lS 2 j]]])
  | .e0 (.mk l) => (vX 0, S.mk (U :: U :: U :: i64 l :: un 21 []) [])
abbrev E236_0 : Ent (VX × S) := ⟨N236_0, N236_0.out, fun g => (∃ x, g (.s0 x)) ∨ (∃ x, g (.e0 x)), fun g => ⟨fun h => match h with
  | .inl ⟨_, h⟩ => ⟨_, h⟩
  | .inr (⟨_, h⟩) => ⟨_, h⟩, fun ⟨b, h⟩ => match b, h with
  | .s0 _, h => .inl ⟨_, h⟩
  | .e0 _, h => .inr (⟨_, h⟩)⟩⟩
noncomputable def D236_0 : T236_0s0 → PT N236_0
  | .mk d f a i j =>
   .test (a < f)
    (fun h0 =>
    .auto 1 <|
    .ask E267 (F267_ok i j a) fun (r : A267) => match r with
    | .a0 o p q s l =>
     .auto 2 <|
     .tot O131 (F131_ok d l) fun m =>
     .ret (.s0 (.mk m f (w64 (a + 1)) i j))
    )
    (fun h0 =>
    .ret (.e0 (.mk d))
    )
noncomputable def S236_0 : N236_0 → PT N236_0
  | .s0 x => D236_0 x
  | _ => .fail
def N236_0.off : N236_0 → Bool
  | .s0 _ => false
  | _ => true
noncomputable def L236_0 (n : Nat) (b : N236_0) : Option N236_0 := PT.loop S236_0 N236_0.off n b
theorem L236_0_ok : ∀ (n : Nat) (b : N236_0), N236_0.off b = false → ∀ c, L236_0 n b = some c → loopP Tryz.prog X CC 236 0 18446744073709551616 B236 0 n (E236_0.out b).2 = some (E236_0.out c) :=
  loop_ok (E := E236_0) (step := S236_0) (L := notIn []) (fun b hb => by cases b <;> first | (cases hb; done) | (rename_i x; cases x; intro x; kernel_rfl) | (intro x; kernel_rfl)) (fun b => by cases b <;> rfl)
noncomputable def N236_0.nx (n : Nat) (c : N236_0) : Option N236_0 := match N236_0.off c with
  | true => some c
  | false => L236_0 n c
theorem L236_0_s0 (n : Nat) (x : T236_0s0) : L236_0 (n + 1) (.s0 x) = (D236_0 x).ev (N236_0.nx n) := rfl
theorem N236_0.nx_s0 (n : Nat) (x : T236_0s0) : N236_0.nx n (.s0 x) = L236_0 n (.s0 x) := rfl
theorem N236_0.nx_e0 (n : Nat) (x : T236_0e0) : N236_0.nx n (.e0 x) = some (.e0 x) := rfl
noncomputable def D236 (a : Bool) (d : LV) : PT A236 :=
  .auto 1 <|
  .tot O266 (F266_ok a d) fun f =>
  .cut E236_0 (L236_0_ok 18446744073709551616 (.s0 (.mk 0 f 0 a d)) rfl) fun (r : N236_0) => match r with
  | .e0 (.mk i) =>
   .ret (.a0 i)
  | _ => .fail
noncomputable def F236 (a : Bool) (d : LV) : Option A236 := (D236 a d).ev some
theorem F236_ok (a : Bool) (d : LV) : ∀ b, F236 a d = some b → UU 236 ([V.agg [vb a, lS 2 d]]) ([]) = some (A236.out b) :=
  fn_ok (E := E236) (L := notIn []) rfl rfl (fun x => by kernel_rfl)
/-! ## F269 -/
noncomputable def D269 (f i : Int) : PT A269 :=
  .tot O132 (F132_ok f) fun d =>
  .auto 1 <|
  .tot O132 (F132_ok i) fun a =>
  .testB (a == 0)
   (fun h0 =>
   .ret (.a0 0)
   )
   (fun h0 =>
   .test (a = 0)
    (fun _ => .fail)
    (fun h1 =>
    .known (decide_eq_false h1) <|
    .testB (Int.tmod (w64 (d * 65536)) a != 0)
     (fun h2 =>
     .auto 5 <|
     .testB (!decide (w64 (d * 65536) < 0) == decide (a < 0))
      (fun h3 =>
      .tot O132 (F132_ok (w64 (w64 (Int.tdiv (w64 (d * 65536)) a) - 1))) fun j =>
      .ret (.a0 j)
      )
      (fun h3 =>
      .tot O132 (F132_ok (w64 (Int.tdiv (w64 (d * 65536)) a))) fun l =>
      .ret (.a0 l)
      )
     )
     (fun h2 =>
     .auto 6 <|
     .tot O132 (F132_ok (w64 (Int.tdiv (w64 (d * 65536)) a))) fun m =>
     .ret (.a0 m)
     )
    )
   )
noncomputable def F269 (a d : Int) : Option A269 := (D269 a d).ev some
theorem F269_ok (a d : Int) : ∀ b, F269 a d = some b → UU 269 ([i64 a, i64 d]) ([]) = some (A269.out b) :=
  fn_ok (E := E269) (L := notIn []) rfl rfl (fun x => by kernel_rfl)
/-! ## F268 -/
noncomputable def D268 (o p q s a d : Int) : PT A268 :=
  .auto 1 <|
  .ask E285 (F285_ok o p) fun (r : A285) => match r with
  | .a0 f i =>
   .auto 1 <|
   .ask E285 (F285_ok q s) fun (r : A285) => match r with
   | .a0 j l =>
    .auto 2 <|
    .test (a ≤ 0)
     (fun h0 =>
     .auto 2 <|
     .ret (.a0 f i)
     )
     (fun h0 =>
     .test (a ≥ d)
      (fun h1 =>
      .auto 2 <|
      .ret (.a0 j l)
      )
      (fun h1 =>
      .ask E269 (F269_ok a d) fun (r : A269) => match r with
      | .a0 m =>
       .auto 2 <|
       .ask E134 (F134_ok f j m) fun (r : A134) => match r with
       | .a0 t =>
        .auto 2 <|
        .ask E134 (F134_ok i l m) fun (r : A134) => match r with
        | .a0 u =>
         .auto 1 <|
         .ret (.a0 t u)
      )
     )
noncomputable def F268 (a d f i j l : Int) : Option A268 := (D268 a d f i j l).ev some
theorem F268_ok (a d f i j l : Int) : ∀ b, F268 a d f i j l = some b → UU 268 ([V.agg [i64 a, i64 d], V.agg [i64 f, i64 i], i64 j, i64 l]) ([]) = some (A268.out b) :=
  fn_ok (E := E268) (L := notIn []) rfl rfl (fun x => by kernel_rfl)
/-! ## F237 -/
noncomputable abbrev B237 : Code := (Tryz.f237.body).getD .skip
inductive T237_c50s0 where
  | mk (a d f i j l : Int) (m o : Bool) (p : LV) (q : Nat) (s t u v : Int) (w : LV)
@[reducible] def T237_c50s0.st : T237_c50s0 → S
  | .mk a d f i j l m o p q s t u v w => S.mk (U :: i64 a :: i64 d :: pT 0 :: U :: U :: pT 1 :: pT 2 :: i64 f :: U :: pT 3 :: pT 4 :: i64 i :: un 9 (i64 j :: i64 l :: un 26 (vb m :: un 29 []))) [oF 2 [[vb o, lS 2 p]], oF 2 [[vb false, hS 5 0]], oF 2 [[vb false, hS 6 q]], oF 2 [[i64 s, i64 t]], oF 2 [[i64 u, i64 v]], oT 2 [], oT 2 w]
inductive T237_c50e0 where
  | mk (a d f i j l : Int) (m : Bool) (o : LV) (p : Nat) (q s t u : Int) (v : LV)
inductive N237_c50 where
  | e0 (x : T237_c50e0)
@[reducible] def N237_c50.out : N237_c50 → VX × S
  | .e0 (.mk a d f i j l m o p q s t u v) => (vN, S.mk (U :: i64 a :: i64 d :: pT 0 :: U :: U :: pT 1 :: pT 2 :: i64 f :: U :: pT 3 :: pT 4 :: i64 i :: un 9 (i64 j :: i64 l :: un 56 [])) [oF 2 [[vb m, lS 2 o]], oF 2 [[vb false, hS 5 0]], oF 2 [[vb false, hS 6 p]], oF 2 [[i64 q, i64 s]], oF 2 [[i64 t, i64 u]], oT 2 [], oT 2 v])
abbrev E237_c50 : Ent (VX × S) := ⟨N237_c50, N237_c50.out, fun g => (∃ x, g (.e0 x)), fun g => ⟨fun h => match h with
  | ⟨_, h⟩ => ⟨_, h⟩, fun ⟨b, h⟩ => match b, h with
  | .e0 _, h => ⟨_, h⟩⟩⟩
noncomputable def D237_c50 : T237_c50s0 → PT N237_c50
  | .mk d q f i s t w u v a j l m o p =>
   .testB w
    (fun h0 =>
    .auto 3 <|
    .ask E268 (F268_ok j l m o (w64 (d - f)) i) fun (r : A268) => match r with
    | .a0 y z =>
     .auto 1 <|
     .test (0 + a ≤ List.length p ∧ (a + 1) * 16 ≤ 140737488355328 ∧ a + 1 ≤ 140737488355328)
      (fun h1 =>
      .auto 1 <|
      .ret (.e0 (.mk d q f i s t u v (a + 1) j l m o (List.take a p ++ [[i64 y, i64 z]])))
      )
      (fun _ => .fail)
    )
    (fun h0 =>
    .ret (.e0 (.mk d q f i s t u v a j l m o p))
    )
noncomputable def J237_c50 (y : T237_c50s0) : Option N237_c50 := (D237_c50 y).ev some
theorem J237_c50_ok (y : T237_c50s0) : ∀ b, J237_c50 y = some b → condP Tryz.prog X CC 237 0 18446744073709551616 B237 50 y.st = some (E237_c50.out b) := by
  cases y; exact cond_ok (E := E237_c50) (L := notIn []) (fun x => by kernel_rfl)
inductive T237_r10s0 where
  | mk (a d f i j l : Int) (m : Bool) (o : LV) (p : Nat) (q s t u : Int) (v : LV)
@[reducible] def T237_r10s0.st : T237_r10s0 → S
  | .mk a d f i j l m o p q s t u v => S.mk (U :: i64 a :: i64 d :: pT 0 :: U :: U :: pT 1 :: pT 2 :: i64 f :: U :: pT 3 :: pT 4 :: i64 i :: un 9 (i64 j :: i64 l :: un 56 [])) [oF 2 [[vb m, lS 2 o]], oF 2 [[vb false, hS 5 0]], oF 2 [[vb false, hS 6 p]], oF 2 [[i64 q, i64 s]], oF 2 [[i64 t, i64 u]], oT 2 [], oT 2 v]
inductive T237_r10e0 where
  | mk (a d f i j l : Int) (m o : Bool) (p : LV) (q : Nat) (s t u v : Int) (w : LV)
inductive N237_r10 where
  | e0 (x : T237_r10e0)
@[reducible] def N237_r10.out : N237_r10 → VX × S
  | .e0 (.mk a d f i j l m o p q s t u v w) => (vN, S.mk (U :: i64 a :: i64 d :: pT 0 :: U :: U :: pT 1 :: pT 2 :: i64 f :: U :: pT 3 :: pT 4 :: i64 i :: un 9 (i64 j :: i64 l :: un 22 (vb m :: un 33 []))) [oF 2 [[vb o, lS 2 p]], oF 2 [[vb false, hS 5 0]], oF 2 [[vb false, hS 6 q]], oF 2 [[i64 s, i64 t]], oF 2 [[i64 u, i64 v]], oT 2 [], oT 2 w])
abbrev E237_r10 : Ent (VX × S) := ⟨N237_r10, N237_r10.out, fun g => (∃ x, g (.e0 x)), fun g => ⟨fun h => match h with
  | ⟨_, h⟩ => ⟨_, h⟩, fun ⟨b, h⟩ => match b, h with
  | .e0 _, h => ⟨_, h⟩⟩⟩
noncomputable def D237_r10 : T237_r10s0 → PT N237_r10
  | .mk f i a d j l m o p q s t u v =>
   .test (d > 0)
    (fun h0 =>
    .auto 2 <|
    .tot O131 (F131_ok a d) fun w =>
    .auto 3 <|
    .test (w > f)
     (fun h1 =>
     .auto 3 <|
     .ret (.e0 (.mk f i a d j l (decide (a < i)) m o p q s t u v))
     )
     (fun h1 =>
     .auto 3 <|
     .ret (.e0 (.mk f i a d j l false m o p q s t u v))
     )
    )
    (fun h0 =>
    .auto 9 <|
    .ret (.e0 (.mk f i a d j l false m o p q s t u v))
    )
noncomputable def J237_r10 (y : T237_r10s0) : Option N237_r10 := (D237_r10 y).ev some
theorem J237_r10_ok (y : T237_r10s0) : ∀ b, J237_r10 y = some b → regP Tryz.prog X CC 237 0 B237 10 y.st = some (E237_r10.out b) := by
  cases y; exact reg_ok (E := E237_r10) (fun x => by kernel_rfl)
inductive T237_0s0 where
  | mk (a d f i j : Int) (l : Bool) (m : LV) (o : Nat) (p : LV)
inductive T237_0e0 where
  | mk (a : Nat) (d : LV)
inductive N237_0 where
  | s0 (x : T237_0s0)
  | e0 (x : T237_0e0)
@[reducible] def N237_0.out : N237_0 → VX × S
  | .s0 (.mk a d f i j l m o p) => (vN, S.mk (U :: i64 a :: i64 d :: pT 0 :: U :: U :: pT 1 :: pT 2 :: i64 f :: un 13 (i64 i :: i64 j :: un 56 [])) [oF 2 [[vb l, lS 2 m]], oF 2 [[vb false, hS 3 0]], oF 2 [[vb false, hS 4 o]], oT 2 [], oT 2 p])
  | .e0 (.mk q s) => (vX 0, S.mk (un 6 (pT 0 :: pT 1 :: un 72 [])) [oF 2 [[vb false, hS 2 0]], oF 2 [[vb false, hS 3 q]], oT 2 [], oT 2 s])
abbrev E237_0 : Ent (VX × S) := ⟨N237_0, N237_0.out, fun g => (∃ x, g (.s0 x)) ∨ (∃ x, g (.e0 x)), fun g => ⟨fun h => match h with
  | .inl ⟨_, h⟩ => ⟨_, h⟩
  | .inr (⟨_, h⟩) => ⟨_, h⟩, fun ⟨b, h⟩ => match b, h with
  | .s0 _, h => .inl ⟨_, h⟩
  | .e0 _, h => .inr (⟨_, h⟩)⟩⟩
noncomputable def D237_0 : T237_0s0 → PT N237_0
  | .mk d4 d5 d6 i d j l m o =>
   .test (d < i)
    (fun h0 =>
    .auto 1 <|
    .ask E267 (F267_ok j l d) fun (r : A267) => match r with
    | .a0 d7 d8 d9 f0 f1 =>
     .auto 2 <|
     .cut E237_r10 (J237_r10_ok (.mk d4 d5 d6 f1 i d j l m d7 d8 d9 f0 o)) fun (r : N237_r10) => match r with
     | .e0 (.mk p q s t u v f2 w y f f3 f4 f5 f6 z) =>
      .testB f2
       (fun h1 =>
       .auto 1 <|
       .cut E237_c50 (J237_c50_ok (.mk p q s t u v ((↑f : Int) == 0) w y f f3 f4 f5 f6 z)) fun (r : N237_c50) => match r with
       | .e0 (.mk f7 d0 d1 d2 f8 f9 j0 j1 a j2 j3 j4 j5 d3) =>
        .auto 3 <|
        .ask E268 (F268_ok j2 j3 j4 j5 (w64 (d0 - d1)) d2) fun (r : A268) => match r with
        | .a0 j6 j7 =>
         .auto 1 <|
         .test (0 + a ≤ List.length d3 ∧ (a + 1) * 16 ≤ 140737488355328 ∧ a + 1 ≤ 140737488355328)
          (fun h2 =>
          .auto 1 <|
          .tot O131 (F131_ok d1 d2) fun j8 =>
          .ret (.s0 (.mk f7 d0 j8 f8 (w64 (f9 + 1)) j0 j1 (a + 1) (List.take a d3 ++ [[i64 j6, i64 j7]])))
          )
          (fun _ => .fail)
       )
       (fun h1 =>
       .tot O131 (F131_ok s t) fun j9 =>
       .ret (.s0 (.mk p q j9 u (w64 (v + 1)) w y f z))
       )
    )
    (fun h0 =>
    .ret (.e0 (.mk m o))
    )
noncomputable def S237_0 : N237_0 → PT N237_0
  | .s0 x => D237_0 x
  | _ => .fail
def N237_0.off : N237_0 → Bool
  | .s0 _ => false
  | _ => true
noncomputable def L237_0 (n : Nat) (b : N237_0) : Option N237_0 := PT.loop S237_0 N237_0.off n b
theorem L237_0_ok : ∀ (n : Nat) (b : N237_0), N237_0.off b = false → ∀ c, L237_0 n b = some c → loopP Tryz.prog X CC 237 0 18446744073709551616 B237 0 n (E237_0.out b).2 = some (E237_0.out c) :=
  loop_ok (E := E237_0) (step := S237_0) (L := notIn []) (fun b hb => by cases b <;> first | (cases hb; done) | (rename_i x; cases x; intro x; kernel_rfl) | (intro x; kernel_rfl)) (fun b => by cases b <;> rfl)
noncomputable def N237_0.nx (n : Nat) (c : N237_0) : Option N237_0 := match N237_0.off c with
  | true => some c
  | false => L237_0 n c
theorem L237_0_s0 (n : Nat) (x : T237_0s0) : L237_0 (n + 1) (.s0 x) = (D237_0 x).ev (N237_0.nx n) := rfl
theorem N237_0.nx_s0 (n : Nat) (x : T237_0s0) : N237_0.nx n (.s0 x) = L237_0 n (.s0 x) := rfl
theorem N237_0.nx_e0 (n : Nat) (x : T237_0e0) : N237_0.nx n (.e0 x) = some (.e0 x) := rfl
noncomputable def D237 (a : Bool) (d : LV) (j l : Int) : PT A237 :=
  .tot O132 (F132_ok j) fun f =>
  .tot O132 (F132_ok l) fun i =>
  .test (f ≥ i)
   (fun h0 =>
   .auto 2 <|
   .ret (.a0 false 0 ([]))
   )
   (fun h0 =>
   .auto 1 <|
   .tot O266 (F266_ok a d) fun m =>
   .cut E237_0 (L237_0_ok 18446744073709551616 (.s0 (.mk f i 0 m 0 a d 0 ([]))) rfl) fun (r : N237_0) => match r with
   | .e0 (.mk o p) =>
    .auto 2 <|
    .ret (.a0 false o p)
   | _ => .fail
   )
noncomputable def F237 (a : Bool) (d : LV) (f i : Int) : Option A237 := (D237 a d f i).ev some
theorem F237_ok (a : Bool) (d : LV) (f i : Int) : ∀ b, F237 a d f i = some b → UU 237 ([V.agg [vb a, lS 2 d], i64 f, i64 i]) ([]) = some (A237.out b) :=
  fn_ok (E := E237) (L := notIn []) rfl rfl (fun x => by kernel_rfl)
/-! ## F195 -/
noncomputable abbrev B195 : Code := (Tryz.f195.body).getD .skip
inductive T195_r6s0 where
  | mk (a d : Int) (f : Nat) (i : LV) (j l : Int) (m : LV) (o : Bool) (p : LV)
@[reducible] def T195_r6s0.st : T195_r6s0 → S
  | .mk a d f i j l m o p => S.mk (U :: i64 a :: i64 d :: un 4 (hS 0 f :: U :: pT 1 :: un 8 (lS 2 i :: i64 j :: i64 l :: un 38 []))) [oT 2 m, oF 2 [[vb o, lS 2 p]]]
inductive T195_r6e0 where
  | mk (a d : Int) (f : Nat) (i : LV) (j l : Int) (m : Bool) (o : LV) (p : Bool) (q : LV)
inductive N195_r6 where
  | e0 (x : T195_r6e0)
@[reducible] def N195_r6.out : N195_r6 → VX × S
  | .e0 (.mk a d f i j l m o p q) => (vN, S.mk (U :: i64 a :: i64 d :: un 4 (hS 0 f :: U :: pT 1 :: un 8 (lS 2 i :: i64 j :: i64 l :: un 8 (vb m :: un 29 [])))) [oT 2 o, oF 2 [[vb p, lS 2 q]]])
abbrev E195_r6 : Ent (VX × S) := ⟨N195_r6, N195_r6.out, fun g => (∃ x, g (.e0 x)), fun g => ⟨fun h => match h with
  | ⟨_, h⟩ => ⟨_, h⟩, fun ⟨b, h⟩ => match b, h with
  | .e0 _, h => ⟨_, h⟩⟩⟩
noncomputable def D195_r6 : T195_r6s0 → PT N195_r6
  | .mk a d f i j l m o p =>
   .testB (a == 0)
    (fun h0 =>
    .auto 2 <|
    .ret (.e0 (.mk a d f i j l (d == 65536) m o p))
    )
    (fun h0 =>
    .auto 2 <|
    .ret (.e0 (.mk a d f i j l false m o p))
    )
noncomputable def J195_r6 (y : T195_r6s0) : Option N195_r6 := (D195_r6 y).ev some
theorem J195_r6_ok (y : T195_r6s0) : ∀ b, J195_r6 y = some b → regP Tryz.prog X CC 195 0 B195 6 y.st = some (E195_r6.out b) := by
  cases y; exact reg_ok (E := E195_r6) (fun x => by kernel_rfl)
inductive T195_0s0 where
  | mk (a d : Int) (f : Nat) (i : LV) (j l : Int) (m : LV)
inductive T195_0e0 where
  | mk (a : Nat) (d : LV)
inductive N195_0 where
  | s0 (x : T195_0s0)
  | e0 (x : T195_0e0)
@[reducible] def N195_0.out : N195_0 → VX × S
  | .s0 (.mk a d f i j l m) => (vN, S.mk (U :: i64 a :: i64 d :: un 4 (hS 0 f :: un 10 (lS 2 i :: i64 j :: i64 l :: un 38 []))) [oT 2 m])
  | .e0 (.mk o p) => (vX 0, S.mk (un 7 (hS 0 o :: un 51 [])) [oT 2 p])
abbrev E195_0 : Ent (VX × S) := ⟨N195_0, N195_0.out, fun g => (∃ x, g (.s0 x)) ∨ (∃ x, g (.e0 x)), fun g => ⟨fun h => match h with
  | .inl ⟨_, h⟩ => ⟨_, h⟩
  | .inr (⟨_, h⟩) => ⟨_, h⟩, fun ⟨b, h⟩ => match b, h with
  | .s0 _, h => .inl ⟨_, h⟩
  | .e0 _, h => .inr (⟨_, h⟩)⟩⟩
noncomputable def D195_0 : T195_0s0 → PT N195_0
  | .mk d2 d3 u v w f y =>
   .test (f < w)
    (fun h0 =>
    .test (0 ≤ f)
     (fun h1 =>
     .look RW88 (v[Int.toNat f]?) fun z =>
     .auto 1 <|
     .cut E195_r6 (J195_r6_ok (.mk d2 d3 u v w f y z.c0 z.c1)) fun (r : N195_r6) => match r with
     | .e0 (.mk i j a m o p d4 d q s) =>
      .testB d4
       (fun h2 =>
       .auto 2 <|
       .ask E224 (F224_ok s) fun (r : A224) => match r with
       | .a0 l =>
        .test (0 + List.length l ≤ List.length l)
         (fun h3 =>
         .auto 1 <|
         .test (0 + a ≤ List.length d ∧ (a + 1) * 32 ≤ 140737488355328 ∧ a + 1 ≤ 140737488355328)
          (fun h4 =>
          .ret (.s0 (.mk i j (a + 1) m o (w64 (p + 1)) (List.take a d ++ [[vb q, lS 2 (List.take (List.length l) l)]])))
          )
          (fun _ => .fail)
         )
         (fun _ => .fail)
       )
       (fun h2 =>
       .auto 1 <|
       .ask E236 (F236_ok q s) fun (r : A236) => match r with
       | .a0 d0 =>
        .auto 1 <|
        .ask E125 (F125_ok d0 i) fun (r : A125) => match r with
        | .a0 d5 =>
         .ask E125 (F125_ok d0 j) fun (r : A125) => match r with
         | .a0 d6 =>
          .ask E237 (F237_ok q s d5 d6) fun (r : A237) => match r with
          | .a0 d7 t d1 =>
           .auto 2 <|
           .test ((↑t : Int) ≥ 2)
            (fun h3 =>
            .auto 1 <|
            .test (0 + t ≤ List.length d1)
             (fun h4 =>
             .auto 1 <|
             .test (0 + a ≤ List.length d ∧ (a + 1) * 32 ≤ 140737488355328 ∧ a + 1 ≤ 140737488355328)
              (fun h5 =>
              .ret (.s0 (.mk i j (a + 1) m o (w64 (p + 1)) (List.take a d ++ [[vb d7, lS 2 (List.take t d1)]])))
              )
              (fun _ => .fail)
             )
             (fun _ => .fail)
            )
            (fun h3 =>
            .ret (.s0 (.mk i j a m o (w64 (p + 1)) d))
            )
       )
     )
     (fun _ => .fail)
    )
    (fun h0 =>
    .ret (.e0 (.mk u y))
    )
noncomputable def S195_0 : N195_0 → PT N195_0
  | .s0 x => D195_0 x
  | _ => .fail
def N195_0.off : N195_0 → Bool
  | .s0 _ => false
  | _ => true
noncomputable def L195_0 (n : Nat) (b : N195_0) : Option N195_0 := PT.loop S195_0 N195_0.off n b
theorem L195_0_ok : ∀ (n : Nat) (b : N195_0), N195_0.off b = false → ∀ c, L195_0 n b = some c → loopP Tryz.prog X CC 195 0 18446744073709551616 B195 0 n (E195_0.out b).2 = some (E195_0.out c) :=
  loop_ok (E := E195_0) (step := S195_0) (L := notIn []) (fun b hb => by cases b <;> first | (cases hb; done) | (rename_i x; cases x; intro x; kernel_rfl) | (intro x; kernel_rfl)) (fun b => by cases b <;> rfl)
noncomputable def N195_0.nx (n : Nat) (c : N195_0) : Option N195_0 := match N195_0.off c with
  | true => some c
  | false => L195_0 n c
theorem L195_0_s0 (n : Nat) (x : T195_0s0) : L195_0 (n + 1) (.s0 x) = (D195_0 x).ev (N195_0.nx n) := rfl
theorem N195_0.nx_s0 (n : Nat) (x : T195_0s0) : N195_0.nx n (.s0 x) = L195_0 n (.s0 x) := rfl
theorem N195_0.nx_e0 (n : Nat) (x : T195_0e0) : N195_0.nx n (.e0 x) = some (.e0 x) := rfl
noncomputable def D195 (a : LV) (d f : Int) : PT A195 :=
  .ask E235 (F235_ok d f) fun (r : A235) => match r with
  | .a0 i j =>
   .cut E195_0 (L195_0_ok 18446744073709551616 (.s0 (.mk i j 0 a ((↑(List.length a) : Int)) 0 ([]))) rfl) fun (r : N195_0) => match r with
   | .e0 (.mk l m) =>
    .ret (.a0 l m)
   | _ => .fail
noncomputable def F195 (a : LV) (d f : Int) : Option A195 := (D195 a d f).ev some
theorem F195_ok (a : LV) (d f : Int) : ∀ b, F195 a d f = some b → UU 195 ([lS 2 a, i64 d, i64 f]) ([]) = some (A195.out b) :=
  fn_ok (E := E195) (L := notIn []) rfl rfl (fun x => by kernel_rfl)
/-! ## F116 -/
noncomputable def D116 (a : Int) : PT Bool :=
  .test (a < 65536)
   (fun h0 =>
   .auto 2 <|
   .ret true
   )
   (fun h0 =>
   .auto 2 <|
   .ret (decide (a > 67108864))
   )
@[reducible] def O116 (a : Bool) : V × Store := (vb a, [])
noncomputable def F116 (a : Int) : Bool := (D116 a).evT
theorem F116_ok (a : Int) : UU 116 ([i64 a]) ([]) = some (O116 (F116 a)) :=
  fnT_ok (out := O116) (L := notIn []) rfl rfl (fun x => by kernel_rfl) (by simp [D116, PT.isT])
end Go.Proofs.YtifalphladcdcaaGreat.H
