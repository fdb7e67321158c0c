/- What the functions compute, and that they do so over the machine of plain values (printed by this session's program wip/vm/Walk.lean). No condition beyond those stated. -/
import Derived.Test.YtifalphladcdcaaGreatWk
import Derived.Test.YtifalphladcdcaaGreatHB
import Derived.Test.YtifalphladcdcaaGreatPOb
set_option linter.unusedVariables false
set_option linter.unusedSimpArgs false
namespace Go.Proofs.YtifalphladcdcaaGreat.H
open Go Go.VM
set_option maxRecDepth 100000
/-! ## F134 -/
noncomputable def D134 (d f i : Int) : PT A134 := .tot O132 (F132_ok d) fun a => .tot O131 (F131_ok f (w64 (0 - a))) fun j => .ask E125 (F125_ok j i) fun ⟨l⟩ => .tot O131 (F131_ok a l) fun m => .ret (.a0 m)
noncomputable def F134 (a d f : Int) : Option A134 := (D134 a d f).ev some
theorem F134_ok (a d f : Int) : FU E134 (F134 a d f) 134 [i64 a, i64 d, i64 f] := fu rfl rfl fun x => by kernel_rfl
/-! ## F72 -/
noncomputable def D72 (d : LV) (i l : Int) : PT A72 := .testB ((d.length : Int) == 0) (fun h0 => .ret (.a0 l)) (fun h0 => .ask E133 (F133_ok d i) fun ⟨a⟩ => .testB (a == -1) (fun h1 => .auto 1 <| .look RW74 (d[(0 : Nat)]?) fun m => .ret (.a0 m.c1)) (fun h1 => .testB (a == w64 ((d.length : Int) - 1)) (fun h2 => .test (0 ≤ a) (fun h3 => .look RW74 (d[Int.toNat a]?) fun o => .ret (.a0 o.c1)) (fun _ => .fail)) (fun h2 => .test (0 ≤ a) (fun h3 => .look RW74 (d[Int.toNat a]?) fun f => .test (0 ≤ w64 (a + 1)) (fun h4 => .look RW74 (d[Int.toNat (w64 (a + (1 : Int)))]?) fun j => .auto 8 <| .ask E136 (F136_ok f.c0 j.c0 i) fun ⟨p⟩ => .ask E135 (F135_ok f.c2 f.c3 f.c4 f.c5 f.c6 p) fun ⟨q⟩ => .ask E134 (F134_ok f.c1 j.c1 q) fun ⟨s⟩ => .ret (.a0 s)) (fun _ => .fail)) (fun _ => .fail))))
noncomputable def F72 (a : LV) (d f : Int) : Option A72 := (D72 a d f).ev some
theorem F72_ok (a : LV) (d f : Int) : FU E72 (F72 a d f) 72 [lS 7 a, i64 d, i64 f] := fu rfl rfl fun x => by kernel_rfl
/-! ## F22 -/
noncomputable def D22 (a : W57) (d : Int) : PT A22 := .auto 2 <| .tot O70 (F70_ok a d) fun f => .ask E72 (F72_ok a.c14 f 65536) fun ⟨i⟩ => .tot O74 (F74_ok i 0 65536) fun j => .auto 1 <| .ret (.a0 (w64 (Int.tdiv (w64 (j * 255)) 65536)))
noncomputable def F22 (a : W57) (d : Int) : Option A22 := (D22 a d).ev some
theorem F22_ok (a : W57) (d : Int) : FU E22 (F22 a d) 22 [V.agg (W57.cells a), i64 d] := fu rfl rfl fun x => by kernel_rfl
/-! ## F23 -/
noncomputable def D23 (a : W57) (d : Int) : PT Bool := .auto 1 <| .test (a.c4 ≤ d) (fun h0 => .auto 5 <| .ret (decide (d < a.c5))) (fun h0 => .auto 4 <| .ret false)
abbrev O23 (a : Bool) : V × Store := (vb a, [])
noncomputable def F23 (a : W57) (d : Int) : Bool := (D23 a d).evT
theorem F23_ok (a : W57) (d : Int) : UU 23 ([V.agg (W57.cells a), i64 d]) ([]) = some (O23 (F23 a d)) :=
  fnT_ok (out := O23) (L := notIn []) rfl rfl (fun x => by kernel_rfl) (by simp [D23, PT.isT])
/-! ## F77 -/
noncomputable def D77 (d : Int) (a : LV) : PT A77 := .test (d ≥ 0) (fun h0 => .auto 6 <| .ret (.a0 (decide (d < (a.length : Int))) a)) (fun h0 => .auto 5 <| .ret (.a0 false a))
noncomputable def F77 (a : Int) (d : LV) : Option A77 := (D77 a d).ev some
theorem F77_ok (a : Int) (d : LV) : FU E77 (F77 a d) 77 [i64 a, pT 0] [oF 1 [[lS 50 d]]] := fu rfl rfl fun x => by kernel_rfl
/-! ## F71 -/
noncomputable def D71 (d : LV) (f a : Int) : PT A71 := .auto 1 <| .ask E72 (F72_ok d a f) fun ⟨i⟩ => .ret (.a0 i a)
noncomputable def F71 (a : LV) (d f : Int) : Option A71 := (D71 a d f).ev some
theorem F71_ok (a : LV) (d f : Int) : FU E71 (F71 a d f) 71 [lS 7 a, i64 d, pT 0] [oF 1 [[i64 f]]] := fu rfl rfl fun x => by kernel_rfl
/-! ## F189 -/
noncomputable def D189 (a : Int) : PT Int := .auto 1 <| .test (Int.tmod a 23592960 < 0) (fun h0 => .ret (w64 (Int.tmod a 23592960 + 23592960))) (fun h0 => .ret (Int.tmod a 23592960))
abbrev O189 (a : Int) : V × Store := (i64 a, [])
noncomputable def F189 (a : Int) : Int := (D189 a).evT
theorem F189_ok (a : Int) : UU 189 ([i64 a]) ([]) = some (O189 (F189 a)) :=
  fnT_ok (out := O189) (L := notIn []) rfl rfl (fun x => by kernel_rfl) (by simp [D189, PT.isT])
/-! ## F128 -/
abbrev K128 := Int → Option A128
abbrev H128 (r : K128) : Prop := ∀ (d : Int) (b : A128), r d = some b → UU 128 ([i64 d]) ([]) = some (A128.out b)
noncomputable def D128 (rF128 : K128) (hF128 : H128 rF128) (d : Int) : PT A128 := .tot O189 (F189_ok d) fun a => .test (a ≥ 11796480) (fun h0 => .ask E128 (hF128 (w64 (a - 11796480))) fun ⟨f⟩ => .ret (.a0 (w64 (0 - f)))) (fun h0 => .auto 1 <| .test (w64 (2654208000 - w64 (Int.tdiv (w64 (a * w64 (11796480 - a))) 65536)) = 0) (fun _ => .fail) (fun h1 => .ret (.a0 (w64 (Int.tdiv (w64 (w64 (4 * w64 (Int.tdiv (w64 (a * w64 (11796480 - a))) 65536)) * 65536)) (w64 (2654208000 - w64 (Int.tdiv (w64 (a * w64 (11796480 - a))) 65536))))))))
theorem D128_ok (rF128 : K128) (hF128 : H128 rF128) (a : Int) : ∀ b, (D128 rF128 hF128 a).ev some = some b → UU 128 ([i64 a]) ([]) = some (A128.out b) :=
  fn_ok (E := E128) (L := notIn []) rfl rfl (fun x => by kernel_rfl)
noncomputable def G128 : Nat → { r : Int → Option A128 // ∀ (a : Int) (b : A128), r a = some b → UU 128 ([i64 a]) ([]) = some (A128.out b) }
  | 0 => ⟨fun _ => none, fun _ _ h => by cases h⟩
  | n + 1 => ⟨fun a => (D128 (G128 n).1 (G128 n).2 a).ev some, fun a => D128_ok (G128 n).1 (G128 n).2 a⟩
noncomputable def F128 (n : Nat) (a : Int) : Option A128 := (G128 n).1 a
theorem F128_ok (n : Nat) (a : Int) : ∀ b, F128 n a = some b → UU 128 ([i64 a]) ([]) = some (A128.out b) := (G128 n).2 a
theorem F128_succ (n : Nat) (a : Int) : F128 (n + 1) a = (D128 (F128 n) (F128_ok n) a).ev some := rfl
/-! ## F127 -/
noncomputable def D127 (a : Int) : PT A127 := .tot O189 (F189_ok a) fun d => .ask E128 (F128_ok 100000 (w64 (d + 5898240))) fun ⟨f⟩ => .ret (.a0 f)
noncomputable def F127 (a : Int) : Option A127 := (D127 a).ev some
theorem F127_ok (a : Int) : FU E127 (F127 a) 127 [i64 a] := fu rfl rfl fun x => by kernel_rfl
/-! ## F137 -/
noncomputable def D137 (a d f i : Int) : PT A137 := .ask E125 (F125_ok a d) fun ⟨j⟩ => .ask E125 (F125_ok f i) fun ⟨l⟩ => .tot O131 (F131_ok j l) fun m => .ret (.a0 m)
noncomputable def F137 (a d f i : Int) : Option A137 := (D137 a d f i).ev some
theorem F137_ok (a d f i : Int) : FU E137 (F137 a d f i) 137 [i64 a, i64 d, i64 f, i64 i] := fu rfl rfl fun x => by kernel_rfl
/-! ## F73 -/
noncomputable def D73 (t u a d f i j : Int) : PT A73 := .ask E127 (F127_ok j) fun ⟨l⟩ => .ask E128 (F128_ok 100000 j) fun ⟨m⟩ => .ask E125 (F125_ok l f) fun ⟨o⟩ => .ask E125 (F125_ok m f) fun ⟨p⟩ => .ask E125 (F125_ok (w64 (0 - m)) i) fun ⟨q⟩ => .ask E125 (F125_ok l i) fun ⟨s⟩ => .auto 3 <| .ask E137 (F137_ok o a q d) fun ⟨v⟩ => .tot O131 (F131_ok t (w64 (0 - v))) fun w => .auto 3 <| .ask E137 (F137_ok p a s d) fun ⟨y⟩ => .tot O131 (F131_ok u (w64 (0 - y))) fun z => .auto 3 <| .ret (.a0 (W59.mk o p q s w z))
noncomputable def F73 (a d f i j l m : Int) : Option A73 := (D73 a d f i j l m).ev some
theorem F73_ok (a d f i j l m : Int) : FU E73 (F73 a d f i j l m) 73 [i64 a, i64 d, i64 f, i64 i, i64 j, i64 l, i64 m] := fu rfl rfl fun x => by kernel_rfl
/-! ## F21 -/
noncomputable def D21 (a : W57) (d : Int) : PT A21 := .auto 1 <| .tot O70 (F70_ok a d) fun f => .auto 2 <| .ask E71 (F71_ok a.c7 0 f) fun ⟨i, j⟩ => .auto 1 <| .ask E71 (F71_ok a.c8 0 j) fun ⟨l, m⟩ => .auto 1 <| .ask E71 (F71_ok a.c9 0 m) fun ⟨o, p⟩ => .auto 1 <| .ask E71 (F71_ok a.c10 0 p) fun ⟨q, s⟩ => .auto 1 <| .ask E71 (F71_ok a.c11 65536 s) fun ⟨t, u⟩ => .auto 1 <| .ask E71 (F71_ok a.c12 65536 u) fun ⟨v, w⟩ => .auto 1 <| .ask E71 (F71_ok a.c13 0 w) fun ⟨y, d0⟩ => .ask E73 (F73_ok i l o q t v y) fun ⟨z⟩ => .auto 1 <| .ret (.a0 z)
noncomputable def F21 (a : W57) (d : Int) : Option A21 := (D21 a d).ev some
theorem F21_ok (a : W57) (d : Int) : FU E21 (F21 a d) 21 [V.agg (W57.cells a), i64 d] := fu rfl rfl fun x => by kernel_rfl
/-! ## F79 -/
noncomputable def D79 (a : W59) (d : W59) : PT A79 := .auto 4 <| .ask E137 (F137_ok a.c0 d.c0 a.c2 d.c1) fun ⟨f⟩ => .auto 4 <| .ask E137 (F137_ok a.c1 d.c0 a.c3 d.c1) fun ⟨i⟩ => .auto 4 <| .ask E137 (F137_ok a.c0 d.c2 a.c2 d.c3) fun ⟨j⟩ => .auto 4 <| .ask E137 (F137_ok a.c1 d.c2 a.c3 d.c3) fun ⟨l⟩ => .auto 4 <| .ask E137 (F137_ok a.c0 d.c4 a.c2 d.c5) fun ⟨m⟩ => .auto 1 <| .tot O131 (F131_ok m a.c4) fun o => .auto 4 <| .ask E137 (F137_ok a.c1 d.c4 a.c3 d.c5) fun ⟨p⟩ => .auto 1 <| .tot O131 (F131_ok p a.c5) fun q => .auto 1 <| .ret (.a0 (W59.mk f i j l o q))
noncomputable def F79 (a : W59) (d : W59) : Option A79 := (D79 a d).ev some
theorem F79_ok (a : W59) (d : W59) : FU E79 (F79 a d) 79 [V.agg (W59.cells a), V.agg (W59.cells d)] := fu rfl rfl fun x => by kernel_rfl
/-! ## F27 -/
noncomputable abbrev B27 : Code := (Tryz.f27.body).getD .skip
inductive T27_2s0 where
  | mk (a : Nat) (d : Int) (f : LV) (i : W59)
inductive T27_2e0 where
  | mk (a : W59)
inductive N27_2 where
  | s0 (x : T27_2s0)
  | e0 (x : T27_2e0)
abbrev N27_2.out : N27_2 → VX × S
  | .s0 (.mk a d f i) => (vN, S.mk (un 6 (pT 0 :: U :: hS 1 a :: U :: pT 2 :: i64 d :: un 64 [])) [oF 6 [W59.cells (W59.mk 0 0 0 0 0 0)], oT 6 f, oF 6 [W59.cells i]])
  | .e0 (.mk j) => (vX 2, S.mk (un 6 (pT 0 :: U :: U :: U :: pT 1 :: un 65 [])) [oF 6 [W59.cells (W59.mk 0 0 0 0 0 0)], oF 6 [W59.cells j]])
abbrev E27_2 := Ent.o2 N27_2.out .s0 .e0 (fun b => by cases b <;> simp)
noncomputable def D27_2 : T27_2s0 → PT N27_2 | .mk d a f i => .test (a ≥ 0) (fun h0 => .auto 1 <| .test (0 ≤ a ∧ a < (↑d : Int)) (fun h1 => .look RW59 (f[(0 : Nat) + Int.toNat a]?) fun j => .ask E79 (F79_ok i j) fun ⟨l⟩ => .auto 1 <| .ret (.s0 (.mk d (w64 (a - 1)) f l))) (fun _ => .fail)) (fun h0 => .ret (.e0 (.mk i)))
noncomputable def L27_2 := E27_2.loop fun | .s0 x => D27_2 x | _ => .fail
theorem L27_2_ok : LU 27 0 B27 2 E27_2 L27_2 :=
  lk (L := notIn []) (fun b hb => by cases b <;> first | (cases hb; done) | (rename_i x; cases x; intro x; kernel_rfl) | (intro x; kernel_rfl))
noncomputable def N27_2.nx (n : Nat) : N27_2 → Option N27_2 | .s0 x => L27_2 n (.s0 x) | .e0 x => some (.e0 x)
theorem L27_2_s0 (n : Nat) (x : T27_2s0) : L27_2 (n + 1) (.s0 x) = (D27_2 x).ev (N27_2.nx n) := Ent.loop_eq fun c => by cases c <;> rfl
inductive T27_r6s0 where
  | mk (a : Int) (d : Nat) (f : Int) (i j : LV)
abbrev T27_r6s0.st : T27_r6s0 → S
  | .mk a d f i j => S.mk (U :: U :: i64 a :: pT 0 :: U :: U :: pT 1 :: V.fn 77 [pT 0] :: hS 2 d :: i64 f :: un 66 []) [oF 1 [[lS 50 i]], oF 6 [W59.cells (W59.mk 0 0 0 0 0 0)], oT 6 j]
inductive T27_r6e0 where
  | mk (a : Int) (d : Nat) (f : Int) (i : Bool) (j l : LV)
inductive N27_r6 where
  | e0 (x : T27_r6e0)
abbrev N27_r6.out : N27_r6 → VX × S
  | .e0 (.mk a d f i j l) => (vN, S.mk (U :: U :: i64 a :: pT 0 :: U :: U :: pT 1 :: V.fn 77 [pT 0] :: hS 2 d :: i64 f :: un 29 (vb i :: un 36 [])) [oF 1 [[lS 50 j]], oF 6 [W59.cells (W59.mk 0 0 0 0 0 0)], oT 6 l])
abbrev E27_r6 := Ent.o1 N27_r6.out .e0 fun ⟨x⟩ => ⟨x, rfl⟩
noncomputable def D27_r6 : T27_r6s0 → PT N27_r6 | .mk f a d l i => .ask E77 (F77_ok d l) fun ⟨m, j⟩ => .testB m (fun h0 => .auto 3 <| .ret (.e0 (.mk f a d (decide ((↑a : Int) ≤ 16)) j i))) (fun h0 => .auto 3 <| .ret (.e0 (.mk f a d false j i)))
noncomputable def J27_r6 (y : T27_r6s0) : Option N27_r6 := (D27_r6 y).ev some
theorem J27_r6_ok (y : T27_r6s0) : ∀ b, J27_r6 y = some b → regP Tryz.prog X CC 27 0 B27 6 y.st = some (E27_r6.out b) := by
  cases y; exact reg_ok (E := E27_r6) (fun x => by kernel_rfl)
inductive T27_0s0 where
  | mk (a : Int) (d : Nat) (f : Int) (i j : LV)
inductive T27_0e0 where
  | mk (a : Nat) (d : LV)
inductive N27_0 where
  | s0 (x : T27_0s0)
  | e0 (x : T27_0e0)
abbrev N27_0.out : N27_0 → VX × S
  | .s0 (.mk a d f i j) => (vN, S.mk (U :: U :: i64 a :: pT 0 :: U :: U :: pT 1 :: V.fn 77 [pT 0] :: hS 2 d :: i64 f :: un 66 []) [oF 1 [[lS 50 i]], oF 6 [W59.cells (W59.mk 0 0 0 0 0 0)], oT 6 j])
  | .e0 (.mk l m) => (vX 0, S.mk (un 6 (pT 0 :: U :: hS 1 l :: un 67 [])) [oF 6 [W59.cells (W59.mk 0 0 0 0 0 0)], oT 6 m])
abbrev E27_0 := Ent.o2 N27_0.out .s0 .e0 (fun b => by cases b <;> simp)
noncomputable def D27_0 : T27_0s0 → PT N27_0 | .mk m o p q s => .cut E27_r6 (J27_r6_ok (.mk m o p q s)) fun | .e0 (.mk l a f t i j) => .testB t (fun h0 => .auto 1 <| .test (0 ≤ f) (fun h1 => .look RW57 (i[Int.toNat f]?) fun u => .ask E21 (F21_ok u l) fun ⟨d⟩ => .auto 1 <| .test (0 + a ≤ List.length j ∧ (a + 1) * 48 ≤ 140737488355328 ∧ a + 1 ≤ 140737488355328) (fun h2 => .auto 1 <| .known (decide_eq_true h1) <| .look RW57 (i[Int.toNat f]?) fun v => .ret (.s0 (.mk l (a + 1) v.c1 i (List.take a j ++ [[i64 d.c0, i64 d.c1, i64 d.c2, i64 d.c3, i64 d.c4, i64 d.c5]])))) (fun _ => .fail)) (fun _ => .fail)) (fun h0 => .ret (.e0 (.mk a j)))
noncomputable def L27_0 := E27_0.loop fun | .s0 x => D27_0 x | _ => .fail
theorem L27_0_ok : LU 27 0 B27 0 E27_0 L27_0 :=
  lk (L := notIn []) (fun b hb => by cases b <;> first | (cases hb; done) | (rename_i x; cases x; intro x; kernel_rfl) | (intro x; kernel_rfl))
noncomputable def N27_0.nx (n : Nat) : N27_0 → Option N27_0 | .s0 x => L27_0 n (.s0 x) | .e0 x => some (.e0 x)
theorem L27_0_s0 (n : Nat) (x : T27_0s0) : L27_0 (n + 1) (.s0 x) = (D27_0 x).ev (N27_0.nx n) := Ent.loop_eq fun c => by cases c <;> rfl
noncomputable def D27 (m : LV) (f j : Int) : PT A27 := .ask E77 (F77_ok f m) fun ⟨o, i⟩ => .testB (!o) (fun h0 => .tot O78 F78_ok fun p => .auto 1 <| .ret (.a0 p)) (fun h0 => .auto 1 <| .test (0 ≤ f) (fun h1 => .look RW57 (i[Int.toNat f]?) fun q => .ask E21 (F21_ok q j) fun ⟨a⟩ => .auto 1 <| .known (decide_eq_true h1) <| .look RW57 (i[Int.toNat f]?) fun s => .cut E27_0 (L27_0_ok (.s0 (.mk j 1 s.c1 i ([[i64 a.c0, i64 a.c1, i64 a.c2, i64 a.c3, i64 a.c4, i64 a.c5]]))) rfl) fun | .e0 (.mk d l) => (.test (0 ≤ w64 ((↑d : Int) - 1) ∧ w64 ((↑d : Int) - 1) < (↑d : Int)) (fun h2 => .look RW59 (l[(0 : Nat) + Int.toNat (w64 ((↑d : Int) - (1 : Int)))]?) fun t => .auto 1 <| .cut E27_2 (L27_2_ok (.s0 (.mk d (w64 ((↑d : Int) - 2)) l t)) rfl) fun | .e0 (.mk u) => (.auto 2 <| .ret (.a0 u)) | _ => .fail) (fun _ => .fail)) | _ => .fail) (fun _ => .fail))
noncomputable def F27 (a : LV) (d f : Int) : Option A27 := (D27 a d f).ev some
theorem F27_ok (a : LV) (d f : Int) : FU E27 (F27 a d f) 27 [V.agg [lS 50 a], i64 d, i64 f] := fu rfl rfl fun x => by kernel_rfl
/-! ## F24 -/
noncomputable def D24 (a : W57) (f : Int) : PT A24 := .auto 1 <| .tot O70 (F70_ok a f) fun d => .auto 1 <| .ask E72 (F72_ok a.c15 d d) fun ⟨i⟩ => .ret (.a0 i)
noncomputable def F24 (a : W57) (d : Int) : Option A24 := (D24 a d).ev some
theorem F24_ok (a : W57) (d : Int) : FU E24 (F24 a d) 24 [V.agg (W57.cells a), i64 d] := fu rfl rfl fun x => by kernel_rfl
/-! ## F123 -/
noncomputable def D123 (a d : Int) : PT A123 := .auto 1 <| .ret (.a0 a d)
noncomputable def F123 (a d : Int) : Option A123 := (D123 a d).ev some
theorem F123_ok (a d : Int) : FU E123 (F123 a d) 123 [i64 a, i64 d] := fu rfl rfl fun x => by kernel_rfl
/-! ## F122 -/
noncomputable abbrev B122 : Code := (Tryz.f122.body).getD .skip
inductive T122_0s0 where
  | mk (a : LV) (d f : Int) (i : Nat) (j : LV)
inductive T122_0e0 where
  | mk (a : Nat) (d : LV)
inductive N122_0 where
  | s0 (x : T122_0s0)
  | e0 (x : T122_0e0)
abbrev N122_0.out : N122_0 → VX × S
  | .s0 (.mk a d f i j) => (vN, S.mk (lS 2 a :: U :: pT 0 :: pT 1 :: un 8 (lS 2 a :: i64 d :: i64 f :: un 22 [])) [oF 2 [[vb false, hS 2 0]], oF 2 [[vb true, hS 3 i]], oT 2 [], oT 2 j])
  | .e0 (.mk l m) => (vX 0, S.mk (U :: U :: pT 0 :: pT 1 :: un 33 []) [oF 2 [[vb false, hS 2 0]], oF 2 [[vb true, hS 3 l]], oT 2 [], oT 2 m])
abbrev E122_0 := Ent.o2 N122_0.out .s0 .e0 (fun b => by cases b <;> simp)
noncomputable def D122_0 : T122_0s0 → PT N122_0 | .mk a l d f j => .test (d < l) (fun h0 => .test (0 ≤ d) (fun h1 => .look RW28 (a[Int.toNat d]?) fun m => .auto 1 <| .test ((a.length : Int) = 0) (fun _ => .fail) (fun h2 => .test (0 ≤ Int.tmod (w64 (d + 1)) (a.length : Int)) (fun h3 => .look RW28 (a[Int.toNat (Int.tmod (w64 (d + (1 : Int))) (a.length : Int))]?) fun i => .auto 6 <| .test (0 + f ≤ List.length j ∧ (f + 3) * 16 ≤ 140737488355328 ∧ f + 3 ≤ 140737488355328) (fun h4 => .auto 1 <| .ret (.s0 (.mk a l (w64 (d + 1)) (f + 3) (List.take f j ++ [[i64 m.c0, i64 m.c1], [i64 i.c0, i64 i.c1], [i64 i.c0, i64 i.c1]])))) (fun _ => .fail)) (fun _ => .fail))) (fun _ => .fail)) (fun h0 => .ret (.e0 (.mk f j)))
noncomputable def L122_0 := E122_0.loop fun | .s0 x => D122_0 x | _ => .fail
theorem L122_0_ok : LU 122 0 B122 0 E122_0 L122_0 :=
  lk (L := notIn []) (fun b hb => by cases b <;> first | (cases hb; done) | (rename_i x; cases x; intro x; kernel_rfl) | (intro x; kernel_rfl))
noncomputable def N122_0.nx (n : Nat) : N122_0 → Option N122_0 | .s0 x => L122_0 n (.s0 x) | .e0 x => some (.e0 x)
theorem L122_0_s0 (n : Nat) (x : T122_0s0) : L122_0 (n + 1) (.s0 x) = (D122_0 x).ev (N122_0.nx n) := Ent.loop_eq fun c => by cases c <;> rfl
noncomputable def D122 (a : LV) : PT A122 := .auto 1 <| .look RW28 (a[(0 : Nat)]?) fun d => .auto 1 <| .cut E122_0 (L122_0_ok (.s0 (.mk a ((a.length : Int)) 0 1 ([[i64 d.c0, i64 d.c1]]))) rfl) fun | .e0 (.mk f i) => (.auto 2 <| .ret (.a0 true f i)) | _ => .fail
noncomputable def F122 (a : LV) : Option A122 := (D122 a).ev some
theorem F122_ok (a : LV) : FU E122 (F122 a) 122 [lS 2 a] := fu rfl rfl fun x => by kernel_rfl
/-! ## F63 -/
noncomputable def D63 (a d : Int) : PT A63 := .auto 2 <| .ask E123 (F123_ok (w64 (0 - Int.fdiv a 2)) (w64 (0 - Int.fdiv d 2))) fun ⟨f, i⟩ => .ask E123 (F123_ok (w64 (a - Int.fdiv a 2)) (w64 (0 - Int.fdiv d 2))) fun ⟨j, l⟩ => .ask E123 (F123_ok (w64 (a - Int.fdiv a 2)) (w64 (d - Int.fdiv d 2))) fun ⟨m, o⟩ => .ask E123 (F123_ok (w64 (0 - Int.fdiv a 2)) (w64 (d - Int.fdiv d 2))) fun ⟨p, q⟩ => .auto 1 <| .ask E122 (F122_ok ([[i64 f, i64 i], [i64 j, i64 l], [i64 m, i64 o], [i64 p, i64 q]])) fun ⟨s, t, u⟩ => .auto 1 <| .ret (.a0 s t u)
noncomputable def F63 (a d : Int) : Option A63 := (D63 a d).ev some
theorem F63_ok (a d : Int) : FU E63 (F63 a d) 63 [i64 a, i64 d] := fu rfl rfl fun x => by kernel_rfl
/-! ## F65 -/
noncomputable def D65 (a d : Int) : PT A65 := .auto 2 <| .ask E125 (F125_ok (Int.fdiv a 2) 36195) fun ⟨f⟩ => .ask E125 (F125_ok (Int.fdiv d 2) 36195) fun ⟨i⟩ => .ask E123 (F123_ok (Int.fdiv a 2) 0) fun ⟨j, l⟩ => .ask E123 (F123_ok (Int.fdiv a 2) i) fun ⟨m, o⟩ => .ask E123 (F123_ok f (Int.fdiv d 2)) fun ⟨p, q⟩ => .ask E123 (F123_ok 0 (Int.fdiv d 2)) fun ⟨s, t⟩ => .ask E123 (F123_ok (w64 (0 - f)) (Int.fdiv d 2)) fun ⟨u, v⟩ => .ask E123 (F123_ok (w64 (0 - Int.fdiv a 2)) i) fun ⟨w, y⟩ => .ask E123 (F123_ok (w64 (0 - Int.fdiv a 2)) 0) fun ⟨z, d0⟩ => .ask E123 (F123_ok (w64 (0 - Int.fdiv a 2)) (w64 (0 - i))) fun ⟨d1, d2⟩ => .ask E123 (F123_ok (w64 (0 - f)) (w64 (0 - Int.fdiv d 2))) fun ⟨d3, d4⟩ => .ask E123 (F123_ok 0 (w64 (0 - Int.fdiv d 2))) fun ⟨d5, d6⟩ => .ask E123 (F123_ok f (w64 (0 - Int.fdiv d 2))) fun ⟨d7, d8⟩ => .ask E123 (F123_ok (Int.fdiv a 2) (w64 (0 - i))) fun ⟨d9, f0⟩ => .ask E123 (F123_ok (Int.fdiv a 2) 0) fun ⟨f1, f2⟩ => .auto 1 <| .ret (.a0 true 13 ([[i64 j, i64 l], [i64 m, i64 o], [i64 p, i64 q], [i64 s, i64 t], [i64 u, i64 v], [i64 w, i64 y], [i64 z, i64 d0], [i64 d1, i64 d2], [i64 d3, i64 d4], [i64 d5, i64 d6], [i64 d7, i64 d8], [i64 d9, i64 f0], [i64 f1, i64 f2]]))
noncomputable def F65 (a d : Int) : Option A65 := (D65 a d).ev some
theorem F65_ok (a d : Int) : FU E65 (F65 a d) 65 [i64 a, i64 d] := fu rfl rfl fun x => by kernel_rfl
/-! ## F67 -/
noncomputable abbrev B67 : Code := (Tryz.f67.body).getD .skip
inductive T67_c27s0 where
  | mk (a d f : Int) (i : Nat) (j l m : Int) (o : Bool) (p : LV)
abbrev T67_c27s0.st : T67_c27s0 → S
  | .mk d a f i j l m o p => S.mk (i64 d :: i64 a :: i64 f :: U :: U :: U :: pT 0 :: hS 1 i :: U :: i64 j :: i64 a :: un 4 (i64 l :: i64 m :: un 10 (vb o :: un 16 []))) [oF 2 [[vb false, hS 2 0]], oT 2 p, oT 2 []]
inductive T67_c27e0 where
  | mk (a d f : Int) (i : Nat) (j l m o : Int) (p : LV)
inductive N67_c27 where
  | e0 (x : T67_c27e0)
abbrev N67_c27.out : N67_c27 → VX × S
  | .e0 (.mk a d f i j l m o p) => (vN, S.mk (i64 a :: i64 d :: i64 f :: U :: U :: U :: pT 0 :: hS 1 i :: U :: i64 j :: i64 l :: un 4 (i64 m :: i64 o :: un 27 [])) [oF 2 [[vb false, hS 2 0]], oT 2 p, oT 2 []])
abbrev E67_c27 := Ent.o1 N67_c27.out .e0 fun ⟨x⟩ => ⟨x, rfl⟩
noncomputable def D67_c27 : T67_c27s0 → PT N67_c27 | .mk f a d i j l m p o => .testB p (fun h0 => .ret (.e0 (.mk f a d i j d l m o))) (fun h0 => .ret (.e0 (.mk f a d i j a l m o)))
noncomputable def J67_c27 (y : T67_c27s0) : Option N67_c27 := (D67_c27 y).ev some
theorem J67_c27_ok (y : T67_c27s0) : CU 67 0 B67 27 E67_c27 (J67_c27 y) y.st := by
  cases y; exact cond_ok (L := notIn []) fun x => by kernel_rfl
inductive T67_0s0 where
  | mk (a d f : Int) (i : Nat) (j l : Int) (m : LV)
inductive T67_0e0 where
  | mk (a : Nat) (d : LV)
inductive N67_0 where
  | s0 (x : T67_0s0)
  | e0 (x : T67_0e0)
abbrev N67_0.out : N67_0 → VX × S
  | .s0 (.mk a d f i j l m) => (vN, S.mk (i64 a :: i64 d :: i64 f :: U :: U :: U :: pT 0 :: hS 1 i :: un 7 (i64 j :: i64 l :: un 27 [])) [oF 2 [[vb false, hS 2 0]], oT 2 m, oT 2 []])
  | .e0 (.mk o p) => (vX 0, S.mk (un 6 (pT 0 :: hS 1 o :: un 36 [])) [oF 2 [[vb false, hS 2 0]], oT 2 p, oT 2 []])
abbrev E67_0 := Ent.o2 N67_0.out .s0 .e0 (fun b => by cases b <;> simp)
noncomputable def D67_0 : T67_0s0 → PT N67_0 | .mk f q s i j d l => .test (d < j) (fun h0 => .test (f = 0) (fun _ => .fail) (fun h1 => .auto 1 <| .cut E67_c27 (J67_c27_ok (.mk f q s i (w64 (w64 (Int.tdiv (w64 (d * 11796480)) f) - 5898240)) j d (Int.tmod d 2 == 1) l)) fun | .e0 (.mk t u v a m o w y p) => .ask E127 (F127_ok m) fun ⟨z⟩ => .ask E125 (F125_ok o z) fun ⟨d0⟩ => .ask E128 (F128_ok 100000 m) fun ⟨d1⟩ => .ask E125 (F125_ok o d1) fun ⟨d2⟩ => .ask E123 (F123_ok d0 d2) fun ⟨d3, d4⟩ => .auto 1 <| .test (0 + a ≤ List.length p ∧ (a + 1) * 16 ≤ 140737488355328 ∧ a + 1 ≤ 140737488355328) (fun h2 => .ret (.s0 (.mk t u v (a + 1) w (w64 (y + 1)) (List.take a p ++ [[i64 d3, i64 d4]])))) (fun _ => .fail))) (fun h0 => .ret (.e0 (.mk i l)))
noncomputable def L67_0 := E67_0.loop fun | .s0 x => D67_0 x | _ => .fail
theorem L67_0_ok : LU 67 0 B67 0 E67_0 L67_0 :=
  lk (L := notIn []) (fun b hb => by cases b <;> first | (cases hb; done) | (rename_i x; cases x; intro x; kernel_rfl) | (intro x; kernel_rfl))
noncomputable def N67_0.nx (n : Nat) : N67_0 → Option N67_0 | .s0 x => L67_0 n (.s0 x) | .e0 x => some (.e0 x)
theorem L67_0_s0 (n : Nat) (x : T67_0s0) : L67_0 (n + 1) (.s0 x) = (D67_0 x).ev (N67_0.nx n) := Ent.loop_eq fun c => by cases c <;> rfl
noncomputable def D67 (a i j : Int) : PT A67 := .cut E67_0 (L67_0_ok (.s0 (.mk (if (if 16 < a then 16 else a) > 2 then if 16 < a then 16 else a else 2) i j 0 (w64 (2 * if (if 16 < a then 16 else a) > 2 then if 16 < a then 16 else a else 2)) 0 ([]))) rfl) fun | .e0 (.mk d f) => (.test (0 + d ≤ List.length f) (fun h0 => .ask E122 (F122_ok (List.take d f)) fun ⟨l, m, o⟩ => .auto 1 <| .ret (.a0 l m o)) (fun _ => .fail)) | _ => .fail
noncomputable def F67 (a d f : Int) : Option A67 := (D67 a d f).ev some
theorem F67_ok (a d f : Int) : FU E67 (F67 a d f) 67 [i64 a, i64 d, i64 f] := fu rfl rfl fun x => by kernel_rfl
/-! ## F224 -/
def F224 (a : LV) : Option A224 :=
  if List.length a * 16 ≤ 140737488355328 ∧ List.length a ≤ 140737488355328 then
   some (A224.a0 a)
  else
   none
theorem F224_ok (a : LV) (r : A224) (h : F224 a = some r) : UU 224 ([lS 2 a]) ([]) = some (A224.out r) := by
  unfold F224 at h
  rcases ite_eq h with ⟨h0, h⟩ | ⟨h0, h⟩
  · cases h
    exact UC_of (n := 1) (call_oracle (cloneO_eq rfl a h0))
  · cases h
/-! ## F170 -/
noncomputable def D170 (d : Bool) (f : LV) : PT A170 := .auto 2 <| .ask E224 (F224_ok f) fun ⟨a⟩ => .auto 1 <| .ret (.a0 d (List.length a) a)
noncomputable def F170 (a : Bool) (d : LV) : Option A170 := (D170 a d).ev some
theorem F170_ok (a : Bool) (d : LV) : FU E170 (F170 a d) 170 [V.agg [vb a, lS 2 d]] := fu rfl rfl fun x => by kernel_rfl
/-! ## F171 -/
noncomputable abbrev B171 : Code := (Tryz.f171.body).getD .skip
inductive T171_0s0 where
  | mk (a : Int) (d : LV) (f i : Int) (j : Bool) (l : LV) (m : Nat) (o : LV)
inductive T171_0e0 where
  | mk (a : Bool) (d : Nat) (f : LV)
inductive N171_0 where
  | s0 (x : T171_0s0)
  | e0 (x : T171_0e0)
abbrev N171_0.out : N171_0 → VX × S
  | .s0 (.mk d f i j a l m o) => (vN, S.mk (U :: U :: i64 d :: pT 0 :: U :: U :: pT 1 :: pT 2 :: un 14 (lS 2 f :: i64 i :: i64 j :: un 31 [])) [oF 2 [[vb a, lS 2 l]], oF 2 [[vb false, hS 3 0]], oF 2 [[vb a, hS 4 m]], oT 2 [], oT 2 o])
  | .e0 (.mk p q s) => (vX 0, S.mk (un 6 (pT 0 :: pT 1 :: un 48 [])) [oF 2 [[vb false, hS 2 0]], oF 2 [[vb p, hS 3 q]], oT 2 [], oT 2 s])
abbrev E171_0 := Ent.o2 N171_0.out .s0 .e0 (fun b => by cases b <;> simp)
noncomputable def D171_0 : T171_0s0 → PT N171_0 | .mk d l m a o f i j => .test (a < m) (fun h0 => .test (0 ≤ a) (fun h1 => .look RW28 (l[Int.toNat a]?) fun p => .auto 3 <| .known (decide_eq_true h1) <| .look RW28 (f[Int.toNat a]?) fun q => .auto 1 <| .ask E134 (F134_ok q.c0 p.c0 d) fun ⟨s⟩ => .auto 1 <| .known (decide_eq_true h1) <| .look RW28 (f[Int.toNat a]?) fun t => .auto 1 <| .ask E134 (F134_ok t.c1 p.c1 d) fun ⟨u⟩ => .test (0 ≤ a ∧ a < (↑i : Int)) (fun h2 => .look RW28 (j[(0 : Nat) + Int.toNat a]?) fun v => .ret (.s0 (.mk d l m (w64 (a + 1)) o f i (List.set j (0 + Int.toNat a) [i64 s, i64 u])))) (fun _ => .fail)) (fun _ => .fail)) (fun h0 => .ret (.e0 (.mk o i j)))
noncomputable def L171_0 := E171_0.loop fun | .s0 x => D171_0 x | _ => .fail
theorem L171_0_ok : LU 171 0 B171 0 E171_0 L171_0 :=
  lk (L := notIn []) (fun b hb => by cases b <;> first | (cases hb; done) | (rename_i x; cases x; intro x; kernel_rfl) | (intro x; kernel_rfl))
noncomputable def N171_0.nx (n : Nat) : N171_0 → Option N171_0 | .s0 x => L171_0 n (.s0 x) | .e0 x => some (.e0 x)
theorem L171_0_s0 (n : Nat) (x : T171_0s0) : L171_0 (n + 1) (.s0 x) = (D171_0 x).ev (N171_0.nx n) := Ent.loop_eq fun c => by cases c <;> rfl
noncomputable def D171 (d : Bool) (f : LV) (j : Bool) (i : LV) (l : Int) : PT A171 := .auto 2 <| .ask E224 (F224_ok f) fun ⟨a⟩ => .auto 3 <| .tot O178 (F178_ok d f j i) fun m => .testB (!m) (fun h0 => .auto 2 <| .ret (.a0 d (List.length a) a)) (fun h0 => .auto 1 <| .cut E171_0 (L171_0_ok (.s0 (.mk l i ((i.length : Int)) 0 d f (List.length a) a)) rfl) fun | .e0 (.mk o p q) => (.auto 2 <| .ret (.a0 o p q)) | _ => .fail)
noncomputable def F171 (a : Bool) (d : LV) (f : Bool) (i : LV) (j : Int) : Option A171 := (D171 a d f i j).ev some
theorem F171_ok (a : Bool) (d : LV) (f : Bool) (i : LV) (j : Int) : FU E171 (F171 a d f i j) 171 [V.agg [vb a, lS 2 d], V.agg [vb f, lS 2 i], i64 j] := fu rfl rfl fun x => by kernel_rfl
/-! ## F109 -/
noncomputable abbrev B109 : Code := (Tryz.f109.body).getD .skip
inductive T109_0s0 where
  | mk (a : LV) (d f : Int)
inductive T109_0e0 where
  | mk (a : LV) (d f : Int)
inductive N109_0 where
  | s0 (x : T109_0s0)
  | e0 (x : T109_0e0)
abbrev N109_0.out : N109_0 → VX × S
  | .s0 (.mk a d f) => (vN, S.mk (lS 8 a :: i64 d :: U :: U :: pT 0 :: i64 f :: un 66 []) [oF 2 [[vb false, hS 1 0]], oT 2 []])
  | .e0 (.mk i j l) => (vX 0, S.mk (lS 8 i :: i64 j :: U :: U :: pT 0 :: i64 l :: un 66 []) [oF 2 [[vb false, hS 1 0]], oT 2 []])
abbrev E109_0 := Ent.o2 N109_0.out .s0 .e0 (fun b => by cases b <;> simp)
noncomputable def D109_0 : T109_0s0 → PT N109_0 | .mk d f a => .test (a ≥ 0) (fun h0 => .auto 2 <| .test (0 ≤ a) (fun h1 => .look RW100 (d[Int.toNat a]?) fun i => .auto 5 <| .test (i.c0 > f) (fun h2 => .ret (.s0 (.mk d f (w64 (a - 1))))) (fun h2 => .ret (.e0 (.mk d f a)))) (fun _ => .fail)) (fun h0 => .auto 8 <| .ret (.e0 (.mk d f a)))
noncomputable def L109_0 := E109_0.loop fun | .s0 x => D109_0 x | _ => .fail
theorem L109_0_ok : LU 109 0 B109 0 E109_0 L109_0 :=
  lk (L := notIn []) (fun b hb => by cases b <;> first | (cases hb; done) | (rename_i x; cases x; intro x; kernel_rfl) | (intro x; kernel_rfl))
noncomputable def N109_0.nx (n : Nat) : N109_0 → Option N109_0 | .s0 x => L109_0 n (.s0 x) | .e0 x => some (.e0 x)
theorem L109_0_s0 (n : Nat) (x : T109_0s0) : L109_0 (n + 1) (.s0 x) = (D109_0 x).ev (N109_0.nx n) := Ent.loop_eq fun c => by cases c <;> rfl
noncomputable def D109 (i : LV) (o : Int) : PT A109 := .testB ((i.length : Int) == 0) (fun h0 => .auto 1 <| .ret (.a0 false 0 ([]))) (fun h0 => .cut E109_0 (L109_0_ok (.s0 (.mk i o (w64 ((i.length : Int) - 1)))) rfl) fun | .e0 (.mk f p a) => (.testB (a == -1) (fun h1 => .auto 1 <| .look RW100 (f[(0 : Nat)]?) fun l => .ask E170 (F170_ok l.c1 l.c2) fun ⟨q, s, t⟩ => .auto 1 <| .ret (.a0 q s t)) (fun h1 => .testB (a == w64 ((f.length : Int) - 1)) (fun h2 => .test (0 ≤ a) (fun h3 => .look RW100 (f[Int.toNat a]?) fun m => .ask E170 (F170_ok m.c1 m.c2) fun ⟨u, v, w⟩ => .auto 1 <| .ret (.a0 u v w)) (fun _ => .fail)) (fun h2 => .test (0 ≤ a) (fun h3 => .look RW100 (f[Int.toNat a]?) fun d => .test (0 ≤ w64 (a + 1)) (fun h4 => .look RW100 (f[Int.toNat (w64 (a + (1 : Int)))]?) fun j => .auto 8 <| .ask E136 (F136_ok d.c0 j.c0 p) fun ⟨y⟩ => .ask E135 (F135_ok d.c3 d.c4 d.c5 d.c6 d.c7 y) fun ⟨z⟩ => .ask E171 (F171_ok d.c1 d.c2 j.c1 j.c2 z) fun ⟨d0, d1, d2⟩ => .auto 1 <| .ret (.a0 d0 d1 d2)) (fun _ => .fail)) (fun _ => .fail)))) | _ => .fail)
noncomputable def F109 (a : LV) (d : Int) : Option A109 := (D109 a d).ev some
theorem F109_ok (a : LV) (d : Int) : FU E109 (F109 a d) 109 [lS 8 a, i64 d] := fu rfl rfl fun x => by kernel_rfl
/-! ## F51 -/
noncomputable def D51 (a : W34) (d : Int) : PT A51 := .auto 1 <| .ask E72 (F72_ok a.c2 d 0) fun ⟨f⟩ => .auto 1 <| .ask E72 (F72_ok a.c3 d 0) fun ⟨i⟩ => .auto 1 <| .testB (a.c0 == 0) (fun h0 => .ask E63 (F63_ok f i) fun ⟨j, l, m⟩ => .auto 1 <| .ret (.a0 j l m)) (fun h0 => .testB (a.c0 == 1) (fun h1 => .ask E65 (F65_ok f i) fun ⟨o, p, q⟩ => .auto 1 <| .ret (.a0 o p q)) (fun h1 => .testB (a.c0 == 2) (fun h2 => .auto 1 <| .ask E67 (F67_ok a.c1 f i) fun ⟨s, t, u⟩ => .auto 1 <| .ret (.a0 s t u)) (fun h2 => .testB (a.c0 == 3) (fun h3 => .auto 1 <| .ask E109 (F109_ok a.c4 d) fun ⟨v, w, y⟩ => .auto 1 <| .ret (.a0 v w y)) (fun h3 => .auto 1 <| .ret (.a0 false 0 ([]))))))
noncomputable def F51 (a : W34) (d : Int) : Option A51 := (D51 a d).ev some
theorem F51_ok (a : W34) (d : Int) : FU E51 (F51 a d) 51 [V.agg (W34.cells a), i64 d] := fu rfl rfl fun x => by kernel_rfl
/-! ## F283 -/
noncomputable def D283 (a d : Int) : PT Int := .auto 1 <| .ret (w64 (w64 (↑(BitVec.toNat (BitVec.ofInt (IntKind.bits IntKind.i64) a &&& BitVec.ofInt (IntKind.bits IntKind.i64) d)) : Int) + Int.fdiv (w64 (↑(BitVec.toNat (BitVec.ofInt (IntKind.bits IntKind.i64) a ^^^ BitVec.ofInt (IntKind.bits IntKind.i64) d)) : Int)) 2))
abbrev O283 (a : Int) : V × Store := (i64 a, [])
noncomputable def F283 (a d : Int) : Int := (D283 a d).evT
theorem F283_ok (a d : Int) : UU 283 ([i64 a, i64 d]) ([]) = some (O283 (F283 a d)) :=
  fnT_ok (out := O283) (L := notIn []) rfl rfl (fun x => by kernel_rfl) (by simp [D283, PT.isT])
/-! ## F264 -/
noncomputable def D264 (a d f i : Int) : PT A264 := .auto 2 <| .tot O283 (F283_ok a f) fun j => .auto 2 <| .tot O283 (F283_ok d i) fun l => .auto 1 <| .ret (.a0 j l)
noncomputable def F264 (a d f i : Int) : Option A264 := (D264 a d f i).ev some
theorem F264_ok (a d f i : Int) : FU E264 (F264 a d f i) 264 [V.agg [i64 a, i64 d], V.agg [i64 f, i64 i]] := fu rfl rfl fun x => by kernel_rfl
/-! ## F232v1 -/
abbrev K232v1 := Nat → Int → Int → Int → Int → Int → Int → Int → Int → Int → LV → Option A232v1
abbrev H232v1 (r : K232v1) : Prop := ∀ (a : Nat) (l m o p q s d f i : Int) (j : LV) (b : A232v1), r a l m o p q s d f i j = some b → UU 232 ([hS 0 a, V.agg [i64 l, i64 m], V.agg [i64 o, i64 p], V.agg [i64 q, i64 s], V.agg [i64 d, i64 f], i64 i]) ([oT 2 j]) = some (A232v1.out b)
noncomputable def D232v1 (rF232v1 : K232v1) (hF232v1 : H232v1 rF232v1) (a : Nat) (l m o p q s d f i : Int) (j : LV) : PT A232v1 := .testB (i == 0) (fun h0 => .auto 2 <| .test (0 + a ≤ List.length j ∧ (a + 1) * 16 ≤ 140737488355328 ∧ a + 1 ≤ 140737488355328) (fun h1 => .ret (.a0 (a + 1) (List.take a j ++ [[i64 d, i64 f]]))) (fun _ => .fail)) (fun h0 => .auto 2 <| .ask E264 (F264_ok l m o p) fun ⟨t, u⟩ => .auto 2 <| .ask E264 (F264_ok o p q s) fun ⟨v, w⟩ => .auto 2 <| .ask E264 (F264_ok q s d f) fun ⟨y, z⟩ => .auto 5 <| .ask E264 (F264_ok t u v w) fun ⟨d0, d1⟩ => .auto 2 <| .ask E264 (F264_ok v w y z) fun ⟨d2, d3⟩ => .auto 4 <| .ask E264 (F264_ok d0 d1 d2 d3) fun ⟨d4, d5⟩ => .auto 5 <| .ask E232v1 (hF232v1 a l m t u d0 d1 d4 d5 (w64 (i - 1)) j) fun ⟨d6, d7⟩ => .auto 4 <| .ask E232v1 (hF232v1 d6 d4 d5 d2 d3 y z d f (w64 (i - 1)) d7) fun ⟨d8, d9⟩ => .ret (.a0 d8 d9))
theorem D232v1_ok (rF232v1 : K232v1) (hF232v1 : H232v1 rF232v1) (a : Nat) (d f i j l m o p q : Int) (s : LV) : ∀ b, (D232v1 rF232v1 hF232v1 a d f i j l m o p q s).ev some = some b → UU 232 ([hS 0 a, V.agg [i64 d, i64 f], V.agg [i64 i, i64 j], V.agg [i64 l, i64 m], V.agg [i64 o, i64 p], i64 q]) ([oT 2 s]) = some (A232v1.out b) :=
  fn_ok (E := E232v1) (L := notIn []) rfl rfl (fun x => by kernel_rfl)
noncomputable def G232v1 : Nat → { r : Nat → Int → Int → Int → Int → Int → Int → Int → Int → Int → LV → Option A232v1 // ∀ (a : Nat) (d f i j l m o p q : Int) (s : LV) (b : A232v1), r a d f i j l m o p q s = some b → UU 232 ([hS 0 a, V.agg [i64 d, i64 f], V.agg [i64 i, i64 j], V.agg [i64 l, i64 m], V.agg [i64 o, i64 p], i64 q]) ([oT 2 s]) = some (A232v1.out b) }
  | 0 => ⟨fun _ _ _ _ _ _ _ _ _ _ _ => none, fun _ _ _ _ _ _ _ _ _ _ _ _ h => by cases h⟩
  | n + 1 => ⟨fun a d f i j l m o p q s => (D232v1 (G232v1 n).1 (G232v1 n).2 a d f i j l m o p q s).ev some, fun a d f i j l m o p q s => D232v1_ok (G232v1 n).1 (G232v1 n).2 a d f i j l m o p q s⟩
noncomputable def F232v1 (n a : Nat) (d f i j l m o p q : Int) (s : LV) : Option A232v1 := (G232v1 n).1 a d f i j l m o p q s
theorem F232v1_ok (n a : Nat) (d f i j l m o p q : Int) (s : LV) : ∀ b, F232v1 n a d f i j l m o p q s = some b → UU 232 ([hS 0 a, V.agg [i64 d, i64 f], V.agg [i64 i, i64 j], V.agg [i64 l, i64 m], V.agg [i64 o, i64 p], i64 q]) ([oT 2 s]) = some (A232v1.out b) := (G232v1 n).2 a d f i j l m o p q s
theorem F232v1_succ (n a : Nat) (d f i j l m o p q : Int) (s : LV) : F232v1 (n + 1) a d f i j l m o p q s = (D232v1 (F232v1 n) (F232v1_ok n) a d f i j l m o p q s).ev some := rfl
/-! ## F232 -/
abbrev K232 := Int → Int → Int → Int → Int → Int → Int → Int → Int → Option A232
abbrev H232 (r : K232) : Prop := ∀ (i j l m o p a d f : Int) (b : A232), r i j l m o p a d f = some b → UU 232 ([V.nilS, V.agg [i64 i, i64 j], V.agg [i64 l, i64 m], V.agg [i64 o, i64 p], V.agg [i64 a, i64 d], i64 f]) ([]) = some (A232.out b)
noncomputable def D232 (rF232 : K232) (hF232 : H232 rF232) (i j l m o p a d f : Int) : PT A232 := .testB (f == 0) (fun h0 => .auto 3 <| .ret (.a0 1 ([[i64 a, i64 d]]))) (fun h0 => .auto 2 <| .ask E264 (F264_ok i j l m) fun ⟨q, s⟩ => .auto 2 <| .ask E264 (F264_ok l m o p) fun ⟨t, u⟩ => .auto 2 <| .ask E264 (F264_ok o p a d) fun ⟨v, w⟩ => .auto 5 <| .ask E264 (F264_ok q s t u) fun ⟨y, z⟩ => .auto 2 <| .ask E264 (F264_ok t u v w) fun ⟨d0, d1⟩ => .auto 4 <| .ask E264 (F264_ok y z d0 d1) fun ⟨d2, d3⟩ => .auto 5 <| .ask E232 (hF232 i j q s y z d2 d3 (w64 (f - 1))) fun ⟨d4, d5⟩ => .auto 4 <| .ask E232v1 (F232v1_ok 100000 d4 d2 d3 d0 d1 v w a d (w64 (f - 1)) d5) fun ⟨d6, d7⟩ => .ret (.a0 d6 d7))
theorem D232_ok (rF232 : K232) (hF232 : H232 rF232) (a d f i j l m o p : Int) : ∀ b, (D232 rF232 hF232 a d f i j l m o p).ev some = some b → UU 232 ([V.nilS, V.agg [i64 a, i64 d], V.agg [i64 f, i64 i], V.agg [i64 j, i64 l], V.agg [i64 m, i64 o], i64 p]) ([]) = some (A232.out b) :=
  fn_ok (E := E232) (L := notIn []) rfl rfl (fun x => by kernel_rfl)
noncomputable def G232 : Nat → { r : Int → Int → Int → Int → Int → Int → Int → Int → Int → Option A232 // ∀ (a d f i j l m o p : Int) (b : A232), r a d f i j l m o p = some b → UU 232 ([V.nilS, V.agg [i64 a, i64 d], V.agg [i64 f, i64 i], V.agg [i64 j, i64 l], V.agg [i64 m, i64 o], i64 p]) ([]) = some (A232.out b) }
  | 0 => ⟨fun _ _ _ _ _ _ _ _ _ => none, fun _ _ _ _ _ _ _ _ _ _ h => by cases h⟩
  | n + 1 => ⟨fun a d f i j l m o p => (D232 (G232 n).1 (G232 n).2 a d f i j l m o p).ev some, fun a d f i j l m o p => D232_ok (G232 n).1 (G232 n).2 a d f i j l m o p⟩
noncomputable def F232 (n : Nat) (a d f i j l m o p : Int) : Option A232 := (G232 n).1 a d f i j l m o p
theorem F232_ok (n : Nat) (a d f i j l m o p : Int) : ∀ b, F232 n a d f i j l m o p = some b → UU 232 ([V.nilS, V.agg [i64 a, i64 d], V.agg [i64 f, i64 i], V.agg [i64 j, i64 l], V.agg [i64 m, i64 o], i64 p]) ([]) = some (A232.out b) := (G232 n).2 a d f i j l m o p
theorem F232_succ (n : Nat) (a d f i j l m o p : Int) : F232 (n + 1) a d f i j l m o p = (D232 (F232 n) (F232_ok n) a d f i j l m o p).ev some := rfl
/-! ## F192 -/
noncomputable def D192 (a d f i j l m o : Int) : PT A192 := .auto 4 <| .ask E232 (F232_ok 100000 a d f i j l m o 3) fun ⟨p, q⟩ => .ret (.a0 p q)
noncomputable def F192 (a d f i j l m o : Int) : Option A192 := (D192 a d f i j l m o).ev some
theorem F192_ok (a d f i j l m o : Int) : FU E192 (F192 a d f i j l m o) 192 [V.agg [i64 a, i64 d], V.agg [i64 f, i64 i], V.agg [i64 j, i64 l], V.agg [i64 m, i64 o]] := fu rfl rfl fun x => by kernel_rfl
/-! ## F138 -/
noncomputable abbrev B138 : Code := (Tryz.f138.body).getD .skip
inductive T138_r8s0 where
  | mk (a : Nat) (d : Int) (f : Bool) (i j : LV) (l m o p q s t u : Int)
abbrev T138_r8s0.st : T138_r8s0 → S
  | .mk a d f i j l m o p q s t u => S.mk (U :: pT 0 :: pT 1 :: hS 2 a :: i64 d :: pT 3 :: pT 4 :: pT 5 :: pT 6 :: un 69 []) [oF 2 [[vb f, lS 2 i]], oF 2 [[vb false, hS 7 0]], oT 2 j, oF 2 [[i64 l, i64 m]], oF 2 [[i64 o, i64 p]], oF 2 [[i64 q, i64 s]], oF 2 [[i64 t, i64 u]], oT 2 []]
inductive T138_r8e0 where
  | mk (a : Nat) (d : Int) (f i : Bool) (j l : LV) (m o p q s t u v : Int)
inductive N138_r8 where
  | e0 (x : T138_r8e0)
abbrev N138_r8.out : N138_r8 → VX × S
  | .e0 (.mk a d f i j l m o p q s t u v) => (vN, S.mk (U :: pT 0 :: pT 1 :: hS 2 a :: i64 d :: pT 3 :: pT 4 :: pT 5 :: pT 6 :: un 53 (vb f :: un 15 [])) [oF 2 [[vb i, lS 2 j]], oF 2 [[vb false, hS 7 0]], oT 2 l, oF 2 [[i64 m, i64 o]], oF 2 [[i64 p, i64 q]], oF 2 [[i64 s, i64 t]], oF 2 [[i64 u, i64 v]], oT 2 []])
abbrev E138_r8 := Ent.o1 N138_r8.out .e0 fun ⟨x⟩ => ⟨x, rfl⟩
noncomputable def D138_r8 : T138_r8s0 → PT N138_r8 | .mk p q s t u a d f i j l m o => .auto 2 <| .testB (f == a && (i == d && true)) (fun h0 => .auto 5 <| .ret (.e0 (.mk p q (j == m && (l == o && true)) s t u a d f i j l m o))) (fun h0 => .auto 3 <| .ret (.e0 (.mk p q false s t u a d f i j l m o)))
noncomputable def J138_r8 (y : T138_r8s0) : Option N138_r8 := (D138_r8 y).ev some
theorem J138_r8_ok (y : T138_r8s0) : ∀ b, J138_r8 y = some b → regP Tryz.prog X CC 138 0 B138 8 y.st = some (E138_r8.out b) := by
  cases y; exact reg_ok (E := E138_r8) (fun x => by kernel_rfl)
inductive T138_0s0 where
  | mk (a : Nat) (d : Int) (f : Bool) (i j : LV)
inductive T138_0e0 where
  | mk (a : Nat) (d : Bool) (f i : LV)
inductive N138_0 where
  | s0 (x : T138_0s0)
  | e0 (x : T138_0e0)
abbrev N138_0.out : N138_0 → VX × S
  | .s0 (.mk a d f i j) => (vN, S.mk (U :: pT 0 :: pT 1 :: hS 2 a :: i64 d :: un 73 []) [oF 2 [[vb f, lS 2 i]], oF 2 [[vb false, hS 3 0]], oT 2 j, oT 2 []])
  | .e0 (.mk l m o p) => (vX 0, S.mk (U :: pT 0 :: pT 1 :: hS 2 l :: un 74 []) [oF 2 [[vb m, lS 2 o]], oF 2 [[vb false, hS 3 0]], oT 2 p, oT 2 []])
abbrev E138_0 := Ent.o2 N138_0.out .s0 .e0 (fun b => by cases b <;> simp)
noncomputable def D138_0 : T138_0s0 → PT N138_0 | .mk m a o f p => .auto 1 <| .test (w64 (a + 3) < (f.length : Int)) (fun h0 => .auto 1 <| .test (0 ≤ a) (fun h1 => .look RW28 (f[Int.toNat a]?) fun q => .auto 1 <| .test (0 ≤ w64 (a + 1)) (fun h2 => .look RW28 (f[Int.toNat (w64 (a + (1 : Int)))]?) fun s => .auto 1 <| .test (0 ≤ w64 (a + 2)) (fun h3 => .look RW28 (f[Int.toNat (w64 (a + (2 : Int)))]?) fun t => .auto 1 <| .test (0 ≤ w64 (a + 3)) (fun h4 => .look RW28 (f[Int.toNat (w64 (a + (3 : Int)))]?) fun u => .auto 4 <| .cut E138_r8 (J138_r8_ok (.mk m a o f p q.c0 q.c1 s.c0 s.c1 t.c0 t.c1 u.c0 u.c1)) fun | .e0 (.mk d v d1 w y l d2 d3 d4 d5 d6 d7 z d0) => .testB d1 (fun h5 => .auto 2 <| .test (0 + d ≤ List.length l ∧ (d + 1) * 16 ≤ 140737488355328 ∧ d + 1 ≤ 140737488355328) (fun h6 => .ret (.s0 (.mk (d + 1) (w64 (v + 3)) w y (List.take d l ++ [[i64 z, i64 d0]])))) (fun _ => .fail)) (fun h5 => .auto 4 <| .ask E192 (F192_ok d2 d3 d4 d5 d6 d7 z d0) fun ⟨i, j⟩ => .test (0 + i ≤ List.length j) (fun h6 => .test (0 + d ≤ List.length l ∧ (d + List.length (List.take i j)) * 16 ≤ 140737488355328 ∧ d + List.length (List.take i j) ≤ 140737488355328) (fun h7 => .ret (.s0 (.mk (d + List.length (List.take i j)) (w64 (v + 3)) w y (List.take d l ++ List.take i j)))) (fun _ => .fail)) (fun _ => .fail))) (fun _ => .fail)) (fun _ => .fail)) (fun _ => .fail)) (fun _ => .fail)) (fun h0 => .ret (.e0 (.mk m o f p)))
noncomputable def L138_0 := E138_0.loop fun | .s0 x => D138_0 x | _ => .fail
theorem L138_0_ok : LU 138 0 B138 0 E138_0 L138_0 :=
  lk (L := notIn []) (fun b hb => by cases b <;> first | (cases hb; done) | (rename_i x; cases x; intro x; kernel_rfl) | (intro x; kernel_rfl))
noncomputable def N138_0.nx (n : Nat) : N138_0 → Option N138_0 | .s0 x => L138_0 n (.s0 x) | .e0 x => some (.e0 x)
theorem L138_0_s0 (n : Nat) (x : T138_0s0) : L138_0 (n + 1) (.s0 x) = (D138_0 x).ev (N138_0.nx n) := Ent.loop_eq fun c => by cases c <;> rfl
inductive T138_r1s0 where
  | mk (a : Bool) (d : LV)
abbrev T138_r1s0.st : T138_r1s0 → S
  | .mk a d => S.mk (U :: pT 0 :: pT 1 :: un 75 []) [oF 2 [[vb a, lS 2 d]], oF 2 [[vb false, hS 2 0]], oT 2 []]
inductive T138_r1e0 where
  | mk (a d : Bool) (f : LV)
inductive N138_r1 where
  | e0 (x : T138_r1e0)
abbrev N138_r1.out : N138_r1 → VX × S
  | .e0 (.mk a d f) => (vN, S.mk (U :: pT 0 :: pT 1 :: un 12 (vb a :: un 62 [])) [oF 2 [[vb d, lS 2 f]], oF 2 [[vb false, hS 2 0]], oT 2 []])
abbrev E138_r1 := Ent.o1 N138_r1.out .e0 fun ⟨x⟩ => ⟨x, rfl⟩
noncomputable def D138_r1 : T138_r1s0 → PT N138_r1 | .mk a d => .auto 1 <| .tot O146 (F146_ok a d) fun f => .testB f (fun h0 => .auto 3 <| .ret (.e0 (.mk true a d))) (fun h0 => .auto 2 <| .ask E177 (F177_ok a d) fun ⟨i⟩ => .auto 2 <| .ret (.e0 (.mk (!i) a d)))
noncomputable def J138_r1 (y : T138_r1s0) : Option N138_r1 := (D138_r1 y).ev some
theorem J138_r1_ok (y : T138_r1s0) : ∀ b, J138_r1 y = some b → regP Tryz.prog X CC 138 0 B138 1 y.st = some (E138_r1.out b) := by
  cases y; exact reg_ok (E := E138_r1) (fun x => by kernel_rfl)
noncomputable def D138 (i : Bool) (j : LV) : PT A138 := .cut E138_r1 (J138_r1_ok (.mk i j)) fun | .e0 (.mk l a d) => .testB l (fun h0 => .auto 2 <| .ret (.a0 a 0 ([]))) (fun h0 => .auto 2 <| .look RW28 (d[(0 : Nat)]?) fun f => .cut E138_0 (L138_0_ok (.s0 (.mk 1 0 a d ([[i64 f.c0, i64 f.c1]]))) rfl) fun | .e0 (.mk m o q p) => (.auto 2 <| .ret (.a0 o m p)) | _ => .fail)
noncomputable def F138 (a : Bool) (d : LV) : Option A138 := (D138 a d).ev some
theorem F138_ok (a : Bool) (d : LV) : FU E138 (F138 a d) 138 [V.agg [vb a, lS 2 d]] := fu rfl rfl fun x => by kernel_rfl
/-! ## F233 -/
noncomputable def D233 (d f i j l m o p q : Int) : PT A233 := .tot O132 (F132_ok q) fun a => .auto 5 <| .tot O74 (F74_ok (w64 (w64 d + Int.fdiv (w64 (w64 (w64 l - w64 d) * a)) 65536)) 0 255) fun s => .auto 6 <| .tot O74 (F74_ok (w64 (w64 f + Int.fdiv (w64 (w64 (w64 m - w64 f) * a)) 65536)) 0 255) fun t => .auto 6 <| .tot O74 (F74_ok (w64 (w64 i + Int.fdiv (w64 (w64 (w64 o - w64 i) * a)) 65536)) 0 255) fun u => .auto 6 <| .tot O74 (F74_ok (w64 (w64 j + Int.fdiv (w64 (w64 (w64 p - w64 j) * a)) 65536)) 0 255) fun v => .auto 4 <| .ret (.a0 (IntKind.wrap IntKind.u8 s) (IntKind.wrap IntKind.u8 t) (IntKind.wrap IntKind.u8 u) (IntKind.wrap IntKind.u8 v))
noncomputable def F233 (a d f i j l m o p : Int) : Option A233 := (D233 a d f i j l m o p).ev some
theorem F233_ok (a d f i j l m o p : Int) : ∀ b, F233 a d f i j l m o p = some b → UU 233 ([V.agg [u8 a, u8 d, u8 f, u8 i], V.agg [u8 j, u8 l, u8 m, u8 o], i64 p]) ([]) = some (A233.out b) :=
  fn_ok (E := E233) (L := notIn [0]) rfl rfl (fun x => by kernel_rfl)
/-! ## F193 -/
noncomputable abbrev B193 : Code := (Tryz.f193.body).getD .skip
inductive T193_0s0 where
  | mk (a : LV) (d f : Int)
inductive T193_0e0 where
  | mk (a : LV) (d f : Int)
inductive N193_0 where
  | s0 (x : T193_0s0)
  | e0 (x : T193_0e0)
abbrev N193_0.out : N193_0 → VX × S
  | .s0 (.mk a d f) => (vN, S.mk (lS 10 a :: i64 d :: un 4 (pT 0 :: i64 f :: un 64 [])) [oF 4 [[u8 0, u8 0, u8 0, u8 0]]])
  | .e0 (.mk i j l) => (vX 0, S.mk (lS 10 i :: i64 j :: un 4 (pT 0 :: i64 l :: un 64 [])) [oF 4 [[u8 0, u8 0, u8 0, u8 0]]])
abbrev E193_0 := Ent.o2 N193_0.out .s0 .e0 (fun b => by cases b <;> simp)
noncomputable def D193_0 : T193_0s0 → PT N193_0 | .mk d f a => .test (a ≥ 0) (fun h0 => .auto 2 <| .test (0 ≤ a) (fun h1 => .look RW108 (d[Int.toNat a]?) fun i => .auto 5 <| .test (i.c0 > f) (fun h2 => .ret (.s0 (.mk d f (w64 (a - 1))))) (fun h2 => .ret (.e0 (.mk d f a)))) (fun _ => .fail)) (fun h0 => .auto 8 <| .ret (.e0 (.mk d f a)))
noncomputable def L193_0 := E193_0.loop fun | .s0 x => D193_0 x | _ => .fail
theorem L193_0_ok : LU 193 0 B193 0 E193_0 L193_0 :=
  lk (L := notIn []) (fun b hb => by cases b <;> first | (cases hb; done) | (rename_i x; cases x; intro x; kernel_rfl) | (intro x; kernel_rfl))
noncomputable def N193_0.nx (n : Nat) : N193_0 → Option N193_0 | .s0 x => L193_0 n (.s0 x) | .e0 x => some (.e0 x)
theorem L193_0_s0 (n : Nat) (x : T193_0s0) : L193_0 (n + 1) (.s0 x) = (D193_0 x).ev (N193_0.nx n) := Ent.loop_eq fun c => by cases c <;> rfl
noncomputable def D193 (m : LV) (o p q s t : Int) : PT A193 := .testB ((m.length : Int) == 0) (fun h0 => .auto 2 <| .ret (.a0 p q s t)) (fun h0 => .cut E193_0 (L193_0_ok (.s0 (.mk m o (w64 ((m.length : Int) - 1)))) rfl) fun | .e0 (.mk f u d) => (.testB (d == -1) (fun h1 => .auto 1 <| .look RW108 (f[(0 : Nat)]?) fun j => .auto 1 <| .ret (.a0 j.c1 j.c2 j.c3 j.c4)) (fun h1 => .testB (d == w64 ((f.length : Int) - 1)) (fun h2 => .test (0 ≤ d) (fun h3 => .look RW108 (f[Int.toNat d]?) fun l => .auto 1 <| .ret (.a0 l.c1 l.c2 l.c3 l.c4)) (fun _ => .fail)) (fun h2 => .test (0 ≤ d) (fun h3 => .look RW108 (f[Int.toNat d]?) fun a => .test (0 ≤ w64 (d + 1)) (fun h4 => .look RW108 (f[Int.toNat (w64 (d + (1 : Int)))]?) fun i => .auto 8 <| .ask E136 (F136_ok a.c0 i.c0 u) fun ⟨v⟩ => .ask E135 (F135_ok a.c5 a.c6 a.c7 a.c8 a.c9 v) fun ⟨w⟩ => .ask E233 (F233_ok a.c1 a.c2 a.c3 a.c4 i.c1 i.c2 i.c3 i.c4 w) fun ⟨y, z, d0, d1⟩ => .auto 1 <| .ret (.a0 y z d0 d1)) (fun _ => .fail)) (fun _ => .fail)))) | _ => .fail)
noncomputable def F193 (a : LV) (d f i j l : Int) : Option A193 := (D193 a d f i j l).ev some
theorem F193_ok (a : LV) (d f i j l : Int) : FU E193 (F193 a d f i j l) 193 [lS 10 a, i64 d, V.agg [u8 f, u8 i, u8 j, u8 l]] := fu rfl rfl fun x => by kernel_rfl
/-! ## F241 -/
noncomputable def D241 (a : Int) : PT Int := .tot O74 (F74_ok a (-536870912) 536870912) fun d => .ret d
abbrev O241 (a : Int) : V × Store := (i64 a, [])
noncomputable def F241 (a : Int) : Int := (D241 a).evT
theorem F241_ok (a : Int) : UU 241 ([i64 a]) ([]) = some (O241 (F241 a)) :=
  fnT_ok (out := O241) (L := notIn []) rfl rfl (fun x => by kernel_rfl) (by simp [D241, PT.isT])
/-! ## F198 -/
noncomputable def D198 (a : W59) (d f : Int) : PT A198 := .auto 4 <| .ask E137 (F137_ok a.c0 d a.c2 f) fun ⟨i⟩ => .auto 1 <| .tot O131 (F131_ok i a.c4) fun j => .tot O241 (F241_ok j) fun l => .auto 4 <| .ask E137 (F137_ok a.c1 d a.c3 f) fun ⟨m⟩ => .auto 1 <| .tot O131 (F131_ok m a.c5) fun o => .tot O241 (F241_ok o) fun p => .auto 1 <| .ret (.a0 l p)
noncomputable def F198 (a : W59) (d f : Int) : Option A198 := (D198 a d f).ev some
theorem F198_ok (a : W59) (d f : Int) : FU E198 (F198 a d f) 198 [V.agg (W59.cells a), V.agg [i64 d, i64 f]] := fu rfl rfl fun x => by kernel_rfl
/-! ## F147 -/
noncomputable abbrev B147 : Code := (Tryz.f147.body).getD .skip
inductive T147_2s0 where
  | mk (a : Nat) (d : LV) (f i : Int) (j : LV) (l m : Int) (o : W59) (p : LV) (q : Bool) (s : Nat) (t : LV)
inductive T147_2e0 where
  | mk (a : Nat) (d : LV) (f i : Int) (j : W59) (l : LV) (m : Bool) (o : Nat) (p : LV)
inductive N147_2 where
  | s0 (x : T147_2s0)
  | e0 (x : T147_2e0)
abbrev N147_2.out : N147_2 → VX × S
  | .s0 (.mk a d f i j l m o p q s t) => (vN, S.mk (U :: U :: pT 0 :: U :: U :: hS 1 a :: U :: U :: pT 2 :: U :: U :: lS 2 d :: i64 f :: i64 i :: un 7 (lS 2 j :: i64 l :: i64 m :: un 18 [])) [oF 6 [W59.cells o], oT 2 p, oF 2 [[vb q, hS 3 s]], oT 2 t])
  | .e0 (.mk u v w y z d0 d1 d2 d3) => (vX 2, S.mk (U :: U :: pT 0 :: U :: U :: hS 1 u :: U :: U :: pT 2 :: U :: U :: lS 2 v :: i64 w :: i64 y :: un 28 []) [oF 6 [W59.cells z], oT 2 d0, oF 2 [[vb d1, hS 3 d2]], oT 2 d3])
abbrev E147_2 := Ent.o2 N147_2.out .s0 .e0 (fun b => by cases b <;> simp)
noncomputable def D147_2 : T147_2s0 → PT N147_2 | .mk j l m o p q d f s t a i => .test (d < q) (fun h0 => .test (0 ≤ d) (fun h1 => .look RW28 (p[Int.toNat d]?) fun u => .auto 4 <| .ask E198 (F198_ok f u.c0 u.c1) fun ⟨v, w⟩ => .auto 1 <| .test (0 + a ≤ List.length i ∧ (a + 1) * 16 ≤ 140737488355328 ∧ a + 1 ≤ 140737488355328) (fun h2 => .auto 1 <| .ret (.s0 (.mk j l m o p q (w64 (d + 1)) f s t (a + 1) (List.take a i ++ [[i64 v, i64 w]])))) (fun _ => .fail)) (fun _ => .fail)) (fun h0 => .ret (.e0 (.mk j l m o f s t a i)))
noncomputable def L147_2 := E147_2.loop fun | .s0 x => D147_2 x | _ => .fail
theorem L147_2_ok : LU 147 0 B147 2 E147_2 L147_2 :=
  lk (L := notIn []) (fun b hb => by cases b <;> first | (cases hb; done) | (rename_i x; cases x; intro x; kernel_rfl) | (intro x; kernel_rfl))
noncomputable def N147_2.nx (n : Nat) : N147_2 → Option N147_2 | .s0 x => L147_2 n (.s0 x) | .e0 x => some (.e0 x)
theorem L147_2_s0 (n : Nat) (x : T147_2s0) : L147_2 (n + 1) (.s0 x) = (D147_2 x).ev (N147_2.nx n) := Ent.loop_eq fun c => by cases c <;> rfl
inductive T147_0s0 where
  | mk (a : Nat) (d : LV) (f i : Int) (j : W59) (l : LV)
inductive T147_0e0 where
  | mk (a : Nat) (d : LV)
inductive N147_0 where
  | s0 (x : T147_0s0)
  | e0 (x : T147_0e0)
abbrev N147_0.out : N147_0 → VX × S
  | .s0 (.mk a d f i j l) => (vN, S.mk (U :: U :: pT 0 :: U :: U :: hS 1 a :: un 5 (lS 2 d :: i64 f :: i64 i :: un 28 [])) [oF 6 [W59.cells j], oT 2 l])
  | .e0 (.mk m o) => (vX 0, S.mk (un 5 (hS 0 m :: un 36 [])) [oT 2 o])
abbrev E147_0 := Ent.o2 N147_0.out .s0 .e0 (fun b => by cases b <;> simp)
noncomputable def D147_0 : T147_0s0 → PT N147_0 | .mk i j l d s m => .test (d < l) (fun h0 => .test (0 ≤ d) (fun h1 => .look RW88 (j[Int.toNat d]?) fun f => .auto 4 <| .cut E147_2 (L147_2_ok (.s0 (.mk i j l d f.c1 (((List.length f.c1) : Int)) 0 s m f.c0 0 ([]))) rfl) fun | .e0 (.mk a t u v w o y p q) => (.auto 1 <| .test (0 + p ≤ List.length q) (fun h2 => .auto 1 <| .test (0 + a ≤ List.length o ∧ (a + 1) * 32 ≤ 140737488355328 ∧ a + 1 ≤ 140737488355328) (fun h3 => .ret (.s0 (.mk (a + 1) t u (w64 (v + 1)) w (List.take a o ++ [[vb y, lS 2 (List.take p q)]])))) (fun _ => .fail)) (fun _ => .fail)) | _ => .fail) (fun _ => .fail)) (fun h0 => .ret (.e0 (.mk i m)))
noncomputable def L147_0 := E147_0.loop fun | .s0 x => D147_0 x | _ => .fail
theorem L147_0_ok : LU 147 0 B147 0 E147_0 L147_0 :=
  lk (L := notIn []) (fun b hb => by cases b <;> first | (cases hb; done) | (rename_i x; cases x; intro x; kernel_rfl) | (intro x; kernel_rfl))
noncomputable def N147_0.nx (n : Nat) : N147_0 → Option N147_0 | .s0 x => L147_0 n (.s0 x) | .e0 x => some (.e0 x)
theorem L147_0_s0 (n : Nat) (x : T147_0s0) : L147_0 (n + 1) (.s0 x) = (D147_0 x).ev (N147_0.nx n) := Ent.loop_eq fun c => by cases c <;> rfl
noncomputable def D147 (d : W59) (a : LV) : PT A147 := .cut E147_0 (L147_0_ok (.s0 (.mk 0 a ((a.length : Int)) 0 d ([]))) rfl) fun | .e0 (.mk f i) => .ret (.a0 f i) | _ => .fail
noncomputable def F147 (a : W59) (d : LV) : Option A147 := (D147 a d).ev some
theorem F147_ok (a : W59) (d : LV) : FU E147 (F147 a d) 147 [V.agg (W59.cells a), lS 2 d] := fu rfl rfl fun x => by kernel_rfl
/-! ## F284 -/
noncomputable abbrev B284 : Code := (Tryz.f284.body).getD .skip
inductive T284_0s0 where
  | mk (a d f : Int)
inductive T284_0e0 where
  | mk (a : Int)
inductive N284_0 where
  | s0 (x : T284_0s0)
  | e0 (x : T284_0e0)
abbrev N284_0.out : N284_0 → VX × S
  | .s0 (.mk a d f) => (vN, S.mk (V.int IntKind.u64 a :: U :: U :: V.int IntKind.u64 d :: V.int IntKind.u64 f :: un 16 []) [])
  | .e0 (.mk i) => (vX 0, S.mk (U :: U :: U :: V.int IntKind.u64 i :: un 17 []) [])
abbrev E284_0 := Ent.o2 N284_0.out .s0 .e0 (fun b => by cases b <;> simp)
noncomputable def D284_0 : T284_0s0 → PT N284_0 | .mk f d a => .test (a > 0) (fun h0 => .test (IntKind.wrap IntKind.u64 (IntKind.wrap IntKind.u64 (↑(BitVec.toNat (BitVec.ofInt (IntKind.bits IntKind.u64) d ||| BitVec.ofInt (IntKind.bits IntKind.u64) a)) : Int) * IntKind.wrap IntKind.u64 (↑(BitVec.toNat (BitVec.ofInt (IntKind.bits IntKind.u64) d ||| BitVec.ofInt (IntKind.bits IntKind.u64) a)) : Int)) ≤ f) (fun h1 => .auto 1 <| .ret (.s0 (.mk f (IntKind.wrap IntKind.u64 (↑(BitVec.toNat (BitVec.ofInt (IntKind.bits IntKind.u64) d ||| BitVec.ofInt (IntKind.bits IntKind.u64) a)) : Int)) (Int.fdiv a 2)))) (fun h1 => .auto 1 <| .ret (.s0 (.mk f d (Int.fdiv a 2))))) (fun h0 => .ret (.e0 (.mk d)))
noncomputable def L284_0 := E284_0.loop fun | .s0 x => D284_0 x | _ => .fail
theorem L284_0_ok : LU 284 0 B284 0 E284_0 L284_0 :=
  lk (L := notIn []) (fun b hb => by cases b <;> first | (cases hb; done) | (rename_i x; cases x; intro x; kernel_rfl) | (intro x; kernel_rfl))
noncomputable def N284_0.nx (n : Nat) : N284_0 → Option N284_0 | .s0 x => L284_0 n (.s0 x) | .e0 x => some (.e0 x)
theorem L284_0_s0 (n : Nat) (x : T284_0s0) : L284_0 (n + 1) (.s0 x) = (D284_0 x).ev (N284_0.nx n) := Ent.loop_eq fun c => by cases c <;> rfl
noncomputable def D284 (a : Int) : PT A284 := .cut E284_0 (L284_0_ok (.s0 (.mk a 0 2147483648)) rfl) fun | .e0 (.mk d) => .ret (.a0 (w64 d)) | _ => .fail
noncomputable def F284 (a : Int) : Option A284 := (D284 a).ev some
theorem F284_ok (a : Int) : FU E284 (F284 a) 284 [V.int IntKind.u64 a] := fu rfl rfl fun x => by kernel_rfl
/-! ## F265 -/
noncomputable def D265 (f i : Int) : PT A265 := .tot O74 (F74_ok f (-1073741824) 1073741824) fun a => .tot O74 (F74_ok i (-1073741824) 1073741824) fun d => .ask E284 (F284_ok (IntKind.wrap IntKind.u64 (w64 (w64 (a * a) + w64 (d * d))))) fun ⟨j⟩ => .tot O132 (F132_ok j) fun l => .ret (.a0 l)
noncomputable def F265 (a d : Int) : Option A265 := (D265 a d).ev some
theorem F265_ok (a d : Int) : FU E265 (F265 a d) 265 [i64 a, i64 d] := fu rfl rfl fun x => by kernel_rfl
/-! ## F234 -/
noncomputable def D234 (a : W59) : PT A234 := .auto 2 <| .ask E265 (F265_ok a.c0 a.c1) fun ⟨d⟩ => .ret (.a0 d)
noncomputable def F234 (a : W59) : Option A234 := (D234 a).ev some
theorem F234_ok (a : W59) : FU E234 (F234 a) 234 [V.agg (W59.cells a)] := fu rfl rfl fun x => by kernel_rfl
/-! ## F194 -/
noncomputable def D194 (a : W59) (d f i j l m o p q s t u v w : Int) : PT A194 := .auto 2 <| .ask E198 (F198_ok a s t) fun ⟨y, z⟩ => .auto 2 <| .ask E198 (F198_ok a u v) fun ⟨d0, d1⟩ => .auto 2 <| .ask E234 (F234_ok a) fun ⟨d2⟩ => .ask E125 (F125_ok w d2) fun ⟨d3⟩ => .auto 5 <| .ret (.a0 d f i j l m o p q y z d0 d1 d3)
noncomputable def F194 (a : W59) (d f i j l m o p q s t u v w : Int) : Option A194 := (D194 a d f i j l m o p q s t u v w).ev some
theorem F194_ok (a : W59) (d f i j l m o p q s t u v w : Int) : FU E194 (F194 a d f i j l m o p q s t u v w) 194 [V.agg (W59.cells a), V.agg [i64 d, u8 f, u8 i, u8 j, u8 l, u8 m, u8 o, u8 p, u8 q, i64 s, i64 t, i64 u, i64 v, i64 w]] := fu rfl rfl fun x => by kernel_rfl
/-! ## F139 -/
noncomputable def D139 (a : W34) (f : Int) (d : W59) (i : Int) (j : LV) : PT A139 := .auto 4 <| .ask E193 (F193_ok a.c21 f a.c8 a.c9 a.c10 a.c11) fun ⟨l, m, o, p⟩ => .auto 2 <| .ask E147 (F147_ok d j) fun ⟨q, s⟩ => .auto 3 <| .ask E194 (F194_ok d a.c7 l m o p a.c12 a.c13 a.c14 a.c15 a.c16 a.c17 a.c18 a.c19 a.c20) fun ⟨t, u, v, w, y, z, d0, d1, d2, d3, d4, d5, d6, d7⟩ => .auto 1 <| .ret (.a0 q a.c6 t u v w y z d0 d1 d2 d3 d4 d5 d6 d7 i s)
noncomputable def F139 (a : W34) (d : Int) (f : W59) (i : Int) (j : LV) : Option A139 := (D139 a d f i j).ev some
theorem F139_ok (a : W34) (d : Int) (f : W59) (i : Int) (j : LV) : FU E139 (F139 a d f i j) 139 [V.agg (W34.cells a), i64 d, V.agg (W59.cells f), i64 i, lS 2 j] := fu rfl rfl fun x => by kernel_rfl
/-! ## F235 -/
noncomputable def D235 (f i : Int) : PT A235 := .tot O74 (F74_ok f 0 65536) fun a => .tot O74 (F74_ok i 0 65536) fun d => .ret (.a0 (if d < a then d else a) (if d > a then d else a))
noncomputable def F235 (a d : Int) : Option A235 := (D235 a d).ev some
theorem F235_ok (a d : Int) : FU E235 (F235 a d) 235 [i64 a, i64 d] := fu rfl rfl fun x => by kernel_rfl
/-! ## F266 -/
noncomputable def D266 (d : Bool) (a : LV) : PT Int := .auto 2 <| .testB d (fun h0 => .auto 2 <| .test ((a.length : Int) ≥ 2) (fun h1 => .ret ((a.length : Int))) (fun h1 => .ret (if w64 ((a.length : Int) - 1) > 0 then w64 ((a.length : Int) - 1) else 0))) (fun h0 => .auto 3 <| .ret (if w64 ((a.length : Int) - 1) > 0 then w64 ((a.length : Int) - 1) else 0))
abbrev O266 (a : Int) : V × Store := (i64 a, [])
noncomputable def F266 (a : Bool) (d : LV) : Int := (D266 a d).evT
theorem F266_ok (a : Bool) (d : LV) : UU 266 ([V.agg [vb a, lS 2 d]]) ([]) = some (O266 (F266 a d)) :=
  fnT_ok (out := O266) (L := notIn []) rfl rfl (fun x => by kernel_rfl) (by simp [D266, PT.isT])
/-! ## F285 -/
noncomputable def D285 (a d : Int) : PT A285 := .auto 1 <| .tot O241 (F241_ok a) fun f => .auto 1 <| .tot O241 (F241_ok d) fun i => .auto 1 <| .ret (.a0 f i)
noncomputable def F285 (a d : Int) : Option A285 := (D285 a d).ev some
theorem F285_ok (a d : Int) : FU E285 (F285 a d) 285 [V.agg [i64 a, i64 d]] := fu rfl rfl fun x => by kernel_rfl
/-! ## F267 -/
noncomputable def D267 (q : Bool) (a : LV) (d : Int) : PT A267 := .auto 1 <| .test (0 ≤ d) (fun h0 => .look RW28 (a[Int.toNat d]?) fun f => .ask E285 (F285_ok f.c0 f.c1) fun ⟨i, j⟩ => .auto 2 <| .test ((a.length : Int) = 0) (fun _ => .fail) (fun h1 => .test (0 ≤ Int.tmod (w64 (d + 1)) (a.length : Int)) (fun h2 => .look RW28 (a[Int.toNat (Int.tmod (w64 (d + (1 : Int))) (a.length : Int))]?) fun l => .ask E285 (F285_ok l.c0 l.c1) fun ⟨m, o⟩ => .auto 8 <| .ask E265 (F265_ok (w64 (m - i)) (w64 (o - j))) fun ⟨p⟩ => .auto 2 <| .ret (.a0 i j m o p)) (fun _ => .fail))) (fun _ => .fail)
noncomputable def F267 (a : Bool) (d : LV) (f : Int) : Option A267 := (D267 a d f).ev some
theorem F267_ok (a : Bool) (d : LV) (f : Int) : FU E267 (F267 a d f) 267 [V.agg [vb a, lS 2 d], i64 f] := fu rfl rfl fun x => by kernel_rfl
/-! ## F236 -/
noncomputable abbrev B236 : Code := (Tryz.f236.body).getD .skip
inductive T236_0s0 where
  | mk (a d f : Int) (i : Bool) (j : LV)
inductive T236_0e0 where
  | mk (a : Int)
inductive N236_0 where
  | s0 (x : T236_0s0)
  | e0 (x : T236_0e0)
abbrev N236_0.out : N236_0 → VX × S
  | .s0 (.mk a d f i j) => (vN, S.mk (U :: pT 0 :: U :: i64 a :: un 5 (i64 d :: i64 f :: un 14 [])) [oF 2 [[vb i, lS 2 j]]])
  | .e0 (.mk l) => (vX 0, S.mk (U :: U :: U :: i64 l :: un 21 []) [])
abbrev E236_0 := Ent.o2 N236_0.out .s0 .e0 (fun b => by cases b <;> simp)
noncomputable def D236_0 : T236_0s0 → PT N236_0 | .mk d f a i j => .test (a < f) (fun h0 => .auto 1 <| .ask E267 (F267_ok i j a) fun ⟨o, p, q, s, l⟩ => .auto 2 <| .tot O131 (F131_ok d l) fun m => .ret (.s0 (.mk m f (w64 (a + 1)) i j))) (fun h0 => .ret (.e0 (.mk d)))
noncomputable def L236_0 := E236_0.loop fun | .s0 x => D236_0 x | _ => .fail
theorem L236_0_ok : LU 236 0 B236 0 E236_0 L236_0 :=
  lk (L := notIn []) (fun b hb => by cases b <;> first | (cases hb; done) | (rename_i x; cases x; intro x; kernel_rfl) | (intro x; kernel_rfl))
noncomputable def N236_0.nx (n : Nat) : N236_0 → Option N236_0 | .s0 x => L236_0 n (.s0 x) | .e0 x => some (.e0 x)
theorem L236_0_s0 (n : Nat) (x : T236_0s0) : L236_0 (n + 1) (.s0 x) = (D236_0 x).ev (N236_0.nx n) := Ent.loop_eq fun c => by cases c <;> rfl
noncomputable def D236 (a : Bool) (d : LV) : PT A236 := .auto 1 <| .tot O266 (F266_ok a d) fun f => .cut E236_0 (L236_0_ok (.s0 (.mk 0 f 0 a d)) rfl) fun | .e0 (.mk i) => .ret (.a0 i) | _ => .fail
noncomputable def F236 (a : Bool) (d : LV) : Option A236 := (D236 a d).ev some
theorem F236_ok (a : Bool) (d : LV) : FU E236 (F236 a d) 236 [V.agg [vb a, lS 2 d]] := fu rfl rfl fun x => by kernel_rfl
/-! ## F269 -/
noncomputable def D269 (f i : Int) : PT A269 := .tot O132 (F132_ok f) fun d => .auto 1 <| .tot O132 (F132_ok i) fun a => .testB (a == 0) (fun h0 => .ret (.a0 0)) (fun h0 => .test (a = 0) (fun _ => .fail) (fun h1 => .known (decide_eq_false h1) <| .testB (Int.tmod (w64 (d * 65536)) a != 0) (fun h2 => .auto 5 <| .testB (!decide (w64 (d * 65536) < 0) == decide (a < 0)) (fun h3 => .tot O132 (F132_ok (w64 (w64 (Int.tdiv (w64 (d * 65536)) a) - 1))) fun j => .ret (.a0 j)) (fun h3 => .tot O132 (F132_ok (w64 (Int.tdiv (w64 (d * 65536)) a))) fun l => .ret (.a0 l))) (fun h2 => .auto 6 <| .tot O132 (F132_ok (w64 (Int.tdiv (w64 (d * 65536)) a))) fun m => .ret (.a0 m))))
noncomputable def F269 (a d : Int) : Option A269 := (D269 a d).ev some
theorem F269_ok (a d : Int) : FU E269 (F269 a d) 269 [i64 a, i64 d] := fu rfl rfl fun x => by kernel_rfl
/-! ## F268 -/
noncomputable def D268 (o p q s a d : Int) : PT A268 := .auto 1 <| .ask E285 (F285_ok o p) fun ⟨f, i⟩ => .auto 1 <| .ask E285 (F285_ok q s) fun ⟨j, l⟩ => .auto 2 <| .test (a ≤ 0) (fun h0 => .auto 2 <| .ret (.a0 f i)) (fun h0 => .test (a ≥ d) (fun h1 => .auto 2 <| .ret (.a0 j l)) (fun h1 => .ask E269 (F269_ok a d) fun ⟨m⟩ => .auto 2 <| .ask E134 (F134_ok f j m) fun ⟨t⟩ => .auto 2 <| .ask E134 (F134_ok i l m) fun ⟨u⟩ => .auto 1 <| .ret (.a0 t u)))
noncomputable def F268 (a d f i j l : Int) : Option A268 := (D268 a d f i j l).ev some
theorem F268_ok (a d f i j l : Int) : FU E268 (F268 a d f i j l) 268 [V.agg [i64 a, i64 d], V.agg [i64 f, i64 i], i64 j, i64 l] := fu rfl rfl fun x => by kernel_rfl
/-! ## F237 -/
noncomputable abbrev B237 : Code := (Tryz.f237.body).getD .skip
inductive T237_c50s0 where
  | mk (a d f i j l : Int) (m o : Bool) (p : LV) (q : Nat) (s t u v : Int) (w : LV)
abbrev T237_c50s0.st : T237_c50s0 → S
  | .mk a d f i j l m o p q s t u v w => S.mk (U :: i64 a :: i64 d :: pT 0 :: U :: U :: pT 1 :: pT 2 :: i64 f :: U :: pT 3 :: pT 4 :: i64 i :: un 9 (i64 j :: i64 l :: un 26 (vb m :: un 29 []))) [oF 2 [[vb o, lS 2 p]], oF 2 [[vb false, hS 5 0]], oF 2 [[vb false, hS 6 q]], oF 2 [[i64 s, i64 t]], oF 2 [[i64 u, i64 v]], oT 2 [], oT 2 w]
inductive T237_c50e0 where
  | mk (a d f i j l : Int) (m : Bool) (o : LV) (p : Nat) (q s t u : Int) (v : LV)
inductive N237_c50 where
  | e0 (x : T237_c50e0)
abbrev N237_c50.out : N237_c50 → VX × S
  | .e0 (.mk a d f i j l m o p q s t u v) => (vN, S.mk (U :: i64 a :: i64 d :: pT 0 :: U :: U :: pT 1 :: pT 2 :: i64 f :: U :: pT 3 :: pT 4 :: i64 i :: un 9 (i64 j :: i64 l :: un 56 [])) [oF 2 [[vb m, lS 2 o]], oF 2 [[vb false, hS 5 0]], oF 2 [[vb false, hS 6 p]], oF 2 [[i64 q, i64 s]], oF 2 [[i64 t, i64 u]], oT 2 [], oT 2 v])
abbrev E237_c50 := Ent.o1 N237_c50.out .e0 fun ⟨x⟩ => ⟨x, rfl⟩
noncomputable def D237_c50 : T237_c50s0 → PT N237_c50 | .mk d q f i s t w u v a j l m o p => .testB w (fun h0 => .auto 3 <| .ask E268 (F268_ok j l m o (w64 (d - f)) i) fun ⟨y, z⟩ => .auto 1 <| .test (0 + a ≤ List.length p ∧ (a + 1) * 16 ≤ 140737488355328 ∧ a + 1 ≤ 140737488355328) (fun h1 => .auto 1 <| .ret (.e0 (.mk d q f i s t u v (a + 1) j l m o (List.take a p ++ [[i64 y, i64 z]])))) (fun _ => .fail)) (fun h0 => .ret (.e0 (.mk d q f i s t u v a j l m o p)))
noncomputable def J237_c50 (y : T237_c50s0) : Option N237_c50 := (D237_c50 y).ev some
theorem J237_c50_ok (y : T237_c50s0) : CU 237 0 B237 50 E237_c50 (J237_c50 y) y.st := by
  cases y; exact cond_ok (L := notIn []) fun x => by kernel_rfl
inductive T237_r10s0 where
  | mk (a d f i j l : Int) (m : Bool) (o : LV) (p : Nat) (q s t u : Int) (v : LV)
abbrev T237_r10s0.st : T237_r10s0 → S
  | .mk a d f i j l m o p q s t u v => S.mk (U :: i64 a :: i64 d :: pT 0 :: U :: U :: pT 1 :: pT 2 :: i64 f :: U :: pT 3 :: pT 4 :: i64 i :: un 9 (i64 j :: i64 l :: un 56 [])) [oF 2 [[vb m, lS 2 o]], oF 2 [[vb false, hS 5 0]], oF 2 [[vb false, hS 6 p]], oF 2 [[i64 q, i64 s]], oF 2 [[i64 t, i64 u]], oT 2 [], oT 2 v]
inductive T237_r10e0 where
  | mk (a d f i j l : Int) (m o : Bool) (p : LV) (q : Nat) (s t u v : Int) (w : LV)
inductive N237_r10 where
  | e0 (x : T237_r10e0)
abbrev N237_r10.out : N237_r10 → VX × S
  | .e0 (.mk a d f i j l m o p q s t u v w) => (vN, S.mk (U :: i64 a :: i64 d :: pT 0 :: U :: U :: pT 1 :: pT 2 :: i64 f :: U :: pT 3 :: pT 4 :: i64 i :: un 9 (i64 j :: i64 l :: un 22 (vb m :: un 33 []))) [oF 2 [[vb o, lS 2 p]], oF 2 [[vb false, hS 5 0]], oF 2 [[vb false, hS 6 q]], oF 2 [[i64 s, i64 t]], oF 2 [[i64 u, i64 v]], oT 2 [], oT 2 w])
abbrev E237_r10 := Ent.o1 N237_r10.out .e0 fun ⟨x⟩ => ⟨x, rfl⟩
noncomputable def D237_r10 : T237_r10s0 → PT N237_r10 | .mk f i a d j l m o p q s t u v => .test (d > 0) (fun h0 => .auto 2 <| .tot O131 (F131_ok a d) fun w => .auto 3 <| .test (w > f) (fun h1 => .auto 3 <| .ret (.e0 (.mk f i a d j l (decide (a < i)) m o p q s t u v))) (fun h1 => .auto 3 <| .ret (.e0 (.mk f i a d j l false m o p q s t u v)))) (fun h0 => .auto 9 <| .ret (.e0 (.mk f i a d j l false m o p q s t u v)))
noncomputable def J237_r10 (y : T237_r10s0) : Option N237_r10 := (D237_r10 y).ev some
theorem J237_r10_ok (y : T237_r10s0) : ∀ b, J237_r10 y = some b → regP Tryz.prog X CC 237 0 B237 10 y.st = some (E237_r10.out b) := by
  cases y; exact reg_ok (E := E237_r10) (fun x => by kernel_rfl)
inductive T237_0s0 where
  | mk (a d f i j : Int) (l : Bool) (m : LV) (o : Nat) (p : LV)
inductive T237_0e0 where
  | mk (a : Nat) (d : LV)
inductive N237_0 where
  | s0 (x : T237_0s0)
  | e0 (x : T237_0e0)
abbrev N237_0.out : N237_0 → VX × S
  | .s0 (.mk a d f i j l m o p) => (vN, S.mk (U :: i64 a :: i64 d :: pT 0 :: U :: U :: pT 1 :: pT 2 :: i64 f :: un 13 (i64 i :: i64 j :: un 56 [])) [oF 2 [[vb l, lS 2 m]], oF 2 [[vb false, hS 3 0]], oF 2 [[vb false, hS 4 o]], oT 2 [], oT 2 p])
  | .e0 (.mk q s) => (vX 0, S.mk (un 6 (pT 0 :: pT 1 :: un 72 [])) [oF 2 [[vb false, hS 2 0]], oF 2 [[vb false, hS 3 q]], oT 2 [], oT 2 s])
abbrev E237_0 := Ent.o2 N237_0.out .s0 .e0 (fun b => by cases b <;> simp)
noncomputable def D237_0 : T237_0s0 → PT N237_0 | .mk d4 d5 d6 i d j l m o => .test (d < i) (fun h0 => .auto 1 <| .ask E267 (F267_ok j l d) fun ⟨d7, d8, d9, f0, f1⟩ => .auto 2 <| .cut E237_r10 (J237_r10_ok (.mk d4 d5 d6 f1 i d j l m d7 d8 d9 f0 o)) fun | .e0 (.mk p q s t u v f2 w y f f3 f4 f5 f6 z) => .testB f2 (fun h1 => .auto 1 <| .cut E237_c50 (J237_c50_ok (.mk p q s t u v ((↑f : Int) == 0) w y f f3 f4 f5 f6 z)) fun | .e0 (.mk f7 d0 d1 d2 f8 f9 j0 j1 a j2 j3 j4 j5 d3) => .auto 3 <| .ask E268 (F268_ok j2 j3 j4 j5 (w64 (d0 - d1)) d2) fun ⟨j6, j7⟩ => .auto 1 <| .test (0 + a ≤ List.length d3 ∧ (a + 1) * 16 ≤ 140737488355328 ∧ a + 1 ≤ 140737488355328) (fun h2 => .auto 1 <| .tot O131 (F131_ok d1 d2) fun j8 => .ret (.s0 (.mk f7 d0 j8 f8 (w64 (f9 + 1)) j0 j1 (a + 1) (List.take a d3 ++ [[i64 j6, i64 j7]])))) (fun _ => .fail)) (fun h1 => .tot O131 (F131_ok s t) fun j9 => .ret (.s0 (.mk p q j9 u (w64 (v + 1)) w y f z)))) (fun h0 => .ret (.e0 (.mk m o)))
noncomputable def L237_0 := E237_0.loop fun | .s0 x => D237_0 x | _ => .fail
theorem L237_0_ok : LU 237 0 B237 0 E237_0 L237_0 :=
  lk (L := notIn []) (fun b hb => by cases b <;> first | (cases hb; done) | (rename_i x; cases x; intro x; kernel_rfl) | (intro x; kernel_rfl))
noncomputable def N237_0.nx (n : Nat) : N237_0 → Option N237_0 | .s0 x => L237_0 n (.s0 x) | .e0 x => some (.e0 x)
theorem L237_0_s0 (n : Nat) (x : T237_0s0) : L237_0 (n + 1) (.s0 x) = (D237_0 x).ev (N237_0.nx n) := Ent.loop_eq fun c => by cases c <;> rfl
noncomputable def D237 (a : Bool) (d : LV) (j l : Int) : PT A237 := .tot O132 (F132_ok j) fun f => .tot O132 (F132_ok l) fun i => .test (f ≥ i) (fun h0 => .auto 2 <| .ret (.a0 false 0 ([]))) (fun h0 => .auto 1 <| .tot O266 (F266_ok a d) fun m => .cut E237_0 (L237_0_ok (.s0 (.mk f i 0 m 0 a d 0 ([]))) rfl) fun | .e0 (.mk o p) => (.auto 2 <| .ret (.a0 false o p)) | _ => .fail)
noncomputable def F237 (a : Bool) (d : LV) (f i : Int) : Option A237 := (D237 a d f i).ev some
theorem F237_ok (a : Bool) (d : LV) (f i : Int) : FU E237 (F237 a d f i) 237 [V.agg [vb a, lS 2 d], i64 f, i64 i] := fu rfl rfl fun x => by kernel_rfl
/-! ## F195 -/
noncomputable abbrev B195 : Code := (Tryz.f195.body).getD .skip
inductive T195_r6s0 where
  | mk (a d : Int) (f : Nat) (i : LV) (j l : Int) (m : LV) (o : Bool) (p : LV)
abbrev T195_r6s0.st : T195_r6s0 → S
  | .mk a d f i j l m o p => S.mk (U :: i64 a :: i64 d :: un 4 (hS 0 f :: U :: pT 1 :: un 8 (lS 2 i :: i64 j :: i64 l :: un 38 []))) [oT 2 m, oF 2 [[vb o, lS 2 p]]]
inductive T195_r6e0 where
  | mk (a d : Int) (f : Nat) (i : LV) (j l : Int) (m : Bool) (o : LV) (p : Bool) (q : LV)
inductive N195_r6 where
  | e0 (x : T195_r6e0)
abbrev N195_r6.out : N195_r6 → VX × S
  | .e0 (.mk a d f i j l m o p q) => (vN, S.mk (U :: i64 a :: i64 d :: un 4 (hS 0 f :: U :: pT 1 :: un 8 (lS 2 i :: i64 j :: i64 l :: un 8 (vb m :: un 29 [])))) [oT 2 o, oF 2 [[vb p, lS 2 q]]])
abbrev E195_r6 := Ent.o1 N195_r6.out .e0 fun ⟨x⟩ => ⟨x, rfl⟩
noncomputable def D195_r6 : T195_r6s0 → PT N195_r6 | .mk a d f i j l m o p => .testB (a == 0) (fun h0 => .auto 2 <| .ret (.e0 (.mk a d f i j l (d == 65536) m o p))) (fun h0 => .auto 2 <| .ret (.e0 (.mk a d f i j l false m o p)))
noncomputable def J195_r6 (y : T195_r6s0) : Option N195_r6 := (D195_r6 y).ev some
theorem J195_r6_ok (y : T195_r6s0) : ∀ b, J195_r6 y = some b → regP Tryz.prog X CC 195 0 B195 6 y.st = some (E195_r6.out b) := by
  cases y; exact reg_ok (E := E195_r6) (fun x => by kernel_rfl)
inductive T195_0s0 where
  | mk (a d : Int) (f : Nat) (i : LV) (j l : Int) (m : LV)
inductive T195_0e0 where
  | mk (a : Nat) (d : LV)
inductive N195_0 where
  | s0 (x : T195_0s0)
  | e0 (x : T195_0e0)
abbrev N195_0.out : N195_0 → VX × S
  | .s0 (.mk a d f i j l m) => (vN, S.mk (U :: i64 a :: i64 d :: un 4 (hS 0 f :: un 10 (lS 2 i :: i64 j :: i64 l :: un 38 []))) [oT 2 m])
  | .e0 (.mk o p) => (vX 0, S.mk (un 7 (hS 0 o :: un 51 [])) [oT 2 p])
abbrev E195_0 := Ent.o2 N195_0.out .s0 .e0 (fun b => by cases b <;> simp)
noncomputable def D195_0 : T195_0s0 → PT N195_0 | .mk d2 d3 u v w f y => .test (f < w) (fun h0 => .test (0 ≤ f) (fun h1 => .look RW88 (v[Int.toNat f]?) fun z => .auto 1 <| .cut E195_r6 (J195_r6_ok (.mk d2 d3 u v w f y z.c0 z.c1)) fun | .e0 (.mk i j a m o p d4 d q s) => .testB d4 (fun h2 => .auto 2 <| .ask E224 (F224_ok s) fun ⟨l⟩ => .test (0 + List.length l ≤ List.length l) (fun h3 => .auto 1 <| .test (0 + a ≤ List.length d ∧ (a + 1) * 32 ≤ 140737488355328 ∧ a + 1 ≤ 140737488355328) (fun h4 => .ret (.s0 (.mk i j (a + 1) m o (w64 (p + 1)) (List.take a d ++ [[vb q, lS 2 (List.take (List.length l) l)]])))) (fun _ => .fail)) (fun _ => .fail)) (fun h2 => .auto 1 <| .ask E236 (F236_ok q s) fun ⟨d0⟩ => .auto 1 <| .ask E125 (F125_ok d0 i) fun ⟨d5⟩ => .ask E125 (F125_ok d0 j) fun ⟨d6⟩ => .ask E237 (F237_ok q s d5 d6) fun ⟨d7, t, d1⟩ => .auto 2 <| .test ((↑t : Int) ≥ 2) (fun h3 => .auto 1 <| .test (0 + t ≤ List.length d1) (fun h4 => .auto 1 <| .test (0 + a ≤ List.length d ∧ (a + 1) * 32 ≤ 140737488355328 ∧ a + 1 ≤ 140737488355328) (fun h5 => .ret (.s0 (.mk i j (a + 1) m o (w64 (p + 1)) (List.take a d ++ [[vb d7, lS 2 (List.take t d1)]])))) (fun _ => .fail)) (fun _ => .fail)) (fun h3 => .ret (.s0 (.mk i j a m o (w64 (p + 1)) d))))) (fun _ => .fail)) (fun h0 => .ret (.e0 (.mk u y)))
noncomputable def L195_0 := E195_0.loop fun | .s0 x => D195_0 x | _ => .fail
theorem L195_0_ok : LU 195 0 B195 0 E195_0 L195_0 :=
  lk (L := notIn []) (fun b hb => by cases b <;> first | (cases hb; done) | (rename_i x; cases x; intro x; kernel_rfl) | (intro x; kernel_rfl))
noncomputable def N195_0.nx (n : Nat) : N195_0 → Option N195_0 | .s0 x => L195_0 n (.s0 x) | .e0 x => some (.e0 x)
theorem L195_0_s0 (n : Nat) (x : T195_0s0) : L195_0 (n + 1) (.s0 x) = (D195_0 x).ev (N195_0.nx n) := Ent.loop_eq fun c => by cases c <;> rfl
noncomputable def D195 (a : LV) (d f : Int) : PT A195 := .ask E235 (F235_ok d f) fun ⟨i, j⟩ => .cut E195_0 (L195_0_ok (.s0 (.mk i j 0 a ((a.length : Int)) 0 ([]))) rfl) fun | .e0 (.mk l m) => .ret (.a0 l m) | _ => .fail
noncomputable def F195 (a : LV) (d f : Int) : Option A195 := (D195 a d f).ev some
theorem F195_ok (a : LV) (d f : Int) : FU E195 (F195 a d f) 195 [lS 2 a, i64 d, i64 f] := fu rfl rfl fun x => by kernel_rfl
/-! ## F196 -/
noncomputable abbrev B196 : Code := (Tryz.f196.body).getD .skip
inductive T196_r6s0 where
  | mk (a : LV) (d : Nat) (f i j : Int) (l : Bool) (m o : LV)
abbrev T196_r6s0.st : T196_r6s0 → S
  | .mk a d f i j l m o => S.mk (U :: lS 1 a :: pT 0 :: U :: U :: hS 1 d :: i64 f :: i64 i :: i64 j :: un 56 []) [oF 2 [[vb l, lS 2 m]], oT 2 o]
inductive T196_r6e0 where
  | mk (a : LV) (d : Nat) (f i j : Int) (l m : Bool) (o p : LV)
inductive N196_r6 where
  | e0 (x : T196_r6e0)
abbrev N196_r6.out : N196_r6 → VX × S
  | .e0 (.mk a d f i j l m o p) => (vN, S.mk (U :: lS 1 a :: pT 0 :: U :: U :: hS 1 d :: i64 f :: i64 i :: i64 j :: un 25 (vb l :: un 30 [])) [oF 2 [[vb m, lS 2 o]], oT 2 p])
abbrev E196_r6 := Ent.o1 N196_r6.out .e0 fun ⟨x⟩ => ⟨x, rfl⟩
noncomputable def D196_r6 : T196_r6s0 → PT N196_r6 | .mk i j a d f l m o => .test (f < 128) (fun h0 => .auto 3 <| .ret (.e0 (.mk i j a d f (decide (d < a)) l m o))) (fun h0 => .auto 3 <| .ret (.e0 (.mk i j a d f false l m o)))
noncomputable def J196_r6 (y : T196_r6s0) : Option N196_r6 := (D196_r6 y).ev some
theorem J196_r6_ok (y : T196_r6s0) : ∀ b, J196_r6 y = some b → regP Tryz.prog X CC 196 0 B196 6 y.st = some (E196_r6.out b) := by
  cases y; exact reg_ok (E := E196_r6) (fun x => by kernel_rfl)
inductive T196_0s0 where
  | mk (a : LV) (d : Nat) (f i j : Int) (l : Bool) (m o : LV)
inductive T196_0e0 where
  | mk (a : Nat) (d : LV)
inductive N196_0 where
  | s0 (x : T196_0s0)
  | e0 (x : T196_0e0)
abbrev N196_0.out : N196_0 → VX × S
  | .s0 (.mk a d f i j l m o) => (vN, S.mk (U :: lS 1 a :: pT 0 :: U :: U :: hS 1 d :: i64 f :: i64 i :: i64 j :: un 56 []) [oF 2 [[vb l, lS 2 m]], oT 2 o])
  | .e0 (.mk p q) => (vX 0, S.mk (un 5 (hS 0 p :: un 59 [])) [oT 2 q])
abbrev E196_0 := Ent.o2 N196_0.out .s0 .e0 (fun b => by cases b <;> simp)
noncomputable def D196_0 : T196_0s0 → PT N196_0 | .mk t u v w y z d0 d1 => .cut E196_r6 (J196_r6_ok (.mk t u v w y z d0 d1)) fun | .e0 (.mk d a p i f d2 l m j) => .testB d2 (fun h0 => .test ((d.length : Int) = 0) (fun _ => .fail) (fun h1 => .test (0 ≤ Int.tmod f (d.length : Int)) (fun h2 => .look RW2 (d[Int.toNat (Int.tmod f (d.length : Int))]?) fun o => .auto 1 <| .testB (Int.tmod f 2 == 0) (fun h3 => .auto 1 <| .ask E237 (F237_ok l m i (w64 (i + o.c0))) fun ⟨d3, q, s⟩ => .auto 2 <| .test ((↑q : Int) ≥ 2) (fun h4 => .auto 1 <| .test (0 + q ≤ List.length s) (fun h5 => .auto 1 <| .test (0 + a ≤ List.length j ∧ (a + 1) * 32 ≤ 140737488355328 ∧ a + 1 ≤ 140737488355328) (fun h6 => .ret (.s0 (.mk d (a + 1) p (w64 (i + o.c0)) (w64 (f + 1)) l m (List.take a j ++ [[vb d3, lS 2 (List.take q s)]])))) (fun _ => .fail)) (fun _ => .fail)) (fun h4 => .ret (.s0 (.mk d a p (w64 (i + o.c0)) (w64 (f + 1)) l m j)))) (fun h3 => .ret (.s0 (.mk d a p (w64 (i + o.c0)) (w64 (f + 1)) l m j)))) (fun _ => .fail))) (fun h0 => .ret (.e0 (.mk a j)))
noncomputable def L196_0 := E196_0.loop fun | .s0 x => D196_0 x | _ => .fail
theorem L196_0_ok : LU 196 0 B196 0 E196_0 L196_0 :=
  lk (L := notIn []) (fun b hb => by cases b <;> first | (cases hb; done) | (rename_i x; cases x; intro x; kernel_rfl) | (intro x; kernel_rfl))
noncomputable def N196_0.nx (n : Nat) : N196_0 → Option N196_0 | .s0 x => L196_0 n (.s0 x) | .e0 x => some (.e0 x)
theorem L196_0_s0 (n : Nat) (x : T196_0s0) : L196_0 (n + 1) (.s0 x) = (D196_0 x).ev (N196_0.nx n) := Ent.loop_eq fun c => by cases c <;> rfl
inductive T196_r1s0 where
  | mk (a : LV) (d : Bool) (f : LV)
abbrev T196_r1s0.st : T196_r1s0 → S
  | .mk a d f => S.mk (U :: lS 1 a :: pT 0 :: un 62 []) [oF 2 [[vb d, lS 2 f]]]
inductive T196_r1e0 where
  | mk (a : LV) (d f : Bool) (i : LV)
inductive N196_r1 where
  | e0 (x : T196_r1e0)
abbrev N196_r1.out : N196_r1 → VX × S
  | .e0 (.mk a d f i) => (vN, S.mk (U :: lS 1 a :: pT 0 :: un 15 (vb d :: un 46 [])) [oF 2 [[vb f, lS 2 i]]])
abbrev E196_r1 := Ent.o1 N196_r1.out .e0 fun ⟨x⟩ => ⟨x, rfl⟩
noncomputable def D196_r1 : T196_r1s0 → PT N196_r1 | .mk a d f => .testB ((a.length : Int) == 0) (fun h0 => .auto 3 <| .ret (.e0 (.mk a true d f))) (fun h0 => .auto 1 <| .ask E57 (F57_ok a) fun ⟨i⟩ => .auto 2 <| .ret (.e0 (.mk a (!i) d f)))
noncomputable def J196_r1 (y : T196_r1s0) : Option N196_r1 := (D196_r1 y).ev some
theorem J196_r1_ok (y : T196_r1s0) : ∀ b, J196_r1 y = some b → regP Tryz.prog X CC 196 0 B196 1 y.st = some (E196_r1.out b) := by
  cases y; exact reg_ok (E := E196_r1) (fun x => by kernel_rfl)
noncomputable def D196 (i : Bool) (j l : LV) : PT A196 := .cut E196_r1 (J196_r1_ok (.mk l i j)) fun | .e0 (.mk m o d f) => .testB o (fun h0 => .auto 2 <| .ask E224 (F224_ok f) fun ⟨a⟩ => .test (0 + List.length a ≤ List.length a) (fun h1 => .ret (.a0 1 ([[vb d, lS 2 (List.take (List.length a) a)]]))) (fun _ => .fail)) (fun h0 => .auto 1 <| .ask E236 (F236_ok d f) fun ⟨p⟩ => .cut E196_0 (L196_0_ok (.s0 (.mk m 0 p 0 0 d f ([]))) rfl) fun | .e0 (.mk q s) => .ret (.a0 q s) | _ => .fail)
noncomputable def F196 (a : Bool) (d f : LV) : Option A196 := (D196 a d f).ev some
theorem F196_ok (a : Bool) (d f : LV) : FU E196 (F196 a d f) 196 [V.agg [vb a, lS 2 d], lS 1 f] := fu rfl rfl fun x => by kernel_rfl
/-! ## F238 -/
noncomputable abbrev B238 : Code := (Tryz.f238.body).getD .skip
inductive T238_0s0 where
  | mk (a : Nat) (d f : Int) (i : Bool) (j l : LV)
inductive T238_0e0 where
  | mk (a : Nat) (d : LV)
inductive N238_0 where
  | s0 (x : T238_0s0)
  | e0 (x : T238_0e0)
abbrev N238_0.out : N238_0 → VX × S
  | .s0 (.mk a d f i j l) => (vN, S.mk (U :: pT 0 :: U :: hS 1 a :: un 5 (i64 d :: i64 f :: un 33 [])) [oF 2 [[vb i, lS 2 j]], oT 6 l])
  | .e0 (.mk m o) => (vX 0, S.mk (U :: U :: U :: hS 0 m :: un 40 []) [oT 6 o])
abbrev E238_0 := Ent.o2 N238_0.out .s0 .e0 (fun b => by cases b <;> simp)
noncomputable def D238_0 : T238_0s0 → PT N238_0 | .mk a i d j l f => .test (d < i) (fun h0 => .auto 1 <| .ask E267 (F267_ok j l d) fun ⟨o, p, q, s, m⟩ => .auto 2 <| .test (m > 0) (fun h1 => .auto 4 <| .ask E269 (F269_ok (w64 (q - o)) m) fun ⟨t⟩ => .auto 2 <| .ask E269 (F269_ok (w64 (s - p)) m) fun ⟨u⟩ => .auto 1 <| .test (0 + a ≤ List.length f ∧ (a + 1) * 48 ≤ 140737488355328 ∧ a + 1 ≤ 140737488355328) (fun h2 => .ret (.s0 (.mk (a + 1) i (w64 (d + 1)) j l (List.take a f ++ [[i64 o, i64 p, i64 q, i64 s, i64 t, i64 u]])))) (fun _ => .fail)) (fun h1 => .ret (.s0 (.mk a i (w64 (d + 1)) j l f)))) (fun h0 => .ret (.e0 (.mk a f)))
noncomputable def L238_0 := E238_0.loop fun | .s0 x => D238_0 x | _ => .fail
theorem L238_0_ok : LU 238 0 B238 0 E238_0 L238_0 :=
  lk (L := notIn []) (fun b hb => by cases b <;> first | (cases hb; done) | (rename_i x; cases x; intro x; kernel_rfl) | (intro x; kernel_rfl))
noncomputable def N238_0.nx (n : Nat) : N238_0 → Option N238_0 | .s0 x => L238_0 n (.s0 x) | .e0 x => some (.e0 x)
theorem L238_0_s0 (n : Nat) (x : T238_0s0) : L238_0 (n + 1) (.s0 x) = (D238_0 x).ev (N238_0.nx n) := Ent.loop_eq fun c => by cases c <;> rfl
noncomputable def D238 (a : Bool) (d : LV) : PT A238 := .auto 1 <| .tot O266 (F266_ok a d) fun f => .cut E238_0 (L238_0_ok (.s0 (.mk 0 f 0 a d ([]))) rfl) fun | .e0 (.mk i j) => .ret (.a0 i j) | _ => .fail
noncomputable def F238 (a : Bool) (d : LV) : Option A238 := (D238 a d).ev some
theorem F238_ok (a : Bool) (d : LV) : FU E238 (F238 a d) 238 [V.agg [vb a, lS 2 d]] := fu rfl rfl fun x => by kernel_rfl
/-! ## F270 -/
noncomputable def D270 (a : W59) (d : Int) : PT A270 := .auto 1 <| .ask E125 (F125_ok (w64 (0 - a.c5)) d) fun ⟨f⟩ => .auto 1 <| .ask E125 (F125_ok a.c4 d) fun ⟨i⟩ => .ret (.a0 f i)
noncomputable def F270 (a : W59) (d : Int) : Option A270 := (D270 a d).ev some
theorem F270_ok (a : W59) (d : Int) : FU E270 (F270 a d) 270 [V.agg (W59.cells a), i64 d] := fu rfl rfl fun x => by kernel_rfl
/-! ## F271 -/
noncomputable def D271 (a d f i : Int) : PT A271 := .auto 3 <| .ret (.a0 (w64 (a + f)) (w64 (d + i)))
noncomputable def F271 (a d f i : Int) : Option A271 := (D271 a d f i).ev some
theorem F271_ok (a d f i : Int) : FU E271 (F271 a d f i) 271 [V.agg [i64 a, i64 d], i64 f, i64 i] := fu rfl rfl fun x => by kernel_rfl
/-! ## F286 -/
noncomputable def D286 (a d : Int) : PT A286 := .tot O241 (F241_ok a) fun f => .tot O241 (F241_ok d) fun i => .auto 1 <| .ret (.a0 f i)
noncomputable def F286 (a d : Int) : Option A286 := (D286 a d).ev some
theorem F286_ok (a d : Int) : FU E286 (F286 a d) 286 [i64 a, i64 d] := fu rfl rfl fun x => by kernel_rfl
/-! ## F295 -/
noncomputable abbrev B295 : Code := (Tryz.f295.body).getD .skip
inductive T295_0s0 where
  | mk (a : LV) (d f i : Int)
inductive T295_0e0 where
  | mk (a : Int)
inductive N295_0 where
  | s0 (x : T295_0s0)
  | e0 (x : T295_0e0)
abbrev N295_0.out : N295_0 → VX × S
  | .s0 (.mk a d f i) => (vN, S.mk (lS 2 a :: U :: U :: i64 d :: U :: U :: U :: lS 2 a :: i64 f :: i64 i :: un 37 []) [])
  | .e0 (.mk j) => (vX 0, S.mk (U :: U :: U :: i64 j :: un 43 []) [])
abbrev E295_0 := Ent.o2 N295_0.out .s0 .e0 (fun b => by cases b <;> simp)
noncomputable def D295_0 : T295_0s0 → PT N295_0 | .mk a f i d => .test (d < i) (fun h0 => .test (0 ≤ d) (fun h1 => .look RW28 (a[Int.toNat d]?) fun j => .auto 1 <| .test ((a.length : Int) = 0) (fun _ => .fail) (fun h2 => .test (0 ≤ Int.tmod (w64 (d + 1)) (a.length : Int)) (fun h3 => .look RW28 (a[Int.toNat (Int.tmod (w64 (d + (1 : Int))) (a.length : Int))]?) fun l => .auto 3 <| .ask E286 (F286_ok j.c0 j.c1) fun ⟨m, o⟩ => .auto 2 <| .ask E286 (F286_ok l.c0 l.c1) fun ⟨p, q⟩ => .auto 6 <| .ret (.s0 (.mk a (w64 (f + w64 (w64 (m * q) - w64 (p * o)))) i (w64 (d + 1))))) (fun _ => .fail))) (fun _ => .fail)) (fun h0 => .ret (.e0 (.mk f)))
noncomputable def L295_0 := E295_0.loop fun | .s0 x => D295_0 x | _ => .fail
theorem L295_0_ok : LU 295 0 B295 0 E295_0 L295_0 :=
  lk (L := notIn []) (fun b hb => by cases b <;> first | (cases hb; done) | (rename_i x; cases x; intro x; kernel_rfl) | (intro x; kernel_rfl))
noncomputable def N295_0.nx (n : Nat) : N295_0 → Option N295_0 | .s0 x => L295_0 n (.s0 x) | .e0 x => some (.e0 x)
theorem L295_0_s0 (n : Nat) (x : T295_0s0) : L295_0 (n + 1) (.s0 x) = (D295_0 x).ev (N295_0.nx n) := Ent.loop_eq fun c => by cases c <;> rfl
noncomputable def D295 (a : LV) : PT A295 := .cut E295_0 (L295_0_ok (.s0 (.mk a 0 ((a.length : Int)) 0)) rfl) fun | .e0 (.mk d) => .ret (.a0 d) | _ => .fail
noncomputable def F295 (a : LV) : Option A295 := (D295 a).ev some
theorem F295_ok (a : LV) : FU E295 (F295 a) 295 [lS 2 a] := fu rfl rfl fun x => by kernel_rfl
/-! ## F296 -/
noncomputable abbrev B296 : Code := (Tryz.f296.body).getD .skip
inductive T296_0s0 where
  | mk (a : Nat) (d f : Int) (i : LV)
inductive T296_0e0 where
  | mk (a : LV)
inductive N296_0 where
  | s0 (x : T296_0s0)
  | e0 (x : T296_0e0)
abbrev N296_0.out : N296_0 → VX × S
  | .s0 (.mk a d f i) => (vN, S.mk (hS 0 a :: U :: i64 d :: i64 f :: un 24 []) [oT 2 i])
  | .e0 (.mk j) => (vX 0, S.mk (un 28 []) [oT 2 j])
abbrev E296_0 := Ent.o2 N296_0.out .s0 .e0 (fun b => by cases b <;> simp)
noncomputable def D296_0 : T296_0s0 → PT N296_0 | .mk j a d f => .test (a < d) (fun h0 => .test (0 ≤ d ∧ d < (↑j : Int)) (fun h1 => .look RW28 (f[(0 : Nat) + Int.toNat d]?) fun i => .test (0 ≤ a ∧ a < (↑j : Int)) (fun h2 => .look RW28 (f[(0 : Nat) + Int.toNat a]?) fun l => .known (decide_eq_true h2) <| .look RW28 (f[(0 : Nat) + Int.toNat a]?) fun m => .known (decide_eq_true h1) <| .look RW28 ((List.set f ((0 : Nat) + Int.toNat a) [i64 i.c0, i64 i.c1])[(0 : Nat) + Int.toNat d]?) fun o => .ret (.s0 (.mk j (w64 (a + 1)) (w64 (d - 1)) (List.set (List.set f (0 + Int.toNat a) [i64 i.c0, i64 i.c1]) (0 + Int.toNat d) [i64 l.c0, i64 l.c1])))) (fun _ => .fail)) (fun _ => .fail)) (fun h0 => .ret (.e0 (.mk f)))
noncomputable def L296_0 := E296_0.loop fun | .s0 x => D296_0 x | _ => .fail
theorem L296_0_ok : LU 296 1 B296 0 E296_0 L296_0 :=
  lk (L := notIn []) (fun b hb => by cases b <;> first | (cases hb; done) | (rename_i x; cases x; intro x; kernel_rfl) | (intro x; kernel_rfl))
noncomputable def N296_0.nx (n : Nat) : N296_0 → Option N296_0 | .s0 x => L296_0 n (.s0 x) | .e0 x => some (.e0 x)
theorem L296_0_s0 (n : Nat) (x : T296_0s0) : L296_0 (n + 1) (.s0 x) = (D296_0 x).ev (N296_0.nx n) := Ent.loop_eq fun c => by cases c <;> rfl
noncomputable def D296 (a : Nat) (d : LV) : PT A296 := .cut E296_0 (L296_0_ok (.s0 (.mk a 0 (w64 ((↑a : Int) - 1)) d)) rfl) fun | .e0 (.mk f) => .ret (.a0 f) | _ => .fail
noncomputable def F296 (a : Nat) (d : LV) : Option A296 := (D296 a d).ev some
theorem F296_ok (a : Nat) (d : LV) : FU E296 (F296 a d) 296 [hS 0 a] [oT 2 d] := fu rfl rfl fun x => by kernel_rfl
/-! ## F287 -/
noncomputable def D287 (d : LV) : PT A287 := .ask E224 (F224_ok d) fun ⟨a⟩ => .ask E295 (F295_ok d) fun ⟨f⟩ => .test (f < 0) (fun h0 => .ask E296 (F296_ok (List.length a) a) fun ⟨i⟩ => .ret (.a0 (List.length a) i)) (fun h0 => .ret (.a0 (List.length a) a))
noncomputable def F287 (a : LV) : Option A287 := (D287 a).ev some
theorem F287_ok (a : LV) : FU E287 (F287 a) 287 [lS 2 a] := fu rfl rfl fun x => by kernel_rfl
/-! ## F272 -/
noncomputable abbrev B272 : Code := (Tryz.f272.body).getD .skip
inductive T272_0s0 where
  | mk (a : Nat) (d f : Int) (i : LV)
inductive T272_0e0 where
  | mk (a : Nat) (d : LV)
inductive N272_0 where
  | s0 (x : T272_0s0)
  | e0 (x : T272_0e0)
abbrev N272_0.out : N272_0 → VX × S
  | .s0 (.mk a d f i) => (vN, S.mk (hS 0 a :: U :: pT 1 :: U :: U :: i64 d :: i64 f :: un 20 []) [oT 2 i, oF 2 [[vb false, hS 2 0]], oT 2 []])
  | .e0 (.mk j l) => (vX 0, S.mk (hS 0 j :: U :: pT 1 :: un 24 []) [oT 2 l, oF 2 [[vb false, hS 2 0]], oT 2 []])
abbrev E272_0 := Ent.o2 N272_0.out .s0 .e0 (fun b => by cases b <;> simp)
noncomputable def D272_0 : T272_0s0 → PT N272_0 | .mk f i a d => .test (a < i) (fun h0 => .test (0 ≤ a ∧ a < (↑f : Int)) (fun h1 => .look RW28 (d[(0 : Nat) + Int.toNat a]?) fun j => .known (decide_eq_true h1) <| .look RW28 (d[(0 : Nat) + Int.toNat a]?) fun l => .ask E286 (F286_ok j.c0 l.c1) fun ⟨m, o⟩ => .known (decide_eq_true h1) <| .look RW28 (d[(0 : Nat) + Int.toNat a]?) fun p => .ret (.s0 (.mk f i (w64 (a + 1)) (List.set d (0 + Int.toNat a) [i64 m, i64 o])))) (fun _ => .fail)) (fun h0 => .ret (.e0 (.mk f d)))
noncomputable def L272_0 := E272_0.loop fun | .s0 x => D272_0 x | _ => .fail
theorem L272_0_ok : LU 272 1 B272 0 E272_0 L272_0 :=
  lk (L := notIn []) (fun b hb => by cases b <;> first | (cases hb; done) | (rename_i x; cases x; intro x; kernel_rfl) | (intro x; kernel_rfl))
noncomputable def N272_0.nx (n : Nat) : N272_0 → Option N272_0 | .s0 x => L272_0 n (.s0 x) | .e0 x => some (.e0 x)
theorem L272_0_s0 (n : Nat) (x : T272_0s0) : L272_0 (n + 1) (.s0 x) = (D272_0 x).ev (N272_0.nx n) := Ent.loop_eq fun c => by cases c <;> rfl
noncomputable def D272 (d : Nat) (i : LV) : PT A272 := .cut E272_0 (L272_0_ok (.s0 (.mk d ((↑d : Int)) 0 i)) rfl) fun | .e0 (.mk f a) => (.test (0 + f ≤ List.length a) (fun h0 => .ask E287 (F287_ok (List.take f a)) fun ⟨j, l⟩ => .auto 1 <| .ret (.a0 true j a l)) (fun _ => .fail)) | _ => .fail
noncomputable def F272 (a : Nat) (d : LV) : Option A272 := (D272 a d).ev some
theorem F272_ok (a : Nat) (d : LV) : FU E272 (F272 a d) 272 [hS 0 a] [oT 2 d] := fu rfl rfl fun x => by kernel_rfl
/-! ## F239 -/
noncomputable abbrev B239 : Code := (Tryz.f239.body).getD .skip
inductive T239_c40s0 where
  | mk (a d f i : Int) (j : Bool) (l m o p : Int)
abbrev T239_c40s0.st : T239_c40s0 → S
  | .mk a d f i j l m o p => S.mk (un 8 (pT 0 :: i64 a :: i64 d :: i64 f :: i64 i :: pT 1 :: pT 2 :: un 25 (vb j :: un 26 []))) [oF 2 [[vb false, hS 3 0]], oF 2 [[i64 l, i64 m]], oF 2 [[i64 o, i64 p]], oT 2 []]
inductive T239_c40e0 where
  | mk (a d f i j l : Int)
inductive N239_c40 where
  | e0 (x : T239_c40e0)
abbrev N239_c40.out : N239_c40 → VX × S
  | .e0 (.mk a d f i j l) => (vN, S.mk (un 8 (pT 0 :: i64 a :: i64 d :: U :: U :: pT 1 :: pT 2 :: un 52 [])) [oF 2 [[vb false, hS 3 0]], oF 2 [[i64 f, i64 i]], oF 2 [[i64 j, i64 l]], oT 2 []])
abbrev E239_c40 := Ent.o1 N239_c40.out .e0 fun ⟨x⟩ => ⟨x, rfl⟩
noncomputable def D239_c40 : T239_c40s0 → PT N239_c40 | .mk a d m o p f i j l => .testB p (fun h0 => .auto 1 <| .ask E271 (F271_ok j l m o) fun ⟨q, s⟩ => .auto 1 <| .ret (.e0 (.mk a d f i q s))) (fun h0 => .ret (.e0 (.mk a d f i j l)))
noncomputable def J239_c40 (y : T239_c40s0) : Option N239_c40 := (D239_c40 y).ev some
theorem J239_c40_ok (y : T239_c40s0) : CU 239 0 B239 40 E239_c40 (J239_c40 y) y.st := by
  cases y; exact cond_ok (L := notIn []) fun x => by kernel_rfl
inductive T239_c33s0 where
  | mk (a : Bool) (d f i j : Int) (l : Bool) (m o p q : Int)
abbrev T239_c33s0.st : T239_c33s0 → S
  | .mk a d f i j l m o p q => S.mk (U :: U :: U :: vb a :: un 4 (pT 0 :: i64 d :: i64 f :: i64 i :: i64 j :: pT 1 :: pT 2 :: un 18 (vb l :: un 33 []))) [oF 2 [[vb false, hS 3 0]], oF 2 [[i64 m, i64 o]], oF 2 [[i64 p, i64 q]], oT 2 []]
inductive T239_c33e0 where
  | mk (a : Bool) (d f i j l m o p : Int)
inductive N239_c33 where
  | e0 (x : T239_c33e0)
abbrev N239_c33.out : N239_c33 → VX × S
  | .e0 (.mk a d f i j l m o p) => (vN, S.mk (U :: U :: U :: vb a :: un 4 (pT 0 :: i64 d :: i64 f :: i64 i :: i64 j :: pT 1 :: pT 2 :: un 52 [])) [oF 2 [[vb false, hS 3 0]], oF 2 [[i64 l, i64 m]], oF 2 [[i64 o, i64 p]], oT 2 []])
abbrev E239_c33 := Ent.o1 N239_c33.out .e0 fun ⟨x⟩ => ⟨x, rfl⟩
noncomputable def D239_c33 : T239_c33s0 → PT N239_c33 | .mk f i j a d q l m o p => .testB q (fun h0 => .auto 1 <| .ask E271 (F271_ok l m (w64 (0 - a)) (w64 (0 - d))) fun ⟨s, t⟩ => .auto 1 <| .ret (.e0 (.mk f i j a d s t o p))) (fun h0 => .ret (.e0 (.mk f i j a d l m o p)))
noncomputable def J239_c33 (y : T239_c33s0) : Option N239_c33 := (D239_c33 y).ev some
theorem J239_c33_ok (y : T239_c33s0) : CU 239 0 B239 33 E239_c33 (J239_c33 y) y.st := by
  cases y; exact cond_ok (L := notIn []) fun x => by kernel_rfl
noncomputable def D239 (a : W59) (i : Int) (p q : Bool) : PT A239 := .auto 1 <| .ask E270 (F270_ok a i) fun ⟨s, t⟩ => .auto 1 <| .ask E125 (F125_ok a.c4 i) fun ⟨u⟩ => .auto 1 <| .ask E125 (F125_ok a.c5 i) fun ⟨v⟩ => .auto 4 <| .cut E239_c33 (J239_c33_ok (.mk q s t u v p a.c0 a.c1 a.c2 a.c3)) fun | .e0 (.mk w y z d0 d1 d2 d3 d4 d5) => .cut E239_c40 (J239_c40_ok (.mk y z d0 d1 w d2 d3 d4 d5)) fun | .e0 (.mk d f j l m o) => .auto 1 <| .ask E271 (F271_ok j l d f) fun ⟨d6, d7⟩ => .auto 1 <| .ask E271 (F271_ok m o d f) fun ⟨d8, d9⟩ => .auto 1 <| .ask E271 (F271_ok m o (w64 (0 - d)) (w64 (0 - f))) fun ⟨f0, f1⟩ => .auto 1 <| .ask E271 (F271_ok j l (w64 (0 - d)) (w64 (0 - f))) fun ⟨f2, f3⟩ => .ask E272 (F272_ok 4 ([[i64 d6, i64 d7], [i64 d8, i64 d9], [i64 f0, i64 f1], [i64 f2, i64 f3]])) fun ⟨f4, f5, f7, f6⟩ => .auto 1 <| .ret (.a0 f4 f5 f6)
noncomputable def F239 (a : W59) (d : Int) (f i : Bool) : Option A239 := (D239 a d f i).ev some
theorem F239_ok (a : W59) (d : Int) (f i : Bool) : FU E239 (F239 a d f i) 239 [V.agg (W59.cells a), i64 d, vb f, vb i] := fu rfl rfl fun x => by kernel_rfl
/-! ## F240 -/
noncomputable def D240 (s : W59) (a : W59) (d : Int) : PT A240 := .auto 1 <| .ask E270 (F270_ok s d) fun ⟨f, i⟩ => .auto 1 <| .ask E270 (F270_ok a d) fun ⟨j, l⟩ => .auto 4 <| .ask E271 (F271_ok a.c0 a.c1 f i) fun ⟨t, u⟩ => .auto 1 <| .ask E271 (F271_ok a.c0 a.c1 j l) fun ⟨v, w⟩ => .ask E272 (F272_ok 3 ([[i64 a.c0, i64 a.c1], [i64 t, i64 u], [i64 v, i64 w]])) fun ⟨y, m, d4, o⟩ => .auto 2 <| .ask E271 (F271_ok a.c0 a.c1 (w64 (0 - f)) (w64 (0 - i))) fun ⟨z, d0⟩ => .auto 1 <| .ask E271 (F271_ok a.c0 a.c1 (w64 (0 - j)) (w64 (0 - l))) fun ⟨d1, d2⟩ => .ask E272 (F272_ok 3 ([[i64 a.c0, i64 a.c1], [i64 z, i64 d0], [i64 d1, i64 d2]])) fun ⟨d3, p, d5, q⟩ => .test (0 + m ≤ List.length o) (fun h0 => .test (0 + p ≤ List.length q) (fun h1 => .ret (.a0 2 ([[vb y, lS 2 (List.take m o)], [vb d3, lS 2 (List.take p q)]]))) (fun _ => .fail)) (fun _ => .fail)
noncomputable def F240 (a : W59) (d : W59) (f : Int) : Option A240 := (D240 a d f).ev some
theorem F240_ok (a : W59) (d : W59) (f : Int) : FU E240 (F240 a d f) 240 [V.agg (W59.cells a), V.agg (W59.cells d), i64 f] := fu rfl rfl fun x => by kernel_rfl
/-! ## F197 -/
noncomputable abbrev B197 : Code := (Tryz.f197.body).getD .skip
inductive T197_r16s0 where
  | mk (a : Int) (d f : Nat) (i : Bool) (j l m : LV)
abbrev T197_r16s0.st : T197_r16s0 → S
  | .mk a d f i j l m => S.mk (U :: U :: U :: pT 0 :: U :: U :: U :: i64 a :: hS 1 d :: U :: hS 2 f :: un 84 []) [oF 2 [[vb i, lS 2 j]], oT 6 l, oT 2 m]
inductive T197_r16e0 where
  | mk (a : Int) (d f : Nat) (i : Bool) (j l : LV)
inductive N197_r16 where
  | e0 (x : T197_r16e0)
abbrev N197_r16.out : N197_r16 → VX × S
  | .e0 (.mk a d f i j l) => (vN, S.mk (un 7 (i64 a :: hS 0 d :: U :: hS 1 f :: un 69 (vb i :: un 14 []))) [oT 6 j, oT 2 l])
abbrev E197_r16 := Ent.o1 N197_r16.out .e0 fun ⟨x⟩ => ⟨x, rfl⟩
noncomputable def D197_r16 : T197_r16s0 → PT N197_r16 | .mk d a f l m i j => .auto 1 <| .testB l (fun h0 => .auto 3 <| .ret (.e0 (.mk d a f (decide ((↑a : Int) ≥ 2)) i j))) (fun h0 => .auto 3 <| .ret (.e0 (.mk d a f false i j)))
noncomputable def J197_r16 (y : T197_r16s0) : Option N197_r16 := (D197_r16 y).ev some
theorem J197_r16_ok (y : T197_r16s0) : ∀ b, J197_r16 y = some b → regP Tryz.prog X CC 197 0 B197 16 y.st = some (E197_r16.out b) := by
  cases y; exact reg_ok (E := E197_r16) (fun x => by kernel_rfl)
inductive T197_2s0 where
  | mk (a : Int) (d f : Nat) (i : Int) (j : Bool) (l m o : LV)
inductive T197_2e0 where
  | mk (a : Int) (d f : Nat) (i : Bool) (j l m : LV)
inductive N197_2 where
  | s0 (x : T197_2s0)
  | e0 (x : T197_2e0)
abbrev N197_2.out : N197_2 → VX × S
  | .s0 (.mk a d f i j l m o) => (vN, S.mk (U :: U :: U :: pT 0 :: U :: U :: U :: i64 a :: hS 1 d :: U :: hS 2 f :: U :: U :: i64 i :: un 81 []) [oF 2 [[vb j, lS 2 l]], oT 6 m, oT 2 o])
  | .e0 (.mk p q s t u v w) => (vX 2, S.mk (U :: U :: U :: pT 0 :: U :: U :: U :: i64 p :: hS 1 q :: U :: hS 2 s :: un 84 []) [oF 2 [[vb t, lS 2 u]], oT 6 v, oT 2 w])
abbrev E197_2 := Ent.o2 N197_2.out .s0 .e0 (fun b => by cases b <;> simp)
noncomputable def D197_2 : T197_2s0 → PT N197_2 | .mk p j d a s t o q => .test (a < (↑j : Int)) (fun h0 => .test (0 ≤ w64 (a - 1) ∧ w64 (a - 1) < (↑j : Int)) (fun h1 => .look RW223 (o[(0 : Nat) + Int.toNat (w64 (a - (1 : Int)))]?) fun f => .test (0 ≤ a ∧ a < (↑j : Int)) (fun h2 => .look RW223 (o[(0 : Nat) + Int.toNat a]?) fun i => .ask E240 (F240_ok (W59.mk f.c0 f.c1 f.c2 f.c3 f.c4 f.c5) (W59.mk i.c0 i.c1 i.c2 i.c3 i.c4 i.c5) p) fun ⟨l, m⟩ => .test (0 + l ≤ List.length m) (fun h3 => .test (0 + d ≤ List.length q ∧ (d + List.length (List.take l m)) * 32 ≤ 140737488355328 ∧ d + List.length (List.take l m) ≤ 140737488355328) (fun h4 => .ret (.s0 (.mk p j (d + List.length (List.take l m)) (w64 (a + 1)) s t o (List.take d q ++ List.take l m)))) (fun _ => .fail)) (fun _ => .fail)) (fun _ => .fail)) (fun _ => .fail)) (fun h0 => .ret (.e0 (.mk p j d s t o q)))
noncomputable def L197_2 := E197_2.loop fun | .s0 x => D197_2 x | _ => .fail
theorem L197_2_ok : LU 197 0 B197 2 E197_2 L197_2 :=
  lk (L := notIn []) (fun b hb => by cases b <;> first | (cases hb; done) | (rename_i x; cases x; intro x; kernel_rfl) | (intro x; kernel_rfl))
noncomputable def N197_2.nx (n : Nat) : N197_2 → Option N197_2 | .s0 x => L197_2 n (.s0 x) | .e0 x => some (.e0 x)
theorem L197_2_s0 (n : Nat) (x : T197_2s0) : L197_2 (n + 1) (.s0 x) = (D197_2 x).ev (N197_2.nx n) := Ent.loop_eq fun c => by cases c <;> rfl
inductive T197_0s0 where
  | mk (a : Int) (d : Nat) (f : Bool) (i : Nat) (j l : Int) (m : Bool) (o p q : LV)
inductive T197_0e0 where
  | mk (a : Int) (d f : Nat) (i : Bool) (j l m : LV)
inductive N197_0 where
  | s0 (x : T197_0s0)
  | e0 (x : T197_0e0)
abbrev N197_0.out : N197_0 → VX × S
  | .s0 (.mk d a f i j l m o p q) => (vN, S.mk (U :: U :: U :: pT 0 :: U :: U :: U :: i64 d :: hS 1 a :: vb f :: hS 2 i :: un 17 (hS 1 a :: i64 j :: i64 l :: un 64 [])) [oF 2 [[vb m, lS 2 o]], oT 6 p, oT 2 q])
  | .e0 (.mk s t u v w y z) => (vX 0, S.mk (U :: U :: U :: pT 0 :: U :: U :: U :: i64 s :: hS 1 t :: U :: hS 2 u :: un 84 []) [oF 2 [[vb v, lS 2 w]], oT 6 y, oT 2 z])
abbrev E197_0 := Ent.o2 N197_0.out .s0 .e0 (fun b => by cases b <;> simp)
noncomputable def D197_0 : T197_0s0 → PT N197_0 | .mk i j o d p f q s m l => .test (f < p) (fun h0 => .test (0 ≤ f ∧ f < (↑j : Int)) (fun h1 => .look RW223 (m[(0 : Nat) + Int.toNat f]?) fun a => .auto 2 <| .testB o (fun h2 => .auto 2 <| .known h2 <| .auto 5 <| .ask E239 (F239_ok (W59.mk a.c0 a.c1 a.c2 a.c3 a.c4 a.c5) i (f == 0) (f == w64 ((↑j : Int) - 1))) fun ⟨y, t, u⟩ => .test (0 + t ≤ List.length u) (fun h3 => .auto 1 <| .test (0 + d ≤ List.length l ∧ (d + 1) * 32 ≤ 140737488355328 ∧ d + 1 ≤ 140737488355328) (fun h4 => .ret (.s0 (.mk i j o (d + 1) p (w64 (f + 1)) q s m (List.take d l ++ [[vb y, lS 2 (List.take t u)]])))) (fun _ => .fail)) (fun _ => .fail)) (fun h2 => .auto 2 <| .known h2 <| .auto 5 <| .ask E239 (F239_ok (W59.mk a.c0 a.c1 a.c2 a.c3 a.c4 a.c5) i false false) fun ⟨z, v, w⟩ => .test (0 + v ≤ List.length w) (fun h3 => .auto 1 <| .test (0 + d ≤ List.length l ∧ (d + 1) * 32 ≤ 140737488355328 ∧ d + 1 ≤ 140737488355328) (fun h4 => .ret (.s0 (.mk i j o (d + 1) p (w64 (f + 1)) q s m (List.take d l ++ [[vb z, lS 2 (List.take v w)]])))) (fun _ => .fail)) (fun _ => .fail))) (fun _ => .fail)) (fun h0 => .ret (.e0 (.mk i j d q s m l)))
noncomputable def L197_0 := E197_0.loop fun | .s0 x => D197_0 x | _ => .fail
theorem L197_0_ok : LU 197 0 B197 0 E197_0 L197_0 :=
  lk (L := notIn []) (fun b hb => by cases b <;> first | (cases hb; done) | (rename_i x; cases x; intro x; kernel_rfl) | (intro x; kernel_rfl))
noncomputable def N197_0.nx (n : Nat) : N197_0 → Option N197_0 | .s0 x => L197_0 n (.s0 x) | .e0 x => some (.e0 x)
theorem L197_0_s0 (n : Nat) (x : T197_0s0) : L197_0 (n + 1) (.s0 x) = (D197_0 x).ev (N197_0.nx n) := Ent.loop_eq fun c => by cases c <;> rfl
inductive T197_r5s0 where
  | mk (a d : Int) (f : Nat) (i : Bool) (j l : LV)
abbrev T197_r5s0.st : T197_r5s0 → S
  | .mk a d f i j l => S.mk (U :: U :: i64 a :: pT 0 :: U :: U :: U :: i64 d :: hS 1 f :: un 86 []) [oF 2 [[vb i, lS 2 j]], oT 6 l]
inductive T197_r5e0 where
  | mk (a : Int) (d : Nat) (f i : Bool) (j l : LV)
inductive N197_r5 where
  | e0 (x : T197_r5e0)
abbrev N197_r5.out : N197_r5 → VX × S
  | .e0 (.mk a d f i j l) => (vN, S.mk (U :: U :: U :: pT 0 :: U :: U :: U :: i64 a :: hS 1 d :: vb f :: un 85 []) [oF 2 [[vb i, lS 2 j]], oT 6 l])
abbrev E197_r5 := Ent.o1 N197_r5.out .e0 fun ⟨x⟩ => ⟨x, rfl⟩
noncomputable def D197_r5 : T197_r5s0 → PT N197_r5 | .mk l d f a i j => .testB (l == 1) (fun h0 => .auto 4 <| .ret (.e0 (.mk d f (!a) a i j))) (fun h0 => .auto 3 <| .ret (.e0 (.mk d f false a i j)))
noncomputable def J197_r5 (y : T197_r5s0) : Option N197_r5 := (D197_r5 y).ev some
theorem J197_r5_ok (y : T197_r5s0) : ∀ b, J197_r5 y = some b → regP Tryz.prog X CC 197 0 B197 5 y.st = some (E197_r5.out b) := by
  cases y; exact reg_ok (E := E197_r5) (fun x => by kernel_rfl)
noncomputable def D197 (o : Bool) (p : LV) (u v : Int) : PT A197 := .auto 1 <| .tot O74 (F74_ok (Int.fdiv u 2) 0 67108864) fun q => .testB (q == 0) (fun h0 => .ret (.a0 0 ([]))) (fun h0 => .auto 1 <| .ask E238 (F238_ok o p) fun ⟨w, y⟩ => .cut E197_r5 (J197_r5_ok (.mk v q w o p y)) fun | .e0 (.mk z s d0 d1 d2 d3) => .cut E197_0 (L197_0_ok (.s0 (.mk z s d0 0 ((↑s : Int)) 0 d1 d2 d3 ([]))) rfl) fun | .e0 (.mk d4 d5 d6 d7 d8 d9 f0) => (.cut E197_2 (L197_2_ok (.s0 (.mk d4 d5 d6 1 d7 d8 d9 f0)) rfl) fun | .e0 (.mk f1 f2 f3 f4 f5 f6 f7) => (.cut E197_r16 (J197_r16_ok (.mk f1 f2 f3 f4 f5 f6 f7)) fun | .e0 (.mk f8 i a f9 t m) => .testB f9 (fun h1 => .test (0 ≤ w64 ((↑i : Int) - 1) ∧ w64 ((↑i : Int) - 1) < (↑i : Int)) (fun h2 => .look RW223 (t[(0 : Nat) + Int.toNat (w64 ((↑i : Int) - (1 : Int)))]?) fun d => .test ((0 : Int) ≤ (0 : Int) ∧ (0 : Int) < (↑i : Int)) (fun h3 => .look RW223 (t[(0 : Nat)]?) fun f => .ask E240 (F240_ok (W59.mk d.c0 d.c1 d.c2 d.c3 d.c4 d.c5) (W59.mk f.c0 f.c1 f.c2 f.c3 f.c4 f.c5) f8) fun ⟨j, l⟩ => .test (0 + j ≤ List.length l) (fun h4 => .test (0 + a ≤ List.length m ∧ (a + List.length (List.take j l)) * 32 ≤ 140737488355328 ∧ a + List.length (List.take j l) ≤ 140737488355328) (fun h5 => .ret (.a0 (a + List.length (List.take j l)) (List.take a m ++ List.take j l))) (fun _ => .fail)) (fun _ => .fail)) (fun _ => .fail)) (fun _ => .fail)) (fun h1 => .ret (.a0 a m))) | _ => .fail) | _ => .fail)
noncomputable def F197 (a : Bool) (d : LV) (f i : Int) : Option A197 := (D197 a d f i).ev some
theorem F197_ok (a : Bool) (d : LV) (f i : Int) : FU E197 (F197 a d f i) 197 [V.agg [vb a, lS 2 d], i64 f, i64 i] := fu rfl rfl fun x => by kernel_rfl
/-! ## F140 -/
noncomputable abbrev B140 : Code := (Tryz.f140.body).getD .skip
inductive T140_2s0 where
  | mk (a : Int) (d : Nat) (f i : Int) (j : Nat) (l m : Int) (o : W34) (p : W59) (q : Nat) (s t u v w : Int) (y z d0 : LV)
inductive T140_2e0 where
  | mk (a : Int) (d : Nat) (f i : Int) (j : W34) (l : W59) (m : Nat) (o p q s t : Int) (u v : LV)
inductive N140_2 where
  | s0 (x : T140_2s0)
  | e0 (x : T140_2e0)
abbrev N140_2.out : N140_2 → VX × S
  | .s0 (.mk p q s t u v w y z d0 a d f i d1 d2 d3 d4) => (vN, S.mk (un 5 (pT 0 :: U :: pT 1 :: U :: U :: pT 2 :: pT 3 :: i64 p :: un 24 (hS 4 q :: i64 s :: i64 t :: un 6 (hS 5 u :: i64 v :: i64 w :: un 17 [])))) [oF 32 [W34.cells y], oF 6 [W59.cells z], oF 17 [[hS 6 0, i64 0, i64 0, u8 0, u8 0, u8 0, u8 0, u8 0, u8 0, u8 0, u8 0, i64 0, i64 0, i64 0, i64 0, i64 0, i64 0]], oF 17 [[hS 7 d0, i64 0, i64 0, u8 a, u8 d, u8 f, u8 i, u8 a, u8 d, u8 f, u8 i, i64 0, i64 0, i64 0, i64 0, i64 0, i64 d1]], oT 2 d2, oT 2 d3, oT 2 [], oT 2 d4])
  | .e0 (.mk d5 d6 d7 d8 d9 f0 f1 j l m o f2 f3 f4) => (vX 2, S.mk (un 5 (pT 0 :: U :: pT 1 :: U :: U :: pT 2 :: pT 3 :: i64 d5 :: un 24 (hS 4 d6 :: i64 d7 :: i64 d8 :: un 26 []))) [oF 32 [W34.cells d9], oF 6 [W59.cells f0], oF 17 [[hS 5 0, i64 0, i64 0, u8 0, u8 0, u8 0, u8 0, u8 0, u8 0, u8 0, u8 0, i64 0, i64 0, i64 0, i64 0, i64 0, i64 0]], oF 17 [[hS 6 f1, i64 0, i64 0, u8 j, u8 l, u8 m, u8 o, u8 j, u8 l, u8 m, u8 o, i64 0, i64 0, i64 0, i64 0, i64 0, i64 f2]], oT 2 f3, oT 2 [], oT 2 f4])
abbrev E140_2 := Ent.o2 N140_2.out .s0 .e0 (fun b => by cases b <;> simp)
noncomputable def D140_2 : T140_2s0 → PT N140_2 | .mk j p q s t u d l m a v w y z d0 d1 d2 o => .test (d < u) (fun h0 => .test (0 ≤ d ∧ d < (↑t : Int)) (fun h1 => .look RW88 (d2[(0 : Nat) + Int.toNat d]?) fun d3 => .auto 5 <| .ask E197 (F197_ok d3.c0 d3.c1 j l.c28) fun ⟨d4, d5⟩ => .test (0 + d4 ≤ List.length d5) (fun h2 => .ask E147 (F147_ok m (List.take d4 d5)) fun ⟨f, i⟩ => .test (0 + f ≤ List.length i) (fun h3 => .test (0 + a ≤ List.length o ∧ (a + List.length (List.take f i)) * 32 ≤ 140737488355328 ∧ a + List.length (List.take f i) ≤ 140737488355328) (fun h4 => .auto 1 <| .ret (.s0 (.mk j p q s t u (w64 (d + 1)) l m (a + List.length (List.take f i)) v w y z d0 d1 d2 (List.take a o ++ List.take f i)))) (fun _ => .fail)) (fun _ => .fail)) (fun _ => .fail)) (fun _ => .fail)) (fun h0 => .ret (.e0 (.mk j p q s l m a v w y z d0 d1 o)))
noncomputable def L140_2 := E140_2.loop fun | .s0 x => D140_2 x | _ => .fail
theorem L140_2_ok : LU 140 0 B140 2 E140_2 L140_2 :=
  lk (L := notIn []) (fun b hb => by cases b <;> first | (cases hb; done) | (rename_i x; cases x; intro x; kernel_rfl) | (intro x; kernel_rfl))
noncomputable def N140_2.nx (n : Nat) : N140_2 → Option N140_2 | .s0 x => L140_2 n (.s0 x) | .e0 x => some (.e0 x)
theorem L140_2_s0 (n : Nat) (x : T140_2s0) : L140_2 (n + 1) (.s0 x) = (D140_2 x).ev (N140_2.nx n) := Ent.loop_eq fun c => by cases c <;> rfl
inductive T140_0s0 where
  | mk (a : Int) (d : Nat) (f i : Int) (j : W34) (l : W59) (m : Nat) (o p q s t : Int) (u v : LV)
inductive T140_0e0 where
  | mk (a : Nat) (d f i j l : Int) (m : LV)
inductive N140_0 where
  | s0 (x : T140_0s0)
  | e0 (x : T140_0e0)
abbrev N140_0.out : N140_0 → VX × S
  | .s0 (.mk p q s t u v w a d f i y z d0) => (vN, S.mk (un 5 (pT 0 :: U :: pT 1 :: U :: U :: pT 2 :: pT 3 :: i64 p :: un 24 (hS 4 q :: i64 s :: i64 t :: un 26 []))) [oF 32 [W34.cells u], oF 6 [W59.cells v], oF 17 [[hS 5 0, i64 0, i64 0, u8 0, u8 0, u8 0, u8 0, u8 0, u8 0, u8 0, u8 0, i64 0, i64 0, i64 0, i64 0, i64 0, i64 0]], oF 17 [[hS 6 w, i64 0, i64 0, u8 a, u8 d, u8 f, u8 i, u8 a, u8 d, u8 f, u8 i, i64 0, i64 0, i64 0, i64 0, i64 0, i64 y]], oT 2 z, oT 2 [], oT 2 d0])
  | .e0 (.mk d1 j l m o d2 d3) => (vX 0, S.mk (un 10 (pT 0 :: pT 1 :: un 54 [])) [oF 17 [[hS 2 0, i64 0, i64 0, u8 0, u8 0, u8 0, u8 0, u8 0, u8 0, u8 0, u8 0, i64 0, i64 0, i64 0, i64 0, i64 0, i64 0]], oF 17 [[hS 3 d1, i64 0, i64 0, u8 j, u8 l, u8 m, u8 o, u8 j, u8 l, u8 m, u8 o, i64 0, i64 0, i64 0, i64 0, i64 0, i64 d2]], oT 2 [], oT 2 d3])
abbrev E140_0 := Ent.o2 N140_0.out .s0 .e0 (fun b => by cases b <;> simp)
noncomputable def D140_0 : T140_0s0 → PT N140_0 | .mk w d f a i y j l m o p q s t => .test (a < f) (fun h0 => .test (0 ≤ a ∧ a < (↑d : Int)) (fun h1 => .look RW88 (s[(0 : Nat) + Int.toNat a]?) fun u => .auto 3 <| .ask E196 (F196_ok u.c0 u.c1 i.c29) fun ⟨v, z⟩ => .cut E140_2 (L140_2_ok (.s0 (.mk w d f a v ((↑v : Int)) 0 i y j l m o p q s z t)) rfl) fun | .e0 (.mk d0 d1 d2 d3 d4 d5 d6 d7 d8 d9 f0 f1 f2 f3) => .ret (.s0 (.mk d0 d1 d2 (w64 (d3 + 1)) d4 d5 d6 d7 d8 d9 f0 f1 f2 f3)) | _ => .fail) (fun _ => .fail)) (fun h0 => .ret (.e0 (.mk j l m o p q t)))
noncomputable def L140_0 := E140_0.loop fun | .s0 x => D140_0 x | _ => .fail
theorem L140_0_ok : LU 140 0 B140 0 E140_0 L140_0 :=
  lk (L := notIn []) (fun b hb => by cases b <;> first | (cases hb; done) | (rename_i x; cases x; intro x; kernel_rfl) | (intro x; kernel_rfl))
noncomputable def N140_0.nx (n : Nat) : N140_0 → Option N140_0 | .s0 x => L140_0 n (.s0 x) | .e0 x => some (.e0 x)
theorem L140_0_s0 (n : Nat) (x : T140_0s0) : L140_0 (n + 1) (.s0 x) = (D140_0 x).ev (N140_0.nx n) := Ent.loop_eq fun c => by cases c <;> rfl
noncomputable def D140 (a : W34) (d : Int) (o : W59) (p : Int) (q : LV) : PT A140 := .auto 4 <| .ask E72 (F72_ok a.c23 d 0) fun ⟨s⟩ => .auto 1 <| .ask E72 (F72_ok a.c30 d 0) fun ⟨t⟩ => .auto 1 <| .ask E72 (F72_ok a.c31 d 65536) fun ⟨u⟩ => .ask E195 (F195_ok q t u) fun ⟨f, v⟩ => .cut E140_0 (L140_0_ok (.s0 (.mk s f ((↑f : Int)) 0 a o 0 a.c24 a.c25 a.c26 a.c27 p v ([]))) rfl) fun | .e0 (.mk w i j l m y z) => (.auto 2 <| .ret (.a0 w 0 0 i j l m i j l m 0 0 0 0 0 y z)) | _ => .fail
noncomputable def F140 (a : W34) (d : Int) (f : W59) (i : Int) (j : LV) : Option A140 := (D140 a d f i j).ev some
theorem F140_ok (a : W34) (d : Int) (f : W59) (i : Int) (j : LV) : FU E140 (F140 a d f i j) 140 [V.agg (W34.cells a), i64 d, V.agg (W59.cells f), i64 i, lS 2 j] := fu rfl rfl fun x => by kernel_rfl
end Go.Proofs.YtifalphladcdcaaGreat.H
