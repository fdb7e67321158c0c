/- What the functions compute, and that they do so over the machine of plain values (printed by this session's program wip/vm/Walk.lean). No condition beyond those stated. -/
import Derived.Test.YtifalphladcdcaaGreatWk
import Derived.Test.YtifalphladcdcaaGreatRowsR5Z
set_option linter.unusedVariables false
set_option linter.unusedSimpArgs false
namespace Go.Proofs.YtifalphladcdcaaGreat.H
open Go Go.VM
set_option maxRecDepth 100000
/-! ## types -/
def Y0 : ByteArray := { data := List.toArray (List.append (List.append [0, 1, 2, 2, 3, 3, 3, 3, 4, 4, 4, 4, 4, 4, 4, 4, 5, 5, 5, 5, 5, 5, 5, 5, 5, 5, 5, 5, 5, 5, 5, 5, 6, 6, 6, 6, 6, 6, 6, 6, 6, 6, 6, 6, 6, 6, 6, 6, 6, 6, 6, 6, 6, 6, 6, 6, 6, 6, 6, 6, 6, 6, 6, 6] [7, 7, 7, 7, 7, 7, 7, 7, 7, 7, 7, 7, 7, 7, 7, 7, 7, 7, 7, 7, 7, 7, 7, 7, 7, 7, 7, 7, 7, 7, 7, 7, 7, 7, 7, 7, 7, 7, 7, 7, 7, 7, 7, 7, 7, 7, 7, 7, 7, 7, 7, 7, 7, 7, 7, 7, 7, 7, 7, 7, 7, 7, 7, 7]) (List.append [8, 8, 8, 8, 8, 8, 8, 8, 8, 8, 8, 8, 8, 8, 8, 8, 8, 8, 8, 8, 8, 8, 8, 8, 8, 8, 8, 8, 8, 8, 8, 8, 8, 8, 8, 8, 8, 8, 8, 8, 8, 8, 8, 8, 8, 8, 8, 8, 8, 8, 8, 8, 8, 8, 8, 8, 8, 8, 8, 8, 8, 8, 8, 8] [8, 8, 8, 8, 8, 8, 8, 8, 8, 8, 8, 8, 8, 8, 8, 8, 8, 8, 8, 8, 8, 8, 8, 8, 8, 8, 8, 8, 8, 8, 8, 8, 8, 8, 8, 8, 8, 8, 8, 8, 8, 8, 8, 8, 8, 8, 8, 8, 8, 8, 8, 8, 8, 8, 8, 8, 8, 8, 8, 8, 8, 8, 8, 8])) }
inductive A19 where
  | a0 (z50 : Int)
@[reducible] def A19.out : A19 → V × Store
  | .a0 z50 => (i64 z50, [])
def A19.ex (g : A19 → Prop) : Prop := (∃ (z50 : Int), g (.a0 z50))
theorem A19.ok (g : A19 → Prop) : A19.ex g ↔ ∃ b, g b := ⟨fun h => match h with
  | ⟨_, h⟩ => ⟨_, h⟩, fun ⟨b, h⟩ => match b, h with
  | .a0 _, h => ⟨_, h⟩⟩
abbrev E19 : Ent (V × Store) := ⟨A19, A19.out, A19.ex, A19.ok⟩
inductive A43 where
  | a0 (z43 : Int) (l44 : List (List V)) (z45 : Int)
@[reducible] def A43.out : A43 → V × Store
  | .a0 z43 l44 z45 => (i64 z43, [Ob.cells true false 2 [[V.list 1 l44, i64 z45]]])
def A43.ex (g : A43 → Prop) : Prop := (∃ (z43 : Int) (l44 : List (List V)) (z45 : Int), g (.a0 z43 l44 z45))
theorem A43.ok (g : A43 → Prop) : A43.ex g ↔ ∃ b, g b := ⟨fun h => match h with
  | ⟨_, _, _, h⟩ => ⟨_, h⟩, fun ⟨b, h⟩ => match b, h with
  | .a0 _ _ _, h => ⟨_, _, _, h⟩⟩
abbrev E43 : Ent (V × Store) := ⟨A43, A43.out, A43.ex, A43.ok⟩
inductive A47 where
  | a0 (z113 : Int) (l114 : List (List V)) (z115 : Int)
@[reducible] def A47.out : A47 → V × Store
  | .a0 z113 l114 z115 => (i64 z113, [Ob.cells true false 2 [[V.list 1 l114, i64 z115]]])
def A47.ex (g : A47 → Prop) : Prop := (∃ (z113 : Int) (l114 : List (List V)) (z115 : Int), g (.a0 z113 l114 z115))
theorem A47.ok (g : A47 → Prop) : A47.ex g ↔ ∃ b, g b := ⟨fun h => match h with
  | ⟨_, _, _, h⟩ => ⟨_, h⟩, fun ⟨b, h⟩ => match b, h with
  | .a0 _ _ _, h => ⟨_, _, _, h⟩⟩
abbrev E47 : Ent (V × Store) := ⟨A47, A47.out, A47.ex, A47.ok⟩
inductive A106 where
  | a0 (z125 : Int) (z126 : Int) (l127 : List (List V)) (z128 : Int)
@[reducible] def A106.out : A106 → V × Store
  | .a0 z125 z126 l127 z128 => (V.agg [i64 z125, i64 z126], [Ob.cells true false 2 [[V.list 1 l127, i64 z128]]])
def A106.ex (g : A106 → Prop) : Prop := (∃ (z125 : Int) (z126 : Int) (l127 : List (List V)) (z128 : Int), g (.a0 z125 z126 l127 z128))
theorem A106.ok (g : A106 → Prop) : A106.ex g ↔ ∃ b, g b := ⟨fun h => match h with
  | ⟨_, _, _, _, h⟩ => ⟨_, h⟩, fun ⟨b, h⟩ => match b, h with
  | .a0 _ _ _ _, h => ⟨_, _, _, _, h⟩⟩
abbrev E106 : Ent (V × Store) := ⟨A106, A106.out, A106.ex, A106.ok⟩
inductive A44 where
  | a0 (b169 : Bool) (k170 : Nat) (l171 : List (List V)) (z172 : Int) (l173 : List (List V))
@[reducible] def A44.out : A44 → V × Store
  | .a0 b169 k170 l171 z172 l173 => (V.agg [vb b169, V.hs 1 0 k170], [Ob.cells true false 2 [[V.list 1 l171, i64 z172]], Ob.cells true true 2 l173])
def A44.ex (g : A44 → Prop) : Prop := (∃ (b169 : Bool) (k170 : Nat) (l171 : List (List V)) (z172 : Int) (l173 : List (List V)), g (.a0 b169 k170 l171 z172 l173))
theorem A44.ok (g : A44 → Prop) : A44.ex g ↔ ∃ b, g b := ⟨fun h => match h with
  | ⟨_, _, _, _, _, h⟩ => ⟨_, h⟩, fun ⟨b, h⟩ => match b, h with
  | .a0 _ _ _ _ _, h => ⟨_, _, _, _, _, h⟩⟩
abbrev E44 : Ent (V × Store) := ⟨A44, A44.out, A44.ex, A44.ok⟩
inductive A107 where
  | a0 (z260 : Int) (z261 : Int) (z262 : Int) (z263 : Int) (l264 : List (List V)) (z265 : Int)
@[reducible] def A107.out : A107 → V × Store
  | .a0 z260 z261 z262 z263 l264 z265 => (V.agg [i64 z260, i64 z261, i64 z262, i64 z263], [Ob.cells true false 2 [[V.list 1 l264, i64 z265]]])
def A107.ex (g : A107 → Prop) : Prop := (∃ (z260 : Int) (z261 : Int) (z262 : Int) (z263 : Int) (l264 : List (List V)) (z265 : Int), g (.a0 z260 z261 z262 z263 l264 z265))
theorem A107.ok (g : A107 → Prop) : A107.ex g ↔ ∃ b, g b := ⟨fun h => match h with
  | ⟨_, _, _, _, _, _, h⟩ => ⟨_, h⟩, fun ⟨b, h⟩ => match b, h with
  | .a0 _ _ _ _ _ _, h => ⟨_, _, _, _, _, _, h⟩⟩
abbrev E107 : Ent (V × Store) := ⟨A107, A107.out, A107.ex, A107.ok⟩
inductive A45 where
  | a0 (z239 : Int) (z240 : Int) (z241 : Int) (z242 : Int) (z243 : Int) (l244 : List (List V)) (z245 : Int)
@[reducible] def A45.out : A45 → V × Store
  | .a0 z239 z240 z241 z242 z243 l244 z245 => (V.tup [i64 z239, V.agg [i64 z240, i64 z241, i64 z242, i64 z243]], [Ob.cells true false 2 [[V.list 1 l244, i64 z245]]])
def A45.ex (g : A45 → Prop) : Prop := (∃ (z239 : Int) (z240 : Int) (z241 : Int) (z242 : Int) (z243 : Int) (l244 : List (List V)) (z245 : Int), g (.a0 z239 z240 z241 z242 z243 l244 z245))
theorem A45.ok (g : A45 → Prop) : A45.ex g ↔ ∃ b, g b := ⟨fun h => match h with
  | ⟨_, _, _, _, _, _, _, h⟩ => ⟨_, h⟩, fun ⟨b, h⟩ => match b, h with
  | .a0 _ _ _ _ _ _ _, h => ⟨_, _, _, _, _, _, _, h⟩⟩
abbrev E45 : Ent (V × Store) := ⟨A45, A45.out, A45.ex, A45.ok⟩
inductive A46 where
  | a0 (k345 : Nat) (l346 : List (List V)) (z347 : Int) (l348 : List (List V))
@[reducible] def A46.out : A46 → V × Store
  | .a0 k345 l346 z347 l348 => (V.hs 1 0 k345, [Ob.cells true false 2 [[V.list 1 l346, i64 z347]], Ob.cells true true 7 l348])
def A46.ex (g : A46 → Prop) : Prop := (∃ (k345 : Nat) (l346 : List (List V)) (z347 : Int) (l348 : List (List V)), g (.a0 k345 l346 z347 l348))
theorem A46.ok (g : A46 → Prop) : A46.ex g ↔ ∃ b, g b := ⟨fun h => match h with
  | ⟨_, _, _, _, h⟩ => ⟨_, h⟩, fun ⟨b, h⟩ => match b, h with
  | .a0 _ _ _ _, h => ⟨_, _, _, _, h⟩⟩
abbrev E46 : Ent (V × Store) := ⟨A46, A46.out, A46.ex, A46.ok⟩
inductive A49 where
  | a0 (z458 : Int) (z459 : Int) (z460 : Int) (z461 : Int) (l462 : List (List V)) (z463 : Int)
@[reducible] def A49.out : A49 → V × Store
  | .a0 z458 z459 z460 z461 l462 z463 => (V.agg [u8 z458, u8 z459, u8 z460, u8 z461], [Ob.cells true false 2 [[V.list 1 l462, i64 z463]]])
def A49.ex (g : A49 → Prop) : Prop := (∃ (z458 : Int) (z459 : Int) (z460 : Int) (z461 : Int) (l462 : List (List V)) (z463 : Int), g (.a0 z458 z459 z460 z461 l462 z463))
theorem A49.ok (g : A49 → Prop) : A49.ex g ↔ ∃ b, g b := ⟨fun h => match h with
  | ⟨_, _, _, _, _, _, h⟩ => ⟨_, h⟩, fun ⟨b, h⟩ => match b, h with
  | .a0 _ _ _ _ _ _, h => ⟨_, _, _, _, _, _, h⟩⟩
abbrev E49 : Ent (V × Store) := ⟨A49, A49.out, A49.ex, A49.ok⟩
inductive A48 where
  | a0 (z487 : Int) (z488 : Int) (z489 : Int) (z490 : Int) (z491 : Int) (z492 : Int) (z493 : Int) (z494 : Int) (z495 : Int) (z496 : Int) (z497 : Int) (z498 : Int) (z499 : Int) (z500 : Int) (l501 : List (List V)) (z502 : Int)
@[reducible] def A48.out : A48 → V × Store
  | .a0 z487 z488 z489 z490 z491 z492 z493 z494 z495 z496 z497 z498 z499 z500 l501 z502 => (V.agg [i64 z487, u8 z488, u8 z489, u8 z490, u8 z491, u8 z492, u8 z493, u8 z494, u8 z495, i64 z496, i64 z497, i64 z498, i64 z499, i64 z500], [Ob.cells true false 2 [[V.list 1 l501, i64 z502]]])
def A48.ex (g : A48 → Prop) : Prop := (∃ (z487 : Int) (z488 : Int) (z489 : Int) (z490 : Int) (z491 : Int) (z492 : Int) (z493 : Int) (z494 : Int) (z495 : Int) (z496 : Int) (z497 : Int) (z498 : Int) (z499 : Int) (z500 : Int) (l501 : List (List V)) (z502 : Int), g (.a0 z487 z488 z489 z490 z491 z492 z493 z494 z495 z496 z497 z498 z499 z500 l501 z502))
theorem A48.ok (g : A48 → Prop) : A48.ex g ↔ ∃ b, g b := ⟨fun h => match h with
  | ⟨_, _, _, _, _, _, _, _, _, _, _, _, _, _, _, _, h⟩ => ⟨_, h⟩, fun ⟨b, h⟩ => match b, h with
  | .a0 _ _ _ _ _ _ _ _ _ _ _ _ _ _ _ _, h => ⟨_, _, _, _, _, _, _, _, _, _, _, _, _, _, _, _, h⟩⟩
abbrev E48 : Ent (V × Store) := ⟨A48, A48.out, A48.ex, A48.ok⟩
inductive A13 where
  | a0 (z927 : Int) (z928 : Int) (k929 : Nat) (k930 : Nat) (k931 : Nat) (b932 : Bool) (z933 : Int) (z934 : Int) (z935 : Int) (z936 : Int) (z937 : Int) (z938 : Int) (z939 : Int) (z940 : Int) (z941 : Int) (z942 : Int) (z943 : Int) (z944 : Int) (z945 : Int) (z946 : Int) (z947 : Int) (k948 : Nat) (b949 : Bool) (k950 : Nat) (z951 : Int) (z952 : Int) (z953 : Int) (z954 : Int) (z955 : Int) (k956 : Nat) (k957 : Nat) (k958 : Nat) (l959 : List (List V)) (z960 : Int) (l961 : List (List V)) (l962 : List (List V)) (l963 : List (List V)) (l964 : List (List V)) (l965 : List (List V)) (l966 : List (List V)) (l967 : List (List V)) (l968 : List (List V))
@[reducible] def A13.out : A13 → V × Store
  | .a0 z927 z928 k929 k930 k931 b932 z933 z934 z935 z936 z937 z938 z939 z940 z941 z942 z943 z944 z945 z946 z947 k948 b949 k950 z951 z952 z953 z954 z955 k956 k957 k958 l959 z960 l961 l962 l963 l964 l965 l966 l967 l968 => (V.agg [i64 z927, i64 z928, V.hs 1 0 k929, V.hs 2 0 k930, V.hs 3 0 k931, vb b932, i64 z933, i64 z934, u8 z935, u8 z936, u8 z937, u8 z938, u8 z939, u8 z940, u8 z941, u8 z942, i64 z943, i64 z944, i64 z945, i64 z946, i64 z947, V.hs 4 0 k948, vb b949, V.hs 5 0 k950, u8 z951, u8 z952, u8 z953, u8 z954, i64 z955, V.hs 6 0 k956, V.hs 7 0 k957, V.hs 8 0 k958], [Ob.cells true false 2 [[V.list 1 l959, i64 z960]], Ob.cells true true 7 l961, Ob.cells true true 7 l962, Ob.cells true true 8 l963, Ob.cells true true 10 l964, Ob.cells true true 7 l965, Ob.cells true true 1 l966, Ob.cells true true 7 l967, Ob.cells true true 7 l968])
def A13.ex (g : A13 → Prop) : Prop := (∃ (z927 : Int) (z928 : Int) (k929 : Nat) (k930 : Nat) (k931 : Nat) (b932 : Bool) (z933 : Int) (z934 : Int) (z935 : Int) (z936 : Int) (z937 : Int) (z938 : Int) (z939 : Int) (z940 : Int) (z941 : Int) (z942 : Int) (z943 : Int) (z944 : Int) (z945 : Int) (z946 : Int) (z947 : Int) (k948 : Nat) (b949 : Bool) (k950 : Nat) (z951 : Int) (z952 : Int) (z953 : Int) (z954 : Int) (z955 : Int) (k956 : Nat) (k957 : Nat) (k958 : Nat) (l959 : List (List V)) (z960 : Int) (l961 : List (List V)) (l962 : List (List V)) (l963 : List (List V)) (l964 : List (List V)) (l965 : List (List V)) (l966 : List (List V)) (l967 : List (List V)) (l968 : List (List V)), g (.a0 z927 z928 k929 k930 k931 b932 z933 z934 z935 z936 z937 z938 z939 z940 z941 z942 z943 z944 z945 z946 z947 k948 b949 k950 z951 z952 z953 z954 z955 k956 k957 k958 l959 z960 l961 l962 l963 l964 l965 l966 l967 l968))
theorem A13.ok (g : A13 → Prop) : A13.ex g ↔ ∃ b, g b := ⟨fun h => match h with
  | ⟨_, _, _, _, _, _, _, _, _, _, _, _, _, _, _, _, _, _, _, _, _, _, _, _, _, _, _, _, _, _, _, _, _, _, _, _, _, _, _, _, _, _, h⟩ => ⟨_, h⟩, fun ⟨b, h⟩ => match b, h with
  | .a0 _ _ _ _ _ _ _ _ _ _ _ _ _ _ _ _ _ _ _ _ _ _ _ _ _ _ _ _ _ _ _ _ _ _ _ _ _ _ _ _ _ _, h => ⟨_, _, _, _, _, _, _, _, _, _, _, _, _, _, _, _, _, _, _, _, _, _, _, _, _, _, _, _, _, _, _, _, _, _, _, _, _, _, _, _, _, _, h⟩⟩
abbrev E13 : Ent (V × Store) := ⟨A13, A13.out, A13.ex, A13.ok⟩
inductive A114 where
  | a0 (b2493 : Bool)
@[reducible] def A114.out : A114 → V × Store
  | .a0 b2493 => (vb b2493, [])
def A114.ex (g : A114 → Prop) : Prop := (∃ (b2493 : Bool), g (.a0 b2493))
theorem A114.ok (g : A114 → Prop) : A114.ex g ↔ ∃ b, g b := ⟨fun h => match h with
  | ⟨_, h⟩ => ⟨_, h⟩, fun ⟨b, h⟩ => match b, h with
  | .a0 _, h => ⟨_, h⟩⟩
abbrev E114 : Ent (V × Store) := ⟨A114, A114.out, A114.ex, A114.ok⟩
inductive A262 where
  | a0 (z2539 : Int)
@[reducible] def A262.out : A262 → V × Store
  | .a0 z2539 => (i64 z2539, [])
def A262.ex (g : A262 → Prop) : Prop := (∃ (z2539 : Int), g (.a0 z2539))
theorem A262.ok (g : A262 → Prop) : A262.ex g ↔ ∃ b, g b := ⟨fun h => match h with
  | ⟨_, h⟩ => ⟨_, h⟩, fun ⟨b, h⟩ => match b, h with
  | .a0 _, h => ⟨_, h⟩⟩
abbrev E262 : Ent (V × Store) := ⟨A262, A262.out, A262.ex, A262.ok⟩
inductive A226 where
  | a0 (b2548 : Bool)
@[reducible] def A226.out : A226 → V × Store
  | .a0 b2548 => (vb b2548, [])
def A226.ex (g : A226 → Prop) : Prop := (∃ (b2548 : Bool), g (.a0 b2548))
theorem A226.ok (g : A226 → Prop) : A226.ex g ↔ ∃ b, g b := ⟨fun h => match h with
  | ⟨_, h⟩ => ⟨_, h⟩, fun ⟨b, h⟩ => match b, h with
  | .a0 _, h => ⟨_, h⟩⟩
abbrev E226 : Ent (V × Store) := ⟨A226, A226.out, A226.ex, A226.ok⟩
inductive A177 where
  | a0 (b2522 : Bool)
@[reducible] def A177.out : A177 → V × Store
  | .a0 b2522 => (vb b2522, [])
def A177.ex (g : A177 → Prop) : Prop := (∃ (b2522 : Bool), g (.a0 b2522))
theorem A177.ok (g : A177 → Prop) : A177.ex g ↔ ∃ b, g b := ⟨fun h => match h with
  | ⟨_, h⟩ => ⟨_, h⟩, fun ⟨b, h⟩ => match b, h with
  | .a0 _, h => ⟨_, h⟩⟩
abbrev E177 : Ent (V × Store) := ⟨A177, A177.out, A177.ex, A177.ok⟩
inductive A112 where
  | a0 (b2563 : Bool)
@[reducible] def A112.out : A112 → V × Store
  | .a0 b2563 => (vb b2563, [])
def A112.ex (g : A112 → Prop) : Prop := (∃ (b2563 : Bool), g (.a0 b2563))
theorem A112.ok (g : A112 → Prop) : A112.ex g ↔ ∃ b, g b := ⟨fun h => match h with
  | ⟨_, h⟩ => ⟨_, h⟩, fun ⟨b, h⟩ => match b, h with
  | .a0 _, h => ⟨_, h⟩⟩
abbrev E112 : Ent (V × Store) := ⟨A112, A112.out, A112.ex, A112.ok⟩
inductive A56 where
  | a0 (b2652 : Bool)
@[reducible] def A56.out : A56 → V × Store
  | .a0 b2652 => (vb b2652, [])
def A56.ex (g : A56 → Prop) : Prop := (∃ (b2652 : Bool), g (.a0 b2652))
theorem A56.ok (g : A56 → Prop) : A56.ex g ↔ ∃ b, g b := ⟨fun h => match h with
  | ⟨_, h⟩ => ⟨_, h⟩, fun ⟨b, h⟩ => match b, h with
  | .a0 _, h => ⟨_, h⟩⟩
abbrev E56 : Ent (V × Store) := ⟨A56, A56.out, A56.ex, A56.ok⟩
inductive A53 where
  | a0 (b2609 : Bool)
@[reducible] def A53.out : A53 → V × Store
  | .a0 b2609 => (vb b2609, [])
def A53.ex (g : A53 → Prop) : Prop := (∃ (b2609 : Bool), g (.a0 b2609))
theorem A53.ok (g : A53 → Prop) : A53.ex g ↔ ∃ b, g b := ⟨fun h => match h with
  | ⟨_, h⟩ => ⟨_, h⟩, fun ⟨b, h⟩ => match b, h with
  | .a0 _, h => ⟨_, h⟩⟩
abbrev E53 : Ent (V × Store) := ⟨A53, A53.out, A53.ex, A53.ok⟩
inductive A54 where
  | a0 (b2861 : Bool)
@[reducible] def A54.out : A54 → V × Store
  | .a0 b2861 => (vb b2861, [])
def A54.ex (g : A54 → Prop) : Prop := (∃ (b2861 : Bool), g (.a0 b2861))
theorem A54.ok (g : A54 → Prop) : A54.ex g ↔ ∃ b, g b := ⟨fun h => match h with
  | ⟨_, h⟩ => ⟨_, h⟩, fun ⟨b, h⟩ => match b, h with
  | .a0 _, h => ⟨_, h⟩⟩
abbrev E54 : Ent (V × Store) := ⟨A54, A54.out, A54.ex, A54.ok⟩
inductive A55 where
  | a0 (b2893 : Bool)
@[reducible] def A55.out : A55 → V × Store
  | .a0 b2893 => (vb b2893, [])
def A55.ex (g : A55 → Prop) : Prop := (∃ (b2893 : Bool), g (.a0 b2893))
theorem A55.ok (g : A55 → Prop) : A55.ex g ↔ ∃ b, g b := ⟨fun h => match h with
  | ⟨_, h⟩ => ⟨_, h⟩, fun ⟨b, h⟩ => match b, h with
  | .a0 _, h => ⟨_, h⟩⟩
abbrev E55 : Ent (V × Store) := ⟨A55, A55.out, A55.ex, A55.ok⟩
inductive A180 where
  | a0 (z2914 : Int)
@[reducible] def A180.out : A180 → V × Store
  | .a0 z2914 => (i64 z2914, [])
def A180.ex (g : A180 → Prop) : Prop := (∃ (z2914 : Int), g (.a0 z2914))
theorem A180.ok (g : A180 → Prop) : A180.ex g ↔ ∃ b, g b := ⟨fun h => match h with
  | ⟨_, h⟩ => ⟨_, h⟩, fun ⟨b, h⟩ => match b, h with
  | .a0 _, h => ⟨_, h⟩⟩
abbrev E180 : Ent (V × Store) := ⟨A180, A180.out, A180.ex, A180.ok⟩
inductive A115 where
  | a0 (b2923 : Bool)
@[reducible] def A115.out : A115 → V × Store
  | .a0 b2923 => (vb b2923, [])
def A115.ex (g : A115 → Prop) : Prop := (∃ (b2923 : Bool), g (.a0 b2923))
theorem A115.ok (g : A115 → Prop) : A115.ex g ↔ ∃ b, g b := ⟨fun h => match h with
  | ⟨_, h⟩ => ⟨_, h⟩, fun ⟨b, h⟩ => match b, h with
  | .a0 _, h => ⟨_, h⟩⟩
abbrev E115 : Ent (V × Store) := ⟨A115, A115.out, A115.ex, A115.ok⟩
inductive A57 where
  | a0 (b2925 : Bool)
@[reducible] def A57.out : A57 → V × Store
  | .a0 b2925 => (vb b2925, [])
def A57.ex (g : A57 → Prop) : Prop := (∃ (b2925 : Bool), g (.a0 b2925))
theorem A57.ok (g : A57 → Prop) : A57.ex g ↔ ∃ b, g b := ⟨fun h => match h with
  | ⟨_, h⟩ => ⟨_, h⟩, fun ⟨b, h⟩ => match b, h with
  | .a0 _, h => ⟨_, h⟩⟩
abbrev E57 : Ent (V × Store) := ⟨A57, A57.out, A57.ex, A57.ok⟩
inductive A15 where
  | a0 (b2927 : Bool)
@[reducible] def A15.out : A15 → V × Store
  | .a0 b2927 => (vb b2927, [])
def A15.ex (g : A15 → Prop) : Prop := (∃ (b2927 : Bool), g (.a0 b2927))
theorem A15.ok (g : A15 → Prop) : A15.ex g ↔ ∃ b, g b := ⟨fun h => match h with
  | ⟨_, h⟩ => ⟨_, h⟩, fun ⟨b, h⟩ => match b, h with
  | .a0 _, h => ⟨_, h⟩⟩
abbrev E15 : Ent (V × Store) := ⟨A15, A15.out, A15.ex, A15.ok⟩
inductive A58 where
  | a0 (b3165 : Bool)
@[reducible] def A58.out : A58 → V × Store
  | .a0 b3165 => (vb b3165, [])
def A58.ex (g : A58 → Prop) : Prop := (∃ (b3165 : Bool), g (.a0 b3165))
theorem A58.ok (g : A58 → Prop) : A58.ex g ↔ ∃ b, g b := ⟨fun h => match h with
  | ⟨_, h⟩ => ⟨_, h⟩, fun ⟨b, h⟩ => match b, h with
  | .a0 _, h => ⟨_, h⟩⟩
abbrev E58 : Ent (V × Store) := ⟨A58, A58.out, A58.ex, A58.ok⟩
inductive A119 where
  | a0 (b3219 : Bool)
@[reducible] def A119.out : A119 → V × Store
  | .a0 b3219 => (vb b3219, [])
def A119.ex (g : A119 → Prop) : Prop := (∃ (b3219 : Bool), g (.a0 b3219))
theorem A119.ok (g : A119 → Prop) : A119.ex g ↔ ∃ b, g b := ⟨fun h => match h with
  | ⟨_, h⟩ => ⟨_, h⟩, fun ⟨b, h⟩ => match b, h with
  | .a0 _, h => ⟨_, h⟩⟩
abbrev E119 : Ent (V × Store) := ⟨A119, A119.out, A119.ex, A119.ok⟩
inductive A59 where
  | a0 (b3250 : Bool)
@[reducible] def A59.out : A59 → V × Store
  | .a0 b3250 => (vb b3250, [])
def A59.ex (g : A59 → Prop) : Prop := (∃ (b3250 : Bool), g (.a0 b3250))
theorem A59.ok (g : A59 → Prop) : A59.ex g ↔ ∃ b, g b := ⟨fun h => match h with
  | ⟨_, h⟩ => ⟨_, h⟩, fun ⟨b, h⟩ => match b, h with
  | .a0 _, h => ⟨_, h⟩⟩
abbrev E59 : Ent (V × Store) := ⟨A59, A59.out, A59.ex, A59.ok⟩
inductive A61 where
  | a0 (b3370 : Bool)
@[reducible] def A61.out : A61 → V × Store
  | .a0 b3370 => (vb b3370, [])
def A61.ex (g : A61 → Prop) : Prop := (∃ (b3370 : Bool), g (.a0 b3370))
theorem A61.ok (g : A61 → Prop) : A61.ex g ↔ ∃ b, g b := ⟨fun h => match h with
  | ⟨_, h⟩ => ⟨_, h⟩, fun ⟨b, h⟩ => match b, h with
  | .a0 _, h => ⟨_, h⟩⟩
abbrev E61 : Ent (V × Store) := ⟨A61, A61.out, A61.ex, A61.ok⟩
inductive A62 where
  | a0 (b3390 : Bool)
@[reducible] def A62.out : A62 → V × Store
  | .a0 b3390 => (vb b3390, [])
def A62.ex (g : A62 → Prop) : Prop := (∃ (b3390 : Bool), g (.a0 b3390))
theorem A62.ok (g : A62 → Prop) : A62.ex g ↔ ∃ b, g b := ⟨fun h => match h with
  | ⟨_, h⟩ => ⟨_, h⟩, fun ⟨b, h⟩ => match b, h with
  | .a0 _, h => ⟨_, h⟩⟩
abbrev E62 : Ent (V × Store) := ⟨A62, A62.out, A62.ex, A62.ok⟩
inductive A16 where
  | a0 (b3099 : Bool)
@[reducible] def A16.out : A16 → V × Store
  | .a0 b3099 => (vb b3099, [])
def A16.ex (g : A16 → Prop) : Prop := (∃ (b3099 : Bool), g (.a0 b3099))
theorem A16.ok (g : A16 → Prop) : A16.ex g ↔ ∃ b, g b := ⟨fun h => match h with
  | ⟨_, h⟩ => ⟨_, h⟩, fun ⟨b, h⟩ => match b, h with
  | .a0 _, h => ⟨_, h⟩⟩
abbrev E16 : Ent (V × Store) := ⟨A16, A16.out, A16.ex, A16.ok⟩
inductive A133 where
  | a0 (z3533 : Int)
@[reducible] def A133.out : A133 → V × Store
  | .a0 z3533 => (i64 z3533, [])
def A133.ex (g : A133 → Prop) : Prop := (∃ (z3533 : Int), g (.a0 z3533))
theorem A133.ok (g : A133 → Prop) : A133.ex g ↔ ∃ b, g b := ⟨fun h => match h with
  | ⟨_, h⟩ => ⟨_, h⟩, fun ⟨b, h⟩ => match b, h with
  | .a0 _, h => ⟨_, h⟩⟩
abbrev E133 : Ent (V × Store) := ⟨A133, A133.out, A133.ex, A133.ok⟩
inductive A136 where
  | a0 (z3554 : Int)
@[reducible] def A136.out : A136 → V × Store
  | .a0 z3554 => (i64 z3554, [])
def A136.ex (g : A136 → Prop) : Prop := (∃ (z3554 : Int), g (.a0 z3554))
theorem A136.ok (g : A136 → Prop) : A136.ex g ↔ ∃ b, g b := ⟨fun h => match h with
  | ⟨_, h⟩ => ⟨_, h⟩, fun ⟨b, h⟩ => match b, h with
  | .a0 _, h => ⟨_, h⟩⟩
abbrev E136 : Ent (V × Store) := ⟨A136, A136.out, A136.ex, A136.ok⟩
inductive A187 where
  | a0 (z3586 : Int) (z3587 : Int)
@[reducible] def A187.out : A187 → V × Store
  | .a0 z3586 z3587 => (V.tup [V.int IntKind.u64 z3586, V.int IntKind.u64 z3587], [])
def A187.ex (g : A187 → Prop) : Prop := (∃ (z3586 : Int) (z3587 : Int), g (.a0 z3586 z3587))
theorem A187.ok (g : A187 → Prop) : A187.ex g ↔ ∃ b, g b := ⟨fun h => match h with
  | ⟨_, _, h⟩ => ⟨_, h⟩, fun ⟨b, h⟩ => match b, h with
  | .a0 _ _, h => ⟨_, _, h⟩⟩
abbrev E187 : Ent (V × Store) := ⟨A187, A187.out, A187.ex, A187.ok⟩
inductive A184 where
  | a0 (z3590 : Int) (z3591 : Int)
@[reducible] def A184.out : A184 → V × Store
  | .a0 z3590 z3591 => (V.tup [V.int IntKind.u64 z3590, V.int IntKind.u64 z3591], [])
def A184.ex (g : A184 → Prop) : Prop := (∃ (z3590 : Int) (z3591 : Int), g (.a0 z3590 z3591))
theorem A184.ok (g : A184 → Prop) : A184.ex g ↔ ∃ b, g b := ⟨fun h => match h with
  | ⟨_, _, h⟩ => ⟨_, h⟩, fun ⟨b, h⟩ => match b, h with
  | .a0 _ _, h => ⟨_, _, h⟩⟩
abbrev E184 : Ent (V × Store) := ⟨A184, A184.out, A184.ex, A184.ok⟩
inductive A183 where
  | a0 (z3606 : Int)
@[reducible] def A183.out : A183 → V × Store
  | .a0 z3606 => (i64 z3606, [])
def A183.ex (g : A183 → Prop) : Prop := (∃ (z3606 : Int), g (.a0 z3606))
theorem A183.ok (g : A183 → Prop) : A183.ex g ↔ ∃ b, g b := ⟨fun h => match h with
  | ⟨_, h⟩ => ⟨_, h⟩, fun ⟨b, h⟩ => match b, h with
  | .a0 _, h => ⟨_, h⟩⟩
abbrev E183 : Ent (V × Store) := ⟨A183, A183.out, A183.ex, A183.ok⟩
inductive A125 where
  | a0 (z3612 : Int)
@[reducible] def A125.out : A125 → V × Store
  | .a0 z3612 => (i64 z3612, [])
def A125.ex (g : A125 → Prop) : Prop := (∃ (z3612 : Int), g (.a0 z3612))
theorem A125.ok (g : A125 → Prop) : A125.ex g ↔ ∃ b, g b := ⟨fun h => match h with
  | ⟨_, h⟩ => ⟨_, h⟩, fun ⟨b, h⟩ => match b, h with
  | .a0 _, h => ⟨_, h⟩⟩
abbrev E125 : Ent (V × Store) := ⟨A125, A125.out, A125.ex, A125.ok⟩
inductive A231 where
  | a0 (z3629 : Int)
@[reducible] def A231.out : A231 → V × Store
  | .a0 z3629 => (i64 z3629, [])
def A231.ex (g : A231 → Prop) : Prop := (∃ (z3629 : Int), g (.a0 z3629))
theorem A231.ok (g : A231 → Prop) : A231.ex g ↔ ∃ b, g b := ⟨fun h => match h with
  | ⟨_, h⟩ => ⟨_, h⟩, fun ⟨b, h⟩ => match b, h with
  | .a0 _, h => ⟨_, h⟩⟩
abbrev E231 : Ent (V × Store) := ⟨A231, A231.out, A231.ex, A231.ok⟩
inductive A191 where
  | a0 (z3568 : Int)
@[reducible] def A191.out : A191 → V × Store
  | .a0 z3568 => (i64 z3568, [])
def A191.ex (g : A191 → Prop) : Prop := (∃ (z3568 : Int), g (.a0 z3568))
theorem A191.ok (g : A191 → Prop) : A191.ex g ↔ ∃ b, g b := ⟨fun h => match h with
  | ⟨_, h⟩ => ⟨_, h⟩, fun ⟨b, h⟩ => match b, h with
  | .a0 _, h => ⟨_, h⟩⟩
abbrev E191 : Ent (V × Store) := ⟨A191, A191.out, A191.ex, A191.ok⟩
inductive A135 where
  | a0 (z3562 : Int)
@[reducible] def A135.out : A135 → V × Store
  | .a0 z3562 => (i64 z3562, [])
def A135.ex (g : A135 → Prop) : Prop := (∃ (z3562 : Int), g (.a0 z3562))
theorem A135.ok (g : A135 → Prop) : A135.ex g ↔ ∃ b, g b := ⟨fun h => match h with
  | ⟨_, h⟩ => ⟨_, h⟩, fun ⟨b, h⟩ => match b, h with
  | .a0 _, h => ⟨_, h⟩⟩
abbrev E135 : Ent (V × Store) := ⟨A135, A135.out, A135.ex, A135.ok⟩
inductive A134 where
  | a0 (z3675 : Int)
@[reducible] def A134.out : A134 → V × Store
  | .a0 z3675 => (i64 z3675, [])
def A134.ex (g : A134 → Prop) : Prop := (∃ (z3675 : Int), g (.a0 z3675))
theorem A134.ok (g : A134 → Prop) : A134.ex g ↔ ∃ b, g b := ⟨fun h => match h with
  | ⟨_, h⟩ => ⟨_, h⟩, fun ⟨b, h⟩ => match b, h with
  | .a0 _, h => ⟨_, h⟩⟩
abbrev E134 : Ent (V × Store) := ⟨A134, A134.out, A134.ex, A134.ok⟩
inductive A72 where
  | a0 (z3524 : Int)
@[reducible] def A72.out : A72 → V × Store
  | .a0 z3524 => (i64 z3524, [])
def A72.ex (g : A72 → Prop) : Prop := (∃ (z3524 : Int), g (.a0 z3524))
theorem A72.ok (g : A72 → Prop) : A72.ex g ↔ ∃ b, g b := ⟨fun h => match h with
  | ⟨_, h⟩ => ⟨_, h⟩, fun ⟨b, h⟩ => match b, h with
  | .a0 _, h => ⟨_, h⟩⟩
abbrev E72 : Ent (V × Store) := ⟨A72, A72.out, A72.ex, A72.ok⟩
inductive A123 where
  | a0 (z3683 : Int) (z3684 : Int)
@[reducible] def A123.out : A123 → V × Store
  | .a0 z3683 z3684 => (V.agg [i64 z3683, i64 z3684], [])
def A123.ex (g : A123 → Prop) : Prop := (∃ (z3683 : Int) (z3684 : Int), g (.a0 z3683 z3684))
theorem A123.ok (g : A123 → Prop) : A123.ex g ↔ ∃ b, g b := ⟨fun h => match h with
  | ⟨_, _, h⟩ => ⟨_, h⟩, fun ⟨b, h⟩ => match b, h with
  | .a0 _ _, h => ⟨_, _, h⟩⟩
abbrev E123 : Ent (V × Store) := ⟨A123, A123.out, A123.ex, A123.ok⟩
inductive A122 where
  | a0 (b3707 : Bool) (k3708 : Nat) (l3709 : List (List V))
@[reducible] def A122.out : A122 → V × Store
  | .a0 b3707 k3708 l3709 => (V.agg [vb b3707, V.hs 0 0 k3708], [Ob.cells true true 2 l3709])
def A122.ex (g : A122 → Prop) : Prop := (∃ (b3707 : Bool) (k3708 : Nat) (l3709 : List (List V)), g (.a0 b3707 k3708 l3709))
theorem A122.ok (g : A122 → Prop) : A122.ex g ↔ ∃ b, g b := ⟨fun h => match h with
  | ⟨_, _, _, h⟩ => ⟨_, h⟩, fun ⟨b, h⟩ => match b, h with
  | .a0 _ _ _, h => ⟨_, _, _, h⟩⟩
abbrev E122 : Ent (V × Store) := ⟨A122, A122.out, A122.ex, A122.ok⟩
inductive A63 where
  | a0 (b3725 : Bool) (k3726 : Nat) (l3727 : List (List V))
@[reducible] def A63.out : A63 → V × Store
  | .a0 b3725 k3726 l3727 => (V.agg [vb b3725, V.hs 0 0 k3726], [Ob.cells true true 2 l3727])
def A63.ex (g : A63 → Prop) : Prop := (∃ (b3725 : Bool) (k3726 : Nat) (l3727 : List (List V)), g (.a0 b3725 k3726 l3727))
theorem A63.ok (g : A63 → Prop) : A63.ex g ↔ ∃ b, g b := ⟨fun h => match h with
  | ⟨_, _, _, h⟩ => ⟨_, h⟩, fun ⟨b, h⟩ => match b, h with
  | .a0 _ _ _, h => ⟨_, _, _, h⟩⟩
abbrev E63 : Ent (V × Store) := ⟨A63, A63.out, A63.ex, A63.ok⟩
inductive A65 where
  | a0 (b3764 : Bool) (k3765 : Nat) (l3766 : List (List V))
@[reducible] def A65.out : A65 → V × Store
  | .a0 b3764 k3765 l3766 => (V.agg [vb b3764, V.hs 0 0 k3765], [Ob.cells true true 2 l3766])
def A65.ex (g : A65 → Prop) : Prop := (∃ (b3764 : Bool) (k3765 : Nat) (l3766 : List (List V)), g (.a0 b3764 k3765 l3766))
theorem A65.ok (g : A65 → Prop) : A65.ex g ↔ ∃ b, g b := ⟨fun h => match h with
  | ⟨_, _, _, h⟩ => ⟨_, h⟩, fun ⟨b, h⟩ => match b, h with
  | .a0 _ _ _, h => ⟨_, _, _, h⟩⟩
abbrev E65 : Ent (V × Store) := ⟨A65, A65.out, A65.ex, A65.ok⟩
inductive A128 where
  | a0 (z3798 : Int)
@[reducible] def A128.out : A128 → V × Store
  | .a0 z3798 => (i64 z3798, [])
def A128.ex (g : A128 → Prop) : Prop := (∃ (z3798 : Int), g (.a0 z3798))
theorem A128.ok (g : A128 → Prop) : A128.ex g ↔ ∃ b, g b := ⟨fun h => match h with
  | ⟨_, h⟩ => ⟨_, h⟩, fun ⟨b, h⟩ => match b, h with
  | .a0 _, h => ⟨_, h⟩⟩
abbrev E128 : Ent (V × Store) := ⟨A128, A128.out, A128.ex, A128.ok⟩
inductive A127 where
  | a0 (z3802 : Int)
@[reducible] def A127.out : A127 → V × Store
  | .a0 z3802 => (i64 z3802, [])
def A127.ex (g : A127 → Prop) : Prop := (∃ (z3802 : Int), g (.a0 z3802))
theorem A127.ok (g : A127 → Prop) : A127.ex g ↔ ∃ b, g b := ⟨fun h => match h with
  | ⟨_, h⟩ => ⟨_, h⟩, fun ⟨b, h⟩ => match b, h with
  | .a0 _, h => ⟨_, h⟩⟩
abbrev E127 : Ent (V × Store) := ⟨A127, A127.out, A127.ex, A127.ok⟩
inductive A67 where
  | a0 (b3819 : Bool) (k3820 : Nat) (l3821 : List (List V))
@[reducible] def A67.out : A67 → V × Store
  | .a0 b3819 k3820 l3821 => (V.agg [vb b3819, V.hs 0 0 k3820], [Ob.cells true true 2 l3821])
def A67.ex (g : A67 → Prop) : Prop := (∃ (b3819 : Bool) (k3820 : Nat) (l3821 : List (List V)), g (.a0 b3819 k3820 l3821))
theorem A67.ok (g : A67 → Prop) : A67.ex g ↔ ∃ b, g b := ⟨fun h => match h with
  | ⟨_, _, _, h⟩ => ⟨_, h⟩, fun ⟨b, h⟩ => match b, h with
  | .a0 _ _ _, h => ⟨_, _, _, h⟩⟩
abbrev E67 : Ent (V × Store) := ⟨A67, A67.out, A67.ex, A67.ok⟩
inductive A224 where
  | a0 (l3903 : List (List V))
@[reducible] def A224.out : A224 → V × Store
  | .a0 l3903 => (V.hs 0 0 (List.length l3903), [Ob.cells true true 2 l3903])
def A224.ex (g : A224 → Prop) : Prop := (∃ (l3903 : List (List V)), g (.a0 l3903))
theorem A224.ok (g : A224 → Prop) : A224.ex g ↔ ∃ b, g b := ⟨fun h => match h with
  | ⟨_, h⟩ => ⟨_, h⟩, fun ⟨b, h⟩ => match b, h with
  | .a0 _, h => ⟨_, h⟩⟩
abbrev E224 : Ent (V × Store) := ⟨A224, A224.out, A224.ex, A224.ok⟩
inductive A170 where
  | a0 (b3905 : Bool) (k3906 : Nat) (l3907 : List (List V))
@[reducible] def A170.out : A170 → V × Store
  | .a0 b3905 k3906 l3907 => (V.agg [vb b3905, V.hs 0 0 k3906], [Ob.cells true true 2 l3907])
def A170.ex (g : A170 → Prop) : Prop := (∃ (b3905 : Bool) (k3906 : Nat) (l3907 : List (List V)), g (.a0 b3905 k3906 l3907))
theorem A170.ok (g : A170 → Prop) : A170.ex g ↔ ∃ b, g b := ⟨fun h => match h with
  | ⟨_, _, _, h⟩ => ⟨_, h⟩, fun ⟨b, h⟩ => match b, h with
  | .a0 _ _ _, h => ⟨_, _, _, h⟩⟩
abbrev E170 : Ent (V × Store) := ⟨A170, A170.out, A170.ex, A170.ok⟩
inductive A171 where
  | a0 (b3926 : Bool) (k3927 : Nat) (l3928 : List (List V))
@[reducible] def A171.out : A171 → V × Store
  | .a0 b3926 k3927 l3928 => (V.agg [vb b3926, V.hs 0 0 k3927], [Ob.cells true true 2 l3928])
def A171.ex (g : A171 → Prop) : Prop := (∃ (b3926 : Bool) (k3927 : Nat) (l3928 : List (List V)), g (.a0 b3926 k3927 l3928))
theorem A171.ok (g : A171 → Prop) : A171.ex g ↔ ∃ b, g b := ⟨fun h => match h with
  | ⟨_, _, _, h⟩ => ⟨_, h⟩, fun ⟨b, h⟩ => match b, h with
  | .a0 _ _ _, h => ⟨_, _, _, h⟩⟩
abbrev E171 : Ent (V × Store) := ⟨A171, A171.out, A171.ex, A171.ok⟩
inductive A109 where
  | a0 (b3887 : Bool) (k3888 : Nat) (l3889 : List (List V))
@[reducible] def A109.out : A109 → V × Store
  | .a0 b3887 k3888 l3889 => (V.agg [vb b3887, V.hs 0 0 k3888], [Ob.cells true true 2 l3889])
def A109.ex (g : A109 → Prop) : Prop := (∃ (b3887 : Bool) (k3888 : Nat) (l3889 : List (List V)), g (.a0 b3887 k3888 l3889))
theorem A109.ok (g : A109 → Prop) : A109.ex g ↔ ∃ b, g b := ⟨fun h => match h with
  | ⟨_, _, _, h⟩ => ⟨_, h⟩, fun ⟨b, h⟩ => match b, h with
  | .a0 _ _ _, h => ⟨_, _, _, h⟩⟩
abbrev E109 : Ent (V × Store) := ⟨A109, A109.out, A109.ex, A109.ok⟩
inductive A51 where
  | a0 (b3731 : Bool) (k3732 : Nat) (l3733 : List (List V))
@[reducible] def A51.out : A51 → V × Store
  | .a0 b3731 k3732 l3733 => (V.agg [vb b3731, V.hs 0 0 k3732], [Ob.cells true true 2 l3733])
def A51.ex (g : A51 → Prop) : Prop := (∃ (b3731 : Bool) (k3732 : Nat) (l3733 : List (List V)), g (.a0 b3731 k3732 l3733))
theorem A51.ok (g : A51 → Prop) : A51.ex g ↔ ∃ b, g b := ⟨fun h => match h with
  | ⟨_, _, _, h⟩ => ⟨_, h⟩, fun ⟨b, h⟩ => match b, h with
  | .a0 _ _ _, h => ⟨_, _, _, h⟩⟩
abbrev E51 : Ent (V × Store) := ⟨A51, A51.out, A51.ex, A51.ok⟩
inductive A172 where
  | a0 (z4041 : Int)
@[reducible] def A172.out : A172 → V × Store
  | .a0 z4041 => (i64 z4041, [])
def A172.ex (g : A172 → Prop) : Prop := (∃ (z4041 : Int), g (.a0 z4041))
theorem A172.ok (g : A172 → Prop) : A172.ex g ↔ ∃ b, g b := ⟨fun h => match h with
  | ⟨_, h⟩ => ⟨_, h⟩, fun ⟨b, h⟩ => match b, h with
  | .a0 _, h => ⟨_, h⟩⟩
abbrev E172 : Ent (V × Store) := ⟨A172, A172.out, A172.ex, A172.ok⟩
inductive A175 where
  | a0 (z4069 : Int)
@[reducible] def A175.out : A175 → V × Store
  | .a0 z4069 => (i64 z4069, [])
def A175.ex (g : A175 → Prop) : Prop := (∃ (z4069 : Int), g (.a0 z4069))
theorem A175.ok (g : A175 → Prop) : A175.ex g ↔ ∃ b, g b := ⟨fun h => match h with
  | ⟨_, h⟩ => ⟨_, h⟩, fun ⟨b, h⟩ => match b, h with
  | .a0 _, h => ⟨_, h⟩⟩
abbrev E175 : Ent (V × Store) := ⟨A175, A175.out, A175.ex, A175.ok⟩
inductive A185 where
  | a0 (z4097 : Int) (b4098 : Bool)
@[reducible] def A185.out : A185 → V × Store
  | .a0 z4097 b4098 => (V.tup [V.int IntKind.u64 z4097, vb b4098], [])
def A185.ex (g : A185 → Prop) : Prop := (∃ (z4097 : Int) (b4098 : Bool), g (.a0 z4097 b4098))
theorem A185.ok (g : A185 → Prop) : A185.ex g ↔ ∃ b, g b := ⟨fun h => match h with
  | ⟨_, _, h⟩ => ⟨_, h⟩, fun ⟨b, h⟩ => match b, h with
  | .a0 _ _, h => ⟨_, _, h⟩⟩
abbrev E185 : Ent (V × Store) := ⟨A185, A185.out, A185.ex, A185.ok⟩
inductive A282 where
  | a0 (z4118 : Int)
@[reducible] def A282.out : A282 → V × Store
  | .a0 z4118 => (i64 z4118, [])
def A282.ex (g : A282 → Prop) : Prop := (∃ (z4118 : Int), g (.a0 z4118))
theorem A282.ok (g : A282 → Prop) : A282.ex g ↔ ∃ b, g b := ⟨fun h => match h with
  | ⟨_, h⟩ => ⟨_, h⟩, fun ⟨b, h⟩ => match b, h with
  | .a0 _, h => ⟨_, h⟩⟩
abbrev E282 : Ent (V × Store) := ⟨A282, A282.out, A282.ex, A282.ok⟩
inductive A263 where
  | a0 (z4121 : Int)
@[reducible] def A263.out : A263 → V × Store
  | .a0 z4121 => (i64 z4121, [])
def A263.ex (g : A263 → Prop) : Prop := (∃ (z4121 : Int), g (.a0 z4121))
theorem A263.ok (g : A263 → Prop) : A263.ex g ↔ ∃ b, g b := ⟨fun h => match h with
  | ⟨_, h⟩ => ⟨_, h⟩, fun ⟨b, h⟩ => match b, h with
  | .a0 _, h => ⟨_, h⟩⟩
abbrev E263 : Ent (V × Store) := ⟨A263, A263.out, A263.ex, A263.ok⟩
inductive A230 where
  | a0 (z4114 : Int) (z4115 : Int)
@[reducible] def A230.out : A230 → V × Store
  | .a0 z4114 z4115 => (V.tup [V.int IntKind.u64 z4114, V.int IntKind.u64 z4115], [])
def A230.ex (g : A230 → Prop) : Prop := (∃ (z4114 : Int) (z4115 : Int), g (.a0 z4114 z4115))
theorem A230.ok (g : A230 → Prop) : A230.ex g ↔ ∃ b, g b := ⟨fun h => match h with
  | ⟨_, _, h⟩ => ⟨_, h⟩, fun ⟨b, h⟩ => match b, h with
  | .a0 _ _, h => ⟨_, _, h⟩⟩
abbrev E230 : Ent (V × Store) := ⟨A230, A230.out, A230.ex, A230.ok⟩
inductive A188 where
  | a0 (z4110 : Int)
@[reducible] def A188.out : A188 → V × Store
  | .a0 z4110 => (i64 z4110, [])
def A188.ex (g : A188 → Prop) : Prop := (∃ (z4110 : Int), g (.a0 z4110))
theorem A188.ok (g : A188 → Prop) : A188.ex g ↔ ∃ b, g b := ⟨fun h => match h with
  | ⟨_, h⟩ => ⟨_, h⟩, fun ⟨b, h⟩ => match b, h with
  | .a0 _, h => ⟨_, h⟩⟩
abbrev E188 : Ent (V × Store) := ⟨A188, A188.out, A188.ex, A188.ok⟩
inductive A126 where
  | a0 (z4209 : Int)
@[reducible] def A126.out : A126 → V × Store
  | .a0 z4209 => (i64 z4209, [])
def A126.ex (g : A126 → Prop) : Prop := (∃ (z4209 : Int), g (.a0 z4209))
theorem A126.ok (g : A126 → Prop) : A126.ex g ↔ ∃ b, g b := ⟨fun h => match h with
  | ⟨_, h⟩ => ⟨_, h⟩, fun ⟨b, h⟩ => match b, h with
  | .a0 _, h => ⟨_, h⟩⟩
abbrev E126 : Ent (V × Store) := ⟨A126, A126.out, A126.ex, A126.ok⟩
inductive A261 where
  | a0 (z4226 : Int)
@[reducible] def A261.out : A261 → V × Store
  | .a0 z4226 => (i64 z4226, [])
def A261.ex (g : A261 → Prop) : Prop := (∃ (z4226 : Int), g (.a0 z4226))
theorem A261.ok (g : A261 → Prop) : A261.ex g ↔ ∃ b, g b := ⟨fun h => match h with
  | ⟨_, h⟩ => ⟨_, h⟩, fun ⟨b, h⟩ => match b, h with
  | .a0 _, h => ⟨_, h⟩⟩
abbrev E261 : Ent (V × Store) := ⟨A261, A261.out, A261.ex, A261.ok⟩
inductive A225 where
  | a0 (z4083 : Int)
@[reducible] def A225.out : A225 → V × Store
  | .a0 z4083 => (i64 z4083, [])
def A225.ex (g : A225 → Prop) : Prop := (∃ (z4083 : Int), g (.a0 z4083))
theorem A225.ok (g : A225 → Prop) : A225.ex g ↔ ∃ b, g b := ⟨fun h => match h with
  | ⟨_, h⟩ => ⟨_, h⟩, fun ⟨b, h⟩ => match b, h with
  | .a0 _, h => ⟨_, h⟩⟩
abbrev E225 : Ent (V × Store) := ⟨A225, A225.out, A225.ex, A225.ok⟩
inductive A174 where
  | a0 (z4077 : Int)
@[reducible] def A174.out : A174 → V × Store
  | .a0 z4077 => (i64 z4077, [])
def A174.ex (g : A174 → Prop) : Prop := (∃ (z4077 : Int), g (.a0 z4077))
theorem A174.ok (g : A174 → Prop) : A174.ex g ↔ ∃ b, g b := ⟨fun h => match h with
  | ⟨_, h⟩ => ⟨_, h⟩, fun ⟨b, h⟩ => match b, h with
  | .a0 _, h => ⟨_, h⟩⟩
abbrev E174 : Ent (V × Store) := ⟨A174, A174.out, A174.ex, A174.ok⟩
inductive A173 where
  | a0 (z4271 : Int)
@[reducible] def A173.out : A173 → V × Store
  | .a0 z4271 => (i64 z4271, [])
def A173.ex (g : A173 → Prop) : Prop := (∃ (z4271 : Int), g (.a0 z4271))
theorem A173.ok (g : A173 → Prop) : A173.ex g ↔ ∃ b, g b := ⟨fun h => match h with
  | ⟨_, h⟩ => ⟨_, h⟩, fun ⟨b, h⟩ => match b, h with
  | .a0 _, h => ⟨_, h⟩⟩
abbrev E173 : Ent (V × Store) := ⟨A173, A173.out, A173.ex, A173.ok⟩
inductive A110 where
  | a0 (z4031 : Int)
@[reducible] def A110.out : A110 → V × Store
  | .a0 z4031 => (i64 z4031, [])
def A110.ex (g : A110 → Prop) : Prop := (∃ (z4031 : Int), g (.a0 z4031))
theorem A110.ok (g : A110 → Prop) : A110.ex g ↔ ∃ b, g b := ⟨fun h => match h with
  | ⟨_, h⟩ => ⟨_, h⟩, fun ⟨b, h⟩ => match b, h with
  | .a0 _, h => ⟨_, h⟩⟩
abbrev E110 : Ent (V × Store) := ⟨A110, A110.out, A110.ex, A110.ok⟩
inductive A124 where
  | a0 (b4289 : Bool) (k4290 : Nat) (l4291 : List (List V))
@[reducible] def A124.out : A124 → V × Store
  | .a0 b4289 k4290 l4291 => (V.agg [vb b4289, V.hs 0 0 k4290], [Ob.cells true true 2 l4291])
def A124.ex (g : A124 → Prop) : Prop := (∃ (b4289 : Bool) (k4290 : Nat) (l4291 : List (List V)), g (.a0 b4289 k4290 l4291))
theorem A124.ok (g : A124 → Prop) : A124.ex g ↔ ∃ b, g b := ⟨fun h => match h with
  | ⟨_, _, _, h⟩ => ⟨_, h⟩, fun ⟨b, h⟩ => match b, h with
  | .a0 _ _ _, h => ⟨_, _, _, h⟩⟩
abbrev E124 : Ent (V × Store) := ⟨A124, A124.out, A124.ex, A124.ok⟩
inductive A64 where
  | a0 (b4307 : Bool) (k4308 : Nat) (l4309 : List (List V))
@[reducible] def A64.out : A64 → V × Store
  | .a0 b4307 k4308 l4309 => (V.agg [vb b4307, V.hs 0 0 k4308], [Ob.cells true true 2 l4309])
def A64.ex (g : A64 → Prop) : Prop := (∃ (b4307 : Bool) (k4308 : Nat) (l4309 : List (List V)), g (.a0 b4307 k4308 l4309))
theorem A64.ok (g : A64 → Prop) : A64.ex g ↔ ∃ b, g b := ⟨fun h => match h with
  | ⟨_, _, _, h⟩ => ⟨_, h⟩, fun ⟨b, h⟩ => match b, h with
  | .a0 _ _ _, h => ⟨_, _, _, h⟩⟩
abbrev E64 : Ent (V × Store) := ⟨A64, A64.out, A64.ex, A64.ok⟩
inductive A66 where
  | a0 (b4320 : Bool) (k4321 : Nat) (l4322 : List (List V))
@[reducible] def A66.out : A66 → V × Store
  | .a0 b4320 k4321 l4322 => (V.agg [vb b4320, V.hs 0 0 k4321], [Ob.cells true true 2 l4322])
def A66.ex (g : A66 → Prop) : Prop := (∃ (b4320 : Bool) (k4321 : Nat) (l4322 : List (List V)), g (.a0 b4320 k4321 l4322))
theorem A66.ok (g : A66 → Prop) : A66.ex g ↔ ∃ b, g b := ⟨fun h => match h with
  | ⟨_, _, _, h⟩ => ⟨_, h⟩, fun ⟨b, h⟩ => match b, h with
  | .a0 _ _ _, h => ⟨_, _, _, h⟩⟩
abbrev E66 : Ent (V × Store) := ⟨A66, A66.out, A66.ex, A66.ok⟩
inductive A130 where
  | a0 (z4350 : Int)
@[reducible] def A130.out : A130 → V × Store
  | .a0 z4350 => (i64 z4350, [])
def A130.ex (g : A130 → Prop) : Prop := (∃ (z4350 : Int), g (.a0 z4350))
theorem A130.ok (g : A130 → Prop) : A130.ex g ↔ ∃ b, g b := ⟨fun h => match h with
  | ⟨_, h⟩ => ⟨_, h⟩, fun ⟨b, h⟩ => match b, h with
  | .a0 _, h => ⟨_, h⟩⟩
abbrev E130 : Ent (V × Store) := ⟨A130, A130.out, A130.ex, A130.ok⟩
inductive A129 where
  | a0 (z4352 : Int)
@[reducible] def A129.out : A129 → V × Store
  | .a0 z4352 => (i64 z4352, [])
def A129.ex (g : A129 → Prop) : Prop := (∃ (z4352 : Int), g (.a0 z4352))
theorem A129.ok (g : A129 → Prop) : A129.ex g ↔ ∃ b, g b := ⟨fun h => match h with
  | ⟨_, h⟩ => ⟨_, h⟩, fun ⟨b, h⟩ => match b, h with
  | .a0 _, h => ⟨_, h⟩⟩
abbrev E129 : Ent (V × Store) := ⟨A129, A129.out, A129.ex, A129.ok⟩
inductive A68 where
  | a0 (b4366 : Bool) (k4367 : Nat) (l4368 : List (List V))
@[reducible] def A68.out : A68 → V × Store
  | .a0 b4366 k4367 l4368 => (V.agg [vb b4366, V.hs 0 0 k4367], [Ob.cells true true 2 l4368])
def A68.ex (g : A68 → Prop) : Prop := (∃ (b4366 : Bool) (k4367 : Nat) (l4368 : List (List V)), g (.a0 b4366 k4367 l4368))
theorem A68.ok (g : A68 → Prop) : A68.ex g ↔ ∃ b, g b := ⟨fun h => match h with
  | ⟨_, _, _, h⟩ => ⟨_, h⟩, fun ⟨b, h⟩ => match b, h with
  | .a0 _ _ _, h => ⟨_, _, _, h⟩⟩
abbrev E68 : Ent (V × Store) := ⟨A68, A68.out, A68.ex, A68.ok⟩
inductive A176 where
  | a0 (b4468 : Bool) (k4469 : Nat) (l4470 : List (List V))
@[reducible] def A176.out : A176 → V × Store
  | .a0 b4468 k4469 l4470 => (V.agg [vb b4468, V.hs 0 0 k4469], [Ob.cells true true 2 l4470])
def A176.ex (g : A176 → Prop) : Prop := (∃ (b4468 : Bool) (k4469 : Nat) (l4470 : List (List V)), g (.a0 b4468 k4469 l4470))
theorem A176.ok (g : A176 → Prop) : A176.ex g ↔ ∃ b, g b := ⟨fun h => match h with
  | ⟨_, _, _, h⟩ => ⟨_, h⟩, fun ⟨b, h⟩ => match b, h with
  | .a0 _ _ _, h => ⟨_, _, _, h⟩⟩
abbrev E176 : Ent (V × Store) := ⟨A176, A176.out, A176.ex, A176.ok⟩
inductive A111 where
  | a0 (b4426 : Bool) (k4427 : Nat) (l4428 : List (List V))
@[reducible] def A111.out : A111 → V × Store
  | .a0 b4426 k4427 l4428 => (V.agg [vb b4426, V.hs 0 0 k4427], [Ob.cells true true 2 l4428])
def A111.ex (g : A111 → Prop) : Prop := (∃ (b4426 : Bool) (k4427 : Nat) (l4428 : List (List V)), g (.a0 b4426 k4427 l4428))
theorem A111.ok (g : A111 → Prop) : A111.ex g ↔ ∃ b, g b := ⟨fun h => match h with
  | ⟨_, _, _, h⟩ => ⟨_, h⟩, fun ⟨b, h⟩ => match b, h with
  | .a0 _ _ _, h => ⟨_, _, _, h⟩⟩
abbrev E111 : Ent (V × Store) := ⟨A111, A111.out, A111.ex, A111.ok⟩
inductive A52 where
  | a0 (b4313 : Bool) (k4314 : Nat) (l4315 : List (List V))
@[reducible] def A52.out : A52 → V × Store
  | .a0 b4313 k4314 l4315 => (V.agg [vb b4313, V.hs 0 0 k4314], [Ob.cells true true 2 l4315])
def A52.ex (g : A52 → Prop) : Prop := (∃ (b4313 : Bool) (k4314 : Nat) (l4315 : List (List V)), g (.a0 b4313 k4314 l4315))
theorem A52.ok (g : A52 → Prop) : A52.ex g ↔ ∃ b, g b := ⟨fun h => match h with
  | ⟨_, _, _, h⟩ => ⟨_, h⟩, fun ⟨b, h⟩ => match b, h with
  | .a0 _ _ _, h => ⟨_, _, _, h⟩⟩
abbrev E52 : Ent (V × Store) := ⟨A52, A52.out, A52.ex, A52.ok⟩
inductive A108 where
  | a0 (b4560 : Bool)
@[reducible] def A108.out : A108 → V × Store
  | .a0 b4560 => (vb b4560, [])
def A108.ex (g : A108 → Prop) : Prop := (∃ (b4560 : Bool), g (.a0 b4560))
theorem A108.ok (g : A108 → Prop) : A108.ex g ↔ ∃ b, g b := ⟨fun h => match h with
  | ⟨_, h⟩ => ⟨_, h⟩, fun ⟨b, h⟩ => match b, h with
  | .a0 _, h => ⟨_, h⟩⟩
abbrev E108 : Ent (V × Store) := ⟨A108, A108.out, A108.ex, A108.ok⟩
inductive A50 where
  | a0 (b4571 : Bool)
@[reducible] def A50.out : A50 → V × Store
  | .a0 b4571 => (vb b4571, [])
def A50.ex (g : A50 → Prop) : Prop := (∃ (b4571 : Bool), g (.a0 b4571))
theorem A50.ok (g : A50 → Prop) : A50.ex g ↔ ∃ b, g b := ⟨fun h => match h with
  | ⟨_, h⟩ => ⟨_, h⟩, fun ⟨b, h⟩ => match b, h with
  | .a0 _, h => ⟨_, h⟩⟩
abbrev E50 : Ent (V × Store) := ⟨A50, A50.out, A50.ex, A50.ok⟩
inductive A14 where
  | a0 (b4573 : Bool)
@[reducible] def A14.out : A14 → V × Store
  | .a0 b4573 => (vb b4573, [])
def A14.ex (g : A14 → Prop) : Prop := (∃ (b4573 : Bool), g (.a0 b4573))
theorem A14.ok (g : A14 → Prop) : A14.ex g ↔ ∃ b, g b := ⟨fun h => match h with
  | ⟨_, h⟩ => ⟨_, h⟩, fun ⟨b, h⟩ => match b, h with
  | .a0 _, h => ⟨_, h⟩⟩
abbrev E14 : Ent (V × Store) := ⟨A14, A14.out, A14.ex, A14.ok⟩
inductive A17 where
  | a0 (b4603 : Bool)
@[reducible] def A17.out : A17 → V × Store
  | .a0 b4603 => (vb b4603, [])
def A17.ex (g : A17 → Prop) : Prop := (∃ (b4603 : Bool), g (.a0 b4603))
theorem A17.ok (g : A17 → Prop) : A17.ex g ↔ ∃ b, g b := ⟨fun h => match h with
  | ⟨_, h⟩ => ⟨_, h⟩, fun ⟨b, h⟩ => match b, h with
  | .a0 _, h => ⟨_, h⟩⟩
abbrev E17 : Ent (V × Store) := ⟨A17, A17.out, A17.ex, A17.ok⟩
inductive A18 where
  | a0 (b4618 : Bool)
@[reducible] def A18.out : A18 → V × Store
  | .a0 b4618 => (vb b4618, [])
def A18.ex (g : A18 → Prop) : Prop := (∃ (b4618 : Bool), g (.a0 b4618))
theorem A18.ok (g : A18 → Prop) : A18.ex g ↔ ∃ b, g b := ⟨fun h => match h with
  | ⟨_, h⟩ => ⟨_, h⟩, fun ⟨b, h⟩ => match b, h with
  | .a0 _, h => ⟨_, h⟩⟩
abbrev E18 : Ent (V × Store) := ⟨A18, A18.out, A18.ex, A18.ok⟩
inductive A3 where
  | a0 (b4620 : Bool)
@[reducible] def A3.out : A3 → V × Store
  | .a0 b4620 => (vb b4620, [])
def A3.ex (g : A3 → Prop) : Prop := (∃ (b4620 : Bool), g (.a0 b4620))
theorem A3.ok (g : A3 → Prop) : A3.ex g ↔ ∃ b, g b := ⟨fun h => match h with
  | ⟨_, h⟩ => ⟨_, h⟩, fun ⟨b, h⟩ => match b, h with
  | .a0 _, h => ⟨_, h⟩⟩
abbrev E3 : Ent (V × Store) := ⟨A3, A3.out, A3.ex, A3.ok⟩
/-! ## F19 -/
noncomputable def D19 (z47 : Int) (z48 : Int) (z49 : Int) : PT A19 :=
  .test (z47 ≥ z48)
   (fun h0 =>
   .auto 3 <|
   .test (z47 ≤ z49)
    (fun h1 =>
    .ret (A19.a0 (z47))
    )
    (fun h1 =>
    .test (w64 (w64 (z49 - z48) + 1) = 0)
     (fun _ => .fail) -- none
     (fun h2 =>
     .test (Int.tmod z47 (w64 (w64 (z49 - z48) + 1)) < 0)
      (fun h3 =>
      .ret (A19.a0 (w64 (z48 + w64 (w64 (w64 (Int.tmod z47 (w64 (w64 (z49 - z48) + 1)) + z49) - z48) + 1))))
      )
      (fun h3 =>
      .ret (A19.a0 (w64 (z48 + Int.tmod z47 (w64 (w64 (z49 - z48) + 1)))))
      )
     )
    )
   )
   (fun h0 =>
   .auto 4 <|
   .test (w64 (w64 (z49 - z48) + 1) = 0)
    (fun _ => .fail) -- none
    (fun h1 =>
    .test (Int.tmod z47 (w64 (w64 (z49 - z48) + 1)) < 0)
     (fun h2 =>
     .ret (A19.a0 (w64 (z48 + w64 (w64 (w64 (Int.tmod z47 (w64 (w64 (z49 - z48) + 1)) + z49) - z48) + 1))))
     )
     (fun h2 =>
     .ret (A19.a0 (w64 (z48 + Int.tmod z47 (w64 (w64 (z49 - z48) + 1)))))
     )
    )
   )
noncomputable def F19 (z47 : Int) (z48 : Int) (z49 : Int) : Option A19 := (D19 z47 z48 z49).ev some
theorem F19_ok (z47 : Int) (z48 : Int) (z49 : Int) : ∀ b, F19 z47 z48 z49 = some b → UU 19 ([i64 z47, i64 z48, i64 z49]) ([]) = some (A19.out b) :=
  fn_ok (E := E19) (L := notIn []) rfl rfl (fun x => by kernel_rfl)
/-! ## F43 -/
noncomputable def D43 (z40 : Int) (l41 : List (List V)) (z42 : Int) : PT A43 :=
  .auto 2 <|
  .test (z42 ≥ (↑(List.length l41) : Int))
   (fun h0 =>
   .ret (A43.a0 (0) (l41) (z42))
   )
   (fun h0 =>
   .auto 4 <|
   .test (0 ≤ w64 (w64 (z42 + 1) - 1))
    (fun h1 =>
    .look RW3 (l41[Int.toNat (w64 (w64 (z42 + (1 : Int)) - (1 : Int)))]?) fun e46 =>
    .ask E19 (F19_ok (e46.c0) (0) (1073741824)) fun (r : A19) => match r with
    | .a0 z51 =>
     .test (z40 = 0)
      (fun _ => .fail) -- none
      (fun h2 =>
      .ret (A43.a0 (Int.tmod z51 z40) (l41) (w64 (z42 + 1)))
      )
    )
    (fun _ => .fail) -- none
   )
noncomputable def F43 (z40 : Int) (l41 : List (List V)) (z42 : Int) : Option A43 := (D43 z40 l41 z42).ev some
theorem F43_ok (z40 : Int) (l41 : List (List V)) (z42 : Int) : ∀ b, F43 z40 l41 z42 = some b → UU 43 ([V.ptr 0 0 0, i64 z40]) ([Ob.cells true false 2 [[V.list 1 l41, i64 z42]]]) = some (A43.out b) :=
  fn_ok (E := E43) (L := notIn []) rfl rfl (fun x => by kernel_rfl)
/-! ## F47 -/
noncomputable def D47 (z103 : Int) (z104 : Int) (l105 : List (List V)) (z106 : Int) : PT A47 :=
  .ask E43 (F43_ok (w64 (w64 (z104 - z103) + 1)) (l105) (z106)) fun (r : A43) => match r with
  | .a0 z107 l108 z109 =>
   .ask E43 (F43_ok (4) (l108) (z109)) fun (r : A43) => match r with
   | .a0 z110 l111 z112 =>
    .testB (z110 == 0)
     (fun h0 =>
     .ret (A47.a0 (w64 (w64 (w64 (z103 + z107) * 65536) + 32768)) (l111) (z112))
     )
     (fun h0 =>
     .testB (z110 == 1)
      (fun h1 =>
      .ask E43 (F43_ok (65536) (l111) (z112)) fun (r : A43) => match r with
      | .a0 z116 l117 z118 =>
       .ret (A47.a0 (w64 (w64 (w64 (z103 + z107) * 65536) + z116)) (l117) (z118))
      )
      (fun h1 =>
      .ret (A47.a0 (w64 (w64 (z103 + z107) * 65536)) (l111) (z112))
      )
     )
noncomputable def F47 (z103 : Int) (z104 : Int) (l105 : List (List V)) (z106 : Int) : Option A47 := (D47 z103 z104 l105 z106).ev some
theorem F47_ok (z103 : Int) (z104 : Int) (l105 : List (List V)) (z106 : Int) : ∀ b, F47 z103 z104 l105 z106 = some b → UU 47 ([V.ptr 0 0 0, i64 z103, i64 z104]) ([Ob.cells true false 2 [[V.list 1 l105, i64 z106]]]) = some (A47.out b) :=
  fn_ok (E := E47) (L := notIn []) rfl rfl (fun x => by kernel_rfl)
/-! ## F106 -/
noncomputable def D106 (z99 : Int) (z100 : Int) (l101 : List (List V)) (z102 : Int) : PT A106 :=
  .ask E47 (F47_ok (z99) (z100) (l101) (z102)) fun (r : A47) => match r with
  | .a0 z119 l120 z121 =>
   .ask E47 (F47_ok (z99) (z100) (l120) (z121)) fun (r : A47) => match r with
   | .a0 z122 l123 z124 =>
    .auto 1 <|
    .ret (A106.a0 (z119) (z122) (l123) (z124))
noncomputable def F106 (z99 : Int) (z100 : Int) (l101 : List (List V)) (z102 : Int) : Option A106 := (D106 z99 z100 l101 z102).ev some
theorem F106_ok (z99 : Int) (z100 : Int) (l101 : List (List V)) (z102 : Int) : ∀ b, F106 z99 z100 l101 z102 = some b → UU 106 ([V.ptr 0 0 0, i64 z99, i64 z100]) ([Ob.cells true false 2 [[V.list 1 l101, i64 z102]]]) = some (A106.out b) :=
  fn_ok (E := E106) (L := notIn []) rfl rfl (fun x => by kernel_rfl)
/-! ## F44 -/
noncomputable abbrev B44 : Code := (Tryz.f44.body).getD .skip
inductive N44_0 where
  | s0 (z146 : Int) (z147 : Int) (l148 : List (List V)) (z149 : Int) (b150 : Bool) (k151 : Nat) (l152 : List (List V))
  | e0 (l194 : List (List V)) (z195 : Int) (b196 : Bool) (k197 : Nat) (l198 : List (List V))
@[reducible] def N44_0.out : N44_0 → VX × S
  | .s0 z146 z147 l148 z149 b150 k151 l152 => (VX.normal, { T := V.ptr 0 0 0 :: i64 z146 :: un 4 (V.ptr 1 0 0 :: V.ptr 2 0 0 :: i64 z147 :: un 44 []), σ := [Ob.cells true false 2 [[V.list 1 l148, i64 z149]], Ob.cells true false 2 [[vb false, V.hs 3 0 0]], Ob.cells true false 2 [[vb b150, V.hs 4 0 k151]], Ob.cells true true 2 [], Ob.cells true true 2 l152] })
  | .e0 l194 z195 b196 k197 l198 => (VX.exit 0, { T := un 6 (V.ptr 1 0 0 :: V.ptr 2 0 0 :: un 45 []), σ := [Ob.cells true false 2 [[V.list 1 l194, i64 z195]], Ob.cells true false 2 [[vb false, V.hs 3 0 0]], Ob.cells true false 2 [[vb b196, V.hs 4 0 k197]], Ob.cells true true 2 [], Ob.cells true true 2 l198] })
def N44_0.ex (g : N44_0 → Prop) : Prop := (∃ (z146 : Int) (z147 : Int) (l148 : List (List V)) (z149 : Int) (b150 : Bool) (k151 : Nat) (l152 : List (List V)), g (.s0 z146 z147 l148 z149 b150 k151 l152)) ∨ (∃ (l194 : List (List V)) (z195 : Int) (b196 : Bool) (k197 : Nat) (l198 : List (List V)), g (.e0 l194 z195 b196 k197 l198))
theorem N44_0.ok (g : N44_0 → Prop) : N44_0.ex g ↔ ∃ b, g b := ⟨fun h => match h with
  | .inl ⟨_, _, _, _, _, _, _, h⟩ => ⟨_, h⟩
  | .inr (⟨_, _, _, _, _, h⟩) => ⟨_, h⟩, fun ⟨b, h⟩ => match b, h with
  | .s0 _ _ _ _ _ _ _, h => .inl ⟨_, _, _, _, _, _, _, h⟩
  | .e0 _ _ _ _ _, h => .inr (⟨_, _, _, _, _, h⟩)⟩
abbrev E44_0 : Ent (VX × S) := ⟨N44_0, N44_0.out, N44_0.ex, N44_0.ok⟩
noncomputable def D44_0 (z146 : Int) (z147 : Int) (l148 : List (List V)) (z149 : Int) (b150 : Bool) (k151 : Nat) (l152 : List (List V)) : PT N44_0 :=
  .test (z147 < z146)
   (fun h0 =>
   .auto 2 <|
   .test (0 ≤ w64 ((↑k151 : Int) - 1) ∧ w64 ((↑k151 : Int) - 1) < (↑k151 : Int))
    (fun h1 =>
    .look RW28 (l152[(0 : Nat) + Int.toNat (w64 ((↑k151 : Int) - (1 : Int)))]?) fun e208 =>
    .ask E106 (F106_ok (-2) (14) (l148) (z149)) fun (r : A106) => match r with
    | .a0 z209 z210 l211 z212 =>
     .auto 2 <|
     .ask E43 (F43_ok (2) (l211) (z212)) fun (r : A43) => match r with
     | .a0 z213 l214 z215 =>
      .testB (z213 == 0)
       (fun h2 =>
       .auto 5 <|
       .test (0 + k151 ≤ List.length l152 ∧ (k151 + 3) * 16 ≤ 140737488355328 ∧ k151 + 3 ≤ 140737488355328)
        (fun h3 =>
        .auto 1 <|
        .ret (N44_0.s0 (z146) (w64 (z147 + 1)) (l214) (z215) (b150) (k151 + 3) (List.take k151 l152 ++ [[i64 e208.c0, i64 e208.c1], [i64 z209, i64 z210], [i64 z209, i64 z210]]))
        )
        (fun _ => .fail) -- none
       )
       (fun h2 =>
       .auto 1 <|
       .ask E106 (F106_ok (-2) (14) (l214) (z215)) fun (r : A106) => match r with
       | .a0 z216 z217 l218 z219 =>
        .ask E106 (F106_ok (-2) (14) (l218) (z219)) fun (r : A106) => match r with
        | .a0 z220 z221 l222 z223 =>
         .auto 2 <|
         .test (0 + k151 ≤ List.length l152 ∧ (k151 + 3) * 16 ≤ 140737488355328 ∧ k151 + 3 ≤ 140737488355328)
          (fun h3 =>
          .auto 1 <|
          .ret (N44_0.s0 (z146) (w64 (z147 + 1)) (l222) (z223) (b150) (k151 + 3) (List.take k151 l152 ++ [[i64 z216, i64 z217], [i64 z220, i64 z221], [i64 z209, i64 z210]]))
          )
          (fun _ => .fail) -- none
       )
    )
    (fun _ => .fail) -- none
   )
   (fun h0 =>
   .ret (N44_0.e0 (l148) (z149) (b150) (k151) (l152))
   )
noncomputable def S44_0 : N44_0 → PT N44_0
  | .s0 z146 z147 l148 z149 b150 k151 l152 => D44_0 z146 z147 l148 z149 b150 k151 l152
  | _ => .fail
def N44_0.off : N44_0 → Bool
  | .s0 _ _ _ _ _ _ _ => false
  | _ => true
noncomputable def L44_0 (n : Nat) (b : N44_0) : Option N44_0 := PT.loop (S44_0) N44_0.off n b
theorem L44_0_ok : ∀ (n : Nat) (b : N44_0), N44_0.off b = false → ∀ c, L44_0 n b = some c → loopP Tryz.prog X CC 44 (1) 18446744073709551616 B44 0 n (E44_0.out b).2 = some (E44_0.out c) :=
  loop_ok (E := E44_0) (step := S44_0) (L := notIn []) (fun b hb => by cases b <;> first | (cases hb; done) | (intro x; kernel_rfl)) (fun b => by cases b <;> rfl)
noncomputable def N44_0.nx (n : Nat) (c : N44_0) : Option N44_0 := match N44_0.off c with
  | true => some c
  | false => L44_0 n c
theorem L44_0_s0 (n : Nat) (z146 : Int) (z147 : Int) (l148 : List (List V)) (z149 : Int) (b150 : Bool) (k151 : Nat) (l152 : List (List V)) : L44_0 (n + 1) (.s0 z146 z147 l148 z149 b150 k151 l152) = (D44_0 z146 z147 l148 z149 b150 k151 l152).ev (N44_0.nx n) := rfl
theorem N44_0.nx_s0 (n : Nat) (z146 : Int) (z147 : Int) (l148 : List (List V)) (z149 : Int) (b150 : Bool) (k151 : Nat) (l152 : List (List V)) : N44_0.nx n (.s0 z146 z147 l148 z149 b150 k151 l152) = L44_0 n (.s0 z146 z147 l148 z149 b150 k151 l152) := rfl
theorem N44_0.nx_e0 (n : Nat) (l194 : List (List V)) (z195 : Int) (b196 : Bool) (k197 : Nat) (l198 : List (List V)) : N44_0.nx n (.e0 l194 z195 b196 k197 l198) = some (.e0 l194 z195 b196 k197 l198) := rfl
noncomputable def D44 (z95 : Int) (b96 : Bool) (l97 : List (List V)) (z98 : Int) : PT A44 :=
  .ask E106 (F106_ok (-2) (14) (l97) (z98)) fun (r : A106) => match r with
  | .a0 z204 z205 l206 z207 =>
   .auto 1 <|
   .cut E44_0 (L44_0_ok 18446744073709551616 (.s0 (z95) (0) (l206) (z207) (b96) (1) ([[i64 z204, i64 z205]])) rfl) fun (r : N44_0) => match r with
   | .e0 l224 z225 b226 k227 l228 =>
    .auto 2 <|
    .ret (A44.a0 (b226) (k227) (l224) (z225) (l228))
   | _ => .fail
noncomputable def F44 (z95 : Int) (b96 : Bool) (l97 : List (List V)) (z98 : Int) : Option A44 := (D44 z95 b96 l97 z98).ev some
theorem F44_ok (z95 : Int) (b96 : Bool) (l97 : List (List V)) (z98 : Int) : ∀ b, F44 z95 b96 l97 z98 = some b → UU 44 ([V.ptr 0 0 0, i64 z95, vb b96]) ([Ob.cells true false 2 [[V.list 1 l97, i64 z98]]]) = some (A44.out b) :=
  fn_ok (E := E44) (L := notIn []) rfl rfl (fun x => by kernel_rfl)
/-! ## F107 -/
noncomputable def D107 (l246 : List (List V)) (z247 : Int) : PT A107 :=
  .ask E43 (F43_ok (65537) (l246) (z247)) fun (r : A43) => match r with
  | .a0 z248 l249 z250 =>
   .ask E47 (F47_ok (-1) (1) (l249) (z250)) fun (r : A47) => match r with
   | .a0 z251 l252 z253 =>
    .ask E43 (F43_ok (65537) (l252) (z253)) fun (r : A43) => match r with
    | .a0 z254 l255 z256 =>
     .ask E47 (F47_ok (0) (2) (l255) (z256)) fun (r : A47) => match r with
     | .a0 z257 l258 z259 =>
      .auto 1 <|
      .ret (A107.a0 (z248) (z251) (z254) (z257) (l258) (z259))
noncomputable def F107 (l246 : List (List V)) (z247 : Int) : Option A107 := (D107 l246 z247).ev some
theorem F107_ok (l246 : List (List V)) (z247 : Int) : ∀ b, F107 l246 z247 = some b → UU 107 ([V.ptr 0 0 0]) ([Ob.cells true false 2 [[V.list 1 l246, i64 z247]]]) = some (A107.out b) :=
  fn_ok (E := E107) (L := notIn []) rfl rfl (fun x => by kernel_rfl)
/-! ## F45 -/
noncomputable def D45 (l234 : List (List V)) (z235 : Int) : PT A45 :=
  .ask E43 (F43_ok (4) (l234) (z235)) fun (r : A43) => match r with
  | .a0 z236 l237 z238 =>
   .testB (z236 == 0)
    (fun h0 =>
    .auto 1 <|
    .ret (A45.a0 (0) (0) (0) (0) (0) (l237) (z238))
    )
    (fun h0 =>
    .testB (z236 == 1)
     (fun h1 =>
     .ask E107 (F107_ok (l237) (z238)) fun (r : A107) => match r with
     | .a0 z266 z267 z268 z269 l270 z271 =>
      .auto 1 <|
      .ret (A45.a0 (2) (z266) (z267) (z268) (z269) (l270) (z271))
     )
     (fun h1 =>
     .auto 1 <|
     .ret (A45.a0 (1) (0) (0) (0) (0) (l237) (z238))
     )
    )
noncomputable def F45 (l234 : List (List V)) (z235 : Int) : Option A45 := (D45 l234 z235).ev some
theorem F45_ok (l234 : List (List V)) (z235 : Int) : ∀ b, F45 l234 z235 = some b → UU 45 ([V.ptr 0 0 0]) ([Ob.cells true false 2 [[V.list 1 l234, i64 z235]]]) = some (A45.out b) :=
  fn_ok (E := E45) (L := notIn []) rfl rfl (fun x => by kernel_rfl)
/-! ## F46 -/
noncomputable abbrev B46 : Code := (Tryz.f46.body).getD .skip
inductive N46_0 where
  | s0 (z333 : Int) (z334 : Int) (k335 : Nat) (z336 : Int) (z337 : Int) (l338 : List (List V)) (z339 : Int) (l340 : List (List V))
  | e0 (k368 : Nat) (l369 : List (List V)) (z370 : Int) (l371 : List (List V))
@[reducible] def N46_0.out : N46_0 → VX × S
  | .s0 z333 z334 k335 z336 z337 l338 z339 l340 => (VX.normal, { T := V.ptr 0 0 0 :: i64 z333 :: i64 z334 :: un 4 (V.hs 1 0 k335 :: i64 z336 :: i64 z337 :: un 32 []), σ := [Ob.cells true false 2 [[V.list 1 l338, i64 z339]], Ob.cells true true 7 l340] })
  | .e0 k368 l369 z370 l371 => (VX.exit 0, { T := un 7 (V.hs 1 0 k368 :: un 34 []), σ := [Ob.cells true false 2 [[V.list 1 l369, i64 z370]], Ob.cells true true 7 l371] })
def N46_0.ex (g : N46_0 → Prop) : Prop := (∃ (z333 : Int) (z334 : Int) (k335 : Nat) (z336 : Int) (z337 : Int) (l338 : List (List V)) (z339 : Int) (l340 : List (List V)), g (.s0 z333 z334 k335 z336 z337 l338 z339 l340)) ∨ (∃ (k368 : Nat) (l369 : List (List V)) (z370 : Int) (l371 : List (List V)), g (.e0 k368 l369 z370 l371))
theorem N46_0.ok (g : N46_0 → Prop) : N46_0.ex g ↔ ∃ b, g b := ⟨fun h => match h with
  | .inl ⟨_, _, _, _, _, _, _, _, h⟩ => ⟨_, h⟩
  | .inr (⟨_, _, _, _, h⟩) => ⟨_, h⟩, fun ⟨b, h⟩ => match b, h with
  | .s0 _ _ _ _ _ _ _ _, h => .inl ⟨_, _, _, _, _, _, _, _, h⟩
  | .e0 _ _ _ _, h => .inr (⟨_, _, _, _, h⟩)⟩
abbrev E46_0 : Ent (VX × S) := ⟨N46_0, N46_0.out, N46_0.ex, N46_0.ok⟩
noncomputable def D46_0 (z333 : Int) (z334 : Int) (k335 : Nat) (z336 : Int) (z337 : Int) (l338 : List (List V)) (z339 : Int) (l340 : List (List V)) : PT N46_0 :=
  .test (z337 > 0)
   (fun h0 =>
   .ask E47 (F47_ok (z333) (z334) (l338) (z339)) fun (r : A47) => match r with
   | .a0 z382 l383 z384 =>
    .auto 1 <|
    .ask E45 (F45_ok (l383) (z384)) fun (r : A45) => match r with
    | .a0 z385 z386 z387 z388 z389 l390 z391 =>
     .auto 4 <|
     .test (0 + k335 ≤ List.length l340 ∧ (k335 + 1) * 56 ≤ 140737488355328 ∧ k335 + 1 ≤ 140737488355328)
      (fun h1 =>
      .ask E43 (F43_ok (8) (l390) (z391)) fun (r : A43) => match r with
      | .a0 z392 l393 z394 =>
       .ret (N46_0.s0 (z333) (z334) (k335 + 1) (w64 (w64 (z336 + 1) + z392)) (w64 (z337 - 1)) (l393) (z394) (List.take k335 l340 ++ [[i64 z336, i64 z382, i64 z385, i64 z386, i64 z387, i64 z388, i64 z389]]))
      )
      (fun _ => .fail) -- none
   )
   (fun h0 =>
   .ret (N46_0.e0 (k335) (l338) (z339) (l340))
   )
noncomputable def S46_0 : N46_0 → PT N46_0
  | .s0 z333 z334 k335 z336 z337 l338 z339 l340 => D46_0 z333 z334 k335 z336 z337 l338 z339 l340
  | _ => .fail
def N46_0.off : N46_0 → Bool
  | .s0 _ _ _ _ _ _ _ _ => false
  | _ => true
noncomputable def L46_0 (n : Nat) (b : N46_0) : Option N46_0 := PT.loop (S46_0) N46_0.off n b
theorem L46_0_ok : ∀ (n : Nat) (b : N46_0), N46_0.off b = false → ∀ c, L46_0 n b = some c → loopP Tryz.prog X CC 46 (1) 18446744073709551616 B46 0 n (E46_0.out b).2 = some (E46_0.out c) :=
  loop_ok (E := E46_0) (step := S46_0) (L := notIn []) (fun b hb => by cases b <;> first | (cases hb; done) | (intro x; kernel_rfl)) (fun b => by cases b <;> rfl)
noncomputable def N46_0.nx (n : Nat) (c : N46_0) : Option N46_0 := match N46_0.off c with
  | true => some c
  | false => L46_0 n c
theorem L46_0_s0 (n : Nat) (z333 : Int) (z334 : Int) (k335 : Nat) (z336 : Int) (z337 : Int) (l338 : List (List V)) (z339 : Int) (l340 : List (List V)) : L46_0 (n + 1) (.s0 z333 z334 k335 z336 z337 l338 z339 l340) = (D46_0 z333 z334 k335 z336 z337 l338 z339 l340).ev (N46_0.nx n) := rfl
theorem N46_0.nx_s0 (n : Nat) (z333 : Int) (z334 : Int) (k335 : Nat) (z336 : Int) (z337 : Int) (l338 : List (List V)) (z339 : Int) (l340 : List (List V)) : N46_0.nx n (.s0 z333 z334 k335 z336 z337 l338 z339 l340) = L46_0 n (.s0 z333 z334 k335 z336 z337 l338 z339 l340) := rfl
theorem N46_0.nx_e0 (n : Nat) (k368 : Nat) (l369 : List (List V)) (z370 : Int) (l371 : List (List V)) : N46_0.nx n (.e0 k368 l369 z370 l371) = some (.e0 k368 l369 z370 l371) := rfl
noncomputable def D46 (z304 : Int) (z305 : Int) (l306 : List (List V)) (z307 : Int) : PT A46 :=
  .ask E43 (F43_ok (6) (l306) (z307)) fun (r : A43) => match r with
  | .a0 z376 l377 z378 =>
   .ask E43 (F43_ok (4) (l377) (z378)) fun (r : A43) => match r with
   | .a0 z379 l380 z381 =>
    .cut E46_0 (L46_0_ok 18446744073709551616 (.s0 (z304) (z305) (0) (z376) (z379) (l380) (z381) ([])) rfl) fun (r : N46_0) => match r with
    | .e0 k395 l396 z397 l398 =>
     .ret (A46.a0 (k395) (l396) (z397) (l398))
    | _ => .fail
noncomputable def F46 (z304 : Int) (z305 : Int) (l306 : List (List V)) (z307 : Int) : Option A46 := (D46 z304 z305 l306 z307).ev some
theorem F46_ok (z304 : Int) (z305 : Int) (l306 : List (List V)) (z307 : Int) : ∀ b, F46 z304 z305 l306 z307 = some b → UU 46 ([V.ptr 0 0 0, i64 z304, i64 z305]) ([Ob.cells true false 2 [[V.list 1 l306, i64 z307]]]) = some (A46.out b) :=
  fn_ok (E := E46) (L := notIn []) rfl rfl (fun x => by kernel_rfl)
/-! ## F49 -/
noncomputable def D49 (l440 : List (List V)) (z441 : Int) : PT A49 :=
  .ask E43 (F43_ok (256) (l440) (z441)) fun (r : A43) => match r with
  | .a0 z442 l443 z444 =>
   .ask E43 (F43_ok (256) (l443) (z444)) fun (r : A43) => match r with
   | .a0 z445 l446 z447 =>
    .ask E43 (F43_ok (256) (l446) (z447)) fun (r : A43) => match r with
    | .a0 z448 l449 z450 =>
     .ask E43 (F43_ok (256) (l449) (z450)) fun (r : A43) => match r with
     | .a0 z451 l452 z453 =>
      .ask E43 (F43_ok (4) (l452) (z453)) fun (r : A43) => match r with
      | .a0 z454 l455 z456 =>
       .test (0 ≤ z454 ∧ z454 < 4)
        (fun h0 =>
        .look RW5 ([[u8 (255 : Int)], [u8 (255 : Int)], [u8 (128 : Int)], [u8 (IntKind.wrap IntKind.u8 z451)]][(0 : Nat) + Int.toNat z454]?) fun e457 =>
        .auto 1 <|
        .ret (A49.a0 (IntKind.wrap IntKind.u8 z442) (IntKind.wrap IntKind.u8 z445) (IntKind.wrap IntKind.u8 z448) (e457.c0) (l455) (z456))
        )
        (fun _ => .fail) -- none
noncomputable def F49 (l440 : List (List V)) (z441 : Int) : Option A49 := (D49 l440 z441).ev some
theorem F49_ok (l440 : List (List V)) (z441 : Int) : ∀ b, F49 l440 z441 = some b → UU 49 ([V.ptr 0 0 0]) ([Ob.cells true false 2 [[V.list 1 l440, i64 z441]]]) = some (A49.out b) :=
  fn_ok (E := E49) (L := notIn []) rfl rfl (fun x => by kernel_rfl)
/-! ## F48 -/
noncomputable def D48 (l435 : List (List V)) (z436 : Int) : PT A48 :=
  .ask E43 (F43_ok (3) (l435) (z436)) fun (r : A43) => match r with
  | .a0 z437 l438 z439 =>
   .ask E49 (F49_ok (l438) (z439)) fun (r : A49) => match r with
   | .a0 z464 z465 z466 z467 l468 z469 =>
    .ask E49 (F49_ok (l468) (z469)) fun (r : A49) => match r with
    | .a0 z470 z471 z472 z473 l474 z475 =>
     .auto 2 <|
     .testB (z437 != 0)
      (fun h0 =>
      .ask E106 (F106_ok (-4) (12) (l474) (z475)) fun (r : A106) => match r with
      | .a0 z476 z477 l478 z479 =>
       .ask E106 (F106_ok (-4) (12) (l478) (z479)) fun (r : A106) => match r with
       | .a0 z480 z481 l482 z483 =>
        .ask E47 (F47_ok (0) (12) (l482) (z483)) fun (r : A47) => match r with
        | .a0 z484 l485 z486 =>
         .auto 5 <|
         .ret (A48.a0 (z437) (z464) (z465) (z466) (z467) (z470) (z471) (z472) (z473) (z476) (z477) (z480) (z481) (z484) (l485) (z486))
      )
      (fun h0 =>
      .auto 2 <|
      .ret (A48.a0 (z437) (z464) (z465) (z466) (z467) (z470) (z471) (z472) (z473) (0) (0) (0) (0) (0) (l474) (z475))
      )
noncomputable def F48 (l435 : List (List V)) (z436 : Int) : Option A48 := (D48 l435 z436).ev some
theorem F48_ok (l435 : List (List V)) (z436 : Int) : ∀ b, F48 l435 z436 = some b → UU 48 ([V.ptr 0 0 0]) ([Ob.cells true false 2 [[V.list 1 l435, i64 z436]]]) = some (A48.out b) :=
  fn_ok (E := E48) (L := notIn []) rfl rfl (fun x => by kernel_rfl)
end Go.Proofs.YtifalphladcdcaaGreat.H
