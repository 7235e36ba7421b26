import Derived.Test.YtpjkphcfkpcfgaaDoF
import Derived.Test.YtpjkphcfkpcfgaaProg
/-
  What lives at the loops' heads; the table in which nothing stands; the program's form is sound.
-/
namespace Go.Proofs.Ytpjkphcfkpcfgaa
open Go Go.Dn Go.Proofs

def liveT : List (Nat × List (Nat × List (Nat × Option Nat))) := [
  (3, [(4, [(0, none), (1, none), (5, none), (6, none)]), (5002, [(0, none), (1, none), (5, none)])]),
  (4, [(13, [(1, none), (5, none), (6, none), (8, none), (9, none), (10, none), (11, none)]), (14004, [(1, none), (5, none), (6, none), (8, none), (9, none), (10, none)]), (9, [(1, none), (5, none), (6, none), (8, none), (9, none)]), (10002, [(5, none), (6, none), (8, none)])]),
  (5, [(9, [(0, none), (1, none), (5, none), (6, none), (8, none), (9, none), (10, some 25), (11, none)]), (10002, [(0, none), (5, none), (6, none), (8, none), (9, none), (10, none)])]),
  (6, [(23, [(0, none), (5, none), (6, none), (13, none), (15, none)]), (24006, [(0, none), (5, none), (13, none)]), (24001, [(4, none)]), (13, [(0, none), (1, none), (5, none), (6, none), (7, none), (8, none), (9, some 3), (10, none)]), (14004, [(0, none), (1, none), (5, none), (6, none), (7, none), (8, none), (9, none)]), (7, [(0, none), (1, none), (5, none), (6, some 25), (7, none), (8, none)]), (8002, [(0, none), (5, none), (6, none)])]),
  (7, [(4, [(0, none), (1, none), (5, none), (6, none)]), (5002, [(0, none), (1, none), (5, none)]), (5001, [(4, none)])]),
  (8, [(14, [(1, none), (5, none), (9, none), (11, none)]), (15004, [(5, none)]), (15001, [(4, none)]), (4, [(0, none), (1, none), (5, none), (6, none)]), (5002, [(0, none), (1, none), (5, none)])]),
  (12, [(13, [(1, none), (7, none), (9, none), (10, none)]), (14004, [(9, none)]), (8, [(1, none), (7, none), (8, none)]), (9002, [(1, none), (7, none)])]),
  (13, [(5, [(0, none), (1, none), (5, none), (6, none)]), (6004, [(0, none), (1, none), (5, none)]), (6001, [(4, none)]), (2, [(0, none), (1, none), (5, none)]), (3002, []), (3001, [(4, none)])]),
  (14, [(6, [(0, none), (6, none), (7, some 25), (19, none), (20, none)]), (7002, [(0, none), (7, none)])]),
  (16, [(8, [(0, none), (1, none), (5, none), (6, none), (7, none)]), (9004, [(0, none), (1, none), (5, none)]), (9001, [(4, none)]), (2, [(0, none), (1, none), (5, none)]), (3002, []), (3001, [(4, none)])]),
  (17, [(5, [(0, none), (3, none), (4, none)]), (6004, [(0, none), (3, none)]), (6001, [(2, none)]), (2, [(0, none), (3, none)]), (3002, []), (3001, [(2, none)])]),
  (20, [(2, [(0, none), (1, none), (6, none)]), (3002, []), (3001, [(4, none), (5, none)])]),
  (21, [(4, [(0, none), (1, none), (18, none), (19, none), (20, none)]), (5002, []), (5001, [(4, none)])]),
  (22, [(3, [(3, none), (10, none), (11, none)]), (4002, [(3, none)])]),
  (23, [(14, [(0, none), (1, none), (5, none), (7, none)]), (15006, [(0, none), (1, none), (5, none)]), (15001, [(4, none)]), (9, [(0, none), (1, none), (5, none), (6, none)]), (10004, [(0, none), (1, none), (5, none)]), (10001, [(4, none)]), (4, [(0, none), (1, none), (5, none)]), (5002, []), (5001, [(4, none)])]),
  (24, [(2, [(0, none), (1, none), (2, none), (3, none), (9, none)]), (3002, []), (3001, [(8, none)])]),
  (26, [(14, [(10, none), (11, none), (61, none), (62, none)]), (15006, [(10, none)]), (10, [(0, none), (2, none), (7, none), (10, none), (11, none), (12, none), (13, none)]), (11004, [(2, none), (10, none), (11, none)]), (3, [(0, none), (1, none), (2, none), (7, none), (20, none)]), (4002, [(0, none), (1, none), (2, none), (7, none)])]),
  (28, [(2, [(0, none), (1, none), (5, none)]), (3002, []), (3001, [(4, none)])]),
  (29, [(2, [(0, none), (1, none), (7, none), (8, none)]), (3002, []), (3001, [(4, none)])]),
  (31, [(2, [(0, none), (1, none), (7, none), (8, none), (9, none)]), (3002, [(1, none)]), (3001, [(4, none)])]),
  (34, [(4, [(0, none), (1, none), (12, none), (13, none)]), (5002, []), (5001, [(4, none)])]),
  (36, [(4, [(0, none), (1, none), (5, none)]), (5002, []), (5001, [(4, none)])]),
  (37, [(1, [(1, none), (5, none), (6, none), (7, none)]), (2002, [])]),
  (41, [(2, [(0, none), (1, none), (5, none)]), (3002, []), (3001, [(4, none)])]),
  (43, [(2, [(0, none), (1, none), (7, none), (8, none)]), (3002, []), (3001, [(4, none)])]),
  (44, [(2, [(0, none), (1, none), (7, none), (8, none)]), (3002, []), (3001, [(4, none)])]),
  (45, [(1, [(0, none), (1, none), (2, none), (9, none), (10, none), (11, none)]), (2002, []), (2001, [])])
  ]

def lk2 (k : Nat) : List (Nat × List (Nat × Option Nat)) → List (Nat × Option Nat)
  | [] => []
  | (j, l) :: r => bif Nat.beq j k then l else lk2 k r

def lk1 (f k : Nat) : List (Nat × List (Nat × List (Nat × Option Nat))) → List (Nat × Option Nat)
  | [] => []
  | (g, l) :: r => bif Nat.beq g f then lk2 k l else lk1 f k r

def live (f k : Nat) : List (Nat × Option TypeId) := lk1 f k liveT

theorem prog_fine : ProgOK Try.prog := prog_ok (by kernel_rfl)

noncomputable def E0 : Env := Env.none Try.prog live (fun f => memN f [29, 30, 32, 33, 39, 40, 43, 44]) (fun _ => false) (fun f => memN f [10, 15, 17, 18, 25, 27, 28, 34, 36, 38, 41])
theorem e0 : EnvOK E0 := EnvOK.none prog_fine
theorem m0 : EnvMono E0 := EnvMono.none
end Go.Proofs.Ytpjkphcfkpcfgaa
