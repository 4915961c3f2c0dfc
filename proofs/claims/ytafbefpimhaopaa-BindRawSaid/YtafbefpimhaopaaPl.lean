/- Plans of drawn regions, printed by a program of this work. -/
set_option linter.unusedVariables false
set_option linter.unusedSimpArgs false
set_option linter.unnecessarySimpa false
set_option linter.unusedSectionVars false
namespace Go.Proofs.Ytafbefpimhaopaa
def p3_14 : List (Nat × Bool) := [(0, false), (1, false), (2, false), (3, false), (4, false), (5, false), (6, false), (7, false), (8, false), (9, false), (10, false), (11, false), (12, false), (13, false), (14, false), (15, false), (16, false), (17, false), (18, false), (19, false), (20, false), (21, false), (22, false), (23, false), (24, false), (25, false), (26, false), (27, false), (28, false), (29, false), (30, false), (31, false), (32, false), (33, false), (34, false), (35, false), (36, false), (37, false), (38, false), (39, false), (40, false), (41, false), (42, false), (43, false), (44, false), (45, false), (46, false), (47, false), (48, false), (49, false)]
def p3_15 : List (Nat × Bool) := [(0, false), (1, false), (2, false), (3, false), (4, false), (5, false), (6, false), (7, false), (8, false), (9, false), (10, false), (11, false), (12, false), (13, false), (14, false), (15, true)]
def p3_18 : List (Nat × Bool) := [(0, true), (1, false), (2, false), (4, false), (3, true), (5, false), (6, false), (7, false), (8, false), (10, false), (9, true), (11, true), (12, false), (13, false), (14, false), (16, false), (15, true), (17, true), (18, true), (19, false), (20, true)]
def p4_17 : List (Nat × Bool) := [(0, false), (1, false), (2, false), (3, false), (4, false), (5, false), (6, false), (7, false), (8, false), (9, false), (10, false), (11, false), (12, false), (13, false), (14, false), (15, false), (16, false), (17, false), (18, false), (19, false), (20, false), (21, false), (22, false), (23, false), (24, false), (25, false), (26, false), (27, false), (28, false), (29, true)]
def p7_5 : List (Nat × Bool) := [(0, false), (1, false), (2, false), (3, false), (4, false), (5, false), (6, false), (7, false), (8, false), (9, false), (10, false), (11, false), (12, false), (13, false), (14, false), (15, false), (16, false), (17, false), (18, false), (19, false), (20, false), (21, false), (22, false), (23, false), (24, false), (25, false), (26, false), (27, false), (28, false)]
def p7_7 : List (Nat × Bool) := [(0, false), (1, false), (2, false), (3, false), (4, false), (5, false), (6, false), (7, false), (8, false), (9, false), (10, true)]
def p10_6 : List (Nat × Bool) := [(0, false), (1, false), (2, false), (3, false), (4, false), (5, false), (6, false), (7, false), (8, true), (9, false)]
def p12_3 : List (Nat × Bool) := [(0, false), (1, false), (2, false), (3, false), (5, false), (6, false), (7, false), (8, false), (4, true), (9, true), (10, true), (11, true)]
def p17_4 : List (Nat × Bool) := [(0, false), (1, false), (2, false), (3, false), (4, false), (5, false), (6, true), (7, true)]
def p18_6 : List (Nat × Bool) := [(0, false), (1, false), (2, false), (3, false), (4, false), (5, false), (6, false), (7, false), (8, false), (9, false), (10, true), (11, false)]
end Go.Proofs.Ytafbefpimhaopaa
