/-
  Ord: the orders in which regions that draw are carried out.
-/
import Derived.Test.YtjiamfajgllelaaSyC
namespace Go.Proofs.Ytjiamfajgllelaa
open Go Sy
def O3 : List (Nat × OT) := []
def O4 : List (Nat × OT) := []
def O5 : List (Nat × OT) := []
def O6 : List (Nat × OT) := []
def O7 : List (Nat × OT) := []
def O8 : List (Nat × OT) := []
def O9 : List (Nat × OT) := []
def O10 : List (Nat × OT) := []
def O11 : List (Nat × OT) := [(5, (.l [0, 1, 2, 4, 5, 6, 7, 3, 8, 9, 10]))]
def O12 : List (Nat × OT) := [(4, (.l [0, 1, 2, 3, 4, 5, 6, 7, 8, 9, 10, 11, 12, 13]))]
def O13 : List (Nat × OT) := [(6, (.l [0, 1, 2, 3, 4, 5, 6, 7, 8]))]
def O14 : List (Nat × OT) := []
def O15 : List (Nat × OT) := []
def O16 : List (Nat × OT) := []
def O17 : List (Nat × OT) := [(6, (.l [0, 1, 2, 3, 4, 5, 6, 7, 8]))]
def O18 : List (Nat × OT) := []
def O19 : List (Nat × OT) := []
def O20 : List (Nat × OT) := []
def O21 : List (Nat × OT) := [(6, (.l [0, 1, 2, 3, 4, 5, 6, 7, 8]))]
def O22 : List (Nat × OT) := []
def O23 : List (Nat × OT) := []
def O24 : List (Nat × OT) := []
def O25 : List (Nat × OT) := []
def O26 : List (Nat × OT) := []
def O27 : List (Nat × OT) := []
def O28 : List (Nat × OT) := [(6, (.l [0, 1, 2, 3, 4, 5, 6])), (7, (.l [0, 1, 2, 3, 4, 5, 6, 7, 8])), (14, (.l [0, 1, 2, 3, 4, 5, 6, 7, 8, 9, 10])), (31, (.l [0, 1, 2, 3, 4, 5, 6, 7, 8, 9, 10]))]
def O29 : List (Nat × OT) := []
def O32 : List (Nat × OT) := []
def O33 : List (Nat × OT) := []
def O36 : List (Nat × OT) := []
end Go.Proofs.Ytjiamfajgllelaa
