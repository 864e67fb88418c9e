/- A verified interpreter of the model's code, and what the functions that show schemas and entities tell by it: part 7 (S04, S05, S06, S08, S10, S12, S13, S14, S15). No condition but those that each statement bears. -/
import Derived.Test.YtmmmjhkgjmbfaaaDoorK06
set_option linter.unusedVariables false
set_option linter.unusedSimpArgs false
set_option linter.unusedSectionVars false
set_option linter.constructorNameAsVariable false
set_option linter.unnecessarySimpa false
/- Runes: which are there,their bytes,put behind bytes. -/
namespace Go.Proofs.YtmmmjhkgjmbfaaaDoor
open Go Go.Vai
set_option maxRecDepth 100000
set_option linter.unusedSimpArgs false
def rns : List Int:=[97,98,42,34,92,10,9,1,31,127,128,233,2047,2048,8364,55295,57344,65533,65535,65536,128512,1114111,99,100,101]
def ens : List (List UInt8):=[[97],[98],[42],[34],[92],[10],[9],[1],[31],[127],[194,128],[195,169],[223,191],[224,160,128],[226,130,172],[237,159,191],[238,128,128],[239,191,189],[239,191,191],[240,144,128,128],[240,159,152,128],[244,143,191,191],[99],[100],[101]]
theorem q73_0 {R : Type} (m : Nat) (H : Heap) (k : HK R) : runK tbl (m + 60) R B73 (frame0 [.i .i32 97] 0 .leaf) H (leaveK [(.tmp (toPa 2))] k) = k (.b true) H:=by kernel_rfl
theorem q74_0 {R : Type} (m : Nat) (b : AV) (H : Heap) (k : HK R) : runK tbl (m + 60) R B74 (frame0 [b,.i .i32 97] 0 .leaf) H (leaveK [(.tmp (toPa 4))] k) = H.allocK (.cells false 0 5 1 (setCells (bcs [97]) 0 .leaf)) fun id H=>appendK 5 1 1 b (.sl id 0 1 (some 1) 1) H k:=by kernel_rfl
theorem q73_1 {R : Type} (m : Nat) (H : Heap) (k : HK R) : runK tbl (m + 60) R B73 (frame0 [.i .i32 98] 0 .leaf) H (leaveK [(.tmp (toPa 2))] k) = k (.b true) H:=by kernel_rfl
theorem q74_1 {R : Type} (m : Nat) (b : AV) (H : Heap) (k : HK R) : runK tbl (m + 60) R B74 (frame0 [b,.i .i32 98] 0 .leaf) H (leaveK [(.tmp (toPa 4))] k) = H.allocK (.cells false 0 5 1 (setCells (bcs [98]) 0 .leaf)) fun id H=>appendK 5 1 1 b (.sl id 0 1 (some 1) 1) H k:=by kernel_rfl
theorem q73_2 {R : Type} (m : Nat) (H : Heap) (k : HK R) : runK tbl (m + 60) R B73 (frame0 [.i .i32 42] 0 .leaf) H (leaveK [(.tmp (toPa 2))] k) = k (.b true) H:=by kernel_rfl
theorem q74_2 {R : Type} (m : Nat) (b : AV) (H : Heap) (k : HK R) : runK tbl (m + 60) R B74 (frame0 [b,.i .i32 42] 0 .leaf) H (leaveK [(.tmp (toPa 4))] k) = H.allocK (.cells false 0 5 1 (setCells (bcs [42]) 0 .leaf)) fun id H=>appendK 5 1 1 b (.sl id 0 1 (some 1) 1) H k:=by kernel_rfl
theorem q73_3 {R : Type} (m : Nat) (H : Heap) (k : HK R) : runK tbl (m + 60) R B73 (frame0 [.i .i32 34] 0 .leaf) H (leaveK [(.tmp (toPa 2))] k) = k (.b true) H:=by kernel_rfl
theorem q74_3 {R : Type} (m : Nat) (b : AV) (H : Heap) (k : HK R) : runK tbl (m + 60) R B74 (frame0 [b,.i .i32 34] 0 .leaf) H (leaveK [(.tmp (toPa 4))] k) = H.allocK (.cells false 0 5 1 (setCells (bcs [34]) 0 .leaf)) fun id H=>appendK 5 1 1 b (.sl id 0 1 (some 1) 1) H k:=by kernel_rfl
theorem q73_4 {R : Type} (m : Nat) (H : Heap) (k : HK R) : runK tbl (m + 60) R B73 (frame0 [.i .i32 92] 0 .leaf) H (leaveK [(.tmp (toPa 2))] k) = k (.b true) H:=by kernel_rfl
theorem q74_4 {R : Type} (m : Nat) (b : AV) (H : Heap) (k : HK R) : runK tbl (m + 60) R B74 (frame0 [b,.i .i32 92] 0 .leaf) H (leaveK [(.tmp (toPa 4))] k) = H.allocK (.cells false 0 5 1 (setCells (bcs [92]) 0 .leaf)) fun id H=>appendK 5 1 1 b (.sl id 0 1 (some 1) 1) H k:=by kernel_rfl
theorem q73_5 {R : Type} (m : Nat) (H : Heap) (k : HK R) : runK tbl (m + 60) R B73 (frame0 [.i .i32 10] 0 .leaf) H (leaveK [(.tmp (toPa 2))] k) = k (.b true) H:=by kernel_rfl
theorem q74_5 {R : Type} (m : Nat) (b : AV) (H : Heap) (k : HK R) : runK tbl (m + 60) R B74 (frame0 [b,.i .i32 10] 0 .leaf) H (leaveK [(.tmp (toPa 4))] k) = H.allocK (.cells false 0 5 1 (setCells (bcs [10]) 0 .leaf)) fun id H=>appendK 5 1 1 b (.sl id 0 1 (some 1) 1) H k:=by kernel_rfl
theorem q73_6 {R : Type} (m : Nat) (H : Heap) (k : HK R) : runK tbl (m + 60) R B73 (frame0 [.i .i32 9] 0 .leaf) H (leaveK [(.tmp (toPa 2))] k) = k (.b true) H:=by kernel_rfl
theorem q74_6 {R : Type} (m : Nat) (b : AV) (H : Heap) (k : HK R) : runK tbl (m + 60) R B74 (frame0 [b,.i .i32 9] 0 .leaf) H (leaveK [(.tmp (toPa 4))] k) = H.allocK (.cells false 0 5 1 (setCells (bcs [9]) 0 .leaf)) fun id H=>appendK 5 1 1 b (.sl id 0 1 (some 1) 1) H k:=by kernel_rfl
theorem q73_7 {R : Type} (m : Nat) (H : Heap) (k : HK R) : runK tbl (m + 60) R B73 (frame0 [.i .i32 1] 0 .leaf) H (leaveK [(.tmp (toPa 2))] k) = k (.b true) H:=by kernel_rfl
theorem q74_7 {R : Type} (m : Nat) (b : AV) (H : Heap) (k : HK R) : runK tbl (m + 60) R B74 (frame0 [b,.i .i32 1] 0 .leaf) H (leaveK [(.tmp (toPa 4))] k) = H.allocK (.cells false 0 5 1 (setCells (bcs [1]) 0 .leaf)) fun id H=>appendK 5 1 1 b (.sl id 0 1 (some 1) 1) H k:=by kernel_rfl
theorem q73_8 {R : Type} (m : Nat) (H : Heap) (k : HK R) : runK tbl (m + 60) R B73 (frame0 [.i .i32 31] 0 .leaf) H (leaveK [(.tmp (toPa 2))] k) = k (.b true) H:=by kernel_rfl
theorem q74_8 {R : Type} (m : Nat) (b : AV) (H : Heap) (k : HK R) : runK tbl (m + 60) R B74 (frame0 [b,.i .i32 31] 0 .leaf) H (leaveK [(.tmp (toPa 4))] k) = H.allocK (.cells false 0 5 1 (setCells (bcs [31]) 0 .leaf)) fun id H=>appendK 5 1 1 b (.sl id 0 1 (some 1) 1) H k:=by kernel_rfl
theorem q73_9 {R : Type} (m : Nat) (H : Heap) (k : HK R) : runK tbl (m + 60) R B73 (frame0 [.i .i32 127] 0 .leaf) H (leaveK [(.tmp (toPa 2))] k) = k (.b true) H:=by kernel_rfl
theorem q74_9 {R : Type} (m : Nat) (b : AV) (H : Heap) (k : HK R) : runK tbl (m + 60) R B74 (frame0 [b,.i .i32 127] 0 .leaf) H (leaveK [(.tmp (toPa 4))] k) = H.allocK (.cells false 0 5 1 (setCells (bcs [127]) 0 .leaf)) fun id H=>appendK 5 1 1 b (.sl id 0 1 (some 1) 1) H k:=by kernel_rfl
theorem q73_10 {R : Type} (m : Nat) (H : Heap) (k : HK R) : runK tbl (m + 60) R B73 (frame0 [.i .i32 128] 0 .leaf) H (leaveK [(.tmp (toPa 2))] k) = k (.b true) H:=by kernel_rfl
theorem q74_10 {R : Type} (m : Nat) (b : AV) (H : Heap) (k : HK R) : runK tbl (m + 60) R B74 (frame0 [b,.i .i32 128] 0 .leaf) H (leaveK [(.tmp (toPa 4))] k) = H.allocK (.cells false 0 5 2 (setCells (bcs [194,128]) 0 .leaf)) fun id H=>appendK 5 1 1 b (.sl id 0 2 (some 2) 1) H k:=by kernel_rfl
theorem q73_11 {R : Type} (m : Nat) (H : Heap) (k : HK R) : runK tbl (m + 60) R B73 (frame0 [.i .i32 233] 0 .leaf) H (leaveK [(.tmp (toPa 2))] k) = k (.b true) H:=by kernel_rfl
theorem q74_11 {R : Type} (m : Nat) (b : AV) (H : Heap) (k : HK R) : runK tbl (m + 60) R B74 (frame0 [b,.i .i32 233] 0 .leaf) H (leaveK [(.tmp (toPa 4))] k) = H.allocK (.cells false 0 5 2 (setCells (bcs [195,169]) 0 .leaf)) fun id H=>appendK 5 1 1 b (.sl id 0 2 (some 2) 1) H k:=by kernel_rfl
theorem q73_12 {R : Type} (m : Nat) (H : Heap) (k : HK R) : runK tbl (m + 60) R B73 (frame0 [.i .i32 2047] 0 .leaf) H (leaveK [(.tmp (toPa 2))] k) = k (.b true) H:=by kernel_rfl
theorem q74_12 {R : Type} (m : Nat) (b : AV) (H : Heap) (k : HK R) : runK tbl (m + 60) R B74 (frame0 [b,.i .i32 2047] 0 .leaf) H (leaveK [(.tmp (toPa 4))] k) = H.allocK (.cells false 0 5 2 (setCells (bcs [223,191]) 0 .leaf)) fun id H=>appendK 5 1 1 b (.sl id 0 2 (some 2) 1) H k:=by kernel_rfl
theorem q73_13 {R : Type} (m : Nat) (H : Heap) (k : HK R) : runK tbl (m + 60) R B73 (frame0 [.i .i32 2048] 0 .leaf) H (leaveK [(.tmp (toPa 2))] k) = k (.b true) H:=by kernel_rfl
theorem q74_13 {R : Type} (m : Nat) (b : AV) (H : Heap) (k : HK R) : runK tbl (m + 60) R B74 (frame0 [b,.i .i32 2048] 0 .leaf) H (leaveK [(.tmp (toPa 4))] k) = H.allocK (.cells false 0 5 3 (setCells (bcs [224,160,128]) 0 .leaf)) fun id H=>appendK 5 1 1 b (.sl id 0 3 (some 3) 1) H k:=by kernel_rfl
theorem q73_14 {R : Type} (m : Nat) (H : Heap) (k : HK R) : runK tbl (m + 60) R B73 (frame0 [.i .i32 8364] 0 .leaf) H (leaveK [(.tmp (toPa 2))] k) = k (.b true) H:=by kernel_rfl
theorem q74_14 {R : Type} (m : Nat) (b : AV) (H : Heap) (k : HK R) : runK tbl (m + 60) R B74 (frame0 [b,.i .i32 8364] 0 .leaf) H (leaveK [(.tmp (toPa 4))] k) = H.allocK (.cells false 0 5 3 (setCells (bcs [226,130,172]) 0 .leaf)) fun id H=>appendK 5 1 1 b (.sl id 0 3 (some 3) 1) H k:=by kernel_rfl
theorem q73_15 {R : Type} (m : Nat) (H : Heap) (k : HK R) : runK tbl (m + 60) R B73 (frame0 [.i .i32 55295] 0 .leaf) H (leaveK [(.tmp (toPa 2))] k) = k (.b true) H:=by kernel_rfl
theorem q74_15 {R : Type} (m : Nat) (b : AV) (H : Heap) (k : HK R) : runK tbl (m + 60) R B74 (frame0 [b,.i .i32 55295] 0 .leaf) H (leaveK [(.tmp (toPa 4))] k) = H.allocK (.cells false 0 5 3 (setCells (bcs [237,159,191]) 0 .leaf)) fun id H=>appendK 5 1 1 b (.sl id 0 3 (some 3) 1) H k:=by kernel_rfl
theorem q73_16 {R : Type} (m : Nat) (H : Heap) (k : HK R) : runK tbl (m + 60) R B73 (frame0 [.i .i32 57344] 0 .leaf) H (leaveK [(.tmp (toPa 2))] k) = k (.b true) H:=by kernel_rfl
theorem q74_16 {R : Type} (m : Nat) (b : AV) (H : Heap) (k : HK R) : runK tbl (m + 60) R B74 (frame0 [b,.i .i32 57344] 0 .leaf) H (leaveK [(.tmp (toPa 4))] k) = H.allocK (.cells false 0 5 3 (setCells (bcs [238,128,128]) 0 .leaf)) fun id H=>appendK 5 1 1 b (.sl id 0 3 (some 3) 1) H k:=by kernel_rfl
theorem q73_17 {R : Type} (m : Nat) (H : Heap) (k : HK R) : runK tbl (m + 60) R B73 (frame0 [.i .i32 65533] 0 .leaf) H (leaveK [(.tmp (toPa 2))] k) = k (.b true) H:=by kernel_rfl
theorem q74_17 {R : Type} (m : Nat) (b : AV) (H : Heap) (k : HK R) : runK tbl (m + 60) R B74 (frame0 [b,.i .i32 65533] 0 .leaf) H (leaveK [(.tmp (toPa 4))] k) = H.allocK (.cells false 0 5 3 (setCells (bcs [239,191,189]) 0 .leaf)) fun id H=>appendK 5 1 1 b (.sl id 0 3 (some 3) 1) H k:=by kernel_rfl
theorem q73_18 {R : Type} (m : Nat) (H : Heap) (k : HK R) : runK tbl (m + 60) R B73 (frame0 [.i .i32 65535] 0 .leaf) H (leaveK [(.tmp (toPa 2))] k) = k (.b true) H:=by kernel_rfl
theorem q74_18 {R : Type} (m : Nat) (b : AV) (H : Heap) (k : HK R) : runK tbl (m + 60) R B74 (frame0 [b,.i .i32 65535] 0 .leaf) H (leaveK [(.tmp (toPa 4))] k) = H.allocK (.cells false 0 5 3 (setCells (bcs [239,191,191]) 0 .leaf)) fun id H=>appendK 5 1 1 b (.sl id 0 3 (some 3) 1) H k:=by kernel_rfl
theorem q73_19 {R : Type} (m : Nat) (H : Heap) (k : HK R) : runK tbl (m + 60) R B73 (frame0 [.i .i32 65536] 0 .leaf) H (leaveK [(.tmp (toPa 2))] k) = k (.b true) H:=by kernel_rfl
theorem q74_19 {R : Type} (m : Nat) (b : AV) (H : Heap) (k : HK R) : runK tbl (m + 60) R B74 (frame0 [b,.i .i32 65536] 0 .leaf) H (leaveK [(.tmp (toPa 4))] k) = H.allocK (.cells false 0 5 4 (setCells (bcs [240,144,128,128]) 0 .leaf)) fun id H=>appendK 5 1 1 b (.sl id 0 4 (some 4) 1) H k:=by kernel_rfl
theorem q73_20 {R : Type} (m : Nat) (H : Heap) (k : HK R) : runK tbl (m + 60) R B73 (frame0 [.i .i32 128512] 0 .leaf) H (leaveK [(.tmp (toPa 2))] k) = k (.b true) H:=by kernel_rfl
theorem q74_20 {R : Type} (m : Nat) (b : AV) (H : Heap) (k : HK R) : runK tbl (m + 60) R B74 (frame0 [b,.i .i32 128512] 0 .leaf) H (leaveK [(.tmp (toPa 4))] k) = H.allocK (.cells false 0 5 4 (setCells (bcs [240,159,152,128]) 0 .leaf)) fun id H=>appendK 5 1 1 b (.sl id 0 4 (some 4) 1) H k:=by kernel_rfl
theorem q73_21 {R : Type} (m : Nat) (H : Heap) (k : HK R) : runK tbl (m + 60) R B73 (frame0 [.i .i32 1114111] 0 .leaf) H (leaveK [(.tmp (toPa 2))] k) = k (.b true) H:=by kernel_rfl
theorem q74_21 {R : Type} (m : Nat) (b : AV) (H : Heap) (k : HK R) : runK tbl (m + 60) R B74 (frame0 [b,.i .i32 1114111] 0 .leaf) H (leaveK [(.tmp (toPa 4))] k) = H.allocK (.cells false 0 5 4 (setCells (bcs [244,143,191,191]) 0 .leaf)) fun id H=>appendK 5 1 1 b (.sl id 0 4 (some 4) 1) H k:=by kernel_rfl
theorem q73_22 {R : Type} (m : Nat) (H : Heap) (k : HK R) : runK tbl (m + 60) R B73 (frame0 [.i .i32 99] 0 .leaf) H (leaveK [(.tmp (toPa 2))] k) = k (.b true) H:=by kernel_rfl
theorem q74_22 {R : Type} (m : Nat) (b : AV) (H : Heap) (k : HK R) : runK tbl (m + 60) R B74 (frame0 [b,.i .i32 99] 0 .leaf) H (leaveK [(.tmp (toPa 4))] k) = H.allocK (.cells false 0 5 1 (setCells (bcs [99]) 0 .leaf)) fun id H=>appendK 5 1 1 b (.sl id 0 1 (some 1) 1) H k:=by kernel_rfl
theorem q73_23 {R : Type} (m : Nat) (H : Heap) (k : HK R) : runK tbl (m + 60) R B73 (frame0 [.i .i32 100] 0 .leaf) H (leaveK [(.tmp (toPa 2))] k) = k (.b true) H:=by kernel_rfl
theorem q74_23 {R : Type} (m : Nat) (b : AV) (H : Heap) (k : HK R) : runK tbl (m + 60) R B74 (frame0 [b,.i .i32 100] 0 .leaf) H (leaveK [(.tmp (toPa 4))] k) = H.allocK (.cells false 0 5 1 (setCells (bcs [100]) 0 .leaf)) fun id H=>appendK 5 1 1 b (.sl id 0 1 (some 1) 1) H k:=by kernel_rfl
theorem q73_24 {R : Type} (m : Nat) (H : Heap) (k : HK R) : runK tbl (m + 60) R B73 (frame0 [.i .i32 101] 0 .leaf) H (leaveK [(.tmp (toPa 2))] k) = k (.b true) H:=by kernel_rfl
theorem q74_24 {R : Type} (m : Nat) (b : AV) (H : Heap) (k : HK R) : runK tbl (m + 60) R B74 (frame0 [b,.i .i32 101] 0 .leaf) H (leaveK [(.tmp (toPa 4))] k) = H.allocK (.cells false 0 5 1 (setCells (bcs [101]) 0 .leaf)) fun id H=>appendK 5 1 1 b (.sl id 0 1 (some 1) 1) H k:=by kernel_rfl
theorem s73 {R : Type} (i : Nat) (hi : i < 25) {r : Int} (hr : rns[i]? = some r) {M : Nat} (hM : 60≤M) (H : Heap) (k : HK R) : callK tbl (runK tbl M) R (toPa 73) [.i .i32 r] H k = k (.b true) H:=by
 obtain ⟨m,rfl⟩ : ∃ m,M = m + 60:=⟨M - 60,by omega⟩
 rw [call_eq L73]
 match i,hi with
 | 0,_=>cases hr; exact q73_0 m H k
 | 1,_=>cases hr; exact q73_1 m H k
 | 2,_=>cases hr; exact q73_2 m H k
 | 3,_=>cases hr; exact q73_3 m H k
 | 4,_=>cases hr; exact q73_4 m H k
 | 5,_=>cases hr; exact q73_5 m H k
 | 6,_=>cases hr; exact q73_6 m H k
 | 7,_=>cases hr; exact q73_7 m H k
 | 8,_=>cases hr; exact q73_8 m H k
 | 9,_=>cases hr; exact q73_9 m H k
 | 10,_=>cases hr; exact q73_10 m H k
 | 11,_=>cases hr; exact q73_11 m H k
 | 12,_=>cases hr; exact q73_12 m H k
 | 13,_=>cases hr; exact q73_13 m H k
 | 14,_=>cases hr; exact q73_14 m H k
 | 15,_=>cases hr; exact q73_15 m H k
 | 16,_=>cases hr; exact q73_16 m H k
 | 17,_=>cases hr; exact q73_17 m H k
 | 18,_=>cases hr; exact q73_18 m H k
 | 19,_=>cases hr; exact q73_19 m H k
 | 20,_=>cases hr; exact q73_20 m H k
 | 21,_=>cases hr; exact q73_21 m H k
 | 22,_=>cases hr; exact q73_22 m H k
 | 23,_=>cases hr; exact q73_23 m H k
 | 24,_=>cases hr; exact q73_24 m H k
 | n + 25,h=>omega
theorem s74 (i : Nat) (hi : i < 25) {r : Int} (hr : rns[i]? = some r) {t : List UInt8} (ht : ens[i]? = some t) {H0 H : Heap} {b : AV} {s : List UInt8} (h : Held H0 H 5 1 b s.length (bcs s)) (g : Grow H0 H) (hs : (s ++ t).length≤roomN) :
  ∃ H' b',Grow H0 H'∧H.next.toN≤H'.next.toN∧Held H0 H' 5 1 b' (s ++ t).length (bcs (s ++ t))∧∀ M,60≤M→∀ (R : Type) (k : HK R),callK tbl (runK tbl M) R (toPa 74) [b,.i .i32 r] H k = k b' H':=by
 have htn : t ≠ []:=by
  match i,hi with
  | 0,_=>cases ht; exact List.cons_ne_nil _ _
  | 1,_=>cases ht; exact List.cons_ne_nil _ _
  | 2,_=>cases ht; exact List.cons_ne_nil _ _
  | 3,_=>cases ht; exact List.cons_ne_nil _ _
  | 4,_=>cases ht; exact List.cons_ne_nil _ _
  | 5,_=>cases ht; exact List.cons_ne_nil _ _
  | 6,_=>cases ht; exact List.cons_ne_nil _ _
  | 7,_=>cases ht; exact List.cons_ne_nil _ _
  | 8,_=>cases ht; exact List.cons_ne_nil _ _
  | 9,_=>cases ht; exact List.cons_ne_nil _ _
  | 10,_=>cases ht; exact List.cons_ne_nil _ _
  | 11,_=>cases ht; exact List.cons_ne_nil _ _
  | 12,_=>cases ht; exact List.cons_ne_nil _ _
  | 13,_=>cases ht; exact List.cons_ne_nil _ _
  | 14,_=>cases ht; exact List.cons_ne_nil _ _
  | 15,_=>cases ht; exact List.cons_ne_nil _ _
  | 16,_=>cases ht; exact List.cons_ne_nil _ _
  | 17,_=>cases ht; exact List.cons_ne_nil _ _
  | 18,_=>cases ht; exact List.cons_ne_nil _ _
  | 19,_=>cases ht; exact List.cons_ne_nil _ _
  | 20,_=>cases ht; exact List.cons_ne_nil _ _
  | 21,_=>cases ht; exact List.cons_ne_nil _ _
  | 22,_=>cases ht; exact List.cons_ne_nil _ _
  | 23,_=>cases ht; exact List.cons_ne_nil _ _
  | 24,_=>cases ht; exact List.cons_ne_nil _ _
  | n + 25,h=>omega
 have gA : Grow H (H.alloc (.cells false 0 5 (bcs t).length (setCells (bcs t) 0 .leaf))):=Grow.alloc H _
 obtain ⟨H',g',n',h',eq⟩:=(h.grow gA).bytes (g.trans gA) htn (Row.new H 5 (bcs t)) hs
 refine ⟨H',_,g',Nat.le_of_lt (Nat.lt_of_le_of_lt gA.next n'),h',fun M hM R k=>?_⟩
 obtain ⟨m,rfl⟩ : ∃ m,M = m + 60:=⟨M - 60,by omega⟩
 rw [call_eq L74,← eq R k (some t.length)]
 match i,hi with
 | 0,_=>cases hr; cases ht; exact (q74_0 m b H k).trans (Heap.allocK_eq _ _ _)
 | 1,_=>cases hr; cases ht; exact (q74_1 m b H k).trans (Heap.allocK_eq _ _ _)
 | 2,_=>cases hr; cases ht; exact (q74_2 m b H k).trans (Heap.allocK_eq _ _ _)
 | 3,_=>cases hr; cases ht; exact (q74_3 m b H k).trans (Heap.allocK_eq _ _ _)
 | 4,_=>cases hr; cases ht; exact (q74_4 m b H k).trans (Heap.allocK_eq _ _ _)
 | 5,_=>cases hr; cases ht; exact (q74_5 m b H k).trans (Heap.allocK_eq _ _ _)
 | 6,_=>cases hr; cases ht; exact (q74_6 m b H k).trans (Heap.allocK_eq _ _ _)
 | 7,_=>cases hr; cases ht; exact (q74_7 m b H k).trans (Heap.allocK_eq _ _ _)
 | 8,_=>cases hr; cases ht; exact (q74_8 m b H k).trans (Heap.allocK_eq _ _ _)
 | 9,_=>cases hr; cases ht; exact (q74_9 m b H k).trans (Heap.allocK_eq _ _ _)
 | 10,_=>cases hr; cases ht; exact (q74_10 m b H k).trans (Heap.allocK_eq _ _ _)
 | 11,_=>cases hr; cases ht; exact (q74_11 m b H k).trans (Heap.allocK_eq _ _ _)
 | 12,_=>cases hr; cases ht; exact (q74_12 m b H k).trans (Heap.allocK_eq _ _ _)
 | 13,_=>cases hr; cases ht; exact (q74_13 m b H k).trans (Heap.allocK_eq _ _ _)
 | 14,_=>cases hr; cases ht; exact (q74_14 m b H k).trans (Heap.allocK_eq _ _ _)
 | 15,_=>cases hr; cases ht; exact (q74_15 m b H k).trans (Heap.allocK_eq _ _ _)
 | 16,_=>cases hr; cases ht; exact (q74_16 m b H k).trans (Heap.allocK_eq _ _ _)
 | 17,_=>cases hr; cases ht; exact (q74_17 m b H k).trans (Heap.allocK_eq _ _ _)
 | 18,_=>cases hr; cases ht; exact (q74_18 m b H k).trans (Heap.allocK_eq _ _ _)
 | 19,_=>cases hr; cases ht; exact (q74_19 m b H k).trans (Heap.allocK_eq _ _ _)
 | 20,_=>cases hr; cases ht; exact (q74_20 m b H k).trans (Heap.allocK_eq _ _ _)
 | 21,_=>cases hr; cases ht; exact (q74_21 m b H k).trans (Heap.allocK_eq _ _ _)
 | 22,_=>cases hr; cases ht; exact (q74_22 m b H k).trans (Heap.allocK_eq _ _ _)
 | 23,_=>cases hr; cases ht; exact (q74_23 m b H k).trans (Heap.allocK_eq _ _ _)
 | 24,_=>cases hr; cases ht; exact (q74_24 m b H k).trans (Heap.allocK_eq _ _ _)
 | n + 25,h=>omega
end Go.Proofs.YtmmmjhkgjmbfaaaDoor

/- The text of runes (chancelref1.Of). -/
namespace Go.Proofs.YtmmmjhkgjmbfaaaDoor
open Go Go.Vai
set_option maxRecDepth 100000
set_option linter.unusedSimpArgs false
def rn (i : Nat) : Int:=(rns[i]?).getD 0
def en (i : Nat) : List UInt8:=(ens[i]?).getD []
theorem rn_at {i : Nat} (h : i < 25) : rns[i]? = some (rn i):=by unfold rn; rw [List.getElem?_eq_getElem (by exact h)]; rfl
theorem en_at {i : Nat} (h : i < 25) : ens[i]? = some (en i):=by unfold en; rw [List.getElem?_eq_getElem (by exact h)]; rfl
def rcs (l : List Nat) : List AV:=l.map fun i=>.i .i32 (rn i)
def txt (l : List Nat) : List UInt8:=l.flatMap en
theorem en_le {i : Nat} (h : i < 25) : (en i).length≤4:=by
 have : ∀ i,i < 25→(en i).length≤4:=by decide
 exact this i h
theorem txt_le : ∀ {l : List Nat},(∀ i ∈ l,i < 25)→(txt l).length≤4 * l.length
 | [],_=>Nat.le_refl _
 | i :: l,h=>by
  have h1:=en_le (h i (List.mem_cons_self ..))
  have h2:=txt_le fun j hj=>h j (List.mem_cons_of_mem _ hj)
  show (en i ++ txt l).length≤_
  rw [List.length_append,List.length_cons]; omega
theorem txt_app {l l' : List Nat} : txt (l ++ l') = txt l ++ txt l':=List.flatMap_append
theorem _root_.Go.Vai.Held.len {R : Type} {H0 H H' : Heap} {e sz len : Nat} {x : AV} {l : List AV} {k : HK R} (h : Held H0 H e sz x len l) : lenC false x k H' = k (.i .i64 len) H':=by
 obtain ⟨rfl,rfl,_⟩ | ⟨a,rfl,_⟩:=h <;> rfl
structure Inv63 (Hb H0 : Heap) (e : Nat) (x : AV) (done rest : List Nat) (fr : Tr AV) (H : Heap) : Prop where
 x : V fr 0 = x
 i : V fr 5 = .i .i64 done.length
 g : Grow H0 H
 b : Held H0 H 5 1 (V fr 4) (txt done).length (bcs (txt done))
theorem step63 {Hb H0 : Heap} {e : Nat} {x : AV} {done rest : List Nat} {i : Nat} (hi : ∀ j ∈ done ++ i :: rest,j < 25) (hx : Held Hb H0 e 1 x (done ++ i :: rest).length (rcs (done ++ i :: rest))) (hn : (done ++ i :: rest).length≤1000)
  {fr : Tr AV} {H : Heap} (inv : Inv63 Hb H0 e x done (i :: rest) fr H) :
  ∃ fr' H',Inv63 Hb H0 e x (done ++ [i]) rest fr' H'∧∀ M,100≤M→∀ (R : Type) (k : XK R),runK tbl (M + 1) R Lp63 fr H k = runK tbl M R Lp63 fr' H' k:=by
 have hi22 : i < 25:=hi i (by simp)
 have hlen : (done ++ i :: rest).length = done.length + rest.length + 1:=by simp; omega
 have ht : (txt done ++ en i).length≤roomN:=by
  have h1:=txt_le fun j hj=>hi j (List.mem_append_left _ hj)
  have h2:=en_le hi22
  rw [List.length_append]
  have : (4004 : Nat)≤roomN:=by decide
  omega
 obtain ⟨H',b',g',n',hb',eq⟩:=s74 i hi22 (rn_at hi22) (en_at hi22) inv.b inv.g ht
 obtain ⟨hxn,hz,_⟩ | ⟨a,hxa,_,hrow,_,ha⟩:=hx
 ·omega
 have hrow':=hrow.grow inv.g ha
 have hcell : (rcs (done ++ i :: rest))[done.length]? = some (.i .i32 (rn i)):=by
  unfold rcs; rw [List.getElem?_map,List.getElem?_append_right (Nat.le_refl _),Nat.sub_self]; rfl
 have hlt : ((done.length : Int) < ((done ++ i :: rest).length : Int)):=by omega
 have hw : IntKind.i64.wrap ((done.length : Int) + 1) = ((done ++ [i]).length : Int):=by rw [wrap_i64 (by omega) (by omega)]; simp
 have e1 : txt (done ++ [i]) = txt done ++ en i:=by rw [txt_app]; simp [txt]
 have h0:=inv.x
 have h5:=inv.i
 refine ⟨?fr1,H',⟨?p0,?p5,g',?p4⟩,fun M hM R k=>?e⟩
 case e =>
  obtain ⟨m,rfl⟩ : ∃ m,M = m + 100:=⟨M - 100,by omega⟩
  unfold Lp63
  rw [run_loop]
  simp only [EX,reduceIte,Nat.reduceEqDiff,Nat.reduceAdd,Int.reduceEq,Int.reduceLT,Int.reduceLE,reduceCtorEq,Nat.reduceLeDiff,Nat.reduceSub,Nat.reduceLT,h0,h5,hxa,hlt]
  rw [ixa_sl (by omega) hlt]
  simp only [EX,reduceIte,Nat.reduceEqDiff,Nat.reduceAdd,Int.reduceEq,Int.reduceLT,Int.reduceLE,reduceCtorEq,Nat.reduceLeDiff,Nat.reduceSub,Nat.reduceLT]
  rw [hrow'.ld (by rw [Nat.zero_add,Nat.mul_one]; exact hcell)]
  simp only [EX,reduceIte,Nat.reduceEqDiff,Nat.reduceAdd,Int.reduceEq,Int.reduceLT,Int.reduceLE,reduceCtorEq,Nat.reduceLeDiff,Nat.reduceSub,Nat.reduceLT]
  rw [s73 i hi22 (rn_at hi22) (by omega)]
  simp only [EX,reduceIte,Nat.reduceEqDiff,Nat.reduceAdd,Int.reduceEq,Int.reduceLT,Int.reduceLE,reduceCtorEq,Nat.reduceLeDiff,Nat.reduceSub,Nat.reduceLT,h0,h5,hxa]
  rw [ixa_sl (by omega) hlt]
  simp only [EX,reduceIte,Nat.reduceEqDiff,Nat.reduceAdd,Int.reduceEq,Int.reduceLT,Int.reduceLE,reduceCtorEq,Nat.reduceLeDiff,Nat.reduceSub,Nat.reduceLT]
  rw [hrow'.ld (by rw [Nat.zero_add,Nat.mul_one]; exact hcell)]
  simp only [EX,reduceIte,Nat.reduceEqDiff,Nat.reduceAdd,Int.reduceEq,Int.reduceLT,Int.reduceLE,reduceCtorEq,Nat.reduceLeDiff,Nat.reduceSub,Nat.reduceLT]
  rw [eq _ (by omega)]
  simp only [EX,reduceIte,Nat.reduceEqDiff,Nat.reduceAdd,Int.reduceEq,Int.reduceLT,Int.reduceLE,reduceCtorEq,Nat.reduceLeDiff,Nat.reduceSub,Nat.reduceLT,h5,i_add]
  rw [hw]
 case p0=>simp only [V_S,Nat.reduceEqDiff,reduceIte]; exact h0
 case p5=>simp only [V_S,Nat.reduceEqDiff,reduceIte]
 case p4=>simp only [V_S,Nat.reduceEqDiff,reduceIte]; rw [e1]; exact hb'
theorem loop63 {Hb H0 : Heap} {e : Nat} {x : AV} : ∀ (rest done : List Nat) (fr : Tr AV) (H : Heap),(∀ j ∈ done ++ rest,j < 25)→Held Hb H0 e 1 x (done ++ rest).length (rcs (done ++ rest))→(done ++ rest).length≤1000→Inv63 Hb H0 e x done rest fr H →
  ∃ fr' H',Grow H0 H'∧Held H0 H' 5 1 (V fr' 4) (txt (done ++ rest)).length (bcs (txt (done ++ rest)))∧∀ M,100 + rest.length≤M→∀ (R : Type) (k : XK R),runK tbl M R Lp63 fr H k = k (.exit 0) fr' H'
 | [],done,fr,H,hi,hx,hn,inv=>by
  rw [List.append_nil] at hx ⊢
  have h0:=inv.x
  have h5:=inv.i
  refine ⟨?fr1,H,inv.g,?p4,fun M hM R k=>?e⟩
  case e =>
   obtain ⟨m,rfl⟩ : ∃ m,M = m + 100:=⟨M - 100,by omega⟩
   unfold Lp63
   rw [run_loop]
   simp only [EX,reduceIte,Nat.reduceEqDiff,Nat.reduceAdd,Int.reduceEq,Int.reduceLT,Int.reduceLE,reduceCtorEq,Nat.reduceLeDiff,Nat.reduceSub,Nat.reduceLT,h0,h5,hx.len,Int.lt_irrefl]
   exact rfl
  case p4=>simp only [V_S,Nat.reduceEqDiff,reduceIte]; exact inv.b
 | i :: rest,done,fr,H,hi,hx,hn,inv=>by
  obtain ⟨fr1,H1,inv1,eq1⟩:=step63 hi hx hn inv
  have ea : done ++ i :: rest = done ++ [i] ++ rest:=by simp
  obtain ⟨fr2,H2,g2,b2,eq2⟩:=loop63 rest (done ++ [i]) fr1 H1 (by rw [← ea]; exact hi) (by rw [← ea]; exact hx) (by rw [← ea]; exact hn) inv1
  rw [← ea] at b2
  refine ⟨fr2,H2,g2,b2,fun M hM R k=>?_⟩
  rw [List.length_cons] at hM
  obtain ⟨m,rfl⟩ : ∃ m,M = m + 1:=⟨M - 1,by omega⟩
  rw [eq1 m (by omega),eq2 m (by omega)]
theorem s63 {Hb H : Heap} {e : Nat} {x : AV} {l : List Nat} (hi : ∀ j ∈ l,j < 25) (hx : Held Hb H e 1 x l.length (rcs l)) (hn : l.length≤1000) : Tells 63 1200 [x] H (.tu [str (txt l),.i .i64 0]):=by
 obtain ⟨fr',H',g,b,eq⟩:=loop63 (Hb:=Hb) (H0:=H) (e:=e) (x:=x) l [] (S (S (S (S (S .leaf 0 x) 2 (str [])) 3 (.i .i64 0)) 4 .ns) 5 (.i .i64 0)) H hi hx hn
  ⟨by simp only [V_S,Nat.reduceEqDiff,reduceIte],by simp only [V_S,Nat.reduceEqDiff,reduceIte]; rfl,Grow.refl H,by simp only [V_S,Nat.reduceEqDiff,reduceIte]; exact Held.init H H 5 1⟩
 refine ⟨H',g,fun M hM R k=>?_⟩
 obtain ⟨m,rfl⟩ : ∃ m,M = m + 1200:=⟨M - 1200,by omega⟩
 rw [call_eq L63]
 unfold B63
 simp only [EX,reduceIte,Nat.reduceEqDiff,Nat.reduceAdd,Int.reduceEq,Int.reduceLT,Int.reduceLE,reduceCtorEq,Nat.reduceLeDiff,Nat.reduceSub,Nat.reduceLT]
 rw [eq _ (by omega)]
 simp only [EX,reduceIte,Nat.reduceEqDiff,Nat.reduceAdd,Int.reduceEq,Int.reduceLT,Int.reduceLE,reduceCtorEq,Nat.reduceLeDiff,Nat.reduceSub,Nat.reduceLT]
 rw [b.b2s]
 simp only [EX,reduceIte,Nat.reduceEqDiff,Nat.reduceAdd,Int.reduceEq,Int.reduceLT,Int.reduceLE,reduceCtorEq,Nat.reduceLeDiff,Nat.reduceSub,Nat.reduceLT]
 exact rfl
end Go.Proofs.YtmmmjhkgjmbfaaaDoor

/- The text of numbers that pick runes (chancellaw1.Of),of some of them (id). -/
namespace Go.Proofs.YtmmmjhkgjmbfaaaDoor
open Go Go.Vai
set_option maxRecDepth 100000
set_option linter.unusedSimpArgs false
/-- A row of numbers as it is given: in a block that may be another's,too. -/
def Ints (H : Heap) (x : AV) (l : List Int) : Prop :=
 (x = .ns∧l = []) ∨ ∃ a off ro fz e size c,x = .sl a off l.length none 1∧a.toN < H.next.toN∧H.get a = .cells ro fz e size c∧off + l.length≤size∧∀ j,j < l.length→Tr.get .u c (toPa (off + j)) = .i .i64 ((l[j]?).getD 0)
theorem Ints.grow {H H' : Heap} {x : AV} {l : List Int} (h : Ints H x l) (g : Grow H H') : Ints H' x l:=by
 obtain h | ⟨a,off,ro,fz,e,size,c,hx,ha,h1,h2,h3⟩:=h
 ·exact Or.inl h
 ·exact Or.inr ⟨a,off,ro,fz,e,size,c,hx,Nat.lt_of_lt_of_le ha g.next,by rw [g.get a ha,h1],h2,h3⟩
theorem Ints.len {R : Type} {H H' : Heap} {x : AV} {l : List Int} {k : HK R} (h : Ints H x l) : lenC false x k H' = k (.i .i64 l.length) H':=by
 obtain ⟨rfl,rfl⟩ | ⟨a,off,ro,fz,e,size,c,rfl,_⟩:=h <;> rfl
/-- A number of it,read. -/
theorem Ints.at {H : Heap} {x : AV} {l : List Int} (h : Ints H x l) {j : Nat} (hj : j < l.length) :
  ∃ p,(∀ (R : Type) (k : HK R) (H' : Heap),ixaC 1 x (.i .i64 j) k H' = k p H')∧∀ (R : Type) (k : HK R),ldC false 1 p k H = k (.i .i64 ((l[j]?).getD 0)) H:=by
 obtain ⟨rfl,rfl⟩ | ⟨a,off,ro,fz,e,size,c,rfl,ha,h1,h2,h3⟩:=h
 ·exact absurd hj (Nat.not_lt_zero _)
 ·refine ⟨.p a (off + j),fun R k H'=>?_,fun R k=>?_⟩
  ·rw [ixa_sl (by omega) (by omega),Int.toNat_natCast,Nat.mul_one]
  ·rw [ld_one h1 (by omega),h3 j hj]
def ix (n : Int) : Nat:=(n % 22).toNat
theorem int22 : ((22 : Nat) : Int) = 22:=id rfl
theorem ix_22 (n : Int) : ix n < 22:=by
 have h1:=Int.emod_nonneg n (b:=22) (by decide)
 have h2:=Int.emod_lt_of_pos n (b:=22) (by decide)
 unfold ix; omega
theorem ix_lt (n : Int) : ix n < 25:=Nat.lt_of_lt_of_le (ix_22 n) (by decide)
structure Inv43 (t : Pa) (H0 : Heap) (x : AV) (done : List Int) (fr : Tr AV) (H : Heap) : Prop where
 x : V fr 0 = x
 t : V fr 3 = .sl t 0 22 (some 22) 1
 i : V fr 5 = .i .i64 done.length
 g : Grow H0 H
 b : Held H0 H 21 1 (V fr 4) done.length (rcs (done.map ix))
def rtab : List AV:=(rns.take 22).map (.i .i32)
theorem rtab_at (n : Int) : rtab[(n % 22).toNat]? = some (.i .i32 (rn (ix n))):=by
 unfold rtab; rw [List.getElem?_map]; show Option.map _ (rns.take 22)[ix n]? = _; rw [List.getElem?_take_of_lt (ix_22 n),rn_at (ix_lt n)]; rfl
theorem step43 {t : Pa} {H0 : Heap} {x : AV} {done rest : List Int} {v : Int} (hx : Ints H0 x (done ++ v :: rest)) (ht : Row H0 t 21 rtab) (htn : t.toN < H0.next.toN) (hn : (done ++ v :: rest).length≤40)
  {fr : Tr AV} {H : Heap} (inv : Inv43 t H0 x done fr H) :
  ∃ fr' H',Inv43 t H0 x (done ++ [v]) fr' H'∧∀ M,100≤M→∀ (R : Type) (k : XK R),runK tbl (M + 1) R Lp43 fr H k = runK tbl M R Lp43 fr' H' k:=by
 have hlen : (done ++ v :: rest).length = done.length + rest.length + 1:=by simp; omega
 have hx':=hx.grow inv.g
 obtain ⟨p,hp,hv⟩:=hx'.at (j:=done.length) (by omega)
 have hcell : ((done ++ v :: rest)[done.length]?).getD 0 = v:=by rw [List.getElem?_append_right (Nat.le_refl _),Nat.sub_self]; rfl
 rw [hcell] at hv
 have ht':=ht.grow inv.g htn
 have gA : Grow H (H.alloc (.cells false 0 21 1 (setCells [.i .i32 (rn (ix v))] 0 .leaf))):=Grow.alloc H _
 obtain ⟨H',g',n',hb',eq⟩:=(inv.b.grow gA).app (bytes:=4) (n:=0) (ys:=[.i .i32 (rn (ix v))]) (inv.g.trans gA) (by decide) rfl (by intro y hy; rw [List.mem_singleton.mp hy]; rfl)
  (by have : (164 : Nat)≤roomN:=by decide
      omega)
 have hlt : ((done.length : Int) < ((done ++ v :: rest).length : Int)):=by omega
 have hlt40 : ((done.length : Int) < 40):=by omega
 have hw : IntKind.i64.wrap ((done.length : Int) + 1) = ((done ++ [v]).length : Int):=by rw [wrap_i64 (by omega) (by omega)]; simp
 have e1 : rcs ((done ++ [v]).map ix) = rcs (done.map ix) ++ [.i .i32 (rn (ix v))]:=by simp [rcs]
 have e2 : (done ++ [v]).length = done.length + (0 + 1):=by simp
 have h0:=inv.x
 have h5:=inv.i
 have h3:=inv.t
 have m1:=Int.emod_nonneg v (b:=22) (by decide)
 have m2:=Int.emod_lt_of_pos v (b:=22) (by decide)
 refine ⟨?fr1,H',⟨?p0,?p3,?p5,g',?p4⟩,fun M hM R k=>?e⟩
 case e =>
  obtain ⟨m,rfl⟩ : ∃ m,M = m + 100:=⟨M - 100,by omega⟩
  unfold Lp43
  rw [run_loop]
  simp only [EX,reduceIte,Nat.reduceEqDiff,Nat.reduceAdd,Int.reduceEq,Int.reduceLT,Int.reduceLE,reduceCtorEq,Nat.reduceLeDiff,Nat.reduceSub,Nat.reduceLT,h0,h5,hx.len,hlt,hlt40]
  rw [hp]
  simp only [EX,reduceIte,Nat.reduceEqDiff,Nat.reduceAdd,Int.reduceEq,Int.reduceLT,Int.reduceLE,reduceCtorEq,Nat.reduceLeDiff,Nat.reduceSub,Nat.reduceLT]
  rw [hv]
  simp only [EX,reduceIte,Nat.reduceEqDiff,Nat.reduceAdd,Int.reduceEq,Int.reduceLT,Int.reduceLE,reduceCtorEq,Nat.reduceLeDiff,Nat.reduceSub,Nat.reduceLT,h3,int22]
  rw [s62 (by decide) (by decide) (by omega)]
  simp only [EX,reduceIte,Nat.reduceEqDiff,Nat.reduceAdd,Int.reduceEq,Int.reduceLT,Int.reduceLE,reduceCtorEq,Nat.reduceLeDiff,Nat.reduceSub,Nat.reduceLT]
  rw [ixa_sl m1 (by omega)]
  simp only [EX,reduceIte,Nat.reduceEqDiff,Nat.reduceAdd,Int.reduceEq,Int.reduceLT,Int.reduceLE,reduceCtorEq,Nat.reduceLeDiff,Nat.reduceSub,Nat.reduceLT]
  rw [ht'.ld (by rw [Nat.zero_add,Nat.mul_one]; exact rtab_at v)]
  simp only [EX,reduceIte,Nat.reduceEqDiff,Nat.reduceAdd,Int.reduceEq,Int.reduceLT,Int.reduceLE,reduceCtorEq,Nat.reduceLeDiff,Nat.reduceSub,Nat.reduceLT]
  rw [eq R _ _ fun f=>src_sl (Row.new H 21 [.i .i32 (rn (ix v))]) (Nat.le_refl _) f]
  simp only [EX,reduceIte,Nat.reduceEqDiff,Nat.reduceAdd,Int.reduceEq,Int.reduceLT,Int.reduceLE,reduceCtorEq,Nat.reduceLeDiff,Nat.reduceSub,Nat.reduceLT,h5,i_add]
  rw [hw]
 case p0=>simp only [V_S,Nat.reduceEqDiff,reduceIte]; exact h0
 case p3=>simp only [V_S,Nat.reduceEqDiff,reduceIte]; exact h3
 case p5=>simp only [V_S,Nat.reduceEqDiff,reduceIte]
 case p4=>simp only [V_S,Nat.reduceEqDiff,reduceIte]; rw [e1,e2]; exact hb'
theorem loop43 {t : Pa} {H0 : Heap} {x : AV} (ht : Row H0 t 21 rtab) (htn : t.toN < H0.next.toN) : ∀ (rest done : List Int) (fr : Tr AV) (H : Heap),Ints H0 x (done ++ rest)→(done ++ rest).length≤40→Inv43 t H0 x done fr H →
  ∃ fr' H',Inv43 t H0 x (done ++ rest) fr' H'∧∀ M,100 + rest.length≤M→∀ (R : Type) (k : XK R),runK tbl M R Lp43 fr H k = k (.exit 0) fr' H'
 | [],done,fr,H,hx,hn,inv=>by
  rw [List.append_nil] at hx hn ⊢
  have h0:=inv.x
  have h5:=inv.i
  refine ⟨?fr1,H,⟨?p0,?p3,?p5,inv.g,?p4⟩,fun M hM R k=>?e⟩
  case e =>
   obtain ⟨m,rfl⟩ : ∃ m,M = m + 100:=⟨M - 100,by omega⟩
   unfold Lp43
   rw [run_loop]
   simp only [EX,reduceIte,Nat.reduceEqDiff,Nat.reduceAdd,Int.reduceEq,Int.reduceLT,Int.reduceLE,reduceCtorEq,Nat.reduceLeDiff,Nat.reduceSub,Nat.reduceLT,h0,h5,hx.len,Int.lt_irrefl]
   exact rfl
  case p0=>simp only [V_S,Nat.reduceEqDiff,reduceIte]; exact h0
  case p3=>simp only [V_S,Nat.reduceEqDiff,reduceIte]; exact inv.t
  case p5=>simp only [V_S,Nat.reduceEqDiff,reduceIte]; exact h5
  case p4=>simp only [V_S,Nat.reduceEqDiff,reduceIte]; exact inv.b
 | v :: rest,done,fr,H,hx,hn,inv=>by
  obtain ⟨fr1,H1,inv1,eq1⟩:=step43 hx ht htn hn inv
  have ea : done ++ v :: rest = done ++ [v] ++ rest:=by simp
  obtain ⟨fr2,H2,inv2,eq2⟩:=loop43 ht htn rest (done ++ [v]) fr1 H1 (by rw [← ea]; exact hx) (by rw [← ea]; exact hn) inv1
  rw [← ea] at inv2
  refine ⟨fr2,H2,inv2,fun M hM R k=>?_⟩
  rw [List.length_cons] at hM
  obtain ⟨m,rfl⟩ : ∃ m,M = m + 1:=⟨M - 1,by omega⟩
  rw [eq1 m (by omega),eq2 m (by omega)]
/-- The text that numbers make. -/
def tx (l : List Int) : List UInt8:=txt (l.map ix)
theorem s43 {H : Heap} {x : AV} {l : List Int} (hx : Ints H x l) (hn : l.length≤40) : Tells 43 1500 [x] H (str (tx l)):=by
 have gA:=Grow.alloc H (.cells false 0 21 22 (setCells rtab 0 .leaf))
 obtain ⟨fr',H1,inv,eq⟩:=loop43 (t:=H.next) (x:=x) (Row.new H 21 rtab) (by rw [next_alloc]; omega) l []
  (S (S (S (S (S (S .leaf 0 x) 2 (str [])) 8 (.sl H.next 0 22 (some 22) 1)) 3 (.sl H.next 0 22 (some 22) 1)) 4 .ns) 5 (.i .i64 0)) (H.alloc (.cells false 0 21 22 (setCells rtab 0 .leaf))) (hx.grow gA) hn
  ⟨by simp only [V_S,Nat.reduceEqDiff,reduceIte],by simp only [V_S,Nat.reduceEqDiff,reduceIte],by simp only [V_S,Nat.reduceEqDiff,reduceIte]; rfl,Grow.refl _,by simp only [V_S,Nat.reduceEqDiff,reduceIte]; exact Held.init _ _ 21 1⟩
 rw [List.nil_append] at inv
 obtain ⟨H2,g2,eq2⟩:=s63 (l:=l.map ix) (fun j hj=>by obtain ⟨n,_,rfl⟩:=List.mem_map.mp hj; exact ix_lt n) (by rw [List.length_map]; exact inv.b) (by rw [List.length_map]; omega)
 refine ⟨H2,(gA.trans inv.g).trans g2,fun M hM R k=>?_⟩
 obtain ⟨m,rfl⟩ : ∃ m,M = m + 1500:=⟨M - 1500,by omega⟩
 rw [call_eq L43]
 unfold B43
 simp only [EX,reduceIte,Nat.reduceEqDiff,Nat.reduceAdd,Int.reduceEq,Int.reduceLT,Int.reduceLE,reduceCtorEq,Nat.reduceLeDiff,Nat.reduceSub,Nat.reduceLT]
 refine Eq.trans (eq (m + 1494) (by omega) R _) ?_
 simp only [EX,reduceIte,Nat.reduceEqDiff,Nat.reduceAdd,Int.reduceEq,Int.reduceLT,Int.reduceLE,reduceCtorEq,Nat.reduceLeDiff,Nat.reduceSub,Nat.reduceLT]
 rw [eq2 _ (by omega)]
 simp only [EX,reduceIte,Nat.reduceEqDiff,Nat.reduceAdd,Int.reduceEq,Int.reduceLT,Int.reduceLE,reduceCtorEq,Nat.reduceLeDiff,Nat.reduceSub,Nat.reduceLT]
 exact rfl
end Go.Proofs.YtmmmjhkgjmbfaaaDoor

/- Trees as they are made; a leaf (chancellaw5.leaf). -/
namespace Go.Proofs.YtmmmjhkgjmbfaaaDoor
open Go Go.Vai
set_option maxRecDepth 100000
set_option linter.unusedSimpArgs false
def ec (op : Nat) (b : Bool) (n : Int) (s t d : List UInt8) (xk : AV) : List AV:=[.i .i64 op,.b b,.i .i64 n,str s,str t,str d,xk]
def zs7 : List AV:=[.i .i64 0,.b false,.i .i64 0,str [],str [],str [],.ns]
theorem ec_one {op : Nat} {b : Bool} {n : Int} {s t d : List UInt8} {xk : AV} (hk : oneC xk = true) : ∀ v ∈ ec op b n s t d xk,oneC v = true:=by
 intro v hv
 simp only [ec,List.mem_cons,List.not_mem_nil,or_false] at hv
 rcases hv with rfl | rfl | rfl | rfl | rfl | rfl | rfl
 ·exact one_i
 ·exact one_b
 ·exact one_i
 ·exact one_str
 ·exact one_str
 ·exact one_str
 ·exact hk
end Go.Proofs.YtmmmjhkgjmbfaaaDoor

/- A tree that is made (chancellaw5.Tree),as it lies in memory. -/
namespace Go.Proofs.YtmmmjhkgjmbfaaaDoor
open Go Go.Vai
set_option maxRecDepth 100000
set_option linter.unusedSimpArgs false
def Mine (Hm : Heap) (x : AV) : Pa→Prop:=fun b=>Hm.next.toN≤b.toN∧Off x b
end Go.Proofs.YtmmmjhkgjmbfaaaDoor

/- Digits: a number's text in the document's answer (chancelref2.Text). -/
namespace Go.Proofs.YtmmmjhkgjmbfaaaDoor
open Go Go.Vai
set_option maxRecDepth 100000
set_option linter.unusedSimpArgs false
def dg (n : Nat) : UInt8:=UInt8.ofNat (48 + n)
def decF : Nat→Nat→List UInt8
 | 0,n=>[dg (n % 10)]
 | f + 1,n=>if n < 10 then [dg n] else decF f (n / 10) ++ [dg (n % 10)]
/-- A number's digits. -/
def dec (n : Nat) : List UInt8:=decF 20 n
theorem dg_toN {n : Nat} (h : n < 10) : (dg n).toNat = 48 + n:=by
 have : ∀ n,n < 10→(dg n).toNat = 48 + n:=by decide
 exact this n h
theorem decF_len : ∀ f n,(decF f n).length≤f + 1
 | 0,_=>Nat.le_refl _
 | f + 1,n=>by
  unfold decF
  by_cases h : n < 10
  ·rw [if_pos h]; show 1≤_; omega
  ·rw [if_neg h,List.length_append]; have:=decF_len f (n / 10); show _ + 1≤_; omega
theorem decF_1 {f n : Nat} (h : n < 10) : decF f n = [dg n]:=by
 cases f with
 | zero=>show [dg (n % 10)] = _; rw [Nat.mod_eq_of_lt h]
 | succ f=>unfold decF; rw [if_pos h]
theorem decF_s {f n : Nat} (h : n < 10 ^ (f + 1)) : decF (f + 1) n = decF f n:=by
 induction f generalizing n with
 | zero=>rw [decF_1 (by omega),decF_1 (by omega)]
 | succ f ih =>
  by_cases h1 : n < 10
  ·rw [decF_1 h1,decF_1 h1]
  ·show (if n < 10 then _ else _) = (if n < 10 then _ else _)
   rw [if_neg h1,if_neg h1,ih (by rw [Nat.pow_succ] at h; omega)]
theorem decF_up {f g n : Nat} (h : n < 10 ^ (f + 1)) (hg : f≤g) : decF g n = decF f n:=by
 induction g with
 | zero=>obtain rfl : f = 0:=by omega
         rfl
 | succ g ih =>
  by_cases e : f = g + 1
  ·rw [e]
  ·rw [decF_s (Nat.lt_of_lt_of_le h (Nat.pow_le_pow_right (by omega) (by omega))),ih (by omega)]
theorem q10 (n : Nat) : (n : Int).tdiv 10 = ((n / 10 : Nat) : Int):=quo_n (b:=10)
theorem r10 (n : Nat) : (n : Int).tmod 10 = ((n % 10 : Nat) : Int):=rem_n (b:=10)
theorem q16 (n : Nat) : (n : Int).tdiv 16 = ((n / 16 : Nat) : Int):=quo_n (b:=16)
theorem r16 (n : Nat) : (n : Int).tmod 16 = ((n % 16 : Nat) : Int):=rem_n (b:=16)
theorem q100 (n : Nat) : (n : Int).tdiv 100 = ((n / 100 : Nat) : Int):=quo_n (b:=100)
theorem r100 (n : Nat) : (n : Int).tmod 100 = ((n % 100 : Nat) : Int):=rem_n (b:=100)
theorem q10000 (n : Nat) : (n : Int).tdiv 10000 = ((n / 10000 : Nat) : Int):=quo_n (b:=10000)
theorem r10000 (n : Nat) : (n : Int).tmod 10000 = ((n % 10000 : Nat) : Int):=rem_n (b:=10000)
theorem q100000000 (n : Nat) : (n : Int).tdiv 100000000 = ((n / 100000000 : Nat) : Int):=quo_n (b:=100000000)
theorem r100000000 (n : Nat) : (n : Int).tmod 100000000 = ((n % 100000000 : Nat) : Int):=rem_n (b:=100000000)
theorem pow_s {f n : Nat} (h : n < 10 ^ (f + 2)) : n / 10 < 10 ^ (f + 1)∧n % 10 < 10 ^ (f + 1):=by
 have e : 10 ^ (f + 2) = 10 ^ (f + 1) * 10:=Nat.pow_succ _ _
 have e2 : 10 ^ (f + 1) = 10 ^ f * 10:=Nat.pow_succ _ _
 have hp : 0 < 10 ^ f:=Nat.pow_pos (by omega)
 omega
theorem s50_1 {n : Nat} (h : n < 10) (H : Heap) : Tells 50 60 [.i .u64 (n : Int)] H (str [dg n]):=by
 refine ⟨_,Grow.alloc H (.cells false 0 5 1 (setCells [.i .u8 ((dg n).toNat : Int)] 0 .leaf)),fun M hM R k=>?_⟩
 obtain ⟨m,rfl⟩ : ∃ m,M = m + 60:=⟨M - 60,by omega⟩
 have hge : ¬ (10 : Int)≤(n : Int):=by omega
 rw [call_eq L50]
 unfold B50
 simp only [EX,reduceIte,Nat.reduceEqDiff,Nat.reduceAdd,Int.reduceEq,Int.reduceLT,Int.reduceLE,reduceCtorEq,Nat.reduceLeDiff,Nat.reduceSub,Nat.reduceLT,hge,i_add]
 rw [show (48 : Int) + (n : Int) = ((48 + n : Nat) : Int) by omega,wrap_u64 (by omega),wrap_u8 (by omega),← dg_toN h]
 rw [show AV.sl H.next 0 1 (some 1) 1 = .sl H.next 0 [dg n].length (some 1) 1 from rfl,b2s_row (e:=5) (s:=[dg n]) ?r]
 case r=>exact Row.new H 5 [.i .u8 ((dg n).toNat : Int)]
 simp only [EX,reduceIte,Nat.reduceEqDiff,Nat.reduceAdd,Int.reduceEq,Int.reduceLT,Int.reduceLE,reduceCtorEq,Nat.reduceLeDiff,Nat.reduceSub,Nat.reduceLT]
theorem s50F : ∀ f,f≤20→∀ n : Nat,n < 10 ^ (f + 1)→n < 18446744073709551616→∀ H,Tells 50 (60 * (f + 1)) [.i .u64 (n : Int)] H (str (decF f n)):=by
 intro f
 induction f with
 | zero =>
  intro _ n h0 h H
  rw [decF_1 (by omega)]
  exact s50_1 (by omega) H
 | succ f ih =>
  intro hf n hn h H
  by_cases h1 : n < 10
  ·rw [decF_1 h1]
   obtain ⟨H',g,e⟩:=s50_1 h1 H
   exact ⟨H',g,fun M hM=>e M (by omega)⟩
  ·obtain ⟨hd,hm⟩:=pow_s hn
   obtain ⟨H1,g1,e1⟩:=ih (by omega) (n / 10) hd (by omega) H
   obtain ⟨H2,g2,e2⟩:=ih (by omega) (n % 10) hm (by omega) H1
   rw [decF_1 (n:=n % 10) (by omega)] at e2
   refine ⟨H2,g1.trans g2,fun M hM R k=>?_⟩
   obtain ⟨m,rfl⟩ : ∃ m,M = m + 60:=⟨M - 60,by omega⟩
   have hge : (10 : Int)≤(n : Int):=by omega
   have hl:=decF_len f (n / 10)
   have hs : (30 : Nat)≤sMax:=by decide
   rw [call_eq L50]
   unfold B50
   simp only [EX,reduceIte,Nat.reduceEqDiff,Nat.reduceAdd,Int.reduceEq,Int.reduceLT,Int.reduceLE,reduceCtorEq,Nat.reduceLeDiff,Nat.reduceSub,Nat.reduceLT,hge,i_quo (show (10 : Int) ≠ 0 by decide),i_rem (show (10 : Int) ≠ 0 by decide)]
   rw [q10,wrap_u64 (by omega),e1 _ (by omega)]
   simp only [EX,reduceIte,Nat.reduceEqDiff,Nat.reduceAdd,Int.reduceEq,Int.reduceLT,Int.reduceLE,reduceCtorEq,Nat.reduceLeDiff,Nat.reduceSub,Nat.reduceLT,i_rem (show (10 : Int) ≠ 0 by decide)]
   rw [r10,e2 _ (by omega)]
   simp only [EX,reduceIte,Nat.reduceEqDiff,Nat.reduceAdd,Int.reduceEq,Int.reduceLT,Int.reduceLE,reduceCtorEq,Nat.reduceLeDiff,Nat.reduceSub,Nat.reduceLT]
   rw [s_add (by show _ + 1≤_; omega)]
   simp only [EX,reduceIte,Nat.reduceEqDiff,Nat.reduceAdd,Int.reduceEq,Int.reduceLT,Int.reduceLE,reduceCtorEq,Nat.reduceLeDiff,Nat.reduceSub,Nat.reduceLT]
   show _ = k (str (if n < 10 then [dg n] else decF f (n / 10) ++ [dg (n % 10)])) H2
   rw [if_neg h1]
/-- The document's text of a number. -/
theorem s24 {n : Nat} (hn : n < 9223372036854775808) (H : Heap) : Tells 24 1400 [.i .i64 (n : Int)] H (str (dec n)):=by
 obtain ⟨H',g,e⟩:=s50F 20 (Nat.le_refl _) n (Nat.lt_trans hn (by decide)) (by omega) H
 refine ⟨H',g,fun M hM R k=>?_⟩
 obtain ⟨m,rfl⟩ : ∃ m,M = m + 1400:=⟨M - 1400,by omega⟩
 have hge : ¬ (n : Int) < 0:=by omega
 rw [call_eq L24]
 unfold B24
 simp only [EX,reduceIte,Nat.reduceEqDiff,Nat.reduceAdd,Int.reduceEq,Int.reduceLT,Int.reduceLE,reduceCtorEq,Nat.reduceLeDiff,Nat.reduceSub,Nat.reduceLT,hge]
 rw [wrap_u64 (by omega),e _ (by omega)]
 simp only [EX,reduceIte,Nat.reduceEqDiff,Nat.reduceAdd,Int.reduceEq,Int.reduceLT,Int.reduceLE,reduceCtorEq,Nat.reduceLeDiff,Nat.reduceSub,Nat.reduceLT]
 exact rfl
end Go.Proofs.YtmmmjhkgjmbfaaaDoor

/- Small numbers' texts; how many digits a number has (strconv). -/
namespace Go.Proofs.YtmmmjhkgjmbfaaaDoor
open Go Go.Vai
set_option maxRecDepth 100000
set_option linter.unusedSimpArgs false
def tab : List UInt8:=(List.range 100).flatMap fun i=>[dg (i / 10),dg (i % 10)]
def d36 : List UInt8:=[48,49,50,51,52,53,54,55,56,57,97,98,99,100,101,102,103,104,105,106,107,108,109,110,111,112,113,114,115,116,117,118,119,120,121,122]
def bl (x : Nat) : Nat:=if x = 0 then 0 else if x < 2 then 1 else if x < 4 then 2 else if x < 8 then 3 else if x < 16 then 4 else if x < 32 then 5 else if x < 64 then 6 else if x < 128 then 7 else 8
def t256 : List UInt8:=(List.range 256).map fun i=>UInt8.ofNat (bl i)
theorem tabS : AV.s 200 8369396053099643259884660439900312228746471110943504458504829912206407100469475510520505676855750014530596077689858408204562721349408824591789441711103775826291439126061900675989976254244761425382494394669896706626295868329681710377411642562040512013377776180902291979747008038411282346274188424097310996521951660972735479027990947060043115083917949168200323041593656569302669535377774123378085539195783572932112166539323561441937920580889744256865042652178519653545620815178381625 = str tab:=by kernel_rfl
theorem d36S : AV.s 36 93621433862240650313326231306435056417042768930449266319129758623240466503934737414522 = str d36:=by kernel_rfl
theorem t256S : AV.s 256 496986003408712215933005303621146343841837811690876167382323004466384420695090407243345123874780946046625255262057845613767806773758184921447759720770971536008171983842311960805720366577116933250839345203839274948261284255908394484732272583221484877694546905335834403051067785895034095251181560891789708940188598129052595634438001880866652824740680664595948164050600812232986714152902334120417949232733424961741260388658846598210939813666227264727603044226856020347194099943897342244906131705541414413428559898943151040826816076322978570758226444464494629814583418847495712557856038296917933182380796641777551368 = str t256:=by kernel_rfl
theorem tab_len : tab.length = 200:=by decide
theorem tab2 {n : Nat} (h : n < 100) : (tab.drop (2 * n)).take 2 = [dg (n / 10),dg (n % 10)]:=by
 have : ∀ n,n < 100→(tab.drop (2 * n)).take 2 = [dg (n / 10),dg (n % 10)]:=by decide
 exact this n h
theorem tab_hi {n : Nat} (h : n < 100) : tab[n * 2]? = some (dg (n / 10)):=by
 have : ∀ n,n < 100→tab[n * 2]? = some (dg (n / 10)):=by decide
 exact this n h
theorem tab_lo {n : Nat} (h : n < 100) : tab[n * 2 + 1]? = some (dg (n % 10)):=by
 have : ∀ n,n < 100→tab[n * 2 + 1]? = some (dg (n % 10)):=by decide
 exact this n h
theorem d36_1 {n : Nat} (h : n < 10) : (d36.drop n).take 1 = [dg n]:=by
 have : ∀ n,n < 10→(d36.drop n).take 1 = [dg n]:=by decide
 exact this n h
theorem t256_at {n : Nat} (h : n < 256) : t256[n]? = some (UInt8.ofNat (bl n)):=by
 unfold t256; rw [List.getElem?_map,List.getElem?_range h]; rfl
theorem bl_le (n : Nat) : bl n≤8:=by
 unfold bl
 repeat' split
 all_goals omega
theorem bl_ok {n : Nat} (h0 : 0 < n) (h : n < 256) : 1≤bl n∧2 ^ (bl n - 1)≤n∧n < 2 ^ bl n:=by
 unfold bl
 repeat' split
 all_goals (simp only [Nat.reducePow,Nat.reduceSub]; omega)
theorem dec_2 {n : Nat} (h : 10≤n) (h2 : n < 100) : dec n = [dg (n / 10),dg (n % 10)]:=by
 show (if n < 10 then [dg n] else decF 19 (n / 10) ++ [dg (n % 10)]) = _
 rw [if_neg (by omega),decF_1 (by omega)]; rfl
theorem s80 {R : Type} {n : Nat} (hn : n < 100) {M : Nat} (hM : 60≤M) (H : Heap) (k : HK R) : callK tbl (runK tbl M) R (toPa 80) [.i .i64 (n : Int)] H k = k (str (dec n)) H:=by
 obtain ⟨m,rfl⟩ : ∃ m,M = m + 60:=⟨M - 60,by omega⟩
 rw [call_eq L80]
 unfold B80
 by_cases h : n < 10
 ·have h' : (n : Int) < 10:=by omega
  simp only [EX,reduceIte,Nat.reduceEqDiff,Nat.reduceAdd,Int.reduceEq,Int.reduceLT,Int.reduceLE,reduceCtorEq,Nat.reduceLeDiff,Nat.reduceSub,Nat.reduceLT,h',i_add]
  rw [show (n : Int) + 1 = ((n + 1 : Nat) : Int) by omega,wrap_n64 (by omega),d36S,sls_str (by omega) (by omega) (by show _≤(36 : Int); omega)]
  simp only [EX,reduceIte,Nat.reduceEqDiff,Nat.reduceAdd,Int.reduceEq,Int.reduceLT,Int.reduceLE,reduceCtorEq,Nat.reduceLeDiff,Nat.reduceSub,Nat.reduceLT]
  rw [Int.toNat_natCast,Int.toNat_natCast,show n + 1 - n = 1 by omega,d36_1 h]
  show k (str [dg n]) H = _
  rw [show dec n = [dg n] from decF_1 h]
 ·have h' : ¬ (n : Int) < 10:=by omega
  simp only [EX,reduceIte,Nat.reduceEqDiff,Nat.reduceAdd,Int.reduceEq,Int.reduceLT,Int.reduceLE,reduceCtorEq,Nat.reduceLeDiff,Nat.reduceSub,Nat.reduceLT,h',i_add,i_mul]
  rw [show (n : Int) * 2 = ((2 * n : Nat) : Int) by omega,wrap_n64 (by omega),show ((2 * n : Nat) : Int) + 2 = ((2 * n + 2 : Nat) : Int) by omega,wrap_n64 (by omega),tabS,sls_str (by omega) (by omega) (by rw [tab_len]; omega)]
  simp only [EX,reduceIte,Nat.reduceEqDiff,Nat.reduceAdd,Int.reduceEq,Int.reduceLT,Int.reduceLE,reduceCtorEq,Nat.reduceLeDiff,Nat.reduceSub,Nat.reduceLT]
  rw [Int.toNat_natCast,Int.toNat_natCast,show 2 * n + 2 - 2 * n = 2 by omega,tab2 hn,dec_2 (by omega) hn]
theorem shr_n {R : Type} {ek : EK} {kd kd' : IntKind} {a b : Nat} {k : HK R} {H : Heap} (hb : b≤bitsN kd) : binC .shr ek (.i kd (a : Int)) (.i kd' (b : Int)) k H = k (.i kd ((a / 2 ^ b : Nat) : Int)) H:=by
 refine (i_shr (b:=b)).trans ?_
 rw [Nat.min_eq_left hb,← Int.ofNat_fdiv]
def lg (L : Nat) : Nat:=L * 78913 / 262144
theorem s85 {R : Type} {n : Nat} (hn : n≤64) {M : Nat} (hM : 60≤M) (H : Heap) (k : HK R) : callK tbl (runK tbl M) R (toPa 85) [.i .i64 (n : Int)] H k = k (.i .i64 (lg n : Nat)) H:=by
 obtain ⟨m,rfl⟩ : ∃ m,M = m + 60:=⟨M - 60,by omega⟩
 rw [call_eq L85]
 unfold B85
 simp only [EX,reduceIte,Nat.reduceEqDiff,Nat.reduceAdd,Int.reduceEq,Int.reduceLT,Int.reduceLE,reduceCtorEq,Nat.reduceLeDiff,Nat.reduceSub,Nat.reduceLT,i_mul]
 rw [show (n : Int) * 78913 = ((n * 78913 : Nat) : Int) by omega,wrap_n64 (by omega)]
 refine (shr_n (b:=18) (by decide)).trans ?_
 simp only [EX,reduceIte,Nat.reduceEqDiff,Nat.reduceAdd,Int.reduceEq,Int.reduceLT,Int.reduceLE,reduceCtorEq,Nat.reduceLeDiff,Nat.reduceSub,Nat.reduceLT]
 rfl
theorem s87 {R : Type} {b : Bool} {M : Nat} (hM : 60≤M) (H : Heap) (k : HK R) : callK tbl (runK tbl M) R (toPa 87) [.b b] H k = k (.i .i64 (if b then 1 else 0)) H:=by
 obtain ⟨m,rfl⟩ : ∃ m,M = m + 60:=⟨M - 60,by omega⟩
 rw [call_eq L87]
 unfold B87
 cases b <;> (simp only [EX,reduceIte,Nat.reduceEqDiff,Nat.reduceAdd,Int.reduceEq,Int.reduceLT,Int.reduceLE,reduceCtorEq,Nat.reduceLeDiff,Nat.reduceSub,Nat.reduceLT]) <;> rfl
theorem s86t {n : Nat} (h : n < 256) : ((UInt8.ofNat (bl n)).toNat : Int) = (bl n : Int):=by
 have : ∀ n,n≤8→(UInt8.ofNat n).toNat = n:=by decide
 rw [this _ (bl_le n)]
def IsL (L x : Nat) : Prop:=1≤L∧2 ^ (L - 1)≤x∧x < 2 ^ L
theorem IsL.up {L x y b : Nat} (h : IsL L y) (e : y = x / 2 ^ b) : IsL (L + b) x:=by
 obtain ⟨h1,h2,h3⟩:=h
 have hp : 0 < 2 ^ b:=Nat.pow_pos (by omega)
 refine ⟨by omega,?_,?_⟩
 ·rw [show L + b - 1 = (L - 1) + b by omega,Nat.pow_add]
  rw [e] at h2
  exact Nat.le_trans (Nat.mul_le_mul_right _ h2) (Nat.div_mul_le_self _ _)
 ·rw [Nat.pow_add]
  rw [e] at h3
  exact (Nat.div_lt_iff_lt_mul hp).mp h3
theorem w48 : IntKind.i64.wrap (32 + 16) = 48:=by decide
theorem w56 : IntKind.i64.wrap (48 + 8) = 56:=by decide
theorem w40 : IntKind.i64.wrap (32 + 8) = 40:=by decide
theorem w24 : IntKind.i64.wrap (16 + 8) = 24:=by decide
theorem w16 : IntKind.i64.wrap (0 + 16) = 16:=by decide
theorem w8 : IntKind.i64.wrap (0 + 8) = 8:=by decide
theorem shr32 {R : Type} {ek : EK} {a : Nat} {k : HK R} {H : Heap} : binC .shr ek (.i .u64 (a : Int)) (.i .u64 32) k H = k (.i .u64 ((a / 4294967296 : Nat) : Int)) H:=shr_n (b:=32) (by decide)
theorem shr16 {R : Type} {ek : EK} {a : Nat} {k : HK R} {H : Heap} : binC .shr ek (.i .u64 (a : Int)) (.i .u64 16) k H = k (.i .u64 ((a / 65536 : Nat) : Int)) H:=shr_n (b:=16) (by decide)
theorem shr8 {R : Type} {ek : EK} {a : Nat} {k : HK R} {H : Heap} : binC .shr ek (.i .u64 (a : Int)) (.i .u64 8) k H = k (.i .u64 ((a / 256 : Nat) : Int)) H:=shr_n (b:=8) (by decide)
theorem s86 {x : Nat} (h0 : 0 < x) (hx : x < 18446744073709551616) : ∃ L,L≤64∧IsL L x∧∀ (H : Heap) (M : Nat),60≤M→∀ (R : Type) (k : HK R),callK tbl (runK tbl M) R (toPa 86) [.i .u64 (x : Int)] H k = k (.i .i64 (L : Nat)) H:=by
 by_cases h32 : 4294967296≤x
 ·have k32 : (4294967296 : Int)≤((x : Nat) : Int):=by omega
  by_cases h16 : 65536≤x / 4294967296
  ·have k16 : (65536 : Int)≤((x / 4294967296 : Nat) : Int):=by omega
   by_cases h8 : 256≤(x / 4294967296) / 65536
   ·have k8 : (256 : Int)≤(((x / 4294967296) / 65536 : Nat) : Int):=by omega
    have hy0 : 0 < ((x / 4294967296) / 65536) / 256:=by omega
    have hy : ((x / 4294967296) / 65536) / 256 < 256:=by omega
    refine ⟨bl (((x / 4294967296) / 65536) / 256) + 56,by have:=bl_le (((x / 4294967296) / 65536) / 256); omega,(show IsL _ _ from bl_ok hy0 hy).up (b:=56) (by rw [show (2:Nat)^56 = 72057594037927936 from rfl] <;> omega),fun H M hM R k=>?_⟩
    obtain ⟨m,rfl⟩ : ∃ m,M = m + 60:=⟨M - 60,by omega⟩
    rw [call_eq L86]
    unfold B86
    simp only [EX,reduceIte,Nat.reduceEqDiff,Nat.reduceAdd,Int.reduceEq,Int.reduceLT,Int.reduceLE,reduceCtorEq,Nat.reduceLeDiff,Nat.reduceSub,Nat.reduceLT,i_add,w8,w16,w24,w40,w48,w56,shr32,shr16,shr8,k32,k16,k8]
    rw [wrap_u8 (by omega),t256S,ixs_str (by omega) (by rw [Int.toNat_natCast]; exact t256_at hy)]
    simp only [EX,reduceIte,Nat.reduceEqDiff,Nat.reduceAdd,Int.reduceEq,Int.reduceLT,Int.reduceLE,reduceCtorEq,Nat.reduceLeDiff,Nat.reduceSub,Nat.reduceLT,i_add]
    rw [s86t hy,wrap_n64 (by have:=bl_le (((x / 4294967296) / 65536) / 256); omega),show (56 : Int) + ((bl (((x / 4294967296) / 65536) / 256) : Nat) : Int) = ((bl (((x / 4294967296) / 65536) / 256) + 56 : Nat) : Int) by omega,wrap_n64 (by have:=bl_le (((x / 4294967296) / 65536) / 256); omega)]
   ·have k8 : ¬ (256 : Int)≤(((x / 4294967296) / 65536 : Nat) : Int):=by omega
    have hy0 : 0 < (x / 4294967296) / 65536:=by omega
    have hy : (x / 4294967296) / 65536 < 256:=by omega
    refine ⟨bl ((x / 4294967296) / 65536) + 48,by have:=bl_le ((x / 4294967296) / 65536); omega,(show IsL _ _ from bl_ok hy0 hy).up (b:=48) (by rw [show (2:Nat)^48 = 281474976710656 from rfl] <;> omega),fun H M hM R k=>?_⟩
    obtain ⟨m,rfl⟩ : ∃ m,M = m + 60:=⟨M - 60,by omega⟩
    rw [call_eq L86]
    unfold B86
    simp only [EX,reduceIte,Nat.reduceEqDiff,Nat.reduceAdd,Int.reduceEq,Int.reduceLT,Int.reduceLE,reduceCtorEq,Nat.reduceLeDiff,Nat.reduceSub,Nat.reduceLT,i_add,w8,w16,w24,w40,w48,w56,shr32,shr16,shr8,k32,k16,k8]
    rw [wrap_u8 (by omega),t256S,ixs_str (by omega) (by rw [Int.toNat_natCast]; exact t256_at hy)]
    simp only [EX,reduceIte,Nat.reduceEqDiff,Nat.reduceAdd,Int.reduceEq,Int.reduceLT,Int.reduceLE,reduceCtorEq,Nat.reduceLeDiff,Nat.reduceSub,Nat.reduceLT,i_add]
    rw [s86t hy,wrap_n64 (by have:=bl_le ((x / 4294967296) / 65536); omega),show (48 : Int) + ((bl ((x / 4294967296) / 65536) : Nat) : Int) = ((bl ((x / 4294967296) / 65536) + 48 : Nat) : Int) by omega,wrap_n64 (by have:=bl_le ((x / 4294967296) / 65536); omega)]
  ·have k16 : ¬ (65536 : Int)≤((x / 4294967296 : Nat) : Int):=by omega
   by_cases h8 : 256≤x / 4294967296
   ·have k8 : (256 : Int)≤((x / 4294967296 : Nat) : Int):=by omega
    have hy0 : 0 < (x / 4294967296) / 256:=by omega
    have hy : (x / 4294967296) / 256 < 256:=by omega
    refine ⟨bl ((x / 4294967296) / 256) + 40,by have:=bl_le ((x / 4294967296) / 256); omega,(show IsL _ _ from bl_ok hy0 hy).up (b:=40) (by rw [show (2:Nat)^40 = 1099511627776 from rfl] <;> omega),fun H M hM R k=>?_⟩
    obtain ⟨m,rfl⟩ : ∃ m,M = m + 60:=⟨M - 60,by omega⟩
    rw [call_eq L86]
    unfold B86
    simp only [EX,reduceIte,Nat.reduceEqDiff,Nat.reduceAdd,Int.reduceEq,Int.reduceLT,Int.reduceLE,reduceCtorEq,Nat.reduceLeDiff,Nat.reduceSub,Nat.reduceLT,i_add,w8,w16,w24,w40,w48,w56,shr32,shr16,shr8,k32,k16,k8]
    rw [wrap_u8 (by omega),t256S,ixs_str (by omega) (by rw [Int.toNat_natCast]; exact t256_at hy)]
    simp only [EX,reduceIte,Nat.reduceEqDiff,Nat.reduceAdd,Int.reduceEq,Int.reduceLT,Int.reduceLE,reduceCtorEq,Nat.reduceLeDiff,Nat.reduceSub,Nat.reduceLT,i_add]
    rw [s86t hy,wrap_n64 (by have:=bl_le ((x / 4294967296) / 256); omega),show (40 : Int) + ((bl ((x / 4294967296) / 256) : Nat) : Int) = ((bl ((x / 4294967296) / 256) + 40 : Nat) : Int) by omega,wrap_n64 (by have:=bl_le ((x / 4294967296) / 256); omega)]
   ·have k8 : ¬ (256 : Int)≤((x / 4294967296 : Nat) : Int):=by omega
    have hy0 : 0 < x / 4294967296:=by omega
    have hy : x / 4294967296 < 256:=by omega
    refine ⟨bl (x / 4294967296) + 32,by have:=bl_le (x / 4294967296); omega,(show IsL _ _ from bl_ok hy0 hy).up (b:=32) (by rw [show (2:Nat)^32 = 4294967296 from rfl] <;> omega),fun H M hM R k=>?_⟩
    obtain ⟨m,rfl⟩ : ∃ m,M = m + 60:=⟨M - 60,by omega⟩
    rw [call_eq L86]
    unfold B86
    simp only [EX,reduceIte,Nat.reduceEqDiff,Nat.reduceAdd,Int.reduceEq,Int.reduceLT,Int.reduceLE,reduceCtorEq,Nat.reduceLeDiff,Nat.reduceSub,Nat.reduceLT,i_add,w8,w16,w24,w40,w48,w56,shr32,shr16,shr8,k32,k16,k8]
    rw [wrap_u8 (by omega),t256S,ixs_str (by omega) (by rw [Int.toNat_natCast]; exact t256_at hy)]
    simp only [EX,reduceIte,Nat.reduceEqDiff,Nat.reduceAdd,Int.reduceEq,Int.reduceLT,Int.reduceLE,reduceCtorEq,Nat.reduceLeDiff,Nat.reduceSub,Nat.reduceLT,i_add]
    rw [s86t hy,wrap_n64 (by have:=bl_le (x / 4294967296); omega),show (32 : Int) + ((bl (x / 4294967296) : Nat) : Int) = ((bl (x / 4294967296) + 32 : Nat) : Int) by omega,wrap_n64 (by have:=bl_le (x / 4294967296); omega)]
 ·have k32 : ¬ (4294967296 : Int)≤((x : Nat) : Int):=by omega
  by_cases h16 : 65536≤x
  ·have k16 : (65536 : Int)≤((x : Nat) : Int):=by omega
   by_cases h8 : 256≤x / 65536
   ·have k8 : (256 : Int)≤((x / 65536 : Nat) : Int):=by omega
    have hy0 : 0 < (x / 65536) / 256:=by omega
    have hy : (x / 65536) / 256 < 256:=by omega
    refine ⟨bl ((x / 65536) / 256) + 24,by have:=bl_le ((x / 65536) / 256); omega,(show IsL _ _ from bl_ok hy0 hy).up (b:=24) (by rw [show (2:Nat)^24 = 16777216 from rfl] <;> omega),fun H M hM R k=>?_⟩
    obtain ⟨m,rfl⟩ : ∃ m,M = m + 60:=⟨M - 60,by omega⟩
    rw [call_eq L86]
    unfold B86
    simp only [EX,reduceIte,Nat.reduceEqDiff,Nat.reduceAdd,Int.reduceEq,Int.reduceLT,Int.reduceLE,reduceCtorEq,Nat.reduceLeDiff,Nat.reduceSub,Nat.reduceLT,i_add,w8,w16,w24,w40,w48,w56,shr32,shr16,shr8,k32,k16,k8]
    rw [wrap_u8 (by omega),t256S,ixs_str (by omega) (by rw [Int.toNat_natCast]; exact t256_at hy)]
    simp only [EX,reduceIte,Nat.reduceEqDiff,Nat.reduceAdd,Int.reduceEq,Int.reduceLT,Int.reduceLE,reduceCtorEq,Nat.reduceLeDiff,Nat.reduceSub,Nat.reduceLT,i_add]
    rw [s86t hy,wrap_n64 (by have:=bl_le ((x / 65536) / 256); omega),show (24 : Int) + ((bl ((x / 65536) / 256) : Nat) : Int) = ((bl ((x / 65536) / 256) + 24 : Nat) : Int) by omega,wrap_n64 (by have:=bl_le ((x / 65536) / 256); omega)]
   ·have k8 : ¬ (256 : Int)≤((x / 65536 : Nat) : Int):=by omega
    have hy0 : 0 < x / 65536:=by omega
    have hy : x / 65536 < 256:=by omega
    refine ⟨bl (x / 65536) + 16,by have:=bl_le (x / 65536); omega,(show IsL _ _ from bl_ok hy0 hy).up (b:=16) (by rw [show (2:Nat)^16 = 65536 from rfl] <;> omega),fun H M hM R k=>?_⟩
    obtain ⟨m,rfl⟩ : ∃ m,M = m + 60:=⟨M - 60,by omega⟩
    rw [call_eq L86]
    unfold B86
    simp only [EX,reduceIte,Nat.reduceEqDiff,Nat.reduceAdd,Int.reduceEq,Int.reduceLT,Int.reduceLE,reduceCtorEq,Nat.reduceLeDiff,Nat.reduceSub,Nat.reduceLT,i_add,w8,w16,w24,w40,w48,w56,shr32,shr16,shr8,k32,k16,k8]
    rw [wrap_u8 (by omega),t256S,ixs_str (by omega) (by rw [Int.toNat_natCast]; exact t256_at hy)]
    simp only [EX,reduceIte,Nat.reduceEqDiff,Nat.reduceAdd,Int.reduceEq,Int.reduceLT,Int.reduceLE,reduceCtorEq,Nat.reduceLeDiff,Nat.reduceSub,Nat.reduceLT,i_add]
    rw [s86t hy,wrap_n64 (by have:=bl_le (x / 65536); omega),show (16 : Int) + ((bl (x / 65536) : Nat) : Int) = ((bl (x / 65536) + 16 : Nat) : Int) by omega,wrap_n64 (by have:=bl_le (x / 65536); omega)]
  ·have k16 : ¬ (65536 : Int)≤((x : Nat) : Int):=by omega
   by_cases h8 : 256≤x
   ·have k8 : (256 : Int)≤((x : Nat) : Int):=by omega
    have hy0 : 0 < x / 256:=by omega
    have hy : x / 256 < 256:=by omega
    refine ⟨bl (x / 256) + 8,by have:=bl_le (x / 256); omega,(show IsL _ _ from bl_ok hy0 hy).up (b:=8) (by rw [show (2:Nat)^8 = 256 from rfl] <;> omega),fun H M hM R k=>?_⟩
    obtain ⟨m,rfl⟩ : ∃ m,M = m + 60:=⟨M - 60,by omega⟩
    rw [call_eq L86]
    unfold B86
    simp only [EX,reduceIte,Nat.reduceEqDiff,Nat.reduceAdd,Int.reduceEq,Int.reduceLT,Int.reduceLE,reduceCtorEq,Nat.reduceLeDiff,Nat.reduceSub,Nat.reduceLT,i_add,w8,w16,w24,w40,w48,w56,shr32,shr16,shr8,k32,k16,k8]
    rw [wrap_u8 (by omega),t256S,ixs_str (by omega) (by rw [Int.toNat_natCast]; exact t256_at hy)]
    simp only [EX,reduceIte,Nat.reduceEqDiff,Nat.reduceAdd,Int.reduceEq,Int.reduceLT,Int.reduceLE,reduceCtorEq,Nat.reduceLeDiff,Nat.reduceSub,Nat.reduceLT,i_add]
    rw [s86t hy,wrap_n64 (by have:=bl_le (x / 256); omega),show (8 : Int) + ((bl (x / 256) : Nat) : Int) = ((bl (x / 256) + 8 : Nat) : Int) by omega,wrap_n64 (by have:=bl_le (x / 256); omega)]
   ·have k8 : ¬ (256 : Int)≤((x : Nat) : Int):=by omega
    have hy0 : 0 < x:=by omega
    have hy : x < 256:=by omega
    refine ⟨bl (x) + 0,by have:=bl_le (x); omega,(show IsL _ _ from bl_ok hy0 hy).up (b:=0) (by rw [show (2:Nat)^0 = 1 from rfl] <;> omega),fun H M hM R k=>?_⟩
    obtain ⟨m,rfl⟩ : ∃ m,M = m + 60:=⟨M - 60,by omega⟩
    rw [call_eq L86]
    unfold B86
    simp only [EX,reduceIte,Nat.reduceEqDiff,Nat.reduceAdd,Int.reduceEq,Int.reduceLT,Int.reduceLE,reduceCtorEq,Nat.reduceLeDiff,Nat.reduceSub,Nat.reduceLT,i_add,w8,w16,w24,w40,w48,w56,shr32,shr16,shr8,k32,k16,k8]
    rw [wrap_u8 (by omega),t256S,ixs_str (by omega) (by rw [Int.toNat_natCast]; exact t256_at hy)]
    simp only [EX,reduceIte,Nat.reduceEqDiff,Nat.reduceAdd,Int.reduceEq,Int.reduceLT,Int.reduceLE,reduceCtorEq,Nat.reduceLeDiff,Nat.reduceSub,Nat.reduceLT,i_add]
    rw [s86t hy,wrap_n64 (by have:=bl_le (x); omega),show (0 : Int) + ((bl (x) : Nat) : Int) = ((bl (x) + 0 : Nat) : Int) by omega,wrap_n64 (by have:=bl_le (x); omega)]
/-- What the powers of ten are,as they are laid. -/
def Glob (H : Heap) : Prop:=(toPa 1).toN < H.next.toN∧∃ ro fz e c,H.get (toPa 1) = .cells ro fz e 20 c∧∀ j,j < 20→Tr.get .u c (toPa j) = .i .u64 ((10 ^ j : Nat) : Int)
theorem Glob.grow {H H' : Heap} (h : Glob H) (g : Grow H H') : Glob H':=by
 obtain ⟨h1,ro,fz,e,c,h2,h3⟩:=h
 exact ⟨Nat.lt_of_lt_of_le h1 g.next,ro,fz,e,c,by rw [g.get _ h1,h2],h3⟩
theorem Glob.ld {R : Type} {H : Heap} (h : Glob H) {j : Nat} (hj : j < 20) (k : HK R) : ldC false 1 (.p (toPa 1) j) k H = k (.i .u64 ((10 ^ j : Nat) : Int)) H:=by
 obtain ⟨h1,ro,fz,e,c,h2,h3⟩:=h
 rw [ld_one h2 (by omega),h3 j hj]
theorem lg_ok : ∀ L,L≤64→1≤L→lg L < 20∧(lg L = 0 ∨ 10 ^ (lg L - 1)≤2 ^ (L - 1))∧2 ^ L≤10 ^ (lg L + 1):=by decide
/-- A number has just so many digits. -/
def HasD (n x : Nat) : Prop:=1≤n∧n≤20∧(n = 1 ∨ 10 ^ (n - 1)≤x)∧x < 10 ^ n
theorem s81 {x : Nat} (h0 : 0 < x) (hx : x < 18446744073709551616) : ∃ n,HasD n x∧∀ (H : Heap),Glob H→∀ M,100≤M→∀ (R : Type) (k : HK R),callK tbl (runK tbl M) R (toPa 81) [.i .u64 (x : Int)] H k = k (.i .i64 (n : Int)) H:=by
 obtain ⟨L,hL,⟨l1,l2,l3⟩,e86⟩:=s86 h0 hx
 obtain ⟨g1,g2,g3⟩:=lg_ok L hL l1
 refine ⟨lg L + (if 10 ^ lg L≤x then 1 else 0),?_,fun H hG M hM R k=>?_⟩
 ·unfold HasD
  by_cases h : 10 ^ lg L≤x
  ·rw [if_pos h]
   refine ⟨by omega,by omega,Or.inr h,by omega⟩
  ·rw [if_neg h]
   have hz : lg L ≠ 0:=by intro z; rw [z] at h; exact h (by omega)
   refine ⟨by omega,by omega,?_,by rw [Nat.add_zero]; omega⟩
   rw [Nat.add_zero]
   rcases g2 with g2 | g2
   ·exact absurd g2 hz
   ·exact Or.inr (Nat.le_trans g2 l2)
 ·obtain ⟨m,rfl⟩ : ∃ m,M = m + 100:=⟨M - 100,by omega⟩
  rw [call_eq L81]
  unfold B81
  simp only [EX,reduceIte,Nat.reduceEqDiff,Nat.reduceAdd,Int.reduceEq,Int.reduceLT,Int.reduceLE,reduceCtorEq,Nat.reduceLeDiff,Nat.reduceSub,Nat.reduceLT]
  rw [e86 H _ (by omega)]
  simp only [EX,reduceIte,Nat.reduceEqDiff,Nat.reduceAdd,Int.reduceEq,Int.reduceLT,Int.reduceLE,reduceCtorEq,Nat.reduceLeDiff,Nat.reduceSub,Nat.reduceLT]
  rw [s85 hL (by omega)]
  simp only [EX,reduceIte,Nat.reduceEqDiff,Nat.reduceAdd,Int.reduceEq,Int.reduceLT,Int.reduceLE,reduceCtorEq,Nat.reduceLeDiff,Nat.reduceSub,Nat.reduceLT]
  rw [ixp_p (by omega) (by omega),Int.toNat_natCast,Nat.zero_add,Nat.mul_one]
  simp only [EX,reduceIte,Nat.reduceEqDiff,Nat.reduceAdd,Int.reduceEq,Int.reduceLT,Int.reduceLE,reduceCtorEq,Nat.reduceLeDiff,Nat.reduceSub,Nat.reduceLT]
  rw [hG.ld g1]
  simp only [EX,reduceIte,Nat.reduceEqDiff,Nat.reduceAdd,Int.reduceEq,Int.reduceLT,Int.reduceLE,reduceCtorEq,Nat.reduceLeDiff,Nat.reduceSub,Nat.reduceLT]
  rw [s87 (by omega)]
  simp only [EX,reduceIte,Nat.reduceEqDiff,Nat.reduceAdd,Int.reduceEq,Int.reduceLT,Int.reduceLE,reduceCtorEq,Nat.reduceLeDiff,Nat.reduceSub,Nat.reduceLT,i_add]
  by_cases h : 10 ^ lg L≤x
  ·have h' : ((10 ^ lg L : Nat) : Int)≤(x : Int):=by omega
   rw [if_pos h,decide_eq_true h',if_pos rfl,show ((lg L : Nat) : Int) + 1 = ((lg L + 1 : Nat) : Int) by omega,wrap_n64 (by omega)]
  ·have h' : ¬ ((10 ^ lg L : Nat) : Int)≤(x : Int):=by omega
   rw [if_neg h,decide_eq_false h',if_neg (by decide),Int.add_zero,wrap_n64 (by omega)]; rfl
end Go.Proofs.YtmmmjhkgjmbfaaaDoor

/- A number's digits put into bytes (strconv.formatBase10). -/
namespace Go.Proofs.YtmmmjhkgjmbfaaaDoor
open Go Go.Vai
set_option maxRecDepth 100000
set_option maxHeartbeats 1600000
set_option linter.unusedSimpArgs false
def cj (u len j : Nat) : AV:=.i .u8 ((48 + u / 10 ^ (len - 1 - j) % 10 : Nat) : Int)
/-- Digits that are put already: those from a place on. -/
structure Wr (H0 : Heap) (b : Pa) (e n off len u i : Nat) (H : Heap) : Prop where
 g : GrowBut b H0 H
 nx : H.next = H0.next
 r : ∃ R,Row H b e R∧R.length = n∧∀ j,i≤j→j < len→R[off + j]? = some (cj u len j)
theorem Wr.put {H0 H : Heap} {b : Pa} {e n off len u i : Nat} {v : AV} (w : Wr H0 b e n off len u (i + 1) H) (hi : i < len) (hn : off + len≤n) (hb : b.toN < H0.next.toN) (hv : v = cj u len i) :
  ∃ H',Wr H0 b e n off len u i H'∧∀ (R : Type) (k : HK R),stC 1 (.p b (off + i)) v k H = k un H':=by
 obtain ⟨R,hr,hl,hc⟩:=w.r
 obtain ⟨H',r',b',n',est⟩:=hr.st_one (off:=off + i) (v:=v) (by rw [w.nx]; exact hb) (by omega) (by rw [hv]; rfl)
 refine ⟨H',⟨w.g.trans b',by rw [n',w.nx],_,r',by rw [List.length_set]; exact hl,fun j h1 h2=>?_⟩,est⟩
 by_cases e : i = j
 ·subst e
  rw [List.getElem?_set_self (by omega),hv]
 ·rw [List.getElem?_set_ne (by omega),hc j (by omega) h2]
theorem cj_at {u len i k x : Nat} (hi : i≤len) (hk : k < i) (hx : x = u / 10 ^ (len - i) / 10 ^ k % 10) : (.i .u8 ((48 + x : Nat) : Int) : AV) = cj u len (i - 1 - k):=by
 unfold cj
 rw [hx,show len - 1 - (i - 1 - k) = (len - i) + k by omega,Nat.pow_add,Nat.div_div_eq_div_mul]
theorem ix_lo {R : Type} {n : Nat} (h : n < 100) (H : Heap) (k : HK R) : ixsC (.s 200 8369396053099643259884660439900312228746471110943504458504829912206407100469475510520505676855750014530596077689858408204562721349408824591789441711103775826291439126061900675989976254244761425382494394669896706626295868329681710377411642562040512013377776180902291979747008038411282346274188424097310996521951660972735479027990947060043115083917949168200323041593656569302669535377774123378085539195783572932112166539323561441937920580889744256865042652178519653545620815178381625) (.i .u32 ((n * 2 + 1 : Nat) : Int)) k H = k (.i .u8 ((48 + n % 10 : Nat) : Int)) H:=by
 rw [tabS,ixs_str (by omega) (by rw [Int.toNat_natCast]; exact tab_lo h),dg_toN (by omega)]
theorem ix_hi {R : Type} {n : Nat} (h : n < 100) (H : Heap) (k : HK R) : ixsC (.s 200 8369396053099643259884660439900312228746471110943504458504829912206407100469475510520505676855750014530596077689858408204562721349408824591789441711103775826291439126061900675989976254244761425382494394669896706626295868329681710377411642562040512013377776180902291979747008038411282346274188424097310996521951660972735479027990947060043115083917949168200323041593656569302669535377774123378085539195783572932112166539323561441937920580889744256865042652178519653545620815178381625) (.i .u32 ((n * 2 : Nat) : Int)) k H = k (.i .u8 ((48 + n / 10 : Nat) : Int)) H:=by
 rw [tabS,ixs_str (by omega) (by rw [Int.toNat_natCast]; exact tab_hi h),dg_toN (by omega)]
theorem mul_w {n : Nat} (h : n < 10000) : IntKind.u32.wrap ((n : Int) * 2) = ((n * 2 : Nat) : Int):=by rw [show (n : Int) * 2 = ((n * 2 : Nat) : Int) by omega,wrap_u32 (by omega)]
theorem inc_w {n : Nat} (h : n < 100000) : IntKind.u32.wrap ((n : Int) + 1) = ((n + 1 : Nat) : Int):=by rw [show (n : Int) + 1 = ((n + 1 : Nat) : Int) by omega,wrap_u32 (by omega)]
theorem sub_w {i c : Nat} (h : c≤i) (h2 : i < 1000) : IntKind.i64.wrap ((i : Int) - (c : Int)) = ((i - c : Nat) : Int):=by rw [show (i : Int) - (c : Int) = ((i - c : Nat) : Int) by omega,wrap_n64 (by omega)]
theorem sub_k {i c j : Nat} (h : c≤i) (h2 : i < 1000) (e : i - c = j) : IntKind.i64.wrap ((i : Int) - (c : Int)) = (j : Int):=by rw [← e]; exact sub_w h h2
theorem ix_a {R : Type} {b : Pa} {off len j : Nat} {c : Option Nat} (h : j < len) (H : Heap) (k : HK R) : ixaC 1 (.sl b off len c 1) (.i .i64 (j : Int)) k H = k (.p b (off + j)) H:=by
 rw [ixa_sl (by omega) (by omega),Int.toNat_natCast,Nat.mul_one]
structure F82 (b : Pa) (off len : Nat) (c : Option Nat) (uc i : Nat) (fr : Tr AV) : Prop where
 f0 : V fr 0 = .sl b off len c 1
 f1 : V fr 1 = .i .u64 (uc : Int)
 f4 : V fr 4 = .i .i64 (i : Int)
/-- One byte put. -/
def Put (b : Pa) (at_ v : Nat) (H H' : Heap) : Prop:=∀ (R : Type) (k : HK R),stC 1 (.p b at_) (.i .u8 ((48 + v : Nat) : Int)) k H = k un H'
def Puts (b : Pa) (off i us : Nat) (H H8 : Heap) : Prop:=∃ H1 H2 H3 H4 H5 H6 H7,Put b (off + (i - 1 - 0)) (us % 10000 % 100 % 10) H H1∧Put b (off + (i - 1 - 1)) (us % 10000 % 100 / 10) H1 H2∧Put b (off + (i - 1 - 2)) (us % 10000 / 100 % 10) H2 H3∧Put b (off + (i - 1 - 3)) (us % 10000 / 100 / 10) H3 H4∧Put b (off + (i - 1 - 4)) (us / 10000 % 100 % 10) H4 H5∧Put b (off + (i - 1 - 5)) (us / 10000 % 100 / 10) H5 H6∧Put b (off + (i - 1 - 6)) (us / 10000 / 100 % 10) H6 H7∧Put b (off + (i - 1 - 7)) (us / 10000 / 100 / 10) H7 H8
theorem puts82 {H0 H : Heap} {b : Pa} {e n off len u i uc us : Nat} (w : Wr H0 b e n off len u i H) (hi : 8≤i) (hl : i≤len) (hn : off + len≤n) (hb : b.toN < H0.next.toN) (hc : uc = u / 10 ^ (len - i)) (hs : us = uc % 100000000) :
  ∃ H8,Wr H0 b e n off len u (i - 8) H8∧Puts b off i us H H8:=by
 have q0 : i - 1 - 0 + 1 = i:=by omega
 have v0 : Wr H0 b e n off len u (i - 1 - 0 + 1) H:=by rw [q0]; exact w
 have d0 : us % 10000 % 100 % 10 = u / 10 ^ (len - i) / 10 ^ 0 % 10:=by rw [← hc]; simp only [Nat.reducePow]; omega
 obtain ⟨H1,w1,e1⟩:=Wr.put (i:=i - 1 - 0) (v:=.i .u8 ((48 + (us % 10000 % 100 % 10) : Nat) : Int)) v0 (by omega) hn hb (cj_at hl (by omega) d0)
 have q1 : i - 1 - 1 + 1 = i - 1 - 0:=by omega
 have v1 : Wr H0 b e n off len u (i - 1 - 1 + 1) H1:=by rw [q1]; exact w1
 have d1 : us % 10000 % 100 / 10 = u / 10 ^ (len - i) / 10 ^ 1 % 10:=by rw [← hc]; simp only [Nat.reducePow]; omega
 obtain ⟨H2,w2,e2⟩:=Wr.put (i:=i - 1 - 1) (v:=.i .u8 ((48 + (us % 10000 % 100 / 10) : Nat) : Int)) v1 (by omega) hn hb (cj_at hl (by omega) d1)
 have q2 : i - 1 - 2 + 1 = i - 1 - 1:=by omega
 have v2 : Wr H0 b e n off len u (i - 1 - 2 + 1) H2:=by rw [q2]; exact w2
 have d2 : us % 10000 / 100 % 10 = u / 10 ^ (len - i) / 10 ^ 2 % 10:=by rw [← hc]; simp only [Nat.reducePow]; omega
 obtain ⟨H3,w3,e3⟩:=Wr.put (i:=i - 1 - 2) (v:=.i .u8 ((48 + (us % 10000 / 100 % 10) : Nat) : Int)) v2 (by omega) hn hb (cj_at hl (by omega) d2)
 have q3 : i - 1 - 3 + 1 = i - 1 - 2:=by omega
 have v3 : Wr H0 b e n off len u (i - 1 - 3 + 1) H3:=by rw [q3]; exact w3
 have d3 : us % 10000 / 100 / 10 = u / 10 ^ (len - i) / 10 ^ 3 % 10:=by rw [← hc]; simp only [Nat.reducePow]; omega
 obtain ⟨H4,w4,e4⟩:=Wr.put (i:=i - 1 - 3) (v:=.i .u8 ((48 + (us % 10000 / 100 / 10) : Nat) : Int)) v3 (by omega) hn hb (cj_at hl (by omega) d3)
 have q4 : i - 1 - 4 + 1 = i - 1 - 3:=by omega
 have v4 : Wr H0 b e n off len u (i - 1 - 4 + 1) H4:=by rw [q4]; exact w4
 have d4 : us / 10000 % 100 % 10 = u / 10 ^ (len - i) / 10 ^ 4 % 10:=by rw [← hc]; simp only [Nat.reducePow]; omega
 obtain ⟨H5,w5,e5⟩:=Wr.put (i:=i - 1 - 4) (v:=.i .u8 ((48 + (us / 10000 % 100 % 10) : Nat) : Int)) v4 (by omega) hn hb (cj_at hl (by omega) d4)
 have q5 : i - 1 - 5 + 1 = i - 1 - 4:=by omega
 have v5 : Wr H0 b e n off len u (i - 1 - 5 + 1) H5:=by rw [q5]; exact w5
 have d5 : us / 10000 % 100 / 10 = u / 10 ^ (len - i) / 10 ^ 5 % 10:=by rw [← hc]; simp only [Nat.reducePow]; omega
 obtain ⟨H6,w6,e6⟩:=Wr.put (i:=i - 1 - 5) (v:=.i .u8 ((48 + (us / 10000 % 100 / 10) : Nat) : Int)) v5 (by omega) hn hb (cj_at hl (by omega) d5)
 have q6 : i - 1 - 6 + 1 = i - 1 - 5:=by omega
 have v6 : Wr H0 b e n off len u (i - 1 - 6 + 1) H6:=by rw [q6]; exact w6
 have d6 : us / 10000 / 100 % 10 = u / 10 ^ (len - i) / 10 ^ 6 % 10:=by rw [← hc]; simp only [Nat.reducePow]; omega
 obtain ⟨H7,w7,e7⟩:=Wr.put (i:=i - 1 - 6) (v:=.i .u8 ((48 + (us / 10000 / 100 % 10) : Nat) : Int)) v6 (by omega) hn hb (cj_at hl (by omega) d6)
 have q7 : i - 1 - 7 + 1 = i - 1 - 6:=by omega
 have v7 : Wr H0 b e n off len u (i - 1 - 7 + 1) H7:=by rw [q7]; exact w7
 have d7 : us / 10000 / 100 / 10 = u / 10 ^ (len - i) / 10 ^ 7 % 10:=by rw [← hc]; simp only [Nat.reducePow]; omega
 obtain ⟨H8,w8,e8⟩:=Wr.put (i:=i - 1 - 7) (v:=.i .u8 ((48 + (us / 10000 / 100 / 10) : Nat) : Int)) v7 (by omega) hn hb (cj_at hl (by omega) d7)
 exact ⟨H8,by rw [show i - 8 = i - 1 - 7 by omega]; exact w8,H1,H2,H3,H4,H5,H6,H7,e1,e2,e3,e4,e5,e6,e7,e8⟩
theorem run82 {H H8 : Heap} {b : Pa} {off len i uc us : Nat} {c : Option Nat} (hp : Puts b off i us H H8) (hi : 8≤i) (hl : i≤len) (h100 : len≤100) (huc : uc < 18446744073709551616) (hs : us = uc % 100000000) :
  ∀ fr,F82 b off len c uc i fr→∃ fr',F82 b off len c (uc / 100000000) (i - 8) fr'∧∀ M,100≤M→∀ (R : Type) (k : XK R),runK tbl (M + 1) R Lp82 fr H k = runK tbl M R Lp82 fr' H8 k:=by
 obtain ⟨H1,H2,H3,H4,H5,H6,H7,e1,e2,e3,e4,e5,e6,e7,e8⟩:=hp
 unfold Put at e1 e2 e3 e4 e5 e6 e7 e8
 have hus : us < 100000000:=by omega
 have w1' : IntKind.u64.wrap ((uc / 100000000 : Nat) : Int) = ((uc / 100000000 : Nat) : Int):=wrap_u64 (by omega)
 have w5 : IntKind.u32.wrap (us : Int) = (us : Int):=wrap_u32 (by omega)
 have w6 : IntKind.u32.wrap ((us / 10000 : Nat) : Int) = ((us / 10000 : Nat) : Int):=wrap_u32 (by omega)
 have wB : IntKind.u32.wrap ((us % 10000 / 100 : Nat) : Int) = ((us % 10000 / 100 : Nat) : Int):=wrap_u32 (by omega)
 have wD : IntKind.u32.wrap ((us / 10000 / 100 : Nat) : Int) = ((us / 10000 / 100 : Nat) : Int):=wrap_u32 (by omega)
 have mA:=mul_w (n:=us % 10000 % 100) (by omega)
 have iA:=inc_w (n:=(us % 10000 % 100) * 2) (by omega)
 have loA:=fun (R : Type)=>@ix_lo R (us % 10000 % 100) (by omega)
 have hiA:=fun (R : Type)=>@ix_hi R (us % 10000 % 100) (by omega)
 have mB:=mul_w (n:=us % 10000 / 100) (by omega)
 have iB:=inc_w (n:=(us % 10000 / 100) * 2) (by omega)
 have loB:=fun (R : Type)=>@ix_lo R (us % 10000 / 100) (by omega)
 have hiB:=fun (R : Type)=>@ix_hi R (us % 10000 / 100) (by omega)
 have mC:=mul_w (n:=us / 10000 % 100) (by omega)
 have iC:=inc_w (n:=(us / 10000 % 100) * 2) (by omega)
 have loC:=fun (R : Type)=>@ix_lo R (us / 10000 % 100) (by omega)
 have hiC:=fun (R : Type)=>@ix_hi R (us / 10000 % 100) (by omega)
 have mD:=mul_w (n:=us / 10000 / 100) (by omega)
 have iD:=inc_w (n:=(us / 10000 / 100) * 2) (by omega)
 have loD:=fun (R : Type)=>@ix_lo R (us / 10000 / 100) (by omega)
 have hiD:=fun (R : Type)=>@ix_hi R (us / 10000 / 100) (by omega)
 have s1 : IntKind.i64.wrap ((i : Int) - 1) = ((i - 1 - 0 : Nat) : Int):=sub_k (c:=1) (by omega) (by omega) (by omega)
 have x1:=fun (R : Type)=>@ix_a R b off len (i - 1 - 0) c (by omega)
 have s2 : IntKind.i64.wrap ((i : Int) - 2) = ((i - 1 - 1 : Nat) : Int):=sub_k (c:=2) (by omega) (by omega) (by omega)
 have x2:=fun (R : Type)=>@ix_a R b off len (i - 1 - 1) c (by omega)
 have s3 : IntKind.i64.wrap ((i : Int) - 3) = ((i - 1 - 2 : Nat) : Int):=sub_k (c:=3) (by omega) (by omega) (by omega)
 have x3:=fun (R : Type)=>@ix_a R b off len (i - 1 - 2) c (by omega)
 have s4 : IntKind.i64.wrap ((i : Int) - 4) = ((i - 1 - 3 : Nat) : Int):=sub_k (c:=4) (by omega) (by omega) (by omega)
 have x4:=fun (R : Type)=>@ix_a R b off len (i - 1 - 3) c (by omega)
 have s5 : IntKind.i64.wrap ((i : Int) - 5) = ((i - 1 - 4 : Nat) : Int):=sub_k (c:=5) (by omega) (by omega) (by omega)
 have x5:=fun (R : Type)=>@ix_a R b off len (i - 1 - 4) c (by omega)
 have s6 : IntKind.i64.wrap ((i : Int) - 6) = ((i - 1 - 5 : Nat) : Int):=sub_k (c:=6) (by omega) (by omega) (by omega)
 have x6:=fun (R : Type)=>@ix_a R b off len (i - 1 - 5) c (by omega)
 have s7 : IntKind.i64.wrap ((i : Int) - 7) = ((i - 1 - 6 : Nat) : Int):=sub_k (c:=7) (by omega) (by omega) (by omega)
 have x7:=fun (R : Type)=>@ix_a R b off len (i - 1 - 6) c (by omega)
 have s8 : IntKind.i64.wrap ((i : Int) - 8) = ((i - 1 - 7 : Nat) : Int):=sub_k (c:=8) (by omega) (by omega) (by omega)
 have x8:=fun (R : Type)=>@ix_a R b off len (i - 1 - 7) c (by omega)
 have hge : (8 : Int)≤(i : Int):=by omega
 have hus' : ((uc : Int)).tmod 100000000 = (us : Int):=by rw [r100000000,hs]
 have e78 : i - 8 = i - 1 - 7:=by omega
 rw [e78]
 intro fr f
 have h0:=f.f0
 have h1:=f.f1
 have h4:=f.f4
 refine ⟨?fr1,⟨?p0,?p1,?p4⟩,fun M hM R k=>?e⟩
 case e =>
  obtain ⟨m,rfl⟩ : ∃ m,M = m + 100:=⟨M - 100,by omega⟩
  unfold Lp82
  rw [run_loop]
  simp only [EX,reduceIte,Nat.reduceEqDiff,Nat.reduceAdd,Int.reduceEq,Int.reduceLT,Int.reduceLE,reduceCtorEq,Nat.reduceLeDiff,Nat.reduceSub,Nat.reduceLT,h0,h1,h4,hge,i_rem (show (100000000 : Int) ≠ 0 by decide),i_quo (show (100000000 : Int) ≠ 0 by decide),i_rem (show (10000 : Int) ≠ 0 by decide),i_quo (show (10000 : Int) ≠ 0 by decide),i_rem (show (100 : Int) ≠ 0 by decide),i_quo (show (100 : Int) ≠ 0 by decide),i_mul,i_add,i_sub,
   hus',q100000000,q10000,r10000,q100,r100,w1',w5,w6,wB,wD,mA,mB,mC,mD,iA,iB,iC,iD,loA,loB,loC,loD,hiA,hiB,hiC,hiD,s1,s2,s3,s4,s5,s6,s7,s8,x1,x2,x3,x4,x5,x6,x7,x8,e1,e2,e3,e4,e5,e6,e7,e8]
  with_reducible rfl
 case p0=>simp only [V_S,Nat.reduceEqDiff,reduceIte]; exact h0
 case p1=>simp only [V_S,Nat.reduceEqDiff,reduceIte]
 case p4=>simp only [V_S,Nat.reduceEqDiff,reduceIte]
theorem loop82 {H0 : Heap} {b : Pa} {e n off len u : Nat} {c : Option Nat} (hn : off + len≤n) (hb : b.toN < H0.next.toN) (h100 : len≤100) (hu : u < 18446744073709551616) : ∀ (m i : Nat) (H : Heap),i≤8 * m + 7→i≤len→Wr H0 b e n off len u i H →
  ∃ H',Wr H0 b e n off len u (i % 8) H'∧∀ fr,F82 b off len c (u / 10 ^ (len - i)) i fr→∃ fr',F82 b off len c (u / 10 ^ (len - i % 8)) (i % 8) fr' ∧
   ∀ M,200 + m≤M→∀ (R : Type) (k : XK R),runK tbl M R Lp82 fr H k = k (.exit 0) fr' H':=by
 intro m
 induction m with
 | zero =>
  intro i H hi hl w
  rw [Nat.mod_eq_of_lt (show i < 8 by omega)]
  refine ⟨H,w,fun fr f=>?_⟩
  have h0:=f.f0
  have h1:=f.f1
  have h4:=f.f4
  have hge : ¬ (8 : Int)≤(i : Int):=by omega
  refine ⟨?fr1,⟨?p0,?p1,?p4⟩,fun M hM R k=>?e⟩
  case e =>
   obtain ⟨m,rfl⟩ : ∃ m,M = m + 100:=⟨M - 100,by omega⟩
   unfold Lp82
   rw [run_loop]
   simp only [EX,reduceIte,Nat.reduceEqDiff,Nat.reduceAdd,Int.reduceEq,Int.reduceLT,Int.reduceLE,reduceCtorEq,Nat.reduceLeDiff,Nat.reduceSub,Nat.reduceLT,h4,hge]
   exact rfl
  case p0=>simp only [V_S,Nat.reduceEqDiff,reduceIte]; exact h0
  case p1=>simp only [V_S,Nat.reduceEqDiff,reduceIte]; exact h1
  case p4=>simp only [V_S,Nat.reduceEqDiff,reduceIte]; exact h4
 | succ m ih =>
  intro i H hi hl w
  by_cases h8 : 8≤i
  ·obtain ⟨H8,w8,hp⟩:=puts82 w h8 hl hn hb rfl rfl
   obtain ⟨H',w',e'⟩:=ih (i - 8) H8 (by omega) (by omega) w8
   have hm : (i - 8) % 8 = i % 8:=by omega
   rw [hm] at w' e'
   refine ⟨H',w',fun fr f=>?_⟩
   obtain ⟨fr1,f1,e1⟩:=run82 hp h8 hl h100 (Nat.lt_of_le_of_lt (Nat.div_le_self _ _) hu) rfl fr f
   have hpow : u / 10 ^ (len - i) / 100000000 = u / 10 ^ (len - (i - 8)):=by
    rw [show len - (i - 8) = (len - i) + 8 by omega,Nat.pow_add,← Nat.div_div_eq_div_mul]
   rw [hpow] at f1
   obtain ⟨fr2,f2,e2⟩:=e' fr1 f1
   refine ⟨fr2,f2,fun M hM R k=>?_⟩
   obtain ⟨q,rfl⟩ : ∃ q,M = q + 1:=⟨M - 1,by omega⟩
   rw [e1 q (by omega),e2 q (by omega)]
  ·obtain ⟨H',w',e'⟩:=ih i H (by omega) hl w
   refine ⟨H',w',fun fr f=>?_⟩
   obtain ⟨fr2,f2,e2⟩:=e' fr f
   exact ⟨fr2,f2,fun M hM R k=>e2 M (by omega) R k⟩
end Go.Proofs.YtmmmjhkgjmbfaaaDoor

/- A number's text (strconv.FormatInt,num.Text): the same digits. -/
namespace Go.Proofs.YtmmmjhkgjmbfaaaDoor
open Go Go.Vai
set_option maxRecDepth 100000
set_option maxHeartbeats 1600000
set_option linter.unusedSimpArgs false
def Told82 (H H' : Heap) (x : AV) (u : Nat) : Prop:=∀ M,600≤M→∀ (R : Type) (k : HK R),callK tbl (runK tbl M) R (toPa 82) [x,.i .u64 (u : Int)] H k = k (.tu []) H'
theorem s82_0 {H : Heap} {b : Pa} {e n off len u : Nat} {c : Option Nat} {R0 : List AV} (hr : Row H b e R0) (hl : R0.length = n) (hn : off + len≤n) (hb : b.toN < H.next.toN) (h20 : len≤20) (hu : u < 10 ^ len) (hu2 : u < 18446744073709551616) (hI : len % 8 = 0) :
  ∃ H',Wr H b e n off len u 0 H'∧Told82 H H' (.sl b off len c 1) u:=by
 have w0 : Wr H b e n off len u len H:=⟨GrowBut.refl b H,rfl,R0,hr,hl,fun j h1 h2=>by omega⟩
 obtain ⟨H0',wl,el⟩:=loop82 (c:=c) hn hb (by omega) hu2 2 len H (by omega) (Nat.le_refl _) w0
 rw [hI] at wl el
 have hle : 0≤len:=by omega
 obtain ⟨uc,hc⟩ : ∃ uc,uc = u / 10 ^ (len - 0):=⟨_,rfl⟩
 have huc : uc < 1:=by
  rw [hc]
  have h10 : 10 ^ len = 10 ^ (len - 0) * 1:=(Nat.pow_sub_mul_pow 10 hle).symm
  exact Nat.div_lt_of_lt_mul (by rw [← h10]; exact hu)
 rw [← hc] at el
 refine ⟨H0',wl,fun M hM R k=>?_⟩
 have eq' : ∀ fr,F82 b off len c u len fr→∀ M,202≤M→∀ (R : Type) (k : XK R) (res : Option R),(∀ fr',F82 b off len c uc 0 fr'→k (.exit 0) fr' H0' = res)→runK tbl M R Lp82 fr H k = res:=by
  intro fr f M hM R k res hr
  obtain ⟨fr',f',er⟩:=el fr (by rw [Nat.sub_self,Nat.pow_zero,Nat.div_one]; exact f)
  rw [er M hM R k,hr fr' f']
 obtain ⟨z,rfl⟩ : ∃ z,M = z + 600:=⟨M - 600,by omega⟩
 rw [call_eq L82]
 unfold B82
 simp only [EX,reduceIte,Nat.reduceEqDiff,Nat.reduceAdd,Int.reduceEq,Int.reduceLT,Int.reduceLE,reduceCtorEq,Nat.reduceLeDiff,Nat.reduceSub,Nat.reduceLT]
 refine eq' _ ?ff _ ?hm R _ _ fun fr' f'=>?ee
 case ff=>exact ⟨by simp only [V_S,Nat.reduceEqDiff,reduceIte],by simp only [V_S,Nat.reduceEqDiff,reduceIte],by simp only [V_S,Nat.reduceEqDiff,reduceIte]⟩
 case hm=>omega
 case ee =>
  have ww : IntKind.u32.wrap (uc : Int) = (uc : Int):=wrap_u32 (by omega)
  have f0:=f'.f0
  have f1:=f'.f1
  have f4 : V fr' 4 = .i .i64 0:=f'.f4
  simp only [EX,reduceIte,Nat.reduceEqDiff,Nat.reduceAdd,Int.reduceEq,Int.reduceLT,Int.reduceLE,reduceCtorEq,Nat.reduceLeDiff,Nat.reduceSub,Nat.reduceLT,f0,f1,f4,i_rem (show (10000 : Int) ≠ 0 by decide),i_quo (show (10000 : Int) ≠ 0 by decide),i_rem (show (100 : Int) ≠ 0 by decide),i_quo (show (100 : Int) ≠ 0 by decide),i_mul,i_add,i_sub,q10000,r10000,q100,r100,ww]
theorem s82_1 {H : Heap} {b : Pa} {e n off len u : Nat} {c : Option Nat} {R0 : List AV} (hr : Row H b e R0) (hl : R0.length = n) (hn : off + len≤n) (hb : b.toN < H.next.toN) (h20 : len≤20) (hu : u < 10 ^ len) (hu2 : u < 18446744073709551616) (hI : len % 8 = 1) :
  ∃ H',Wr H b e n off len u 0 H'∧Told82 H H' (.sl b off len c 1) u:=by
 have w0 : Wr H b e n off len u len H:=⟨GrowBut.refl b H,rfl,R0,hr,hl,fun j h1 h2=>by omega⟩
 obtain ⟨H0',wl,el⟩:=loop82 (c:=c) hn hb (by omega) hu2 2 len H (by omega) (Nat.le_refl _) w0
 rw [hI] at wl el
 have hle : 1≤len:=by omega
 obtain ⟨uc,hc⟩ : ∃ uc,uc = u / 10 ^ (len - 1):=⟨_,rfl⟩
 have huc : uc < 10:=by
  rw [hc]
  have h10 : 10 ^ len = 10 ^ (len - 1) * 10:=(Nat.pow_sub_mul_pow 10 hle).symm
  exact Nat.div_lt_of_lt_mul (by rw [← h10]; exact hu)
 rw [← hc] at el
 have d0 : uc = u / 10 ^ (len - 1) / 10 ^ 0 % 10:=by rw [← hc]; simp only [Nat.reducePow]; omega
 obtain ⟨H1,w1,e1⟩:=Wr.put (i:=0) (v:=.i .u8 ((48 + (uc) : Nat) : Int)) wl (by omega) hn hb (cj_at (i:=1) (k:=0) hle (by omega) d0)
 refine ⟨H1,w1,fun M hM R k=>?_⟩
 have eq' : ∀ fr,F82 b off len c u len fr→∀ M,202≤M→∀ (R : Type) (k : XK R) (res : Option R),(∀ fr',F82 b off len c uc 1 fr'→k (.exit 0) fr' H0' = res)→runK tbl M R Lp82 fr H k = res:=by
  intro fr f M hM R k res hr
  obtain ⟨fr',f',er⟩:=el fr (by rw [Nat.sub_self,Nat.pow_zero,Nat.div_one]; exact f)
  rw [er M hM R k,hr fr' f']
 obtain ⟨z,rfl⟩ : ∃ z,M = z + 600:=⟨M - 600,by omega⟩
 rw [call_eq L82]
 unfold B82
 simp only [EX,reduceIte,Nat.reduceEqDiff,Nat.reduceAdd,Int.reduceEq,Int.reduceLT,Int.reduceLE,reduceCtorEq,Nat.reduceLeDiff,Nat.reduceSub,Nat.reduceLT]
 refine eq' _ ?ff _ ?hm R _ _ fun fr' f'=>?ee
 case ff=>exact ⟨by simp only [V_S,Nat.reduceEqDiff,reduceIte],by simp only [V_S,Nat.reduceEqDiff,reduceIte],by simp only [V_S,Nat.reduceEqDiff,reduceIte]⟩
 case hm=>omega
 case ee =>
  have wz : IntKind.u32.wrap ((48 : Int) + ((uc : Nat) : Int)) = ((48 + (uc) : Nat) : Int):=by rw [show (48 : Int) + ((uc : Nat) : Int) = ((48 + (uc) : Nat) : Int) by omega,wrap_u32 (by omega)]
  have wy : IntKind.u8.wrap ((48 + (uc) : Nat) : Int) = ((48 + (uc) : Nat) : Int):=wrap_u8 (by omega)
  have ww : IntKind.u32.wrap (uc : Int) = (uc : Int):=wrap_u32 (by omega)
  have f0:=f'.f0
  have f1:=f'.f1
  have f4 : V fr' 4 = .i .i64 1:=f'.f4
  have x0:=fun (R : Type)=>@ix_a R b off len 0 c (by omega)
  have x0' : ∀ (R : Type) (H : Heap) (k : HK R),ixaC 1 (.sl b off len c 1) (.i .i64 0) k H = k (.p b (off + 0)) H:=fun R=>@ix_a R b off len 0 c (by omega)
  simp only [EX,reduceIte,Nat.reduceEqDiff,Nat.reduceAdd,Int.reduceEq,Int.reduceLT,Int.reduceLE,reduceCtorEq,Nat.reduceLeDiff,Nat.reduceSub,Nat.reduceLT,f0,f1,f4,i_rem (show (10000 : Int) ≠ 0 by decide),i_quo (show (10000 : Int) ≠ 0 by decide),i_rem (show (100 : Int) ≠ 0 by decide),i_quo (show (100 : Int) ≠ 0 by decide),i_mul,i_add,i_sub,q10000,r10000,q100,r100,ww,wz,wy,x0,x0',e1]
theorem s82_2 {H : Heap} {b : Pa} {e n off len u : Nat} {c : Option Nat} {R0 : List AV} (hr : Row H b e R0) (hl : R0.length = n) (hn : off + len≤n) (hb : b.toN < H.next.toN) (h20 : len≤20) (hu : u < 10 ^ len) (hu2 : u < 18446744073709551616) (hI : len % 8 = 2) :
  ∃ H',Wr H b e n off len u 0 H'∧Told82 H H' (.sl b off len c 1) u:=by
 have w0 : Wr H b e n off len u len H:=⟨GrowBut.refl b H,rfl,R0,hr,hl,fun j h1 h2=>by omega⟩
 obtain ⟨H0',wl,el⟩:=loop82 (c:=c) hn hb (by omega) hu2 2 len H (by omega) (Nat.le_refl _) w0
 rw [hI] at wl el
 have hle : 2≤len:=by omega
 obtain ⟨uc,hc⟩ : ∃ uc,uc = u / 10 ^ (len - 2):=⟨_,rfl⟩
 have huc : uc < 100:=by
  rw [hc]
  have h10 : 10 ^ len = 10 ^ (len - 2) * 100:=(Nat.pow_sub_mul_pow 10 hle).symm
  exact Nat.div_lt_of_lt_mul (by rw [← h10]; exact hu)
 rw [← hc] at el
 have d0 : uc % 100 % 10 = u / 10 ^ (len - 2) / 10 ^ 0 % 10:=by rw [← hc]; simp only [Nat.reducePow]; omega
 obtain ⟨H1,w1,e1⟩:=Wr.put (i:=1) (v:=.i .u8 ((48 + (uc % 100 % 10) : Nat) : Int)) wl (by omega) hn hb (cj_at (i:=2) (k:=0) hle (by omega) d0)
 have d1 : uc % 100 / 10 = u / 10 ^ (len - 2) / 10 ^ 1 % 10:=by rw [← hc]; simp only [Nat.reducePow]; omega
 obtain ⟨H2,w2,e2⟩:=Wr.put (i:=0) (v:=.i .u8 ((48 + (uc % 100 / 10) : Nat) : Int)) w1 (by omega) hn hb (cj_at (i:=2) (k:=1) hle (by omega) d1)
 refine ⟨H2,w2,fun M hM R k=>?_⟩
 have eq' : ∀ fr,F82 b off len c u len fr→∀ M,202≤M→∀ (R : Type) (k : XK R) (res : Option R),(∀ fr',F82 b off len c uc 2 fr'→k (.exit 0) fr' H0' = res)→runK tbl M R Lp82 fr H k = res:=by
  intro fr f M hM R k res hr
  obtain ⟨fr',f',er⟩:=el fr (by rw [Nat.sub_self,Nat.pow_zero,Nat.div_one]; exact f)
  rw [er M hM R k,hr fr' f']
 obtain ⟨z,rfl⟩ : ∃ z,M = z + 600:=⟨M - 600,by omega⟩
 rw [call_eq L82]
 unfold B82
 simp only [EX,reduceIte,Nat.reduceEqDiff,Nat.reduceAdd,Int.reduceEq,Int.reduceLT,Int.reduceLE,reduceCtorEq,Nat.reduceLeDiff,Nat.reduceSub,Nat.reduceLT]
 refine eq' _ ?ff _ ?hm R _ _ fun fr' f'=>?ee
 case ff=>exact ⟨by simp only [V_S,Nat.reduceEqDiff,reduceIte],by simp only [V_S,Nat.reduceEqDiff,reduceIte],by simp only [V_S,Nat.reduceEqDiff,reduceIte]⟩
 case hm=>omega
 case ee =>
  have mC:=mul_w (n:=uc % 100) (by omega)
  have iC:=inc_w (n:=(uc % 100) * 2) (by omega)
  have loC:=fun (R : Type)=>@ix_lo R (uc % 100) (by omega)
  have hiC:=fun (R : Type)=>@ix_hi R (uc % 100) (by omega)
  have wr : IntKind.u32.wrap ((uc / 100 : Nat) : Int) = ((uc / 100 : Nat) : Int):=wrap_u32 (by omega)
  have ww : IntKind.u32.wrap (uc : Int) = (uc : Int):=wrap_u32 (by omega)
  have f0:=f'.f0
  have f1:=f'.f1
  have f4 : V fr' 4 = .i .i64 2:=f'.f4
  have x0:=fun (R : Type)=>@ix_a R b off len 1 c (by omega)
  have x0' : ∀ (R : Type) (H : Heap) (k : HK R),ixaC 1 (.sl b off len c 1) (.i .i64 1) k H = k (.p b (off + 1)) H:=fun R=>@ix_a R b off len 1 c (by omega)
  have x1:=fun (R : Type)=>@ix_a R b off len 0 c (by omega)
  have x1' : ∀ (R : Type) (H : Heap) (k : HK R),ixaC 1 (.sl b off len c 1) (.i .i64 0) k H = k (.p b (off + 0)) H:=fun R=>@ix_a R b off len 0 c (by omega)
  have z2_1 : IntKind.i64.wrap (2 - 1) = 1:=by decide
  have z2_2 : IntKind.i64.wrap (2 - 2) = 0:=by decide
  simp only [EX,reduceIte,Nat.reduceEqDiff,Nat.reduceAdd,Int.reduceEq,Int.reduceLT,Int.reduceLE,reduceCtorEq,Nat.reduceLeDiff,Nat.reduceSub,Nat.reduceLT,f0,f1,f4,i_rem (show (10000 : Int) ≠ 0 by decide),i_quo (show (10000 : Int) ≠ 0 by decide),i_rem (show (100 : Int) ≠ 0 by decide),i_quo (show (100 : Int) ≠ 0 by decide),i_mul,i_add,i_sub,q10000,r10000,q100,r100,ww,mC,iC,loC,hiC,wr,x0,x0',x1,x1',z2_1,z2_2,e1,e2]
theorem s82_3 {H : Heap} {b : Pa} {e n off len u : Nat} {c : Option Nat} {R0 : List AV} (hr : Row H b e R0) (hl : R0.length = n) (hn : off + len≤n) (hb : b.toN < H.next.toN) (h20 : len≤20) (hu : u < 10 ^ len) (hu2 : u < 18446744073709551616) (hI : len % 8 = 3) :
  ∃ H',Wr H b e n off len u 0 H'∧Told82 H H' (.sl b off len c 1) u:=by
 have w0 : Wr H b e n off len u len H:=⟨GrowBut.refl b H,rfl,R0,hr,hl,fun j h1 h2=>by omega⟩
 obtain ⟨H0',wl,el⟩:=loop82 (c:=c) hn hb (by omega) hu2 2 len H (by omega) (Nat.le_refl _) w0
 rw [hI] at wl el
 have hle : 3≤len:=by omega
 obtain ⟨uc,hc⟩ : ∃ uc,uc = u / 10 ^ (len - 3):=⟨_,rfl⟩
 have huc : uc < 1000:=by
  rw [hc]
  have h10 : 10 ^ len = 10 ^ (len - 3) * 1000:=(Nat.pow_sub_mul_pow 10 hle).symm
  exact Nat.div_lt_of_lt_mul (by rw [← h10]; exact hu)
 rw [← hc] at el
 have d0 : uc % 100 % 10 = u / 10 ^ (len - 3) / 10 ^ 0 % 10:=by rw [← hc]; simp only [Nat.reducePow]; omega
 obtain ⟨H1,w1,e1⟩:=Wr.put (i:=2) (v:=.i .u8 ((48 + (uc % 100 % 10) : Nat) : Int)) wl (by omega) hn hb (cj_at (i:=3) (k:=0) hle (by omega) d0)
 have d1 : uc % 100 / 10 = u / 10 ^ (len - 3) / 10 ^ 1 % 10:=by rw [← hc]; simp only [Nat.reducePow]; omega
 obtain ⟨H2,w2,e2⟩:=Wr.put (i:=1) (v:=.i .u8 ((48 + (uc % 100 / 10) : Nat) : Int)) w1 (by omega) hn hb (cj_at (i:=3) (k:=1) hle (by omega) d1)
 have d2 : uc / 100 = u / 10 ^ (len - 3) / 10 ^ 2 % 10:=by rw [← hc]; simp only [Nat.reducePow]; omega
 obtain ⟨H3,w3,e3⟩:=Wr.put (i:=0) (v:=.i .u8 ((48 + (uc / 100) : Nat) : Int)) w2 (by omega) hn hb (cj_at (i:=3) (k:=2) hle (by omega) d2)
 refine ⟨H3,w3,fun M hM R k=>?_⟩
 have eq' : ∀ fr,F82 b off len c u len fr→∀ M,202≤M→∀ (R : Type) (k : XK R) (res : Option R),(∀ fr',F82 b off len c uc 3 fr'→k (.exit 0) fr' H0' = res)→runK tbl M R Lp82 fr H k = res:=by
  intro fr f M hM R k res hr
  obtain ⟨fr',f',er⟩:=el fr (by rw [Nat.sub_self,Nat.pow_zero,Nat.div_one]; exact f)
  rw [er M hM R k,hr fr' f']
 obtain ⟨z,rfl⟩ : ∃ z,M = z + 600:=⟨M - 600,by omega⟩
 rw [call_eq L82]
 unfold B82
 simp only [EX,reduceIte,Nat.reduceEqDiff,Nat.reduceAdd,Int.reduceEq,Int.reduceLT,Int.reduceLE,reduceCtorEq,Nat.reduceLeDiff,Nat.reduceSub,Nat.reduceLT]
 refine eq' _ ?ff _ ?hm R _ _ fun fr' f'=>?ee
 case ff=>exact ⟨by simp only [V_S,Nat.reduceEqDiff,reduceIte],by simp only [V_S,Nat.reduceEqDiff,reduceIte],by simp only [V_S,Nat.reduceEqDiff,reduceIte]⟩
 case hm=>omega
 case ee =>
  have mC:=mul_w (n:=uc % 100) (by omega)
  have iC:=inc_w (n:=(uc % 100) * 2) (by omega)
  have loC:=fun (R : Type)=>@ix_lo R (uc % 100) (by omega)
  have hiC:=fun (R : Type)=>@ix_hi R (uc % 100) (by omega)
  have wr : IntKind.u32.wrap ((uc / 100 : Nat) : Int) = ((uc / 100 : Nat) : Int):=wrap_u32 (by omega)
  have wz : IntKind.u32.wrap ((48 : Int) + ((uc / 100 : Nat) : Int)) = ((48 + (uc / 100) : Nat) : Int):=by rw [show (48 : Int) + ((uc / 100 : Nat) : Int) = ((48 + (uc / 100) : Nat) : Int) by omega,wrap_u32 (by omega)]
  have wy : IntKind.u8.wrap ((48 + (uc / 100) : Nat) : Int) = ((48 + (uc / 100) : Nat) : Int):=wrap_u8 (by omega)
  have ww : IntKind.u32.wrap (uc : Int) = (uc : Int):=wrap_u32 (by omega)
  have f0:=f'.f0
  have f1:=f'.f1
  have f4 : V fr' 4 = .i .i64 3:=f'.f4
  have x0:=fun (R : Type)=>@ix_a R b off len 2 c (by omega)
  have x0' : ∀ (R : Type) (H : Heap) (k : HK R),ixaC 1 (.sl b off len c 1) (.i .i64 2) k H = k (.p b (off + 2)) H:=fun R=>@ix_a R b off len 2 c (by omega)
  have x1:=fun (R : Type)=>@ix_a R b off len 1 c (by omega)
  have x1' : ∀ (R : Type) (H : Heap) (k : HK R),ixaC 1 (.sl b off len c 1) (.i .i64 1) k H = k (.p b (off + 1)) H:=fun R=>@ix_a R b off len 1 c (by omega)
  have x2:=fun (R : Type)=>@ix_a R b off len 0 c (by omega)
  have x2' : ∀ (R : Type) (H : Heap) (k : HK R),ixaC 1 (.sl b off len c 1) (.i .i64 0) k H = k (.p b (off + 0)) H:=fun R=>@ix_a R b off len 0 c (by omega)
  have z3_1 : IntKind.i64.wrap (3 - 1) = 2:=by decide
  have z3_2 : IntKind.i64.wrap (3 - 2) = 1:=by decide
  simp only [EX,reduceIte,Nat.reduceEqDiff,Nat.reduceAdd,Int.reduceEq,Int.reduceLT,Int.reduceLE,reduceCtorEq,Nat.reduceLeDiff,Nat.reduceSub,Nat.reduceLT,f0,f1,f4,i_rem (show (10000 : Int) ≠ 0 by decide),i_quo (show (10000 : Int) ≠ 0 by decide),i_rem (show (100 : Int) ≠ 0 by decide),i_quo (show (100 : Int) ≠ 0 by decide),i_mul,i_add,i_sub,q10000,r10000,q100,r100,ww,mC,iC,loC,hiC,wr,wz,wy,x0,x0',x1,x1',x2,x2',z3_1,z3_2,e1,e2,e3]
theorem s82_4 {H : Heap} {b : Pa} {e n off len u : Nat} {c : Option Nat} {R0 : List AV} (hr : Row H b e R0) (hl : R0.length = n) (hn : off + len≤n) (hb : b.toN < H.next.toN) (h20 : len≤20) (hu : u < 10 ^ len) (hu2 : u < 18446744073709551616) (hI : len % 8 = 4) :
  ∃ H',Wr H b e n off len u 0 H'∧Told82 H H' (.sl b off len c 1) u:=by
 have w0 : Wr H b e n off len u len H:=⟨GrowBut.refl b H,rfl,R0,hr,hl,fun j h1 h2=>by omega⟩
 obtain ⟨H0',wl,el⟩:=loop82 (c:=c) hn hb (by omega) hu2 2 len H (by omega) (Nat.le_refl _) w0
 rw [hI] at wl el
 have hle : 4≤len:=by omega
 obtain ⟨uc,hc⟩ : ∃ uc,uc = u / 10 ^ (len - 4):=⟨_,rfl⟩
 have huc : uc < 10000:=by
  rw [hc]
  have h10 : 10 ^ len = 10 ^ (len - 4) * 10000:=(Nat.pow_sub_mul_pow 10 hle).symm
  exact Nat.div_lt_of_lt_mul (by rw [← h10]; exact hu)
 rw [← hc] at el
 have d0 : uc % 10000 % 100 % 10 = u / 10 ^ (len - 4) / 10 ^ 0 % 10:=by rw [← hc]; simp only [Nat.reducePow]; omega
 obtain ⟨H1,w1,e1⟩:=Wr.put (i:=3) (v:=.i .u8 ((48 + (uc % 10000 % 100 % 10) : Nat) : Int)) wl (by omega) hn hb (cj_at (i:=4) (k:=0) hle (by omega) d0)
 have d1 : uc % 10000 % 100 / 10 = u / 10 ^ (len - 4) / 10 ^ 1 % 10:=by rw [← hc]; simp only [Nat.reducePow]; omega
 obtain ⟨H2,w2,e2⟩:=Wr.put (i:=2) (v:=.i .u8 ((48 + (uc % 10000 % 100 / 10) : Nat) : Int)) w1 (by omega) hn hb (cj_at (i:=4) (k:=1) hle (by omega) d1)
 have d2 : uc % 10000 / 100 % 10 = u / 10 ^ (len - 4) / 10 ^ 2 % 10:=by rw [← hc]; simp only [Nat.reducePow]; omega
 obtain ⟨H3,w3,e3⟩:=Wr.put (i:=1) (v:=.i .u8 ((48 + (uc % 10000 / 100 % 10) : Nat) : Int)) w2 (by omega) hn hb (cj_at (i:=4) (k:=2) hle (by omega) d2)
 have d3 : uc % 10000 / 100 / 10 = u / 10 ^ (len - 4) / 10 ^ 3 % 10:=by rw [← hc]; simp only [Nat.reducePow]; omega
 obtain ⟨H4,w4,e4⟩:=Wr.put (i:=0) (v:=.i .u8 ((48 + (uc % 10000 / 100 / 10) : Nat) : Int)) w3 (by omega) hn hb (cj_at (i:=4) (k:=3) hle (by omega) d3)
 refine ⟨H4,w4,fun M hM R k=>?_⟩
 have eq' : ∀ fr,F82 b off len c u len fr→∀ M,202≤M→∀ (R : Type) (k : XK R) (res : Option R),(∀ fr',F82 b off len c uc 4 fr'→k (.exit 0) fr' H0' = res)→runK tbl M R Lp82 fr H k = res:=by
  intro fr f M hM R k res hr
  obtain ⟨fr',f',er⟩:=el fr (by rw [Nat.sub_self,Nat.pow_zero,Nat.div_one]; exact f)
  rw [er M hM R k,hr fr' f']
 obtain ⟨z,rfl⟩ : ∃ z,M = z + 600:=⟨M - 600,by omega⟩
 rw [call_eq L82]
 unfold B82
 simp only [EX,reduceIte,Nat.reduceEqDiff,Nat.reduceAdd,Int.reduceEq,Int.reduceLT,Int.reduceLE,reduceCtorEq,Nat.reduceLeDiff,Nat.reduceSub,Nat.reduceLT]
 refine eq' _ ?ff _ ?hm R _ _ fun fr' f'=>?ee
 case ff=>exact ⟨by simp only [V_S,Nat.reduceEqDiff,reduceIte],by simp only [V_S,Nat.reduceEqDiff,reduceIte],by simp only [V_S,Nat.reduceEqDiff,reduceIte]⟩
 case hm=>omega
 case ee =>
  have mA:=mul_w (n:=uc % 10000 % 100) (by omega)
  have iA:=inc_w (n:=(uc % 10000 % 100) * 2) (by omega)
  have loA:=fun (R : Type)=>@ix_lo R (uc % 10000 % 100) (by omega)
  have hiA:=fun (R : Type)=>@ix_hi R (uc % 10000 % 100) (by omega)
  have mB:=mul_w (n:=uc % 10000 / 100) (by omega)
  have iB:=inc_w (n:=(uc % 10000 / 100) * 2) (by omega)
  have loB:=fun (R : Type)=>@ix_lo R (uc % 10000 / 100) (by omega)
  have hiB:=fun (R : Type)=>@ix_hi R (uc % 10000 / 100) (by omega)
  have wB : IntKind.u32.wrap ((uc % 10000 / 100 : Nat) : Int) = ((uc % 10000 / 100 : Nat) : Int):=wrap_u32 (by omega)
  have wq : IntKind.u32.wrap ((uc / 10000 : Nat) : Int) = ((uc / 10000 : Nat) : Int):=wrap_u32 (by omega)
  have ww : IntKind.u32.wrap (uc : Int) = (uc : Int):=wrap_u32 (by omega)
  have f0:=f'.f0
  have f1:=f'.f1
  have f4 : V fr' 4 = .i .i64 4:=f'.f4
  have x0:=fun (R : Type)=>@ix_a R b off len 3 c (by omega)
  have x0' : ∀ (R : Type) (H : Heap) (k : HK R),ixaC 1 (.sl b off len c 1) (.i .i64 3) k H = k (.p b (off + 3)) H:=fun R=>@ix_a R b off len 3 c (by omega)
  have x1:=fun (R : Type)=>@ix_a R b off len 2 c (by omega)
  have x1' : ∀ (R : Type) (H : Heap) (k : HK R),ixaC 1 (.sl b off len c 1) (.i .i64 2) k H = k (.p b (off + 2)) H:=fun R=>@ix_a R b off len 2 c (by omega)
  have x2:=fun (R : Type)=>@ix_a R b off len 1 c (by omega)
  have x2' : ∀ (R : Type) (H : Heap) (k : HK R),ixaC 1 (.sl b off len c 1) (.i .i64 1) k H = k (.p b (off + 1)) H:=fun R=>@ix_a R b off len 1 c (by omega)
  have x3:=fun (R : Type)=>@ix_a R b off len 0 c (by omega)
  have x3' : ∀ (R : Type) (H : Heap) (k : HK R),ixaC 1 (.sl b off len c 1) (.i .i64 0) k H = k (.p b (off + 0)) H:=fun R=>@ix_a R b off len 0 c (by omega)
  have z4_1 : IntKind.i64.wrap (4 - 1) = 3:=by decide
  have z4_2 : IntKind.i64.wrap (4 - 2) = 2:=by decide
  have z4_3 : IntKind.i64.wrap (4 - 3) = 1:=by decide
  have z4_4 : IntKind.i64.wrap (4 - 4) = 0:=by decide
  simp only [EX,reduceIte,Nat.reduceEqDiff,Nat.reduceAdd,Int.reduceEq,Int.reduceLT,Int.reduceLE,reduceCtorEq,Nat.reduceLeDiff,Nat.reduceSub,Nat.reduceLT,f0,f1,f4,i_rem (show (10000 : Int) ≠ 0 by decide),i_quo (show (10000 : Int) ≠ 0 by decide),i_rem (show (100 : Int) ≠ 0 by decide),i_quo (show (100 : Int) ≠ 0 by decide),i_mul,i_add,i_sub,q10000,r10000,q100,r100,ww,mA,iA,loA,hiA,mB,iB,loB,hiB,wB,wq,x0,x0',x1,x1',x2,x2',x3,x3',z4_1,z4_2,z4_3,z4_4,e1,e2,e3,e4]
theorem s82_5 {H : Heap} {b : Pa} {e n off len u : Nat} {c : Option Nat} {R0 : List AV} (hr : Row H b e R0) (hl : R0.length = n) (hn : off + len≤n) (hb : b.toN < H.next.toN) (h20 : len≤20) (hu : u < 10 ^ len) (hu2 : u < 18446744073709551616) (hI : len % 8 = 5) :
  ∃ H',Wr H b e n off len u 0 H'∧Told82 H H' (.sl b off len c 1) u:=by
 have w0 : Wr H b e n off len u len H:=⟨GrowBut.refl b H,rfl,R0,hr,hl,fun j h1 h2=>by omega⟩
 obtain ⟨H0',wl,el⟩:=loop82 (c:=c) hn hb (by omega) hu2 2 len H (by omega) (Nat.le_refl _) w0
 rw [hI] at wl el
 have hle : 5≤len:=by omega
 obtain ⟨uc,hc⟩ : ∃ uc,uc = u / 10 ^ (len - 5):=⟨_,rfl⟩
 have huc : uc < 100000:=by
  rw [hc]
  have h10 : 10 ^ len = 10 ^ (len - 5) * 100000:=(Nat.pow_sub_mul_pow 10 hle).symm
  exact Nat.div_lt_of_lt_mul (by rw [← h10]; exact hu)
 rw [← hc] at el
 have d0 : uc % 10000 % 100 % 10 = u / 10 ^ (len - 5) / 10 ^ 0 % 10:=by rw [← hc]; simp only [Nat.reducePow]; omega
 obtain ⟨H1,w1,e1⟩:=Wr.put (i:=4) (v:=.i .u8 ((48 + (uc % 10000 % 100 % 10) : Nat) : Int)) wl (by omega) hn hb (cj_at (i:=5) (k:=0) hle (by omega) d0)
 have d1 : uc % 10000 % 100 / 10 = u / 10 ^ (len - 5) / 10 ^ 1 % 10:=by rw [← hc]; simp only [Nat.reducePow]; omega
 obtain ⟨H2,w2,e2⟩:=Wr.put (i:=3) (v:=.i .u8 ((48 + (uc % 10000 % 100 / 10) : Nat) : Int)) w1 (by omega) hn hb (cj_at (i:=5) (k:=1) hle (by omega) d1)
 have d2 : uc % 10000 / 100 % 10 = u / 10 ^ (len - 5) / 10 ^ 2 % 10:=by rw [← hc]; simp only [Nat.reducePow]; omega
 obtain ⟨H3,w3,e3⟩:=Wr.put (i:=2) (v:=.i .u8 ((48 + (uc % 10000 / 100 % 10) : Nat) : Int)) w2 (by omega) hn hb (cj_at (i:=5) (k:=2) hle (by omega) d2)
 have d3 : uc % 10000 / 100 / 10 = u / 10 ^ (len - 5) / 10 ^ 3 % 10:=by rw [← hc]; simp only [Nat.reducePow]; omega
 obtain ⟨H4,w4,e4⟩:=Wr.put (i:=1) (v:=.i .u8 ((48 + (uc % 10000 / 100 / 10) : Nat) : Int)) w3 (by omega) hn hb (cj_at (i:=5) (k:=3) hle (by omega) d3)
 have d4 : uc / 10000 = u / 10 ^ (len - 5) / 10 ^ 4 % 10:=by rw [← hc]; simp only [Nat.reducePow]; omega
 obtain ⟨H5,w5,e5⟩:=Wr.put (i:=0) (v:=.i .u8 ((48 + (uc / 10000) : Nat) : Int)) w4 (by omega) hn hb (cj_at (i:=5) (k:=4) hle (by omega) d4)
 refine ⟨H5,w5,fun M hM R k=>?_⟩
 have eq' : ∀ fr,F82 b off len c u len fr→∀ M,202≤M→∀ (R : Type) (k : XK R) (res : Option R),(∀ fr',F82 b off len c uc 5 fr'→k (.exit 0) fr' H0' = res)→runK tbl M R Lp82 fr H k = res:=by
  intro fr f M hM R k res hr
  obtain ⟨fr',f',er⟩:=el fr (by rw [Nat.sub_self,Nat.pow_zero,Nat.div_one]; exact f)
  rw [er M hM R k,hr fr' f']
 obtain ⟨z,rfl⟩ : ∃ z,M = z + 600:=⟨M - 600,by omega⟩
 rw [call_eq L82]
 unfold B82
 simp only [EX,reduceIte,Nat.reduceEqDiff,Nat.reduceAdd,Int.reduceEq,Int.reduceLT,Int.reduceLE,reduceCtorEq,Nat.reduceLeDiff,Nat.reduceSub,Nat.reduceLT]
 refine eq' _ ?ff _ ?hm R _ _ fun fr' f'=>?ee
 case ff=>exact ⟨by simp only [V_S,Nat.reduceEqDiff,reduceIte],by simp only [V_S,Nat.reduceEqDiff,reduceIte],by simp only [V_S,Nat.reduceEqDiff,reduceIte]⟩
 case hm=>omega
 case ee =>
  have mA:=mul_w (n:=uc % 10000 % 100) (by omega)
  have iA:=inc_w (n:=(uc % 10000 % 100) * 2) (by omega)
  have loA:=fun (R : Type)=>@ix_lo R (uc % 10000 % 100) (by omega)
  have hiA:=fun (R : Type)=>@ix_hi R (uc % 10000 % 100) (by omega)
  have mB:=mul_w (n:=uc % 10000 / 100) (by omega)
  have iB:=inc_w (n:=(uc % 10000 / 100) * 2) (by omega)
  have loB:=fun (R : Type)=>@ix_lo R (uc % 10000 / 100) (by omega)
  have hiB:=fun (R : Type)=>@ix_hi R (uc % 10000 / 100) (by omega)
  have wB : IntKind.u32.wrap ((uc % 10000 / 100 : Nat) : Int) = ((uc % 10000 / 100 : Nat) : Int):=wrap_u32 (by omega)
  have wq : IntKind.u32.wrap ((uc / 10000 : Nat) : Int) = ((uc / 10000 : Nat) : Int):=wrap_u32 (by omega)
  have wz : IntKind.u32.wrap ((48 : Int) + ((uc / 10000 : Nat) : Int)) = ((48 + (uc / 10000) : Nat) : Int):=by rw [show (48 : Int) + ((uc / 10000 : Nat) : Int) = ((48 + (uc / 10000) : Nat) : Int) by omega,wrap_u32 (by omega)]
  have wy : IntKind.u8.wrap ((48 + (uc / 10000) : Nat) : Int) = ((48 + (uc / 10000) : Nat) : Int):=wrap_u8 (by omega)
  have ww : IntKind.u32.wrap (uc : Int) = (uc : Int):=wrap_u32 (by omega)
  have f0:=f'.f0
  have f1:=f'.f1
  have f4 : V fr' 4 = .i .i64 5:=f'.f4
  have x0:=fun (R : Type)=>@ix_a R b off len 4 c (by omega)
  have x0' : ∀ (R : Type) (H : Heap) (k : HK R),ixaC 1 (.sl b off len c 1) (.i .i64 4) k H = k (.p b (off + 4)) H:=fun R=>@ix_a R b off len 4 c (by omega)
  have x1:=fun (R : Type)=>@ix_a R b off len 3 c (by omega)
  have x1' : ∀ (R : Type) (H : Heap) (k : HK R),ixaC 1 (.sl b off len c 1) (.i .i64 3) k H = k (.p b (off + 3)) H:=fun R=>@ix_a R b off len 3 c (by omega)
  have x2:=fun (R : Type)=>@ix_a R b off len 2 c (by omega)
  have x2' : ∀ (R : Type) (H : Heap) (k : HK R),ixaC 1 (.sl b off len c 1) (.i .i64 2) k H = k (.p b (off + 2)) H:=fun R=>@ix_a R b off len 2 c (by omega)
  have x3:=fun (R : Type)=>@ix_a R b off len 1 c (by omega)
  have x3' : ∀ (R : Type) (H : Heap) (k : HK R),ixaC 1 (.sl b off len c 1) (.i .i64 1) k H = k (.p b (off + 1)) H:=fun R=>@ix_a R b off len 1 c (by omega)
  have x4:=fun (R : Type)=>@ix_a R b off len 0 c (by omega)
  have x4' : ∀ (R : Type) (H : Heap) (k : HK R),ixaC 1 (.sl b off len c 1) (.i .i64 0) k H = k (.p b (off + 0)) H:=fun R=>@ix_a R b off len 0 c (by omega)
  have z5_1 : IntKind.i64.wrap (5 - 1) = 4:=by decide
  have z5_2 : IntKind.i64.wrap (5 - 2) = 3:=by decide
  have z5_3 : IntKind.i64.wrap (5 - 3) = 2:=by decide
  have z5_4 : IntKind.i64.wrap (5 - 4) = 1:=by decide
  simp only [EX,reduceIte,Nat.reduceEqDiff,Nat.reduceAdd,Int.reduceEq,Int.reduceLT,Int.reduceLE,reduceCtorEq,Nat.reduceLeDiff,Nat.reduceSub,Nat.reduceLT,f0,f1,f4,i_rem (show (10000 : Int) ≠ 0 by decide),i_quo (show (10000 : Int) ≠ 0 by decide),i_rem (show (100 : Int) ≠ 0 by decide),i_quo (show (100 : Int) ≠ 0 by decide),i_mul,i_add,i_sub,q10000,r10000,q100,r100,ww,mA,iA,loA,hiA,mB,iB,loB,hiB,wB,wq,wz,wy,x0,x0',x1,x1',x2,x2',x3,x3',x4,x4',z5_1,z5_2,z5_3,z5_4,e1,e2,e3,e4,e5]
theorem s82_6 {H : Heap} {b : Pa} {e n off len u : Nat} {c : Option Nat} {R0 : List AV} (hr : Row H b e R0) (hl : R0.length = n) (hn : off + len≤n) (hb : b.toN < H.next.toN) (h20 : len≤20) (hu : u < 10 ^ len) (hu2 : u < 18446744073709551616) (hI : len % 8 = 6) :
  ∃ H',Wr H b e n off len u 0 H'∧Told82 H H' (.sl b off len c 1) u:=by
 have w0 : Wr H b e n off len u len H:=⟨GrowBut.refl b H,rfl,R0,hr,hl,fun j h1 h2=>by omega⟩
 obtain ⟨H0',wl,el⟩:=loop82 (c:=c) hn hb (by omega) hu2 2 len H (by omega) (Nat.le_refl _) w0
 rw [hI] at wl el
 have hle : 6≤len:=by omega
 obtain ⟨uc,hc⟩ : ∃ uc,uc = u / 10 ^ (len - 6):=⟨_,rfl⟩
 have huc : uc < 1000000:=by
  rw [hc]
  have h10 : 10 ^ len = 10 ^ (len - 6) * 1000000:=(Nat.pow_sub_mul_pow 10 hle).symm
  exact Nat.div_lt_of_lt_mul (by rw [← h10]; exact hu)
 rw [← hc] at el
 have d0 : uc % 10000 % 100 % 10 = u / 10 ^ (len - 6) / 10 ^ 0 % 10:=by rw [← hc]; simp only [Nat.reducePow]; omega
 obtain ⟨H1,w1,e1⟩:=Wr.put (i:=5) (v:=.i .u8 ((48 + (uc % 10000 % 100 % 10) : Nat) : Int)) wl (by omega) hn hb (cj_at (i:=6) (k:=0) hle (by omega) d0)
 have d1 : uc % 10000 % 100 / 10 = u / 10 ^ (len - 6) / 10 ^ 1 % 10:=by rw [← hc]; simp only [Nat.reducePow]; omega
 obtain ⟨H2,w2,e2⟩:=Wr.put (i:=4) (v:=.i .u8 ((48 + (uc % 10000 % 100 / 10) : Nat) : Int)) w1 (by omega) hn hb (cj_at (i:=6) (k:=1) hle (by omega) d1)
 have d2 : uc % 10000 / 100 % 10 = u / 10 ^ (len - 6) / 10 ^ 2 % 10:=by rw [← hc]; simp only [Nat.reducePow]; omega
 obtain ⟨H3,w3,e3⟩:=Wr.put (i:=3) (v:=.i .u8 ((48 + (uc % 10000 / 100 % 10) : Nat) : Int)) w2 (by omega) hn hb (cj_at (i:=6) (k:=2) hle (by omega) d2)
 have d3 : uc % 10000 / 100 / 10 = u / 10 ^ (len - 6) / 10 ^ 3 % 10:=by rw [← hc]; simp only [Nat.reducePow]; omega
 obtain ⟨H4,w4,e4⟩:=Wr.put (i:=2) (v:=.i .u8 ((48 + (uc % 10000 / 100 / 10) : Nat) : Int)) w3 (by omega) hn hb (cj_at (i:=6) (k:=3) hle (by omega) d3)
 have d4 : uc / 10000 % 100 % 10 = u / 10 ^ (len - 6) / 10 ^ 4 % 10:=by rw [← hc]; simp only [Nat.reducePow]; omega
 obtain ⟨H5,w5,e5⟩:=Wr.put (i:=1) (v:=.i .u8 ((48 + (uc / 10000 % 100 % 10) : Nat) : Int)) w4 (by omega) hn hb (cj_at (i:=6) (k:=4) hle (by omega) d4)
 have d5 : uc / 10000 % 100 / 10 = u / 10 ^ (len - 6) / 10 ^ 5 % 10:=by rw [← hc]; simp only [Nat.reducePow]; omega
 obtain ⟨H6,w6,e6⟩:=Wr.put (i:=0) (v:=.i .u8 ((48 + (uc / 10000 % 100 / 10) : Nat) : Int)) w5 (by omega) hn hb (cj_at (i:=6) (k:=5) hle (by omega) d5)
 refine ⟨H6,w6,fun M hM R k=>?_⟩
 have eq' : ∀ fr,F82 b off len c u len fr→∀ M,202≤M→∀ (R : Type) (k : XK R) (res : Option R),(∀ fr',F82 b off len c uc 6 fr'→k (.exit 0) fr' H0' = res)→runK tbl M R Lp82 fr H k = res:=by
  intro fr f M hM R k res hr
  obtain ⟨fr',f',er⟩:=el fr (by rw [Nat.sub_self,Nat.pow_zero,Nat.div_one]; exact f)
  rw [er M hM R k,hr fr' f']
 obtain ⟨z,rfl⟩ : ∃ z,M = z + 600:=⟨M - 600,by omega⟩
 rw [call_eq L82]
 unfold B82
 simp only [EX,reduceIte,Nat.reduceEqDiff,Nat.reduceAdd,Int.reduceEq,Int.reduceLT,Int.reduceLE,reduceCtorEq,Nat.reduceLeDiff,Nat.reduceSub,Nat.reduceLT]
 refine eq' _ ?ff _ ?hm R _ _ fun fr' f'=>?ee
 case ff=>exact ⟨by simp only [V_S,Nat.reduceEqDiff,reduceIte],by simp only [V_S,Nat.reduceEqDiff,reduceIte],by simp only [V_S,Nat.reduceEqDiff,reduceIte]⟩
 case hm=>omega
 case ee =>
  have mA:=mul_w (n:=uc % 10000 % 100) (by omega)
  have iA:=inc_w (n:=(uc % 10000 % 100) * 2) (by omega)
  have loA:=fun (R : Type)=>@ix_lo R (uc % 10000 % 100) (by omega)
  have hiA:=fun (R : Type)=>@ix_hi R (uc % 10000 % 100) (by omega)
  have mB:=mul_w (n:=uc % 10000 / 100) (by omega)
  have iB:=inc_w (n:=(uc % 10000 / 100) * 2) (by omega)
  have loB:=fun (R : Type)=>@ix_lo R (uc % 10000 / 100) (by omega)
  have hiB:=fun (R : Type)=>@ix_hi R (uc % 10000 / 100) (by omega)
  have wB : IntKind.u32.wrap ((uc % 10000 / 100 : Nat) : Int) = ((uc % 10000 / 100 : Nat) : Int):=wrap_u32 (by omega)
  have wq : IntKind.u32.wrap ((uc / 10000 : Nat) : Int) = ((uc / 10000 : Nat) : Int):=wrap_u32 (by omega)
  have mC:=mul_w (n:=uc / 10000 % 100) (by omega)
  have iC:=inc_w (n:=(uc / 10000 % 100) * 2) (by omega)
  have loC:=fun (R : Type)=>@ix_lo R (uc / 10000 % 100) (by omega)
  have hiC:=fun (R : Type)=>@ix_hi R (uc / 10000 % 100) (by omega)
  have wr : IntKind.u32.wrap ((uc / 10000 / 100 : Nat) : Int) = ((uc / 10000 / 100 : Nat) : Int):=wrap_u32 (by omega)
  have ww : IntKind.u32.wrap (uc : Int) = (uc : Int):=wrap_u32 (by omega)
  have f0:=f'.f0
  have f1:=f'.f1
  have f4 : V fr' 4 = .i .i64 6:=f'.f4
  have x0:=fun (R : Type)=>@ix_a R b off len 5 c (by omega)
  have x0' : ∀ (R : Type) (H : Heap) (k : HK R),ixaC 1 (.sl b off len c 1) (.i .i64 5) k H = k (.p b (off + 5)) H:=fun R=>@ix_a R b off len 5 c (by omega)
  have x1:=fun (R : Type)=>@ix_a R b off len 4 c (by omega)
  have x1' : ∀ (R : Type) (H : Heap) (k : HK R),ixaC 1 (.sl b off len c 1) (.i .i64 4) k H = k (.p b (off + 4)) H:=fun R=>@ix_a R b off len 4 c (by omega)
  have x2:=fun (R : Type)=>@ix_a R b off len 3 c (by omega)
  have x2' : ∀ (R : Type) (H : Heap) (k : HK R),ixaC 1 (.sl b off len c 1) (.i .i64 3) k H = k (.p b (off + 3)) H:=fun R=>@ix_a R b off len 3 c (by omega)
  have x3:=fun (R : Type)=>@ix_a R b off len 2 c (by omega)
  have x3' : ∀ (R : Type) (H : Heap) (k : HK R),ixaC 1 (.sl b off len c 1) (.i .i64 2) k H = k (.p b (off + 2)) H:=fun R=>@ix_a R b off len 2 c (by omega)
  have x4:=fun (R : Type)=>@ix_a R b off len 1 c (by omega)
  have x4' : ∀ (R : Type) (H : Heap) (k : HK R),ixaC 1 (.sl b off len c 1) (.i .i64 1) k H = k (.p b (off + 1)) H:=fun R=>@ix_a R b off len 1 c (by omega)
  have x5:=fun (R : Type)=>@ix_a R b off len 0 c (by omega)
  have x5' : ∀ (R : Type) (H : Heap) (k : HK R),ixaC 1 (.sl b off len c 1) (.i .i64 0) k H = k (.p b (off + 0)) H:=fun R=>@ix_a R b off len 0 c (by omega)
  have z2_1 : IntKind.i64.wrap (2 - 1) = 1:=by decide
  have z2_2 : IntKind.i64.wrap (2 - 2) = 0:=by decide
  have z6_1 : IntKind.i64.wrap (6 - 1) = 5:=by decide
  have z6_2 : IntKind.i64.wrap (6 - 2) = 4:=by decide
  have z6_3 : IntKind.i64.wrap (6 - 3) = 3:=by decide
  have z6_4 : IntKind.i64.wrap (6 - 4) = 2:=by decide
  simp only [EX,reduceIte,Nat.reduceEqDiff,Nat.reduceAdd,Int.reduceEq,Int.reduceLT,Int.reduceLE,reduceCtorEq,Nat.reduceLeDiff,Nat.reduceSub,Nat.reduceLT,f0,f1,f4,i_rem (show (10000 : Int) ≠ 0 by decide),i_quo (show (10000 : Int) ≠ 0 by decide),i_rem (show (100 : Int) ≠ 0 by decide),i_quo (show (100 : Int) ≠ 0 by decide),i_mul,i_add,i_sub,q10000,r10000,q100,r100,ww,mA,iA,loA,hiA,mB,iB,loB,hiB,wB,wq,mC,iC,loC,hiC,wr,x0,x0',x1,x1',x2,x2',x3,x3',x4,x4',x5,x5',z2_1,z2_2,z6_1,z6_2,z6_3,z6_4,e1,e2,e3,e4,e5,e6]
theorem s82_7 {H : Heap} {b : Pa} {e n off len u : Nat} {c : Option Nat} {R0 : List AV} (hr : Row H b e R0) (hl : R0.length = n) (hn : off + len≤n) (hb : b.toN < H.next.toN) (h20 : len≤20) (hu : u < 10 ^ len) (hu2 : u < 18446744073709551616) (hI : len % 8 = 7) :
  ∃ H',Wr H b e n off len u 0 H'∧Told82 H H' (.sl b off len c 1) u:=by
 have w0 : Wr H b e n off len u len H:=⟨GrowBut.refl b H,rfl,R0,hr,hl,fun j h1 h2=>by omega⟩
 obtain ⟨H0',wl,el⟩:=loop82 (c:=c) hn hb (by omega) hu2 2 len H (by omega) (Nat.le_refl _) w0
 rw [hI] at wl el
 have hle : 7≤len:=by omega
 obtain ⟨uc,hc⟩ : ∃ uc,uc = u / 10 ^ (len - 7):=⟨_,rfl⟩
 have huc : uc < 10000000:=by
  rw [hc]
  have h10 : 10 ^ len = 10 ^ (len - 7) * 10000000:=(Nat.pow_sub_mul_pow 10 hle).symm
  exact Nat.div_lt_of_lt_mul (by rw [← h10]; exact hu)
 rw [← hc] at el
 have d0 : uc % 10000 % 100 % 10 = u / 10 ^ (len - 7) / 10 ^ 0 % 10:=by rw [← hc]; simp only [Nat.reducePow]; omega
 obtain ⟨H1,w1,e1⟩:=Wr.put (i:=6) (v:=.i .u8 ((48 + (uc % 10000 % 100 % 10) : Nat) : Int)) wl (by omega) hn hb (cj_at (i:=7) (k:=0) hle (by omega) d0)
 have d1 : uc % 10000 % 100 / 10 = u / 10 ^ (len - 7) / 10 ^ 1 % 10:=by rw [← hc]; simp only [Nat.reducePow]; omega
 obtain ⟨H2,w2,e2⟩:=Wr.put (i:=5) (v:=.i .u8 ((48 + (uc % 10000 % 100 / 10) : Nat) : Int)) w1 (by omega) hn hb (cj_at (i:=7) (k:=1) hle (by omega) d1)
 have d2 : uc % 10000 / 100 % 10 = u / 10 ^ (len - 7) / 10 ^ 2 % 10:=by rw [← hc]; simp only [Nat.reducePow]; omega
 obtain ⟨H3,w3,e3⟩:=Wr.put (i:=4) (v:=.i .u8 ((48 + (uc % 10000 / 100 % 10) : Nat) : Int)) w2 (by omega) hn hb (cj_at (i:=7) (k:=2) hle (by omega) d2)
 have d3 : uc % 10000 / 100 / 10 = u / 10 ^ (len - 7) / 10 ^ 3 % 10:=by rw [← hc]; simp only [Nat.reducePow]; omega
 obtain ⟨H4,w4,e4⟩:=Wr.put (i:=3) (v:=.i .u8 ((48 + (uc % 10000 / 100 / 10) : Nat) : Int)) w3 (by omega) hn hb (cj_at (i:=7) (k:=3) hle (by omega) d3)
 have d4 : uc / 10000 % 100 % 10 = u / 10 ^ (len - 7) / 10 ^ 4 % 10:=by rw [← hc]; simp only [Nat.reducePow]; omega
 obtain ⟨H5,w5,e5⟩:=Wr.put (i:=2) (v:=.i .u8 ((48 + (uc / 10000 % 100 % 10) : Nat) : Int)) w4 (by omega) hn hb (cj_at (i:=7) (k:=4) hle (by omega) d4)
 have d5 : uc / 10000 % 100 / 10 = u / 10 ^ (len - 7) / 10 ^ 5 % 10:=by rw [← hc]; simp only [Nat.reducePow]; omega
 obtain ⟨H6,w6,e6⟩:=Wr.put (i:=1) (v:=.i .u8 ((48 + (uc / 10000 % 100 / 10) : Nat) : Int)) w5 (by omega) hn hb (cj_at (i:=7) (k:=5) hle (by omega) d5)
 have d6 : uc / 10000 / 100 = u / 10 ^ (len - 7) / 10 ^ 6 % 10:=by rw [← hc]; simp only [Nat.reducePow]; omega
 obtain ⟨H7,w7,e7⟩:=Wr.put (i:=0) (v:=.i .u8 ((48 + (uc / 10000 / 100) : Nat) : Int)) w6 (by omega) hn hb (cj_at (i:=7) (k:=6) hle (by omega) d6)
 refine ⟨H7,w7,fun M hM R k=>?_⟩
 have eq' : ∀ fr,F82 b off len c u len fr→∀ M,202≤M→∀ (R : Type) (k : XK R) (res : Option R),(∀ fr',F82 b off len c uc 7 fr'→k (.exit 0) fr' H0' = res)→runK tbl M R Lp82 fr H k = res:=by
  intro fr f M hM R k res hr
  obtain ⟨fr',f',er⟩:=el fr (by rw [Nat.sub_self,Nat.pow_zero,Nat.div_one]; exact f)
  rw [er M hM R k,hr fr' f']
 obtain ⟨z,rfl⟩ : ∃ z,M = z + 600:=⟨M - 600,by omega⟩
 rw [call_eq L82]
 unfold B82
 simp only [EX,reduceIte,Nat.reduceEqDiff,Nat.reduceAdd,Int.reduceEq,Int.reduceLT,Int.reduceLE,reduceCtorEq,Nat.reduceLeDiff,Nat.reduceSub,Nat.reduceLT]
 refine eq' _ ?ff _ ?hm R _ _ fun fr' f'=>?ee
 case ff=>exact ⟨by simp only [V_S,Nat.reduceEqDiff,reduceIte],by simp only [V_S,Nat.reduceEqDiff,reduceIte],by simp only [V_S,Nat.reduceEqDiff,reduceIte]⟩
 case hm=>omega
 case ee =>
  have mA:=mul_w (n:=uc % 10000 % 100) (by omega)
  have iA:=inc_w (n:=(uc % 10000 % 100) * 2) (by omega)
  have loA:=fun (R : Type)=>@ix_lo R (uc % 10000 % 100) (by omega)
  have hiA:=fun (R : Type)=>@ix_hi R (uc % 10000 % 100) (by omega)
  have mB:=mul_w (n:=uc % 10000 / 100) (by omega)
  have iB:=inc_w (n:=(uc % 10000 / 100) * 2) (by omega)
  have loB:=fun (R : Type)=>@ix_lo R (uc % 10000 / 100) (by omega)
  have hiB:=fun (R : Type)=>@ix_hi R (uc % 10000 / 100) (by omega)
  have wB : IntKind.u32.wrap ((uc % 10000 / 100 : Nat) : Int) = ((uc % 10000 / 100 : Nat) : Int):=wrap_u32 (by omega)
  have wq : IntKind.u32.wrap ((uc / 10000 : Nat) : Int) = ((uc / 10000 : Nat) : Int):=wrap_u32 (by omega)
  have mC:=mul_w (n:=uc / 10000 % 100) (by omega)
  have iC:=inc_w (n:=(uc / 10000 % 100) * 2) (by omega)
  have loC:=fun (R : Type)=>@ix_lo R (uc / 10000 % 100) (by omega)
  have hiC:=fun (R : Type)=>@ix_hi R (uc / 10000 % 100) (by omega)
  have wr : IntKind.u32.wrap ((uc / 10000 / 100 : Nat) : Int) = ((uc / 10000 / 100 : Nat) : Int):=wrap_u32 (by omega)
  have wz : IntKind.u32.wrap ((48 : Int) + ((uc / 10000 / 100 : Nat) : Int)) = ((48 + (uc / 10000 / 100) : Nat) : Int):=by rw [show (48 : Int) + ((uc / 10000 / 100 : Nat) : Int) = ((48 + (uc / 10000 / 100) : Nat) : Int) by omega,wrap_u32 (by omega)]
  have wy : IntKind.u8.wrap ((48 + (uc / 10000 / 100) : Nat) : Int) = ((48 + (uc / 10000 / 100) : Nat) : Int):=wrap_u8 (by omega)
  have ww : IntKind.u32.wrap (uc : Int) = (uc : Int):=wrap_u32 (by omega)
  have f0:=f'.f0
  have f1:=f'.f1
  have f4 : V fr' 4 = .i .i64 7:=f'.f4
  have x0:=fun (R : Type)=>@ix_a R b off len 6 c (by omega)
  have x0' : ∀ (R : Type) (H : Heap) (k : HK R),ixaC 1 (.sl b off len c 1) (.i .i64 6) k H = k (.p b (off + 6)) H:=fun R=>@ix_a R b off len 6 c (by omega)
  have x1:=fun (R : Type)=>@ix_a R b off len 5 c (by omega)
  have x1' : ∀ (R : Type) (H : Heap) (k : HK R),ixaC 1 (.sl b off len c 1) (.i .i64 5) k H = k (.p b (off + 5)) H:=fun R=>@ix_a R b off len 5 c (by omega)
  have x2:=fun (R : Type)=>@ix_a R b off len 4 c (by omega)
  have x2' : ∀ (R : Type) (H : Heap) (k : HK R),ixaC 1 (.sl b off len c 1) (.i .i64 4) k H = k (.p b (off + 4)) H:=fun R=>@ix_a R b off len 4 c (by omega)
  have x3:=fun (R : Type)=>@ix_a R b off len 3 c (by omega)
  have x3' : ∀ (R : Type) (H : Heap) (k : HK R),ixaC 1 (.sl b off len c 1) (.i .i64 3) k H = k (.p b (off + 3)) H:=fun R=>@ix_a R b off len 3 c (by omega)
  have x4:=fun (R : Type)=>@ix_a R b off len 2 c (by omega)
  have x4' : ∀ (R : Type) (H : Heap) (k : HK R),ixaC 1 (.sl b off len c 1) (.i .i64 2) k H = k (.p b (off + 2)) H:=fun R=>@ix_a R b off len 2 c (by omega)
  have x5:=fun (R : Type)=>@ix_a R b off len 1 c (by omega)
  have x5' : ∀ (R : Type) (H : Heap) (k : HK R),ixaC 1 (.sl b off len c 1) (.i .i64 1) k H = k (.p b (off + 1)) H:=fun R=>@ix_a R b off len 1 c (by omega)
  have x6:=fun (R : Type)=>@ix_a R b off len 0 c (by omega)
  have x6' : ∀ (R : Type) (H : Heap) (k : HK R),ixaC 1 (.sl b off len c 1) (.i .i64 0) k H = k (.p b (off + 0)) H:=fun R=>@ix_a R b off len 0 c (by omega)
  have z3_1 : IntKind.i64.wrap (3 - 1) = 2:=by decide
  have z3_2 : IntKind.i64.wrap (3 - 2) = 1:=by decide
  have z7_1 : IntKind.i64.wrap (7 - 1) = 6:=by decide
  have z7_2 : IntKind.i64.wrap (7 - 2) = 5:=by decide
  have z7_3 : IntKind.i64.wrap (7 - 3) = 4:=by decide
  have z7_4 : IntKind.i64.wrap (7 - 4) = 3:=by decide
  simp only [EX,reduceIte,Nat.reduceEqDiff,Nat.reduceAdd,Int.reduceEq,Int.reduceLT,Int.reduceLE,reduceCtorEq,Nat.reduceLeDiff,Nat.reduceSub,Nat.reduceLT,f0,f1,f4,i_rem (show (10000 : Int) ≠ 0 by decide),i_quo (show (10000 : Int) ≠ 0 by decide),i_rem (show (100 : Int) ≠ 0 by decide),i_quo (show (100 : Int) ≠ 0 by decide),i_mul,i_add,i_sub,q10000,r10000,q100,r100,ww,mA,iA,loA,hiA,mB,iB,loB,hiB,wB,wq,mC,iC,loC,hiC,wr,wz,wy,x0,x0',x1,x1',x2,x2',x3,x3',x4,x4',x5,x5',x6,x6',z3_1,z3_2,z7_1,z7_2,z7_3,z7_4,e1,e2,e3,e4,e5,e6,e7]
theorem s82 {H : Heap} {b : Pa} {e n off len u : Nat} {c : Option Nat} {R0 : List AV} (hr : Row H b e R0) (hl : R0.length = n) (hn : off + len≤n) (hb : b.toN < H.next.toN) (h20 : len≤20) (hu : u < 10 ^ len) (hu2 : u < 18446744073709551616) :
  ∃ H',Wr H b e n off len u 0 H'∧Told82 H H' (.sl b off len c 1) u:=by
 have h : len % 8 = 0 ∨ len % 8 = 1 ∨ len % 8 = 2 ∨ len % 8 = 3 ∨ len % 8 = 4 ∨ len % 8 = 5 ∨ len % 8 = 6 ∨ len % 8 = 7:=by omega
 rcases h with h | h | h | h | h | h | h | h
 ·exact s82_0 hr hl hn hb h20 hu hu2 h
 ·exact s82_1 hr hl hn hb h20 hu hu2 h
 ·exact s82_2 hr hl hn hb h20 hu hu2 h
 ·exact s82_3 hr hl hn hb h20 hu hu2 h
 ·exact s82_4 hr hl hn hb h20 hu hu2 h
 ·exact s82_5 hr hl hn hb h20 hu hu2 h
 ·exact s82_6 hr hl hn hb h20 hu hu2 h
 ·exact s82_7 hr hl hn hb h20 hu hu2 h
theorem decF_at : ∀ d n,n < 10 ^ (d + 1)→(d = 0 ∨ 10 ^ d≤n)→(decF d n).length = d + 1∧∀ j,j < d + 1→(decF d n)[j]? = some (dg (n / 10 ^ (d - j) % 10))
 | 0,n,h,_=>by
  have e : decF 0 n = [dg n]:=decF_1 (by omega)
  rw [e]
  refine ⟨rfl,fun j hj=>?_⟩
  obtain rfl : j = 0:=by omega
  rw [Nat.sub_zero,Nat.pow_zero,Nat.div_one,Nat.mod_eq_of_lt (by omega)]; rfl
 | d + 1,n,h,h2=>by
  have h2 : 10 ^ (d + 1)≤n:=by rcases h2 with h2 | h2; omega; exact h2
  have e1 : 10 ^ (d + 1) = 10 ^ d * 10:=Nat.pow_succ _ _
  have e2 : 10 ^ (d + 1 + 1) = 10 ^ (d + 1) * 10:=Nat.pow_succ _ _
  have hp : 0 < 10 ^ d:=Nat.pow_pos (by omega)
  have h10 : ¬ n < 10:=by omega
  have e : decF (d + 1) n = decF d (n / 10) ++ [dg (n % 10)]:=by
   show (if n < 10 then [dg n] else decF d (n / 10) ++ [dg (n % 10)]) = _
   rw [if_neg h10]
  obtain ⟨k1,k2⟩:=decF_at d (n / 10) (by omega) (Or.inr (by omega))
  rw [e]
  refine ⟨by rw [List.length_append,k1]; rfl,fun j hj=>?_⟩
  by_cases q : j < d + 1
  ·rw [List.getElem?_append_left (by omega),k2 j q,Nat.div_div_eq_div_mul,show d + 1 - j = (d - j) + 1 by omega,Nat.pow_succ,Nat.mul_comm]
  ·obtain rfl : j = d + 1:=by omega
   rw [List.getElem?_append_right (by omega),k1,Nat.sub_self,Nat.pow_zero,Nat.div_one]; rfl
theorem dec_at {d n : Nat} (h : HasD d n) : (dec n).length = d∧∀ j,j < d→(dec n)[j]? = some (dg (n / 10 ^ (d - 1 - j) % 10)):=by
 obtain ⟨h1,h2,h3,h4⟩:=h
 obtain ⟨d,rfl⟩ : ∃ m,d = m + 1:=⟨d - 1,by omega⟩
 have e : dec n = decF d n:=decF_up h4 (by omega)
 rw [e]
 exact decF_at d n h4 (by rcases h3 with h3 | h3; exact Or.inl (by omega); exact Or.inr h3)
theorem cells_dec {d n : Nat} (h : HasD d n) {R : List AV} {off : Nat} (hc : ∀ j,0≤j→j < d→R[off + j]? = some (cj n d j)) (hR : off + d≤R.length) : (R.drop off).take d = bcs (dec n):=by
 obtain ⟨k1,k2⟩:=dec_at h
 apply List.ext_getElem?
 intro j
 by_cases hj : j < d
 ·rw [List.getElem?_take_of_lt hj,List.getElem?_drop,hc j (Nat.zero_le _) hj]
  unfold bcs
  rw [List.getElem?_map,k2 j hj]
  show some (cj n d j) = some (.i .u8 ((dg (n / 10 ^ (d - 1 - j) % 10)).toNat : Int))
  unfold cj
  rw [dg_toN (Nat.mod_lt _ (by omega))]
 ·rw [List.getElem?_eq_none (by rw [List.length_take,List.length_drop]; omega),List.getElem?_eq_none (by rw [bcs_len,k1]; omega)]
/-- strconv's text of a number. -/
theorem s75 {n : Nat} (hn : n < 9223372036854775808) {H : Heap} (hG : Glob H) : Tells 75 900 [.i .i64 (n : Int),.i .i64 10] H (str (dec n)):=by
 have h0 : (0 : Int)≤(n : Int):=by omega
 by_cases h : n < 100
 ·refine ⟨H,Grow.refl H,fun M hM R k=>?_⟩
  obtain ⟨m,rfl⟩ : ∃ m,M = m + 900:=⟨M - 900,by omega⟩
  have h' : (n : Int) < 100:=by omega
  rw [call_eq L75]
  unfold B75
  simp only [EX,reduceIte,Nat.reduceEqDiff,Nat.reduceAdd,Int.reduceEq,Int.reduceLT,Int.reduceLE,reduceCtorEq,Nat.reduceLeDiff,Nat.reduceSub,Nat.reduceLT,h0,h']
  rw [s80 h (by omega)]
  simp only [EX,reduceIte,Nat.reduceEqDiff,Nat.reduceAdd,Int.reduceEq,Int.reduceLT,Int.reduceLE,reduceCtorEq,Nat.reduceLeDiff,Nat.reduceSub,Nat.reduceLT]
 ·have h' : ¬ (n : Int) < 100:=by omega
  have hneg : ¬ (n : Int) < 0:=by omega
  let z24 : List AV:=List.replicate 24 (.i .u8 0)
  obtain ⟨H1,e1⟩ : ∃ H1,H1 = H.alloc (.cells false 0 138 24 (setCells (List.replicate 24 (.i .u8 0)) 0 .leaf)):=⟨_,rfl⟩
  have g1 : Grow H H1:=by rw [e1]; exact Grow.alloc H _
  have n1 : H1.next.toN = H.next.toN + 1:=by rw [e1]; exact next_alloc H _
  have r1 : Row H1 H.next 138 (List.replicate 24 (.i .u8 0)):=by rw [e1]; exact Row.new H 138 (List.replicate 24 (.i .u8 0))
  obtain ⟨d,hd,e81⟩:=s81 (x:=n) (by omega) (by omega)
  have hd':=hd
  obtain ⟨d1,d2,d3,d4⟩:=hd'
  obtain ⟨H2,w,e82⟩:=s82 (c:=some 23) (off:=1) (len:=d) (u:=n) r1 (n:=24) (by rw [List.length_replicate]) (by omega) (by omega) d2 d4 (by omega)
  obtain ⟨R2,r2,l2,c2⟩:=w.r
  refine ⟨H2,w.g.of g1 (Nat.le_refl _),fun M hM R k=>?_⟩
  obtain ⟨m,rfl⟩ : ∃ m,M = m + 900:=⟨M - 900,by omega⟩
  rw [call_eq L75]
  unfold B75
  simp only [EX,reduceIte,Nat.reduceEqDiff,Nat.reduceAdd,Int.reduceEq,Int.reduceLT,Int.reduceLE,reduceCtorEq,Nat.reduceLeDiff,Nat.reduceSub,Nat.reduceLT,h0,h',hneg]
  rw [show H.alloc (.cells false 0 138 24 (setCells [.i .u8 0,.i .u8 0,.i .u8 0,.i .u8 0,.i .u8 0,.i .u8 0,.i .u8 0,.i .u8 0,.i .u8 0,.i .u8 0,.i .u8 0,.i .u8 0,.i .u8 0,.i .u8 0,.i .u8 0,.i .u8 0,.i .u8 0,.i .u8 0,.i .u8 0,.i .u8 0,.i .u8 0,.i .u8 0,.i .u8 0,.i .u8 0] 0 .leaf)) = H1 from e1.symm]
  rw [wrap_u64 (by omega),e81 _ (hG.grow g1) _ (by omega)]
  simp only [EX,reduceIte,Nat.reduceEqDiff,Nat.reduceAdd,Int.reduceEq,Int.reduceLT,Int.reduceLE,reduceCtorEq,Nat.reduceLeDiff,Nat.reduceSub,Nat.reduceLT,i_add]
  rw [show (1 : Int) + (d : Int) = ((1 + d : Nat) : Int) by omega,wrap_n64 (by omega),sla_row r1 (by rw [List.length_replicate]; exact Nat.le_refl _) (by omega) (by omega) (by omega),Int.toNat_natCast,show 1 + d - (1 : Int).toNat = d by show 1 + d - 1 = d; omega]
  simp only [EX,reduceIte,Nat.reduceEqDiff,Nat.reduceAdd,Int.reduceEq,Int.reduceLT,Int.reduceLE,reduceCtorEq,Nat.reduceLeDiff,Nat.reduceSub,Nat.reduceLT]
  refine (e82 _ (by omega) _ _).trans ?_
  simp only [EX,reduceIte,Nat.reduceEqDiff,Nat.reduceAdd,Int.reduceEq,Int.reduceLT,Int.reduceLE,reduceCtorEq,Nat.reduceLeDiff,Nat.reduceSub,Nat.reduceLT,i_add,hneg]
  rw [show (1 : Int) + (d : Int) = ((1 + d : Nat) : Int) by omega,wrap_n64 (by omega),sla_row r2 (by omega) (by omega) (by omega) (by omega),Int.toNat_natCast,show 1 + d - (1 : Int).toNat = d by show 1 + d - 1 = d; omega]
  simp only [EX,reduceIte,Nat.reduceEqDiff,Nat.reduceAdd,Int.reduceEq,Int.reduceLT,Int.reduceLE,reduceCtorEq,Nat.reduceLeDiff,Nat.reduceSub,Nat.reduceLT]
  rw [show Int.toNat 1 = 1 from rfl,b2s_part r2 (s:=dec n) (dec_at hd).1.symm (by show 1 + d≤_; omega) (cells_dec hd c2 (by omega))]
  simp only [EX,reduceIte,Nat.reduceEqDiff,Nat.reduceAdd,Int.reduceEq,Int.reduceLT,Int.reduceLE,reduceCtorEq,Nat.reduceLeDiff,Nat.reduceSub,Nat.reduceLT]
end Go.Proofs.YtmmmjhkgjmbfaaaDoor
