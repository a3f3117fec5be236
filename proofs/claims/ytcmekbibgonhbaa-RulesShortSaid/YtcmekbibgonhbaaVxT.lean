/- Facts on the program's types; the encodings of its structs. No conditions. -/
import Derived.Test.YtcmekbibgonhbaaVxB
import Derived.Test.YtcmekbibgonhbaaProg
namespace Go.V
open Go Go.Proofs
theorem aZero_29 : aZero Try.prog 29 = some [.row .full []] := by kernel_rfl
theorem aZero_3 : aZero Try.prog 3 = some [.lit (.int .i64 0)] := by kernel_rfl
theorem aZero_31 : aZero Try.prog 31 = some [.lit (.int .i64 0), .row .full [], .row .full [], .row .full [], .row .full [], .row .full [], .row .full [], .row .full [], .row .full []] := by kernel_rfl
theorem aZero_32 : aZero Try.prog 32 = some [.row .full []] := by kernel_rfl
theorem aZero_4 : aZero Try.prog 4 = some [.lit (.bool false)] := by kernel_rfl
theorem aZero_44 : aZero Try.prog 44 = some [.lit (.int .i64 0), .lit (.bool false), .row .full []] := by kernel_rfl
theorem aZero_48 : aZero Try.prog 48 = some [.row .full [], .row .full [], .row .full [], .row .full [], .row .full [], .lit (.int .i64 0)] := by kernel_rfl
theorem aZero_51 : aZero Try.prog 51 = some [.lit (.int .i64 0), .lit (.int .i64 0), .lit (.int .i64 0), .lit (.int .i64 0), .lit (.int .i64 0), .lit (.int .i64 0)] := by kernel_rfl
theorem aZero_55 : aZero Try.prog 55 = some [.lit (.int .i64 0), .lit (.int .i64 0)] := by kernel_rfl
theorem aZero_58 : aZero Try.prog 58 = some [.lit (.int .i64 0), .row .full [], .row .full [], .row .full [], .row .full [], .row .full [], .row .full [], .row .full [], .row .full [], .lit (.int .i64 0), .lit (.bool false), .row .full [], .row .full []] := by kernel_rfl
theorem aZero_80 : aZero Try.prog 80 = some [.lit (.string ⟨#[]⟩), .lit (.int .i64 0), .lit (.bool false), .row .full [], .row .full [], .row .full [], .row .full [], .row .full [], .row .full []] := by kernel_rfl
theorem tAgg_22 : tAgg Try.prog 22 = some false := by kernel_rfl
theorem tAgg_24 : tAgg Try.prog 24 = some false := by kernel_rfl
theorem tAgg_29 : tAgg Try.prog 29 = some false := by kernel_rfl
theorem tAgg_3 : tAgg Try.prog 3 = some false := by kernel_rfl
theorem tAgg_31 : tAgg Try.prog 31 = some true := by kernel_rfl
theorem tAgg_32 : tAgg Try.prog 32 = some false := by kernel_rfl
theorem tAgg_4 : tAgg Try.prog 4 = some false := by kernel_rfl
theorem tAgg_42 : tAgg Try.prog 42 = some false := by kernel_rfl
theorem tAgg_44 : tAgg Try.prog 44 = some true := by kernel_rfl
theorem tAgg_45 : tAgg Try.prog 45 = some false := by kernel_rfl
theorem tAgg_46 : tAgg Try.prog 46 = some false := by kernel_rfl
theorem tAgg_48 : tAgg Try.prog 48 = some true := by kernel_rfl
theorem tAgg_51 : tAgg Try.prog 51 = some true := by kernel_rfl
theorem tAgg_55 : tAgg Try.prog 55 = some true := by kernel_rfl
theorem tAgg_58 : tAgg Try.prog 58 = some true := by kernel_rfl
theorem tAgg_86 : tAgg Try.prog 86 = some false := by kernel_rfl
theorem tAgg_9 : tAgg Try.prog 9 = some false := by kernel_rfl
theorem tArr_105 : tArr Try.prog 105 = none := by kernel_rfl
theorem tArr_22 : tArr Try.prog 22 = none := by kernel_rfl
theorem tArr_24 : tArr Try.prog 24 = none := by kernel_rfl
theorem tArr_29 : tArr Try.prog 29 = none := by kernel_rfl
theorem tArr_32 : tArr Try.prog 32 = none := by kernel_rfl
theorem tArr_42 : tArr Try.prog 42 = none := by kernel_rfl
theorem tArr_45 : tArr Try.prog 45 = none := by kernel_rfl
theorem tArr_46 : tArr Try.prog 46 = none := by kernel_rfl
theorem tBytes_29 : tBytes Try.prog 29 = some 24 := by kernel_rfl
theorem tBytes_3 : tBytes Try.prog 3 = some 8 := by kernel_rfl
theorem tBytes_32 : tBytes Try.prog 32 = some 24 := by kernel_rfl
theorem tBytes_44 : tBytes Try.prog 44 = some 40 := by kernel_rfl
theorem tBytes_48 : tBytes Try.prog 48 = some 128 := by kernel_rfl
theorem tBytes_51 : tBytes Try.prog 51 = some 48 := by kernel_rfl
theorem tBytes_55 : tBytes Try.prog 55 = some 16 := by kernel_rfl
theorem tBytes_80 : tBytes Try.prog 80 = some 176 := by kernel_rfl
theorem tElem_105 : tElem Try.prog 105 = some 32 := by kernel_rfl
theorem tElem_22 : tElem Try.prog 22 = some 80 := by kernel_rfl
theorem tElem_24 : tElem Try.prog 24 = some 44 := by kernel_rfl
theorem tElem_29 : tElem Try.prog 29 = some 3 := by kernel_rfl
theorem tElem_32 : tElem Try.prog 32 = some 51 := by kernel_rfl
theorem tElem_42 : tElem Try.prog 42 = some 48 := by kernel_rfl
theorem tElem_45 : tElem Try.prog 45 = some 29 := by kernel_rfl
theorem tElem_46 : tElem Try.prog 46 = some 55 := by kernel_rfl
theorem tField_31_1 : tField Try.prog 31 1 = some (1, 22) := by kernel_rfl
theorem tField_31_3 : tField Try.prog 31 3 = some (3, 24) := by kernel_rfl
theorem tField_34_0 : tField Try.prog 34 0 = some (0, 31) := by kernel_rfl
theorem tField_34_1 : tField Try.prog 34 1 = some (9, 3) := by kernel_rfl
theorem tField_34_2 : tField Try.prog 34 2 = some (10, 32) := by kernel_rfl
theorem tField_34_3 : tField Try.prog 34 3 = some (11, 3) := by kernel_rfl
theorem tField_34_4 : tField Try.prog 34 4 = some (12, 29) := by kernel_rfl
theorem tField_44_0 : tField Try.prog 44 0 = some (0, 3) := by kernel_rfl
theorem tField_44_1 : tField Try.prog 44 1 = some (1, 4) := by kernel_rfl
theorem tField_44_2 : tField Try.prog 44 2 = some (2, 42) := by kernel_rfl
theorem tField_48_0 : tField Try.prog 48 0 = some (0, 45) := by kernel_rfl
theorem tField_48_1 : tField Try.prog 48 1 = some (1, 45) := by kernel_rfl
theorem tField_48_2 : tField Try.prog 48 2 = some (2, 45) := by kernel_rfl
theorem tField_48_3 : tField Try.prog 48 3 = some (3, 29) := by kernel_rfl
theorem tField_48_4 : tField Try.prog 48 4 = some (4, 46) := by kernel_rfl
theorem tField_48_5 : tField Try.prog 48 5 = some (5, 3) := by kernel_rfl
theorem tField_51_0 : tField Try.prog 51 0 = some (0, 3) := by kernel_rfl
theorem tField_51_1 : tField Try.prog 51 1 = some (1, 3) := by kernel_rfl
theorem tField_51_2 : tField Try.prog 51 2 = some (2, 3) := by kernel_rfl
theorem tField_51_3 : tField Try.prog 51 3 = some (3, 3) := by kernel_rfl
theorem tField_55_0 : tField Try.prog 55 0 = some (0, 3) := by kernel_rfl
theorem tField_55_1 : tField Try.prog 55 1 = some (1, 3) := by kernel_rfl
theorem tField_58_0 : tField Try.prog 58 0 = some (0, 31) := by kernel_rfl
theorem tField_58_1 : tField Try.prog 58 1 = some (9, 44) := by kernel_rfl
theorem tField_58_2 : tField Try.prog 58 2 = some (12, 32) := by kernel_rfl
theorem tField_80_2 : tField Try.prog 80 2 = some (2, 4) := by kernel_rfl
theorem tPlaces_31 : tPlaces Try.prog 31 = some [(0, 1), (1, 1), (2, 1), (3, 1), (4, 1), (5, 1), (6, 1), (7, 1), (8, 1)] := by kernel_rfl
theorem tPlaces_44 : tPlaces Try.prog 44 = some [(0, 1), (1, 1), (2, 1)] := by kernel_rfl
theorem tPlaces_48 : tPlaces Try.prog 48 = some [(0, 1), (1, 1), (2, 1), (3, 1), (4, 1), (5, 1)] := by kernel_rfl
theorem tPlaces_51 : tPlaces Try.prog 51 = some [(0, 1), (1, 1), (2, 1), (3, 1), (4, 1), (5, 1)] := by kernel_rfl
theorem tPlaces_55 : tPlaces Try.prog 55 = some [(0, 1), (1, 1)] := by kernel_rfl
theorem tPlaces_58 : tPlaces Try.prog 58 = some [(0, 9), (9, 3), (12, 1)] := by kernel_rfl
theorem tPlaces_80 : tPlaces Try.prog 80 = some [(0, 1), (1, 1), (2, 1), (3, 2), (5, 1), (6, 1), (7, 1), (8, 1)] := by kernel_rfl
theorem tSize_22 : tSize Try.prog 22 = some 1 := by kernel_rfl
theorem tSize_24 : tSize Try.prog 24 = some 1 := by kernel_rfl
theorem tSize_29 : tSize Try.prog 29 = some 1 := by kernel_rfl
theorem tSize_3 : tSize Try.prog 3 = some 1 := by kernel_rfl
theorem tSize_31 : tSize Try.prog 31 = some 9 := by kernel_rfl
theorem tSize_32 : tSize Try.prog 32 = some 1 := by kernel_rfl
theorem tSize_4 : tSize Try.prog 4 = some 1 := by kernel_rfl
theorem tSize_42 : tSize Try.prog 42 = some 1 := by kernel_rfl
theorem tSize_44 : tSize Try.prog 44 = some 3 := by kernel_rfl
theorem tSize_45 : tSize Try.prog 45 = some 1 := by kernel_rfl
theorem tSize_46 : tSize Try.prog 46 = some 1 := by kernel_rfl
theorem tSize_48 : tSize Try.prog 48 = some 6 := by kernel_rfl
theorem tSize_51 : tSize Try.prog 51 = some 6 := by kernel_rfl
theorem tSize_55 : tSize Try.prog 55 = some 2 := by kernel_rfl
theorem tSize_58 : tSize Try.prog 58 = some 13 := by kernel_rfl
theorem tSize_80 : tSize Try.prog 80 = some 9 := by kernel_rfl
theorem tSize_86 : tSize Try.prog 86 = some 1 := by kernel_rfl
theorem tZ_29 : (tZero Try.prog 29).map ofVal = some (.row .full []) := by kernel_rfl
theorem tZ_3 : (tZero Try.prog 3).map ofVal = some (.lit (.int .i64 0)) := by kernel_rfl
theorem tZ_31 : (tZero Try.prog 31).map ofVal = some (.agg [.lit (.int .i64 0), .row .full [], .row .full [], .row .full [], .row .full [], .row .full [], .row .full [], .row .full [], .row .full []]) := by kernel_rfl
theorem tZ_32 : (tZero Try.prog 32).map ofVal = some (.row .full []) := by kernel_rfl
theorem tZ_4 : (tZero Try.prog 4).map ofVal = some (.lit (.bool false)) := by kernel_rfl
theorem tZ_44 : (tZero Try.prog 44).map ofVal = some (.agg [.lit (.int .i64 0), .lit (.bool false), .row .full []]) := by kernel_rfl
theorem tZ_48 : (tZero Try.prog 48).map ofVal = some (.agg [.row .full [], .row .full [], .row .full [], .row .full [], .row .full [], .lit (.int .i64 0)]) := by kernel_rfl
theorem tZ_51 : (tZero Try.prog 51).map ofVal = some (.agg [.lit (.int .i64 0), .lit (.int .i64 0), .lit (.int .i64 0), .lit (.int .i64 0), .lit (.int .i64 0), .lit (.int .i64 0)]) := by kernel_rfl
theorem tZ_55 : (tZero Try.prog 55).map ofVal = some (.agg [.lit (.int .i64 0), .lit (.int .i64 0)]) := by kernel_rfl
theorem tZ_58 : (tZero Try.prog 58).map ofVal = some (.agg [.lit (.int .i64 0), .row .full [], .row .full [], .row .full [], .row .full [], .row .full [], .row .full [], .row .full [], .row .full [], .lit (.int .i64 0), .lit (.bool false), .row .full [], .row .full []]) := by kernel_rfl
theorem tZ_80 : (tZero Try.prog 80).map ofVal = some (.agg [.lit (.string ⟨#[]⟩), .lit (.int .i64 0), .lit (.bool false), .row .full [], .row .full [], .row .full [], .row .full [], .row .full [], .row .full []]) := by kernel_rfl
structure Call where
  at_ : Int
  lookup : Int
  deriving DecidableEq
instance : Inhabited Call := ⟨⟨default, default⟩⟩
def cellsCall (x : Call) : List AV := [AV.int x.at_, AV.int x.lookup]
theorem cellsCall_def (x : Call) : cellsCall x = [AV.int x.at_, AV.int x.lookup] := (fun _ : Unit => rfl) ()
def encCall (x : Call) : AV := .agg (cellsCall x)
theorem encCall_def (x : Call) : encCall x = .agg [AV.int x.at_, AV.int x.lookup] := rfl
theorem w_encCall (x : Call) : (encCall x).w = some 2 := rfl
theorem cells_encCall (x : Call) : (encCall x).cells = [AV.int x.at_, AV.int x.lookup] := rfl
theorem isAgg_encCall (x : Call) : (encCall x).isAgg = true := rfl
theorem eql_Call (x y : Call) (K : AV → Prop) : abin Try.prog .eql 55 (encCall x) (encCall y) K = K (.lit (.bool (decide (x = y)))) := by
  have e : ([x.at_, x.lookup] == [y.at_, y.lookup]) = decide (x = y) := by rw [Bool.eq_iff_iff, decide_eq_true_eq]; cases x; cases y; simp [and_assoc]
  rw [← e]; refine propext ⟨fun h => h.2.2.2.2.2.2, fun h => ⟨by kernel_rfl, by kernel_rfl, by kernel_rfl, by kernel_rfl, by kernel_rfl, by kernel_rfl, h⟩⟩
theorem neq_Call (x y : Call) (K : AV → Prop) : abin Try.prog .neq 55 (encCall x) (encCall y) K = K (.lit (.bool (!decide (x = y)))) := by
  have e : ([x.at_, x.lookup] == [y.at_, y.lookup]) = decide (x = y) := by rw [Bool.eq_iff_iff, decide_eq_true_eq]; cases x; cases y; simp [and_assoc]
  rw [← e]; refine propext ⟨fun h => h.2.2.2.2.2.2, fun h => ⟨by kernel_rfl, by kernel_rfl, by kernel_rfl, by kernel_rfl, by kernel_rfl, by kernel_rfl, h⟩⟩
theorem shut_encCall (x : Call) : shut (encCall x) = encCall x := by simp only [encCall_def, shut, shutL]
theorem cl_encCall (nb ng nl : Nat) (x : Call) : cl nb ng nl (encCall x) = true := by simp only [encCall_def, cl, clL, Bool.and_self]
structure Rule where
  back : (List (List Int))
  in_ : (List (List Int))
  ahead : (List (List Int))
  out : (List Int)
  calls : (List Call)
  x : Int
instance : Inhabited Rule := ⟨⟨default, default, default, default, default, default⟩⟩
def rowEI (l : List Int) : AV := .row .no (l.map AV.int)
theorem rowEI_def (l : List Int) : rowEI l = .row .no (l.map AV.int) := rfl
theorem shut_rowEI (l : List Int) : shut (rowEI l) = rowEI l := by rw [rowEI, shut, shutL_enc]; rfl; intro a; rfl
theorem cl_rowEI (nb ng nl : Nat) (l : List Int) : cl nb ng nl (rowEI l) = true := by rw [rowEI, cl, clL_enc]; rfl; intro a; rfl
def rowELI (l : List (List Int)) : AV := .row .no (l.map rowEI)
theorem rowELI_def (l : List (List Int)) : rowELI l = .row .no (l.map rowEI) := rfl
theorem shut_rowELI (l : List (List Int)) : shut (rowELI l) = rowELI l := by rw [rowELI, shut, shutL_enc]; rfl; intro a; exact shut_rowEI a
theorem cl_rowELI (nb ng nl : Nat) (l : List (List Int)) : cl nb ng nl (rowELI l) = true := by rw [rowELI, cl, clL_enc]; rfl; intro a; exact cl_rowEI _ _ _ a
def rowECall (l : List Call) : AV := .row .no (l.map encCall)
theorem rowECall_def (l : List Call) : rowECall l = .row .no (l.map encCall) := rfl
theorem shut_rowECall (l : List Call) : shut (rowECall l) = rowECall l := by rw [rowECall, shut, shutL_enc]; rfl; intro a; exact shut_encCall a
theorem cl_rowECall (nb ng nl : Nat) (l : List Call) : cl nb ng nl (rowECall l) = true := by rw [rowECall, cl, clL_enc]; rfl; intro a; exact cl_encCall _ _ _ a
def cellsRule (x : Rule) : List AV := [rowELI x.back, rowELI x.in_, rowELI x.ahead, rowEI x.out, rowECall x.calls, AV.int x.x]
theorem cellsRule_def (x : Rule) : cellsRule x = [rowELI x.back, rowELI x.in_, rowELI x.ahead, rowEI x.out, rowECall x.calls, AV.int x.x] := (fun _ : Unit => rfl) ()
def encRule (x : Rule) : AV := .agg (cellsRule x)
theorem encRule_def (x : Rule) : encRule x = .agg [rowELI x.back, rowELI x.in_, rowELI x.ahead, rowEI x.out, rowECall x.calls, AV.int x.x] := rfl
theorem w_encRule (x : Rule) : (encRule x).w = some 6 := rfl
theorem cells_encRule (x : Rule) : (encRule x).cells = [rowELI x.back, rowELI x.in_, rowELI x.ahead, rowEI x.out, rowECall x.calls, AV.int x.x] := rfl
theorem isAgg_encRule (x : Rule) : (encRule x).isAgg = true := rfl
theorem shut_encRule (x : Rule) : shut (encRule x) = encRule x := by simp only [encRule_def, shut, shutL, shut_rowECall, shut_rowEI, shut_rowELI]
theorem cl_encRule (nb ng nl : Nat) (x : Rule) : cl nb ng nl (encRule x) = true := by simp only [encRule_def, cl, clL, Bool.and_self, cl_rowECall, cl_rowEI, cl_rowELI]
structure Lookup where
  kind : Int
  ignore : Bool
  rules : (List Rule)
instance : Inhabited Lookup := ⟨⟨default, default, default⟩⟩
def rowERule (l : List Rule) : AV := .row .no (l.map encRule)
theorem rowERule_def (l : List Rule) : rowERule l = .row .no (l.map encRule) := rfl
theorem shut_rowERule (l : List Rule) : shut (rowERule l) = rowERule l := by rw [rowERule, shut, shutL_enc]; rfl; intro a; exact shut_encRule a
theorem cl_rowERule (nb ng nl : Nat) (l : List Rule) : cl nb ng nl (rowERule l) = true := by rw [rowERule, cl, clL_enc]; rfl; intro a; exact cl_encRule _ _ _ a
def cellsLookup (x : Lookup) : List AV := [AV.int x.kind, AV.bool x.ignore, rowERule x.rules]
theorem cellsLookup_def (x : Lookup) : cellsLookup x = [AV.int x.kind, AV.bool x.ignore, rowERule x.rules] := (fun _ : Unit => rfl) ()
def encLookup (x : Lookup) : AV := .agg (cellsLookup x)
theorem encLookup_def (x : Lookup) : encLookup x = .agg [AV.int x.kind, AV.bool x.ignore, rowERule x.rules] := rfl
theorem w_encLookup (x : Lookup) : (encLookup x).w = some 3 := rfl
theorem cells_encLookup (x : Lookup) : (encLookup x).cells = [AV.int x.kind, AV.bool x.ignore, rowERule x.rules] := rfl
theorem isAgg_encLookup (x : Lookup) : (encLookup x).isAgg = true := rfl
theorem shut_encLookup (x : Lookup) : shut (encLookup x) = encLookup x := by simp only [encLookup_def, shut, shutL, shut_rowERule]
theorem cl_encLookup (nb ng nl : Nat) (x : Lookup) : cl nb ng nl (encLookup x) = true := by simp only [encLookup_def, cl, clL, Bool.and_self, cl_rowERule]
structure Point where
  x : Int
  y : Int
  on_ : Bool
  deriving DecidableEq
instance : Inhabited Point := ⟨⟨default, default, default⟩⟩
def cellsPoint (x : Point) : List AV := [AV.int x.x, AV.int x.y, AV.bool x.on_]
theorem cellsPoint_def (x : Point) : cellsPoint x = [AV.int x.x, AV.int x.y, AV.bool x.on_] := (fun _ : Unit => rfl) ()
def encPoint (x : Point) : AV := .agg (cellsPoint x)
theorem encPoint_def (x : Point) : encPoint x = .agg [AV.int x.x, AV.int x.y, AV.bool x.on_] := rfl
theorem w_encPoint (x : Point) : (encPoint x).w = some 3 := rfl
theorem cells_encPoint (x : Point) : (encPoint x).cells = [AV.int x.x, AV.int x.y, AV.bool x.on_] := rfl
theorem isAgg_encPoint (x : Point) : (encPoint x).isAgg = true := rfl
theorem shut_encPoint (x : Point) : shut (encPoint x) = encPoint x := by simp only [encPoint_def, shut, shutL]
theorem cl_encPoint (nb ng nl : Nat) (x : Point) : cl nb ng nl (encPoint x) = true := by simp only [encPoint_def, cl, clL, Bool.and_self]
structure Outline where
  points : (List Point)
  ends : (List Int)
instance : Inhabited Outline := ⟨⟨default, default⟩⟩
def rowEPoint (l : List Point) : AV := .row .no (l.map encPoint)
theorem rowEPoint_def (l : List Point) : rowEPoint l = .row .no (l.map encPoint) := rfl
theorem shut_rowEPoint (l : List Point) : shut (rowEPoint l) = rowEPoint l := by rw [rowEPoint, shut, shutL_enc]; rfl; intro a; exact shut_encPoint a
theorem cl_rowEPoint (nb ng nl : Nat) (l : List Point) : cl nb ng nl (rowEPoint l) = true := by rw [rowEPoint, cl, clL_enc]; rfl; intro a; exact cl_encPoint _ _ _ a
def cellsOutline (x : Outline) : List AV := [rowEPoint x.points, rowEI x.ends]
theorem cellsOutline_def (x : Outline) : cellsOutline x = [rowEPoint x.points, rowEI x.ends] := (fun _ : Unit => rfl) ()
def encOutline (x : Outline) : AV := .agg (cellsOutline x)
theorem encOutline_def (x : Outline) : encOutline x = .agg [rowEPoint x.points, rowEI x.ends] := rfl
theorem w_encOutline (x : Outline) : (encOutline x).w = some 2 := rfl
theorem cells_encOutline (x : Outline) : (encOutline x).cells = [rowEPoint x.points, rowEI x.ends] := rfl
theorem isAgg_encOutline (x : Outline) : (encOutline x).isAgg = true := rfl
theorem shut_encOutline (x : Outline) : shut (encOutline x) = encOutline x := by simp only [encOutline_def, shut, shutL, shut_rowEI, shut_rowEPoint]
theorem cl_encOutline (nb ng nl : Nat) (x : Outline) : cl nb ng nl (encOutline x) = true := by simp only [encOutline_def, cl, clL, Bool.and_self, cl_rowEI, cl_rowEPoint]
structure Part where
  glyph : Int
  x : Int
  y : Int
  deriving DecidableEq
instance : Inhabited Part := ⟨⟨default, default, default⟩⟩
def cellsPart (x : Part) : List AV := [AV.int x.glyph, AV.int x.x, AV.int x.y]
theorem cellsPart_def (x : Part) : cellsPart x = [AV.int x.glyph, AV.int x.x, AV.int x.y] := (fun _ : Unit => rfl) ()
def encPart (x : Part) : AV := .agg (cellsPart x)
theorem encPart_def (x : Part) : encPart x = .agg [AV.int x.glyph, AV.int x.x, AV.int x.y] := rfl
theorem w_encPart (x : Part) : (encPart x).w = some 3 := rfl
theorem cells_encPart (x : Part) : (encPart x).cells = [AV.int x.glyph, AV.int x.x, AV.int x.y] := rfl
theorem isAgg_encPart (x : Part) : (encPart x).isAgg = true := rfl
theorem eql_Part (x y : Part) (K : AV → Prop) : abin Try.prog .eql 136 (encPart x) (encPart y) K = K (.lit (.bool (decide (x = y)))) := by
  have e : ([x.glyph, x.x, x.y] == [y.glyph, y.x, y.y]) = decide (x = y) := by rw [Bool.eq_iff_iff, decide_eq_true_eq]; cases x; cases y; simp [and_assoc]
  rw [← e]; refine propext ⟨fun h => h.2.2.2.2.2.2, fun h => ⟨by kernel_rfl, by kernel_rfl, by kernel_rfl, by kernel_rfl, by kernel_rfl, by kernel_rfl, h⟩⟩
theorem neq_Part (x y : Part) (K : AV → Prop) : abin Try.prog .neq 136 (encPart x) (encPart y) K = K (.lit (.bool (!decide (x = y)))) := by
  have e : ([x.glyph, x.x, x.y] == [y.glyph, y.x, y.y]) = decide (x = y) := by rw [Bool.eq_iff_iff, decide_eq_true_eq]; cases x; cases y; simp [and_assoc]
  rw [← e]; refine propext ⟨fun h => h.2.2.2.2.2.2, fun h => ⟨by kernel_rfl, by kernel_rfl, by kernel_rfl, by kernel_rfl, by kernel_rfl, by kernel_rfl, h⟩⟩
theorem shut_encPart (x : Part) : shut (encPart x) = encPart x := by simp only [encPart_def, shut, shutL]
theorem cl_encPart (nb ng nl : Nat) (x : Part) : cl nb ng nl (encPart x) = true := by simp only [encPart_def, cl, clL, Bool.and_self]
structure Anchor where
  kind : Int
  class_ : Int
  x : Int
  y : Int
  deriving DecidableEq
instance : Inhabited Anchor := ⟨⟨default, default, default, default⟩⟩
def cellsAnchor (x : Anchor) : List AV := [AV.int x.kind, AV.int x.class_, AV.int x.x, AV.int x.y]
theorem cellsAnchor_def (x : Anchor) : cellsAnchor x = [AV.int x.kind, AV.int x.class_, AV.int x.x, AV.int x.y] := (fun _ : Unit => rfl) ()
def encAnchor (x : Anchor) : AV := .agg (cellsAnchor x)
theorem encAnchor_def (x : Anchor) : encAnchor x = .agg [AV.int x.kind, AV.int x.class_, AV.int x.x, AV.int x.y] := rfl
theorem w_encAnchor (x : Anchor) : (encAnchor x).w = some 4 := rfl
theorem cells_encAnchor (x : Anchor) : (encAnchor x).cells = [AV.int x.kind, AV.int x.class_, AV.int x.x, AV.int x.y] := rfl
theorem isAgg_encAnchor (x : Anchor) : (encAnchor x).isAgg = true := rfl
theorem eql_Anchor (x y : Anchor) (K : AV → Prop) : abin Try.prog .eql 138 (encAnchor x) (encAnchor y) K = K (.lit (.bool (decide (x = y)))) := by
  have e : ([x.kind, x.class_, x.x, x.y] == [y.kind, y.class_, y.x, y.y]) = decide (x = y) := by rw [Bool.eq_iff_iff, decide_eq_true_eq]; cases x; cases y; simp [and_assoc]
  rw [← e]; refine propext ⟨fun h => h.2.2.2.2.2.2, fun h => ⟨by kernel_rfl, by kernel_rfl, by kernel_rfl, by kernel_rfl, by kernel_rfl, by kernel_rfl, h⟩⟩
theorem neq_Anchor (x y : Anchor) (K : AV → Prop) : abin Try.prog .neq 138 (encAnchor x) (encAnchor y) K = K (.lit (.bool (!decide (x = y)))) := by
  have e : ([x.kind, x.class_, x.x, x.y] == [y.kind, y.class_, y.x, y.y]) = decide (x = y) := by rw [Bool.eq_iff_iff, decide_eq_true_eq]; cases x; cases y; simp [and_assoc]
  rw [← e]; refine propext ⟨fun h => h.2.2.2.2.2.2, fun h => ⟨by kernel_rfl, by kernel_rfl, by kernel_rfl, by kernel_rfl, by kernel_rfl, by kernel_rfl, h⟩⟩
theorem shut_encAnchor (x : Anchor) : shut (encAnchor x) = encAnchor x := by simp only [encAnchor_def, shut, shutL]
theorem cl_encAnchor (nb ng nl : Nat) (x : Anchor) : cl nb ng nl (encAnchor x) = true := by simp only [encAnchor_def, cl, clL, Bool.and_self]
structure Delta where
  region : Int
  point : Int
  x : Int
  y : Int
  deriving DecidableEq
instance : Inhabited Delta := ⟨⟨default, default, default, default⟩⟩
def cellsDelta (x : Delta) : List AV := [AV.int x.region, AV.int x.point, AV.int x.x, AV.int x.y]
theorem cellsDelta_def (x : Delta) : cellsDelta x = [AV.int x.region, AV.int x.point, AV.int x.x, AV.int x.y] := (fun _ : Unit => rfl) ()
def encDelta (x : Delta) : AV := .agg (cellsDelta x)
theorem encDelta_def (x : Delta) : encDelta x = .agg [AV.int x.region, AV.int x.point, AV.int x.x, AV.int x.y] := rfl
theorem w_encDelta (x : Delta) : (encDelta x).w = some 4 := rfl
theorem cells_encDelta (x : Delta) : (encDelta x).cells = [AV.int x.region, AV.int x.point, AV.int x.x, AV.int x.y] := rfl
theorem isAgg_encDelta (x : Delta) : (encDelta x).isAgg = true := rfl
theorem eql_Delta (x y : Delta) (K : AV → Prop) : abin Try.prog .eql 140 (encDelta x) (encDelta y) K = K (.lit (.bool (decide (x = y)))) := by
  have e : ([x.region, x.point, x.x, x.y] == [y.region, y.point, y.x, y.y]) = decide (x = y) := by rw [Bool.eq_iff_iff, decide_eq_true_eq]; cases x; cases y; simp [and_assoc]
  rw [← e]; refine propext ⟨fun h => h.2.2.2.2.2.2, fun h => ⟨by kernel_rfl, by kernel_rfl, by kernel_rfl, by kernel_rfl, by kernel_rfl, by kernel_rfl, h⟩⟩
theorem neq_Delta (x y : Delta) (K : AV → Prop) : abin Try.prog .neq 140 (encDelta x) (encDelta y) K = K (.lit (.bool (!decide (x = y)))) := by
  have e : ([x.region, x.point, x.x, x.y] == [y.region, y.point, y.x, y.y]) = decide (x = y) := by rw [Bool.eq_iff_iff, decide_eq_true_eq]; cases x; cases y; simp [and_assoc]
  rw [← e]; refine propext ⟨fun h => h.2.2.2.2.2.2, fun h => ⟨by kernel_rfl, by kernel_rfl, by kernel_rfl, by kernel_rfl, by kernel_rfl, by kernel_rfl, h⟩⟩
theorem shut_encDelta (x : Delta) : shut (encDelta x) = encDelta x := by simp only [encDelta_def, shut, shutL]
theorem cl_encDelta (nb ng nl : Nat) (x : Delta) : cl nb ng nl (encDelta x) = true := by simp only [encDelta_def, cl, clL, Bool.and_self]
structure Ins where
  op : Int
  a : Int
  deriving DecidableEq
instance : Inhabited Ins := ⟨⟨default, default⟩⟩
def cellsIns (x : Ins) : List AV := [AV.int x.op, AV.int x.a]
theorem cellsIns_def (x : Ins) : cellsIns x = [AV.int x.op, AV.int x.a] := (fun _ : Unit => rfl) ()
def encIns (x : Ins) : AV := .agg (cellsIns x)
theorem encIns_def (x : Ins) : encIns x = .agg [AV.int x.op, AV.int x.a] := rfl
theorem w_encIns (x : Ins) : (encIns x).w = some 2 := rfl
theorem cells_encIns (x : Ins) : (encIns x).cells = [AV.int x.op, AV.int x.a] := rfl
theorem isAgg_encIns (x : Ins) : (encIns x).isAgg = true := rfl
theorem eql_Ins (x y : Ins) (K : AV → Prop) : abin Try.prog .eql 142 (encIns x) (encIns y) K = K (.lit (.bool (decide (x = y)))) := by
  have e : ([x.op, x.a] == [y.op, y.a]) = decide (x = y) := by rw [Bool.eq_iff_iff, decide_eq_true_eq]; cases x; cases y; simp [and_assoc]
  rw [← e]; refine propext ⟨fun h => h.2.2.2.2.2.2, fun h => ⟨by kernel_rfl, by kernel_rfl, by kernel_rfl, by kernel_rfl, by kernel_rfl, by kernel_rfl, h⟩⟩
theorem neq_Ins (x y : Ins) (K : AV → Prop) : abin Try.prog .neq 142 (encIns x) (encIns y) K = K (.lit (.bool (!decide (x = y)))) := by
  have e : ([x.op, x.a] == [y.op, y.a]) = decide (x = y) := by rw [Bool.eq_iff_iff, decide_eq_true_eq]; cases x; cases y; simp [and_assoc]
  rw [← e]; refine propext ⟨fun h => h.2.2.2.2.2.2, fun h => ⟨by kernel_rfl, by kernel_rfl, by kernel_rfl, by kernel_rfl, by kernel_rfl, by kernel_rfl, h⟩⟩
theorem shut_encIns (x : Ins) : shut (encIns x) = encIns x := by simp only [encIns_def, shut, shutL]
theorem cl_encIns (nb ng nl : Nat) (x : Ins) : cl nb ng nl (encIns x) = true := by simp only [encIns_def, cl, clL, Bool.and_self]
structure Glyph where
  name : ByteArray
  advance : Int
  mark : Bool
  outline : Outline
  parts : (List Part)
  anchors : (List Anchor)
  deltas : (List Delta)
  hint : (List Ins)
instance : Inhabited Glyph := ⟨⟨default, default, default, default, default, default, default, default⟩⟩
def rowEPart (l : List Part) : AV := .row .no (l.map encPart)
theorem rowEPart_def (l : List Part) : rowEPart l = .row .no (l.map encPart) := rfl
theorem shut_rowEPart (l : List Part) : shut (rowEPart l) = rowEPart l := by rw [rowEPart, shut, shutL_enc]; rfl; intro a; exact shut_encPart a
theorem cl_rowEPart (nb ng nl : Nat) (l : List Part) : cl nb ng nl (rowEPart l) = true := by rw [rowEPart, cl, clL_enc]; rfl; intro a; exact cl_encPart _ _ _ a
def rowEAnchor (l : List Anchor) : AV := .row .no (l.map encAnchor)
theorem rowEAnchor_def (l : List Anchor) : rowEAnchor l = .row .no (l.map encAnchor) := rfl
theorem shut_rowEAnchor (l : List Anchor) : shut (rowEAnchor l) = rowEAnchor l := by rw [rowEAnchor, shut, shutL_enc]; rfl; intro a; exact shut_encAnchor a
theorem cl_rowEAnchor (nb ng nl : Nat) (l : List Anchor) : cl nb ng nl (rowEAnchor l) = true := by rw [rowEAnchor, cl, clL_enc]; rfl; intro a; exact cl_encAnchor _ _ _ a
def rowEDelta (l : List Delta) : AV := .row .no (l.map encDelta)
theorem rowEDelta_def (l : List Delta) : rowEDelta l = .row .no (l.map encDelta) := rfl
theorem shut_rowEDelta (l : List Delta) : shut (rowEDelta l) = rowEDelta l := by rw [rowEDelta, shut, shutL_enc]; rfl; intro a; exact shut_encDelta a
theorem cl_rowEDelta (nb ng nl : Nat) (l : List Delta) : cl nb ng nl (rowEDelta l) = true := by rw [rowEDelta, cl, clL_enc]; rfl; intro a; exact cl_encDelta _ _ _ a
def rowEIns (l : List Ins) : AV := .row .no (l.map encIns)
theorem rowEIns_def (l : List Ins) : rowEIns l = .row .no (l.map encIns) := rfl
theorem shut_rowEIns (l : List Ins) : shut (rowEIns l) = rowEIns l := by rw [rowEIns, shut, shutL_enc]; rfl; intro a; exact shut_encIns a
theorem cl_rowEIns (nb ng nl : Nat) (l : List Ins) : cl nb ng nl (rowEIns l) = true := by rw [rowEIns, cl, clL_enc]; rfl; intro a; exact cl_encIns _ _ _ a
def cellsGlyph (x : Glyph) : List AV := [AV.str x.name, AV.int x.advance, AV.bool x.mark, rowEPoint x.outline.points, rowEI x.outline.ends, rowEPart x.parts, rowEAnchor x.anchors, rowEDelta x.deltas, rowEIns x.hint]
theorem cellsGlyph_def (x : Glyph) : cellsGlyph x = [AV.str x.name, AV.int x.advance, AV.bool x.mark, rowEPoint x.outline.points, rowEI x.outline.ends, rowEPart x.parts, rowEAnchor x.anchors, rowEDelta x.deltas, rowEIns x.hint] := (fun _ : Unit => rfl) ()
def encGlyph (x : Glyph) : AV := .agg (cellsGlyph x)
theorem encGlyph_def (x : Glyph) : encGlyph x = .agg [AV.str x.name, AV.int x.advance, AV.bool x.mark, rowEPoint x.outline.points, rowEI x.outline.ends, rowEPart x.parts, rowEAnchor x.anchors, rowEDelta x.deltas, rowEIns x.hint] := rfl
theorem w_encGlyph (x : Glyph) : (encGlyph x).w = some 9 := rfl
theorem cells_encGlyph (x : Glyph) : (encGlyph x).cells = [AV.str x.name, AV.int x.advance, AV.bool x.mark, rowEPoint x.outline.points, rowEI x.outline.ends, rowEPart x.parts, rowEAnchor x.anchors, rowEDelta x.deltas, rowEIns x.hint] := rfl
theorem isAgg_encGlyph (x : Glyph) : (encGlyph x).isAgg = true := rfl
theorem shut_encGlyph (x : Glyph) : shut (encGlyph x) = encGlyph x := by simp only [encGlyph_def, shut, shutL, shut_rowEAnchor, shut_rowEDelta, shut_rowEI, shut_rowEIns, shut_rowEPart, shut_rowEPoint]
theorem cl_encGlyph (nb ng nl : Nat) (x : Glyph) : cl nb ng nl (encGlyph x) = true := by simp only [encGlyph_def, cl, clL, Bool.and_self, cl_rowEAnchor, cl_rowEDelta, cl_rowEI, cl_rowEIns, cl_rowEPart, cl_rowEPoint]
structure Char where
  rune : Int
  glyph : Int
  deriving DecidableEq
instance : Inhabited Char := ⟨⟨default, default⟩⟩
def cellsChar (x : Char) : List AV := [AV.int x.rune, AV.int x.glyph]
theorem cellsChar_def (x : Char) : cellsChar x = [AV.int x.rune, AV.int x.glyph] := (fun _ : Unit => rfl) ()
def encChar (x : Char) : AV := .agg (cellsChar x)
theorem encChar_def (x : Char) : encChar x = .agg [AV.int x.rune, AV.int x.glyph] := rfl
theorem w_encChar (x : Char) : (encChar x).w = some 2 := rfl
theorem cells_encChar (x : Char) : (encChar x).cells = [AV.int x.rune, AV.int x.glyph] := rfl
theorem isAgg_encChar (x : Char) : (encChar x).isAgg = true := rfl
theorem eql_Char (x y : Char) (K : AV → Prop) : abin Try.prog .eql 125 (encChar x) (encChar y) K = K (.lit (.bool (decide (x = y)))) := by
  have e : ([x.rune, x.glyph] == [y.rune, y.glyph]) = decide (x = y) := by rw [Bool.eq_iff_iff, decide_eq_true_eq]; cases x; cases y; simp [and_assoc]
  rw [← e]; refine propext ⟨fun h => h.2.2.2.2.2.2, fun h => ⟨by kernel_rfl, by kernel_rfl, by kernel_rfl, by kernel_rfl, by kernel_rfl, by kernel_rfl, h⟩⟩
theorem neq_Char (x y : Char) (K : AV → Prop) : abin Try.prog .neq 125 (encChar x) (encChar y) K = K (.lit (.bool (!decide (x = y)))) := by
  have e : ([x.rune, x.glyph] == [y.rune, y.glyph]) = decide (x = y) := by rw [Bool.eq_iff_iff, decide_eq_true_eq]; cases x; cases y; simp [and_assoc]
  rw [← e]; refine propext ⟨fun h => h.2.2.2.2.2.2, fun h => ⟨by kernel_rfl, by kernel_rfl, by kernel_rfl, by kernel_rfl, by kernel_rfl, by kernel_rfl, h⟩⟩
theorem shut_encChar (x : Char) : shut (encChar x) = encChar x := by simp only [encChar_def, shut, shutL]
theorem cl_encChar (nb ng nl : Nat) (x : Char) : cl nb ng nl (encChar x) = true := by simp only [encChar_def, cl, clL, Bool.and_self]
structure Feature where
  name : ByteArray
  lookups : (List Int)
instance : Inhabited Feature := ⟨⟨default, default⟩⟩
def cellsFeature (x : Feature) : List AV := [AV.str x.name, rowEI x.lookups]
theorem cellsFeature_def (x : Feature) : cellsFeature x = [AV.str x.name, rowEI x.lookups] := (fun _ : Unit => rfl) ()
def encFeature (x : Feature) : AV := .agg (cellsFeature x)
theorem encFeature_def (x : Feature) : encFeature x = .agg [AV.str x.name, rowEI x.lookups] := rfl
theorem w_encFeature (x : Feature) : (encFeature x).w = some 2 := rfl
theorem cells_encFeature (x : Feature) : (encFeature x).cells = [AV.str x.name, rowEI x.lookups] := rfl
theorem isAgg_encFeature (x : Feature) : (encFeature x).isAgg = true := rfl
theorem shut_encFeature (x : Feature) : shut (encFeature x) = encFeature x := by simp only [encFeature_def, shut, shutL, shut_rowEI]
theorem cl_encFeature (nb ng nl : Nat) (x : Feature) : cl nb ng nl (encFeature x) = true := by simp only [encFeature_def, cl, clL, Bool.and_self, cl_rowEI]
structure Axis where
  name : ByteArray
  min : Int
  def_ : Int
  max : Int
instance : Inhabited Axis := ⟨⟨default, default, default, default⟩⟩
def cellsAxis (x : Axis) : List AV := [AV.str x.name, AV.int x.min, AV.int x.def_, AV.int x.max]
theorem cellsAxis_def (x : Axis) : cellsAxis x = [AV.str x.name, AV.int x.min, AV.int x.def_, AV.int x.max] := (fun _ : Unit => rfl) ()
def encAxis (x : Axis) : AV := .agg (cellsAxis x)
theorem encAxis_def (x : Axis) : encAxis x = .agg [AV.str x.name, AV.int x.min, AV.int x.def_, AV.int x.max] := rfl
theorem w_encAxis (x : Axis) : (encAxis x).w = some 4 := rfl
theorem cells_encAxis (x : Axis) : (encAxis x).cells = [AV.str x.name, AV.int x.min, AV.int x.def_, AV.int x.max] := rfl
theorem isAgg_encAxis (x : Axis) : (encAxis x).isAgg = true := rfl
theorem shut_encAxis (x : Axis) : shut (encAxis x) = encAxis x := by simp only [encAxis_def, shut, shutL]
theorem cl_encAxis (nb ng nl : Nat) (x : Axis) : cl nb ng nl (encAxis x) = true := by simp only [encAxis_def, cl, clL, Bool.and_self]
structure Tent where
  start : Int
  peak : Int
  end_ : Int
  deriving DecidableEq
instance : Inhabited Tent := ⟨⟨default, default, default⟩⟩
def cellsTent (x : Tent) : List AV := [AV.int x.start, AV.int x.peak, AV.int x.end_]
theorem cellsTent_def (x : Tent) : cellsTent x = [AV.int x.start, AV.int x.peak, AV.int x.end_] := (fun _ : Unit => rfl) ()
def encTent (x : Tent) : AV := .agg (cellsTent x)
theorem encTent_def (x : Tent) : encTent x = .agg [AV.int x.start, AV.int x.peak, AV.int x.end_] := rfl
theorem w_encTent (x : Tent) : (encTent x).w = some 3 := rfl
theorem cells_encTent (x : Tent) : (encTent x).cells = [AV.int x.start, AV.int x.peak, AV.int x.end_] := rfl
theorem isAgg_encTent (x : Tent) : (encTent x).isAgg = true := rfl
theorem eql_Tent (x y : Tent) (K : AV → Prop) : abin Try.prog .eql 145 (encTent x) (encTent y) K = K (.lit (.bool (decide (x = y)))) := by
  have e : ([x.start, x.peak, x.end_] == [y.start, y.peak, y.end_]) = decide (x = y) := by rw [Bool.eq_iff_iff, decide_eq_true_eq]; cases x; cases y; simp [and_assoc]
  rw [← e]; refine propext ⟨fun h => h.2.2.2.2.2.2, fun h => ⟨by kernel_rfl, by kernel_rfl, by kernel_rfl, by kernel_rfl, by kernel_rfl, by kernel_rfl, h⟩⟩
theorem neq_Tent (x y : Tent) (K : AV → Prop) : abin Try.prog .neq 145 (encTent x) (encTent y) K = K (.lit (.bool (!decide (x = y)))) := by
  have e : ([x.start, x.peak, x.end_] == [y.start, y.peak, y.end_]) = decide (x = y) := by rw [Bool.eq_iff_iff, decide_eq_true_eq]; cases x; cases y; simp [and_assoc]
  rw [← e]; refine propext ⟨fun h => h.2.2.2.2.2.2, fun h => ⟨by kernel_rfl, by kernel_rfl, by kernel_rfl, by kernel_rfl, by kernel_rfl, by kernel_rfl, h⟩⟩
theorem shut_encTent (x : Tent) : shut (encTent x) = encTent x := by simp only [encTent_def, shut, shutL]
theorem cl_encTent (nb ng nl : Nat) (x : Tent) : cl nb ng nl (encTent x) = true := by simp only [encTent_def, cl, clL, Bool.and_self]
structure Region where
  tents : (List Tent)
instance : Inhabited Region := ⟨⟨default⟩⟩
def rowETent (l : List Tent) : AV := .row .no (l.map encTent)
theorem rowETent_def (l : List Tent) : rowETent l = .row .no (l.map encTent) := rfl
theorem shut_rowETent (l : List Tent) : shut (rowETent l) = rowETent l := by rw [rowETent, shut, shutL_enc]; rfl; intro a; exact shut_encTent a
theorem cl_rowETent (nb ng nl : Nat) (l : List Tent) : cl nb ng nl (rowETent l) = true := by rw [rowETent, cl, clL_enc]; rfl; intro a; exact cl_encTent _ _ _ a
def cellsRegion (x : Region) : List AV := [rowETent x.tents]
theorem cellsRegion_def (x : Region) : cellsRegion x = [rowETent x.tents] := (fun _ : Unit => rfl) ()
def encRegion (x : Region) : AV := .agg (cellsRegion x)
theorem encRegion_def (x : Region) : encRegion x = .agg [rowETent x.tents] := rfl
theorem w_encRegion (x : Region) : (encRegion x).w = some 1 := rfl
theorem cells_encRegion (x : Region) : (encRegion x).cells = [rowETent x.tents] := rfl
theorem isAgg_encRegion (x : Region) : (encRegion x).isAgg = true := rfl
theorem shut_encRegion (x : Region) : shut (encRegion x) = encRegion x := by simp only [encRegion_def, shut, shutL, shut_rowETent]
theorem cl_encRegion (nb ng nl : Nat) (x : Region) : cl nb ng nl (encRegion x) = true := by simp only [encRegion_def, cl, clL, Bool.and_self, cl_rowETent]
structure Font where
  unit : Int
  glyphs : (List Glyph)
  chars : (List Char)
  lookups : (List Lookup)
  features : (List Feature)
  axes : (List Axis)
  regions : (List Region)
  funcs : (List (List Ins))
  cvt : (List Int)
instance : Inhabited Font := ⟨⟨default, default, default, default, default, default, default, default, default⟩⟩
def rowEGlyph (l : List Glyph) : AV := .row .no (l.map encGlyph)
theorem rowEGlyph_def (l : List Glyph) : rowEGlyph l = .row .no (l.map encGlyph) := rfl
theorem shut_rowEGlyph (l : List Glyph) : shut (rowEGlyph l) = rowEGlyph l := by rw [rowEGlyph, shut, shutL_enc]; rfl; intro a; exact shut_encGlyph a
theorem cl_rowEGlyph (nb ng nl : Nat) (l : List Glyph) : cl nb ng nl (rowEGlyph l) = true := by rw [rowEGlyph, cl, clL_enc]; rfl; intro a; exact cl_encGlyph _ _ _ a
def rowEChar (l : List Char) : AV := .row .no (l.map encChar)
theorem rowEChar_def (l : List Char) : rowEChar l = .row .no (l.map encChar) := rfl
theorem shut_rowEChar (l : List Char) : shut (rowEChar l) = rowEChar l := by rw [rowEChar, shut, shutL_enc]; rfl; intro a; exact shut_encChar a
theorem cl_rowEChar (nb ng nl : Nat) (l : List Char) : cl nb ng nl (rowEChar l) = true := by rw [rowEChar, cl, clL_enc]; rfl; intro a; exact cl_encChar _ _ _ a
def rowELookup (l : List Lookup) : AV := .row .no (l.map encLookup)
theorem rowELookup_def (l : List Lookup) : rowELookup l = .row .no (l.map encLookup) := rfl
theorem shut_rowELookup (l : List Lookup) : shut (rowELookup l) = rowELookup l := by rw [rowELookup, shut, shutL_enc]; rfl; intro a; exact shut_encLookup a
theorem cl_rowELookup (nb ng nl : Nat) (l : List Lookup) : cl nb ng nl (rowELookup l) = true := by rw [rowELookup, cl, clL_enc]; rfl; intro a; exact cl_encLookup _ _ _ a
def rowEFeature (l : List Feature) : AV := .row .no (l.map encFeature)
theorem rowEFeature_def (l : List Feature) : rowEFeature l = .row .no (l.map encFeature) := rfl
theorem shut_rowEFeature (l : List Feature) : shut (rowEFeature l) = rowEFeature l := by rw [rowEFeature, shut, shutL_enc]; rfl; intro a; exact shut_encFeature a
theorem cl_rowEFeature (nb ng nl : Nat) (l : List Feature) : cl nb ng nl (rowEFeature l) = true := by rw [rowEFeature, cl, clL_enc]; rfl; intro a; exact cl_encFeature _ _ _ a
def rowEAxis (l : List Axis) : AV := .row .no (l.map encAxis)
theorem rowEAxis_def (l : List Axis) : rowEAxis l = .row .no (l.map encAxis) := rfl
theorem shut_rowEAxis (l : List Axis) : shut (rowEAxis l) = rowEAxis l := by rw [rowEAxis, shut, shutL_enc]; rfl; intro a; exact shut_encAxis a
theorem cl_rowEAxis (nb ng nl : Nat) (l : List Axis) : cl nb ng nl (rowEAxis l) = true := by rw [rowEAxis, cl, clL_enc]; rfl; intro a; exact cl_encAxis _ _ _ a
def rowERegion (l : List Region) : AV := .row .no (l.map encRegion)
theorem rowERegion_def (l : List Region) : rowERegion l = .row .no (l.map encRegion) := rfl
theorem shut_rowERegion (l : List Region) : shut (rowERegion l) = rowERegion l := by rw [rowERegion, shut, shutL_enc]; rfl; intro a; exact shut_encRegion a
theorem cl_rowERegion (nb ng nl : Nat) (l : List Region) : cl nb ng nl (rowERegion l) = true := by rw [rowERegion, cl, clL_enc]; rfl; intro a; exact cl_encRegion _ _ _ a
def rowELIns (l : List (List Ins)) : AV := .row .no (l.map rowEIns)
theorem rowELIns_def (l : List (List Ins)) : rowELIns l = .row .no (l.map rowEIns) := rfl
theorem shut_rowELIns (l : List (List Ins)) : shut (rowELIns l) = rowELIns l := by rw [rowELIns, shut, shutL_enc]; rfl; intro a; exact shut_rowEIns a
theorem cl_rowELIns (nb ng nl : Nat) (l : List (List Ins)) : cl nb ng nl (rowELIns l) = true := by rw [rowELIns, cl, clL_enc]; rfl; intro a; exact cl_rowEIns _ _ _ a
def cellsFont (x : Font) : List AV := [AV.int x.unit, rowEGlyph x.glyphs, rowEChar x.chars, rowELookup x.lookups, rowEFeature x.features, rowEAxis x.axes, rowERegion x.regions, rowELIns x.funcs, rowEI x.cvt]
theorem cellsFont_def (x : Font) : cellsFont x = [AV.int x.unit, rowEGlyph x.glyphs, rowEChar x.chars, rowELookup x.lookups, rowEFeature x.features, rowEAxis x.axes, rowERegion x.regions, rowELIns x.funcs, rowEI x.cvt] := (fun _ : Unit => rfl) ()
def encFont (x : Font) : AV := .agg (cellsFont x)
theorem encFont_def (x : Font) : encFont x = .agg [AV.int x.unit, rowEGlyph x.glyphs, rowEChar x.chars, rowELookup x.lookups, rowEFeature x.features, rowEAxis x.axes, rowERegion x.regions, rowELIns x.funcs, rowEI x.cvt] := rfl
theorem w_encFont (x : Font) : (encFont x).w = some 9 := rfl
theorem cells_encFont (x : Font) : (encFont x).cells = [AV.int x.unit, rowEGlyph x.glyphs, rowEChar x.chars, rowELookup x.lookups, rowEFeature x.features, rowEAxis x.axes, rowERegion x.regions, rowELIns x.funcs, rowEI x.cvt] := rfl
theorem isAgg_encFont (x : Font) : (encFont x).isAgg = true := rfl
theorem shut_encFont (x : Font) : shut (encFont x) = encFont x := by simp only [encFont_def, shut, shutL, shut_rowEAxis, shut_rowEChar, shut_rowEFeature, shut_rowEGlyph, shut_rowEI, shut_rowELIns, shut_rowELookup, shut_rowERegion]
theorem cl_encFont (nb ng nl : Nat) (x : Font) : cl nb ng nl (encFont x) = true := by simp only [encFont_def, cl, clL, Bool.and_self, cl_rowEAxis, cl_rowEChar, cl_rowEFeature, cl_rowEGlyph, cl_rowEI, cl_rowELIns, cl_rowELookup, cl_rowERegion]
structure Item where
  glyph : Int
  cluster : Int
  form : Int
  advance : Int
  x : Int
  y : Int
  deriving DecidableEq
instance : Inhabited Item := ⟨⟨default, default, default, default, default, default⟩⟩
def cellsItem (x : Item) : List AV := [AV.int x.glyph, AV.int x.cluster, AV.int x.form, AV.int x.advance, AV.int x.x, AV.int x.y]
theorem cellsItem_def (x : Item) : cellsItem x = [AV.int x.glyph, AV.int x.cluster, AV.int x.form, AV.int x.advance, AV.int x.x, AV.int x.y] := (fun _ : Unit => rfl) ()
def encItem (x : Item) : AV := .agg (cellsItem x)
theorem encItem_def (x : Item) : encItem x = .agg [AV.int x.glyph, AV.int x.cluster, AV.int x.form, AV.int x.advance, AV.int x.x, AV.int x.y] := rfl
theorem w_encItem (x : Item) : (encItem x).w = some 6 := rfl
theorem cells_encItem (x : Item) : (encItem x).cells = [AV.int x.glyph, AV.int x.cluster, AV.int x.form, AV.int x.advance, AV.int x.x, AV.int x.y] := rfl
theorem isAgg_encItem (x : Item) : (encItem x).isAgg = true := rfl
theorem eql_Item (x y : Item) (K : AV → Prop) : abin Try.prog .eql 51 (encItem x) (encItem y) K = K (.lit (.bool (decide (x = y)))) := by
  have e : ([x.glyph, x.cluster, x.form, x.advance, x.x, x.y] == [y.glyph, y.cluster, y.form, y.advance, y.x, y.y]) = decide (x = y) := by rw [Bool.eq_iff_iff, decide_eq_true_eq]; cases x; cases y; simp [and_assoc]
  rw [← e]; refine propext ⟨fun h => h.2.2.2.2.2.2, fun h => ⟨by kernel_rfl, by kernel_rfl, by kernel_rfl, by kernel_rfl, by kernel_rfl, by kernel_rfl, h⟩⟩
theorem neq_Item (x y : Item) (K : AV → Prop) : abin Try.prog .neq 51 (encItem x) (encItem y) K = K (.lit (.bool (!decide (x = y)))) := by
  have e : ([x.glyph, x.cluster, x.form, x.advance, x.x, x.y] == [y.glyph, y.cluster, y.form, y.advance, y.x, y.y]) = decide (x = y) := by rw [Bool.eq_iff_iff, decide_eq_true_eq]; cases x; cases y; simp [and_assoc]
  rw [← e]; refine propext ⟨fun h => h.2.2.2.2.2.2, fun h => ⟨by kernel_rfl, by kernel_rfl, by kernel_rfl, by kernel_rfl, by kernel_rfl, by kernel_rfl, h⟩⟩
theorem shut_encItem (x : Item) : shut (encItem x) = encItem x := by simp only [encItem_def, shut, shutL]
theorem cl_encItem (nb ng nl : Nat) (x : Item) : cl nb ng nl (encItem x) = true := by simp only [encItem_def, cl, clL, Bool.and_self]
structure Text where
  f : Font
  l : Lookup
  run : (List Item)
instance : Inhabited Text := ⟨⟨default, default, default⟩⟩
def rowEItem (l : List Item) : AV := .row .no (l.map encItem)
theorem rowEItem_def (l : List Item) : rowEItem l = .row .no (l.map encItem) := rfl
theorem shut_rowEItem (l : List Item) : shut (rowEItem l) = rowEItem l := by rw [rowEItem, shut, shutL_enc]; rfl; intro a; exact shut_encItem a
theorem cl_rowEItem (nb ng nl : Nat) (l : List Item) : cl nb ng nl (rowEItem l) = true := by rw [rowEItem, cl, clL_enc]; rfl; intro a; exact cl_encItem _ _ _ a
def cellsText (x : Text) : List AV := [AV.int x.f.unit, rowEGlyph x.f.glyphs, rowEChar x.f.chars, rowELookup x.f.lookups, rowEFeature x.f.features, rowEAxis x.f.axes, rowERegion x.f.regions, rowELIns x.f.funcs, rowEI x.f.cvt, AV.int x.l.kind, AV.bool x.l.ignore, rowERule x.l.rules, rowEItem x.run]
theorem cellsText_def (x : Text) : cellsText x = [AV.int x.f.unit, rowEGlyph x.f.glyphs, rowEChar x.f.chars, rowELookup x.f.lookups, rowEFeature x.f.features, rowEAxis x.f.axes, rowERegion x.f.regions, rowELIns x.f.funcs, rowEI x.f.cvt, AV.int x.l.kind, AV.bool x.l.ignore, rowERule x.l.rules, rowEItem x.run] := (fun _ : Unit => rfl) ()
def encText (x : Text) : AV := .agg (cellsText x)
theorem encText_def (x : Text) : encText x = .agg [AV.int x.f.unit, rowEGlyph x.f.glyphs, rowEChar x.f.chars, rowELookup x.f.lookups, rowEFeature x.f.features, rowEAxis x.f.axes, rowERegion x.f.regions, rowELIns x.f.funcs, rowEI x.f.cvt, AV.int x.l.kind, AV.bool x.l.ignore, rowERule x.l.rules, rowEItem x.run] := rfl
theorem w_encText (x : Text) : (encText x).w = some 13 := rfl
theorem cells_encText (x : Text) : (encText x).cells = [AV.int x.f.unit, rowEGlyph x.f.glyphs, rowEChar x.f.chars, rowELookup x.f.lookups, rowEFeature x.f.features, rowEAxis x.f.axes, rowERegion x.f.regions, rowELIns x.f.funcs, rowEI x.f.cvt, AV.int x.l.kind, AV.bool x.l.ignore, rowERule x.l.rules, rowEItem x.run] := rfl
theorem isAgg_encText (x : Text) : (encText x).isAgg = true := rfl
theorem shut_encText (x : Text) : shut (encText x) = encText x := by simp only [encText_def, shut, shutL, shut_rowEAxis, shut_rowEChar, shut_rowEFeature, shut_rowEGlyph, shut_rowEI, shut_rowEItem, shut_rowELIns, shut_rowELookup, shut_rowERegion, shut_rowERule]
theorem cl_encText (nb ng nl : Nat) (x : Text) : cl nb ng nl (encText x) = true := by simp only [encText_def, cl, clL, Bool.and_self, cl_rowEAxis, cl_rowEChar, cl_rowEFeature, cl_rowEGlyph, cl_rowEI, cl_rowEItem, cl_rowELIns, cl_rowELookup, cl_rowERegion, cl_rowERule]
structure Ask where
  f : Font
  lookup : Int
  run : (List Item)
  at_ : Int
  forms : (List Int)
instance : Inhabited Ask := ⟨⟨default, default, default, default, default⟩⟩
def cellsAsk (x : Ask) : List AV := [AV.int x.f.unit, rowEGlyph x.f.glyphs, rowEChar x.f.chars, rowELookup x.f.lookups, rowEFeature x.f.features, rowEAxis x.f.axes, rowERegion x.f.regions, rowELIns x.f.funcs, rowEI x.f.cvt, AV.int x.lookup, rowEItem x.run, AV.int x.at_, rowEI x.forms]
theorem cellsAsk_def (x : Ask) : cellsAsk x = [AV.int x.f.unit, rowEGlyph x.f.glyphs, rowEChar x.f.chars, rowELookup x.f.lookups, rowEFeature x.f.features, rowEAxis x.f.axes, rowERegion x.f.regions, rowELIns x.f.funcs, rowEI x.f.cvt, AV.int x.lookup, rowEItem x.run, AV.int x.at_, rowEI x.forms] := (fun _ : Unit => rfl) ()
def encAsk (x : Ask) : AV := .agg (cellsAsk x)
theorem encAsk_def (x : Ask) : encAsk x = .agg [AV.int x.f.unit, rowEGlyph x.f.glyphs, rowEChar x.f.chars, rowELookup x.f.lookups, rowEFeature x.f.features, rowEAxis x.f.axes, rowERegion x.f.regions, rowELIns x.f.funcs, rowEI x.f.cvt, AV.int x.lookup, rowEItem x.run, AV.int x.at_, rowEI x.forms] := rfl
theorem w_encAsk (x : Ask) : (encAsk x).w = some 13 := rfl
theorem cells_encAsk (x : Ask) : (encAsk x).cells = [AV.int x.f.unit, rowEGlyph x.f.glyphs, rowEChar x.f.chars, rowELookup x.f.lookups, rowEFeature x.f.features, rowEAxis x.f.axes, rowERegion x.f.regions, rowELIns x.f.funcs, rowEI x.f.cvt, AV.int x.lookup, rowEItem x.run, AV.int x.at_, rowEI x.forms] := rfl
theorem isAgg_encAsk (x : Ask) : (encAsk x).isAgg = true := rfl
theorem shut_encAsk (x : Ask) : shut (encAsk x) = encAsk x := by simp only [encAsk_def, shut, shutL, shut_rowEAxis, shut_rowEChar, shut_rowEFeature, shut_rowEGlyph, shut_rowEI, shut_rowEItem, shut_rowELIns, shut_rowELookup, shut_rowERegion]
theorem cl_encAsk (nb ng nl : Nat) (x : Ask) : cl nb ng nl (encAsk x) = true := by simp only [encAsk_def, cl, clL, Bool.and_self, cl_rowEAxis, cl_rowEChar, cl_rowEFeature, cl_rowEGlyph, cl_rowEI, cl_rowEItem, cl_rowELIns, cl_rowELookup, cl_rowERegion]
def rowELItem (l : List (List Item)) : AV := .row .no (l.map rowEItem)
theorem rowELItem_def (l : List (List Item)) : rowELItem l = .row .no (l.map rowEItem) := rfl
theorem shut_rowELItem (l : List (List Item)) : shut (rowELItem l) = rowELItem l := by rw [rowELItem, shut, shutL_enc]; rfl; intro a; exact shut_rowEItem a
theorem cl_rowELItem (nb ng nl : Nat) (l : List (List Item)) : cl nb ng nl (rowELItem l) = true := by rw [rowELItem, cl, clL_enc]; rfl; intro a; exact cl_rowEItem _ _ _ a
theorem w_rowEI (l : List Int) : (rowEI l).w = some 1 := rfl
theorem ix_rowEI {P : Program} {t : TypeId} {k : IntKind} {n : Int} {K1 : AV → Prop} (l : List Int) : aindexA P t (rowEI l) (.lit (.int k n)) K1 = match tElem P t with | some e => (match tSize P e with | some sz => 0 < sz ∧ 0 ≤ n ∧ n < l.length ∧ (AV.int (l.getD n.toNat default)).w = some sz ∧ K1 (.eptr (AV.int (l.getD n.toNat default)) 0) | none => False) | none => False := aindexA_enc _ l
theorem len_rowEI {P : Program} {t : TypeId} {K1 : AV → Prop} (l : List Int) : alen P t (rowEI l) K1 = ((tElem P t).isSome = true ∧ K1 (.lit (.int .i64 l.length))) := by rw [rowEI_def, alen_row, List.length_map]
theorem shutL_rowEI (l : List Int) : shutL (l.map (AV.int)) = l.map (AV.int) := by apply shutL_enc; intro a; rfl
theorem ic_rowEI (l : List Int) : isCell (rowEI l) = true := rfl
theorem cells_rowEI (l : List Int) : (rowEI l).cells = [rowEI l] := rfl
theorem w_rowELI (l : List (List Int)) : (rowELI l).w = some 1 := rfl
theorem ix_rowELI {P : Program} {t : TypeId} {k : IntKind} {n : Int} {K1 : AV → Prop} (l : List (List Int)) : aindexA P t (rowELI l) (.lit (.int k n)) K1 = match tElem P t with | some e => (match tSize P e with | some sz => 0 < sz ∧ 0 ≤ n ∧ n < l.length ∧ (rowEI (l.getD n.toNat default)).w = some sz ∧ K1 (.eptr (rowEI (l.getD n.toNat default)) 0) | none => False) | none => False := aindexA_enc _ l
theorem len_rowELI {P : Program} {t : TypeId} {K1 : AV → Prop} (l : List (List Int)) : alen P t (rowELI l) K1 = ((tElem P t).isSome = true ∧ K1 (.lit (.int .i64 l.length))) := by rw [rowELI_def, alen_row, List.length_map]
theorem shutL_rowELI (l : List (List Int)) : shutL (l.map (rowEI)) = l.map (rowEI) := by apply shutL_enc; intro a; exact shut_rowEI a
theorem ic_rowELI (l : List (List Int)) : isCell (rowELI l) = true := rfl
theorem cells_rowELI (l : List (List Int)) : (rowELI l).cells = [rowELI l] := rfl
theorem w_rowECall (l : List Call) : (rowECall l).w = some 1 := rfl
theorem ix_rowECall {P : Program} {t : TypeId} {k : IntKind} {n : Int} {K1 : AV → Prop} (l : List Call) : aindexA P t (rowECall l) (.lit (.int k n)) K1 = match tElem P t with | some e => (match tSize P e with | some sz => 0 < sz ∧ 0 ≤ n ∧ n < l.length ∧ (encCall (l.getD n.toNat default)).w = some sz ∧ K1 (.eptr (encCall (l.getD n.toNat default)) 0) | none => False) | none => False := aindexA_enc _ l
theorem len_rowECall {P : Program} {t : TypeId} {K1 : AV → Prop} (l : List Call) : alen P t (rowECall l) K1 = ((tElem P t).isSome = true ∧ K1 (.lit (.int .i64 l.length))) := by rw [rowECall_def, alen_row, List.length_map]
theorem shutL_rowECall (l : List Call) : shutL (l.map (encCall)) = l.map (encCall) := by apply shutL_enc; intro a; exact shut_encCall a
theorem ic_rowECall (l : List Call) : isCell (rowECall l) = true := rfl
theorem cells_rowECall (l : List Call) : (rowECall l).cells = [rowECall l] := rfl
theorem w_rowERule (l : List Rule) : (rowERule l).w = some 1 := rfl
theorem ix_rowERule {P : Program} {t : TypeId} {k : IntKind} {n : Int} {K1 : AV → Prop} (l : List Rule) : aindexA P t (rowERule l) (.lit (.int k n)) K1 = match tElem P t with | some e => (match tSize P e with | some sz => 0 < sz ∧ 0 ≤ n ∧ n < l.length ∧ (encRule (l.getD n.toNat default)).w = some sz ∧ K1 (.eptr (encRule (l.getD n.toNat default)) 0) | none => False) | none => False := aindexA_enc _ l
theorem len_rowERule {P : Program} {t : TypeId} {K1 : AV → Prop} (l : List Rule) : alen P t (rowERule l) K1 = ((tElem P t).isSome = true ∧ K1 (.lit (.int .i64 l.length))) := by rw [rowERule_def, alen_row, List.length_map]
theorem shutL_rowERule (l : List Rule) : shutL (l.map (encRule)) = l.map (encRule) := by apply shutL_enc; intro a; exact shut_encRule a
theorem ic_rowERule (l : List Rule) : isCell (rowERule l) = true := rfl
theorem cells_rowERule (l : List Rule) : (rowERule l).cells = [rowERule l] := rfl
theorem w_rowEPoint (l : List Point) : (rowEPoint l).w = some 1 := rfl
theorem ix_rowEPoint {P : Program} {t : TypeId} {k : IntKind} {n : Int} {K1 : AV → Prop} (l : List Point) : aindexA P t (rowEPoint l) (.lit (.int k n)) K1 = match tElem P t with | some e => (match tSize P e with | some sz => 0 < sz ∧ 0 ≤ n ∧ n < l.length ∧ (encPoint (l.getD n.toNat default)).w = some sz ∧ K1 (.eptr (encPoint (l.getD n.toNat default)) 0) | none => False) | none => False := aindexA_enc _ l
theorem len_rowEPoint {P : Program} {t : TypeId} {K1 : AV → Prop} (l : List Point) : alen P t (rowEPoint l) K1 = ((tElem P t).isSome = true ∧ K1 (.lit (.int .i64 l.length))) := by rw [rowEPoint_def, alen_row, List.length_map]
theorem shutL_rowEPoint (l : List Point) : shutL (l.map (encPoint)) = l.map (encPoint) := by apply shutL_enc; intro a; exact shut_encPoint a
theorem ic_rowEPoint (l : List Point) : isCell (rowEPoint l) = true := rfl
theorem cells_rowEPoint (l : List Point) : (rowEPoint l).cells = [rowEPoint l] := rfl
theorem w_rowEPart (l : List Part) : (rowEPart l).w = some 1 := rfl
theorem ix_rowEPart {P : Program} {t : TypeId} {k : IntKind} {n : Int} {K1 : AV → Prop} (l : List Part) : aindexA P t (rowEPart l) (.lit (.int k n)) K1 = match tElem P t with | some e => (match tSize P e with | some sz => 0 < sz ∧ 0 ≤ n ∧ n < l.length ∧ (encPart (l.getD n.toNat default)).w = some sz ∧ K1 (.eptr (encPart (l.getD n.toNat default)) 0) | none => False) | none => False := aindexA_enc _ l
theorem len_rowEPart {P : Program} {t : TypeId} {K1 : AV → Prop} (l : List Part) : alen P t (rowEPart l) K1 = ((tElem P t).isSome = true ∧ K1 (.lit (.int .i64 l.length))) := by rw [rowEPart_def, alen_row, List.length_map]
theorem shutL_rowEPart (l : List Part) : shutL (l.map (encPart)) = l.map (encPart) := by apply shutL_enc; intro a; exact shut_encPart a
theorem ic_rowEPart (l : List Part) : isCell (rowEPart l) = true := rfl
theorem cells_rowEPart (l : List Part) : (rowEPart l).cells = [rowEPart l] := rfl
theorem w_rowEAnchor (l : List Anchor) : (rowEAnchor l).w = some 1 := rfl
theorem ix_rowEAnchor {P : Program} {t : TypeId} {k : IntKind} {n : Int} {K1 : AV → Prop} (l : List Anchor) : aindexA P t (rowEAnchor l) (.lit (.int k n)) K1 = match tElem P t with | some e => (match tSize P e with | some sz => 0 < sz ∧ 0 ≤ n ∧ n < l.length ∧ (encAnchor (l.getD n.toNat default)).w = some sz ∧ K1 (.eptr (encAnchor (l.getD n.toNat default)) 0) | none => False) | none => False := aindexA_enc _ l
theorem len_rowEAnchor {P : Program} {t : TypeId} {K1 : AV → Prop} (l : List Anchor) : alen P t (rowEAnchor l) K1 = ((tElem P t).isSome = true ∧ K1 (.lit (.int .i64 l.length))) := by rw [rowEAnchor_def, alen_row, List.length_map]
theorem shutL_rowEAnchor (l : List Anchor) : shutL (l.map (encAnchor)) = l.map (encAnchor) := by apply shutL_enc; intro a; exact shut_encAnchor a
theorem ic_rowEAnchor (l : List Anchor) : isCell (rowEAnchor l) = true := rfl
theorem cells_rowEAnchor (l : List Anchor) : (rowEAnchor l).cells = [rowEAnchor l] := rfl
theorem w_rowEDelta (l : List Delta) : (rowEDelta l).w = some 1 := rfl
theorem ix_rowEDelta {P : Program} {t : TypeId} {k : IntKind} {n : Int} {K1 : AV → Prop} (l : List Delta) : aindexA P t (rowEDelta l) (.lit (.int k n)) K1 = match tElem P t with | some e => (match tSize P e with | some sz => 0 < sz ∧ 0 ≤ n ∧ n < l.length ∧ (encDelta (l.getD n.toNat default)).w = some sz ∧ K1 (.eptr (encDelta (l.getD n.toNat default)) 0) | none => False) | none => False := aindexA_enc _ l
theorem len_rowEDelta {P : Program} {t : TypeId} {K1 : AV → Prop} (l : List Delta) : alen P t (rowEDelta l) K1 = ((tElem P t).isSome = true ∧ K1 (.lit (.int .i64 l.length))) := by rw [rowEDelta_def, alen_row, List.length_map]
theorem shutL_rowEDelta (l : List Delta) : shutL (l.map (encDelta)) = l.map (encDelta) := by apply shutL_enc; intro a; exact shut_encDelta a
theorem ic_rowEDelta (l : List Delta) : isCell (rowEDelta l) = true := rfl
theorem cells_rowEDelta (l : List Delta) : (rowEDelta l).cells = [rowEDelta l] := rfl
theorem w_rowEIns (l : List Ins) : (rowEIns l).w = some 1 := rfl
theorem ix_rowEIns {P : Program} {t : TypeId} {k : IntKind} {n : Int} {K1 : AV → Prop} (l : List Ins) : aindexA P t (rowEIns l) (.lit (.int k n)) K1 = match tElem P t with | some e => (match tSize P e with | some sz => 0 < sz ∧ 0 ≤ n ∧ n < l.length ∧ (encIns (l.getD n.toNat default)).w = some sz ∧ K1 (.eptr (encIns (l.getD n.toNat default)) 0) | none => False) | none => False := aindexA_enc _ l
theorem len_rowEIns {P : Program} {t : TypeId} {K1 : AV → Prop} (l : List Ins) : alen P t (rowEIns l) K1 = ((tElem P t).isSome = true ∧ K1 (.lit (.int .i64 l.length))) := by rw [rowEIns_def, alen_row, List.length_map]
theorem shutL_rowEIns (l : List Ins) : shutL (l.map (encIns)) = l.map (encIns) := by apply shutL_enc; intro a; exact shut_encIns a
theorem ic_rowEIns (l : List Ins) : isCell (rowEIns l) = true := rfl
theorem cells_rowEIns (l : List Ins) : (rowEIns l).cells = [rowEIns l] := rfl
theorem w_rowETent (l : List Tent) : (rowETent l).w = some 1 := rfl
theorem ix_rowETent {P : Program} {t : TypeId} {k : IntKind} {n : Int} {K1 : AV → Prop} (l : List Tent) : aindexA P t (rowETent l) (.lit (.int k n)) K1 = match tElem P t with | some e => (match tSize P e with | some sz => 0 < sz ∧ 0 ≤ n ∧ n < l.length ∧ (encTent (l.getD n.toNat default)).w = some sz ∧ K1 (.eptr (encTent (l.getD n.toNat default)) 0) | none => False) | none => False := aindexA_enc _ l
theorem len_rowETent {P : Program} {t : TypeId} {K1 : AV → Prop} (l : List Tent) : alen P t (rowETent l) K1 = ((tElem P t).isSome = true ∧ K1 (.lit (.int .i64 l.length))) := by rw [rowETent_def, alen_row, List.length_map]
theorem shutL_rowETent (l : List Tent) : shutL (l.map (encTent)) = l.map (encTent) := by apply shutL_enc; intro a; exact shut_encTent a
theorem ic_rowETent (l : List Tent) : isCell (rowETent l) = true := rfl
theorem cells_rowETent (l : List Tent) : (rowETent l).cells = [rowETent l] := rfl
theorem w_rowEGlyph (l : List Glyph) : (rowEGlyph l).w = some 1 := rfl
theorem ix_rowEGlyph {P : Program} {t : TypeId} {k : IntKind} {n : Int} {K1 : AV → Prop} (l : List Glyph) : aindexA P t (rowEGlyph l) (.lit (.int k n)) K1 = match tElem P t with | some e => (match tSize P e with | some sz => 0 < sz ∧ 0 ≤ n ∧ n < l.length ∧ (encGlyph (l.getD n.toNat default)).w = some sz ∧ K1 (.eptr (encGlyph (l.getD n.toNat default)) 0) | none => False) | none => False := aindexA_enc _ l
theorem len_rowEGlyph {P : Program} {t : TypeId} {K1 : AV → Prop} (l : List Glyph) : alen P t (rowEGlyph l) K1 = ((tElem P t).isSome = true ∧ K1 (.lit (.int .i64 l.length))) := by rw [rowEGlyph_def, alen_row, List.length_map]
theorem shutL_rowEGlyph (l : List Glyph) : shutL (l.map (encGlyph)) = l.map (encGlyph) := by apply shutL_enc; intro a; exact shut_encGlyph a
theorem ic_rowEGlyph (l : List Glyph) : isCell (rowEGlyph l) = true := rfl
theorem cells_rowEGlyph (l : List Glyph) : (rowEGlyph l).cells = [rowEGlyph l] := rfl
theorem w_rowEChar (l : List Char) : (rowEChar l).w = some 1 := rfl
theorem ix_rowEChar {P : Program} {t : TypeId} {k : IntKind} {n : Int} {K1 : AV → Prop} (l : List Char) : aindexA P t (rowEChar l) (.lit (.int k n)) K1 = match tElem P t with | some e => (match tSize P e with | some sz => 0 < sz ∧ 0 ≤ n ∧ n < l.length ∧ (encChar (l.getD n.toNat default)).w = some sz ∧ K1 (.eptr (encChar (l.getD n.toNat default)) 0) | none => False) | none => False := aindexA_enc _ l
theorem len_rowEChar {P : Program} {t : TypeId} {K1 : AV → Prop} (l : List Char) : alen P t (rowEChar l) K1 = ((tElem P t).isSome = true ∧ K1 (.lit (.int .i64 l.length))) := by rw [rowEChar_def, alen_row, List.length_map]
theorem shutL_rowEChar (l : List Char) : shutL (l.map (encChar)) = l.map (encChar) := by apply shutL_enc; intro a; exact shut_encChar a
theorem ic_rowEChar (l : List Char) : isCell (rowEChar l) = true := rfl
theorem cells_rowEChar (l : List Char) : (rowEChar l).cells = [rowEChar l] := rfl
theorem w_rowELookup (l : List Lookup) : (rowELookup l).w = some 1 := rfl
theorem ix_rowELookup {P : Program} {t : TypeId} {k : IntKind} {n : Int} {K1 : AV → Prop} (l : List Lookup) : aindexA P t (rowELookup l) (.lit (.int k n)) K1 = match tElem P t with | some e => (match tSize P e with | some sz => 0 < sz ∧ 0 ≤ n ∧ n < l.length ∧ (encLookup (l.getD n.toNat default)).w = some sz ∧ K1 (.eptr (encLookup (l.getD n.toNat default)) 0) | none => False) | none => False := aindexA_enc _ l
theorem len_rowELookup {P : Program} {t : TypeId} {K1 : AV → Prop} (l : List Lookup) : alen P t (rowELookup l) K1 = ((tElem P t).isSome = true ∧ K1 (.lit (.int .i64 l.length))) := by rw [rowELookup_def, alen_row, List.length_map]
theorem shutL_rowELookup (l : List Lookup) : shutL (l.map (encLookup)) = l.map (encLookup) := by apply shutL_enc; intro a; exact shut_encLookup a
theorem ic_rowELookup (l : List Lookup) : isCell (rowELookup l) = true := rfl
theorem cells_rowELookup (l : List Lookup) : (rowELookup l).cells = [rowELookup l] := rfl
theorem w_rowEFeature (l : List Feature) : (rowEFeature l).w = some 1 := rfl
theorem ix_rowEFeature {P : Program} {t : TypeId} {k : IntKind} {n : Int} {K1 : AV → Prop} (l : List Feature) : aindexA P t (rowEFeature l) (.lit (.int k n)) K1 = match tElem P t with | some e => (match tSize P e with | some sz => 0 < sz ∧ 0 ≤ n ∧ n < l.length ∧ (encFeature (l.getD n.toNat default)).w = some sz ∧ K1 (.eptr (encFeature (l.getD n.toNat default)) 0) | none => False) | none => False := aindexA_enc _ l
theorem len_rowEFeature {P : Program} {t : TypeId} {K1 : AV → Prop} (l : List Feature) : alen P t (rowEFeature l) K1 = ((tElem P t).isSome = true ∧ K1 (.lit (.int .i64 l.length))) := by rw [rowEFeature_def, alen_row, List.length_map]
theorem shutL_rowEFeature (l : List Feature) : shutL (l.map (encFeature)) = l.map (encFeature) := by apply shutL_enc; intro a; exact shut_encFeature a
theorem ic_rowEFeature (l : List Feature) : isCell (rowEFeature l) = true := rfl
theorem cells_rowEFeature (l : List Feature) : (rowEFeature l).cells = [rowEFeature l] := rfl
theorem w_rowEAxis (l : List Axis) : (rowEAxis l).w = some 1 := rfl
theorem ix_rowEAxis {P : Program} {t : TypeId} {k : IntKind} {n : Int} {K1 : AV → Prop} (l : List Axis) : aindexA P t (rowEAxis l) (.lit (.int k n)) K1 = match tElem P t with | some e => (match tSize P e with | some sz => 0 < sz ∧ 0 ≤ n ∧ n < l.length ∧ (encAxis (l.getD n.toNat default)).w = some sz ∧ K1 (.eptr (encAxis (l.getD n.toNat default)) 0) | none => False) | none => False := aindexA_enc _ l
theorem len_rowEAxis {P : Program} {t : TypeId} {K1 : AV → Prop} (l : List Axis) : alen P t (rowEAxis l) K1 = ((tElem P t).isSome = true ∧ K1 (.lit (.int .i64 l.length))) := by rw [rowEAxis_def, alen_row, List.length_map]
theorem shutL_rowEAxis (l : List Axis) : shutL (l.map (encAxis)) = l.map (encAxis) := by apply shutL_enc; intro a; exact shut_encAxis a
theorem ic_rowEAxis (l : List Axis) : isCell (rowEAxis l) = true := rfl
theorem cells_rowEAxis (l : List Axis) : (rowEAxis l).cells = [rowEAxis l] := rfl
theorem w_rowERegion (l : List Region) : (rowERegion l).w = some 1 := rfl
theorem ix_rowERegion {P : Program} {t : TypeId} {k : IntKind} {n : Int} {K1 : AV → Prop} (l : List Region) : aindexA P t (rowERegion l) (.lit (.int k n)) K1 = match tElem P t with | some e => (match tSize P e with | some sz => 0 < sz ∧ 0 ≤ n ∧ n < l.length ∧ (encRegion (l.getD n.toNat default)).w = some sz ∧ K1 (.eptr (encRegion (l.getD n.toNat default)) 0) | none => False) | none => False := aindexA_enc _ l
theorem len_rowERegion {P : Program} {t : TypeId} {K1 : AV → Prop} (l : List Region) : alen P t (rowERegion l) K1 = ((tElem P t).isSome = true ∧ K1 (.lit (.int .i64 l.length))) := by rw [rowERegion_def, alen_row, List.length_map]
theorem shutL_rowERegion (l : List Region) : shutL (l.map (encRegion)) = l.map (encRegion) := by apply shutL_enc; intro a; exact shut_encRegion a
theorem ic_rowERegion (l : List Region) : isCell (rowERegion l) = true := rfl
theorem cells_rowERegion (l : List Region) : (rowERegion l).cells = [rowERegion l] := rfl
theorem w_rowELIns (l : List (List Ins)) : (rowELIns l).w = some 1 := rfl
theorem ix_rowELIns {P : Program} {t : TypeId} {k : IntKind} {n : Int} {K1 : AV → Prop} (l : List (List Ins)) : aindexA P t (rowELIns l) (.lit (.int k n)) K1 = match tElem P t with | some e => (match tSize P e with | some sz => 0 < sz ∧ 0 ≤ n ∧ n < l.length ∧ (rowEIns (l.getD n.toNat default)).w = some sz ∧ K1 (.eptr (rowEIns (l.getD n.toNat default)) 0) | none => False) | none => False := aindexA_enc _ l
theorem len_rowELIns {P : Program} {t : TypeId} {K1 : AV → Prop} (l : List (List Ins)) : alen P t (rowELIns l) K1 = ((tElem P t).isSome = true ∧ K1 (.lit (.int .i64 l.length))) := by rw [rowELIns_def, alen_row, List.length_map]
theorem shutL_rowELIns (l : List (List Ins)) : shutL (l.map (rowEIns)) = l.map (rowEIns) := by apply shutL_enc; intro a; exact shut_rowEIns a
theorem ic_rowELIns (l : List (List Ins)) : isCell (rowELIns l) = true := rfl
theorem cells_rowELIns (l : List (List Ins)) : (rowELIns l).cells = [rowELIns l] := rfl
theorem w_rowEItem (l : List Item) : (rowEItem l).w = some 1 := rfl
theorem ix_rowEItem {P : Program} {t : TypeId} {k : IntKind} {n : Int} {K1 : AV → Prop} (l : List Item) : aindexA P t (rowEItem l) (.lit (.int k n)) K1 = match tElem P t with | some e => (match tSize P e with | some sz => 0 < sz ∧ 0 ≤ n ∧ n < l.length ∧ (encItem (l.getD n.toNat default)).w = some sz ∧ K1 (.eptr (encItem (l.getD n.toNat default)) 0) | none => False) | none => False := aindexA_enc _ l
theorem len_rowEItem {P : Program} {t : TypeId} {K1 : AV → Prop} (l : List Item) : alen P t (rowEItem l) K1 = ((tElem P t).isSome = true ∧ K1 (.lit (.int .i64 l.length))) := by rw [rowEItem_def, alen_row, List.length_map]
theorem shutL_rowEItem (l : List Item) : shutL (l.map (encItem)) = l.map (encItem) := by apply shutL_enc; intro a; exact shut_encItem a
theorem ic_rowEItem (l : List Item) : isCell (rowEItem l) = true := rfl
theorem cells_rowEItem (l : List Item) : (rowEItem l).cells = [rowEItem l] := rfl
theorem w_rowELItem (l : List (List Item)) : (rowELItem l).w = some 1 := rfl
theorem ix_rowELItem {P : Program} {t : TypeId} {k : IntKind} {n : Int} {K1 : AV → Prop} (l : List (List Item)) : aindexA P t (rowELItem l) (.lit (.int k n)) K1 = match tElem P t with | some e => (match tSize P e with | some sz => 0 < sz ∧ 0 ≤ n ∧ n < l.length ∧ (rowEItem (l.getD n.toNat default)).w = some sz ∧ K1 (.eptr (rowEItem (l.getD n.toNat default)) 0) | none => False) | none => False := aindexA_enc _ l
theorem len_rowELItem {P : Program} {t : TypeId} {K1 : AV → Prop} (l : List (List Item)) : alen P t (rowELItem l) K1 = ((tElem P t).isSome = true ∧ K1 (.lit (.int .i64 l.length))) := by rw [rowELItem_def, alen_row, List.length_map]
theorem shutL_rowELItem (l : List (List Item)) : shutL (l.map (rowEItem)) = l.map (rowEItem) := by apply shutL_enc; intro a; exact shut_rowEItem a
theorem ic_rowELItem (l : List (List Item)) : isCell (rowELItem l) = true := rfl
theorem cells_rowELItem (l : List (List Item)) : (rowELItem l).cells = [rowELItem l] := rfl
attribute [go_sem ↓] eql_Call neq_Call eql_Part neq_Part eql_Anchor neq_Anchor eql_Delta neq_Delta eql_Ins neq_Ins eql_Char neq_Char eql_Tent neq_Tent eql_Item neq_Item
attribute [go_sem] aZero_29 aZero_3 aZero_31 aZero_32 aZero_4 aZero_44 aZero_48 aZero_51 aZero_55 aZero_58 aZero_80 tAgg_22 tAgg_24 tAgg_29 tAgg_3 tAgg_31 tAgg_32 tAgg_4 tAgg_42
attribute [go_sem] tAgg_44 tAgg_45 tAgg_46 tAgg_48 tAgg_51 tAgg_55 tAgg_58 tAgg_86 tAgg_9 tArr_105 tArr_22 tArr_24 tArr_29 tArr_32 tArr_42 tArr_45 tArr_46 tBytes_29 tBytes_3
attribute [go_sem] tBytes_32 tBytes_44 tBytes_48 tBytes_51 tBytes_55 tBytes_80 tElem_105 tElem_22 tElem_24 tElem_29 tElem_32 tElem_42 tElem_45 tElem_46 tField_31_1 tField_31_3
attribute [go_sem] tField_34_0 tField_34_1 tField_34_2 tField_34_3 tField_34_4 tField_44_0 tField_44_1 tField_44_2 tField_48_0 tField_48_1 tField_48_2 tField_48_3 tField_48_4
attribute [go_sem] tField_48_5 tField_51_0 tField_51_1 tField_51_2 tField_51_3 tField_55_0 tField_55_1 tField_58_0 tField_58_1 tField_58_2 tField_80_2 tPlaces_31 tPlaces_44
attribute [go_sem] tPlaces_48 tPlaces_51 tPlaces_55 tPlaces_58 tPlaces_80 tSize_22 tSize_24 tSize_29 tSize_3 tSize_31 tSize_32 tSize_4 tSize_42 tSize_44 tSize_45 tSize_46 tSize_48
attribute [go_sem] tSize_51 tSize_55 tSize_58 tSize_80 tSize_86 tZ_29 tZ_3 tZ_31 tZ_32 tZ_4 tZ_44 tZ_48 tZ_51 tZ_55 tZ_58 tZ_80 w_encCall cells_encCall isAgg_encCall w_encRule
attribute [go_sem] cells_encRule isAgg_encRule w_encLookup cells_encLookup isAgg_encLookup w_encPoint cells_encPoint isAgg_encPoint w_encOutline cells_encOutline isAgg_encOutline
attribute [go_sem] w_encPart cells_encPart isAgg_encPart w_encAnchor cells_encAnchor isAgg_encAnchor w_encDelta cells_encDelta isAgg_encDelta w_encIns cells_encIns isAgg_encIns
attribute [go_sem] w_encGlyph cells_encGlyph isAgg_encGlyph w_encChar cells_encChar isAgg_encChar w_encFeature cells_encFeature isAgg_encFeature w_encAxis cells_encAxis
attribute [go_sem] isAgg_encAxis w_encTent cells_encTent isAgg_encTent w_encRegion cells_encRegion isAgg_encRegion w_encFont cells_encFont isAgg_encFont w_encItem cells_encItem
attribute [go_sem] isAgg_encItem w_encText cells_encText isAgg_encText w_encAsk cells_encAsk isAgg_encAsk w_rowEI ic_rowEI cells_rowEI ix_rowEI len_rowEI w_rowELI ic_rowELI
attribute [go_sem] cells_rowELI ix_rowELI len_rowELI w_rowECall ic_rowECall cells_rowECall ix_rowECall len_rowECall w_rowERule ic_rowERule cells_rowERule ix_rowERule len_rowERule
attribute [go_sem] w_rowEPoint ic_rowEPoint cells_rowEPoint ix_rowEPoint len_rowEPoint w_rowEPart ic_rowEPart cells_rowEPart ix_rowEPart len_rowEPart w_rowEAnchor ic_rowEAnchor
attribute [go_sem] cells_rowEAnchor ix_rowEAnchor len_rowEAnchor w_rowEDelta ic_rowEDelta cells_rowEDelta ix_rowEDelta len_rowEDelta w_rowEIns ic_rowEIns cells_rowEIns ix_rowEIns
attribute [go_sem] len_rowEIns w_rowETent ic_rowETent cells_rowETent ix_rowETent len_rowETent w_rowEGlyph ic_rowEGlyph cells_rowEGlyph ix_rowEGlyph len_rowEGlyph w_rowEChar
attribute [go_sem] ic_rowEChar cells_rowEChar ix_rowEChar len_rowEChar w_rowELookup ic_rowELookup cells_rowELookup ix_rowELookup len_rowELookup w_rowEFeature ic_rowEFeature
attribute [go_sem] cells_rowEFeature ix_rowEFeature len_rowEFeature w_rowEAxis ic_rowEAxis cells_rowEAxis ix_rowEAxis len_rowEAxis w_rowERegion ic_rowERegion cells_rowERegion
attribute [go_sem] ix_rowERegion len_rowERegion w_rowELIns ic_rowELIns cells_rowELIns ix_rowELIns len_rowELIns w_rowEItem ic_rowEItem cells_rowEItem ix_rowEItem len_rowEItem
attribute [go_sem] w_rowELItem ic_rowELItem cells_rowELItem ix_rowELItem len_rowELItem shutG_any shutL_rowEI shutL_rowELI shutL_rowECall shutL_rowERule shutL_rowEPoint
attribute [go_sem] shutL_rowEPart shutL_rowEAnchor shutL_rowEDelta shutL_rowEIns shutL_rowETent shutL_rowEGlyph shutL_rowEChar shutL_rowELookup shutL_rowEFeature shutL_rowEAxis
attribute [go_sem] shutL_rowERegion shutL_rowELIns shutL_rowEItem shutL_rowELItem shut_rowEI shut_rowELI shut_rowECall shut_rowERule shut_rowEPoint shut_rowEPart shut_rowEAnchor
attribute [go_sem] shut_rowEDelta shut_rowEIns shut_rowETent shut_rowEGlyph shut_rowEChar shut_rowELookup shut_rowEFeature shut_rowEAxis shut_rowERegion shut_rowELIns shut_rowEItem
attribute [go_sem] shut_rowELItem shut_encCall shut_encRule shut_encLookup shut_encPoint shut_encOutline shut_encPart shut_encAnchor shut_encDelta shut_encIns shut_encGlyph
attribute [go_sem] shut_encChar shut_encFeature shut_encAxis shut_encTent shut_encRegion shut_encFont shut_encItem shut_encText shut_encAsk cl_rowEI cl_rowELI cl_rowECall
attribute [go_sem] cl_rowERule cl_rowEPoint cl_rowEPart cl_rowEAnchor cl_rowEDelta cl_rowEIns cl_rowETent cl_rowEGlyph cl_rowEChar cl_rowELookup cl_rowEFeature cl_rowEAxis
attribute [go_sem] cl_rowERegion cl_rowELIns cl_rowEItem cl_rowELItem cl_encCall cl_encRule cl_encLookup cl_encPoint cl_encOutline cl_encPart cl_encAnchor cl_encDelta cl_encIns
attribute [go_sem] cl_encGlyph cl_encChar cl_encFeature cl_encAxis cl_encTent cl_encRegion cl_encFont cl_encItem cl_encText cl_encAsk
end Go.V
