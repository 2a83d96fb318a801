/- The types, fields and functions of the program, as the rules look them up. -/
import Derived.Test.YtohbfncogdligaaSxOps
import Derived.Test.YtohbfncogdligaaChecked
namespace Go.Sx.Try
open Go Go.Proofs

abbrev ty2 := Ty.mk (P := Try.prog) (t := 2) Try.underlying2 Try.sizeOf2 Try.isAgg2
attribute [instance] ty2
abbrev ty3 := Ty.mk (P := Try.prog) (t := 3) Try.underlying3 Try.sizeOf3 Try.isAgg3
attribute [instance] ty3
abbrev ty4 := Ty.mk (P := Try.prog) (t := 4) Try.underlying4 Try.sizeOf4 Try.isAgg4
attribute [instance] ty4
abbrev ty9 := Ty.mk (P := Try.prog) (t := 9) Try.underlying9 Try.sizeOf9 Try.isAgg9
attribute [instance] ty9
abbrev ty20 := Ty.mk (P := Try.prog) (t := 20) Try.underlying20 Try.sizeOf20 Try.isAgg20
attribute [instance] ty20
abbrev ty21 := Ty.mk (P := Try.prog) (t := 21) Try.underlying21 Try.sizeOf21 Try.isAgg21
attribute [instance] ty21
abbrev ty24 := Ty.mk (P := Try.prog) (t := 24) Try.underlying24 Try.sizeOf24 Try.isAgg24
attribute [instance] ty24
abbrev ty27 := Ty.mk (P := Try.prog) (t := 27) Try.underlying27 Try.sizeOf27 Try.isAgg27
attribute [instance] ty27
abbrev ty29 := Ty.mk (P := Try.prog) (t := 29) Try.underlying29 Try.sizeOf29 Try.isAgg29
attribute [instance] ty29
abbrev ty30 := Ty.mk (P := Try.prog) (t := 30) Try.underlying30 Try.sizeOf30 Try.isAgg30
attribute [instance] ty30
abbrev ty31 := Ty.mk (P := Try.prog) (t := 31) Try.underlying31 Try.sizeOf31 Try.isAgg31
attribute [instance] ty31
abbrev ty32 := Ty.mk (P := Try.prog) (t := 32) Try.underlying32 Try.sizeOf32 Try.isAgg32
attribute [instance] ty32
abbrev ty34 := Ty.mk (P := Try.prog) (t := 34) Try.underlying34 Try.sizeOf34 Try.isAgg34
attribute [instance] ty34
abbrev ty36 := Ty.mk (P := Try.prog) (t := 36) Try.underlying36 Try.sizeOf36 Try.isAgg36
attribute [instance] ty36
abbrev ty38 := Ty.mk (P := Try.prog) (t := 38) Try.underlying38 Try.sizeOf38 Try.isAgg38
attribute [instance] ty38
abbrev ty40 := Ty.mk (P := Try.prog) (t := 40) Try.underlying40 Try.sizeOf40 Try.isAgg40
attribute [instance] ty40
abbrev ty41 := Ty.mk (P := Try.prog) (t := 41) Try.underlying41 Try.sizeOf41 Try.isAgg41
attribute [instance] ty41
abbrev ty43 := Ty.mk (P := Try.prog) (t := 43) Try.underlying43 Try.sizeOf43 Try.isAgg43
attribute [instance] ty43
abbrev ty45 := Ty.mk (P := Try.prog) (t := 45) Try.underlying45 Try.sizeOf45 Try.isAgg45
attribute [instance] ty45
abbrev ty47 := Ty.mk (P := Try.prog) (t := 47) Try.underlying47 Try.sizeOf47 Try.isAgg47
attribute [instance] ty47
abbrev ty48 := Ty.mk (P := Try.prog) (t := 48) Try.underlying48 Try.sizeOf48 Try.isAgg48
attribute [instance] ty48
abbrev ty51 := Ty.mk (P := Try.prog) (t := 51) Try.underlying51 Try.sizeOf51 Try.isAgg51
attribute [instance] ty51
abbrev ty52 := Ty.mk (P := Try.prog) (t := 52) Try.underlying52 Try.sizeOf52 Try.isAgg52
attribute [instance] ty52
abbrev ty54 := Ty.mk (P := Try.prog) (t := 54) Try.underlying54 Try.sizeOf54 Try.isAgg54
attribute [instance] ty54
abbrev ty56 := Ty.mk (P := Try.prog) (t := 56) Try.underlying56 Try.sizeOf56 Try.isAgg56
attribute [instance] ty56
abbrev ty64 := Ty.mk (P := Try.prog) (t := 64) Try.underlying64 Try.sizeOf64 Try.isAgg64
attribute [instance] ty64
abbrev ty66 := Ty.mk (P := Try.prog) (t := 66) Try.underlying66 Try.sizeOf66 Try.isAgg66
attribute [instance] ty66
abbrev ty76 := Ty.mk (P := Try.prog) (t := 76) Try.underlying76 Try.sizeOf76 Try.isAgg76
attribute [instance] ty76
abbrev ty79 := Ty.mk (P := Try.prog) (t := 79) Try.underlying79 Try.sizeOf79 Try.isAgg79
attribute [instance] ty79
abbrev ty85 := Ty.mk (P := Try.prog) (t := 85) Try.underlying85 Try.sizeOf85 Try.isAgg85
attribute [instance] ty85
abbrev ty92 := Ty.mk (P := Try.prog) (t := 92) Try.underlying92 Try.sizeOf92 Try.isAgg92
attribute [instance] ty92
abbrev ty93 := Ty.mk (P := Try.prog) (t := 93) Try.underlying93 Try.sizeOf93 Try.isAgg93
attribute [instance] ty93
abbrev ty95 := Ty.mk (P := Try.prog) (t := 95) Try.underlying95 Try.sizeOf95 Try.isAgg95
attribute [instance] ty95
abbrev zr21 := Zr.mk (P := Try.prog) (t := 21) Try.zeroValue21
attribute [instance] zr21
abbrev zr24 := Zr.mk (P := Try.prog) (t := 24) Try.zeroValue24
attribute [instance] zr24
abbrev zr27 := Zr.mk (P := Try.prog) (t := 27) Try.zeroValue27
attribute [instance] zr27
abbrev zr34 := Zr.mk (P := Try.prog) (t := 34) Try.zeroValue34
attribute [instance] zr34
abbrev zr38 := Zr.mk (P := Try.prog) (t := 38) Try.zeroValue38
attribute [instance] zr38
abbrev zr40 := Zr.mk (P := Try.prog) (t := 40) Try.zeroValue40
attribute [instance] zr40
abbrev zr41 := Zr.mk (P := Try.prog) (t := 41) Try.zeroValue41
attribute [instance] zr41
abbrev zr43 := Zr.mk (P := Try.prog) (t := 43) Try.zeroValue43
attribute [instance] zr43
abbrev zr47 := Zr.mk (P := Try.prog) (t := 47) Try.zeroValue47
attribute [instance] zr47
abbrev zr48 := Zr.mk (P := Try.prog) (t := 48) Try.zeroValue48
attribute [instance] zr48
abbrev zr51 := Zr.mk (P := Try.prog) (t := 51) Try.zeroValue51
attribute [instance] zr51
abbrev zr54 := Zr.mk (P := Try.prog) (t := 54) Try.zeroValue54
attribute [instance] zr54
abbrev zr56 := Zr.mk (P := Try.prog) (t := 56) Try.zeroValue56
attribute [instance] zr56
abbrev zr64 := Zr.mk (P := Try.prog) (t := 64) Try.zeroValue64
attribute [instance] zr64
abbrev zr66 := Zr.mk (P := Try.prog) (t := 66) Try.zeroValue66
attribute [instance] zr66
abbrev zr79 := Zr.mk (P := Try.prog) (t := 79) Try.zeroValue79
attribute [instance] zr79
abbrev zr85 := Zr.mk (P := Try.prog) (t := 85) Try.zeroValue85
attribute [instance] zr85
abbrev zr95 := Zr.mk (P := Try.prog) (t := 95) Try.zeroValue95
attribute [instance] zr95
instance : By Try.prog 21 4 := ⟨by kernel_rfl⟩
instance : By Try.prog 27 120 := ⟨by kernel_rfl⟩
instance : By Try.prog 40 256 := ⟨by kernel_rfl⟩
instance : By Try.prog 41 24 := ⟨by kernel_rfl⟩
instance : By Try.prog 64 72 := ⟨by kernel_rfl⟩
instance : By Try.prog 66 40 := ⟨by kernel_rfl⟩
instance : By Try.prog 79 352 := ⟨by kernel_rfl⟩
instance : Bd Try.prog 24 [.int .i64 0, .int .i64 0, .int .i32 0] [(0, 1), (1, 1), (2, 1)] := ⟨fun w parts C h => by
  simp [Instr.build, run_underlying Try.underlying24, Value.cells]
  first | simp [h] | (simp at h; simp [h]) | (unfold Instr.fill at h; unfold Instr.fill; simp at h ⊢; simp [h])⟩
instance : Bd Try.prog 27 [.int .i64 0, .int .i64 0, .int .i64 0, .int .i64 0, .int .i64 0, .int .i32 0, .int .i64 0, .int .i64 0, .int .i32 0, .int .i64 0, .int .i64 0, .int .i32 0, .int .i64 0, .int .i64 0, .int .i32 0] [(0, 1), (1, 1), (2, 1), (3, 3), (6, 3), (9, 3), (12, 3)] := ⟨fun w parts C h => by
  simp [Instr.build, run_underlying Try.underlying27, Value.cells]
  first | simp [h] | (simp at h; simp [h]) | (unfold Instr.fill at h; unfold Instr.fill; simp at h ⊢; simp [h])⟩
instance : Bd Try.prog 34 [.int .i64 0, .int .i64 0, .int .i64 0, .int .i64 0, .int .i64 0, .int .i64 0, .slice none 0 0, .slice none 0 0, .slice none 0 0] [(0, 1), (1, 1), (2, 1), (3, 1), (4, 1), (5, 1), (6, 1), (7, 1), (8, 1)] := ⟨fun w parts C h => by
  simp [Instr.build, run_underlying Try.underlying34, Value.cells]
  first | simp [h] | (simp at h; simp [h]) | (unfold Instr.fill at h; unfold Instr.fill; simp at h ⊢; simp [h])⟩
instance : Bd Try.prog 38 [.int .i64 0, .int .i64 0, .int .i64 0, .int .i64 0, .int .i32 0, .int .i64 0, .int .i64 0, .int .i32 0, .int .i64 0, .int .i64 0, .int .i32 0, .int .i64 0, .int .i64 0] [(0, 1), (1, 1), (2, 3), (5, 3), (8, 3), (11, 2)] := ⟨fun w parts C h => by
  simp [Instr.build, run_underlying Try.underlying38, Value.cells]
  first | simp [h] | (simp at h; simp [h]) | (unfold Instr.fill at h; unfold Instr.fill; simp at h ⊢; simp [h])⟩
instance : Bd Try.prog 40 [.int .i64 0, .int .i64 0, .int .i64 0, .int .i64 0, .int .i64 0, .int .i64 0, .int .i32 0, .int .i64 0, .int .i64 0, .int .i32 0, .int .i64 0, .int .i64 0, .int .i32 0, .int .i64 0, .int .i64 0, .int .i32 0, .int .i64 0, .int .i64 0, .int .i64 0, .int .i64 0, .int .i32 0, .int .i64 0, .int .i64 0, .int .i32 0, .int .i64 0, .int .i64 0, .int .i32 0, .int .i64 0, .int .i64 0, .int .i64 0, .bool false, .int .i64 0] [(0, 1), (1, 15), (16, 13), (29, 1), (30, 1), (31, 1)] := ⟨fun w parts C h => by
  simp [Instr.build, run_underlying Try.underlying40, Value.cells]
  first | simp [h] | (simp at h; simp [h]) | (unfold Instr.fill at h; unfold Instr.fill; simp at h ⊢; simp [h])⟩
instance : Bd Try.prog 43 [.int .i64 0, .slice none 0 0] [(0, 1), (1, 1)] := ⟨fun w parts C h => by
  simp [Instr.build, run_underlying Try.underlying43, Value.cells]
  first | simp [h] | (simp at h; simp [h]) | (unfold Instr.fill at h; unfold Instr.fill; simp at h ⊢; simp [h])⟩
instance : Bd Try.prog 47 [.int .i64 0, .int .i64 0, .int .i64 0, .int .i64 0, .slice none 0 0, .slice none 0 0, .slice none 0 0, .slice none 0 0] [(0, 1), (1, 1), (2, 1), (3, 1), (4, 1), (5, 1), (6, 1), (7, 1)] := ⟨fun w parts C h => by
  simp [Instr.build, run_underlying Try.underlying47, Value.cells]
  first | simp [h] | (simp at h; simp [h]) | (unfold Instr.fill at h; unfold Instr.fill; simp at h ⊢; simp [h])⟩
instance : Bd Try.prog 51 [.int .i64 0, .int .i64 0, .int .i64 0, .int .i64 0, .slice none 0 0, .slice none 0 0, .slice none 0 0, .slice none 0 0] [(0, 1), (1, 1), (2, 1), (3, 1), (4, 1), (5, 1), (6, 1), (7, 1)] := ⟨fun w parts C h => by
  simp [Instr.build, run_underlying Try.underlying51, Value.cells]
  first | simp [h] | (simp at h; simp [h]) | (unfold Instr.fill at h; unfold Instr.fill; simp at h ⊢; simp [h])⟩
instance : Bd Try.prog 54 [.int .i64 0, .int .i64 0, .int .i64 0, .int .i64 0, .slice none 0 0, .slice none 0 0, .slice none 0 0, .slice none 0 0, .slice none 0 0, .slice none 0 0, .slice none 0 0, .int .i64 0] [(0, 8), (8, 1), (9, 1), (10, 1), (11, 1)] := ⟨fun w parts C h => by
  simp [Instr.build, run_underlying Try.underlying54, Value.cells]
  first | simp [h] | (simp at h; simp [h]) | (unfold Instr.fill at h; unfold Instr.fill; simp at h ⊢; simp [h])⟩
instance : Bd Try.prog 56 [.int .i64 0, .int .i64 0, .int .i64 0, .int .i64 0, .slice none 0 0, .slice none 0 0, .slice none 0 0, .slice none 0 0, .int .i64 0, .int .i64 0, .int .i64 0, .int .i64 0, .slice none 0 0, .slice none 0 0, .slice none 0 0, .slice none 0 0, .slice none 0 0, .slice none 0 0, .slice none 0 0, .int .i64 0] [(0, 8), (8, 12)] := ⟨fun w parts C h => by
  simp [Instr.build, run_underlying Try.underlying56, Value.cells]
  first | simp [h] | (simp at h; simp [h]) | (unfold Instr.fill at h; unfold Instr.fill; simp at h ⊢; simp [h])⟩
instance : Bd Try.prog 64 [.int .i64 0, .int .i64 0, .int .i64 0, .int .i64 0, .int .i64 0, .int .i64 0, .int .i64 0, .int .i64 0, .int .i32 0] [(0, 1), (1, 1), (2, 1), (3, 1), (4, 1), (5, 1), (6, 1), (7, 1), (8, 1)] := ⟨fun w parts C h => by
  simp [Instr.build, run_underlying Try.underlying64, Value.cells]
  first | simp [h] | (simp at h; simp [h]) | (unfold Instr.fill at h; unfold Instr.fill; simp at h ⊢; simp [h])⟩
instance : Bd Try.prog 66 [.string ⟨#[]⟩, .int .i64 0, .int .i64 0, .int .i64 0] [(0, 1), (1, 1), (2, 1), (3, 1)] := ⟨fun w parts C h => by
  simp [Instr.build, run_underlying Try.underlying66, Value.cells]
  first | simp [h] | (simp at h; simp [h]) | (unfold Instr.fill at h; unfold Instr.fill; simp at h ⊢; simp [h])⟩
instance : Bd Try.prog 79 [.int .i64 0, .int .i64 0, .int .i64 0, .int .i64 0, .int .i64 0, .int .i64 0, .slice none 0 0, .slice none 0 0, .slice none 0 0, .int .i64 0, .slice none 0 0, .int .i64 0, .int .i64 0, .int .i64 0, .int .i64 0, .slice none 0 0, .slice none 0 0, .slice none 0 0, .slice none 0 0, .slice none 0 0, .slice none 0 0, .slice none 0 0] [(0, 9), (9, 2), (11, 8), (19, 1), (20, 1), (21, 1)] := ⟨fun w parts C h => by
  simp [Instr.build, run_underlying Try.underlying79, Value.cells]
  first | simp [h] | (simp at h; simp [h]) | (unfold Instr.fill at h; unfold Instr.fill; simp at h ⊢; simp [h])⟩
instance : Bd Try.prog 85 [] [] := ⟨fun w parts C h => by
  simp [Instr.build, run_underlying Try.underlying85, Value.cells]
  first | simp [h] | (simp at h; simp [h]) | (unfold Instr.fill at h; unfold Instr.fill; simp at h ⊢; simp [h])⟩
instance : Bd Try.prog 95 [.int .i64 0, .int .i64 0, .int .i64 0, .int .i64 0, .int .i64 0, .slice none 0 0, .slice none 0 0, .slice none 0 0] [(0, 1), (1, 1), (2, 1), (3, 1), (4, 1), (5, 1), (6, 1), (7, 1)] := ⟨fun w parts C h => by
  simp [Instr.build, run_underlying Try.underlying95, Value.cells]
  first | simp [h] | (simp at h; simp [h]) | (unfold Instr.fill at h; unfold Instr.fill; simp at h ⊢; simp [h])⟩
instance : Fld Try.prog 24 0 0 := ⟨fun w b o => by simp [Instr.fieldAt, Instr.sureAddr, run_underlying Try.underlying24, fieldPlace, add_plain]⟩
instance : Fld Try.prog 24 1 1 := ⟨fun w b o => by simp [Instr.fieldAt, Instr.sureAddr, run_underlying Try.underlying24, fieldPlace, add_plain]⟩
instance : Fld Try.prog 24 2 2 := ⟨fun w b o => by simp [Instr.fieldAt, Instr.sureAddr, run_underlying Try.underlying24, fieldPlace, add_plain]⟩
instance : Fld Try.prog 27 0 0 := ⟨fun w b o => by simp [Instr.fieldAt, Instr.sureAddr, run_underlying Try.underlying27, fieldPlace, add_plain]⟩
instance : Fld Try.prog 27 1 1 := ⟨fun w b o => by simp [Instr.fieldAt, Instr.sureAddr, run_underlying Try.underlying27, fieldPlace, add_plain]⟩
instance : Fld Try.prog 27 2 2 := ⟨fun w b o => by simp [Instr.fieldAt, Instr.sureAddr, run_underlying Try.underlying27, fieldPlace, add_plain]⟩
instance : Fld Try.prog 27 3 3 := ⟨fun w b o => by simp [Instr.fieldAt, Instr.sureAddr, run_underlying Try.underlying27, fieldPlace, add_plain]⟩
instance : Fld Try.prog 27 4 6 := ⟨fun w b o => by simp [Instr.fieldAt, Instr.sureAddr, run_underlying Try.underlying27, fieldPlace, add_plain]⟩
instance : Fld Try.prog 27 5 9 := ⟨fun w b o => by simp [Instr.fieldAt, Instr.sureAddr, run_underlying Try.underlying27, fieldPlace, add_plain]⟩
instance : Fld Try.prog 27 6 12 := ⟨fun w b o => by simp [Instr.fieldAt, Instr.sureAddr, run_underlying Try.underlying27, fieldPlace, add_plain]⟩
instance : Fld Try.prog 34 0 0 := ⟨fun w b o => by simp [Instr.fieldAt, Instr.sureAddr, run_underlying Try.underlying34, fieldPlace, add_plain]⟩
instance : Fld Try.prog 34 1 1 := ⟨fun w b o => by simp [Instr.fieldAt, Instr.sureAddr, run_underlying Try.underlying34, fieldPlace, add_plain]⟩
instance : Fld Try.prog 34 2 2 := ⟨fun w b o => by simp [Instr.fieldAt, Instr.sureAddr, run_underlying Try.underlying34, fieldPlace, add_plain]⟩
instance : Fld Try.prog 34 3 3 := ⟨fun w b o => by simp [Instr.fieldAt, Instr.sureAddr, run_underlying Try.underlying34, fieldPlace, add_plain]⟩
instance : Fld Try.prog 34 4 4 := ⟨fun w b o => by simp [Instr.fieldAt, Instr.sureAddr, run_underlying Try.underlying34, fieldPlace, add_plain]⟩
instance : Fld Try.prog 34 5 5 := ⟨fun w b o => by simp [Instr.fieldAt, Instr.sureAddr, run_underlying Try.underlying34, fieldPlace, add_plain]⟩
instance : Fld Try.prog 34 6 6 := ⟨fun w b o => by simp [Instr.fieldAt, Instr.sureAddr, run_underlying Try.underlying34, fieldPlace, add_plain]⟩
instance : Fld Try.prog 34 7 7 := ⟨fun w b o => by simp [Instr.fieldAt, Instr.sureAddr, run_underlying Try.underlying34, fieldPlace, add_plain]⟩
instance : Fld Try.prog 38 0 0 := ⟨fun w b o => by simp [Instr.fieldAt, Instr.sureAddr, run_underlying Try.underlying38, fieldPlace, add_plain]⟩
instance : Fld Try.prog 38 2 2 := ⟨fun w b o => by simp [Instr.fieldAt, Instr.sureAddr, run_underlying Try.underlying38, fieldPlace, add_plain]⟩
instance : Fld Try.prog 38 3 5 := ⟨fun w b o => by simp [Instr.fieldAt, Instr.sureAddr, run_underlying Try.underlying38, fieldPlace, add_plain]⟩
instance : Fld Try.prog 40 0 0 := ⟨fun w b o => by simp [Instr.fieldAt, Instr.sureAddr, run_underlying Try.underlying40, fieldPlace, add_plain]⟩
instance : Fld Try.prog 40 1 1 := ⟨fun w b o => by simp [Instr.fieldAt, Instr.sureAddr, run_underlying Try.underlying40, fieldPlace, add_plain]⟩
instance : Fld Try.prog 40 2 16 := ⟨fun w b o => by simp [Instr.fieldAt, Instr.sureAddr, run_underlying Try.underlying40, fieldPlace, add_plain]⟩
instance : Fld Try.prog 40 3 29 := ⟨fun w b o => by simp [Instr.fieldAt, Instr.sureAddr, run_underlying Try.underlying40, fieldPlace, add_plain]⟩
instance : Fld Try.prog 40 5 31 := ⟨fun w b o => by simp [Instr.fieldAt, Instr.sureAddr, run_underlying Try.underlying40, fieldPlace, add_plain]⟩
instance : Fld Try.prog 43 0 0 := ⟨fun w b o => by simp [Instr.fieldAt, Instr.sureAddr, run_underlying Try.underlying43, fieldPlace, add_plain]⟩
instance : Fld Try.prog 43 1 1 := ⟨fun w b o => by simp [Instr.fieldAt, Instr.sureAddr, run_underlying Try.underlying43, fieldPlace, add_plain]⟩
instance : Fld Try.prog 47 0 0 := ⟨fun w b o => by simp [Instr.fieldAt, Instr.sureAddr, run_underlying Try.underlying47, fieldPlace, add_plain]⟩
instance : Fld Try.prog 47 1 1 := ⟨fun w b o => by simp [Instr.fieldAt, Instr.sureAddr, run_underlying Try.underlying47, fieldPlace, add_plain]⟩
instance : Fld Try.prog 47 2 2 := ⟨fun w b o => by simp [Instr.fieldAt, Instr.sureAddr, run_underlying Try.underlying47, fieldPlace, add_plain]⟩
instance : Fld Try.prog 47 3 3 := ⟨fun w b o => by simp [Instr.fieldAt, Instr.sureAddr, run_underlying Try.underlying47, fieldPlace, add_plain]⟩
instance : Fld Try.prog 47 4 4 := ⟨fun w b o => by simp [Instr.fieldAt, Instr.sureAddr, run_underlying Try.underlying47, fieldPlace, add_plain]⟩
instance : Fld Try.prog 47 5 5 := ⟨fun w b o => by simp [Instr.fieldAt, Instr.sureAddr, run_underlying Try.underlying47, fieldPlace, add_plain]⟩
instance : Fld Try.prog 47 6 6 := ⟨fun w b o => by simp [Instr.fieldAt, Instr.sureAddr, run_underlying Try.underlying47, fieldPlace, add_plain]⟩
instance : Fld Try.prog 47 7 7 := ⟨fun w b o => by simp [Instr.fieldAt, Instr.sureAddr, run_underlying Try.underlying47, fieldPlace, add_plain]⟩
instance : Fld Try.prog 51 0 0 := ⟨fun w b o => by simp [Instr.fieldAt, Instr.sureAddr, run_underlying Try.underlying51, fieldPlace, add_plain]⟩
instance : Fld Try.prog 51 1 1 := ⟨fun w b o => by simp [Instr.fieldAt, Instr.sureAddr, run_underlying Try.underlying51, fieldPlace, add_plain]⟩
instance : Fld Try.prog 51 2 2 := ⟨fun w b o => by simp [Instr.fieldAt, Instr.sureAddr, run_underlying Try.underlying51, fieldPlace, add_plain]⟩
instance : Fld Try.prog 51 3 3 := ⟨fun w b o => by simp [Instr.fieldAt, Instr.sureAddr, run_underlying Try.underlying51, fieldPlace, add_plain]⟩
instance : Fld Try.prog 51 4 4 := ⟨fun w b o => by simp [Instr.fieldAt, Instr.sureAddr, run_underlying Try.underlying51, fieldPlace, add_plain]⟩
instance : Fld Try.prog 51 5 5 := ⟨fun w b o => by simp [Instr.fieldAt, Instr.sureAddr, run_underlying Try.underlying51, fieldPlace, add_plain]⟩
instance : Fld Try.prog 51 6 6 := ⟨fun w b o => by simp [Instr.fieldAt, Instr.sureAddr, run_underlying Try.underlying51, fieldPlace, add_plain]⟩
instance : Fld Try.prog 51 7 7 := ⟨fun w b o => by simp [Instr.fieldAt, Instr.sureAddr, run_underlying Try.underlying51, fieldPlace, add_plain]⟩
instance : Fld Try.prog 54 0 0 := ⟨fun w b o => by simp [Instr.fieldAt, Instr.sureAddr, run_underlying Try.underlying54, fieldPlace, add_plain]⟩
instance : Fld Try.prog 54 1 8 := ⟨fun w b o => by simp [Instr.fieldAt, Instr.sureAddr, run_underlying Try.underlying54, fieldPlace, add_plain]⟩
instance : Fld Try.prog 54 3 10 := ⟨fun w b o => by simp [Instr.fieldAt, Instr.sureAddr, run_underlying Try.underlying54, fieldPlace, add_plain]⟩
instance : Fld Try.prog 54 4 11 := ⟨fun w b o => by simp [Instr.fieldAt, Instr.sureAddr, run_underlying Try.underlying54, fieldPlace, add_plain]⟩
instance : Fld Try.prog 56 0 0 := ⟨fun w b o => by simp [Instr.fieldAt, Instr.sureAddr, run_underlying Try.underlying56, fieldPlace, add_plain]⟩
instance : Fld Try.prog 56 1 8 := ⟨fun w b o => by simp [Instr.fieldAt, Instr.sureAddr, run_underlying Try.underlying56, fieldPlace, add_plain]⟩
instance : Fld Try.prog 64 0 0 := ⟨fun w b o => by simp [Instr.fieldAt, Instr.sureAddr, run_underlying Try.underlying64, fieldPlace, add_plain]⟩
instance : Fld Try.prog 64 1 1 := ⟨fun w b o => by simp [Instr.fieldAt, Instr.sureAddr, run_underlying Try.underlying64, fieldPlace, add_plain]⟩
instance : Fld Try.prog 64 6 6 := ⟨fun w b o => by simp [Instr.fieldAt, Instr.sureAddr, run_underlying Try.underlying64, fieldPlace, add_plain]⟩
instance : Fld Try.prog 64 7 7 := ⟨fun w b o => by simp [Instr.fieldAt, Instr.sureAddr, run_underlying Try.underlying64, fieldPlace, add_plain]⟩
instance : Fld Try.prog 64 8 8 := ⟨fun w b o => by simp [Instr.fieldAt, Instr.sureAddr, run_underlying Try.underlying64, fieldPlace, add_plain]⟩
instance : Fld Try.prog 66 1 1 := ⟨fun w b o => by simp [Instr.fieldAt, Instr.sureAddr, run_underlying Try.underlying66, fieldPlace, add_plain]⟩
instance : Fld Try.prog 66 3 3 := ⟨fun w b o => by simp [Instr.fieldAt, Instr.sureAddr, run_underlying Try.underlying66, fieldPlace, add_plain]⟩
instance : Fld Try.prog 79 0 0 := ⟨fun w b o => by simp [Instr.fieldAt, Instr.sureAddr, run_underlying Try.underlying79, fieldPlace, add_plain]⟩
instance : Fld Try.prog 79 1 9 := ⟨fun w b o => by simp [Instr.fieldAt, Instr.sureAddr, run_underlying Try.underlying79, fieldPlace, add_plain]⟩
instance : Fld Try.prog 79 2 11 := ⟨fun w b o => by simp [Instr.fieldAt, Instr.sureAddr, run_underlying Try.underlying79, fieldPlace, add_plain]⟩
instance : Fld Try.prog 79 3 19 := ⟨fun w b o => by simp [Instr.fieldAt, Instr.sureAddr, run_underlying Try.underlying79, fieldPlace, add_plain]⟩
instance : Fld Try.prog 79 4 20 := ⟨fun w b o => by simp [Instr.fieldAt, Instr.sureAddr, run_underlying Try.underlying79, fieldPlace, add_plain]⟩
instance : Fld Try.prog 79 5 21 := ⟨fun w b o => by simp [Instr.fieldAt, Instr.sureAddr, run_underlying Try.underlying79, fieldPlace, add_plain]⟩
instance : Fld Try.prog 95 0 0 := ⟨fun w b o => by simp [Instr.fieldAt, Instr.sureAddr, run_underlying Try.underlying95, fieldPlace, add_plain]⟩
instance : Fld Try.prog 95 1 1 := ⟨fun w b o => by simp [Instr.fieldAt, Instr.sureAddr, run_underlying Try.underlying95, fieldPlace, add_plain]⟩
instance : Cl Try.prog 2 := ⟨fun args w => Try.call2 args w⟩
instance : Cl Try.prog 3 := ⟨fun args w => Try.call3 args w⟩
instance : Cl Try.prog 4 := ⟨fun args w => Try.call4 args w⟩
instance : Cl Try.prog 5 := ⟨fun args w => Try.call5 args w⟩
instance : Cl Try.prog 6 := ⟨fun args w => Try.call6 args w⟩
instance : Cl Try.prog 7 := ⟨fun args w => Try.call7 args w⟩
instance : Cl Try.prog 8 := ⟨fun args w => Try.call8 args w⟩
instance : Cl Try.prog 9 := ⟨fun args w => Try.call9 args w⟩
instance : Cl Try.prog 10 := ⟨fun args w => Try.call10 args w⟩
instance : Cl Try.prog 11 := ⟨fun args w => Try.call11 args w⟩
instance : Cl Try.prog 12 := ⟨fun args w => Try.call12 args w⟩
instance : Cl Try.prog 13 := ⟨fun args w => Try.call13 args w⟩
instance : Cl Try.prog 14 := ⟨fun args w => Try.call14 args w⟩
instance : Cl Try.prog 15 := ⟨fun args w => Try.call15 args w⟩
instance : Cl Try.prog 16 := ⟨fun args w => Try.call16 args w⟩
instance : Cl Try.prog 17 := ⟨fun args w => Try.call17 args w⟩
instance : Cl Try.prog 18 := ⟨fun args w => Try.call18 args w⟩
instance : Cl Try.prog 19 := ⟨fun args w => Try.call19 args w⟩
instance : Cl Try.prog 20 := ⟨fun args w => Try.call20 args w⟩
instance : Cl Try.prog 21 := ⟨fun args w => Try.call21 args w⟩
instance : Cl Try.prog 22 := ⟨fun args w => Try.call22 args w⟩
instance : Cl Try.prog 23 := ⟨fun args w => Try.call23 args w⟩
instance : Cl Try.prog 24 := ⟨fun args w => Try.call24 args w⟩
instance : Cl Try.prog 25 := ⟨fun args w => Try.call25 args w⟩
instance : Cl Try.prog 26 := ⟨fun args w => Try.call26 args w⟩
instance : Cl Try.prog 27 := ⟨fun args w => Try.call27 args w⟩
instance : Cl Try.prog 28 := ⟨fun args w => Try.call28 args w⟩
instance : Cl Try.prog 29 := ⟨fun args w => Try.call29 args w⟩
instance : Cl Try.prog 30 := ⟨fun args w => Try.call30 args w⟩
instance : Cl Try.prog 31 := ⟨fun args w => Try.call31 args w⟩
instance : Cl Try.prog 32 := ⟨fun args w => Try.call32 args w⟩
instance : Cl Try.prog 33 := ⟨fun args w => Try.call33 args w⟩
instance : Cl Try.prog 34 := ⟨fun args w => Try.call34 args w⟩
instance : Cl Try.prog 35 := ⟨fun args w => Try.call35 args w⟩
instance : Cl Try.prog 36 := ⟨fun args w => Try.call36 args w⟩
instance : Cl Try.prog 37 := ⟨fun args w => Try.call37 args w⟩
instance : Cl Try.prog 38 := ⟨fun args w => Try.call38 args w⟩
end Go.Sx.Try
