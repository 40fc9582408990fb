/-
  Facts on the types and functions of this cut, by program (gen/tool.py insts).
-/
import Derived.Test.YtdielcpjemkngaaFx5
import Derived.Test.YtdielcpjemkngaaProg
namespace Go.Proofs.Ytdielcpjemkngaa
open Go.RowKit

theorem inf1 : (Try.prog.info? 1).map infT = some (some .nilFunc, 1, 8) := by kernel_rfl
theorem inf2 : (Try.prog.info? 2).map infT = some (some (.int .i64 0), 1, 8) := by kernel_rfl
theorem inf3 : (Try.prog.info? 3).map infT = some (some (.int .i64 0), 1, 8) := by kernel_rfl
theorem inf4 : (Try.prog.info? 4).map infT = some (some (.bool Bool.false), 1, 1) := by kernel_rfl
theorem inf5 : (Try.prog.info? 5).map infT = some (some (.int .u8 0), 1, 1) := by kernel_rfl
theorem inf9 : (Try.prog.info? 9).map infT = some (some (.string ByteArray.empty), 1, 16) := by kernel_rfl
theorem inf22 : (Try.prog.info? 22).map infT = some (some (.slice none 0 0), 1, 24) := by kernel_rfl
theorem inf23 : (Try.prog.info? 23).map infT = some (some (.pointer none), 1, 8) := by kernel_rfl
theorem inf25 : (Try.prog.info? 25).map infT = some (some (.int .u64 0), 1, 8) := by kernel_rfl
theorem inf28 : (Try.prog.info? 28).map infT = some (some .nilFunc, 1, 8) := by kernel_rfl
theorem inf29 : (Try.prog.info? 29).map infT = some (some .nilFunc, 1, 8) := by kernel_rfl
theorem inf31 : (Try.prog.info? 31).map infT = some (some (.slice none 0 0), 1, 24) := by kernel_rfl
theorem inf36 : (Try.prog.info? 36).map infT = some (some (.pointer none), 1, 8) := by kernel_rfl
theorem inf41 : (Try.prog.info? 41).map infT = some (some (.agg #[(.pointer none), (.slice none 0 0), (.slice none 0 0)]), 3, 56) := by kernel_rfl
theorem inf44 : (Try.prog.info? 44).map infT = some (some (.slice none 0 0), 1, 24) := by kernel_rfl
theorem inf49 : (Try.prog.info? 49).map infT = some (some (.slice none 0 0), 1, 24) := by kernel_rfl
theorem inf50 : (Try.prog.info? 50).map infT = some (some .nilFunc, 1, 8) := by kernel_rfl
theorem inf51 : (Try.prog.info? 51).map infT = some (some .nilFunc, 1, 8) := by kernel_rfl
theorem inf54 : (Try.prog.info? 54).map infT = some (some (.agg #[(.int .i64 0), (.int .i64 0), (.int .i64 0), (.int .i64 0), (.int .i64 0), (.string ByteArray.empty)]), 6, 56) := by kernel_rfl
theorem inf64 : (Try.prog.info? 64).map infT = some (some (.slice none 0 0), 1, 24) := by kernel_rfl
theorem inf66 : (Try.prog.info? 66).map infT = some (some (.pointer none), 1, 8) := by kernel_rfl
theorem inf68 : (Try.prog.info? 68).map infT = some (some (.agg #[(.pointer none)]), 1, 8) := by kernel_rfl
theorem inf70 : (Try.prog.info? 70).map infT = some (some .nilFunc, 1, 8) := by kernel_rfl
theorem inf74 : (Try.prog.info? 74).map infT = some (some (.agg #[(.int .u64 0), (.int .i64 0), (.pointer none), (.pointer none), (.int .i64 0), (.int .i64 0)]), 6, 48) := by kernel_rfl
theorem inf75 : (Try.prog.info? 75).map infT = some (some (.pointer none), 1, 8) := by kernel_rfl
theorem inf77 : (Try.prog.info? 77).map infT = some (some (.agg #[(.pointer none)]), 1, 8) := by kernel_rfl
theorem inf81 : (Try.prog.info? 81).map infT = some (some .nilFunc, 1, 8) := by kernel_rfl
theorem inf86 : (Try.prog.info? 86).map infT = some (some (.agg #[(.int .i64 0), (.int .i64 0), (.pointer none), (.pointer none), (.int .i64 0), (.int .i64 0)]), 6, 48) := by kernel_rfl
theorem inf88 : (Try.prog.info? 88).map infT = some (some (.pointer none), 1, 8) := by kernel_rfl
theorem inf90 : (Try.prog.info? 90).map infT = some (some (.slice none 0 0), 1, 24) := by kernel_rfl
theorem inf91 : (Try.prog.info? 91).map infT = some (some (.slice none 0 0), 1, 24) := by kernel_rfl
theorem inf93 : (Try.prog.info? 93).map infT = some (some (.agg #[(.slice none 0 0), (.slice none 0 0)]), 2, 48) := by kernel_rfl
theorem inf95 : (Try.prog.info? 95).map infT = some (some (.pointer none), 1, 8) := by kernel_rfl
theorem inf97 : (Try.prog.info? 97).map infT = some (some (.slice none 0 0), 1, 24) := by kernel_rfl
theorem inf98 : (Try.prog.info? 98).map infT = some (some (.slice none 0 0), 1, 24) := by kernel_rfl
theorem inf100 : (Try.prog.info? 100).map infT = some (some (.agg #[(.slice none 0 0), (.slice none 0 0)]), 2, 48) := by kernel_rfl
theorem inf104 : (Try.prog.info? 104).map infT = some (some (.slice none 0 0), 1, 24) := by kernel_rfl
theorem inf105 : (Try.prog.info? 105).map infT = some (some (.pointer none), 1, 8) := by kernel_rfl
theorem inf108 : (Try.prog.info? 108).map infT = some (some .nilFunc, 1, 8) := by kernel_rfl
theorem inf109 : (Try.prog.info? 109).map infT = some (some .nilFunc, 1, 8) := by kernel_rfl
theorem inf113 : (Try.prog.info? 113).map infT = some (some (.slice none 0 0), 1, 24) := by kernel_rfl
theorem inf118 : (Try.prog.info? 118).map infT = some (some (.slice none 0 0), 1, 24) := by kernel_rfl
theorem inf126 : (Try.prog.info? 126).map infT = some (some (.agg #[(.int .i64 0), (.int .i64 0)]), 2, 16) := by kernel_rfl
theorem inf127 : (Try.prog.info? 127).map infT = some (some (.pointer none), 1, 8) := by kernel_rfl
theorem inf129 : (Try.prog.info? 129).map infT = some (some (.agg #[(.pointer none)]), 1, 8) := by kernel_rfl
theorem inf131 : (Try.prog.info? 131).map infT = some (some .nilFunc, 1, 8) := by kernel_rfl
theorem inf142 : (Try.prog.info? 142).map infT = some (some (.agg #[(.string ByteArray.empty), (.int .i64 0), (.pointer none), (.pointer none), (.int .i64 0), (.int .i64 0)]), 6, 56) := by kernel_rfl
theorem inf145 : (Try.prog.info? 145).map infT = some (some (.agg #[(.string ByteArray.empty), (.int .i64 0)]), 2, 24) := by kernel_rfl
instance : Sc Try.prog 1 := ⟨⟨_, Try.underlying1, rfl⟩⟩
instance : Sz1 Try.prog 1 := .of inf1
instance : Zv Try.prog 1 .nilFunc := .of inf1
instance : Fu Try.prog 1 := ⟨⟨_, _, _, Try.underlying1⟩⟩
instance : Sc Try.prog 2 := ⟨⟨_, Try.underlying2, rfl⟩⟩
instance : Sz1 Try.prog 2 := .of inf2
instance : Zv Try.prog 2 (.int .i64 0) := .of inf2
instance : In Try.prog 2 .i64 := ⟨Try.underlying2⟩
instance : Sc Try.prog 3 := ⟨⟨_, Try.underlying3, rfl⟩⟩
instance : Sz1 Try.prog 3 := .of inf3
instance : Zv Try.prog 3 (.int .i64 0) := .of inf3
instance : In Try.prog 3 .i64 := ⟨Try.underlying3⟩
instance : Sc Try.prog 4 := ⟨⟨_, Try.underlying4, rfl⟩⟩
instance : Sz1 Try.prog 4 := .of inf4
instance : Zv Try.prog 4 (.bool Bool.false) := .of inf4
instance : Bo Try.prog 4 := ⟨Try.underlying4⟩
instance : Sc Try.prog 5 := ⟨⟨_, Try.underlying5, rfl⟩⟩
instance : Sz1 Try.prog 5 := .of inf5
instance : Zv Try.prog 5 (.int .u8 0) := .of inf5
instance : In Try.prog 5 .u8 := ⟨Try.underlying5⟩
instance : Sc Try.prog 9 := ⟨⟨_, Try.underlying9, rfl⟩⟩
instance : Sz1 Try.prog 9 := .of inf9
instance : Zv Try.prog 9 (.string ByteArray.empty) := .of inf9
instance : St Try.prog 9 := ⟨Try.underlying9⟩
instance : Sc Try.prog 22 := ⟨⟨_, Try.underlying22, rfl⟩⟩
instance : Sz1 Try.prog 22 := .of inf22
instance : Zv Try.prog 22 (.slice none 0 0) := .of inf22
instance : Sl Try.prog 22 3 := ⟨Try.underlying22⟩
instance : SlE Try.prog 22 1 := .of Try.underlying22 inf3
instance : Se Try.prog 22 3 (.int .i64 0) 1 8 := .of Try.underlying22 inf3 rfl
instance : Sc Try.prog 23 := ⟨⟨_, Try.underlying23, rfl⟩⟩
instance : Sz1 Try.prog 23 := .of inf23
instance : Zv Try.prog 23 (.pointer none) := .of inf23
instance : Pt Try.prog 23 := ⟨⟨_, Try.underlying23⟩⟩
instance : Sc Try.prog 25 := ⟨⟨_, Try.underlying25, rfl⟩⟩
instance : Sz1 Try.prog 25 := .of inf25
instance : Zv Try.prog 25 (.int .u64 0) := .of inf25
instance : In Try.prog 25 .u64 := ⟨Try.underlying25⟩
instance : Sc Try.prog 28 := ⟨⟨_, Try.underlying28, rfl⟩⟩
instance : Sz1 Try.prog 28 := .of inf28
instance : Zv Try.prog 28 .nilFunc := .of inf28
instance : Fu Try.prog 28 := ⟨⟨_, _, _, Try.underlying28⟩⟩
instance : Sc Try.prog 29 := ⟨⟨_, Try.underlying29, rfl⟩⟩
instance : Sz1 Try.prog 29 := .of inf29
instance : Zv Try.prog 29 .nilFunc := .of inf29
instance : Fu Try.prog 29 := ⟨⟨_, _, _, Try.underlying29⟩⟩
instance : Sc Try.prog 31 := ⟨⟨_, Try.underlying31, rfl⟩⟩
instance : Sz1 Try.prog 31 := .of inf31
instance : Zv Try.prog 31 (.slice none 0 0) := .of inf31
instance : Sl Try.prog 31 25 := ⟨Try.underlying31⟩
instance : SlE Try.prog 31 1 := .of Try.underlying31 inf25
instance : Se Try.prog 31 25 (.int .u64 0) 1 8 := .of Try.underlying31 inf25 rfl
instance : Sc Try.prog 36 := ⟨⟨_, Try.underlying36, rfl⟩⟩
instance : Sz1 Try.prog 36 := .of inf36
instance : Zv Try.prog 36 (.pointer none) := .of inf36
instance : Pt Try.prog 36 := ⟨⟨_, Try.underlying36⟩⟩
instance : Zv Try.prog 41 (.agg #[(.pointer none), (.slice none 0 0), (.slice none 0 0)]) := .of inf41
instance : Fl Try.prog 41 0 0 := .of Try.underlying41 rfl rfl inf36 (by decide)
instance : Fl Try.prog 41 1 1 := .of Try.underlying41 rfl rfl inf22 (by decide)
instance : Fl Try.prog 41 2 2 := .of Try.underlying41 rfl rfl inf22 (by decide)
instance : Bd Try.prog 41 #[(.pointer none), (.slice none 0 0), (.slice none 0 0)] #[(0, 1), (1, 1), (2, 1)] := .of Try.underlying41 inf41 (fun _ => by kernel_rfl)
instance : Bd1 Try.prog 41 [(.pointer none), (.slice none 0 0), (.slice none 0 0)] := .of (inferInstance : Bd Try.prog 41 #[(.pointer none), (.slice none 0 0), (.slice none 0 0)] #[(0, 1), (1, 1), (2, 1)]) rfl
instance : Sc Try.prog 44 := ⟨⟨_, Try.underlying44, rfl⟩⟩
instance : Sz1 Try.prog 44 := .of inf44
instance : Zv Try.prog 44 (.slice none 0 0) := .of inf44
instance : Sl Try.prog 44 22 := ⟨Try.underlying44⟩
instance : SlE Try.prog 44 1 := .of Try.underlying44 inf22
instance : Se Try.prog 44 22 (.slice none 0 0) 1 24 := .of Try.underlying44 inf22 rfl
instance : Sc Try.prog 49 := ⟨⟨_, Try.underlying49, rfl⟩⟩
instance : Sz1 Try.prog 49 := .of inf49
instance : Zv Try.prog 49 (.slice none 0 0) := .of inf49
instance : Sl Try.prog 49 54 := ⟨Try.underlying49⟩
instance : SlE Try.prog 49 6 := .of Try.underlying49 inf54
instance : Se Try.prog 49 54 (.agg #[(.int .i64 0), (.int .i64 0), (.int .i64 0), (.int .i64 0), (.int .i64 0), (.string ByteArray.empty)]) 6 56 := .of Try.underlying49 inf54 rfl
instance : Sc Try.prog 50 := ⟨⟨_, Try.underlying50, rfl⟩⟩
instance : Sz1 Try.prog 50 := .of inf50
instance : Zv Try.prog 50 .nilFunc := .of inf50
instance : Fu Try.prog 50 := ⟨⟨_, _, _, Try.underlying50⟩⟩
instance : Sc Try.prog 51 := ⟨⟨_, Try.underlying51, rfl⟩⟩
instance : Sz1 Try.prog 51 := .of inf51
instance : Zv Try.prog 51 .nilFunc := .of inf51
instance : Fu Try.prog 51 := ⟨⟨_, _, _, Try.underlying51⟩⟩
instance : Zv Try.prog 54 (.agg #[(.int .i64 0), (.int .i64 0), (.int .i64 0), (.int .i64 0), (.int .i64 0), (.string ByteArray.empty)]) := .of inf54
instance : Fl Try.prog 54 0 0 := .of Try.underlying54 rfl rfl inf3 (by decide)
instance : Fl Try.prog 54 1 1 := .of Try.underlying54 rfl rfl inf3 (by decide)
instance : Fl Try.prog 54 2 2 := .of Try.underlying54 rfl rfl inf3 (by decide)
instance : Fl Try.prog 54 3 3 := .of Try.underlying54 rfl rfl inf3 (by decide)
instance : Fl Try.prog 54 4 4 := .of Try.underlying54 rfl rfl inf3 (by decide)
instance : Fl Try.prog 54 5 5 := .of Try.underlying54 rfl rfl inf9 (by decide)
instance : Bd Try.prog 54 #[(.int .i64 0), (.int .i64 0), (.int .i64 0), (.int .i64 0), (.int .i64 0), (.string ByteArray.empty)] #[(0, 1), (1, 1), (2, 1), (3, 1), (4, 1), (5, 1)] := .of Try.underlying54 inf54 (fun _ => by kernel_rfl)
instance : Bd1 Try.prog 54 [(.int .i64 0), (.int .i64 0), (.int .i64 0), (.int .i64 0), (.int .i64 0), (.string ByteArray.empty)] := .of (inferInstance : Bd Try.prog 54 #[(.int .i64 0), (.int .i64 0), (.int .i64 0), (.int .i64 0), (.int .i64 0), (.string ByteArray.empty)] #[(0, 1), (1, 1), (2, 1), (3, 1), (4, 1), (5, 1)]) rfl
instance : Sc Try.prog 64 := ⟨⟨_, Try.underlying64, rfl⟩⟩
instance : Sz1 Try.prog 64 := .of inf64
instance : Zv Try.prog 64 (.slice none 0 0) := .of inf64
instance : Sl Try.prog 64 41 := ⟨Try.underlying64⟩
instance : SlE Try.prog 64 3 := .of Try.underlying64 inf41
instance : Se Try.prog 64 41 (.agg #[(.pointer none), (.slice none 0 0), (.slice none 0 0)]) 3 56 := .of Try.underlying64 inf41 rfl
instance : Sc Try.prog 66 := ⟨⟨_, Try.underlying66, rfl⟩⟩
instance : Sz1 Try.prog 66 := .of inf66
instance : Zv Try.prog 66 (.pointer none) := .of inf66
instance : Pt Try.prog 66 := ⟨⟨_, Try.underlying66⟩⟩
instance : Sz1 Try.prog 68 := .of inf68
instance : Zv Try.prog 68 (.agg #[(.pointer none)]) := .of inf68
instance : Fl Try.prog 68 0 0 := .of Try.underlying68 rfl rfl inf66 (by decide)
instance : Bd Try.prog 68 #[(.pointer none)] #[(0, 1)] := .of Try.underlying68 inf68 (fun _ => by kernel_rfl)
instance : Bd1 Try.prog 68 [(.pointer none)] := .of (inferInstance : Bd Try.prog 68 #[(.pointer none)] #[(0, 1)]) rfl
instance : Sc Try.prog 70 := ⟨⟨_, Try.underlying70, rfl⟩⟩
instance : Sz1 Try.prog 70 := .of inf70
instance : Zv Try.prog 70 .nilFunc := .of inf70
instance : Fu Try.prog 70 := ⟨⟨_, _, _, Try.underlying70⟩⟩
instance : Zv Try.prog 74 (.agg #[(.int .u64 0), (.int .i64 0), (.pointer none), (.pointer none), (.int .i64 0), (.int .i64 0)]) := .of inf74
instance : Fl Try.prog 74 0 0 := .of Try.underlying74 rfl rfl inf25 (by decide)
instance : Fl Try.prog 74 1 1 := .of Try.underlying74 rfl rfl inf3 (by decide)
instance : Fl Try.prog 74 2 2 := .of Try.underlying74 rfl rfl inf66 (by decide)
instance : Fl Try.prog 74 3 3 := .of Try.underlying74 rfl rfl inf66 (by decide)
instance : Fl Try.prog 74 4 4 := .of Try.underlying74 rfl rfl inf3 (by decide)
instance : Fl Try.prog 74 5 5 := .of Try.underlying74 rfl rfl inf3 (by decide)
instance : Bd Try.prog 74 #[(.int .u64 0), (.int .i64 0), (.pointer none), (.pointer none), (.int .i64 0), (.int .i64 0)] #[(0, 1), (1, 1), (2, 1), (3, 1), (4, 1), (5, 1)] := .of Try.underlying74 inf74 (fun _ => by kernel_rfl)
instance : Bd1 Try.prog 74 [(.int .u64 0), (.int .i64 0), (.pointer none), (.pointer none), (.int .i64 0), (.int .i64 0)] := .of (inferInstance : Bd Try.prog 74 #[(.int .u64 0), (.int .i64 0), (.pointer none), (.pointer none), (.int .i64 0), (.int .i64 0)] #[(0, 1), (1, 1), (2, 1), (3, 1), (4, 1), (5, 1)]) rfl
instance : Sc Try.prog 75 := ⟨⟨_, Try.underlying75, rfl⟩⟩
instance : Sz1 Try.prog 75 := .of inf75
instance : Zv Try.prog 75 (.pointer none) := .of inf75
instance : Pt Try.prog 75 := ⟨⟨_, Try.underlying75⟩⟩
instance : Sz1 Try.prog 77 := .of inf77
instance : Zv Try.prog 77 (.agg #[(.pointer none)]) := .of inf77
instance : Fl Try.prog 77 0 0 := .of Try.underlying77 rfl rfl inf75 (by decide)
instance : Bd Try.prog 77 #[(.pointer none)] #[(0, 1)] := .of Try.underlying77 inf77 (fun _ => by kernel_rfl)
instance : Bd1 Try.prog 77 [(.pointer none)] := .of (inferInstance : Bd Try.prog 77 #[(.pointer none)] #[(0, 1)]) rfl
instance : Sc Try.prog 81 := ⟨⟨_, Try.underlying81, rfl⟩⟩
instance : Sz1 Try.prog 81 := .of inf81
instance : Zv Try.prog 81 .nilFunc := .of inf81
instance : Fu Try.prog 81 := ⟨⟨_, _, _, Try.underlying81⟩⟩
instance : Zv Try.prog 86 (.agg #[(.int .i64 0), (.int .i64 0), (.pointer none), (.pointer none), (.int .i64 0), (.int .i64 0)]) := .of inf86
instance : Fl Try.prog 86 0 0 := .of Try.underlying86 rfl rfl inf3 (by decide)
instance : Fl Try.prog 86 1 1 := .of Try.underlying86 rfl rfl inf3 (by decide)
instance : Fl Try.prog 86 2 2 := .of Try.underlying86 rfl rfl inf75 (by decide)
instance : Fl Try.prog 86 3 3 := .of Try.underlying86 rfl rfl inf75 (by decide)
instance : Fl Try.prog 86 4 4 := .of Try.underlying86 rfl rfl inf3 (by decide)
instance : Fl Try.prog 86 5 5 := .of Try.underlying86 rfl rfl inf3 (by decide)
instance : Bd Try.prog 86 #[(.int .i64 0), (.int .i64 0), (.pointer none), (.pointer none), (.int .i64 0), (.int .i64 0)] #[(0, 1), (1, 1), (2, 1), (3, 1), (4, 1), (5, 1)] := .of Try.underlying86 inf86 (fun _ => by kernel_rfl)
instance : Bd1 Try.prog 86 [(.int .i64 0), (.int .i64 0), (.pointer none), (.pointer none), (.int .i64 0), (.int .i64 0)] := .of (inferInstance : Bd Try.prog 86 #[(.int .i64 0), (.int .i64 0), (.pointer none), (.pointer none), (.int .i64 0), (.int .i64 0)] #[(0, 1), (1, 1), (2, 1), (3, 1), (4, 1), (5, 1)]) rfl
instance : Sc Try.prog 88 := ⟨⟨_, Try.underlying88, rfl⟩⟩
instance : Sz1 Try.prog 88 := .of inf88
instance : Zv Try.prog 88 (.pointer none) := .of inf88
instance : Pt Try.prog 88 := ⟨⟨_, Try.underlying88⟩⟩
instance : Sc Try.prog 90 := ⟨⟨_, Try.underlying90, rfl⟩⟩
instance : Sz1 Try.prog 90 := .of inf90
instance : Zv Try.prog 90 (.slice none 0 0) := .of inf90
instance : Sl Try.prog 90 36 := ⟨Try.underlying90⟩
instance : SlE Try.prog 90 1 := .of Try.underlying90 inf36
instance : Se Try.prog 90 36 (.pointer none) 1 8 := .of Try.underlying90 inf36 rfl
instance : Sc Try.prog 91 := ⟨⟨_, Try.underlying91, rfl⟩⟩
instance : Sz1 Try.prog 91 := .of inf91
instance : Zv Try.prog 91 (.slice none 0 0) := .of inf91
instance : Sl Try.prog 91 104 := ⟨Try.underlying91⟩
instance : SlE Try.prog 91 1 := .of Try.underlying91 inf104
instance : Se Try.prog 91 104 (.slice none 0 0) 1 24 := .of Try.underlying91 inf104 rfl
instance : Zv Try.prog 93 (.agg #[(.slice none 0 0), (.slice none 0 0)]) := .of inf93
instance : Fl Try.prog 93 0 0 := .of Try.underlying93 rfl rfl inf90 (by decide)
instance : Fl Try.prog 93 1 1 := .of Try.underlying93 rfl rfl inf91 (by decide)
instance : Bd Try.prog 93 #[(.slice none 0 0), (.slice none 0 0)] #[(0, 1), (1, 1)] := .of Try.underlying93 inf93 (fun _ => by kernel_rfl)
instance : Bd1 Try.prog 93 [(.slice none 0 0), (.slice none 0 0)] := .of (inferInstance : Bd Try.prog 93 #[(.slice none 0 0), (.slice none 0 0)] #[(0, 1), (1, 1)]) rfl
instance : Sc Try.prog 95 := ⟨⟨_, Try.underlying95, rfl⟩⟩
instance : Sz1 Try.prog 95 := .of inf95
instance : Zv Try.prog 95 (.pointer none) := .of inf95
instance : Pt Try.prog 95 := ⟨⟨_, Try.underlying95⟩⟩
instance : Sc Try.prog 97 := ⟨⟨_, Try.underlying97, rfl⟩⟩
instance : Sz1 Try.prog 97 := .of inf97
instance : Zv Try.prog 97 (.slice none 0 0) := .of inf97
instance : Sl Try.prog 97 105 := ⟨Try.underlying97⟩
instance : SlE Try.prog 97 1 := .of Try.underlying97 inf105
instance : Se Try.prog 97 105 (.pointer none) 1 8 := .of Try.underlying97 inf105 rfl
instance : Sc Try.prog 98 := ⟨⟨_, Try.underlying98, rfl⟩⟩
instance : Sz1 Try.prog 98 := .of inf98
instance : Zv Try.prog 98 (.slice none 0 0) := .of inf98
instance : Sl Try.prog 98 113 := ⟨Try.underlying98⟩
instance : SlE Try.prog 98 1 := .of Try.underlying98 inf113
instance : Se Try.prog 98 113 (.slice none 0 0) 1 24 := .of Try.underlying98 inf113 rfl
instance : Zv Try.prog 100 (.agg #[(.slice none 0 0), (.slice none 0 0)]) := .of inf100
instance : Fl Try.prog 100 0 0 := .of Try.underlying100 rfl rfl inf97 (by decide)
instance : Fl Try.prog 100 1 1 := .of Try.underlying100 rfl rfl inf98 (by decide)
instance : Bd Try.prog 100 #[(.slice none 0 0), (.slice none 0 0)] #[(0, 1), (1, 1)] := .of Try.underlying100 inf100 (fun _ => by kernel_rfl)
instance : Bd1 Try.prog 100 [(.slice none 0 0), (.slice none 0 0)] := .of (inferInstance : Bd Try.prog 100 #[(.slice none 0 0), (.slice none 0 0)] #[(0, 1), (1, 1)]) rfl
instance : Sc Try.prog 104 := ⟨⟨_, Try.underlying104, rfl⟩⟩
instance : Sz1 Try.prog 104 := .of inf104
instance : Zv Try.prog 104 (.slice none 0 0) := .of inf104
instance : Sl Try.prog 104 126 := ⟨Try.underlying104⟩
instance : SlE Try.prog 104 2 := .of Try.underlying104 inf126
instance : Se Try.prog 104 126 (.agg #[(.int .i64 0), (.int .i64 0)]) 2 16 := .of Try.underlying104 inf126 rfl
instance : Sc Try.prog 105 := ⟨⟨_, Try.underlying105, rfl⟩⟩
instance : Sz1 Try.prog 105 := .of inf105
instance : Zv Try.prog 105 (.pointer none) := .of inf105
instance : Pt Try.prog 105 := ⟨⟨_, Try.underlying105⟩⟩
instance : Sc Try.prog 108 := ⟨⟨_, Try.underlying108, rfl⟩⟩
instance : Sz1 Try.prog 108 := .of inf108
instance : Zv Try.prog 108 .nilFunc := .of inf108
instance : Fu Try.prog 108 := ⟨⟨_, _, _, Try.underlying108⟩⟩
instance : Sc Try.prog 109 := ⟨⟨_, Try.underlying109, rfl⟩⟩
instance : Sz1 Try.prog 109 := .of inf109
instance : Zv Try.prog 109 .nilFunc := .of inf109
instance : Fu Try.prog 109 := ⟨⟨_, _, _, Try.underlying109⟩⟩
instance : Sc Try.prog 113 := ⟨⟨_, Try.underlying113, rfl⟩⟩
instance : Sz1 Try.prog 113 := .of inf113
instance : Zv Try.prog 113 (.slice none 0 0) := .of inf113
instance : Sl Try.prog 113 145 := ⟨Try.underlying113⟩
instance : SlE Try.prog 113 2 := .of Try.underlying113 inf145
instance : Se Try.prog 113 145 (.agg #[(.string ByteArray.empty), (.int .i64 0)]) 2 24 := .of Try.underlying113 inf145 rfl
instance : Sc Try.prog 118 := ⟨⟨_, Try.underlying118, rfl⟩⟩
instance : Sz1 Try.prog 118 := .of inf118
instance : Zv Try.prog 118 (.slice none 0 0) := .of inf118
instance : Sl Try.prog 118 9 := ⟨Try.underlying118⟩
instance : SlE Try.prog 118 1 := .of Try.underlying118 inf9
instance : Se Try.prog 118 9 (.string ByteArray.empty) 1 16 := .of Try.underlying118 inf9 rfl
instance : Zv Try.prog 126 (.agg #[(.int .i64 0), (.int .i64 0)]) := .of inf126
instance : Fl Try.prog 126 0 0 := .of Try.underlying126 rfl rfl inf3 (by decide)
instance : Fl Try.prog 126 1 1 := .of Try.underlying126 rfl rfl inf3 (by decide)
instance : Bd Try.prog 126 #[(.int .i64 0), (.int .i64 0)] #[(0, 1), (1, 1)] := .of Try.underlying126 inf126 (fun _ => by kernel_rfl)
instance : Bd1 Try.prog 126 [(.int .i64 0), (.int .i64 0)] := .of (inferInstance : Bd Try.prog 126 #[(.int .i64 0), (.int .i64 0)] #[(0, 1), (1, 1)]) rfl
instance : Sc Try.prog 127 := ⟨⟨_, Try.underlying127, rfl⟩⟩
instance : Sz1 Try.prog 127 := .of inf127
instance : Zv Try.prog 127 (.pointer none) := .of inf127
instance : Pt Try.prog 127 := ⟨⟨_, Try.underlying127⟩⟩
instance : Sz1 Try.prog 129 := .of inf129
instance : Zv Try.prog 129 (.agg #[(.pointer none)]) := .of inf129
instance : Fl Try.prog 129 0 0 := .of Try.underlying129 rfl rfl inf127 (by decide)
instance : Bd Try.prog 129 #[(.pointer none)] #[(0, 1)] := .of Try.underlying129 inf129 (fun _ => by kernel_rfl)
instance : Bd1 Try.prog 129 [(.pointer none)] := .of (inferInstance : Bd Try.prog 129 #[(.pointer none)] #[(0, 1)]) rfl
instance : Sc Try.prog 131 := ⟨⟨_, Try.underlying131, rfl⟩⟩
instance : Sz1 Try.prog 131 := .of inf131
instance : Zv Try.prog 131 .nilFunc := .of inf131
instance : Fu Try.prog 131 := ⟨⟨_, _, _, Try.underlying131⟩⟩
instance : Zv Try.prog 142 (.agg #[(.string ByteArray.empty), (.int .i64 0), (.pointer none), (.pointer none), (.int .i64 0), (.int .i64 0)]) := .of inf142
instance : Fl Try.prog 142 0 0 := .of Try.underlying142 rfl rfl inf9 (by decide)
instance : Fl Try.prog 142 1 1 := .of Try.underlying142 rfl rfl inf3 (by decide)
instance : Fl Try.prog 142 2 2 := .of Try.underlying142 rfl rfl inf127 (by decide)
instance : Fl Try.prog 142 3 3 := .of Try.underlying142 rfl rfl inf127 (by decide)
instance : Fl Try.prog 142 4 4 := .of Try.underlying142 rfl rfl inf3 (by decide)
instance : Fl Try.prog 142 5 5 := .of Try.underlying142 rfl rfl inf3 (by decide)
instance : Bd Try.prog 142 #[(.string ByteArray.empty), (.int .i64 0), (.pointer none), (.pointer none), (.int .i64 0), (.int .i64 0)] #[(0, 1), (1, 1), (2, 1), (3, 1), (4, 1), (5, 1)] := .of Try.underlying142 inf142 (fun _ => by kernel_rfl)
instance : Bd1 Try.prog 142 [(.string ByteArray.empty), (.int .i64 0), (.pointer none), (.pointer none), (.int .i64 0), (.int .i64 0)] := .of (inferInstance : Bd Try.prog 142 #[(.string ByteArray.empty), (.int .i64 0), (.pointer none), (.pointer none), (.int .i64 0), (.int .i64 0)] #[(0, 1), (1, 1), (2, 1), (3, 1), (4, 1), (5, 1)]) rfl
instance : Zv Try.prog 145 (.agg #[(.string ByteArray.empty), (.int .i64 0)]) := .of inf145
instance : Fl Try.prog 145 0 0 := .of Try.underlying145 rfl rfl inf9 (by decide)
instance : Fl Try.prog 145 1 1 := .of Try.underlying145 rfl rfl inf3 (by decide)
instance : Bd Try.prog 145 #[(.string ByteArray.empty), (.int .i64 0)] #[(0, 1), (1, 1)] := .of Try.underlying145 inf145 (fun _ => by kernel_rfl)
instance : Bd1 Try.prog 145 [(.string ByteArray.empty), (.int .i64 0)] := .of (inferInstance : Bd Try.prog 145 #[(.string ByteArray.empty), (.int .i64 0)] #[(0, 1), (1, 1)]) rfl
instance : En Try.prog 3 := enters Try.func3 (by kernel_rfl) rfl
instance : En Try.prog 4 := enters Try.func4 (by kernel_rfl) rfl
instance : En Try.prog 5 := enters Try.func5 (by kernel_rfl) rfl
instance : En Try.prog 6 := enters Try.func6 (by kernel_rfl) rfl
instance : En Try.prog 7 := enters Try.func7 (by kernel_rfl) rfl
instance : En Try.prog 8 := enters Try.func8 (by kernel_rfl) rfl
instance : En Try.prog 9 := enters Try.func9 (by kernel_rfl) rfl
instance : En Try.prog 10 := enters Try.func10 (by kernel_rfl) rfl
instance : En Try.prog 11 := enters Try.func11 (by kernel_rfl) rfl
instance : En Try.prog 12 := enters Try.func12 (by kernel_rfl) rfl
instance : En Try.prog 13 := enters Try.func13 (by kernel_rfl) rfl
instance : En Try.prog 14 := enters Try.func14 (by kernel_rfl) rfl
instance : En Try.prog 15 := enters Try.func15 (by kernel_rfl) rfl
instance : En Try.prog 16 := enters Try.func16 (by kernel_rfl) rfl
instance : En Try.prog 17 := enters Try.func17 (by kernel_rfl) rfl
instance : En Try.prog 18 := enters Try.func18 (by kernel_rfl) rfl
instance : En Try.prog 19 := enters Try.func19 (by kernel_rfl) rfl
instance : En Try.prog 20 := enters Try.func20 (by kernel_rfl) rfl
instance : En Try.prog 21 := enters Try.func21 (by kernel_rfl) rfl
instance : En Try.prog 22 := enters Try.func22 (by kernel_rfl) rfl
instance : En Try.prog 23 := enters Try.func23 (by kernel_rfl) rfl
instance : En Try.prog 24 := enters Try.func24 (by kernel_rfl) rfl
instance : En Try.prog 25 := enters Try.func25 (by kernel_rfl) rfl
instance : En Try.prog 26 := enters Try.func26 (by kernel_rfl) rfl
instance : En Try.prog 27 := enters Try.func27 (by kernel_rfl) rfl
instance : En Try.prog 28 := enters Try.func28 (by kernel_rfl) rfl
instance : En Try.prog 29 := enters Try.func29 (by kernel_rfl) rfl
instance : En Try.prog 30 := enters Try.func30 (by kernel_rfl) rfl
instance : En Try.prog 31 := enters Try.func31 (by kernel_rfl) rfl
instance : En Try.prog 32 := enters Try.func32 (by kernel_rfl) rfl
instance : En Try.prog 33 := enters Try.func33 (by kernel_rfl) rfl
instance : En Try.prog 34 := enters Try.func34 (by kernel_rfl) rfl
instance : En Try.prog 35 := enters Try.func35 (by kernel_rfl) rfl
instance : En Try.prog 36 := enters Try.func36 (by kernel_rfl) rfl
instance : En Try.prog 37 := enters Try.func37 (by kernel_rfl) rfl
instance : En Try.prog 38 := enters Try.func38 (by kernel_rfl) rfl
instance : En Try.prog 39 := enters Try.func39 (by kernel_rfl) rfl
instance : En Try.prog 40 := enters Try.func40 (by kernel_rfl) rfl
instance : En Try.prog 41 := enters Try.func41 (by kernel_rfl) rfl
instance : En Try.prog 42 := enters Try.func42 (by kernel_rfl) rfl
instance : En Try.prog 43 := enters Try.func43 (by kernel_rfl) rfl
instance : En Try.prog 44 := enters Try.func44 (by kernel_rfl) rfl
instance : En Try.prog 45 := enters Try.func45 (by kernel_rfl) rfl
instance : En Try.prog 46 := enters Try.func46 (by kernel_rfl) rfl
instance : En Try.prog 47 := enters Try.func47 (by kernel_rfl) rfl
instance : En Try.prog 48 := enters Try.func48 (by kernel_rfl) rfl
instance : En Try.prog 49 := enters Try.func49 (by kernel_rfl) rfl
instance : En Try.prog 50 := enters Try.func50 (by kernel_rfl) rfl
instance : En Try.prog 51 := enters Try.func51 (by kernel_rfl) rfl
instance : En Try.prog 52 := enters Try.func52 (by kernel_rfl) rfl
instance : En Try.prog 53 := enters Try.func53 (by kernel_rfl) rfl
instance : En Try.prog 54 := enters Try.func54 (by kernel_rfl) rfl
instance : En Try.prog 55 := enters Try.func55 (by kernel_rfl) rfl
instance : En Try.prog 56 := enters Try.func56 (by kernel_rfl) rfl
instance : En Try.prog 57 := enters Try.func57 (by kernel_rfl) rfl
instance : En Try.prog 58 := enters Try.func58 (by kernel_rfl) rfl
instance : En Try.prog 59 := enters Try.func59 (by kernel_rfl) rfl
instance : En Try.prog 60 := enters Try.func60 (by kernel_rfl) rfl
instance : En Try.prog 61 := enters Try.func61 (by kernel_rfl) rfl
instance : En Try.prog 62 := enters Try.func62 (by kernel_rfl) rfl
instance : En Try.prog 63 := enters Try.func63 (by kernel_rfl) rfl
instance : En Try.prog 64 := enters Try.func64 (by kernel_rfl) rfl
instance : En Try.prog 65 := enters Try.func65 (by kernel_rfl) rfl
instance : En Try.prog 66 := enters Try.func66 (by kernel_rfl) rfl
instance : En Try.prog 67 := enters Try.func67 (by kernel_rfl) rfl
instance : En Try.prog 68 := enters Try.func68 (by kernel_rfl) rfl
instance : En Try.prog 69 := enters Try.func69 (by kernel_rfl) rfl
instance : En Try.prog 70 := enters Try.func70 (by kernel_rfl) rfl
instance : En Try.prog 71 := enters Try.func71 (by kernel_rfl) rfl
instance : En Try.prog 72 := enters Try.func72 (by kernel_rfl) rfl
instance : En Try.prog 73 := enters Try.func73 (by kernel_rfl) rfl
instance : En Try.prog 74 := enters Try.func74 (by kernel_rfl) rfl
instance : En Try.prog 75 := enters Try.func75 (by kernel_rfl) rfl
instance : En Try.prog 76 := enters Try.func76 (by kernel_rfl) rfl
instance : En Try.prog 77 := enters Try.func77 (by kernel_rfl) rfl
instance : En Try.prog 78 := enters Try.func78 (by kernel_rfl) rfl
instance : En Try.prog 79 := enters Try.func79 (by kernel_rfl) rfl
instance : En Try.prog 80 := enters Try.func80 (by kernel_rfl) rfl
instance : En Try.prog 81 := enters Try.func81 (by kernel_rfl) rfl
instance : En Try.prog 82 := enters Try.func82 (by kernel_rfl) rfl
instance : En Try.prog 83 := enters Try.func83 (by kernel_rfl) rfl
instance : En Try.prog 84 := enters Try.func84 (by kernel_rfl) rfl
instance : En Try.prog 85 := enters Try.func85 (by kernel_rfl) rfl
instance : En Try.prog 86 := enters Try.func86 (by kernel_rfl) rfl
instance : En Try.prog 87 := enters Try.func87 (by kernel_rfl) rfl
instance : En Try.prog 88 := enters Try.func88 (by kernel_rfl) rfl
instance : En Try.prog 89 := enters Try.func89 (by kernel_rfl) rfl
instance : En Try.prog 90 := enters Try.func90 (by kernel_rfl) rfl
instance : En Try.prog 91 := enters Try.func91 (by kernel_rfl) rfl
instance : En Try.prog 92 := enters Try.func92 (by kernel_rfl) rfl
instance : En Try.prog 93 := enters Try.func93 (by kernel_rfl) rfl
instance : En Try.prog 94 := enters Try.func94 (by kernel_rfl) rfl
instance : En Try.prog 95 := enters Try.func95 (by kernel_rfl) rfl
instance : En Try.prog 96 := enters Try.func96 (by kernel_rfl) rfl
instance : En Try.prog 97 := enters Try.func97 (by kernel_rfl) rfl
instance : En Try.prog 98 := enters Try.func98 (by kernel_rfl) rfl
instance : En Try.prog 99 := enters Try.func99 (by kernel_rfl) rfl
instance : En Try.prog 100 := enters Try.func100 (by kernel_rfl) rfl
instance : En Try.prog 101 := enters Try.func101 (by kernel_rfl) rfl
instance : En Try.prog 102 := enters Try.func102 (by kernel_rfl) rfl
instance : En Try.prog 103 := enters Try.func103 (by kernel_rfl) rfl
instance : En Try.prog 104 := enters Try.func104 (by kernel_rfl) rfl
instance : En Try.prog 105 := enters Try.func105 (by kernel_rfl) rfl
instance : En Try.prog 106 := enters Try.func106 (by kernel_rfl) rfl
instance : En Try.prog 107 := enters Try.func107 (by kernel_rfl) rfl
instance : En Try.prog 108 := enters Try.func108 (by kernel_rfl) rfl
instance : En Try.prog 109 := enters Try.func109 (by kernel_rfl) rfl
instance : En Try.prog 110 := enters Try.func110 (by kernel_rfl) rfl
instance : En Try.prog 111 := enters Try.func111 (by kernel_rfl) rfl
instance : En Try.prog 112 := enters Try.func112 (by kernel_rfl) rfl
instance : En Try.prog 113 := enters Try.func113 (by kernel_rfl) rfl
instance : En Try.prog 114 := enters Try.func114 (by kernel_rfl) rfl
instance : En Try.prog 115 := enters Try.func115 (by kernel_rfl) rfl
instance : En Try.prog 116 := enters Try.func116 (by kernel_rfl) rfl
instance : En Try.prog 117 := enters Try.func117 (by kernel_rfl) rfl
instance : En Try.prog 118 := enters Try.func118 (by kernel_rfl) rfl
instance : En Try.prog 119 := enters Try.func119 (by kernel_rfl) rfl
end Go.Proofs.Ytdielcpjemkngaa
