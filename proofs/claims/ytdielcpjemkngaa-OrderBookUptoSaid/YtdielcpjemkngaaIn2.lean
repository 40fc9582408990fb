/-
  More facts on the types of this cut, by program (gen/tool.py insts2).
-/
import Derived.Test.YtdielcpjemkngaaFx9
import Derived.Test.YtdielcpjemkngaaIn
namespace Go.Proofs.Ytdielcpjemkngaa
open Go.RowKit

instance : SzN Try.prog 1 1 := .of inf1
instance : SzN Try.prog 2 1 := .of inf2
instance : SzN Try.prog 3 1 := .of inf3
instance : SzN Try.prog 4 1 := .of inf4
instance : SzN Try.prog 5 1 := .of inf5
instance : SzN Try.prog 9 1 := .of inf9
instance : SzN Try.prog 22 1 := .of inf22
instance : SzN Try.prog 23 1 := .of inf23
instance : SzN Try.prog 25 1 := .of inf25
instance : SzN Try.prog 28 1 := .of inf28
instance : SzN Try.prog 29 1 := .of inf29
instance : SzN Try.prog 31 1 := .of inf31
instance : SzN Try.prog 36 1 := .of inf36
instance : SzN Try.prog 41 3 := .of inf41
instance : Ag Try.prog 41 := ⟨⟨_, Try.underlying41, rfl⟩⟩
instance : SzN Try.prog 44 1 := .of inf44
instance : SzN Try.prog 49 1 := .of inf49
instance : SzN Try.prog 50 1 := .of inf50
instance : SzN Try.prog 51 1 := .of inf51
instance : SzN Try.prog 54 6 := .of inf54
instance : Ag Try.prog 54 := ⟨⟨_, Try.underlying54, rfl⟩⟩
instance : SzN Try.prog 64 1 := .of inf64
instance : SzN Try.prog 66 1 := .of inf66
instance : SzN Try.prog 68 1 := .of inf68
instance : Ag Try.prog 68 := ⟨⟨_, Try.underlying68, rfl⟩⟩
instance : SzN Try.prog 70 1 := .of inf70
instance : SzN Try.prog 74 6 := .of inf74
instance : Ag Try.prog 74 := ⟨⟨_, Try.underlying74, rfl⟩⟩
instance : SzN Try.prog 75 1 := .of inf75
instance : SzN Try.prog 77 1 := .of inf77
instance : Ag Try.prog 77 := ⟨⟨_, Try.underlying77, rfl⟩⟩
instance : SzN Try.prog 81 1 := .of inf81
instance : SzN Try.prog 86 6 := .of inf86
instance : Ag Try.prog 86 := ⟨⟨_, Try.underlying86, rfl⟩⟩
instance : SzN Try.prog 88 1 := .of inf88
instance : SzN Try.prog 90 1 := .of inf90
instance : SzN Try.prog 91 1 := .of inf91
instance : SzN Try.prog 93 2 := .of inf93
instance : Ag Try.prog 93 := ⟨⟨_, Try.underlying93, rfl⟩⟩
instance : SzN Try.prog 95 1 := .of inf95
instance : SzN Try.prog 97 1 := .of inf97
instance : SzN Try.prog 98 1 := .of inf98
instance : SzN Try.prog 100 2 := .of inf100
instance : Ag Try.prog 100 := ⟨⟨_, Try.underlying100, rfl⟩⟩
instance : SzN Try.prog 104 1 := .of inf104
instance : SzN Try.prog 105 1 := .of inf105
instance : SzN Try.prog 108 1 := .of inf108
instance : SzN Try.prog 109 1 := .of inf109
instance : SzN Try.prog 113 1 := .of inf113
instance : SzN Try.prog 118 1 := .of inf118
instance : SzN Try.prog 126 2 := .of inf126
instance : Ag Try.prog 126 := ⟨⟨_, Try.underlying126, rfl⟩⟩
instance : SzN Try.prog 127 1 := .of inf127
instance : SzN Try.prog 129 1 := .of inf129
instance : Ag Try.prog 129 := ⟨⟨_, Try.underlying129, rfl⟩⟩
instance : SzN Try.prog 131 1 := .of inf131
instance : SzN Try.prog 142 6 := .of inf142
instance : Ag Try.prog 142 := ⟨⟨_, Try.underlying142, rfl⟩⟩
instance : SzN Try.prog 145 2 := .of inf145
instance : Ag Try.prog 145 := ⟨⟨_, Try.underlying145, rfl⟩⟩
end Go.Proofs.Ytdielcpjemkngaa
