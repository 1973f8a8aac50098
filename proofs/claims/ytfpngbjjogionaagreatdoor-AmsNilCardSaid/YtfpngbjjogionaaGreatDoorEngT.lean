/- The tables of types and of functions that the runs reach, and that they are the program's. By program (gen.py). -/
import Derived.Test.YtfpngbjjogionaaGreatDoorProg
import Derived.Test.YtfpngbjjogionaaGreatDoorEngL
import Derived.KernelRfl
import Derived.Lib.Bytealg
import Derived.Laws.Externs
namespace Go.Eng
open Go.Proofs
def ty3 : TI := { d := .int .i64, sz := 1, bytes := 8, zero := .int .i64 0 }
def ty4 : TI := { d := .bool, sz := 1, bytes := 1, zero := .bool false }
def ty5 : TI := { d := .int .u8, sz := 1, bytes := 1, zero := .int .u8 0 }
def ty9 : TI := { d := .string, sz := 1, bytes := 16, zero := .string ⟨#[]⟩ }
def ty23 : TI := { d := .pointer 60, sz := 1, bytes := 8, zero := .pointer none }
def ty28 : TI := { d := .struct #[⟨ "Name", 9, 0, false, "", "", 0⟩, ⟨ "Version", 25, 1, false, "", "", 16⟩, ⟨ "Main", 9, 4, false, "", "", 40⟩, ⟨ "Size", 3, 5, false, "", "", 56⟩, ⟨ "Hash", 26, 6, false, "", "", 64⟩], sz := 38, bytes := 96, zero := .agg #[.string ⟨#[]⟩, .int .i64 0, .int .i64 0, .int .i64 0, .string ⟨#[]⟩, .int .i64 0, .int .u8 0, .int .u8 0, .int .u8 0, .int .u8 0, .int .u8 0, .int .u8 0, .int .u8 0, .int .u8 0, .int .u8 0, .int .u8 0, .int .u8 0, .int .u8 0, .int .u8 0, .int .u8 0, .int .u8 0, .int .u8 0, .int .u8 0, .int .u8 0, .int .u8 0, .int .u8 0, .int .u8 0, .int .u8 0, .int .u8 0, .int .u8 0, .int .u8 0, .int .u8 0, .int .u8 0, .int .u8 0, .int .u8 0, .int .u8 0, .int .u8 0, .int .u8 0] }
def ty29 : TI := { d := .slice 5, sz := 1, bytes := 24, zero := .slice none 0 0 }
def ty31 : TI := { d := .struct #[⟨ "Size", 3, 0, false, "", "", 0⟩, ⟨ "Chunk", 3, 1, false, "", "", 8⟩, ⟨ "Have", 29, 2, false, "", "", 16⟩], sz := 3, bytes := 40, zero := .agg #[.int .i64 0, .int .i64 0, .slice none 0 0] }
def ty34 : TI := { d := .int .i64, sz := 1, bytes := 8, zero := .int .i64 0 }
def ty37 : TI := { d := .int .u32, sz := 1, bytes := 4, zero := .int .u32 0 }
def ty39 : TI := { d := .struct #[⟨ "From", 3, 0, false, "", "", 0⟩, ⟨ "Data", 29, 1, false, "", "", 8⟩, ⟨ "Sum", 37, 2, false, "", "", 32⟩], sz := 3, bytes := 40, zero := .agg #[.int .i64 0, .slice none 0 0, .int .u32 0] }
def ty44 : TI := { d := .slice 9, sz := 1, bytes := 24, zero := .slice none 0 0 }
def ty46 : TI := { d := .struct #[⟨ "Outcome", 43, 0, false, "", "", 0⟩, ⟨ "Lines", 44, 4, false, "", "", 40⟩], sz := 5, bytes := 64, zero := .agg #[.int .i64 0, .int .i32 0, .string ⟨#[]⟩, .int .i64 0, .slice none 0 0] }
def ty51 : TI := { d := .pointer 181, sz := 1, bytes := 8, zero := .pointer none }
def ty56 : TI := { d := .pointer 106, sz := 1, bytes := 8, zero := .pointer none }
def ty60 : TI := { d := .struct #[⟨ "s", 56, 0, false, "", "carpetbag/ams", 0⟩, ⟨ "chunk", 3, 1, false, "", "carpetbag/ams", 8⟩, ⟨ "jad", 28, 2, false, "", "carpetbag/ams", 16⟩, ⟨ "job", 31, 40, false, "", "carpetbag/ams", 112⟩, ⟨ "has", 4, 43, false, "", "carpetbag/ams", 152⟩], sz := 44, bytes := 160, zero := .agg #[.pointer none, .int .i64 0, .string ⟨#[]⟩, .int .i64 0, .int .i64 0, .int .i64 0, .string ⟨#[]⟩, .int .i64 0, .int .u8 0, .int .u8 0, .int .u8 0, .int .u8 0, .int .u8 0, .int .u8 0, .int .u8 0, .int .u8 0, .int .u8 0, .int .u8 0, .int .u8 0, .int .u8 0, .int .u8 0, .int .u8 0, .int .u8 0, .int .u8 0, .int .u8 0, .int .u8 0, .int .u8 0, .int .u8 0, .int .u8 0, .int .u8 0, .int .u8 0, .int .u8 0, .int .u8 0, .int .u8 0, .int .u8 0, .int .u8 0, .int .u8 0, .int .u8 0, .int .u8 0, .int .u8 0, .int .i64 0, .int .i64 0, .slice none 0 0, .bool false] }
def ty82 : TI := { d := .struct #[⟨ "Sectors", 3, 0, false, "", "", 0⟩, ⟨ "Size", 3, 1, false, "", "", 8⟩, ⟨ "Limit", 3, 2, false, "", "", 16⟩], sz := 3, bytes := 24, zero := .agg #[.int .i64 0, .int .i64 0, .int .i64 0] }
def ty103 : TI := { d := .slice 162, sz := 1, bytes := 24, zero := .slice none 0 0 }
def ty104 : TI := { d := .map 9 197, sz := 1, bytes := 8, zero := .map none }
def ty106 : TI := { d := .struct #[⟨ "f", 51, 0, false, "", "carpetbag/blob", 0⟩, ⟨ "g", 82, 1, false, "", "carpetbag/blob", 8⟩, ⟨ "sectors", 103, 4, false, "", "carpetbag/blob", 32⟩, ⟨ "index", 104, 5, false, "", "carpetbag/blob", 56⟩, ⟨ "head", 3, 6, false, "", "carpetbag/blob", 64⟩, ⟨ "at", 3, 7, false, "", "carpetbag/blob", 72⟩, ⟨ "txn", 37, 8, false, "", "carpetbag/blob", 80⟩, ⟨ "seq", 37, 9, false, "", "carpetbag/blob", 84⟩, ⟨ "down", 4, 10, false, "", "carpetbag/blob", 88⟩], sz := 11, bytes := 96, zero := .agg #[.pointer none, .int .i64 0, .int .i64 0, .int .i64 0, .slice none 0 0, .map none, .int .i64 0, .int .i64 0, .int .u32 0, .int .u32 0, .bool false] }
def ty121 : TI := { d := .struct #[⟨ "try", 37, 0, false, "", "carpetbag/shelf", 0⟩, ⟨ "image", 3, 1, false, "", "carpetbag/shelf", 8⟩, ⟨ "jad", 28, 2, false, "", "carpetbag/shelf", 16⟩], sz := 40, bytes := 112, zero := .agg #[.int .u32 0, .int .i64 0, .string ⟨#[]⟩, .int .i64 0, .int .i64 0, .int .i64 0, .string ⟨#[]⟩, .int .i64 0, .int .u8 0, .int .u8 0, .int .u8 0, .int .u8 0, .int .u8 0, .int .u8 0, .int .u8 0, .int .u8 0, .int .u8 0, .int .u8 0, .int .u8 0, .int .u8 0, .int .u8 0, .int .u8 0, .int .u8 0, .int .u8 0, .int .u8 0, .int .u8 0, .int .u8 0, .int .u8 0, .int .u8 0, .int .u8 0, .int .u8 0, .int .u8 0, .int .u8 0, .int .u8 0, .int .u8 0, .int .u8 0, .int .u8 0, .int .u8 0, .int .u8 0, .int .u8 0] }
def ty138 : TI := { d := .slice 3, sz := 1, bytes := 24, zero := .slice none 0 0 }
def ty162 : TI := { d := .struct #[⟨ "State", 3, 0, false, "", "", 0⟩, ⟨ "Seq", 37, 1, false, "", "", 8⟩, ⟨ "Erases", 3, 2, false, "", "", 16⟩], sz := 3, bytes := 24, zero := .agg #[.int .i64 0, .int .u32 0, .int .i64 0] }
def ty181 : TI := { d := .struct #[⟨ "g", 82, 0, false, "", "carpetbag/nor", 0⟩, ⟨ "b", 29, 3, false, "", "carpetbag/nor", 24⟩, ⟨ "worn", 138, 4, false, "", "carpetbag/nor", 48⟩, ⟨ "down", 4, 5, false, "", "carpetbag/nor", 72⟩, ⟨ "fuse", 3, 6, false, "", "carpetbag/nor", 80⟩, ⟨ "tear", 179, 7, false, "", "carpetbag/nor", 88⟩], sz := 9, bytes := 104, zero := .agg #[.int .i64 0, .int .i64 0, .int .i64 0, .slice none 0 0, .slice none 0 0, .bool false, .int .i64 0, .int .i64 0, .int .u8 0] }
def ty182 : TI := { d := .map 9 189, sz := 1, bytes := 8, zero := .map none }
def ty189 : TI := { d := .func #[9] #[4] false, sz := 1, bytes := 8, zero := .nilFunc }
def ty197 : TI := { d := .struct #[⟨ "sector", 3, 0, false, "", "carpetbag/blob", 0⟩, ⟨ "at", 3, 1, false, "", "carpetbag/blob", 8⟩, ⟨ "blob", 9, 2, false, "", "carpetbag/blob", 16⟩], sz := 3, bytes := 32, zero := .agg #[.int .i64 0, .int .i64 0, .string ⟨#[]⟩] }
def ty269 : TI := { d := .struct #[⟨ "Seq", 37, 0, false, "", "", 0⟩, ⟨ "Live", 4, 1, false, "", "", 4⟩, ⟨ "Void", 4, 2, false, "", "", 5⟩], sz := 3, bytes := 8, zero := .agg #[.int .u32 0, .bool false, .bool false] }
def ty383 : TI := { d := .array 2 5, sz := 2, bytes := 2, zero := .agg #[.int .u8 0, .int .u8 0] }
def bodyOf (f : Func) : Code := f.body.getD .skip
noncomputable def fiOf (f : Func) : FI := { nt := f.ntmps, body := bodyOf f, res := f.results.toList }
noncomputable def fi3 : FI := fiOf Tryz.f3
noncomputable def fi4 : FI := fiOf Tryz.f4
noncomputable def fi5 : FI := fiOf Tryz.f5
noncomputable def fi6 : FI := fiOf Tryz.f6
noncomputable def fi7 : FI := fiOf Tryz.f7
noncomputable def fi8 : FI := fiOf Tryz.f8
noncomputable def fi9 : FI := fiOf Tryz.f9
noncomputable def fi10 : FI := fiOf Tryz.f10
noncomputable def fi11 : FI := fiOf Tryz.f11
noncomputable def fi12 : FI := fiOf Tryz.f12
noncomputable def fi13 : FI := fiOf Tryz.f13
noncomputable def fi14 : FI := fiOf Tryz.f14
noncomputable def fi15 : FI := fiOf Tryz.f15
noncomputable def fi16 : FI := fiOf Tryz.f16
noncomputable def fi17 : FI := fiOf Tryz.f17
noncomputable def fi21 : FI := fiOf Tryz.f21
noncomputable def fi26 : FI := fiOf Tryz.f26
noncomputable def fi27 : FI := fiOf Tryz.f27
noncomputable def fi28 : FI := fiOf Tryz.f28
noncomputable def fi29 : FI := fiOf Tryz.f29
noncomputable def fi30 : FI := fiOf Tryz.f30
noncomputable def fi31 : FI := fiOf Tryz.f31
noncomputable def fi33 : FI := fiOf Tryz.f33
noncomputable def fi41 : FI := fiOf Tryz.f41
noncomputable def fi53 : FI := fiOf Tryz.f53
noncomputable def fi55 : FI := fiOf Tryz.f55
noncomputable def fi68 : FI := fiOf Tryz.f68
noncomputable def fi69 : FI := fiOf Tryz.f69
noncomputable def fi70 : FI := fiOf Tryz.f70
noncomputable def fi73 : FI := fiOf Tryz.f73
noncomputable def fi74 : FI := fiOf Tryz.f74
noncomputable def fi76 : FI := fiOf Tryz.f76
noncomputable def fi77 : FI := fiOf Tryz.f77
noncomputable def fi78 : FI := fiOf Tryz.f78
noncomputable def fi79 : FI := fiOf Tryz.f79
noncomputable def fi80 : FI := fiOf Tryz.f80
noncomputable def fi82 : FI := fiOf Tryz.f82
noncomputable def fi83 : FI := fiOf Tryz.f83
noncomputable def fi84 : FI := fiOf Tryz.f84
noncomputable def fi85 : FI := fiOf Tryz.f85
noncomputable def fi88 : FI := fiOf Tryz.f88
noncomputable def fi89 : FI := fiOf Tryz.f89
noncomputable def fi90 : FI := fiOf Tryz.f90
noncomputable def fi97 : FI := fiOf Tryz.f97
noncomputable def fi138 : FI := fiOf Tryz.f138
noncomputable def fi139 : FI := fiOf Tryz.f139
noncomputable def fi140 : FI := fiOf Tryz.f140
noncomputable def fi141 : FI := fiOf Tryz.f141
noncomputable def fi143 : FI := fiOf Tryz.f143
noncomputable def fi146 : FI := fiOf Tryz.f146
noncomputable def fi149 : FI := fiOf Tryz.f149
noncomputable def fi150 : FI := fiOf Tryz.f150
noncomputable def fi161 : FI := fiOf Tryz.f161
noncomputable def fi162 : FI := fiOf Tryz.f162
noncomputable def fi163 : FI := fiOf Tryz.f163
noncomputable def fi169 : FI := fiOf Tryz.f169
noncomputable def fi175 : FI := fiOf Tryz.f175
noncomputable def fi176 : FI := fiOf Tryz.f176
noncomputable def fi177 : FI := fiOf Tryz.f177
noncomputable def fi247 : FI := fiOf Tryz.f247
noncomputable def fi248 : FI := fiOf Tryz.f248
noncomputable def fi249 : FI := fiOf Tryz.f249
noncomputable def fi250 : FI := fiOf Tryz.f250
noncomputable def fi251 : FI := fiOf Tryz.f251
noncomputable def fi255 : FI := fiOf Tryz.f255
noncomputable def fi260 : FI := fiOf Tryz.f260
noncomputable def fi261 : FI := fiOf Tryz.f261
noncomputable def fi267 : FI := fiOf Tryz.f267
noncomputable def fi273 : FI := fiOf Tryz.f273
noncomputable def fi281 : FI := fiOf Tryz.f281
noncomputable def fi348 : FI := fiOf Tryz.f348
noncomputable def fi355 : FI := fiOf Tryz.f355
noncomputable def fi365 : FI := fiOf Tryz.f365
noncomputable def fi368 : FI := fiOf Tryz.f368
def tyTree : Tr TI := (.nd (.nd (.nd (.nd (.nd (.nd (.nd (.nd .lf none (.nd .lf (some ty383) .lf)) none .lf) (some ty31) .lf) none .lf) none (.nd (.nd .lf (some ty39) (.nd .lf (some ty103) .lf)) (some ty23) .lf)) (some ty3) (.nd (.nd .lf none (.nd .lf (some ty51) .lf)) none .lf)) none (.nd (.nd .lf (some ty9) (.nd .lf none (.nd .lf none (.nd .lf (some ty121) .lf)))) (some ty5) (.nd (.nd (.nd (.nd .lf none (.nd .lf (some ty197) .lf)) (some ty37) .lf) none (.nd .lf none (.nd (.nd .lf (some ty181) .lf) none .lf))) none (.nd (.nd (.nd (.nd (.nd .lf (some ty269) .lf) none .lf) none .lf) none .lf) (some ty29) (.nd .lf none (.nd (.nd .lf (some ty189) .lf) none .lf)))))) none (.nd (.nd (.nd .lf none (.nd (.nd .lf none (.nd .lf (some ty104) .lf)) none (.nd .lf (some ty56) .lf))) (some ty4) (.nd .lf none (.nd (.nd .lf (some ty44) .lf) (some ty28) (.nd .lf (some ty60) .lf)))) none (.nd (.nd (.nd (.nd .lf (some ty34) (.nd (.nd .lf (some ty162) .lf) none .lf)) none (.nd (.nd .lf (some ty82) .lf) none .lf)) none (.nd (.nd (.nd (.nd .lf (some ty138) .lf) none .lf) none (.nd .lf (some ty106) .lf)) none .lf)) none (.nd (.nd .lf none (.nd .lf none (.nd (.nd .lf (some ty182) .lf) none .lf))) none (.nd (.nd .lf (some ty46) .lf) none .lf)))))
noncomputable def fiTree : Tr FI := (.nd (.nd (.nd (.nd (.nd (.nd (.nd (.nd (.nd .lf (some fi255) .lf) none .lf) none .lf) (some fi31) .lf) (some fi15) (.nd (.nd (.nd .lf (some fi143) .lf) (some fi79) .lf) none (.nd (.nd .lf (some fi175) .lf) none .lf))) (some fi7) (.nd .lf none (.nd .lf (some fi55) (.nd .lf none (.nd .lf (some fi247) .lf))))) (some fi3) (.nd (.nd (.nd .lf none (.nd (.nd .lf (some fi163) .lf) none (.nd (.nd .lf (some fi355) .lf) none .lf))) none (.nd (.nd .lf (some fi83) .lf) none .lf)) (some fi11) (.nd (.nd (.nd (.nd (.nd .lf (some fi267) .lf) (some fi139) .lf) none .lf) none .lf) (some fi27) (.nd .lf none (.nd .lf none (.nd .lf (some fi251) .lf)))))) none (.nd (.nd (.nd (.nd .lf (some fi33) (.nd (.nd .lf (some fi161) .lf) (some fi97) .lf)) (some fi17) (.nd (.nd (.nd (.nd .lf (some fi273) .lf) none .lf) none .lf) none (.nd (.nd .lf (some fi177) .lf) none .lf))) (some fi9) (.nd (.nd (.nd .lf (some fi73) .lf) (some fi41) (.nd (.nd .lf (some fi169) .lf) none .lf)) none (.nd (.nd (.nd (.nd .lf (some fi281) .lf) none .lf) (some fi89) .lf) none (.nd .lf none (.nd .lf (some fi249) .lf))))) (some fi5) (.nd (.nd (.nd (.nd (.nd (.nd .lf (some fi261) .lf) none .lf) (some fi69) .lf) none .lf) (some fi21) (.nd (.nd (.nd .lf (some fi149) .lf) (some fi85) .lf) (some fi53) .lf)) (some fi13) (.nd (.nd (.nd (.nd .lf (some fi141) .lf) (some fi77) .lf) none (.nd .lf none (.nd (.nd .lf (some fi365) .lf) none .lf))) (some fi29) .lf)))) none (.nd (.nd (.nd (.nd .lf (some fi16) (.nd (.nd .lf (some fi80) .lf) none (.nd (.nd .lf (some fi176) .lf) none (.nd (.nd .lf (some fi368) .lf) none .lf)))) (some fi8) (.nd .lf none (.nd (.nd .lf (some fi88) .lf) none (.nd .lf none (.nd .lf (some fi248) .lf))))) (some fi4) (.nd (.nd (.nd (.nd (.nd (.nd .lf (some fi260) .lf) none .lf) (some fi68) .lf) none .lf) none (.nd (.nd .lf (some fi84) .lf) none .lf)) (some fi12) (.nd (.nd (.nd (.nd .lf (some fi140) .lf) (some fi76) .lf) none .lf) (some fi28) (.nd (.nd .lf none (.nd (.nd .lf (some fi348) .lf) none .lf)) none .lf)))) none (.nd (.nd (.nd (.nd .lf none (.nd (.nd .lf (some fi162) .lf) none .lf)) none (.nd (.nd (.nd .lf (some fi146) .lf) (some fi82) .lf) none .lf)) (some fi10) (.nd (.nd (.nd (.nd .lf (some fi138) .lf) (some fi74) .lf) none .lf) (some fi26) (.nd (.nd .lf (some fi90) .lf) none (.nd .lf none (.nd .lf (some fi250) .lf))))) (some fi6) (.nd (.nd (.nd (.nd .lf (some fi70) .lf) none .lf) none (.nd (.nd (.nd .lf (some fi150) .lf) none .lf) none .lf)) (some fi14) (.nd (.nd (.nd .lf (some fi78) .lf) none .lf) (some fi30) .lf)))))
def tyList : List (Nat × TI) := [(3, ty3), (4, ty4), (5, ty5), (9, ty9), (23, ty23), (28, ty28), (29, ty29), (31, ty31), (34, ty34), (37, ty37), (39, ty39), (44, ty44), (46, ty46), (51, ty51), (56, ty56), (60, ty60), (82, ty82), (103, ty103), (104, ty104), (106, ty106), (121, ty121), (138, ty138), (162, ty162), (181, ty181), (182, ty182), (189, ty189), (197, ty197), (269, ty269), (383, ty383)]
noncomputable def fiList : List (Nat × FI) := [(3, fi3), (4, fi4), (5, fi5), (6, fi6), (7, fi7), (8, fi8), (9, fi9), (10, fi10), (11, fi11), (12, fi12), (13, fi13), (14, fi14), (15, fi15), (16, fi16), (17, fi17), (21, fi21), (26, fi26), (27, fi27), (28, fi28), (29, fi29), (30, fi30), (31, fi31), (33, fi33), (41, fi41), (53, fi53), (55, fi55), (68, fi68), (69, fi69), (70, fi70), (73, fi73), (74, fi74), (76, fi76), (77, fi77), (78, fi78), (79, fi79), (80, fi80), (82, fi82), (83, fi83), (84, fi84), (85, fi85), (88, fi88), (89, fi89), (90, fi90), (97, fi97), (138, fi138), (139, fi139), (140, fi140), (141, fi141), (143, fi143), (146, fi146), (149, fi149), (150, fi150), (161, fi161), (162, fi162), (163, fi163), (169, fi169), (175, fi175), (176, fi176), (177, fi177), (247, fi247), (248, fi248), (249, fi249), (250, fi250), (251, fi251), (255, fi255), (260, fi260), (261, fi261), (267, fi267), (273, fi273), (281, fi281), (348, fi348), (355, fi355), (365, fi365), (368, fi368)]

def Tr.build {α : Type} : List (Nat × α) → Tr α
  | [] => .lf
  | p :: l => (Tr.build l).set p.1 p.2
theorem Tr.build_mem {α : Type} : ∀ {l : List (Nat × α)} {k : Nat} {v : α}, (Tr.build l).get k = some v → (k, v) ∈ l
  | [], _, _, h => by cases h
  | p :: l, k, v, h => by
    simp only [Tr.build, Tr.get_set] at h
    by_cases hk : k = p.1
    · rw [if_pos hk] at h; cases h; subst hk; exact List.mem_cons_self ..
    · rw [if_neg hk] at h; exact List.mem_cons_of_mem _ (Tr.build_mem h)
theorem tyTree_build : tyTree = Tr.build tyList := by kernel_rfl
theorem fiTree_build : fiTree = Tr.build fiList := by kernel_rfl
theorem TIok.of {P : Program} {t : TypeId} {ti : TI} (h1 : P.underlying t = some ti.d) (h2 : (P.info? t).map (fun i => (i.size, i.bytes, i.zero)) = some (ti.sz, ti.bytes, some ti.zero)) (h3 : Nat.beq ti.zero.cells.size ti.sz = true)
    (h4 : (match ti.d with | .struct fs => fs.toList.all (fun f => (P.info? f.type).isSome) | _ => true) = true) : TIok P t ti := by
  obtain ⟨i, hi, hq⟩ := Option.map_eq_some_iff.1 h2
  simp only [Prod.mk.injEq] at hq
  refine ⟨h1, ⟨i, hi, hq.1, hq.2.1, hq.2.2⟩, nbeq_eq h3, ?_⟩
  split
  · rename_i fs hd
    rw [hd] at h4
    exact fun f hf => List.all_eq_true.1 h4 f hf
  · trivial
theorem FIok.of {P : Program} {f : FuncId} {fn : Func} (h1 : P.funcs[f]? = some fn) (h2 : (fn.name == "runtime.NumGoroutine") = false) (h3 : fn.body.isSome = true) : FIok P f (fiOf fn) := by
  refine ⟨fn, h1, h2, ?_, rfl, rfl⟩
  show fn.body = some (bodyOf fn)
  unfold bodyOf
  cases hb : fn.body with
  | none => rw [hb] at h3; cases h3
  | some b => rfl

theorem ty3_ok : TIok Tryz.prog 3 ty3 := .of Tryz.underlying3 (by kernel_rfl) (by kernel_rfl) (by kernel_rfl)
theorem ty4_ok : TIok Tryz.prog 4 ty4 := .of Tryz.underlying4 (by kernel_rfl) (by kernel_rfl) (by kernel_rfl)
theorem ty5_ok : TIok Tryz.prog 5 ty5 := .of Tryz.underlying5 (by kernel_rfl) (by kernel_rfl) (by kernel_rfl)
theorem ty9_ok : TIok Tryz.prog 9 ty9 := .of Tryz.underlying9 (by kernel_rfl) (by kernel_rfl) (by kernel_rfl)
theorem ty23_ok : TIok Tryz.prog 23 ty23 := .of Tryz.underlying23 (by kernel_rfl) (by kernel_rfl) (by kernel_rfl)
theorem ty28_ok : TIok Tryz.prog 28 ty28 := .of Tryz.underlying28 (by kernel_rfl) (by kernel_rfl) (by kernel_rfl)
theorem ty29_ok : TIok Tryz.prog 29 ty29 := .of Tryz.underlying29 (by kernel_rfl) (by kernel_rfl) (by kernel_rfl)
theorem ty31_ok : TIok Tryz.prog 31 ty31 := .of Tryz.underlying31 (by kernel_rfl) (by kernel_rfl) (by kernel_rfl)
theorem ty34_ok : TIok Tryz.prog 34 ty34 := .of Tryz.underlying34 (by kernel_rfl) (by kernel_rfl) (by kernel_rfl)
theorem ty37_ok : TIok Tryz.prog 37 ty37 := .of Tryz.underlying37 (by kernel_rfl) (by kernel_rfl) (by kernel_rfl)
theorem ty39_ok : TIok Tryz.prog 39 ty39 := .of Tryz.underlying39 (by kernel_rfl) (by kernel_rfl) (by kernel_rfl)
theorem ty44_ok : TIok Tryz.prog 44 ty44 := .of Tryz.underlying44 (by kernel_rfl) (by kernel_rfl) (by kernel_rfl)
theorem ty46_ok : TIok Tryz.prog 46 ty46 := .of Tryz.underlying46 (by kernel_rfl) (by kernel_rfl) (by kernel_rfl)
theorem ty51_ok : TIok Tryz.prog 51 ty51 := .of Tryz.underlying51 (by kernel_rfl) (by kernel_rfl) (by kernel_rfl)
theorem ty56_ok : TIok Tryz.prog 56 ty56 := .of Tryz.underlying56 (by kernel_rfl) (by kernel_rfl) (by kernel_rfl)
theorem ty60_ok : TIok Tryz.prog 60 ty60 := .of Tryz.underlying60 (by kernel_rfl) (by kernel_rfl) (by kernel_rfl)
theorem ty82_ok : TIok Tryz.prog 82 ty82 := .of Tryz.underlying82 (by kernel_rfl) (by kernel_rfl) (by kernel_rfl)
theorem ty103_ok : TIok Tryz.prog 103 ty103 := .of Tryz.underlying103 (by kernel_rfl) (by kernel_rfl) (by kernel_rfl)
theorem ty104_ok : TIok Tryz.prog 104 ty104 := .of Tryz.underlying104 (by kernel_rfl) (by kernel_rfl) (by kernel_rfl)
theorem ty106_ok : TIok Tryz.prog 106 ty106 := .of Tryz.underlying106 (by kernel_rfl) (by kernel_rfl) (by kernel_rfl)
theorem ty121_ok : TIok Tryz.prog 121 ty121 := .of Tryz.underlying121 (by kernel_rfl) (by kernel_rfl) (by kernel_rfl)
theorem ty138_ok : TIok Tryz.prog 138 ty138 := .of Tryz.underlying138 (by kernel_rfl) (by kernel_rfl) (by kernel_rfl)
theorem ty162_ok : TIok Tryz.prog 162 ty162 := .of Tryz.underlying162 (by kernel_rfl) (by kernel_rfl) (by kernel_rfl)
theorem ty181_ok : TIok Tryz.prog 181 ty181 := .of Tryz.underlying181 (by kernel_rfl) (by kernel_rfl) (by kernel_rfl)
theorem ty182_ok : TIok Tryz.prog 182 ty182 := .of Tryz.underlying182 (by kernel_rfl) (by kernel_rfl) (by kernel_rfl)
theorem ty189_ok : TIok Tryz.prog 189 ty189 := .of Tryz.underlying189 (by kernel_rfl) (by kernel_rfl) (by kernel_rfl)
theorem ty197_ok : TIok Tryz.prog 197 ty197 := .of Tryz.underlying197 (by kernel_rfl) (by kernel_rfl) (by kernel_rfl)
theorem ty269_ok : TIok Tryz.prog 269 ty269 := .of Tryz.underlying269 (by kernel_rfl) (by kernel_rfl) (by kernel_rfl)
theorem ty383_ok : TIok Tryz.prog 383 ty383 := .of Tryz.underlying383 (by kernel_rfl) (by kernel_rfl) (by kernel_rfl)
theorem fi3_ok : FIok Tryz.prog 3 fi3 := .of Tryz.func3 (by kernel_rfl) (by kernel_rfl)
theorem fi4_ok : FIok Tryz.prog 4 fi4 := .of Tryz.func4 (by kernel_rfl) (by kernel_rfl)
theorem fi5_ok : FIok Tryz.prog 5 fi5 := .of Tryz.func5 (by kernel_rfl) (by kernel_rfl)
theorem fi6_ok : FIok Tryz.prog 6 fi6 := .of Tryz.func6 (by kernel_rfl) (by kernel_rfl)
theorem fi7_ok : FIok Tryz.prog 7 fi7 := .of Tryz.func7 (by kernel_rfl) (by kernel_rfl)
theorem fi8_ok : FIok Tryz.prog 8 fi8 := .of Tryz.func8 (by kernel_rfl) (by kernel_rfl)
theorem fi9_ok : FIok Tryz.prog 9 fi9 := .of Tryz.func9 (by kernel_rfl) (by kernel_rfl)
theorem fi10_ok : FIok Tryz.prog 10 fi10 := .of Tryz.func10 (by kernel_rfl) (by kernel_rfl)
theorem fi11_ok : FIok Tryz.prog 11 fi11 := .of Tryz.func11 (by kernel_rfl) (by kernel_rfl)
theorem fi12_ok : FIok Tryz.prog 12 fi12 := .of Tryz.func12 (by kernel_rfl) (by kernel_rfl)
theorem fi13_ok : FIok Tryz.prog 13 fi13 := .of Tryz.func13 (by kernel_rfl) (by kernel_rfl)
theorem fi14_ok : FIok Tryz.prog 14 fi14 := .of Tryz.func14 (by kernel_rfl) (by kernel_rfl)
theorem fi15_ok : FIok Tryz.prog 15 fi15 := .of Tryz.func15 (by kernel_rfl) (by kernel_rfl)
theorem fi16_ok : FIok Tryz.prog 16 fi16 := .of Tryz.func16 (by kernel_rfl) (by kernel_rfl)
theorem fi17_ok : FIok Tryz.prog 17 fi17 := .of Tryz.func17 (by kernel_rfl) (by kernel_rfl)
theorem fi21_ok : FIok Tryz.prog 21 fi21 := .of Tryz.func21 (by kernel_rfl) (by kernel_rfl)
theorem fi26_ok : FIok Tryz.prog 26 fi26 := .of Tryz.func26 (by kernel_rfl) (by kernel_rfl)
theorem fi27_ok : FIok Tryz.prog 27 fi27 := .of Tryz.func27 (by kernel_rfl) (by kernel_rfl)
theorem fi28_ok : FIok Tryz.prog 28 fi28 := .of Tryz.func28 (by kernel_rfl) (by kernel_rfl)
theorem fi29_ok : FIok Tryz.prog 29 fi29 := .of Tryz.func29 (by kernel_rfl) (by kernel_rfl)
theorem fi30_ok : FIok Tryz.prog 30 fi30 := .of Tryz.func30 (by kernel_rfl) (by kernel_rfl)
theorem fi31_ok : FIok Tryz.prog 31 fi31 := .of Tryz.func31 (by kernel_rfl) (by kernel_rfl)
theorem fi33_ok : FIok Tryz.prog 33 fi33 := .of Tryz.func33 (by kernel_rfl) (by kernel_rfl)
theorem fi41_ok : FIok Tryz.prog 41 fi41 := .of Tryz.func41 (by kernel_rfl) (by kernel_rfl)
theorem fi53_ok : FIok Tryz.prog 53 fi53 := .of Tryz.func53 (by kernel_rfl) (by kernel_rfl)
theorem fi55_ok : FIok Tryz.prog 55 fi55 := .of Tryz.func55 (by kernel_rfl) (by kernel_rfl)
theorem fi68_ok : FIok Tryz.prog 68 fi68 := .of Tryz.func68 (by kernel_rfl) (by kernel_rfl)
theorem fi69_ok : FIok Tryz.prog 69 fi69 := .of Tryz.func69 (by kernel_rfl) (by kernel_rfl)
theorem fi70_ok : FIok Tryz.prog 70 fi70 := .of Tryz.func70 (by kernel_rfl) (by kernel_rfl)
theorem fi73_ok : FIok Tryz.prog 73 fi73 := .of Tryz.func73 (by kernel_rfl) (by kernel_rfl)
theorem fi74_ok : FIok Tryz.prog 74 fi74 := .of Tryz.func74 (by kernel_rfl) (by kernel_rfl)
theorem fi76_ok : FIok Tryz.prog 76 fi76 := .of Tryz.func76 (by kernel_rfl) (by kernel_rfl)
theorem fi77_ok : FIok Tryz.prog 77 fi77 := .of Tryz.func77 (by kernel_rfl) (by kernel_rfl)
theorem fi78_ok : FIok Tryz.prog 78 fi78 := .of Tryz.func78 (by kernel_rfl) (by kernel_rfl)
theorem fi79_ok : FIok Tryz.prog 79 fi79 := .of Tryz.func79 (by kernel_rfl) (by kernel_rfl)
theorem fi80_ok : FIok Tryz.prog 80 fi80 := .of Tryz.func80 (by kernel_rfl) (by kernel_rfl)
theorem fi82_ok : FIok Tryz.prog 82 fi82 := .of Tryz.func82 (by kernel_rfl) (by kernel_rfl)
theorem fi83_ok : FIok Tryz.prog 83 fi83 := .of Tryz.func83 (by kernel_rfl) (by kernel_rfl)
theorem fi84_ok : FIok Tryz.prog 84 fi84 := .of Tryz.func84 (by kernel_rfl) (by kernel_rfl)
theorem fi85_ok : FIok Tryz.prog 85 fi85 := .of Tryz.func85 (by kernel_rfl) (by kernel_rfl)
theorem fi88_ok : FIok Tryz.prog 88 fi88 := .of Tryz.func88 (by kernel_rfl) (by kernel_rfl)
theorem fi89_ok : FIok Tryz.prog 89 fi89 := .of Tryz.func89 (by kernel_rfl) (by kernel_rfl)
theorem fi90_ok : FIok Tryz.prog 90 fi90 := .of Tryz.func90 (by kernel_rfl) (by kernel_rfl)
theorem fi97_ok : FIok Tryz.prog 97 fi97 := .of Tryz.func97 (by kernel_rfl) (by kernel_rfl)
theorem fi138_ok : FIok Tryz.prog 138 fi138 := .of Tryz.func138 (by kernel_rfl) (by kernel_rfl)
theorem fi139_ok : FIok Tryz.prog 139 fi139 := .of Tryz.func139 (by kernel_rfl) (by kernel_rfl)
theorem fi140_ok : FIok Tryz.prog 140 fi140 := .of Tryz.func140 (by kernel_rfl) (by kernel_rfl)
theorem fi141_ok : FIok Tryz.prog 141 fi141 := .of Tryz.func141 (by kernel_rfl) (by kernel_rfl)
theorem fi143_ok : FIok Tryz.prog 143 fi143 := .of Tryz.func143 (by kernel_rfl) (by kernel_rfl)
theorem fi146_ok : FIok Tryz.prog 146 fi146 := .of Tryz.func146 (by kernel_rfl) (by kernel_rfl)
theorem fi149_ok : FIok Tryz.prog 149 fi149 := .of Tryz.func149 (by kernel_rfl) (by kernel_rfl)
theorem fi150_ok : FIok Tryz.prog 150 fi150 := .of Tryz.func150 (by kernel_rfl) (by kernel_rfl)
theorem fi161_ok : FIok Tryz.prog 161 fi161 := .of Tryz.func161 (by kernel_rfl) (by kernel_rfl)
theorem fi162_ok : FIok Tryz.prog 162 fi162 := .of Tryz.func162 (by kernel_rfl) (by kernel_rfl)
theorem fi163_ok : FIok Tryz.prog 163 fi163 := .of Tryz.func163 (by kernel_rfl) (by kernel_rfl)
theorem fi169_ok : FIok Tryz.prog 169 fi169 := .of Tryz.func169 (by kernel_rfl) (by kernel_rfl)
theorem fi175_ok : FIok Tryz.prog 175 fi175 := .of Tryz.func175 (by kernel_rfl) (by kernel_rfl)
theorem fi176_ok : FIok Tryz.prog 176 fi176 := .of Tryz.func176 (by kernel_rfl) (by kernel_rfl)
theorem fi177_ok : FIok Tryz.prog 177 fi177 := .of Tryz.func177 (by kernel_rfl) (by kernel_rfl)
theorem fi247_ok : FIok Tryz.prog 247 fi247 := .of Tryz.func247 (by kernel_rfl) (by kernel_rfl)
theorem fi248_ok : FIok Tryz.prog 248 fi248 := .of Tryz.func248 (by kernel_rfl) (by kernel_rfl)
theorem fi249_ok : FIok Tryz.prog 249 fi249 := .of Tryz.func249 (by kernel_rfl) (by kernel_rfl)
theorem fi250_ok : FIok Tryz.prog 250 fi250 := .of Tryz.func250 (by kernel_rfl) (by kernel_rfl)
theorem fi251_ok : FIok Tryz.prog 251 fi251 := .of Tryz.func251 (by kernel_rfl) (by kernel_rfl)
theorem fi255_ok : FIok Tryz.prog 255 fi255 := .of Tryz.func255 (by kernel_rfl) (by kernel_rfl)
theorem fi260_ok : FIok Tryz.prog 260 fi260 := .of Tryz.func260 (by kernel_rfl) (by kernel_rfl)
theorem fi261_ok : FIok Tryz.prog 261 fi261 := .of Tryz.func261 (by kernel_rfl) (by kernel_rfl)
theorem fi267_ok : FIok Tryz.prog 267 fi267 := .of Tryz.func267 (by kernel_rfl) (by kernel_rfl)
theorem fi273_ok : FIok Tryz.prog 273 fi273 := .of Tryz.func273 (by kernel_rfl) (by kernel_rfl)
theorem fi281_ok : FIok Tryz.prog 281 fi281 := .of Tryz.func281 (by kernel_rfl) (by kernel_rfl)
theorem fi348_ok : FIok Tryz.prog 348 fi348 := .of Tryz.func348 (by kernel_rfl) (by kernel_rfl)
theorem fi355_ok : FIok Tryz.prog 355 fi355 := .of Tryz.func355 (by kernel_rfl) (by kernel_rfl)
theorem fi365_ok : FIok Tryz.prog 365 fi365 := .of Tryz.func365 (by kernel_rfl) (by kernel_rfl)
theorem fi368_ok : FIok Tryz.prog 368 fi368 := .of Tryz.func368 (by kernel_rfl) (by kernel_rfl)
theorem tyList_ok : ∀ p ∈ tyList, TIok Tryz.prog p.1 p.2 := by
  unfold tyList
  simp only [List.forall_mem_cons]
  exact ⟨ty3_ok, ty4_ok, ty5_ok, ty9_ok, ty23_ok, ty28_ok, ty29_ok, ty31_ok, ty34_ok, ty37_ok, ty39_ok, ty44_ok, ty46_ok, ty51_ok, ty56_ok, ty60_ok, ty82_ok, ty103_ok, ty104_ok, ty106_ok, ty121_ok, ty138_ok, ty162_ok, ty181_ok, ty182_ok, ty189_ok, ty197_ok, ty269_ok, ty383_ok, fun _ h => by cases h⟩
theorem fiList_ok : ∀ p ∈ fiList, FIok Tryz.prog p.1 p.2 := by
  unfold fiList
  simp only [List.forall_mem_cons]
  exact ⟨fi3_ok, fi4_ok, fi5_ok, fi6_ok, fi7_ok, fi8_ok, fi9_ok, fi10_ok, fi11_ok, fi12_ok, fi13_ok, fi14_ok, fi15_ok, fi16_ok, fi17_ok, fi21_ok, fi26_ok, fi27_ok, fi28_ok, fi29_ok, fi30_ok, fi31_ok, fi33_ok, fi41_ok, fi53_ok, fi55_ok, fi68_ok, fi69_ok, fi70_ok, fi73_ok, fi74_ok, fi76_ok, fi77_ok, fi78_ok, fi79_ok, fi80_ok, fi82_ok, fi83_ok, fi84_ok, fi85_ok, fi88_ok, fi89_ok, fi90_ok, fi97_ok, fi138_ok, fi139_ok, fi140_ok, fi141_ok, fi143_ok, fi146_ok, fi149_ok, fi150_ok, fi161_ok, fi162_ok, fi163_ok, fi169_ok, fi175_ok, fi176_ok, fi177_ok, fi247_ok, fi248_ok, fi249_ok, fi250_ok, fi251_ok, fi255_ok, fi260_ok, fi261_ok, fi267_ok, fi273_ok, fi281_ok, fi348_ok, fi355_ok, fi365_ok, fi368_ok, fun _ h => by cases h⟩
end Go.Eng
