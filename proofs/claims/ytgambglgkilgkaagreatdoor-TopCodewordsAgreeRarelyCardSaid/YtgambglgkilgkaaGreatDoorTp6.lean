/- The query parser on one fixed text: number, cond. -/
import Derived.Test.YtgambglgkilgkaaGreatDoorTp5
import Derived.Shelf.Strconv.Atoi
import Derived.Ground.NamesProg
import Derived.Lib.AtoiErrMem
namespace Go.Proofs
open Go.Shelf Go.RowKit
def Tryz.lays172_ren : Go.Shelf.Ren := ⟨fun | 172 => 76 | 244 => 96 | 245 => 97 | 247 => 111 | 279 => 112 | 280 => 113 | 281 => 114 | 282 => 115 | 287 => 121 | 316 => 122 | 171 => 124 | 205 => 123 | 321 => 129 | 322 => 130 | 243 => 131 | 246 => 132 | 283 => 133 | 284 => 134 | 285 => 135 | 286 => 136 | 129 => 138 | 317 => 137 | 318 => 139 | 319 => 140 | 320 => 118 | 337 => 125 | 338 => 126 | n => n, fun | 9 => 9 | 3 => 3 | 75 => 119 | 76 => 120 | 4 => 4 | 5 => 5 | 167 => 150 | 37 => 151 | 0 => 0 | 85 => 152 | 2 => 2 | 168 => 154 | 53 => 28 | 175 => 159 | 46 => 149 | 210 => 163 | 127 => 172 | 145 => 175 | 143 => 173 | 21 => 21 | 171 => 179 | 173 => 181 | 212 => 184 | 51 => 167 | 20 => 20 | 213 => 185 | 232 => 176 | 233 => 177 | 80 => 186 | n => n, fun | 15 => 2 | 16 => 3 | 17 => 6 | 18 => 4 | 19 => 5 | n => n⟩
theorem Tryz.lays172 : Go.Proofs.Lays.n172 Tryz.prog Tryz.lays172_ren := {
  mixed := by kernel_rfl
  f129 := Tryz.func138.trans (congrArg some (by kernel_rfl))
  f171 := Tryz.func124.trans (congrArg some (by kernel_rfl))
  f172 := Tryz.func76.trans (congrArg some (by kernel_rfl))
  f205 := Tryz.func123.trans (congrArg some (by kernel_rfl))
  f243 := Tryz.func131.trans (congrArg some (by kernel_rfl))
  f244 := Tryz.func96.trans (congrArg some (by kernel_rfl))
  f245 := Tryz.func97.trans (congrArg some (by kernel_rfl))
  f246 := Tryz.func132.trans (congrArg some (by kernel_rfl))
  f247 := Tryz.func111.trans (congrArg some (by kernel_rfl))
  f279 := Tryz.func112.trans (congrArg some (by kernel_rfl))
  f280 := Tryz.func113.trans (congrArg some (by kernel_rfl))
  f281 := Tryz.func114.trans (congrArg some (by kernel_rfl))
  f282 := Tryz.func115.trans (congrArg some (by kernel_rfl))
  f283 := Tryz.func133.trans (congrArg some (by kernel_rfl))
  f284 := Tryz.func134.trans (congrArg some (by kernel_rfl))
  f285 := Tryz.func135.trans (congrArg some (by kernel_rfl))
  f286 := Tryz.func136.trans (congrArg some (by kernel_rfl))
  f287 := Tryz.func121.trans (congrArg some (by kernel_rfl))
  f316 := Tryz.func122.trans (congrArg some (by kernel_rfl))
  f317 := Tryz.func137.trans (congrArg some (by kernel_rfl))
  f318 := Tryz.func139.trans (congrArg some (by kernel_rfl))
  f319 := Tryz.func140.trans (congrArg some (by kernel_rfl))
  f320 := Tryz.func118.trans (congrArg some (by kernel_rfl))
  f321 := Tryz.func129.trans (congrArg some (by kernel_rfl))
  f322 := Tryz.func130.trans (congrArg some (by kernel_rfl))
  f337 := Tryz.func125.trans (congrArg some (by kernel_rfl))
  f338 := Tryz.func126.trans (congrArg some (by kernel_rfl))
  t0 := Tryz.underlying0
  a0 := Tryz.isAgg0
  z0 := Tryz.sizeOf0
  v0 := Tryz.zeroValue0
  t2 := Tryz.underlying2
  a2 := Tryz.isAgg2
  z2 := Tryz.sizeOf2
  v2 := Tryz.zeroValue2
  t3 := Tryz.underlying3
  a3 := Tryz.isAgg3
  z3 := Tryz.sizeOf3
  v3 := Tryz.zeroValue3
  t4 := Tryz.underlying4
  a4 := Tryz.isAgg4
  z4 := Tryz.sizeOf4
  v4 := Tryz.zeroValue4
  t5 := Tryz.underlying5
  a5 := Tryz.isAgg5
  z5 := Tryz.sizeOf5
  v5 := Tryz.zeroValue5
  t9 := Tryz.underlying9
  a9 := Tryz.isAgg9
  z9 := Tryz.sizeOf9
  v9 := Tryz.zeroValue9
  t20 := Tryz.underlying20
  a20 := Tryz.isAgg20
  z20 := Tryz.sizeOf20
  v20 := Tryz.zeroValue20
  t21 := Tryz.underlying21
  a21 := Tryz.isAgg21
  z21 := Tryz.sizeOf21
  v21 := Tryz.zeroValue21
  t37 := Tryz.underlying151
  a37 := Tryz.isAgg151
  z37 := Tryz.sizeOf151
  v37 := Tryz.zeroValue151
  t46 := Tryz.underlying149
  a46 := Tryz.isAgg149
  z46 := Tryz.sizeOf149
  v46 := Tryz.zeroValue149
  t51 := Tryz.underlying167
  a51 := Tryz.isAgg167
  z51 := Tryz.sizeOf167
  v51 := Tryz.zeroValue167
  t53 := Tryz.underlying28
  a53 := Tryz.isAgg28
  z53 := Tryz.sizeOf28
  v53 := Tryz.zeroValue28
  t75 := Tryz.underlying119
  a75 := Tryz.isAgg119
  z75 := Tryz.sizeOf119
  v75 := Tryz.zeroValue119
  t76 := Tryz.underlying120
  a76 := Tryz.isAgg120
  z76 := Tryz.sizeOf120
  v76 := Tryz.zeroValue120
  t85 := Tryz.underlying152
  a85 := Tryz.isAgg152
  z85 := Tryz.sizeOf152
  v85 := Tryz.zeroValue152
  t127 := Tryz.underlying172
  a127 := Tryz.isAgg172
  z127 := Tryz.sizeOf172
  v127 := Tryz.zeroValue172
  t143 := Tryz.underlying173
  a143 := Tryz.isAgg173
  z143 := Tryz.sizeOf173
  v143 := Tryz.zeroValue173
  t145 := Tryz.underlying175
  a145 := Tryz.isAgg175
  z145 := Tryz.sizeOf175
  v145 := Tryz.zeroValue175
  t167 := Tryz.underlying150
  a167 := Tryz.isAgg150
  z167 := Tryz.sizeOf150
  v167 := Tryz.zeroValue150
  t168 := Tryz.underlying154
  a168 := Tryz.isAgg154
  z168 := Tryz.sizeOf154
  v168 := Tryz.zeroValue154
  t171 := Tryz.underlying179
  a171 := Tryz.isAgg179
  z171 := Tryz.sizeOf179
  v171 := Tryz.zeroValue179
  t173 := Tryz.underlying181
  a173 := Tryz.isAgg181
  z173 := Tryz.sizeOf181
  v173 := Tryz.zeroValue181
  t175 := Tryz.underlying159
  a175 := Tryz.isAgg159
  z175 := Tryz.sizeOf159
  v175 := Tryz.zeroValue159
  t210 := Tryz.underlying163
  a210 := Tryz.isAgg163
  z210 := Tryz.sizeOf163
  v210 := Tryz.zeroValue163
  t212 := Tryz.underlying184
  a212 := Tryz.isAgg184
  z212 := Tryz.sizeOf184
  v212 := Tryz.zeroValue184
  t213 := Tryz.underlying185
  a213 := Tryz.isAgg185
  z213 := Tryz.sizeOf185
  t232 := Tryz.underlying176
  a232 := Tryz.isAgg176
  z232 := Tryz.sizeOf176
  v232 := Tryz.zeroValue176
  t233 := Tryz.underlying177
  a233 := Tryz.isAgg177
  z233 := Tryz.sizeOf177
  v233 := Tryz.zeroValue177
  g15 := by kernel_rfl
  g16 := by kernel_rfl
  g17 := by kernel_rfl
  g18 := by kernel_rfl
  g19 := by kernel_rfl }
end Go.Proofs
namespace Go.Proofs.YtgambglgkilgkaaGreatDoor
open Go.RowKit Go.ChangeMaps
theorem l_atoi (s : ByteArray) (n : Int) (hl : s.size ≤ 18) (h : Lib.atoi s.data.toList = some n) (w : World) :
    Calls Tryz.prog 76 #[.string s] w fun e w' => e = .returned (.tuple #[.int .i64 n, .nilIface]) ∧ Gn w w' :=
  (Any.strconv_Atoi Tryz.lays172 s n hl h w).mono fun _ _ ⟨e, t, k⟩ => ⟨e, by subst k; exact Gn.of (Lib.bytesWorld_below _ _ _)⟩
set_option maxRecDepth 100000 in
set_option maxHeartbeats 4000000 in
theorem q_number12 (b : Nat) (w : World) (h : PB w b 12) :
    Calls Tryz.prog 39 #[.pointer (some ⟨b, 0, none⟩), .int .i64 1, .int .i64 6] w fun e w' => e = .returned (.int .i64 2) ∧ PB w' b 14 ∧ Kb b w w' := by
  go_enter Tryz.func39, Tryz.ntmps39
  go_wp2_with fail
  refine (q_peek12 b _ h).mono ?_
  rintro e w1 ⟨rfl, h1, hk⟩
  have hne : b ≠ w1.heap.size := Nat.ne_of_lt h1.lt
  go_wp2_with fail
  have g0 := Gn.al (w := w1) (.cells #[.int .i64 2, .string ⟨#[50]⟩] 63)
  have hr := hnew w1 (.cells #[.int .i64 2, .string ⟨#[50]⟩] 63)
  replace h1 := h1.up g0; replace hk := hk.gn g0
  clear g0
  generalize w1.alloc (.cells #[.int .i64 2, .string ⟨#[50]⟩] 63) = w2 at *
  generalize w1.heap.size = br at *
  refine (l_atoi _ 2 (by decide) (by decide +kernel) _).mono ?_
  rintro e w3 ⟨rfl, g⟩
  replace h1 := h1.up g; replace hk := hk.gn g; replace hr := Gn.block g hr
  clear g
  have c1 := h1.p; have c3 := h1.e; have lt := h1.lt; have f1 := h1.fz 1
  have r0 := obj_cell hr 0 rfl; have r1 := obj_cell hr 1 rfl; have rz := blk_lt hr
  go_wp2_with fail
  go_region
  all_goals
    go_wp2_with fail
    go_ret
    exact ⟨rfl, h1.set 14, (hk.trans (Kb.set w3 1 (.int .i64 14))).trans (Kb.drew _ _)⟩
set_option maxRecDepth 100000 in
set_option maxHeartbeats 4000000 in
theorem q_number27 (b : Nat) (w : World) (h : PB w b 27) :
    Calls Tryz.prog 39 #[.pointer (some ⟨b, 0, none⟩), .int .i64 0, .int .i64 15] w fun e w' => e = .returned (.int .i64 5) ∧ PB w' b 29 ∧ Kb b w w' := by
  go_enter Tryz.func39, Tryz.ntmps39
  go_wp2_with fail
  refine (q_peek27 b _ h).mono ?_
  rintro e w1 ⟨rfl, h1, hk⟩
  have hne : b ≠ w1.heap.size := Nat.ne_of_lt h1.lt
  go_wp2_with fail
  have g0 := Gn.al (w := w1) (.cells #[.int .i64 2, .string ⟨#[53]⟩] 63)
  have hr := hnew w1 (.cells #[.int .i64 2, .string ⟨#[53]⟩] 63)
  replace h1 := h1.up g0; replace hk := hk.gn g0
  clear g0
  generalize w1.alloc (.cells #[.int .i64 2, .string ⟨#[53]⟩] 63) = w2 at *
  generalize w1.heap.size = br at *
  refine (l_atoi _ 5 (by decide) (by decide +kernel) _).mono ?_
  rintro e w3 ⟨rfl, g⟩
  replace h1 := h1.up g; replace hk := hk.gn g; replace hr := Gn.block g hr
  clear g
  have c1 := h1.p; have c3 := h1.e; have lt := h1.lt; have f1 := h1.fz 1
  have r0 := obj_cell hr 0 rfl; have r1 := obj_cell hr 1 rfl; have rz := blk_lt hr
  go_wp2_with fail
  go_region
  all_goals
    go_wp2_with fail
    go_ret
    exact ⟨rfl, h1.set 29, (hk.trans (Kb.set w3 1 (.int .i64 29))).trans (Kb.drew _ _)⟩
end Go.Proofs.YtgambglgkilgkaaGreatDoor
