/- The library's contracts of Atoi, Itoa and strings.Builder over this program. -/
import Derived.Test.YtecaaimaeaocbaaDoorLib
import Derived.Test.YtecaaimaeaocbaaDoorRows
import Derived.Shelf.Strconv.Atoi
import Derived.Shelf.Strconv.Itoa3
import Derived.Shelf.Strings.Builder1
namespace Go.Proofs.YtecaaimaeaocbaaDoor
open Go Go.Shelf Go.RowKit
def libRen : Ren where
  f := fun x => match x with
    | 129 => 151
    | 166 => 100
    | 167 => 101
    | 169 => 80
    | 170 => 79
    | 171 => 102
    | 172 => 128
    | 205 => 159
    | 240 => 120
    | 243 => 121
    | 244 => 137
    | 245 => 138
    | 246 => 130
    | 247 => 145
    | 276 => 129
    | 279 => 146
    | 280 => 147
    | 281 => 148
    | 282 => 149
    | 283 => 139
    | 284 => 140
    | 285 => 141
    | 286 => 142
    | 287 => 157
    | 316 => 158
    | 317 => 150
    | 318 => 152
    | 319 => 153
    | 320 => 154
    | 321 => 162
    | 322 => 163
    | 337 => 160
    | 338 => 161
    | n => n
  t := fun x => match x with
    | 0 => 0
    | 2 => 2
    | 3 => 3
    | 4 => 4
    | 5 => 5
    | 9 => 9
    | 20 => 20
    | 21 => 21
    | 37 => 112
    | 46 => 80
    | 51 => 177
    | 53 => 163
    | 70 => 111
    | 72 => 114
    | 75 => 132
    | 76 => 133
    | 80 => 117
    | 85 => 169
    | 127 => 137
    | 143 => 188
    | 145 => 190
    | 164 => 154
    | 167 => 168
    | 168 => 171
    | 171 => 162
    | 173 => 166
    | 175 => 180
    | 210 => 184
    | 212 => 176
    | 213 => 178
    | 232 => 191
    | 233 => 192
    | n => n
  g := fun x => match x with
    | 15 => 1
    | 16 => 2
    | 17 => 0
    | 18 => 3
    | 19 => 4
    | n => n
theorem lays172 : Lays.n172 Tryd.prog libRen where
  mixed := by kernel_rfl
  f129 := by kernel_rfl
  f171 := by kernel_rfl
  f172 := by kernel_rfl
  f205 := by kernel_rfl
  f243 := by kernel_rfl
  f244 := by kernel_rfl
  f245 := by kernel_rfl
  f246 := by kernel_rfl
  f247 := by kernel_rfl
  f279 := by kernel_rfl
  f280 := by kernel_rfl
  f281 := by kernel_rfl
  f282 := by kernel_rfl
  f283 := by kernel_rfl
  f284 := by kernel_rfl
  f285 := by kernel_rfl
  f286 := by kernel_rfl
  f287 := by kernel_rfl
  f316 := by kernel_rfl
  f317 := by kernel_rfl
  f318 := by kernel_rfl
  f319 := by kernel_rfl
  f320 := by kernel_rfl
  f321 := by kernel_rfl
  f322 := by kernel_rfl
  f337 := by kernel_rfl
  f338 := by kernel_rfl
  t0 := by kernel_rfl
  a0 := fun _ => by kernel_rfl
  z0 := fun _ => by kernel_rfl
  v0 := fun _ => by kernel_rfl
  t2 := by kernel_rfl
  a2 := fun _ => by kernel_rfl
  z2 := fun _ => by kernel_rfl
  v2 := fun _ => by kernel_rfl
  t3 := by kernel_rfl
  a3 := fun _ => by kernel_rfl
  z3 := fun _ => by kernel_rfl
  v3 := fun _ => by kernel_rfl
  t4 := by kernel_rfl
  a4 := fun _ => by kernel_rfl
  z4 := fun _ => by kernel_rfl
  v4 := fun _ => by kernel_rfl
  t5 := by kernel_rfl
  a5 := fun _ => by kernel_rfl
  z5 := fun _ => by kernel_rfl
  v5 := fun _ => by kernel_rfl
  t9 := by kernel_rfl
  a9 := fun _ => by kernel_rfl
  z9 := fun _ => by kernel_rfl
  v9 := fun _ => by kernel_rfl
  t20 := by kernel_rfl
  a20 := fun _ => by kernel_rfl
  z20 := fun _ => by kernel_rfl
  v20 := fun _ => by kernel_rfl
  t21 := by kernel_rfl
  a21 := fun _ => by kernel_rfl
  z21 := fun _ => by kernel_rfl
  v21 := fun _ => by kernel_rfl
  t37 := by kernel_rfl
  a37 := fun _ => by kernel_rfl
  z37 := fun _ => by kernel_rfl
  v37 := fun _ => by kernel_rfl
  t46 := by kernel_rfl
  a46 := fun _ => by kernel_rfl
  z46 := fun _ => by kernel_rfl
  v46 := fun _ => by kernel_rfl
  t51 := by kernel_rfl
  a51 := fun _ => by kernel_rfl
  z51 := fun _ => by kernel_rfl
  v51 := fun _ => by kernel_rfl
  t53 := by kernel_rfl
  a53 := fun _ => by kernel_rfl
  z53 := fun _ => by kernel_rfl
  v53 := fun _ => by kernel_rfl
  t75 := by kernel_rfl
  a75 := fun _ => by kernel_rfl
  z75 := fun _ => by kernel_rfl
  v75 := fun _ => by kernel_rfl
  t76 := by kernel_rfl
  a76 := fun _ => by kernel_rfl
  z76 := fun _ => by kernel_rfl
  v76 := fun _ => by kernel_rfl
  t85 := by kernel_rfl
  a85 := fun _ => by kernel_rfl
  z85 := fun _ => by kernel_rfl
  v85 := fun _ => by kernel_rfl
  t127 := by kernel_rfl
  a127 := fun _ => by kernel_rfl
  z127 := fun _ => by kernel_rfl
  v127 := fun _ => by kernel_rfl
  t143 := by kernel_rfl
  a143 := fun _ => by kernel_rfl
  z143 := fun _ => by kernel_rfl
  v143 := fun _ => by kernel_rfl
  t145 := by kernel_rfl
  a145 := fun _ => by kernel_rfl
  z145 := fun _ => by kernel_rfl
  v145 := fun _ => by kernel_rfl
  t167 := by kernel_rfl
  a167 := fun _ => by kernel_rfl
  z167 := fun _ => by kernel_rfl
  v167 := fun _ => by kernel_rfl
  t168 := by kernel_rfl
  a168 := fun _ => by kernel_rfl
  z168 := fun _ => by kernel_rfl
  v168 := fun _ => by kernel_rfl
  t171 := by kernel_rfl
  a171 := fun _ => by kernel_rfl
  z171 := fun _ => by kernel_rfl
  v171 := fun _ => by kernel_rfl
  t173 := by kernel_rfl
  a173 := fun _ => by kernel_rfl
  z173 := fun _ => by kernel_rfl
  v173 := fun _ => by kernel_rfl
  t175 := by kernel_rfl
  a175 := fun _ => by kernel_rfl
  z175 := fun _ => by kernel_rfl
  v175 := fun _ => by kernel_rfl
  t210 := by kernel_rfl
  a210 := fun _ => by kernel_rfl
  z210 := fun _ => by kernel_rfl
  v210 := fun _ => by kernel_rfl
  t212 := by kernel_rfl
  a212 := fun _ => by kernel_rfl
  z212 := fun _ => by kernel_rfl
  v212 := fun _ => by kernel_rfl
  t213 := by kernel_rfl
  a213 := fun _ => by kernel_rfl
  z213 := fun _ => by kernel_rfl
  t232 := by kernel_rfl
  a232 := fun _ => by kernel_rfl
  z232 := fun _ => by kernel_rfl
  v232 := fun _ => by kernel_rfl
  t233 := by kernel_rfl
  a233 := fun _ => by kernel_rfl
  z233 := fun _ => by kernel_rfl
  v233 := fun _ => by kernel_rfl
  g15 := by kernel_rfl
  g16 := by kernel_rfl
  g17 := by kernel_rfl
  g18 := by kernel_rfl
  g19 := by kernel_rfl
theorem lays166 : Lays.n166 Tryd.prog libRen where
  mixed := by kernel_rfl
  f166 := by kernel_rfl
  f240 := by kernel_rfl
  f276 := by kernel_rfl
  t0 := by kernel_rfl
  a0 := fun _ => by kernel_rfl
  z0 := fun _ => by kernel_rfl
  v0 := fun _ => by kernel_rfl
  t3 := by kernel_rfl
  a3 := fun _ => by kernel_rfl
  z3 := fun _ => by kernel_rfl
  v3 := fun _ => by kernel_rfl
  t4 := by kernel_rfl
  a4 := fun _ => by kernel_rfl
  z4 := fun _ => by kernel_rfl
  v4 := fun _ => by kernel_rfl
  t9 := by kernel_rfl
  a9 := fun _ => by kernel_rfl
  z9 := fun _ => by kernel_rfl
  v9 := fun _ => by kernel_rfl
  t20 := by kernel_rfl
  a20 := fun _ => by kernel_rfl
  z20 := fun _ => by kernel_rfl
  v20 := fun _ => by kernel_rfl
  t37 := by kernel_rfl
  a37 := fun _ => by kernel_rfl
  z37 := fun _ => by kernel_rfl
  v37 := fun _ => by kernel_rfl
  t70 := by kernel_rfl
  a70 := fun _ => by kernel_rfl
  z70 := fun _ => by kernel_rfl
  v70 := fun _ => by kernel_rfl
  t72 := by kernel_rfl
  a72 := fun _ => by kernel_rfl
  z72 := fun _ => by kernel_rfl
  v72 := fun _ => by kernel_rfl
  t75 := by kernel_rfl
  a75 := fun _ => by kernel_rfl
  z75 := fun _ => by kernel_rfl
  v75 := fun _ => by kernel_rfl
  t164 := by kernel_rfl
  a164 := fun _ => by kernel_rfl
  z164 := fun _ => by kernel_rfl
  v164 := fun _ => by kernel_rfl
theorem lays167 : Lays.n167 Tryd.prog libRen where
  mixed := by kernel_rfl
  f167 := by kernel_rfl
  f240 := by kernel_rfl
  f276 := by kernel_rfl
  t0 := by kernel_rfl
  a0 := fun _ => by kernel_rfl
  z0 := fun _ => by kernel_rfl
  v0 := fun _ => by kernel_rfl
  t4 := by kernel_rfl
  a4 := fun _ => by kernel_rfl
  z4 := fun _ => by kernel_rfl
  v4 := fun _ => by kernel_rfl
  t5 := by kernel_rfl
  a5 := fun _ => by kernel_rfl
  z5 := fun _ => by kernel_rfl
  v5 := fun _ => by kernel_rfl
  t9 := by kernel_rfl
  a9 := fun _ => by kernel_rfl
  z9 := fun _ => by kernel_rfl
  v9 := fun _ => by kernel_rfl
  t20 := by kernel_rfl
  a20 := fun _ => by kernel_rfl
  z20 := fun _ => by kernel_rfl
  v20 := fun _ => by kernel_rfl
  t37 := by kernel_rfl
  a37 := fun _ => by kernel_rfl
  z37 := fun _ => by kernel_rfl
  v37 := fun _ => by kernel_rfl
  t70 := by kernel_rfl
  a70 := fun _ => by kernel_rfl
  z70 := fun _ => by kernel_rfl
  v70 := fun _ => by kernel_rfl
  t72 := by kernel_rfl
  a72 := fun _ => by kernel_rfl
  z72 := fun _ => by kernel_rfl
  v72 := fun _ => by kernel_rfl
  t75 := by kernel_rfl
  a75 := fun _ => by kernel_rfl
  z75 := fun _ => by kernel_rfl
  v75 := fun _ => by kernel_rfl
  t164 := by kernel_rfl
  a164 := fun _ => by kernel_rfl
  z164 := fun _ => by kernel_rfl
  v164 := fun _ => by kernel_rfl
theorem lays169 : Lays.n169 Tryd.prog libRen where
  mixed := by kernel_rfl
  f169 := by kernel_rfl
  t0 := by kernel_rfl
  a0 := fun _ => by kernel_rfl
  z0 := fun _ => by kernel_rfl
  v0 := fun _ => by kernel_rfl
  t3 := by kernel_rfl
  a3 := fun _ => by kernel_rfl
  z3 := fun _ => by kernel_rfl
  v3 := fun _ => by kernel_rfl
  t9 := by kernel_rfl
  a9 := fun _ => by kernel_rfl
  z9 := fun _ => by kernel_rfl
  v9 := fun _ => by kernel_rfl
  t37 := by kernel_rfl
  a37 := fun _ => by kernel_rfl
  z37 := fun _ => by kernel_rfl
  v37 := fun _ => by kernel_rfl
  t70 := by kernel_rfl
  a70 := fun _ => by kernel_rfl
  z70 := fun _ => by kernel_rfl
  v70 := fun _ => by kernel_rfl
  t72 := by kernel_rfl
  a72 := fun _ => by kernel_rfl
  z72 := fun _ => by kernel_rfl
  v72 := fun _ => by kernel_rfl
  t127 := by kernel_rfl
  a127 := fun _ => by kernel_rfl
  z127 := fun _ => by kernel_rfl
  v127 := fun _ => by kernel_rfl
theorem lays170 : Lays.n170 Tryd.prog libRen where
  mixed := by kernel_rfl
  f170 := by kernel_rfl
  t0 := by kernel_rfl
  a0 := fun _ => by kernel_rfl
  z0 := fun _ => by kernel_rfl
  v0 := fun _ => by kernel_rfl
  t3 := by kernel_rfl
  a3 := fun _ => by kernel_rfl
  z3 := fun _ => by kernel_rfl
  v3 := fun _ => by kernel_rfl
  t37 := by kernel_rfl
  a37 := fun _ => by kernel_rfl
  z37 := fun _ => by kernel_rfl
  v37 := fun _ => by kernel_rfl
  t70 := by kernel_rfl
  a70 := fun _ => by kernel_rfl
  z70 := fun _ => by kernel_rfl
  v70 := fun _ => by kernel_rfl
  t72 := by kernel_rfl
  a72 := fun _ => by kernel_rfl
  z72 := fun _ => by kernel_rfl
  v72 := fun _ => by kernel_rfl
theorem lays171 : Lays.n171 Tryd.prog libRen where
  mixed := by kernel_rfl
  f129 := by kernel_rfl
  f171 := by kernel_rfl
  f243 := by kernel_rfl
  f246 := by kernel_rfl
  f283 := by kernel_rfl
  f284 := by kernel_rfl
  f285 := by kernel_rfl
  f286 := by kernel_rfl
  f317 := by kernel_rfl
  f318 := by kernel_rfl
  f319 := by kernel_rfl
  f320 := by kernel_rfl
  f337 := by kernel_rfl
  f338 := by kernel_rfl
  t0 := by kernel_rfl
  a0 := fun _ => by kernel_rfl
  z0 := fun _ => by kernel_rfl
  v0 := fun _ => by kernel_rfl
  t2 := by kernel_rfl
  a2 := fun _ => by kernel_rfl
  z2 := fun _ => by kernel_rfl
  v2 := fun _ => by kernel_rfl
  t3 := by kernel_rfl
  a3 := fun _ => by kernel_rfl
  z3 := fun _ => by kernel_rfl
  v3 := fun _ => by kernel_rfl
  t4 := by kernel_rfl
  a4 := fun _ => by kernel_rfl
  z4 := fun _ => by kernel_rfl
  v4 := fun _ => by kernel_rfl
  t5 := by kernel_rfl
  a5 := fun _ => by kernel_rfl
  z5 := fun _ => by kernel_rfl
  v5 := fun _ => by kernel_rfl
  t9 := by kernel_rfl
  a9 := fun _ => by kernel_rfl
  z9 := fun _ => by kernel_rfl
  v9 := fun _ => by kernel_rfl
  t20 := by kernel_rfl
  a20 := fun _ => by kernel_rfl
  z20 := fun _ => by kernel_rfl
  v20 := fun _ => by kernel_rfl
  t37 := by kernel_rfl
  a37 := fun _ => by kernel_rfl
  z37 := fun _ => by kernel_rfl
  v37 := fun _ => by kernel_rfl
  t46 := by kernel_rfl
  a46 := fun _ => by kernel_rfl
  z46 := fun _ => by kernel_rfl
  v46 := fun _ => by kernel_rfl
  t51 := by kernel_rfl
  a51 := fun _ => by kernel_rfl
  z51 := fun _ => by kernel_rfl
  v51 := fun _ => by kernel_rfl
  t53 := by kernel_rfl
  a53 := fun _ => by kernel_rfl
  z53 := fun _ => by kernel_rfl
  v53 := fun _ => by kernel_rfl
  t171 := by kernel_rfl
  a171 := fun _ => by kernel_rfl
  z171 := fun _ => by kernel_rfl
  v171 := fun _ => by kernel_rfl
  t173 := by kernel_rfl
  a173 := fun _ => by kernel_rfl
  z173 := fun _ => by kernel_rfl
  v173 := fun _ => by kernel_rfl
  t212 := by kernel_rfl
  a212 := fun _ => by kernel_rfl
  z212 := fun _ => by kernel_rfl
  v212 := fun _ => by kernel_rfl
  t213 := by kernel_rfl
  a213 := fun _ => by kernel_rfl
  z213 := fun _ => by kernel_rfl
  t232 := by kernel_rfl
  a232 := fun _ => by kernel_rfl
  z232 := fun _ => by kernel_rfl
  v232 := fun _ => by kernel_rfl
  t233 := by kernel_rfl
  a233 := fun _ => by kernel_rfl
  z233 := fun _ => by kernel_rfl
  v233 := fun _ => by kernel_rfl
  g17 := by kernel_rfl
  g18 := by kernel_rfl
  g19 := by kernel_rfl
theorem laysM171 : LaysM.n171 Tryd.prog libRen := { lays171 with
  i0 := by kernel_rfl,
  i2 := by kernel_rfl,
  i3 := by kernel_rfl,
  i4 := by kernel_rfl,
  i5 := by kernel_rfl,
  i9 := by kernel_rfl,
  i20 := by kernel_rfl,
  i37 := by kernel_rfl,
  i46 := by kernel_rfl,
  i51 := by kernel_rfl,
  i53 := by kernel_rfl,
  i171 := by kernel_rfl,
  i173 := by kernel_rfl,
  i212 := by kernel_rfl,
  i232 := by kernel_rfl,
  i233 := by kernel_rfl,
  m17 := by kernel_rfl,
  m18 := by kernel_rfl,
  m19 := by kernel_rfl }
theorem libExtra : Builder.Extra Tryd.prog libRen where
  sizeBuilder := by kernel_rfl
  liesBuilder := by kernel_rfl
  t5 := by kernel_rfl
  a5 := fun _ => by kernel_rfl
  z5 := fun _ => by kernel_rfl
  v5 := fun _ => by kernel_rfl
  infoByte := by kernel_rfl
  cellsByte := by kernel_rfl
  sizeByte := by kernel_rfl
  neB5 := by decide
end Go.Proofs.YtecaaimaeaocbaaDoor
