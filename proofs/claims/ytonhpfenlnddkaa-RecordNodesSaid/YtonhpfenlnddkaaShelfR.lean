/-
Contracts of Go's library at this program, laid by the kit's own tool (lay-shelf, lay-plain); what is not used here is left out.
-/
import Derived.Shelf.Strings.Repeat
import Derived.Test.YtonhpfenlnddkaaProg
namespace Go.Proofs.Ytonhpfenlnddkaa
open Go.Shelf
def Try.lays105_ren : Go.Shelf.Ren := ⟨fun | 105 => 75 | 212 => 116 | 99 => 117 | 165 => 118 | 166 => 119 | 170 => 120 | 169 => 121 | 263 => 154 | 264 => 155 | 206 => 156 | 240 => 157 | 241 => 158 | 276 => 181 | 277 => 182 | n => n, fun | 9 => 9 | 3 => 3 | 4 => 4 | 20 => 20 | 0 => 0 | 46 => 190 | 109 => 191 | 5 => 5 | 72 => 196 | 76 => 200 | 51 => 242 | 146 => 243 | 53 => 57 | 148 => 245 | 70 => 194 | 37 => 138 | 75 => 199 | 127 => 247 | 164 => 266 | 80 => 202 | n => n, fun | n => n⟩
theorem Try.lays105 : Go.Proofs.Lays.n105 Try.prog Try.lays105_ren := {
  mixed := by kernel_rfl
  f99 := Try.func117.trans (congrArg some (by kernel_rfl))
  f105 := Try.func75.trans (congrArg some (by kernel_rfl))
  f165 := Try.func118.trans (congrArg some (by kernel_rfl))
  f166 := Try.func119.trans (congrArg some (by kernel_rfl))
  f169 := Try.func121.trans (congrArg some (by kernel_rfl))
  f170 := Try.func120.trans (congrArg some (by kernel_rfl))
  f206 := Try.func156.trans (congrArg some (by kernel_rfl))
  f212 := Try.func116.trans (congrArg some (by kernel_rfl))
  f240 := Try.func157.trans (congrArg some (by kernel_rfl))
  f241 := Try.func158.trans (congrArg some (by kernel_rfl))
  f263 := Try.func154.trans (congrArg some (by kernel_rfl))
  f264 := Try.func155.trans (congrArg some (by kernel_rfl))
  f276 := Try.func181.trans (congrArg some (by kernel_rfl))
  f277 := Try.func182.trans (congrArg some (by kernel_rfl))
  t0 := Try.underlying0
  a0 := Try.isAgg0
  z0 := Try.sizeOf0
  v0 := Try.zeroValue0
  t3 := Try.underlying3
  a3 := Try.isAgg3
  z3 := Try.sizeOf3
  v3 := Try.zeroValue3
  t4 := Try.underlying4
  a4 := Try.isAgg4
  z4 := Try.sizeOf4
  v4 := Try.zeroValue4
  t5 := Try.underlying5
  a5 := Try.isAgg5
  z5 := Try.sizeOf5
  v5 := Try.zeroValue5
  t9 := Try.underlying9
  a9 := Try.isAgg9
  z9 := Try.sizeOf9
  v9 := Try.zeroValue9
  t20 := Try.underlying20
  a20 := Try.isAgg20
  z20 := Try.sizeOf20
  v20 := Try.zeroValue20
  t37 := Try.underlying138
  a37 := Try.isAgg138
  z37 := Try.sizeOf138
  v37 := Try.zeroValue138
  t46 := Try.underlying190
  a46 := Try.isAgg190
  z46 := Try.sizeOf190
  v46 := Try.zeroValue190
  t51 := Try.underlying242
  a51 := Try.isAgg242
  z51 := Try.sizeOf242
  v51 := Try.zeroValue242
  t53 := Try.underlying57
  a53 := Try.isAgg57
  z53 := Try.sizeOf57
  v53 := Try.zeroValue57
  t70 := Try.underlying194
  a70 := Try.isAgg194
  z70 := Try.sizeOf194
  v70 := Try.zeroValue194
  t72 := Try.underlying196
  a72 := Try.isAgg196
  z72 := Try.sizeOf196
  v72 := Try.zeroValue196
  t75 := Try.underlying199
  a75 := Try.isAgg199
  z75 := Try.sizeOf199
  v75 := Try.zeroValue199
  t76 := Try.underlying200
  a76 := Try.isAgg200
  z76 := Try.sizeOf200
  v76 := Try.zeroValue200
  t109 := Try.underlying191
  a109 := Try.isAgg191
  z109 := Try.sizeOf191
  v109 := Try.zeroValue191
  t127 := Try.underlying247
  a127 := Try.isAgg247
  z127 := Try.sizeOf247
  v127 := Try.zeroValue247
  t146 := Try.underlying243
  a146 := Try.isAgg243
  z146 := Try.sizeOf243
  v146 := Try.zeroValue243
  t148 := Try.underlying245
  a148 := Try.isAgg245
  z148 := Try.sizeOf245
  v148 := Try.zeroValue245
  t164 := Try.underlying266
  a164 := Try.isAgg266
  z164 := Try.sizeOf266
  v164 := Try.zeroValue266 }
theorem Try.Builder_Extra_105 : Builder.Extra Try.prog Try.lays105_ren := {
  sizeBuilder := by kernel_rfl
  liesBuilder := by kernel_rfl
  t5 := Try.underlying5
  a5 := Try.isAgg5
  z5 := Try.sizeOf5
  v5 := Try.zeroValue5
  infoByte := by kernel_rfl
  cellsByte := by kernel_rfl
  sizeByte := by kernel_rfl
  neB5 := by decide }
open Go.RowKit Go.Lib in
theorem Try.strings_Repeat_main (s : ByteArray) (c : Nat) (w : World) (hc2 : 2 ≤ c) (hc : c ≤ 9223372036854775807) (hlen : s.size * c ≤ 140737488355328) (h0 : 0 < s.size) :
    Calls Try.prog 75 #[.string s, .int .i64 c] w fun e w' => e = .returned (.string ⟨(Lib.repeatL s.data.toList c).toArray⟩) ∧ Below w.heap.size w w' := Any.strings_Repeat_main Try.lays105 Try.Builder_Extra_105 s c w hc2 hc hlen h0
end Go.Proofs.Ytonhpfenlnddkaa
