/-
Contracts of Go's library at this program, laid by the kit's own tool (lay-shelf, lay-plain); what is not used here is left out.
-/
import Derived.Shelf.Strings.Repeat
import Derived.Test.YtfkmkhojedfccaaProg
namespace Go.Proofs.Ytfkmkhojedfccaa
open Go.Shelf
def Try.lays105_ren : Go.Shelf.Ren := ⟨fun | 105 => 38 | 212 => 76 | 99 => 77 | 165 => 78 | 166 => 79 | 170 => 80 | 169 => 81 | 263 => 105 | 264 => 106 | 206 => 107 | 240 => 108 | 241 => 109 | 276 => 131 | 277 => 132 | n => n, fun | 9 => 9 | 3 => 3 | 4 => 4 | 20 => 20 | 0 => 0 | 46 => 137 | 109 => 138 | 5 => 5 | 72 => 143 | 76 => 147 | 51 => 180 | 146 => 181 | 53 => 54 | 148 => 183 | 70 => 141 | 37 => 89 | 75 => 146 | 127 => 185 | 164 => 202 | 80 => 149 | n => n, fun | n => n⟩
theorem Try.lays105 : Go.Proofs.Lays.n105 Try.prog Try.lays105_ren := {
  mixed := by kernel_rfl
  f99 := Try.func77.trans (congrArg some (by kernel_rfl))
  f105 := Try.func38.trans (congrArg some (by kernel_rfl))
  f165 := Try.func78.trans (congrArg some (by kernel_rfl))
  f166 := Try.func79.trans (congrArg some (by kernel_rfl))
  f169 := Try.func81.trans (congrArg some (by kernel_rfl))
  f170 := Try.func80.trans (congrArg some (by kernel_rfl))
  f206 := Try.func107.trans (congrArg some (by kernel_rfl))
  f212 := Try.func76.trans (congrArg some (by kernel_rfl))
  f240 := Try.func108.trans (congrArg some (by kernel_rfl))
  f241 := Try.func109.trans (congrArg some (by kernel_rfl))
  f263 := Try.func105.trans (congrArg some (by kernel_rfl))
  f264 := Try.func106.trans (congrArg some (by kernel_rfl))
  f276 := Try.func131.trans (congrArg some (by kernel_rfl))
  f277 := Try.func132.trans (congrArg some (by kernel_rfl))
  t0 := Try.underlying0
  a0 := Try.isAgg0
  z0 := Try.sizeOf0
  v0 := Try.zeroValue0
  t3 := Try.underlying3
  a3 := Try.isAgg3
  z3 := Try.sizeOf3
  v3 := Try.zeroValue3
  t4 := Try.underlying4
  a4 := Try.isAgg4
  z4 := Try.sizeOf4
  v4 := Try.zeroValue4
  t5 := Try.underlying5
  a5 := Try.isAgg5
  z5 := Try.sizeOf5
  v5 := Try.zeroValue5
  t9 := Try.underlying9
  a9 := Try.isAgg9
  z9 := Try.sizeOf9
  v9 := Try.zeroValue9
  t20 := Try.underlying20
  a20 := Try.isAgg20
  z20 := Try.sizeOf20
  v20 := Try.zeroValue20
  t37 := Try.underlying89
  a37 := Try.isAgg89
  z37 := Try.sizeOf89
  v37 := Try.zeroValue89
  t46 := Try.underlying137
  a46 := Try.isAgg137
  z46 := Try.sizeOf137
  v46 := Try.zeroValue137
  t51 := Try.underlying180
  a51 := Try.isAgg180
  z51 := Try.sizeOf180
  v51 := Try.zeroValue180
  t53 := Try.underlying54
  a53 := Try.isAgg54
  z53 := Try.sizeOf54
  v53 := Try.zeroValue54
  t70 := Try.underlying141
  a70 := Try.isAgg141
  z70 := Try.sizeOf141
  v70 := Try.zeroValue141
  t72 := Try.underlying143
  a72 := Try.isAgg143
  z72 := Try.sizeOf143
  v72 := Try.zeroValue143
  t75 := Try.underlying146
  a75 := Try.isAgg146
  z75 := Try.sizeOf146
  v75 := Try.zeroValue146
  t76 := Try.underlying147
  a76 := Try.isAgg147
  z76 := Try.sizeOf147
  v76 := Try.zeroValue147
  t109 := Try.underlying138
  a109 := Try.isAgg138
  z109 := Try.sizeOf138
  v109 := Try.zeroValue138
  t127 := Try.underlying185
  a127 := Try.isAgg185
  z127 := Try.sizeOf185
  v127 := Try.zeroValue185
  t146 := Try.underlying181
  a146 := Try.isAgg181
  z146 := Try.sizeOf181
  v146 := Try.zeroValue181
  t148 := Try.underlying183
  a148 := Try.isAgg183
  z148 := Try.sizeOf183
  v148 := Try.zeroValue183
  t164 := Try.underlying202
  a164 := Try.isAgg202
  z164 := Try.sizeOf202
  v164 := Try.zeroValue202 }
theorem Try.Builder_Extra_105 : Builder.Extra Try.prog Try.lays105_ren := {
  sizeBuilder := by kernel_rfl
  liesBuilder := by kernel_rfl
  t5 := Try.underlying5
  a5 := Try.isAgg5
  z5 := Try.sizeOf5
  v5 := Try.zeroValue5
  infoByte := by kernel_rfl
  cellsByte := by kernel_rfl
  sizeByte := by kernel_rfl
  neB5 := by decide }
open Go.RowKit Go.Lib in
theorem Try.strings_Repeat_main (s : ByteArray) (c : Nat) (w : World) (hc2 : 2 ≤ c) (hc : c ≤ 9223372036854775807) (hlen : s.size * c ≤ 140737488355328) (h0 : 0 < s.size) :
    Calls Try.prog 38 #[.string s, .int .i64 c] w fun e w' => e = .returned (.string ⟨(Lib.repeatL s.data.toList c).toArray⟩) ∧ Below w.heap.size w w' := Any.strings_Repeat_main Try.lays105 Try.Builder_Extra_105 s c w hc2 hc hlen h0
end Go.Proofs.Ytfkmkhojedfccaa
