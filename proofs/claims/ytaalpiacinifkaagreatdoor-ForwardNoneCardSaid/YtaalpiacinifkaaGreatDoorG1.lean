import Derived.Test.YtaalpiacinifkaaGreatDoorF7
import Derived.Test.YtaalpiacinifkaaGreatDoorProg
import Derived.KernelRfl
/- Part of the proof that ForwardNone of law 21 returns true whatever it is called with. No condition. -/
set_option linter.all false
/- The program's functions that are told from outside. -/
namespace Go.Fx
open Go Go.Sx
noncomputable section
def nib : List Int := [0x00000000, 0x1db71064, 0x3b6e20c8, 0x26d930ac, 0x76dc4190, 0x6b6b51f4, 0x4db26158, 0x5005713c, 0xedb88320, 0xf00f9344, 0xd6d6a3e8, 0xcb61b38c, 0x9b64c2b0, 0x86d3d2d4, 0xa00ae278, 0xbdbdf21c]
def L1 : FCfg := { P := Go.Proofs.Tryz.prog, globs := [(0, 0)], stops := [322, 323], ext := [(322, 1), (323, 2)], u8t := 5, i64t := 3, keysFn := [279, 298], consts := [], glob0 := nib, glob0t := 404 }
def L2 : FCfg := { P := Go.Proofs.Tryz.prog, globs := [(0, 0)], stops := [322, 323, 222, 174], ext := [(322, 1), (323, 2), (222, 4), (174, 10)], u8t := 5, i64t := 3, keysFn := [279, 298], consts := [(false, .str 0 64)], glob0 := nib, glob0t := 404 }
def L3 : FCfg := { P := Go.Proofs.Tryz.prog, globs := [(0, 0)], stops := [322, 323, 222, 174, 18], ext := [(322, 1), (323, 2), (222, 4), (174, 10), (18, 11)], u8t := 5, i64t := 3, keysFn := [279, 298], consts := [(false, .str 0 64), (true, .bool true true)], glob0 := nib, glob0t := 404 }
end
end Go.Fx
