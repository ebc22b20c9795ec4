/- The types of the program's data, as data. -/
import Derived.Test.YtjkbkhjalimebaaDoorVZB
import Derived.Test.YtjkbkhjalimebaaDoorProg
import Derived.KernelRfl
namespace Go.Proofs.YtjkbkhjalimebaaDoor
open Go.RowKit
set_option linter.unusedVariables false
set_option linter.unusedSimpArgs false
abbrev tI : Ty := .int .i64
abbrev tW : Ty := .int .u64
abbrev tU : Ty := .int .u32
abbrev tY : Ty := .int .u8
abbrev tYs : Ty := .sl tY
abbrev tC : Ty := .pair tYs (.pair tI (.pair tI (.pair tI (.pair tI (.pair tI (.pair tI (.pair tI (.pair tI (.pair tW (.pair tW .unit))))))))))
abbrev tSt : Ty := .pair tW (.pair tW (.pair (.sl tI) .unit))
abbrev tFr : Ty := .pair tI (.pair tI (.pair tSt (.pair tI (.pair tI (.pair tYs .unit)))))
abbrev tIt : Ty := .pair tI (.pair tYs (.pair tI .unit))
abbrev tOut : Ty := .pair tI (.pair (.sl tIt) (.pair (.sl tYs) .unit))
abbrev tIn : Ty := .pair tI (.pair (.sl tIt) .unit)
abbrev tPe : Ty := .pair tI (.pair tOut (.pair tIn .unit))
abbrev tPo : Ty := .pair tI (.pair tSt (.pair (.sl tPe) .unit))
abbrev tPa : Ty := .pair tI (.pair tYs (.pair .bool .unit))
abbrev Cfg : Type := List Int × Int × Int × Int × Int × Int × Int × Int × Int × Int × Int × Unit
abbrev Sta : Type := Int × Int × List Int × Unit
abbrev Fra : Type := Int × Int × Sta × Int × Int × List Int × Unit
abbrev Itm : Type := Int × List Int × Int × Unit
abbrev Ouq : Type := Int × List Itm × List (List Int) × Unit
abbrev Inq : Type := Int × List Itm × Unit
abbrev Pee : Type := Int × Ouq × Inq × Unit
abbrev Pos : Type := Int × Sta × List Pee × Unit
abbrev Par : Type := Int × List Int × Bool × Unit
abbrev nI : Sh := .int .i64
abbrev nW : Sh := .int .u64
abbrev nU : Sh := .int .u32
abbrev nY : Sh := .int .u8
abbrev lY : Sh := .view true tY
abbrev lI : Sh := .view true tI
abbrev vY : Sh := .view false tY
abbrev vI : Sh := .view false tI
abbrev oY : Sh := .own tY 5
abbrev oI : Sh := .own tI 3
abbrev aC : Sh := .agg (shOf true tC)
abbrev aSt : Sh := .agg (shOf true tSt)
abbrev aFr : Sh := .agg (shOf true tFr)
abbrev aIt : Sh := .agg (shOf true tIt)
abbrev aOut : Sh := .agg (shOf true tOut)
abbrev aIn : Sh := .agg (shOf true tIn)
abbrev aPo : Sh := .agg (shOf true tPo)
end Go.Proofs.YtjkbkhjalimebaaDoor
