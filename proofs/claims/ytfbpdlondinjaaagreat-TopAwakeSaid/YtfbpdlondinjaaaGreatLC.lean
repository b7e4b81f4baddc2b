/- The evaluator, the plain texts and the contracts that this claim leans on, part 3: nothing of the statement is claimed here. -/
import Derived.Test.YtfbpdlondinjaaaGreatLB
import Derived.Test.YtfbpdlondinjaaaGreatProg
import Derived.RowKit2
import Derived.IntWalk
import Derived.ChangeArms
import Derived.ChangeShapes
import Derived.DataElems
set_option linter.unusedVariables false
set_option linter.unusedSimpArgs false

/- The seat's types. -/
namespace Go.Vai
open Go.RowKit
def kinds:List (Nat × TK):=[(1,.func),(2,(.int .i64)),(3,(.int .i64)),(4,.bool),(5,(.int .u8)),(6,(.int .u8)),(12,(.int .u64)),(15,(.ptr 223)),(16,(.ptr 226)),(17,(.ptr 235)),(21,(.int .i32)),(22,(.struct [(0,3),(1,3),(2,3),(3,3)])),(23,(.struct [(0,3),(1,3),(2,3),(3,3)])),(24,(.slice 67)),(25,(.slice 48)),(26,(.slice 5)),(27,.func),(28,.func),(29,(.slice 40)),(30,(.slice 40)),(31,(.slice 44)),(32,(.slice 50)),(33,(.struct [(0,23),(4,24),(5,30),(6,31),(7,32)])),(34,(.struct [(0,23),(4,24),(5,30),(6,31),(7,32)])),(35,(.slice 104)),(37,.func),(38,.func),(39,(.slice 65)),(40,(.int .u64)),(41,(.struct [(0,3),(1,3),(2,3),(3,40),(4,40),(5,40),(6,3)])),(42,(.struct [(0,3),(1,3),(2,3),(3,40),(4,40),(5,40),(6,3)])),(43,(.struct [(0,3),(1,39),(2,42),(9,3),(10,3)])),(44,(.struct [(0,3),(1,39),(2,42),(9,3),(10,3)])),(45,.func),(46,.func),(47,.func),(48,(.slice 3)),(49,(.struct [(0,3),(1,48),(2,42)])),(50,(.struct [(0,3),(1,48),(2,42)])),(51,.func),(53,.func),(54,(.slice 59)),(55,.func),(57,.func),(58,(.struct [(0,3),(1,3),(2,40)])),(59,(.struct [(0,3),(1,3),(2,40)])),(60,.func),(61,.func),(62,.func),(63,.func),(64,(.struct [(0,3),(1,3),(2,3)])),(65,(.struct [(0,3),(1,3),(2,3)])),(66,(.struct [(0,3),(1,48)])),(67,(.struct [(0,3),(1,48)])),(69,.func),(71,.func),(72,.func),(73,.func),(74,.func),(75,.func),(76,.func),(77,.func),(78,.func),(79,.func),(80,.func),(81,.func),(82,.func),(83,.func),(84,.func),(85,.func),(86,.func),(87,.func),(88,.func),(89,.func),(90,.func),(91,.func),(92,.func),(93,.func),(94,.func),(96,.func),(98,.func),(99,.func),(100,.func),(101,.func),(102,(.arr 6 3)),(103,(.struct [(0,3),(1,3),(2,3)])),(104,(.struct [(0,3),(1,3),(2,3)])),(105,.func),(106,.func),(107,.func),(108,.func),(109,(.ptr 34)),(110,.func),(111,.func),(112,.func),(113,(.slice 4)),(114,.func),(115,.func),(116,.func),(117,.func),(118,.func),(119,.func),(120,.func),(121,.func),(122,.func),(123,.func),(124,.func),(125,.func),(126,.func),(127,.func),(128,.func),(129,.func),(130,.func),(131,.func),(132,.func),(133,.func),(134,.func),(135,.func),(136,.func),(137,.func),(139,.func),(140,.func),(142,.func),(143,.func),(144,(.map 3 1)),(146,.func),(147,.func),(148,.func),(149,.func),(150,.func),(151,(.struct [(0,3),(1,3),(2,27)])),(152,(.struct [(0,3),(1,3),(2,27)])),(154,(.map 3 152)),(155,.func),(156,(.ptr 158)),(157,(.struct [(0,44),(11,23),(15,24),(16,30),(17,3),(18,40),(19,35)])),(158,(.struct [(0,44),(11,23),(15,24),(16,30),(17,3),(18,40),(19,35)])),(159,(.arr 16 1)),(160,.func),(161,.func),(164,.func),(165,(.arr 6 1)),(166,.func),(167,.func),(168,.func),(169,.func),(170,.func),(171,.func),(172,.func),(173,(.struct [(0,3),(1,3)])),(174,(.struct [(0,3),(1,3)])),(175,.func),(176,.func),(177,.func),(178,.func),(179,.func),(181,(.map 3 136)),(182,.func),(183,(.ptr 185)),(184,(.struct [(0,42),(7,23),(11,30)])),(185,(.struct [(0,42),(7,23),(11,30)])),(186,.func),(187,(.slice 186)),(188,.func),(189,.func),(191,.func),(192,(.map 3 191)),(193,.func),(195,.func),(196,.func),(197,.func),(198,.func),(199,(.ptr 201)),(200,(.struct [(0,42),(7,23),(11,30)])),(201,(.struct [(0,42),(7,23),(11,30)])),(202,.func),(203,(.slice 83)),(204,.func),(205,.func),(206,.func),(207,.func),(210,.func),(211,.func),(212,.func),(213,(.ptr 215)),(214,(.struct [(0,42),(7,23),(11,30)])),(215,(.struct [(0,42),(7,23),(11,30)])),(216,(.arr 4 1)),(217,.func),(218,(.slice 1)),(219,(.int .u64)),(220,.func),(221,.func),(227,(.int .u32)),(228,(.int .u8)),(229,(.int .u8)),(230,.func),(231,(.ptr 5)),(232,(.int .i32)),(233,(.int .i32))]
def T (P:Program):TEnv:=tenv P kinds
theorem T_ok:TOk Go.Proofs.Tryz.prog (T Go.Proofs.Tryz.prog):=tenv_ok (by kernel_rfl)
theorem T1:T Go.Proofs.Tryz.prog 1=⟨.func,1,8,.nilFunc⟩:=by kernel_rfl
theorem T2:T Go.Proofs.Tryz.prog 2=⟨(.int .i64),1,8,(.int .i64 0)⟩:=by kernel_rfl
theorem T3:T Go.Proofs.Tryz.prog 3=⟨(.int .i64),1,8,(.int .i64 0)⟩:=by kernel_rfl
theorem T4:T Go.Proofs.Tryz.prog 4=⟨.bool,1,1,(.bool false)⟩:=by kernel_rfl
theorem T5:T Go.Proofs.Tryz.prog 5=⟨(.int .u8),1,1,(.int .u8 0)⟩:=by kernel_rfl
theorem T6:T Go.Proofs.Tryz.prog 6=⟨(.int .u8),1,1,(.int .u8 0)⟩:=by kernel_rfl
theorem T12:T Go.Proofs.Tryz.prog 12=⟨(.int .u64),1,8,(.int .u64 0)⟩:=by kernel_rfl
theorem T15:T Go.Proofs.Tryz.prog 15=⟨(.ptr 223),1,8,(.pointer none)⟩:=by kernel_rfl
theorem T16:T Go.Proofs.Tryz.prog 16=⟨(.ptr 226),1,8,(.pointer none)⟩:=by kernel_rfl
theorem T17:T Go.Proofs.Tryz.prog 17=⟨(.ptr 235),1,8,(.pointer none)⟩:=by kernel_rfl
theorem T21:T Go.Proofs.Tryz.prog 21=⟨(.int .i32),1,4,(.int .i32 0)⟩:=by kernel_rfl
theorem T22:T Go.Proofs.Tryz.prog 22=⟨(.struct [(0,3),(1,3),(2,3),(3,3)]),4,32,(.agg #[(.int .i64 0),(.int .i64 0),(.int .i64 0),(.int .i64 0)])⟩:=by kernel_rfl
theorem T23:T Go.Proofs.Tryz.prog 23=⟨(.struct [(0,3),(1,3),(2,3),(3,3)]),4,32,(.agg #[(.int .i64 0),(.int .i64 0),(.int .i64 0),(.int .i64 0)])⟩:=by kernel_rfl
theorem T24:T Go.Proofs.Tryz.prog 24=⟨(.slice 67),1,24,(.slice none 0 0)⟩:=by kernel_rfl
theorem T25:T Go.Proofs.Tryz.prog 25=⟨(.slice 48),1,24,(.slice none 0 0)⟩:=by kernel_rfl
theorem T26:T Go.Proofs.Tryz.prog 26=⟨(.slice 5),1,24,(.slice none 0 0)⟩:=by kernel_rfl
theorem T27:T Go.Proofs.Tryz.prog 27=⟨.func,1,8,.nilFunc⟩:=by kernel_rfl
theorem T28:T Go.Proofs.Tryz.prog 28=⟨.func,1,8,.nilFunc⟩:=by kernel_rfl
theorem T29:T Go.Proofs.Tryz.prog 29=⟨(.slice 40),1,24,(.slice none 0 0)⟩:=by kernel_rfl
theorem T30:T Go.Proofs.Tryz.prog 30=⟨(.slice 40),1,24,(.slice none 0 0)⟩:=by kernel_rfl
theorem T31:T Go.Proofs.Tryz.prog 31=⟨(.slice 44),1,24,(.slice none 0 0)⟩:=by kernel_rfl
theorem T32:T Go.Proofs.Tryz.prog 32=⟨(.slice 50),1,24,(.slice none 0 0)⟩:=by kernel_rfl
theorem T33:T Go.Proofs.Tryz.prog 33=⟨(.struct [(0,23),(4,24),(5,30),(6,31),(7,32)]),8,128,(.agg #[(.int .i64 0),(.int .i64 0),(.int .i64 0),(.int .i64 0),(.slice none 0 0),(.slice none 0 0),(.slice none 0 0),(.slice none 0 0)])⟩:=by kernel_rfl
theorem T34:T Go.Proofs.Tryz.prog 34=⟨(.struct [(0,23),(4,24),(5,30),(6,31),(7,32)]),8,128,(.agg #[(.int .i64 0),(.int .i64 0),(.int .i64 0),(.int .i64 0),(.slice none 0 0),(.slice none 0 0),(.slice none 0 0),(.slice none 0 0)])⟩:=by kernel_rfl
theorem T35:T Go.Proofs.Tryz.prog 35=⟨(.slice 104),1,24,(.slice none 0 0)⟩:=by kernel_rfl
theorem T37:T Go.Proofs.Tryz.prog 37=⟨.func,1,8,.nilFunc⟩:=by kernel_rfl
theorem T38:T Go.Proofs.Tryz.prog 38=⟨.func,1,8,.nilFunc⟩:=by kernel_rfl
theorem T39:T Go.Proofs.Tryz.prog 39=⟨(.slice 65),1,24,(.slice none 0 0)⟩:=by kernel_rfl
theorem T40:T Go.Proofs.Tryz.prog 40=⟨(.int .u64),1,8,(.int .u64 0)⟩:=by kernel_rfl
theorem T41:T Go.Proofs.Tryz.prog 41=⟨(.struct [(0,3),(1,3),(2,3),(3,40),(4,40),(5,40),(6,3)]),7,56,(.agg #[(.int .i64 0),(.int .i64 0),(.int .i64 0),(.int .u64 0),(.int .u64 0),(.int .u64 0),(.int .i64 0)])⟩:=by kernel_rfl
theorem T42:T Go.Proofs.Tryz.prog 42=⟨(.struct [(0,3),(1,3),(2,3),(3,40),(4,40),(5,40),(6,3)]),7,56,(.agg #[(.int .i64 0),(.int .i64 0),(.int .i64 0),(.int .u64 0),(.int .u64 0),(.int .u64 0),(.int .i64 0)])⟩:=by kernel_rfl
theorem T43:T Go.Proofs.Tryz.prog 43=⟨(.struct [(0,3),(1,39),(2,42),(9,3),(10,3)]),11,104,(.agg #[(.int .i64 0),(.slice none 0 0),(.int .i64 0),(.int .i64 0),(.int .i64 0),(.int .u64 0),(.int .u64 0),(.int .u64 0),(.int .i64 0),(.int .i64 0),(.int .i64 0)])⟩:=by kernel_rfl
theorem T44:T Go.Proofs.Tryz.prog 44=⟨(.struct [(0,3),(1,39),(2,42),(9,3),(10,3)]),11,104,(.agg #[(.int .i64 0),(.slice none 0 0),(.int .i64 0),(.int .i64 0),(.int .i64 0),(.int .u64 0),(.int .u64 0),(.int .u64 0),(.int .i64 0),(.int .i64 0),(.int .i64 0)])⟩:=by kernel_rfl
theorem T45:T Go.Proofs.Tryz.prog 45=⟨.func,1,8,.nilFunc⟩:=by kernel_rfl
theorem T46:T Go.Proofs.Tryz.prog 46=⟨.func,1,8,.nilFunc⟩:=by kernel_rfl
theorem T47:T Go.Proofs.Tryz.prog 47=⟨.func,1,8,.nilFunc⟩:=by kernel_rfl
theorem T48:T Go.Proofs.Tryz.prog 48=⟨(.slice 3),1,24,(.slice none 0 0)⟩:=by kernel_rfl
theorem T49:T Go.Proofs.Tryz.prog 49=⟨(.struct [(0,3),(1,48),(2,42)]),9,88,(.agg #[(.int .i64 0),(.slice none 0 0),(.int .i64 0),(.int .i64 0),(.int .i64 0),(.int .u64 0),(.int .u64 0),(.int .u64 0),(.int .i64 0)])⟩:=by kernel_rfl
theorem T50:T Go.Proofs.Tryz.prog 50=⟨(.struct [(0,3),(1,48),(2,42)]),9,88,(.agg #[(.int .i64 0),(.slice none 0 0),(.int .i64 0),(.int .i64 0),(.int .i64 0),(.int .u64 0),(.int .u64 0),(.int .u64 0),(.int .i64 0)])⟩:=by kernel_rfl
theorem T51:T Go.Proofs.Tryz.prog 51=⟨.func,1,8,.nilFunc⟩:=by kernel_rfl
theorem T53:T Go.Proofs.Tryz.prog 53=⟨.func,1,8,.nilFunc⟩:=by kernel_rfl
theorem T54:T Go.Proofs.Tryz.prog 54=⟨(.slice 59),1,24,(.slice none 0 0)⟩:=by kernel_rfl
theorem T55:T Go.Proofs.Tryz.prog 55=⟨.func,1,8,.nilFunc⟩:=by kernel_rfl
theorem T57:T Go.Proofs.Tryz.prog 57=⟨.func,1,8,.nilFunc⟩:=by kernel_rfl
theorem T58:T Go.Proofs.Tryz.prog 58=⟨(.struct [(0,3),(1,3),(2,40)]),3,24,(.agg #[(.int .i64 0),(.int .i64 0),(.int .u64 0)])⟩:=by kernel_rfl
theorem T59:T Go.Proofs.Tryz.prog 59=⟨(.struct [(0,3),(1,3),(2,40)]),3,24,(.agg #[(.int .i64 0),(.int .i64 0),(.int .u64 0)])⟩:=by kernel_rfl
theorem T60:T Go.Proofs.Tryz.prog 60=⟨.func,1,8,.nilFunc⟩:=by kernel_rfl
theorem T61:T Go.Proofs.Tryz.prog 61=⟨.func,1,8,.nilFunc⟩:=by kernel_rfl
theorem T62:T Go.Proofs.Tryz.prog 62=⟨.func,1,8,.nilFunc⟩:=by kernel_rfl
theorem T63:T Go.Proofs.Tryz.prog 63=⟨.func,1,8,.nilFunc⟩:=by kernel_rfl
theorem T64:T Go.Proofs.Tryz.prog 64=⟨(.struct [(0,3),(1,3),(2,3)]),3,24,(.agg #[(.int .i64 0),(.int .i64 0),(.int .i64 0)])⟩:=by kernel_rfl
theorem T65:T Go.Proofs.Tryz.prog 65=⟨(.struct [(0,3),(1,3),(2,3)]),3,24,(.agg #[(.int .i64 0),(.int .i64 0),(.int .i64 0)])⟩:=by kernel_rfl
theorem T66:T Go.Proofs.Tryz.prog 66=⟨(.struct [(0,3),(1,48)]),2,32,(.agg #[(.int .i64 0),(.slice none 0 0)])⟩:=by kernel_rfl
theorem T67:T Go.Proofs.Tryz.prog 67=⟨(.struct [(0,3),(1,48)]),2,32,(.agg #[(.int .i64 0),(.slice none 0 0)])⟩:=by kernel_rfl
theorem T69:T Go.Proofs.Tryz.prog 69=⟨.func,1,8,.nilFunc⟩:=by kernel_rfl
theorem T71:T Go.Proofs.Tryz.prog 71=⟨.func,1,8,.nilFunc⟩:=by kernel_rfl
theorem T72:T Go.Proofs.Tryz.prog 72=⟨.func,1,8,.nilFunc⟩:=by kernel_rfl
theorem T73:T Go.Proofs.Tryz.prog 73=⟨.func,1,8,.nilFunc⟩:=by kernel_rfl
theorem T74:T Go.Proofs.Tryz.prog 74=⟨.func,1,8,.nilFunc⟩:=by kernel_rfl
theorem T75:T Go.Proofs.Tryz.prog 75=⟨.func,1,8,.nilFunc⟩:=by kernel_rfl
theorem T76:T Go.Proofs.Tryz.prog 76=⟨.func,1,8,.nilFunc⟩:=by kernel_rfl
theorem T77:T Go.Proofs.Tryz.prog 77=⟨.func,1,8,.nilFunc⟩:=by kernel_rfl
theorem T78:T Go.Proofs.Tryz.prog 78=⟨.func,1,8,.nilFunc⟩:=by kernel_rfl
theorem T79:T Go.Proofs.Tryz.prog 79=⟨.func,1,8,.nilFunc⟩:=by kernel_rfl
theorem T80:T Go.Proofs.Tryz.prog 80=⟨.func,1,8,.nilFunc⟩:=by kernel_rfl
theorem T81:T Go.Proofs.Tryz.prog 81=⟨.func,1,8,.nilFunc⟩:=by kernel_rfl
theorem T82:T Go.Proofs.Tryz.prog 82=⟨.func,1,8,.nilFunc⟩:=by kernel_rfl
theorem T83:T Go.Proofs.Tryz.prog 83=⟨.func,1,8,.nilFunc⟩:=by kernel_rfl
theorem T84:T Go.Proofs.Tryz.prog 84=⟨.func,1,8,.nilFunc⟩:=by kernel_rfl
theorem T85:T Go.Proofs.Tryz.prog 85=⟨.func,1,8,.nilFunc⟩:=by kernel_rfl
theorem T86:T Go.Proofs.Tryz.prog 86=⟨.func,1,8,.nilFunc⟩:=by kernel_rfl
theorem T87:T Go.Proofs.Tryz.prog 87=⟨.func,1,8,.nilFunc⟩:=by kernel_rfl
theorem T88:T Go.Proofs.Tryz.prog 88=⟨.func,1,8,.nilFunc⟩:=by kernel_rfl
theorem T89:T Go.Proofs.Tryz.prog 89=⟨.func,1,8,.nilFunc⟩:=by kernel_rfl
theorem T90:T Go.Proofs.Tryz.prog 90=⟨.func,1,8,.nilFunc⟩:=by kernel_rfl
theorem T91:T Go.Proofs.Tryz.prog 91=⟨.func,1,8,.nilFunc⟩:=by kernel_rfl
theorem T92:T Go.Proofs.Tryz.prog 92=⟨.func,1,8,.nilFunc⟩:=by kernel_rfl
theorem T93:T Go.Proofs.Tryz.prog 93=⟨.func,1,8,.nilFunc⟩:=by kernel_rfl
theorem T94:T Go.Proofs.Tryz.prog 94=⟨.func,1,8,.nilFunc⟩:=by kernel_rfl
theorem T96:T Go.Proofs.Tryz.prog 96=⟨.func,1,8,.nilFunc⟩:=by kernel_rfl
theorem T98:T Go.Proofs.Tryz.prog 98=⟨.func,1,8,.nilFunc⟩:=by kernel_rfl
theorem T99:T Go.Proofs.Tryz.prog 99=⟨.func,1,8,.nilFunc⟩:=by kernel_rfl
theorem T100:T Go.Proofs.Tryz.prog 100=⟨.func,1,8,.nilFunc⟩:=by kernel_rfl
theorem T101:T Go.Proofs.Tryz.prog 101=⟨.func,1,8,.nilFunc⟩:=by kernel_rfl
theorem T102:T Go.Proofs.Tryz.prog 102=⟨(.arr 6 3),6,48,(.agg #[(.int .i64 0),(.int .i64 0),(.int .i64 0),(.int .i64 0),(.int .i64 0),(.int .i64 0)])⟩:=by kernel_rfl
theorem T103:T Go.Proofs.Tryz.prog 103=⟨(.struct [(0,3),(1,3),(2,3)]),3,24,(.agg #[(.int .i64 0),(.int .i64 0),(.int .i64 0)])⟩:=by kernel_rfl
theorem T104:T Go.Proofs.Tryz.prog 104=⟨(.struct [(0,3),(1,3),(2,3)]),3,24,(.agg #[(.int .i64 0),(.int .i64 0),(.int .i64 0)])⟩:=by kernel_rfl
theorem T105:T Go.Proofs.Tryz.prog 105=⟨.func,1,8,.nilFunc⟩:=by kernel_rfl
theorem T106:T Go.Proofs.Tryz.prog 106=⟨.func,1,8,.nilFunc⟩:=by kernel_rfl
theorem T107:T Go.Proofs.Tryz.prog 107=⟨.func,1,8,.nilFunc⟩:=by kernel_rfl
theorem T108:T Go.Proofs.Tryz.prog 108=⟨.func,1,8,.nilFunc⟩:=by kernel_rfl
theorem T109:T Go.Proofs.Tryz.prog 109=⟨(.ptr 34),1,8,(.pointer none)⟩:=by kernel_rfl
theorem T110:T Go.Proofs.Tryz.prog 110=⟨.func,1,8,.nilFunc⟩:=by kernel_rfl
theorem T111:T Go.Proofs.Tryz.prog 111=⟨.func,1,8,.nilFunc⟩:=by kernel_rfl
theorem T112:T Go.Proofs.Tryz.prog 112=⟨.func,1,8,.nilFunc⟩:=by kernel_rfl
theorem T113:T Go.Proofs.Tryz.prog 113=⟨(.slice 4),1,24,(.slice none 0 0)⟩:=by kernel_rfl
theorem T114:T Go.Proofs.Tryz.prog 114=⟨.func,1,8,.nilFunc⟩:=by kernel_rfl
theorem T115:T Go.Proofs.Tryz.prog 115=⟨.func,1,8,.nilFunc⟩:=by kernel_rfl
theorem T116:T Go.Proofs.Tryz.prog 116=⟨.func,1,8,.nilFunc⟩:=by kernel_rfl
theorem T117:T Go.Proofs.Tryz.prog 117=⟨.func,1,8,.nilFunc⟩:=by kernel_rfl
theorem T118:T Go.Proofs.Tryz.prog 118=⟨.func,1,8,.nilFunc⟩:=by kernel_rfl
theorem T119:T Go.Proofs.Tryz.prog 119=⟨.func,1,8,.nilFunc⟩:=by kernel_rfl
theorem T120:T Go.Proofs.Tryz.prog 120=⟨.func,1,8,.nilFunc⟩:=by kernel_rfl
theorem T121:T Go.Proofs.Tryz.prog 121=⟨.func,1,8,.nilFunc⟩:=by kernel_rfl
theorem T122:T Go.Proofs.Tryz.prog 122=⟨.func,1,8,.nilFunc⟩:=by kernel_rfl
theorem T123:T Go.Proofs.Tryz.prog 123=⟨.func,1,8,.nilFunc⟩:=by kernel_rfl
theorem T124:T Go.Proofs.Tryz.prog 124=⟨.func,1,8,.nilFunc⟩:=by kernel_rfl
theorem T125:T Go.Proofs.Tryz.prog 125=⟨.func,1,8,.nilFunc⟩:=by kernel_rfl
theorem T126:T Go.Proofs.Tryz.prog 126=⟨.func,1,8,.nilFunc⟩:=by kernel_rfl
theorem T127:T Go.Proofs.Tryz.prog 127=⟨.func,1,8,.nilFunc⟩:=by kernel_rfl
theorem T128:T Go.Proofs.Tryz.prog 128=⟨.func,1,8,.nilFunc⟩:=by kernel_rfl
theorem T129:T Go.Proofs.Tryz.prog 129=⟨.func,1,8,.nilFunc⟩:=by kernel_rfl
theorem T130:T Go.Proofs.Tryz.prog 130=⟨.func,1,8,.nilFunc⟩:=by kernel_rfl
theorem T131:T Go.Proofs.Tryz.prog 131=⟨.func,1,8,.nilFunc⟩:=by kernel_rfl
theorem T132:T Go.Proofs.Tryz.prog 132=⟨.func,1,8,.nilFunc⟩:=by kernel_rfl
theorem T133:T Go.Proofs.Tryz.prog 133=⟨.func,1,8,.nilFunc⟩:=by kernel_rfl
theorem T134:T Go.Proofs.Tryz.prog 134=⟨.func,1,8,.nilFunc⟩:=by kernel_rfl
theorem T135:T Go.Proofs.Tryz.prog 135=⟨.func,1,8,.nilFunc⟩:=by kernel_rfl
theorem T136:T Go.Proofs.Tryz.prog 136=⟨.func,1,8,.nilFunc⟩:=by kernel_rfl
theorem T137:T Go.Proofs.Tryz.prog 137=⟨.func,1,8,.nilFunc⟩:=by kernel_rfl
theorem T139:T Go.Proofs.Tryz.prog 139=⟨.func,1,8,.nilFunc⟩:=by kernel_rfl
theorem T140:T Go.Proofs.Tryz.prog 140=⟨.func,1,8,.nilFunc⟩:=by kernel_rfl
theorem T142:T Go.Proofs.Tryz.prog 142=⟨.func,1,8,.nilFunc⟩:=by kernel_rfl
theorem T143:T Go.Proofs.Tryz.prog 143=⟨.func,1,8,.nilFunc⟩:=by kernel_rfl
theorem T144:T Go.Proofs.Tryz.prog 144=⟨(.map 3 1),1,8,(.map none)⟩:=by kernel_rfl
theorem T146:T Go.Proofs.Tryz.prog 146=⟨.func,1,8,.nilFunc⟩:=by kernel_rfl
theorem T147:T Go.Proofs.Tryz.prog 147=⟨.func,1,8,.nilFunc⟩:=by kernel_rfl
theorem T148:T Go.Proofs.Tryz.prog 148=⟨.func,1,8,.nilFunc⟩:=by kernel_rfl
theorem T149:T Go.Proofs.Tryz.prog 149=⟨.func,1,8,.nilFunc⟩:=by kernel_rfl
theorem T150:T Go.Proofs.Tryz.prog 150=⟨.func,1,8,.nilFunc⟩:=by kernel_rfl
theorem T151:T Go.Proofs.Tryz.prog 151=⟨(.struct [(0,3),(1,3),(2,27)]),3,24,(.agg #[(.int .i64 0),(.int .i64 0),.nilFunc])⟩:=by kernel_rfl
theorem T152:T Go.Proofs.Tryz.prog 152=⟨(.struct [(0,3),(1,3),(2,27)]),3,24,(.agg #[(.int .i64 0),(.int .i64 0),.nilFunc])⟩:=by kernel_rfl
theorem T154:T Go.Proofs.Tryz.prog 154=⟨(.map 3 152),1,8,(.map none)⟩:=by kernel_rfl
theorem T155:T Go.Proofs.Tryz.prog 155=⟨.func,1,8,.nilFunc⟩:=by kernel_rfl
theorem T156:T Go.Proofs.Tryz.prog 156=⟨(.ptr 158),1,8,(.pointer none)⟩:=by kernel_rfl
theorem T157:T Go.Proofs.Tryz.prog 157=⟨(.struct [(0,44),(11,23),(15,24),(16,30),(17,3),(18,40),(19,35)]),20,224,(.agg #[(.int .i64 0),(.slice none 0 0),(.int .i64 0),(.int .i64 0),(.int .i64 0),(.int .u64 0),(.int .u64 0),(.int .u64 0),(.int .i64 0),(.int .i64 0),(.int .i64 0),(.int .i64 0),(.int .i64 0),(.int .i64 0),(.int .i64 0),(.slice none 0 0),(.slice none 0 0),(.int .i64 0),(.int .u64 0),(.slice none 0 0)])⟩:=by kernel_rfl
theorem T158:T Go.Proofs.Tryz.prog 158=⟨(.struct [(0,44),(11,23),(15,24),(16,30),(17,3),(18,40),(19,35)]),20,224,(.agg #[(.int .i64 0),(.slice none 0 0),(.int .i64 0),(.int .i64 0),(.int .i64 0),(.int .u64 0),(.int .u64 0),(.int .u64 0),(.int .i64 0),(.int .i64 0),(.int .i64 0),(.int .i64 0),(.int .i64 0),(.int .i64 0),(.int .i64 0),(.slice none 0 0),(.slice none 0 0),(.int .i64 0),(.int .u64 0),(.slice none 0 0)])⟩:=by kernel_rfl
theorem T159:T Go.Proofs.Tryz.prog 159=⟨(.arr 16 1),16,128,(.agg #[.nilFunc,.nilFunc,.nilFunc,.nilFunc,.nilFunc,.nilFunc,.nilFunc,.nilFunc,.nilFunc,.nilFunc,.nilFunc,.nilFunc,.nilFunc,.nilFunc,.nilFunc,.nilFunc])⟩:=by kernel_rfl
theorem T160:T Go.Proofs.Tryz.prog 160=⟨.func,1,8,.nilFunc⟩:=by kernel_rfl
theorem T161:T Go.Proofs.Tryz.prog 161=⟨.func,1,8,.nilFunc⟩:=by kernel_rfl
theorem T164:T Go.Proofs.Tryz.prog 164=⟨.func,1,8,.nilFunc⟩:=by kernel_rfl
theorem T165:T Go.Proofs.Tryz.prog 165=⟨(.arr 6 1),6,48,(.agg #[.nilFunc,.nilFunc,.nilFunc,.nilFunc,.nilFunc,.nilFunc])⟩:=by kernel_rfl
theorem T166:T Go.Proofs.Tryz.prog 166=⟨.func,1,8,.nilFunc⟩:=by kernel_rfl
theorem T167:T Go.Proofs.Tryz.prog 167=⟨.func,1,8,.nilFunc⟩:=by kernel_rfl
theorem T168:T Go.Proofs.Tryz.prog 168=⟨.func,1,8,.nilFunc⟩:=by kernel_rfl
theorem T169:T Go.Proofs.Tryz.prog 169=⟨.func,1,8,.nilFunc⟩:=by kernel_rfl
theorem T170:T Go.Proofs.Tryz.prog 170=⟨.func,1,8,.nilFunc⟩:=by kernel_rfl
theorem T171:T Go.Proofs.Tryz.prog 171=⟨.func,1,8,.nilFunc⟩:=by kernel_rfl
theorem T172:T Go.Proofs.Tryz.prog 172=⟨.func,1,8,.nilFunc⟩:=by kernel_rfl
theorem T173:T Go.Proofs.Tryz.prog 173=⟨(.struct [(0,3),(1,3)]),2,16,(.agg #[(.int .i64 0),(.int .i64 0)])⟩:=by kernel_rfl
theorem T174:T Go.Proofs.Tryz.prog 174=⟨(.struct [(0,3),(1,3)]),2,16,(.agg #[(.int .i64 0),(.int .i64 0)])⟩:=by kernel_rfl
theorem T175:T Go.Proofs.Tryz.prog 175=⟨.func,1,8,.nilFunc⟩:=by kernel_rfl
theorem T176:T Go.Proofs.Tryz.prog 176=⟨.func,1,8,.nilFunc⟩:=by kernel_rfl
theorem T177:T Go.Proofs.Tryz.prog 177=⟨.func,1,8,.nilFunc⟩:=by kernel_rfl
theorem T178:T Go.Proofs.Tryz.prog 178=⟨.func,1,8,.nilFunc⟩:=by kernel_rfl
theorem T179:T Go.Proofs.Tryz.prog 179=⟨.func,1,8,.nilFunc⟩:=by kernel_rfl
theorem T181:T Go.Proofs.Tryz.prog 181=⟨(.map 3 136),1,8,(.map none)⟩:=by kernel_rfl
theorem T182:T Go.Proofs.Tryz.prog 182=⟨.func,1,8,.nilFunc⟩:=by kernel_rfl
theorem T183:T Go.Proofs.Tryz.prog 183=⟨(.ptr 185),1,8,(.pointer none)⟩:=by kernel_rfl
theorem T184:T Go.Proofs.Tryz.prog 184=⟨(.struct [(0,42),(7,23),(11,30)]),12,112,(.agg #[(.int .i64 0),(.int .i64 0),(.int .i64 0),(.int .u64 0),(.int .u64 0),(.int .u64 0),(.int .i64 0),(.int .i64 0),(.int .i64 0),(.int .i64 0),(.int .i64 0),(.slice none 0 0)])⟩:=by kernel_rfl
theorem T185:T Go.Proofs.Tryz.prog 185=⟨(.struct [(0,42),(7,23),(11,30)]),12,112,(.agg #[(.int .i64 0),(.int .i64 0),(.int .i64 0),(.int .u64 0),(.int .u64 0),(.int .u64 0),(.int .i64 0),(.int .i64 0),(.int .i64 0),(.int .i64 0),(.int .i64 0),(.slice none 0 0)])⟩:=by kernel_rfl
theorem T186:T Go.Proofs.Tryz.prog 186=⟨.func,1,8,.nilFunc⟩:=by kernel_rfl
theorem T187:T Go.Proofs.Tryz.prog 187=⟨(.slice 186),1,24,(.slice none 0 0)⟩:=by kernel_rfl
theorem T188:T Go.Proofs.Tryz.prog 188=⟨.func,1,8,.nilFunc⟩:=by kernel_rfl
theorem T189:T Go.Proofs.Tryz.prog 189=⟨.func,1,8,.nilFunc⟩:=by kernel_rfl
theorem T191:T Go.Proofs.Tryz.prog 191=⟨.func,1,8,.nilFunc⟩:=by kernel_rfl
theorem T192:T Go.Proofs.Tryz.prog 192=⟨(.map 3 191),1,8,(.map none)⟩:=by kernel_rfl
theorem T193:T Go.Proofs.Tryz.prog 193=⟨.func,1,8,.nilFunc⟩:=by kernel_rfl
theorem T195:T Go.Proofs.Tryz.prog 195=⟨.func,1,8,.nilFunc⟩:=by kernel_rfl
theorem T196:T Go.Proofs.Tryz.prog 196=⟨.func,1,8,.nilFunc⟩:=by kernel_rfl
theorem T197:T Go.Proofs.Tryz.prog 197=⟨.func,1,8,.nilFunc⟩:=by kernel_rfl
theorem T198:T Go.Proofs.Tryz.prog 198=⟨.func,1,8,.nilFunc⟩:=by kernel_rfl
theorem T199:T Go.Proofs.Tryz.prog 199=⟨(.ptr 201),1,8,(.pointer none)⟩:=by kernel_rfl
theorem T200:T Go.Proofs.Tryz.prog 200=⟨(.struct [(0,42),(7,23),(11,30)]),12,112,(.agg #[(.int .i64 0),(.int .i64 0),(.int .i64 0),(.int .u64 0),(.int .u64 0),(.int .u64 0),(.int .i64 0),(.int .i64 0),(.int .i64 0),(.int .i64 0),(.int .i64 0),(.slice none 0 0)])⟩:=by kernel_rfl
theorem T201:T Go.Proofs.Tryz.prog 201=⟨(.struct [(0,42),(7,23),(11,30)]),12,112,(.agg #[(.int .i64 0),(.int .i64 0),(.int .i64 0),(.int .u64 0),(.int .u64 0),(.int .u64 0),(.int .i64 0),(.int .i64 0),(.int .i64 0),(.int .i64 0),(.int .i64 0),(.slice none 0 0)])⟩:=by kernel_rfl
theorem T202:T Go.Proofs.Tryz.prog 202=⟨.func,1,8,.nilFunc⟩:=by kernel_rfl
theorem T203:T Go.Proofs.Tryz.prog 203=⟨(.slice 83),1,24,(.slice none 0 0)⟩:=by kernel_rfl
theorem T204:T Go.Proofs.Tryz.prog 204=⟨.func,1,8,.nilFunc⟩:=by kernel_rfl
theorem T205:T Go.Proofs.Tryz.prog 205=⟨.func,1,8,.nilFunc⟩:=by kernel_rfl
theorem T206:T Go.Proofs.Tryz.prog 206=⟨.func,1,8,.nilFunc⟩:=by kernel_rfl
theorem T207:T Go.Proofs.Tryz.prog 207=⟨.func,1,8,.nilFunc⟩:=by kernel_rfl
theorem T210:T Go.Proofs.Tryz.prog 210=⟨.func,1,8,.nilFunc⟩:=by kernel_rfl
theorem T211:T Go.Proofs.Tryz.prog 211=⟨.func,1,8,.nilFunc⟩:=by kernel_rfl
theorem T212:T Go.Proofs.Tryz.prog 212=⟨.func,1,8,.nilFunc⟩:=by kernel_rfl
theorem T213:T Go.Proofs.Tryz.prog 213=⟨(.ptr 215),1,8,(.pointer none)⟩:=by kernel_rfl
theorem T214:T Go.Proofs.Tryz.prog 214=⟨(.struct [(0,42),(7,23),(11,30)]),12,112,(.agg #[(.int .i64 0),(.int .i64 0),(.int .i64 0),(.int .u64 0),(.int .u64 0),(.int .u64 0),(.int .i64 0),(.int .i64 0),(.int .i64 0),(.int .i64 0),(.int .i64 0),(.slice none 0 0)])⟩:=by kernel_rfl
theorem T215:T Go.Proofs.Tryz.prog 215=⟨(.struct [(0,42),(7,23),(11,30)]),12,112,(.agg #[(.int .i64 0),(.int .i64 0),(.int .i64 0),(.int .u64 0),(.int .u64 0),(.int .u64 0),(.int .i64 0),(.int .i64 0),(.int .i64 0),(.int .i64 0),(.int .i64 0),(.slice none 0 0)])⟩:=by kernel_rfl
theorem T216:T Go.Proofs.Tryz.prog 216=⟨(.arr 4 1),4,32,(.agg #[.nilFunc,.nilFunc,.nilFunc,.nilFunc])⟩:=by kernel_rfl
theorem T217:T Go.Proofs.Tryz.prog 217=⟨.func,1,8,.nilFunc⟩:=by kernel_rfl
theorem T218:T Go.Proofs.Tryz.prog 218=⟨(.slice 1),1,24,(.slice none 0 0)⟩:=by kernel_rfl
theorem T219:T Go.Proofs.Tryz.prog 219=⟨(.int .u64),1,8,(.int .u64 0)⟩:=by kernel_rfl
theorem T220:T Go.Proofs.Tryz.prog 220=⟨.func,1,8,.nilFunc⟩:=by kernel_rfl
theorem T221:T Go.Proofs.Tryz.prog 221=⟨.func,1,8,.nilFunc⟩:=by kernel_rfl
theorem T227:T Go.Proofs.Tryz.prog 227=⟨(.int .u32),1,4,(.int .u32 0)⟩:=by kernel_rfl
theorem T228:T Go.Proofs.Tryz.prog 228=⟨(.int .u8),1,1,(.int .u8 0)⟩:=by kernel_rfl
theorem T229:T Go.Proofs.Tryz.prog 229=⟨(.int .u8),1,1,(.int .u8 0)⟩:=by kernel_rfl
theorem T230:T Go.Proofs.Tryz.prog 230=⟨.func,1,8,.nilFunc⟩:=by kernel_rfl
theorem T231:T Go.Proofs.Tryz.prog 231=⟨(.ptr 5),1,8,(.pointer none)⟩:=by kernel_rfl
theorem T232:T Go.Proofs.Tryz.prog 232=⟨(.int .i32),1,4,(.int .i32 0)⟩:=by kernel_rfl
theorem T233:T Go.Proofs.Tryz.prog 233=⟨(.int .i32),1,4,(.int .i32 0)⟩:=by kernel_rfl
theorem draws_ok:(Go.Proofs.Tryz.prog.funcs.all fun fn=>match fn.body with | some b=>drawsOk b | none=>true)=true:=by kernel_rfl
end Go.Vai

/- From a contract to the row's step: what came in, as the evaluator's values. -/
namespace Go.Vai
open Go.RowKit
theorem args_nil {E:Env}:ArgsCon E [] #[]:=⟨rfl,fun i x v hx=>by simp at hx⟩
theorem args_cons {E:Env} {a:AV} {v:Value} {as1:List AV} {vs:List Value} (h:Con E a v) (h':ArgsCon E as1 ⟨vs⟩):ArgsCon E (a :: as1) ⟨v :: vs⟩:=by
 refine ⟨by have:=h'.1; simpa using this,fun i x w hx hw=>?_⟩
 cases i with
 | zero=>
  simp at hx hw
  subst hx; subst hw; exact h
 | succ i=>exact h'.2 i x w (by simpa using hx) (by simpa using hw)
def allK (w:World):Nat→Option Obj:=fun b=>w.heap[b]?
theorem PureC.calls {P:Program} {f:FuncId} {args:List AV} {r:Value} (h:PureC P f args (.v r)) {w:World} {vs:Array Value} (ha:ArgsCon (Env.bare (allK w)) args vs) :
  Calls P f vs w fun e w'=>e=.returned r∧Below w.heap.size w w':=by
 refine (h w (allK w) vs (fun _ _ h=>h) ha).mono ?_
 rintro e w' ⟨v,rfl,hb,hc⟩
 cases hc
 exact ⟨rfl,hb⟩
end Go.Vai

/- Contracts as a table: how arguments are read, and what a call answers. -/
namespace Go.Vai
open Go.RowKit
def u (x:Int):AV:=.v (.int .u64 x)
def iv (x:Int):AV:=.v (.int .i64 x)
def bv (b:Bool):AV:=.v (.bool b)
def ms (m:List Int):AV:=.lst 1 (m.map u)
def dU:List AV→Option (List Int)
 | []=>some []
 | .v (.int .u64 x) :: r=>(dU r).map (x :: ·)
 | _=>none
theorem dU_map:∀ m:List Int,dU (m.map u)=some m
 | []=>rfl
 | x :: m=>by simp only [List.map_cons,u,dU]; rw [dU_map m]; rfl
theorem dU_some:∀ {xs:List AV} {m:List Int},dU xs=some m→xs=m.map u
 | [],m,h=>by simp only [dU,Option.some.injEq] at h; subst h; rfl
 | x :: xs,m,h=>by
  cases hr:dU xs with
  | none=>
   unfold dU at h
   split at h
   ·rename_i heq; cases heq
   ·rename_i heq; cases heq; rw [hr] at h; cases h
   ·cases h
  | some m'=>
   unfold dU at h
   split at h
   ·rename_i heq; cases heq
   ·rename_i heq; cases heq; rw [hr] at h; cases h; rw [dU_some hr]; rfl
   ·cases h
def dM (a:AV):Option (List Int):=
 match a with
 | .lst 1 xs=>(dU xs).bind fun m=>if m.length≤1000 then some m else none
 | .v (.slice none 0 0)=>some []
 | _=>none
theorem dM_some {a:AV} {m:List Int} (h:dM a=some m):sub1 a (ms m)∧m.length≤1000:=by
 unfold dM at h
 split at h
 ·rename_i xs
  cases hx:dU xs with
  | none=>rw [hx] at h; cases h
  | some m'=>
   rw [hx] at h
   simp only [Option.bind_some] at h
   split at h
   ·rename_i hl; cases h; exact ⟨by rw [ms,dU_some hx]; rfl,hl⟩
   ·cases h
 ·cases h; exact ⟨rfl,Nat.zero_le _⟩
 ·cases h
theorem hfree_ms (m:List Int):HFree (ms m):=hfree_lst fun x hx c hc=>by
 obtain ⟨y,_,rfl⟩:=List.mem_map.1 hx
 simp only [u,AV.cells,List.mem_singleton] at hc
 subst hc; exact hfree_v _
def isIn (m:List Int) (i:Int):Bool:=decide (0≤i∧i < m.length)
def mLoad (m:List Int) (i:Int):Int:=if isIn m i then m.getD i.toNat 0 else 0
def mStore (m:List Int) (i v:Int):List Int:=if isIn m i then m.set i.toNat v else m
def mCasB (m:List Int) (i old:Int):Bool:=isIn m i && (mLoad m i == old)
def mCas (m:List Int) (i old nw:Int):List Int:=if mCasB m i old=true then m.set i.toNat nw else m
def wrapU (x:Int):Int:=IntKind.wrap .u64 x
def mAdd (m:List Int) (i v:Int):List Int:=mStore m i (wrapU (mLoad m i + v))
theorem len_store (m:List Int) (i v:Int):(mStore m i v).length=m.length:=by unfold mStore; split <;> simp
abbrev Row:=FuncId × (List AV→Option AV)
def tabC (rows:List Row):FuncId→List AV→Option AV:=fun f args=>(rows.lookup f).bind fun g=>g args
def ctx (P:Program) (rows:List Row):Ctx:=⟨P,T P,tabC rows,none,fun _ _ _ _ _=>False,fun _ _=>True,fun _ _=>none⟩
theorem ctx_P (P:Program) (rows:List Row):(ctx P rows).P=P:=rfl
theorem ctx_T (P:Program) (rows:List Row):(ctx P rows).T=T P:=rfl
theorem ctx_C (P:Program) (rows:List Row):(ctx P rows).C=tabC rows:=rfl
def RowOk (P:Program) (p:Row):Prop:=∀ args r,p.2 args=some r→Enters P p.1∧(∀ a∈args,HFree a)∧PureC P p.1 args r
open Go.Proofs
theorem rows_ok {rows:List Row} (h:∀ p∈rows,RowOk Tryz.prog p):(ctx Tryz.prog rows).ok:=⟨⟨fun _ _ _ _ _ h=>h.elim,fun _ _ _ _ _=>trivial,T_ok,draws_ok,fun f args r hC=>by
 change tabC rows f args=some r at hC
 change Enters Tryz.prog f∧(∀ a∈args,HFree a)∧PureC Tryz.prog f args r
 unfold tabC at hC
 have:∀ l:List Row,(∀ p∈l,RowOk Tryz.prog p)→(l.lookup f).bind (fun g=>g args)=some r→Enters Tryz.prog f∧(∀ a∈args,HFree a)∧PureC Tryz.prog f args r:=by
  intro l
  induction l with
  | nil=>intro _ h; cases h
  | cons p l ih=>
   intro hp hl
   obtain ⟨g,row⟩:=p
   simp only [List.lookup] at hl
   split at hl
   ·rename_i he
    have:=hp (g,row) (by simp) args r hl
    rw [eq_of_beq he]; exact this
   ·exact ih (fun p hp'=>hp p (by simp [hp'])) hl
 exact this rows h hC,fun _ _ _ _ _ h=>by cases h⟩,rfl,fun _ _=>trivial,fun _ _ _ _ _ h=>h⟩
theorem ok0:(ctx Tryz.prog []).ok:=rows_ok fun _ h=>by cases h
theorem enters_of {f:FuncId} {fn:Func} (h:Tryz.prog.funcs[f]? = some fn) (h1:(fn.name == "runtime.NumGoroutine")=false) (h2:fn.body.isNone=false):Enters Tryz.prog f:=⟨fn,h,h1,h2⟩
structure Sh (α:Type) where
 dec:AV→Option α
 enc:α→AV
 ok:∀ a x,dec a=some x→sub1 a (enc x)
 free:∀ x,HFree (enc x)
theorem Sh.hf {α:Type} (s:Sh α) {a:AV} {x:α} (h:s.dec a=some x):HFree a:=by
 have:=s.ok a x h
 unfold sub1 at this
 split at this
 ·exact hfree_v _
 ·rw [this]; exact s.free x
def Sh.Got {α:Type} (s:Sh α) (x:α):Prop:=∃ a,s.dec a=some x
theorem subL_args {E:Env} {xs ys:List AV} {vs:Array Value} (h:subL xs ys) (hx:ArgsCon E xs vs):ArgsCon E ys vs:=by
 obtain ⟨h1,h2⟩:=subL_con (vs:=vs.toList) h (by simpa using hx.1) fun i x v hx' hv=>hx.2 i x v hx' (by simpa using hv)
 exact ⟨by simpa using h1,fun i x v hx' hv=>h2 i x v hx' (by simpa using hv)⟩
theorem PureC.weak {P:Program} {f:FuncId} {xs ys:List AV} {r:AV} (h:subL xs ys) (hp:PureC P f ys r):PureC P f xs r:=
 fun w K vs hK ha=>hp w K vs hK (subL_args h ha)
def dI:AV→Option Int
 | .v (.int .i64 x)=>some x
 | _=>none
def dN:AV→Option Int
 | .v (.int .u64 x)=>some x
 | _=>none
def dB:AV→Option Bool
 | .v (.bool x)=>some x
 | _=>none
theorem dI_some {a:AV} {x:Int} (h:dI a=some x):sub1 a (iv x):=by unfold dI at h; split at h <;> cases h; rfl
theorem dN_some {a:AV} {x:Int} (h:dN a=some x):sub1 a (u x):=by unfold dN at h; split at h <;> cases h; rfl
theorem dB_some {a:AV} {x:Bool} (h:dB a=some x):sub1 a (bv x):=by unfold dB at h; split at h <;> cases h; rfl
def shI:Sh Int:=⟨dI,iv,fun _ _=>dI_some,fun _=>hfree_v _⟩
def shN:Sh Int:=⟨dN,u,fun _ _=>dN_some,fun _=>hfree_v _⟩
def shB:Sh Bool:=⟨dB,bv,fun _ _=>dB_some,fun _=>hfree_v _⟩
def shM:Sh (List Int):=⟨dM,ms,fun _ _ h=>(dM_some h).1,hfree_ms⟩
theorem shI_dec:shI.dec=dI:=rfl
theorem shN_dec:shN.dec=dN:=rfl
theorem shB_dec:shB.dec=dB:=rfl
theorem shM_dec:shM.dec=dM:=rfl
def row0 (r:AV):List AV→Option AV
 | []=>some r
 | _=>none
def row1 {α:Type} (s:Sh α) (F:α→Option AV):List AV→Option AV
 | [a]=>(s.dec a).bind F
 | _=>none
def row2 {α β:Type} (s:Sh α) (t:Sh β) (F:α→β→Option AV):List AV→Option AV
 | [a,b]=>(s.dec a).bind fun x=>(t.dec b).bind fun y=>F x y
 | _=>none
def row3 {α β γ:Type} (s:Sh α) (t:Sh β) (p:Sh γ) (F:α→β→γ→Option AV):List AV→Option AV
 | [a,b,c]=>(s.dec a).bind fun x=>(t.dec b).bind fun y=>(p.dec c).bind fun z=>F x y z
 | _=>none
def row4 {α β γ δ:Type} (s:Sh α) (t:Sh β) (p:Sh γ) (q:Sh δ) (F:α→β→γ→δ→Option AV):List AV→Option AV
 | [a,b,c,d]=>(s.dec a).bind fun x=>(t.dec b).bind fun y=>(p.dec c).bind fun z=>(q.dec d).bind fun z'=>F x y z z'
 | _=>none
def row5 {α β γ δ ε:Type} (s:Sh α) (t:Sh β) (p:Sh γ) (q:Sh δ) (q':Sh ε) (F:α→β→γ→δ→ε→Option AV):List AV→Option AV
 | [a,b,c,d,e]=>(s.dec a).bind fun x=>(t.dec b).bind fun y=>(p.dec c).bind fun z=>(q.dec d).bind fun z'=>(q'.dec e).bind fun z''=>F x y z z' z''
 | _=>none
section
variable {f : FuncId} {α β γ δ ε : Type} {s : Sh α} {t : Sh β} {p : Sh γ} {q : Sh δ} {q' : Sh ε}
theorem ok_row0 {r:AV} (he:Enters Tryz.prog f) (h:PureC Tryz.prog f [] r):RowOk Tryz.prog (f,row0 r):=by
 intro args r' hr
 dsimp only [row0] at hr
 split at hr
 ·cases hr; exact ⟨he,by simp,h⟩
 ·cases hr
theorem ok_row1 {F:α→Option AV} (he:Enters Tryz.prog f) (h:∀ x r,s.Got x→F x=some r→PureC Tryz.prog f [s.enc x] r):RowOk Tryz.prog (f,row1 s F):=by
 intro args r hr
 dsimp only [row1] at hr
 split at hr
 ·rename_i a
  obtain ⟨x,hx,hr⟩:=Option.bind_eq_some_iff.1 hr
  exact ⟨he,by simp only [List.mem_cons,List.not_mem_nil,or_false]; rintro _ rfl; exact s.hf hx,.weak (ys:=[s.enc x]) ⟨s.ok _ _ hx,trivial⟩ (h x r ⟨a,hx⟩ hr)⟩
 ·cases hr
theorem ok_row2 {F:α→β→Option AV} (he:Enters Tryz.prog f) (h:∀ x y r,s.Got x→t.Got y→F x y=some r→PureC Tryz.prog f [s.enc x,t.enc y] r):RowOk Tryz.prog (f,row2 s t F):=by
 intro args r hr
 dsimp only [row2] at hr
 split at hr
 ·rename_i a b
  obtain ⟨x,hx,hr⟩:=Option.bind_eq_some_iff.1 hr
  obtain ⟨y,hy,hr⟩:=Option.bind_eq_some_iff.1 hr
  exact ⟨he,by simp only [List.mem_cons,List.not_mem_nil,or_false]; rintro _ (rfl | rfl) <;> first | exact s.hf hx | exact t.hf hy,.weak (ys:=[s.enc x,t.enc y]) ⟨s.ok _ _ hx,t.ok _ _ hy,trivial⟩ (h x y r ⟨a,hx⟩ ⟨b,hy⟩ hr)⟩
 ·cases hr
theorem ok_row3 {F:α→β→γ→Option AV} (he:Enters Tryz.prog f) (h:∀ x y z r,s.Got x→t.Got y→p.Got z→F x y z=some r→PureC Tryz.prog f [s.enc x,t.enc y,p.enc z] r):RowOk Tryz.prog (f,row3 s t p F):=by
 intro args r hr
 dsimp only [row3] at hr
 split at hr
 ·rename_i a b c
  obtain ⟨x,hx,hr⟩:=Option.bind_eq_some_iff.1 hr
  obtain ⟨y,hy,hr⟩:=Option.bind_eq_some_iff.1 hr
  obtain ⟨z,hz,hr⟩:=Option.bind_eq_some_iff.1 hr
  exact ⟨he,by simp only [List.mem_cons,List.not_mem_nil,or_false]; rintro _ (rfl | rfl | rfl) <;> first | exact s.hf hx | exact t.hf hy | exact p.hf hz,.weak (ys:=[s.enc x,t.enc y,p.enc z]) ⟨s.ok _ _ hx,t.ok _ _ hy,p.ok _ _ hz,trivial⟩ (h x y z r ⟨a,hx⟩ ⟨b,hy⟩ ⟨c,hz⟩ hr)⟩
 ·cases hr
theorem ok_row4 {F:α→β→γ→δ→Option AV} (he:Enters Tryz.prog f) (h:∀ x y z z' r,s.Got x→t.Got y→p.Got z→q.Got z'→F x y z z'=some r→PureC Tryz.prog f [s.enc x,t.enc y,p.enc z,q.enc z'] r):RowOk Tryz.prog (f,row4 s t p q F):=by
 intro args r hr
 dsimp only [row4] at hr
 split at hr
 ·rename_i a b c d
  obtain ⟨x,hx,hr⟩:=Option.bind_eq_some_iff.1 hr
  obtain ⟨y,hy,hr⟩:=Option.bind_eq_some_iff.1 hr
  obtain ⟨z,hz,hr⟩:=Option.bind_eq_some_iff.1 hr
  obtain ⟨z',hz',hr⟩:=Option.bind_eq_some_iff.1 hr
  exact ⟨he,by simp only [List.mem_cons,List.not_mem_nil,or_false]; rintro _ (rfl | rfl | rfl | rfl) <;> first | exact s.hf hx | exact t.hf hy | exact p.hf hz | exact q.hf hz',.weak (ys:=[s.enc x,t.enc y,p.enc z,q.enc z']) ⟨s.ok _ _ hx,t.ok _ _ hy,p.ok _ _ hz,q.ok _ _ hz',trivial⟩ (h x y z z' r ⟨a,hx⟩ ⟨b,hy⟩ ⟨c,hz⟩ ⟨d,hz'⟩ hr)⟩
 ·cases hr
theorem ok_row5 {F:α→β→γ→δ→ε→Option AV} (he:Enters Tryz.prog f) (h:∀ x y z z' z'' r,s.Got x→t.Got y→p.Got z→q.Got z'→q'.Got z''→F x y z z' z''=some r→PureC Tryz.prog f [s.enc x,t.enc y,p.enc z,q.enc z',q'.enc z''] r):RowOk Tryz.prog (f,row5 s t p q q' F):=by
 intro args r hr
 dsimp only [row5] at hr
 split at hr
 ·rename_i a b c d e
  obtain ⟨x,hx,hr⟩:=Option.bind_eq_some_iff.1 hr
  obtain ⟨y,hy,hr⟩:=Option.bind_eq_some_iff.1 hr
  obtain ⟨z,hz,hr⟩:=Option.bind_eq_some_iff.1 hr
  obtain ⟨z',hz',hr⟩:=Option.bind_eq_some_iff.1 hr
  obtain ⟨z'',hz'',hr⟩:=Option.bind_eq_some_iff.1 hr
  exact ⟨he,by simp only [List.mem_cons,List.not_mem_nil,or_false]; rintro _ (rfl | rfl | rfl | rfl | rfl) <;> first | exact s.hf hx | exact t.hf hy | exact p.hf hz | exact q.hf hz' | exact q'.hf hz'',.weak (ys:=[s.enc x,t.enc y,p.enc z,q.enc z',q'.enc z'']) ⟨s.ok _ _ hx,t.ok _ _ hy,p.ok _ _ hz,q.ok _ _ hz',q'.ok _ _ hz'',trivial⟩ (h x y z z' z'' r ⟨a,hx⟩ ⟨b,hy⟩ ⟨c,hz⟩ ⟨d,hz'⟩ ⟨e,hz''⟩ hr)⟩
 ·cases hr
end
theorem shM_got {m:List Int} (h:shM.Got m):m.length≤1000:=h.elim fun _ h=>(dM_some h).2
def rMI (F:List Int→Int→AV):List AV→Option AV:=row2 shM shI fun m i=>some (F m i)
theorem rMI_eq (F:List Int→Int→AV) (m:List Int) (i:Int) (h:m.length≤1000):rMI F [.lst 1 (m.map u),.v (.int .i64 i)]=some (F m i):=by simp [rMI,row2,shM_dec,shI_dec,dI,dM,dU_map,h]
theorem ok_MI {f:FuncId} {F:List Int→Int→AV} (he:Enters Tryz.prog f) (h:∀ m i,m.length≤1000→PureC Tryz.prog f [ms m,iv i] (F m i)):RowOk Tryz.prog (f,rMI F):=
 ok_row2 he fun m i r g _ e=>by cases e; exact h m i (shM_got g)
theorem getD_u {m:List Int} {k:Nat} (h:k < m.length):(m.map u).getD k .top=u (m.getD k 0):=by simp [List.getD_eq_getElem?_getD,h]
theorem isIn_true {m:List Int} {i:Int} (h:isIn m i=true):0≤i∧i < m.length∧i.toNat < m.length:=by
 simp [isIn] at h; omega
theorem set_u (m:List Int) (k:Nat) (v:Int):(m.map u).set k (.v (.int .u64 v))=(m.set k v).map u:=by rw [List.map_set]; rfl
theorem take_u (m:List Int):(m.map u).take m.length=m.map u:=List.take_of_length_le (by simp)
theorem take_us (m:List Int) (k:Nat) (v:Int):((m.set k v).map u).take m.length=(m.set k v).map u:=List.take_of_length_le (by simp)
theorem frz_u (hp:Hp):∀ m:List Int,frzArgs hp (m.map u)=(m.map u,hp)
 | []=>rfl
 | x :: r=>by rw [List.map_cons,frzArgs]; show (u x :: (frzArgs hp (r.map u)).1,(frzArgs hp (r.map u)).2)=_; rw [frz_u hp r]
theorem hf_u (m:List Int):(∀ x∈m.map u,∀ c∈x.cells,HFree c)=True:=eq_true fun x hx c hc=>by
 obtain ⟨y,_,rfl⟩:=List.mem_map.1 hx
 simp only [u,AV.cells,List.mem_singleton] at hc
 subst hc; exact hfree_v _
theorem ne_u {m:List Int} {k:Nat} (h:k < m.length):(m.map u=[])=False:=by
 have:m≠[]:=by rintro rfl; simp at h
 simp [this]
theorem set_self {m:List Int} {k:Nat} (h:k < m.length):m.set k (m.getD k 0)=m:=by
 rw [List.getD_eq_getElem?_getD,List.getElem?_eq_getElem h]
 exact List.set_getElem_self h
theorem wrap_s {x:Nat} (h:x≤1000):IntKind.i64.wrap ((x:Int) + 1)=((x + 1:Nat):Int):=by
 rw [IntKind.wrap_i64]; omega
theorem hfree_lu (m:List Int):HFree (.lst 1 (m.map u))=True:=eq_true (hfree_ms m)
theorem hfree_l0:HFree (.lst 1 [])=True:=eq_true (hfree_ms [])
theorem hf_0:(∀ y∈([]:List AV),∀ c∈y.cells,HFree c)=True:=eq_true fun y hy=>by cases hy
theorem wrap_i {x:Int} (h0:-9223372036854775808≤x) (h1:x < 9223372036854775808):IntKind.i64.wrap x=x:=by
 rw [IntKind.wrap_i64]; omega
theorem snoc_u (m:List Int) (v:Int):m.map u ++ [AV.v (.int .u64 v)]=(m ++ [v]).map u:=by simp [u]
end Go.Vai

/- Calls: what the functions of the frames' layer compute. -/
namespace Go.Vai
open Go.RowKit Go.Proofs
set_option maxHeartbeats 4000000
set_option maxRecDepth 100000
structure Fr where
 op:Int
 pc:Int
 who:Int
 val:Int
 x:Int
 y:Int
 res:Int
 deriving DecidableEq
def fv (f:Fr):AV:=.agg [iv f.op,iv f.pc,iv f.who,u f.val,u f.x,u f.y,iv f.res]
def fEnd (f:Fr) (res val:Int):Fr:=⟨f.op,0,f.who,val,0,0,res⟩
def fBegin (op who val:Int):Fr:=⟨op,0,who,val,0,0,0⟩
def dF:AV→Option Fr
 | .agg [.v (.int .i64 a),.v (.int .i64 b),.v (.int .i64 c),.v (.int .u64 d),.v (.int .u64 e),.v (.int .u64 g),.v (.int .i64 h)]=>some ⟨a,b,c,d,e,g,h⟩
 | _=>none
theorem dF_some {a:AV} {f:Fr} (h:dF a=some f):a=fv f:=by
 unfold dF at h
 split at h
 ·cases h; rfl
 ·cases h
theorem hfree_fv (f:Fr):HFree (fv f):=hfree_agg fun c hc=>by
 simp only [iv,u,List.mem_cons,List.not_mem_nil,or_false] at hc
 rcases hc with rfl | rfl | rfl | rfl | rfl | rfl | rfl <;> exact hfree_v _
theorem sub1_fv {a:AV} {f:Fr} (h:dF a=some f):sub1 a (fv f):=by rw [dF_some h]; rfl
def shF:Sh Fr:=⟨dF,fv,fun _ _ h=>sub1_fv h,hfree_fv⟩
theorem shF_dec:shF.dec=dF:=rfl
theorem fr_eta (f:Fr):(⟨f.op,f.pc,f.who,f.val,f.x,f.y,f.res⟩:Fr)=f:=rfl
theorem begin_pure (op who val:Int):PureC Tryz.prog 63 [iv op,iv who,u val] (fv (fBegin op who val)):=by
 refine pure_sub ok0 1 Tryz.func63 rfl (by show 3≤_; decide) ?_
 simp only [Tryz.f63,fv,fBegin,T42,iv,u,ctx_T,T3,T40,Option.map_some,ev1,ev2,undef,resB,cv,stepB,aopR,one,pre,argFrm,evo,lkp,hlk,ofVal,ofCells,setCells,fillA,AV.wr,AV.ok1,TK.agg,frz,frz1,frzs,frzA,subA,subB,subL,sub1,Nat.reduceAdd,Nat.reduceEqDiff,Nat.reduceLT,Nat.reduceLeDiff,reduceCtorEq,eq_self,ne_eq]
theorem over_pure (f:Fr):PureC Tryz.prog 55 [fv f] (bv (f.res != 0)):=by
 refine pure_sub ok0 1 Tryz.func55 rfl (by show 1≤_; decide) ?_
 simp only [Tryz.f55,fv,T42,iv,bv,u,ctx_T,T3,ev1,ev2,implies_true,undef,resB,cv,stepB,aopR,one,pre,binR,intOpR,argFrm,evo,lkp,hlk,ofCells,AV.wr,AV.ok1,TK.agg,frz,frz1,frzA,subA,subB,sub1,Nat.reduceAdd,Nat.reduceLT,Nat.reduceLeDiff,reduceCtorEq,eq_self,ne_eq]
theorem end_pure (f:Fr) (res val:Int):PureC Tryz.prog 168 [fv f,iv res,u val] (fv (fEnd f res val)):=by
 refine pure_sub ok0 1 Tryz.func168 rfl (by show 3≤_; decide) ?_
 simp only [Tryz.f168,fv,fEnd,T42,iv,u,ctx_T,T3,T40,Option.map_some,ev1,ev2,implies_true,undef,resB,cv,stepB,aopR,one,pre,argFrm,evo,lkp,hlk,ofVal,ofCells,setCells,fillA,AV.wr,AV.ok1,TK.agg,frz,frz1,frzs,frzA,subA,subB,subL,sub1,Nat.reduceAdd,Nat.reduceEqDiff,Nat.reduceLT,Nat.reduceLeDiff,reduceCtorEq,eq_self,ne_eq]
def rowsF:List Row:=[
 (63,row3 shI shI shN fun o w v=>some (fv (fBegin o w v))),
 (55,row1 shF fun f=>some (bv (f.res != 0))),
 (168,row3 shF shI shN fun f r v=>some (fv (fEnd f r v)))]
theorem rowsF_ok:∀ p∈rowsF,RowOk Tryz.prog p:=fun p h=>by
 simp only [rowsF,List.mem_cons,List.not_mem_nil,or_false] at h
 rcases h with rfl | rfl | rfl
 ·exact ok_row3 (enters_of Tryz.func63 (by decide) rfl) fun o w v r _ _ _ e=>by cases e; exact begin_pure o w v
 ·exact ok_row1 (enters_of Tryz.func55 (by decide) rfl) fun f r _ e=>by cases e; exact over_pure f
 ·exact ok_row3 (enters_of Tryz.func168 (by decide) rfl) fun f x v r _ _ _ e=>by cases e; exact end_pure f x v
end Go.Vai

/- What came in, read as the evaluator's values: numbers, structs of numbers, and lists of such. -/
namespace Go.Vai
open Go.RowKit Go.WideShapes Go.ChangeShapes
def InI (x:Int):Prop:=-9223372036854775808≤x∧x < 9223372036854775808
def InU (x:Int):Prop:=0≤x∧x < 18446744073709551616
theorem in_i {x:Int} (h:(Lit.int .i64 x).wf=true):InI x:=by
 have e1:IntKind.min .i64=-9223372036854775808:=by decide
 have e2:IntKind.max .i64=9223372036854775807:=by decide
 simp only [Lit.wf,e1,e2,Bool.and_eq_true,decide_eq_true_eq] at h
 unfold InI; omega
theorem in_u {x:Int} (h:(Lit.int .u64 x).wf=true):InU x:=by
 have e1:IntKind.min .u64=0:=by decide
 have e2:IntKind.max .u64=18446744073709551615:=by decide
 simp only [Lit.wf,e1,e2,Bool.and_eq_true,decide_eq_true_eq] at h
 unfold InU; omega
structure Rdr (P:Program) (e:TypeId) (α:Type) where
 n:Nat
 av:α→AV
 wf:α→Prop
 size:P.cellsOf e=n
 len:∀ x,(av x).cells.length=n
 rd:∀ {H:Type} (enc:TypeId × Value→H) (w:World) (base:Nat) (spare:Nat→Bool) (held:Bool) (fuel:Nat) (cs:List Value) (d:DataW H × List MemPlace),
  DataW.trod enc P w base spare held fuel e cs=some d→∃ x,wf x∧cs.length=n∧∀ (j:Nat) (a:AV) (c:Value),(av x).cells[j]? = some a→cs[j]? = some c→c.oneCell'=true∧Con (Env.bare (allK w)) a c
def rdInt {P:Program} {e:TypeId} {k:IntKind} (ht:P.underlying e=some (.int k)) (hc:P.cellsOf e=1):Rdr P e Int where
 n:=1
 av:=fun x=>.v (.int k x)
 wf:=fun x=>(Lit.int k x).wf=true
 size:=hc
 len:=fun _=>rfl
 rd:=fun enc w base spare held fuel cs d h=>by
  obtain ⟨z,rfl,_,hw⟩:=DataW.trod_int ht h
  refine ⟨z,hw,rfl,fun j a c ha hcj=>?_⟩
  cases j with
  | zero=>simp [AV.cells] at ha hcj; subst ha; subst hcj; exact ⟨rfl,.v _⟩
  | succ j=>simp at hcj
def rdBool {P:Program} {e:TypeId} (ht:P.underlying e=some .bool) (hc:P.cellsOf e=1):Rdr P e Bool where
 n:=1
 av:=bv
 wf:=fun _=>True
 size:=hc
 len:=fun _=>rfl
 rd:=fun enc w base spare held fuel cs d h=>by
  obtain ⟨z,rfl,_⟩:=DataW.trod_bool ht h
  refine ⟨z,trivial,rfl,fun j a c ha hcj=>?_⟩
  cases j with
  | zero=>simp [bv,AV.cells] at ha hcj; subst ha; subst hcj; exact ⟨rfl,.v _⟩
  | succ j=>simp at hcj
def fieldsB (P:Program) (fs:Array Field) (ks:List IntKind):Bool:=
 fs.size == ks.length && (List.range ks.length).all fun i=>match fs[i]?,ks[i]? with
  | some f,some k=>f.offset == i && P.cellsOf f.type == 1 && (match P.underlying f.type with | some (.int k')=>decide (k'=k) | _=>false)
  | _,_=>false
theorem struct_ints {H:Type} {enc:TypeId × Value→H} {P:Program} {w:World} {base:Nat} {spare:Nat→Bool} {held:Bool} {fuel:Nat} {t:TypeId} {fs:Array Field} {ks:List IntKind} {cs:List Value} {x:DataW H × List MemPlace}
  (ht:P.underlying t=some (.struct fs)) (hC:P.cellsOf t=ks.length) (hB:fieldsB P fs ks=true) (h:DataW.trod enc P w base spare held fuel t cs=some x) :
  cs.length=ks.length∧∀ (i:Nat) (k:IntKind),ks[i]? = some k→∃ z,cs[i]? = some (.int k z)∧(Lit.int k z).wf=true:=by
 obtain ⟨xs,n,_,_,hl,hlen,hf⟩:=DataW.trod_struct ht h
 refine ⟨hl.trans hC,fun i k hk=>?_⟩
 unfold fieldsB at hB
 rw [Bool.and_eq_true,List.all_eq_true] at hB
 have hi:i < ks.length:=(List.getElem?_eq_some_iff.1 hk).1
 have:=hB.2 i (by simp [hi])
 rw [hk] at this
 cases hfi:fs[i]? with
 | none=>rw [hfi] at this; cases this
 | some f=>
  rw [hfi] at this
  simp only [Bool.and_eq_true,beq_iff_eq] at this
  obtain ⟨⟨h1,h2⟩,h3⟩:=this
  have hu:P.underlying f.type=some (.int k):=by
   split at h3
   ·rename_i k' he
    rw [he,of_decide_eq_true h3]
   ·cases h3
  have hx:=hf i f hfi
  have hxi:i < xs.length:=by rw [hlen]; exact (Array.getElem?_eq_some_iff.1 hfi).1
  rw [List.getElem?_eq_getElem hxi,h1,h2] at hx
  obtain ⟨z,hz,_,hw⟩:=DataW.trod_int hu hx
  refine ⟨z,?_,hw⟩
  have:((cs.drop i).take 1)[0]? = some (.int k z):=by rw [hz]; rfl
  simpa using this
def frKinds:List IntKind:=[.i64,.i64,.i64,.u64,.u64,.u64,.i64]
def Fr.wf (f:Fr):Prop:=InI f.op∧InI f.pc∧InI f.who∧InU f.val∧InU f.x∧InU f.y∧InI f.res
def rdFr {P:Program} {t:TypeId} {fs:Array Field} (ht:P.underlying t=some (.struct fs)) (hC:P.cellsOf t=7) (hB:fieldsB P fs frKinds=true):Rdr P t Fr where
 n:=7
 av:=fv
 wf:=Fr.wf
 size:=hC
 len:=fun _=>rfl
 rd:=fun enc w base spare held fuel cs d h=>by
  obtain ⟨hl,hz⟩:=struct_ints ht (ks:=frKinds) hC hB h
  obtain ⟨z0,e0,w0⟩:=hz 0 .i64 rfl
  obtain ⟨z1,e1,w1⟩:=hz 1 .i64 rfl
  obtain ⟨z2,e2,w2⟩:=hz 2 .i64 rfl
  obtain ⟨z3,e3,w3⟩:=hz 3 .u64 rfl
  obtain ⟨z4,e4,w4⟩:=hz 4 .u64 rfl
  obtain ⟨z5,e5,w5⟩:=hz 5 .u64 rfl
  obtain ⟨z6,e6,w6⟩:=hz 6 .i64 rfl
  refine ⟨⟨z0,z1,z2,z3,z4,z5,z6⟩,⟨in_i w0,in_i w1,in_i w2,in_u w3,in_u w4,in_u w5,in_i w6⟩,hl,fun j a c ha hcj=>?_⟩
  match j with
  | 0=>rw [e0] at hcj; cases hcj; cases ha; exact ⟨rfl,.v _⟩
  | 1=>rw [e1] at hcj; cases hcj; cases ha; exact ⟨rfl,.v _⟩
  | 2=>rw [e2] at hcj; cases hcj; cases ha; exact ⟨rfl,.v _⟩
  | 3=>rw [e3] at hcj; cases hcj; cases ha; exact ⟨rfl,.v _⟩
  | 4=>rw [e4] at hcj; cases hcj; cases ha; exact ⟨rfl,.v _⟩
  | 5=>rw [e5] at hcj; cases hcj; cases ha; exact ⟨rfl,.v _⟩
  | 6=>rw [e6] at hcj; cases hcj; cases ha; exact ⟨rfl,.v _⟩
  | j + 7=>cases ha
theorem list_of {α:Type} {Q:Nat→α→Prop}:∀ n:Nat,(∀ i,i < n→∃ x,Q i x)→∃ l:List α,l.length=n∧∀ (i:Nat) (x:α),l[i]? = some x→Q i x
 | 0,_=>⟨[],rfl,fun i x h=>by cases h⟩
 | n + 1,h=>by
  obtain ⟨l,hl,hq⟩:=list_of n fun i hi=>h i (by omega)
  obtain ⟨x,hx⟩:=h n (by omega)
  refine ⟨l ++ [x],by simp [hl],fun i y hy=>?_⟩
  rw [List.getElem?_append] at hy
  split at hy
  ·exact hq i y hy
  ·rename_i hi
   rw [List.getElem?_singleton] at hy
   split at hy
   ·cases hy
    rw [show i=n by omega]; exact hx
   ·cases hy
def rdSlice {P:Program} {t e:TypeId} {α:Type} (r:Rdr P e α) (ht:P.underlying t=some (.slice e)) (hc:P.cellsOf t=1):Rdr P t (List α) where
 n:=1
 av:=fun l=>.lst r.n (l.map r.av)
 wf:=fun l=>l.length≤maxLen∧∀ x∈l,r.wf x
 size:=hc
 len:=fun _=>rfl
 rd:=fun enc w base spare held fuel cs d h=>by
  rcases DataW.trod_slice ht h with ⟨rfl,_⟩ | ⟨a,len,cap,elems,rest,m,_,rfl,_,hb,hlc,hm,hlen,hel,_⟩
  ·refine ⟨[],⟨Nat.zero_le _,by simp⟩,rfl,fun j a c ha hcj=>?_⟩
   cases j with
   | zero=>
    simp [AV.cells] at ha hcj; subst ha; subst hcj
    exact ⟨rfl,.lst _ _ none 0 0 ⟨0,0,none⟩ (fun _ _=>undef) (by simp) (Nat.le_refl _) (by simp) (by simp) (by simp) (by simp) (by simp)⟩
   | succ j=>simp at hcj
  ·obtain ⟨l,hl,hq⟩:=list_of (Q:=fun i x=>r.wf x∧∃ cs',w.cells? base (a.add (i * r.n)) r.n=some cs'∧∀ (j:Nat) (a:AV) (c:Value),(r.av x).cells[j]? = some a→cs'[j]? = some c→c.oneCell'=true∧Con (Env.bare (allK w)) a c) len (fun i hi=>by
    have h1:=hel i hi
    rw [List.getElem?_eq_getElem (by omega),Option.bind_eq_some_iff] at h1
    obtain ⟨cs',h2,h3⟩:=h1
    obtain ⟨x,h4,h5,h6⟩:=r.rd enc w base spare held m cs' _ h3
    rw [r.size] at h2
    exact ⟨x,h4,cs',h2,h6⟩)
   refine ⟨l,⟨by omega,fun x hx=>?_⟩,rfl,fun j b c hb hcj=>?_⟩
   ·obtain ⟨i,hi⟩:=List.getElem?_of_mem hx
    exact (hq i x hi).1
   ·cases j with
    | succ j=>simp at hcj
    | zero=>
     simp [AV.cells] at hb hcj; subst hb; subst hcj
     have key:∀ (i:Nat) (u:AV) (j:Nat) (b:AV),(l.map r.av)[i]? = some u→u.cells[j]? = some b→∃ c,w.cell? (a.add (i * r.n + j))=some c∧c.oneCell'=true∧Con (Env.bare (allK w)) b c:=by
      intro i u j b hu hb
      rw [List.getElem?_map,Option.map_eq_some_iff] at hu
      obtain ⟨x,hx,rfl⟩:=hu
      obtain ⟨_,cs',h1,h2⟩:=hq i x hx
      obtain ⟨_,h3,h4⟩:=World.cells?_some h1
      have hj:j < r.n:=by rw [← r.len x]; exact (List.getElem?_eq_some_iff.1 hb).1
      have h5:=h4 j hj
      rw [Addr.add_add] at h5
      have hc':cs'[j]? = some (cs'[j]'(by omega)):=List.getElem?_eq_getElem _
      rw [hc'] at h5
      exact ⟨_,h5,h2 j b _ hb hc'⟩
     refine ⟨rfl,.lst _ _ _ len cap a (fun i j=>(w.cell? (a.add (i * r.n + j))).getD undef) (by simp [hl]) hlc (fun _=>rfl) ?_ ?_ ?_ ?_⟩
     ·intro i u hu
      rw [List.getElem?_map,Option.map_eq_some_iff] at hu
      obtain ⟨x,hx,rfl⟩:=hu
      exact r.len x
     ·intro i u j b hu hb
      obtain ⟨c,h1,_⟩:=key i u j b hu hb
      rw [h1]
      unfold World.cell? at h1
      exact h1
     ·intro i u j b hu hb
      obtain ⟨c,h1,h2,_⟩:=key i u j b hu hb
      rw [h1]; exact h2
     ·intro i u j b hu hb
      obtain ⟨c,h1,_,h2⟩:=key i u j b hu hb
      rw [h1]; exact h2
section
variable {P : Program} {w : World} {t : TypeId} {α : Type} {H : Type} {enc : TypeId × Value → H} {reach : Reach} {b0 base : Nat} {spare : Nat → Bool} {held : Bool} {v : Value} {d : DataW H} {p : List MemPlace}
theorem Rdr.agg (r:Rdr P t α) (hagg:∀ x,∃ l,r.av x=.agg l) {fs:Array Field} (hs:P.underlying t=some (.struct fs)) (hv:Value.okWide P w reach b0 t v) (h:DataW.Trod enc P w base spare held t v d p) :
  ∃ x,r.wf x∧Con (Env.bare (allK w)) (r.av x) v:=by
 obtain ⟨cs,rfl,hsz⟩:=okWide_struct hs hv
 obtain ⟨fuel,hf⟩:=h
 obtain ⟨x,h1,h2,h3⟩:=r.rd enc w base spare held fuel _ _ hf
 refine ⟨x,h1,?_⟩
 have hl:=r.len x
 obtain ⟨l,e⟩:=hagg x
 rw [e] at h3 hl ⊢
 have h2':cs.size=r.n:=by simpa [Value.cells] using h2
 refine .agg _ _ (by rw [h2']; exact hl) fun i a c ha hc=>(h3 i a c ha (by simpa [Value.cells] using hc)).2
theorem Rdr.one (r:Rdr P t α) (h1:∀ x,(r.av x).cells=[r.av x]) (hv:v.cells.toList=[v]) (h:DataW.Trod enc P w base spare held t v d p) :
  ∃ x,r.wf x∧Con (Env.bare (allK w)) (r.av x) v:=by
 obtain ⟨fuel,hf⟩:=h
 obtain ⟨x,k1,k2,k3⟩:=r.rd enc w base spare held fuel _ _ hf
 refine ⟨x,k1,(k3 0 _ v (by rw [h1 x]; rfl) (by rw [hv]; rfl)).2⟩
theorem Rdr.slice {e:TypeId} (r:Rdr P e α) (ht:P.underlying t=some (.slice e)) (hc:P.cellsOf t=1) (hv:Value.okWide P w reach b0 t v) (h:DataW.Trod enc P w base spare held t v d p) :
  ∃ l:List α,(l.length≤maxLen∧∀ x∈l,r.wf x)∧Con (Env.bare (allK w)) (.lst r.n (l.map r.av)) v:=by
 obtain ⟨a,len,cap,rfl⟩:=okWide_slice ht hv
 exact (rdSlice r ht hc).one (fun _=>rfl) rfl h
theorem Rdr.int {k:IntKind} (ht:P.underlying t=some (.int k)) (hc:P.cellsOf t=1) (hv:Value.okWide P w reach b0 t v) (h:DataW.Trod enc P w base spare held t v d p) :
  ∃ x,(Lit.int k x).wf=true∧Con (Env.bare (allK w)) (.v (.int k x)) v:=by
 obtain ⟨n,rfl⟩:=okWide_int ht hv
 exact (rdInt ht hc).one (fun _=>rfl) rfl h
theorem Rdr.bool (ht:P.underlying t=some .bool) (hc:P.cellsOf t=1) (hv:Value.okWide P w reach b0 t v) (h:DataW.Trod enc P w base spare held t v d p) :
  ∃ x:Bool,Con (Env.bare (allK w)) (bv x) v:=by
 obtain ⟨n,rfl⟩:=okWide_bool ht hv
 obtain ⟨x,_,hx⟩:=(rdBool ht hc).one (fun _=>rfl) rfl h
 exact ⟨x,hx⟩
theorem Rdr.frame {fs:Array Field} (hs:P.underlying t=some (.struct fs)) (hC:P.cellsOf t=7) (hB:fieldsB P fs frKinds=true) (hv:Value.okWide P w reach b0 t v) (h:DataW.Trod enc P w base spare held t v d p) :
  ∃ f:Fr,f.wf∧Con (Env.bare (allK w)) (fv f) v:=
 (rdFr hs hC hB).agg (fun _=>⟨_,rfl⟩) hs hv h
end
end Go.Vai

/- The cells' layer: what its functions compute. -/
namespace Go.Vai
open Go.RowKit Go.Proofs
set_option maxHeartbeats 4000000
set_option maxRecDepth 100000
theorem is_pure (m:List Int) (i:Int):PureC Tryz.prog 31 [ms m,iv i] (bv (isIn m i)):=by
 refine pure_sub ok0 0 Tryz.func31 rfl (by show 2≤13; omega) ?_
 simp only [Tryz.f31,ms,iv,bv,ctx_T,T30,List.length_map,ev1,ev2,undef,↓guardE_tt,↓guardE_ft,resB,cv,stepB,guardB,guardC,dstAt,aopR,one,pre,binR,intOpR,argFrm,evo,lkp,lenOf,frz,frz1,frzA,subA,subB,sub1,Nat.reduceAdd,Nat.reduceLT,eq_self]
 refine ⟨fun h=>?_,fun h=>?_⟩ <;> simp at h <;> simp [isIn] <;> omega
def rows1:List Row:=[(31,rMI fun m i=>bv (isIn m i))]
theorem ok1:(ctx Tryz.prog rows1).ok:=rows_ok fun p h=>by
 simp only [rows1,List.mem_cons,List.not_mem_nil,or_false] at h
 rcases h with rfl
 exact ok_MI (enters_of Tryz.func31 (by decide) rfl) fun m i _=>is_pure m i
theorem load_pure (m:List Int) (i:Int) (hm:m.length≤1000):PureC Tryz.prog 12 [ms m,iv i] (u (mLoad m i)):=by
 refine pure_sub ok1 1 Tryz.func12 rfl (by show 2≤13; omega) ?_
 cases hin:isIn m i with
 | false=>
  simp only [Tryz.f12,ms,iv,bv,u,ctx_T,ctx_C,tabC,rows1,List.lookup_cons,Option.bind_some,rMI_eq,hm,hin,mLoad,ev1,ev2,undef,↓condE_t,resB,cv,stepB,aopR,one,unR,argFrm,evo,lkp,frz,frz1,frzA,subA,subB,sub1,Nat.reduceAdd,Nat.reduceLT,eq_self]
 | true=>
  obtain ⟨h1,h2,h3⟩:=isIn_true hin
  simp only [Tryz.f12,ms,iv,bv,u,ctx_T,ctx_C,T40,T30,tabC,rows1,List.lookup_cons,Option.bind_some,rMI_eq,hm,hin,h1,h2,h3,getD_u,mLoad,List.length_map,ev1,ev2,implies_true,undef,↓condE_f,resB,cv,stepB,aopR,one,pre,unR,argFrm,evo,lkp,ofCells,TK.agg,frz,frz1,frzA,subA,subB,sub1,Nat.reduceAdd,Nat.reduceLT,Nat.reduceLeDiff,reduceCtorEq,eq_self,ne_eq]
theorem store_pure (m:List Int) (i v:Int) (hm:m.length≤1000):PureC Tryz.prog 90 [ms m,iv i,u v] (ms (mStore m i v)):=by
 refine pure_sub ok1 4 Tryz.func90 rfl (by show 3≤_; decide) ?_
 have hb:m.length * 8≤140737488355328:=by omega
 cases hin:isIn m i with
 | false=>
  simp only [Tryz.f90,Tryz.func129,Tryz.f129,Tryz.func79,Tryz.f79,inl,ms,iv,bv,u,ctx_T,ctx_C,ctx_P,T40,T30,tabC,rows1,List.lookup_cons,List.lookup_nil,Option.bind_some,Option.bind_none,rMI_eq,hm,hb,hin, List.length_map,take_u,hf_u,mStore,String.reduceBEq,ev1,ev2,undef,↓condE_t,frzDeep,deepArgs,deepArg,resB,cv,stepB,aopR,one,pre,binR,unR,argFrm,evo,lkp,hlk,asLst,idOf,srcOk,setElems,isEq,AV.wr,AV.ok1,frz,frz1,frzA,frzArg,frzArgs,subA,subB,sub1,List.replicate,Nat.reduceAdd,Nat.reduceMul,Nat.reduceLT,Nat.reduceLeDiff,Nat.reduceBEq,reduceCtorEq,eq_self,ne_eq]
  simp
 | true=>
  obtain ⟨h1,h2,h3⟩:=isIn_true hin
  have hn:=ne_u h3
  simp only [Tryz.f90,Tryz.func129,Tryz.f129,Tryz.func79,Tryz.f79,Tryz.func130,Tryz.f130,inl,ms,iv,bv,u,ctx_T,ctx_C,ctx_P,T40,T30,tabC,rows1,List.lookup_cons,List.lookup_nil,Option.bind_some,Option.bind_none,rMI_eq,hm,hb,hin,h1,h2,h3,hn,getD_u,take_us,List.length_map,List.length_set,set_u,hf_u,mStore,String.reduceBEq,ev1,ev2,implies_true,undef,dynCall,↓condE_f,frzDeep,deepArgs,deepArg,resB,cv,stepB,stepE,aopR,one,pre,binR,unR,argFrm,evo,lkp,hlk,asLst,idOf,srcOk,ofCells,setCells,setElems,isEq,AV.wr,AV.ok1,TK.agg,frz,frz1,frzA,frzArg,frzArgs,subA,subB,sub1,List.replicate,Nat.reduceAdd,Nat.reduceMul,Nat.reduceLT,Nat.reduceLeDiff,Nat.reduceBEq,reduceCtorEq,eq_self,ne_eq]
  exact Nat.le_refl _
theorem add_pure (m:List Int) (i v:Int) (hm:m.length≤1000):PureC Tryz.prog 124 [ms m,iv i,u v] (.tup [ms (mAdd m i v),u (mLoad m i)]):=by
 refine pure_sub ok1 4 Tryz.func124 rfl (by show 3≤_; decide) ?_
 have hb:m.length * 8≤140737488355328:=by omega
 cases hin:isIn m i with
 | false=>
  simp only [Tryz.f124,Tryz.func129,Tryz.f129,Tryz.func79,Tryz.f79,inl,ms,iv,bv,u,ctx_T,ctx_C,ctx_P,T40,T30,tabC,rows1,List.lookup_cons,List.lookup_nil,Option.bind_some,Option.bind_none,rMI_eq,hm,hb,hin,mAdd,mLoad, List.length_map,take_u,hf_u,mStore,String.reduceBEq,ev1,ev2,undef,↓condE_t,frzDeep,deepArgs,deepArg,resB,cv,stepB,aopR,one,pre,binR,unR,argFrm,evo,lkp,hlk,asLst,idOf,srcOk,setElems,isEq,AV.wr,AV.ok1,frz,frz1,frzt,frzA,frzArg,frzArgs,subA,subB,subM,sub1,List.replicate,Nat.reduceAdd,Nat.reduceMul,Nat.reduceLT,Nat.reduceLeDiff,Nat.reduceBEq,reduceCtorEq,eq_self,ne_eq]
  simp
 | true=>
  obtain ⟨h1,h2,h3⟩:=isIn_true hin
  have hn:=ne_u h3
  simp only [Tryz.f124,Tryz.func129,Tryz.f129,Tryz.func79,Tryz.f79,Tryz.func152,Tryz.f152,inl,ms,iv,bv,u,ctx_T,ctx_C,ctx_P,T40,T30,tabC,rows1,List.lookup_cons,List.lookup_nil,Option.bind_some,Option.bind_none,rMI_eq,hm,hb,hin,mAdd,mLoad,h1,h2,h3,hn,getD_u,take_us,List.length_map,List.length_set,set_u,hf_u,mStore,String.reduceBEq,ev1,ev2,implies_true,undef,dynCall,↓condE_f,frzDeep,deepArgs,deepArg,resB,cv,stepB,stepE,aopR,one,pre,binR,intOpR,unR,argFrm,evo,lkp,hlk,asLst,idOf,srcOk,ofCells,setCells,setElems,isEq,AV.wr,AV.ok1,TK.agg,frz,frz1,frzt,frzA,frzArg,frzArgs,subA,subB,subM,sub1,List.replicate,Nat.reduceAdd,Nat.reduceMul,Nat.reduceLT,Nat.reduceLeDiff,Nat.reduceBEq,reduceCtorEq,eq_self,ne_eq]
  exact ⟨Nat.le_refl _,rfl⟩
theorem cas_pure (m:List Int) (i v w:Int) (hm:m.length≤1000):PureC Tryz.prog 167 [ms m,iv i,u v,u w] (.tup [ms (mCas m i v w),bv (mCasB m i v)]):=by
 refine pure_sub ok1 4 Tryz.func167 rfl (by show 4≤_; decide) ?_
 have hb:m.length * 8≤140737488355328:=by omega
 cases hin:isIn m i with
 | false=>
  simp only [Tryz.f167,Tryz.func129,Tryz.f129,Tryz.func79,Tryz.f79,inl,ms,iv,bv,u,ctx_T,ctx_C,ctx_P,T4,T40,T30,tabC,rows1,List.lookup_cons,List.lookup_nil,Option.bind_some,Option.bind_none,rMI_eq,hm,hb,hin,mCas,mCasB,mLoad, List.length_map,take_u,hf_u,String.reduceBEq,ev1,ev2,implies_true,undef,dynCall,↓condE_t,frzDeep,deepArgs,deepArg,resB,cv,stepB,stepE,aopR,one,pre,binR,unR,argFrm,evo,lkp,hlk,asLst,idOf,srcOk,ofVal,ofCells,setCells,setElems,isEq,AV.wr,AV.ok1,TK.agg,frz,frz1,frzt,frzA,frzArg,frzArgs,subA,subB,subM,sub1,accOf,List.replicate,Nat.reduceAdd,Nat.reduceMul,Nat.reduceLT,Nat.reduceLeDiff,Nat.reduceBEq,reduceCtorEq,eq_self,ne_eq]
  simp
 | true=>
  obtain ⟨h1,h2,h3⟩:=isIn_true hin
  have hn:=ne_u h3
  simp only [Tryz.f167,Tryz.func129,Tryz.f129,Tryz.func79,Tryz.f79,Tryz.func194,Tryz.f194,inl,ms,iv,bv,u,ctx_T,ctx_C,ctx_P,T4,T40,T30,tabC,rows1,List.lookup_cons,List.lookup_nil,Option.bind_some,Option.bind_none,rMI_eq,hm,hb,hin,mCas,mCasB,mLoad,h1,h2,h3,hn,getD_u,take_us,List.length_map,List.length_set,set_u,hf_u,String.reduceBEq,ev1,ev2,implies_true,undef,dynCall,↓condE_f,frzDeep,deepArgs,deepArg,resB,cv,stepB,stepE,aopR,one,pre,binR,intOpR,unR,argFrm,evo,lkp,hlk,asLst,idOf,srcOk,ofVal,ofCells,setCells,setElems,isEq,AV.wr,AV.ok1,TK.agg,frz,frz1,frzt,frzA,frzArg,frzArgs,subA,subB,subM,sub1,accOf,List.replicate,Nat.reduceAdd,Nat.reduceMul,Nat.reduceLT,Nat.reduceLeDiff,Nat.reduceBEq,reduceCtorEq,eq_self,ne_eq]
  refine ⟨fun h=>?_,fun h=>?_⟩
  ·have h':¬ m.getD i.toNat 0=v:=by simpa using h
   have e:(m.getD i.toNat 0 == v)=false:=by simpa using h
   rw [e,set_self h3]
   exact ⟨Nat.le_refl _,by simp,rfl⟩
  ·have h':m.getD i.toNat 0=v:=by simpa using h
   simp only [h',beq_self_eq_true,if_true,Nat.le_refl,and_true]
end Go.Vai

/- Two lists of cells are the same, or not; the document's answers. -/
namespace Go.Vai
open Go.RowKit Go.Proofs
set_option maxHeartbeats 4000000
set_option maxRecDepth 100000
end Go.Vai

/- Layouts: where cells are; and how far one number lies behind another one. -/
namespace Go.Vai
open Go.RowKit Go.Proofs
set_option maxHeartbeats 4000000
set_option maxRecDepth 100000
def zeros (n:Nat):List Int:=List.replicate n 0
theorem zeros_len (n:Nat):(zeros n).length=n:=List.length_replicate
theorem zeros_succ (n:Nat):zeros n ++ [0]=zeros (n + 1):=(List.replicate_succ').symm
theorem hlk_hd (id:Nat) (x:Option Blk) (r:Hp):hlk ((id,x) :: r) id=x:=by rw [hlk_cons,if_pos rfl]
theorem opt_if {p:Prop} [Decidable p] {a r:AV} (e:(if p then some a else none)=some r):p∧a=r:=by
 by_cases h:p
 ·rw [if_pos h] at e; exact ⟨h,Option.some.inj e⟩
 ·rw [if_neg h] at e; cases e
structure Cf where
 w:Int
 d:Int
 i:Int
 spin:Int
 deriving DecidableEq
def cv' (c:Cf):AV:=.agg [iv c.w,iv c.d,iv c.i,iv c.spin]
def dC:AV→Option Cf
 | .agg [.v (.int .i64 a),.v (.int .i64 b),.v (.int .i64 c),.v (.int .i64 d)]=>some ⟨a,b,c,d⟩
 | _=>none
theorem dC_some {a:AV} {c:Cf} (h:dC a=some c):sub1 a (cv' c):=by
 unfold dC at h
 split at h
 ·cases h; rfl
 ·cases h
theorem hfree_cv (c:Cf):HFree (cv' c):=hfree_agg fun a ha=>by
 simp only [iv,List.mem_cons,List.not_mem_nil,or_false] at ha
 rcases ha with rfl | rfl | rfl | rfl <;> exact hfree_v _
theorem hfree_cf (a b c d:Int):HFree (.agg [.v (.int .i64 a),.v (.int .i64 b),.v (.int .i64 c),.v (.int .i64 d)])=True:=eq_true (hfree_cv ⟨a,b,c,d⟩)
def shC:Sh Cf:=⟨dC,cv',fun _ _=>dC_some,hfree_cv⟩
theorem shC_dec:shC.dec=dC:=rfl
theorem cf_eta (c:Cf):(⟨c.w,c.d,c.i,c.spin⟩:Cf)=c:=rfl
def mayC (c:Cf):Bool:=decide (1≤c.w∧c.w≤8∧(c.d=1∨c.d=2∨c.d=4∨c.d=8∨c.d=16)∧1≤c.i∧c.i≤16∧0≤c.spin∧c.spin≤4)
def lBase (c:Cf) (w:Int):Int:=6 + 2 * c.i + w * (3 + c.d)
def lSize (c:Cf):Int:=if mayC c then lBase c c.w else 0
def lHas (c:Cf) (w:Int):Bool:=mayC c && decide (0≤w∧w < c.w)
def lTop (c:Cf) (w:Int):Int:=if lHas c w then lBase c w else -1
def lBottom (c:Cf) (w:Int):Int:=if lHas c w then lBase c w + 1 else -1
def lSlot (c:Cf) (w x:Int):Int:=if lHas c w then lBase c w + 3 + x % 18446744073709551616 % c.d else -1
def far (a b:Int):Int:=IntKind.wrap .i64 (a - b)
theorem wrapU_eq (x:Int):wrapU x=x % 18446744073709551616:=by unfold wrapU; rw [IntKind.wrap_u64]
theorem wrapU_in (x:Int):0≤wrapU x∧wrapU x < 18446744073709551616:=by rw [wrapU_eq]; omega
theorem mayC_iff {c:Cf}:mayC c=true ↔ (1≤c.w∧c.w≤8∧(c.d=1∨c.d=2∨c.d=4∨c.d=8∨c.d=16)∧1≤c.i∧c.i≤16∧0≤c.spin∧c.spin≤4):=by simp [mayC]
def twoB (d:Int):Bool:=IntKind.wrap .i64 (BitVec.ofInt IntKind.i64.bits d &&& BitVec.ofInt IntKind.i64.bits (IntKind.wrap .i64 (d - 1))).toNat == 0
theorem twoB_eq {d:Int} (h:1≤d∧d≤16):twoB d=decide (d=1∨d=2∨d=4∨d=8∨d=16):=by
 have:d=1∨d=2∨d=3∨d=4∨d=5∨d=6∨d=7∨d=8∨d=9∨d=10∨d=11∨d=12∨d=13∨d=14∨d=15∨d=16:=by omega
 rcases this with rfl | rfl | rfl | rfl | rfl | rfl | rfl | rfl | rfl | rfl | rfl | rfl | rfl | rfl | rfl | rfl <;> decide
end Go.Vai

/- Deques in cells, by numbers and lists alone: what is where, and what a step does. -/
namespace Go.Vai
open Go.RowKit
def cfKinds:List IntKind:=[.i64,.i64,.i64,.i64]
def Cf.wf (c:Cf):Prop:=InI c.w∧InI c.d∧InI c.i∧InI c.spin
def rdCf {P:Program} {t:TypeId} {fs:Array Field} (ht:P.underlying t=some (.struct fs)) (hC:P.cellsOf t=4) (hB:fieldsB P fs cfKinds=true):Rdr P t Cf where
 n:=4
 av:=cv'
 wf:=Cf.wf
 size:=hC
 len:=fun _=>rfl
 rd:=fun enc w base spare held fuel cs d h=>by
  obtain ⟨hl,hz⟩:=struct_ints ht (ks:=cfKinds) hC hB h
  obtain ⟨z0,e0,w0⟩:=hz 0 .i64 rfl
  obtain ⟨z1,e1,w1⟩:=hz 1 .i64 rfl
  obtain ⟨z2,e2,w2⟩:=hz 2 .i64 rfl
  obtain ⟨z3,e3,w3⟩:=hz 3 .i64 rfl
  refine ⟨⟨z0,z1,z2,z3⟩,⟨in_i w0,in_i w1,in_i w2,in_i w3⟩,hl,fun j a c ha hcj=>?_⟩
  match j with
  | 0=>rw [e0] at hcj; cases hcj; cases ha; exact ⟨rfl,.v _⟩
  | 1=>rw [e1] at hcj; cases hcj; cases ha; exact ⟨rfl,.v _⟩
  | 2=>rw [e2] at hcj; cases hcj; cases ha; exact ⟨rfl,.v _⟩
  | 3=>rw [e3] at hcj; cases hcj; cases ha; exact ⟨rfl,.v _⟩
  | j + 4=>cases ha
theorem Rdr.conf {P:Program} {w:World} {t:TypeId} {H:Type} {enc:TypeId × Value→H} {reach:Reach} {b0 base:Nat} {spare:Nat→Bool} {held:Bool} {v:Value} {d:DataW H} {p:List MemPlace} {fs:Array Field}
  (hs:P.underlying t=some (.struct fs)) (hC:P.cellsOf t=4) (hB:fieldsB P fs cfKinds=true) (hv:Value.okWide P w reach b0 t v) (h:DataW.Trod enc P w base spare held t v d p) :
  ∃ c:Cf,c.wf∧Con (Env.bare (allK w)) (cv' c) v:=
 (rdCf hs hC hB).agg (fun _=>⟨_,rfl⟩) hs hv h
theorem store_out {m:List Int} {i:Int} (h:isIn m i=false) (v:Int):mStore m i v=m:=by simp [mStore,h]
theorem load_out {m:List Int} {i:Int} (h:isIn m i=false):mLoad m i=0:=by simp [mLoad,h]
theorem load_in {m:List Int} {i:Int} (h:isIn m i=true):mLoad m i=m.getD i.toNat 0:=by simp [mLoad,h]
theorem in_store (m:List Int) (i v k:Int):isIn (mStore m i v) k=isIn m k:=by simp [isIn,len_store]
theorem load_store {m:List Int} {i:Int} (h:isIn m i=true) (v:Int):mLoad (mStore m i v) i=v:=by
 have h':isIn (mStore m i v) i=true:=by rw [in_store]; exact h
 obtain ⟨_,_,h3⟩:=isIn_true h
 rw [load_in h']
 simp [mStore,h,List.getD_eq_getElem?_getD,h3]
theorem load_other {m:List Int} {i k:Int} (h:i≠k) (v:Int):mLoad (mStore m i v) k=mLoad m k:=by
 unfold mLoad
 rw [in_store]
 cases hk:isIn m k with
 | false=>rfl
 | true=>
  simp only [if_true]
  unfold mStore
  cases hi:isIn m i with
  | false=>rfl
  | true=>
   obtain ⟨a,_,_⟩:=isIn_true hk
   obtain ⟨b,_,_⟩:=isIn_true hi
   have:i.toNat≠k.toNat:=by omega
   simp [List.getD_eq_getElem?_getD,this]
theorem cas_store {m:List Int} {i v:Int} (h:mCasB m i v=true) (w:Int):mCas m i v w=mStore m i w:=by
 simp only [mCas,h,if_true]
 have:isIn m i=true:=by simp [mCasB] at h; exact h.1
 simp [mStore,this]
theorem cas_not {m:List Int} {i v:Int} (h:mCasB m i v=false) (w:Int):mCas m i v w=m:=by simp [mCas,h]
theorem len_cas (m:List Int) (i v w:Int):(mCas m i v w).length=m.length:=by unfold mCas; split <;> simp
def InM (m:List Int):Prop:=∀ x∈m,InU x
theorem load_u {m:List Int} (h:InM m) (i:Int):InU (mLoad m i):=by
 unfold mLoad
 split
 ·rename_i hi
  obtain ⟨_,_,h3⟩:=isIn_true hi
  rw [List.getD_eq_getElem?_getD,List.getElem?_eq_getElem h3]
  exact h _ (List.getElem_mem h3)
 ·unfold InU; omega
theorem store_u {m:List Int} (h:InM m) {i v:Int} (hv:InU v):InM (mStore m i v):=by
 unfold mStore
 split
 ·intro x hx
  rcases List.mem_or_eq_of_mem_set hx with h' | rfl
  ·exact h x h'
  ·exact hv
 ·exact h
theorem wrapU_u (x:Int):InU (wrapU x):=wrapU_in x
structure Lay (c:Cf) (m:List Int) (w:Int):Prop where
 may:mayC c=true
 len:(m.length:Int)=lSize c
 lo:0≤w
 hi:w < c.w
theorem Lay.has {c:Cf} {m:List Int} {w:Int} (h:Lay c m w):lHas c w=true:=by
 simp [lHas,h.may,h.lo,h.hi]
theorem Lay.top {c:Cf} {m:List Int} {w:Int} (h:Lay c m w):lTop c w=lBase c w:=by simp [lTop,h.has]
theorem Lay.bottom {c:Cf} {m:List Int} {w:Int} (h:Lay c m w):lBottom c w=lBase c w + 1:=by simp [lBottom,h.has]
theorem Lay.slot {c:Cf} {m:List Int} {w:Int} (h:Lay c m w) (x:Int):lSlot c w x=lBase c w + 3 + x % 18446744073709551616 % c.d:=by simp [lSlot,h.has]
theorem Lay.store {c:Cf} {m:List Int} {w:Int} (h:Lay c m w) (i v:Int):Lay c (mStore m i v) w:=⟨h.may,by rw [len_store]; exact h.len,h.lo,h.hi⟩
theorem Lay.dpos {c:Cf} {m:List Int} {w:Int} (h:Lay c m w):c.d=1∨c.d=2∨c.d=4∨c.d=8∨c.d=16:=(mayC_iff.1 h.may).2.2.1
theorem Lay.base {c:Cf} {m:List Int} {w:Int} (h:Lay c m w):6≤lBase c w∧lBase c w + 3 + c.d≤m.length:=by
 obtain ⟨h1,h2,h3,h4,h5,h6,h7⟩:=mayC_iff.1 h.may
 have hl:=h.len
 have a1:=h.lo
 have a2:=h.hi
 unfold lSize at hl
 rw [h.may,if_pos rfl] at hl
 unfold lBase at *
 rcases h3 with e | e | e | e | e <;> rw [e] at hl ⊢ <;> omega
theorem Lay.small {c:Cf} {m:List Int} {w:Int} (h:Lay c m w):m.length≤190:=by
 obtain ⟨h1,h2,h3,h4,h5,h6,h7⟩:=mayC_iff.1 h.may
 have hl:=h.len
 unfold lSize at hl
 rw [h.may,if_pos rfl] at hl
 unfold lBase at *
 rcases h3 with e | e | e | e | e <;> rw [e] at hl <;> omega
theorem Lay.in_top {c:Cf} {m:List Int} {w:Int} (h:Lay c m w):isIn m (lTop c w)=true:=by
 have:=h.base
 have hd:=h.dpos
 rw [h.top]; simp [isIn]; omega
theorem Lay.in_bottom {c:Cf} {m:List Int} {w:Int} (h:Lay c m w):isIn m (lBottom c w)=true:=by
 have:=h.base
 have hd:=h.dpos
 rw [h.bottom]; simp [isIn]; omega
theorem Lay.in_slot {c:Cf} {m:List Int} {w:Int} (h:Lay c m w) (x:Int):isIn m (lSlot c w x)=true:=by
 have:=h.base
 rw [h.slot]; simp [isIn]
 rcases h.dpos with e | e | e | e | e <;> rw [e] at this ⊢ <;> omega
theorem Lay.tb {c:Cf} {m:List Int} {w:Int} (h:Lay c m w):lTop c w≠lBottom c w:=by rw [h.top,h.bottom]; omega
theorem Lay.ts {c:Cf} {m:List Int} {w:Int} (h:Lay c m w) (x:Int):lTop c w≠lSlot c w x:=by
 rw [h.top,h.slot]
 rcases h.dpos with e | e | e | e | e <;> rw [e] <;> omega
theorem Lay.bs {c:Cf} {m:List Int} {w:Int} (h:Lay c m w) (x:Int):lBottom c w≠lSlot c w x:=by
 rw [h.bottom,h.slot]
 rcases h.dpos with e | e | e | e | e <;> rw [e] <;> omega
theorem Lay.ss {c:Cf} {m:List Int} {w:Int} (h:Lay c m w) (x y:Int):lSlot c w x=lSlot c w y ↔ x % 18446744073709551616 % c.d=y % 18446744073709551616 % c.d:=by
 rw [h.slot,h.slot]; omega
theorem Lay.apart {c:Cf} {m:List Int} {w k:Int} (h:Lay c m w) (h':Lay c m k) (hne:w≠k):lBase c w + 3 + c.d≤lBase c k∨lBase c k + 3 + c.d≤lBase c w:=by
 unfold lBase
 rcases h.dpos with e | e | e | e | e <;> rw [e] <;> omega
def goes (c:Cf) (m:List Int) (f:Fr) (op pcs:Int):Bool:=mayC c && decide ((m.length:Int)=lSize c∧f.res=0∧0≤f.who∧f.who < c.w∧f.op=op∧0≤f.pc∧f.pc < pcs)
theorem goes_iff {c:Cf} {m:List Int} {f:Fr} {op pcs:Int}:goes c m f op pcs=true ↔ Lay c m f.who∧f.res=0∧f.op=op∧0≤f.pc∧f.pc < pcs:=by
 constructor
 ·intro h
  simp [goes] at h
  exact ⟨⟨h.1,h.2.1,h.2.2.2.1,h.2.2.2.2.1⟩,h.2.2.1,h.2.2.2.2.2⟩
 ·rintro ⟨h,h1,h2,h3,h4⟩
  simp [goes,h.may,h.len,h.lo,h.hi,h1,h2,h3,h4]
def pStep (c:Cf) (m:List Int) (f:Fr):List Int × Fr:=
 if goes c m f 0 4=true then
  if f.pc=0 then (m,⟨f.op,1,f.who,f.val,mLoad m (lBottom c f.who),f.y,f.res⟩)
  else if f.pc=1 then
   if c.d≤wrapU (f.x - mLoad m (lTop c f.who)) then (m,fEnd f 2 f.val) else (m,⟨f.op,2,f.who,f.val,f.x,mLoad m (lTop c f.who),f.res⟩)
  else if f.pc=2 then (mStore m (lSlot c f.who f.x) f.val,⟨f.op,3,f.who,f.val,f.x,f.y,f.res⟩)
  else (mStore m (lBottom c f.who) (wrapU (f.x + 1)),fEnd f 1 f.val)
 else (m,f)
def oStep (c:Cf) (m:List Int) (f:Fr):List Int × Fr:=
 if goes c m f 1 7=true then
  if f.pc=0 then (m,⟨f.op,1,f.who,f.val,wrapU (mLoad m (lBottom c f.who) - 1),f.y,f.res⟩)
  else if f.pc=1 then (mStore m (lBottom c f.who) f.x,⟨f.op,2,f.who,f.val,f.x,f.y,f.res⟩)
  else if f.pc=2 then (m,⟨f.op,if far f.x (mLoad m (lTop c f.who)) < 0 then 6 else 3,f.who,f.val,f.x,mLoad m (lTop c f.who),f.res⟩)
  else if f.pc=3 then
   if f.x≠f.y then (m,fEnd f 1 (mLoad m (lSlot c f.who f.x))) else (m,⟨f.op,4,f.who,mLoad m (lSlot c f.who f.x),f.x,f.y,f.res⟩)
  else if f.pc=4 then (mCas m (lTop c f.who) f.y (wrapU (f.y + 1)),⟨f.op,if mCasB m (lTop c f.who) f.y=true then 5 else 6,f.who,f.val,f.x,f.y,f.res⟩)
  else if f.pc=5 then (mStore m (lBottom c f.who) (wrapU (f.x + 1)),fEnd f 1 f.val)
  else (mStore m (lBottom c f.who) (wrapU (f.x + 1)),fEnd f 3 0)
 else (m,f)
def sStep (c:Cf) (m:List Int) (f:Fr):List Int × Fr:=
 if goes c m f 2 4=true then
  if f.pc=0 then (m,⟨f.op,1,f.who,f.val,f.x,mLoad m (lTop c f.who),f.res⟩)
  else if f.pc=1 then
   if far (mLoad m (lBottom c f.who)) f.y≤0 then (m,fEnd f 3 0) else (m,⟨f.op,2,f.who,f.val,mLoad m (lBottom c f.who),f.y,f.res⟩)
  else if f.pc=2 then (m,⟨f.op,3,f.who,mLoad m (lSlot c f.who f.y),f.x,f.y,f.res⟩)
  else if mCasB m (lTop c f.who) f.y=true then (mCas m (lTop c f.who) f.y (wrapU (f.y + 1)),fEnd f 1 f.val) else (m,fEnd f 4 0)
 else (m,f)
def dNum (c:Cf) (m:List Int) (w:Int):Int:=far (mLoad m (lBottom c w)) (mLoad m (lTop c w))
def dIs (c:Cf) (m:List Int) (w:Int):Bool:=mayC c && decide ((m.length:Int)=lSize c∧0≤w∧w < c.w∧0≤dNum c m w∧dNum c m w≤c.d)
def dAt (c:Cf) (m:List Int) (w:Int) (i:Nat):Int:=mLoad m (lSlot c w (wrapU (mLoad m (lTop c w) + i)))
def dList (c:Cf) (m:List Int) (w:Int):List Int:=if dIs c m w=true then (List.range (dNum c m w).toNat).map (dAt c m w) else []
theorem dIs_iff {c:Cf} {m:List Int} {w:Int}:dIs c m w=true ↔ Lay c m w∧0≤dNum c m w∧dNum c m w≤c.d:=by
 constructor
 ·intro h
  simp [dIs] at h
  exact ⟨⟨h.1,h.2.1,h.2.2.1,h.2.2.2.1⟩,h.2.2.2.2⟩
 ·rintro ⟨h,h1,h2⟩
  simp [dIs,h.may,h.len,h.lo,h.hi,h1,h2]
theorem far_eq {a b:Int} (ha:InU a) (hb:InU b):far a b=(a - b + 9223372036854775808) % 18446744073709551616 - 9223372036854775808:=by
 unfold far; rw [IntKind.wrap_i64]
theorem len_dList (c:Cf) (m:List Int) (w:Int):(dList c m w).length≤16:=by
 unfold dList
 split
 ·rename_i h
  obtain ⟨h1,h2,h3⟩:=dIs_iff.1 h
  have:=h1.dpos
  simp; omega
 ·simp
end Go.Vai

/- Cells: the document's answers, and the contracts as a table. -/
namespace Go.Vai
open Go.RowKit Go.Proofs
set_option maxHeartbeats 4000000
set_option maxRecDepth 100000
def rowsKA:List Row:=[
 (12,row2 shM shI fun m i=>some (u (mLoad m i))),
 (90,row3 shM shI shN fun m i v=>some (ms (mStore m i v))),
 (124,row3 shM shI shN fun m i v=>some (.tup [ms (mAdd m i v),u (mLoad m i)])),
 (167,row4 shM shI shN shN fun m i v w=>some (.tup [ms (mCas m i v w),bv (mCasB m i v)]))]
theorem rowsKA_ok:∀ p∈rowsKA,RowOk Tryz.prog p:=fun p h=>by
 simp only [rowsKA,List.mem_cons,List.not_mem_nil,or_false] at h
 rcases h with rfl | rfl | rfl | rfl
 ·exact ok_row2 (enters_of Tryz.func12 (by decide) rfl) fun m i r g _ e=>by cases e; exact load_pure m i (shM_got g)
 ·exact ok_row3 (enters_of Tryz.func90 (by decide) rfl) fun m i v r g _ _ e=>by cases e; exact store_pure m i v (shM_got g)
 ·exact ok_row3 (enters_of Tryz.func124 (by decide) rfl) fun m i v r g _ _ e=>by cases e; exact add_pure m i v (shM_got g)
 ·exact ok_row4 (enters_of Tryz.func167 (by decide) rfl) fun m i v w r g _ _ _ e=>by cases e; exact cas_pure m i v w (shM_got g)
def rowsK:List Row:=[] ++ rowsKA
theorem rowsK_ok:∀ p∈rowsK,RowOk Tryz.prog p:=fun p h=>by
 simp only [rowsK,List.mem_append,List.not_mem_nil,false_or] at h
 rcases h with h
 ·exact rowsKA_ok p h
end Go.Vai

/- Layouts: what the functions of the layers 'lay' and 'word' compute, and the document's. -/
namespace Go.Vai
open Go.RowKit Go.Proofs
set_option maxHeartbeats 4000000
set_option maxRecDepth 100000
theorem wrap_uu (x:Int):IntKind.wrap .i64 (IntKind.wrap .u64 x)=IntKind.wrap .i64 x:=by
 rw [IntKind.wrap_i64,IntKind.wrap_u64,IntKind.wrap_i64]; omega
theorem far_pure (a b:Int):PureC Tryz.prog 70 [u a,u b] (iv (far a b)):=by
 refine pure_sub ok0 1 Tryz.func70 rfl (by show 2≤_; decide) ?_
 simp only [Tryz.f70,far,wrap_uu,iv,u,ctx_T,T3,T40,ev1,ev2,undef,resB,cv,stepB,aopR,one,pre,binR,intOpR,argFrm,evo,lkp,frz,frz1,frzA,subA,subB,sub1,Nat.reduceAdd,Nat.reduceLT,reduceCtorEq,eq_self,ne_eq]
def rowsLA:List Row:=[]
theorem rowsLA_ok:∀ p∈rowsLA,RowOk Tryz.prog p:=fun p h=>by
 cases h
theorem okLA:(ctx Tryz.prog rowsLA).ok:=rows_ok rowsLA_ok
theorem LA_all:tabC rowsLA 56=fun _=>none:=rfl
theorem may_pure (c:Cf):PureC Tryz.prog 28 [cv' c] (bv (mayC c)):=by
 refine pure_sub okLA 1 Tryz.func28 rfl (by show 1≤_; decide) ?_
 have key:mayC c=(decide (c.w ≥ 1) && decide (c.w≤8) && (decide (c.d ≥ 1) && decide (c.d≤16)) && twoB c.d && (decide (c.i ≥ 1) && decide (c.i≤16)) && (decide (c.spin ≥ 0) && decide (c.spin≤4))):=by
  by_cases hd:1≤c.d∧c.d≤16
  ·rw [twoB_eq hd,Bool.eq_iff_iff,mayC_iff]
   simp only [Bool.and_eq_true,decide_eq_true_eq]
   omega
  ·rw [Bool.eq_iff_iff,mayC_iff]
   simp only [Bool.and_eq_true,decide_eq_true_eq]
   constructor
   ·intro h; omega
   ·intro h; omega
 have kt:(IntKind.wrap .i64 (BitVec.ofInt IntKind.i64.bits c.d &&& BitVec.ofInt IntKind.i64.bits (IntKind.wrap .i64 (c.d - 1))).toNat == 0)=twoB c.d:=rfl
 rw [key]
 generalize twoB c.d=b at *
 simp only [Tryz.f28,Tryz.func56,Tryz.f56,inl,LA_all,kt,cv',T23,iv,bv,ctx_T,ctx_C,ctx_P,T3,String.reduceBEq,ev1,ev2,implies_true,undef,↓guardE_tt,↓guardE_ft,frzDeep,deepArgs,deepArg,resB,cv,stepB,guardB,guardC,dstAt,aopR,one,pre,binR,intOpR,argFrm,evo,lkp,hlk,ofCells,AV.wr,AV.ok1,TK.agg,frz,frz1,frzA,frzArg,frzArgs,subA,subB,sub1,Nat.reduceAdd,Nat.reduceLT,Nat.reduceLeDiff,reduceCtorEq,eq_self,ne_eq]
 clear key kt
 repeat' first | apply And.intro | intro _
 all_goals first | rfl | (simp_all; done) | (simp_all; intros; omega) | (simp_all; omega)
structure Base (c:Cf) (w:Int):Prop where
 e1:IntKind.wrap .i64 (2 * c.i)=2 * c.i
 e2:IntKind.wrap .i64 (6 + 2 * c.i)=6 + 2 * c.i
 e3:IntKind.wrap .i64 (3 + c.d)=3 + c.d
 e4:IntKind.wrap .i64 (w * (3 + c.d))=w * (3 + c.d)
 e5:IntKind.wrap .i64 (6 + 2 * c.i + w * (3 + c.d))=lBase c w
 e6:6≤lBase c w∧lBase c w≤1000
theorem base_ok {c:Cf} {w:Int} (h:mayC c=true) (h0:0≤w) (h1:w≤8):Base c w:=by
 obtain ⟨a1,a2,a3,a4,a5,a6,a7⟩:=mayC_iff.1 h
 have hb:6≤lBase c w∧lBase c w≤1000∧0≤w * (3 + c.d)∧w * (3 + c.d)≤200:=by
  unfold lBase
  rcases a3 with e | e | e | e | e <;> rw [e] <;> omega
 refine ⟨wrap_i (by omega) (by omega),wrap_i (by omega) (by omega),wrap_i (by omega) (by omega),wrap_i (by omega) (by omega),?_,by omega⟩
 unfold lBase at *
 exact wrap_i (by omega) (by omega)
theorem base_pure (c:Cf) (w:Int) (h:mayC c=true) (h0:0≤w) (h1:w≤8):PureC Tryz.prog 34 [cv' c,iv w] (iv (lBase c w)):=by
 refine pure_sub ok0 1 Tryz.func34 rfl (by show 2≤_; decide) ?_
 obtain ⟨e1,e2,e3,e4,e5,_⟩:=base_ok h h0 h1
 simp only [Tryz.f34,e1,e2,e3,e4,e5,cv',T23,iv,ctx_T,T3,ev1,ev2,implies_true,undef,resB,cv,stepB,aopR,one,pre,binR,intOpR,argFrm,evo,lkp,hlk,ofCells,AV.wr,AV.ok1,TK.agg,frz,frz1,frzA,subA,subB,sub1,Nat.reduceAdd,Nat.reduceLT,Nat.reduceLeDiff,reduceCtorEq,eq_self,ne_eq]
def rowsLB:List Row:=[
 (28,row1 shC fun c=>some (bv (mayC c))),
 (70,row2 shN shN fun a b=>some (iv (far a b))),
 (34,row2 shC shI fun c w=>if mayC c=true∧0≤w∧w≤8 then some (iv (lBase c w)) else none)] ++ rowsLA
theorem rowsLB_ok:∀ p∈rowsLB,RowOk Tryz.prog p:=fun p h=>by
 simp only [rowsLB,List.mem_append,List.mem_cons,List.not_mem_nil,or_false,or_assoc] at h
 rcases h with rfl | rfl | rfl | h
 ·exact ok_row1 (enters_of Tryz.func28 (by decide) rfl) fun c r _ e=>by cases e; exact may_pure c
 ·exact ok_row2 (enters_of Tryz.func70 (by decide) rfl) fun a b r _ _ e=>by cases e; exact far_pure a b
 ·exact ok_row2 (enters_of Tryz.func34 (by decide) rfl) fun c w r _ _ e=>by obtain ⟨h,rfl⟩:=opt_if e; exact base_pure c w h.1 h.2.1 h.2.2
 ·exact rowsLA_ok p h
theorem okLB:(ctx Tryz.prog rowsLB).ok:=rows_ok rowsLB_ok
theorem LB_all:tabC rowsLB 28=(row1 shC fun c=>some (bv (mayC c)))∧tabC rowsLB 70=(row2 shN shN fun a b=>some (iv (far a b)))∧tabC rowsLB 34=(row2 shC shI fun c w=>if mayC c=true∧0≤w∧w≤8 then some (iv (lBase c w)) else none)∧tabC rowsLB 32=(fun _=>none)∧tabC rowsLB 96=(fun _=>none)∧tabC rowsLB 97=(fun _=>none)∧tabC rowsLB 98=(fun _=>none)∧tabC rowsLB 56=(fun _=>none):=⟨rfl,rfl,rfl,rfl,rfl,rfl,rfl,rfl⟩
theorem has_iff {c:Cf} {w:Int}:lHas c w=true ↔ mayC c=true∧0≤w∧w < c.w:=by simp [lHas]
theorem size_pure (c:Cf):PureC Tryz.prog 29 [cv' c] (iv (lSize c)):=by
 refine pure_sub okLB 1 Tryz.func29 rfl (by show 1≤_; decide) ?_
 cases h:mayC c with
 | false=>simp only [Tryz.f29,LB_all,lSize,h,cv',cf_eta,shC_dec,dC,T23,row1,iv,bv,ctx_T,ctx_C,Option.bind_some,ev1,ev2,undef,↓condE_t,resB,cv,stepB,aopR,one,pre,unR,argFrm,evo,lkp,hlk,ofCells,AV.wr,AV.ok1,TK.agg,frz,frz1,frzA,subA,subB,sub1,Nat.reduceAdd,Nat.reduceEqDiff,Nat.reduceLT,Nat.reduceLeDiff,reduceCtorEq,eq_self,ne_eq]
 | true=>
  have a:=mayC_iff.1 h
  have h0:0≤c.w:=by omega
  have h1:c.w≤8:=by omega
  simp only [Tryz.f29,LB_all,lSize,h,h0,h1,cv',cf_eta,shC_dec,dC,T23,row1,row2,shI_dec,dI,iv,bv,ctx_T,ctx_C,T3,Option.bind_some,ev1,ev2,implies_true,undef,↓condE_f,resB,cv,stepB,aopR,one,pre,unR,argFrm,evo,lkp,hlk,ofCells,AV.wr,AV.ok1,TK.agg,frz,frz1,frzA,subA,subB,sub1,Nat.reduceAdd,Nat.reduceEqDiff,Nat.reduceLT,Nat.reduceLeDiff,reduceCtorEq,eq_self,ne_eq]
structure At (c:Cf) (w:Int):Prop where
 h0:0≤w
 h1:w≤8
 h2:w ≥ 0
 h3:w≤c.w - 1
 h4:IntKind.wrap .i64 (c.w - 1)=c.w - 1
 h5:w < c.w
 b1:IntKind.wrap .i64 (lBase c w + 1)=lBase c w + 1
 b3:IntKind.wrap .i64 (lBase c w + 3)=lBase c w + 3
 d1:IntKind.wrap .i64 (c.d - 1)=c.d - 1
 d2:IntKind.wrap .u64 (c.d - 1)=c.d - 1
 d3:IntKind.wrap .u64 c.d=c.d
 dd:c.d≠0
theorem at_ok {c:Cf} {w:Int} (h:lHas c w=true):At c w:=by
 obtain ⟨hm,h0,h1⟩:=has_iff.1 h
 obtain ⟨a1,a2,a3,a4,a5,a6,a7⟩:=mayC_iff.1 hm
 obtain ⟨b1,b2⟩:=(base_ok hm h0 (by omega)).e6
 exact ⟨h0,by omega,h0,by omega,wrap_i (by omega) (by omega),h1,wrap_i (by omega) (by omega),wrap_i (by omega) (by omega),wrap_i (by omega) (by omega),
  by rw [IntKind.wrap_u64]; omega,by rw [IntKind.wrap_u64]; omega,by omega⟩
theorem and_mask {d x:Int} (h:d=1∨d=2∨d=4∨d=8∨d=16):IntKind.wrap .u64 (BitVec.ofInt IntKind.u64.bits x &&& BitVec.ofInt IntKind.u64.bits (d - 1)).toNat=x % 18446744073709551616 % d:=by
 have hx:(BitVec.ofInt 64 x).toNat=(x % 18446744073709551616).toNat:=by rw [BitVec.toNat_ofInt]; rfl
 rw [IntKind.wrap_u64]
 show ((BitVec.ofInt 64 x &&& BitVec.ofInt 64 (d - 1)).toNat:Int) % _=_
 rw [BitVec.toNat_and,hx]
 generalize hn:(x % 18446744073709551616).toNat=n
 have hn':x % 18446744073709551616=(n:Int):=by omega
 have hlt:n < 18446744073709551616:=by omega
 rw [hn']
 rcases h with rfl | rfl | rfl | rfl | rfl
 ·show ((n &&& 0:Nat):Int) % _=_; rw [Nat.and_zero]; omega
 ·show ((n &&& (2 ^ 1 - 1):Nat):Int) % _=_; rw [Nat.and_two_pow_sub_one_eq_mod]; omega
 ·show ((n &&& (2 ^ 2 - 1):Nat):Int) % _=_; rw [Nat.and_two_pow_sub_one_eq_mod]; omega
 ·show ((n &&& (2 ^ 3 - 1):Nat):Int) % _=_; rw [Nat.and_two_pow_sub_one_eq_mod]; omega
 ·show ((n &&& (2 ^ 4 - 1):Nat):Int) % _=_; rw [Nat.and_two_pow_sub_one_eq_mod]; omega
end Go.Vai

/- Layouts: where a worker's cells are. -/
namespace Go.Vai
open Go.RowKit Go.Proofs
set_option maxHeartbeats 4000000
set_option maxRecDepth 100000
theorem top_pure (c:Cf) (w:Int):PureC Tryz.prog 71 [cv' c,iv w] (iv (lTop c w)):=by
 refine pure_sub okLB 3 Tryz.func71 rfl (by show 2≤_; decide) ?_
 cases h:lHas c w with
 | false=>
  cases hm:mayC c with
  | false=>simp only [Tryz.f71,Tryz.func32,Tryz.f32,inl,LB_all,lTop,h,hm,cv',cf_eta,shC_dec,dC,T23,row1,iv,bv,ctx_T,ctx_C,ctx_P,T3,Option.bind_some,String.reduceBEq,ev1,ev2,implies_true,undef,↓condE_t,↓guardE_tf,frzDeep,deepArgs,deepArg,resB,cv,stepB,guardB,guardC,dstAt,aopR,one,pre,unR,argFrm,evo,lkp,hlk,ofCells,AV.wr,AV.ok1,TK.agg,frz,frz1,frzA,frzArg,frzArgs,subA,subB,sub1,Nat.reduceAdd,Nat.reduceEqDiff,Nat.reduceLT,Nat.reduceLeDiff,reduceCtorEq,eq_self,ne_eq]
  | true=>
   have a:=mayC_iff.1 hm
   have h4:IntKind.wrap .i64 (c.w - 1)=c.w - 1:=wrap_i (by omega) (by omega)
   by_cases h0:w ≥ 0
   ·have h1:¬ w≤c.w - 1:=by
     intro e
     have:lHas c w=true:=has_iff.2 ⟨hm,h0,by omega⟩
     rw [h] at this; cases this
    simp only [Tryz.f71,Tryz.func32,Tryz.f32,Tryz.func56,Tryz.f56,inl,LB_all,lTop,h,hm,h0,h1,h4,cv',cf_eta,shC_dec,dC,T23,row1,iv,bv,ctx_T,ctx_C,ctx_P,T3,Option.bind_some,String.reduceBEq,ev1,ev2,implies_true,undef,↓condE_t,↓guardE_tt,↓guardE_ff,frzDeep,deepArgs,deepArg,resB,cv,stepB,guardB,guardC,dstAt,aopR,one,pre,binR,intOpR,unR,argFrm,evo,lkp,hlk,ofCells,AV.wr,AV.ok1,TK.agg,frz,frz1,frzA,frzArg,frzArgs,subA,subB,sub1,Nat.reduceAdd,Nat.reduceEqDiff,Nat.reduceLT,Nat.reduceLeDiff,reduceCtorEq,eq_self,ne_eq]
   ·simp only [Tryz.f71,Tryz.func32,Tryz.f32,Tryz.func56,Tryz.f56,inl,LB_all,lTop,h,hm,h0,h4,cv',cf_eta,shC_dec,dC,T23,row1,iv,bv,ctx_T,ctx_C,ctx_P,T3,Option.bind_some,String.reduceBEq,ev1,ev2,implies_true,undef,↓condE_t,↓guardE_ff,↓guardE_ft,frzDeep,deepArgs,deepArg,resB,cv,stepB,guardB,guardC,dstAt,aopR,one,pre,binR,intOpR,unR,argFrm,evo,lkp,hlk,ofCells,AV.wr,AV.ok1,TK.agg,frz,frz1,frzA,frzArg,frzArgs,subA,subB,sub1,Nat.reduceAdd,Nat.reduceEqDiff,Nat.reduceLT,Nat.reduceLeDiff,reduceCtorEq,eq_self,ne_eq]
 | true=>
  obtain ⟨h0,h1,h2,h3,h4,h5,b1,b3,d1,d2,d3,dd⟩:=at_ok h
  have hm:=(has_iff.1 h).1
  simp only [Tryz.f71,Tryz.func32,Tryz.f32,Tryz.func96,Tryz.f96,Tryz.func56,Tryz.f56,inl,LB_all,lTop,h,hm,h0,h1,h3,h4,cv',cf_eta,shC_dec,dC,T23,row1,row2,shI_dec,dI,iv,bv,ctx_T,ctx_C,ctx_P,T3,Option.bind_some,String.reduceBEq,ev1,ev2,implies_true,undef,↓condE_f,↓guardE_tt,↓guardE_ff,frzDeep,deepArgs,deepArg,resB,cv,stepB,guardB,guardC,dstAt,aopR,one,pre,binR,intOpR,unR,argFrm,evo,lkp,hlk,ofCells,AV.wr,AV.ok1,TK.agg,frz,frz1,frzA,frzArg,frzArgs,subA,subB,sub1,Nat.reduceAdd,Nat.reduceEqDiff,Nat.reduceLT,Nat.reduceLeDiff,reduceCtorEq,eq_self,ne_eq]
  all_goals ((repeat' apply And.intro) <;> first | rfl | omega | (show (_:Bool)=true; kernel_rfl) | decide)
theorem bottom_pure (c:Cf) (w:Int):PureC Tryz.prog 72 [cv' c,iv w] (iv (lBottom c w)):=by
 refine pure_sub okLB 3 Tryz.func72 rfl (by show 2≤_; decide) ?_
 cases h:lHas c w with
 | false=>
  cases hm:mayC c with
  | false=>simp only [Tryz.f72,Tryz.func32,Tryz.f32,inl,LB_all,lBottom,h,hm,cv',cf_eta,shC_dec,dC,T23,row1,iv,bv,ctx_T,ctx_C,ctx_P,T3,Option.bind_some,String.reduceBEq,ev1,ev2,implies_true,undef,↓condE_t,↓guardE_tf,frzDeep,deepArgs,deepArg,resB,cv,stepB,guardB,guardC,dstAt,aopR,one,pre,unR,argFrm,evo,lkp,hlk,ofCells,AV.wr,AV.ok1,TK.agg,frz,frz1,frzA,frzArg,frzArgs,subA,subB,sub1,Nat.reduceAdd,Nat.reduceEqDiff,Nat.reduceLT,Nat.reduceLeDiff,reduceCtorEq,eq_self,ne_eq]
  | true=>
   have a:=mayC_iff.1 hm
   have h4:IntKind.wrap .i64 (c.w - 1)=c.w - 1:=wrap_i (by omega) (by omega)
   by_cases h0:w ≥ 0
   ·have h1:¬ w≤c.w - 1:=by
     intro e
     have:lHas c w=true:=has_iff.2 ⟨hm,h0,by omega⟩
     rw [h] at this; cases this
    simp only [Tryz.f72,Tryz.func32,Tryz.f32,Tryz.func56,Tryz.f56,inl,LB_all,lBottom,h,hm,h0,h1,h4,cv',cf_eta,shC_dec,dC,T23,row1,iv,bv,ctx_T,ctx_C,ctx_P,T3,Option.bind_some,String.reduceBEq,ev1,ev2,implies_true,undef,↓condE_t,↓guardE_tt,↓guardE_ff,frzDeep,deepArgs,deepArg,resB,cv,stepB,guardB,guardC,dstAt,aopR,one,pre,binR,intOpR,unR,argFrm,evo,lkp,hlk,ofCells,AV.wr,AV.ok1,TK.agg,frz,frz1,frzA,frzArg,frzArgs,subA,subB,sub1,Nat.reduceAdd,Nat.reduceEqDiff,Nat.reduceLT,Nat.reduceLeDiff,reduceCtorEq,eq_self,ne_eq]
   ·simp only [Tryz.f72,Tryz.func32,Tryz.f32,Tryz.func56,Tryz.f56,inl,LB_all,lBottom,h,hm,h0,h4,cv',cf_eta,shC_dec,dC,T23,row1,iv,bv,ctx_T,ctx_C,ctx_P,T3,Option.bind_some,String.reduceBEq,ev1,ev2,implies_true,undef,↓condE_t,↓guardE_ff,↓guardE_ft,frzDeep,deepArgs,deepArg,resB,cv,stepB,guardB,guardC,dstAt,aopR,one,pre,binR,intOpR,unR,argFrm,evo,lkp,hlk,ofCells,AV.wr,AV.ok1,TK.agg,frz,frz1,frzA,frzArg,frzArgs,subA,subB,sub1,Nat.reduceAdd,Nat.reduceEqDiff,Nat.reduceLT,Nat.reduceLeDiff,reduceCtorEq,eq_self,ne_eq]
 | true=>
  obtain ⟨h0,h1,h2,h3,h4,h5,b1,b3,d1,d2,d3,dd⟩:=at_ok h
  have hm:=(has_iff.1 h).1
  simp only [Tryz.f72,Tryz.func32,Tryz.f32,Tryz.func97,Tryz.f97,Tryz.func56,Tryz.f56,inl,LB_all,lBottom,h,hm,h0,h1,h3,h4,b1,cv',cf_eta,shC_dec,dC,T23,row1,row2,shI_dec,dI,iv,bv,ctx_T,ctx_C,ctx_P,T3,Option.bind_some,String.reduceBEq,ev1,ev2,implies_true,undef,↓condE_f,↓guardE_tt,↓guardE_ff,frzDeep,deepArgs,deepArg,resB,cv,stepB,guardB,guardC,dstAt,aopR,one,pre,binR,intOpR,unR,argFrm,evo,lkp,hlk,ofCells,AV.wr,AV.ok1,TK.agg,frz,frz1,frzA,frzArg,frzArgs,subA,subB,sub1,Nat.reduceAdd,Nat.reduceEqDiff,Nat.reduceLT,Nat.reduceLeDiff,reduceCtorEq,eq_self,ne_eq]
  all_goals ((repeat' apply And.intro) <;> first | rfl | omega | (show (_:Bool)=true; kernel_rfl) | decide)
theorem slot_pure (c:Cf) (w x:Int):PureC Tryz.prog 73 [cv' c,iv w,u x] (iv (lSlot c w x)):=by
 refine pure_sub okLB 3 Tryz.func73 rfl (by show 3≤_; decide) ?_
 cases h:lHas c w with
 | false=>
  cases hm:mayC c with
  | false=>simp only [Tryz.f73,Tryz.func32,Tryz.f32,inl,LB_all,lSlot,h,hm,cv',cf_eta,shC_dec,dC,T23,row1,iv,bv,u,ctx_T,ctx_C,ctx_P,T3,T40,Option.bind_some,String.reduceBEq,ev1,ev2,implies_true,undef,↓condE_t,↓guardE_tf,frzDeep,deepArgs,deepArg,resB,cv,stepB,guardB,guardC,dstAt,aopR,one,pre,unR,argFrm,evo,lkp,hlk,ofCells,AV.wr,AV.ok1,TK.agg,frz,frz1,frzA,frzArg,frzArgs,subA,subB,sub1,Nat.reduceAdd,Nat.reduceEqDiff,Nat.reduceLT,Nat.reduceLeDiff,reduceCtorEq,eq_self,ne_eq]
  | true=>
   have a:=mayC_iff.1 hm
   have h4:IntKind.wrap .i64 (c.w - 1)=c.w - 1:=wrap_i (by omega) (by omega)
   by_cases h0:w ≥ 0
   ·have h1:¬ w≤c.w - 1:=by
     intro e
     have:lHas c w=true:=has_iff.2 ⟨hm,h0,by omega⟩
     rw [h] at this; cases this
    simp only [Tryz.f73,Tryz.func32,Tryz.f32,Tryz.func56,Tryz.f56,inl,LB_all,lSlot,h,hm,h0,h1,h4,cv',cf_eta,shC_dec,dC,T23,row1,iv,bv,u,ctx_T,ctx_C,ctx_P,T3,T40,Option.bind_some,String.reduceBEq,ev1,ev2,implies_true,undef,↓condE_t,↓guardE_tt,↓guardE_ff,frzDeep,deepArgs,deepArg,resB,cv,stepB,guardB,guardC,dstAt,aopR,one,pre,binR,intOpR,unR,argFrm,evo,lkp,hlk,ofCells,AV.wr,AV.ok1,TK.agg,frz,frz1,frzA,frzArg,frzArgs,subA,subB,sub1,Nat.reduceAdd,Nat.reduceEqDiff,Nat.reduceLT,Nat.reduceLeDiff,reduceCtorEq,eq_self,ne_eq]
   ·simp only [Tryz.f73,Tryz.func32,Tryz.f32,Tryz.func56,Tryz.f56,inl,LB_all,lSlot,h,hm,h0,h4,cv',cf_eta,shC_dec,dC,T23,row1,iv,bv,u,ctx_T,ctx_C,ctx_P,T3,T40,Option.bind_some,String.reduceBEq,ev1,ev2,implies_true,undef,↓condE_t,↓guardE_ff,↓guardE_ft,frzDeep,deepArgs,deepArg,resB,cv,stepB,guardB,guardC,dstAt,aopR,one,pre,binR,intOpR,unR,argFrm,evo,lkp,hlk,ofCells,AV.wr,AV.ok1,TK.agg,frz,frz1,frzA,frzArg,frzArgs,subA,subB,sub1,Nat.reduceAdd,Nat.reduceEqDiff,Nat.reduceLT,Nat.reduceLeDiff,reduceCtorEq,eq_self,ne_eq]
 | true=>
  obtain ⟨h0,h1,h2,h3,h4,h5,b1,b3,d1,d2,d3,dd⟩:=at_ok h
  have hm:=(has_iff.1 h).1
  have a:=mayC_iff.1 hm
  have s4:=and_mask (x:=x) a.2.2.1
  have s0:0≤x % 18446744073709551616 % c.d∧x % 18446744073709551616 % c.d < 16:=by rcases a.2.2.1 with e | e | e | e | e <;> rw [e] <;> omega
  have s5:IntKind.wrap .i64 (x % 18446744073709551616 % c.d)=x % 18446744073709551616 % c.d:=wrap_i (by omega) (by omega)
  have s6:IntKind.wrap .i64 (lBase c w + 3 + x % 18446744073709551616 % c.d)=lBase c w + 3 + x % 18446744073709551616 % c.d:=by
   obtain ⟨b1,b2⟩:=(base_ok hm h0 h1).e6
   exact wrap_i (by omega) (by omega)
  simp only [Tryz.f73,Tryz.func32,Tryz.f32,Tryz.func98,Tryz.f98,Tryz.func56,Tryz.f56,inl,LB_all,lSlot,h,hm,h0,h1,h3,h4,b3,d1,d2,s4,s5,s6,cv',cf_eta,shC_dec,dC,T23,row1,row2,shI_dec,dI,iv,bv,u,ctx_T,ctx_C,ctx_P,T3,T40,Option.bind_some,String.reduceBEq,ev1,ev2,implies_true,undef,dynCall,↓condE_f,↓guardE_tt,↓guardE_ff,frzDeep,deepArgs,deepArg,resB,cv,stepB,stepE,callD,tabD,guardB,guardC,dstAt,aopR,one,pre,binR,intOpR,unR,argFrm,evo,lkp,hlk,ofCells,AV.wr,AV.ok1,TK.agg,frz,frz1,frzA,frzArg,frzArgs,subA,subB,sub1,accOf,Nat.reduceAdd,Nat.reduceEqDiff,Nat.reduceLT,Nat.reduceLeDiff,reduceCtorEq,eq_self,ne_eq]
  all_goals ((repeat' apply And.intro) <;> first | rfl | omega | (show (_:Bool)=true; kernel_rfl) | decide)
def rowsLT:List Row:=[
 (29,row1 shC fun c=>some (iv (lSize c))),
 (71,row2 shC shI fun c w=>some (iv (lTop c w))),
 (72,row2 shC shI fun c w=>some (iv (lBottom c w))),
 (73,row3 shC shI shN fun c w x=>some (iv (lSlot c w x)))] ++ rowsLB
theorem rowsLT_ok:∀ p∈rowsLT,RowOk Tryz.prog p:=fun p h=>by
 simp only [rowsLT,List.mem_append,List.mem_cons,List.not_mem_nil,or_false,or_assoc] at h
 rcases h with rfl | rfl | rfl | rfl | h
 ·exact ok_row1 (enters_of Tryz.func29 (by decide) rfl) fun c r _ e=>by cases e; exact size_pure c
 ·exact ok_row2 (enters_of Tryz.func71 (by decide) rfl) fun c w r _ _ e=>by cases e; exact top_pure c w
 ·exact ok_row2 (enters_of Tryz.func72 (by decide) rfl) fun c w r _ _ e=>by cases e; exact bottom_pure c w
 ·exact ok_row3 (enters_of Tryz.func73 (by decide) rfl) fun c w x r _ _ _ e=>by cases e; exact slot_pure c w x
 ·exact rowsLB_ok p h
theorem okLT:(ctx Tryz.prog rowsLT).ok:=rows_ok rowsLT_ok
theorem LT_all:tabC rowsLT 29=(row1 shC fun c=>some (iv (lSize c)))∧tabC rowsLT 71=(row2 shC shI fun c w=>some (iv (lTop c w)))∧tabC rowsLT 72=(row2 shC shI fun c w=>some (iv (lBottom c w)))∧tabC rowsLT 73=(row3 shC shI shN fun c w x=>some (iv (lSlot c w x)))∧tabC rowsLT 28=(row1 shC fun c=>some (bv (mayC c)))∧tabC rowsLT 34=(row2 shC shI fun c w=>if mayC c=true∧0≤w∧w≤8 then some (iv (lBase c w)) else none)∧tabC rowsLT 32=(fun _=>none)∧tabC rowsLT 96=(fun _=>none)∧tabC rowsLT 97=(fun _=>none)∧tabC rowsLT 98=(fun _=>none)∧tabC rowsLT 56=(fun _=>none):=⟨rfl,rfl,rfl,rfl,rfl,rfl,rfl,rfl,rfl,rfl,rfl⟩
theorem new_pure (c:Cf):PureC Tryz.prog 38 [cv' c] (ms (zeros (lSize c).toNat)):=by
 refine pure_sub okLT 1 Tryz.func38 rfl (by show 1≤_; decide) ?_
 simp only [Tryz.f38,LT_all,cv',cf_eta,shC_dec,dC,T23,row1,iv,ms,ctx_T,ctx_C,Option.bind_some,ev1,ev2,undef,cv,stepB,aopR,one,pre,argFrm,evo,lkp,hlk,ofCells,AV.wr,AV.ok1,TK.agg,frz,frz1,frzA,subA,subB,sub1,Nat.reduceAdd,Nat.reduceEqDiff,Nat.reduceLT,Nat.reduceLeDiff,reduceCtorEq,eq_self,ne_eq]
 refine WP.virt 3 40 1 rfl (by decide) ?_
 have hs:0≤lSize c∧lSize c≤1000:=by
  unfold lSize
  split
  ·rename_i hm
   have a:=mayC_iff.1 hm
   have:=(base_ok (w:=c.w) hm (by omega) (by omega)).e6
   omega
  ·omega
 refine WP.loop (fun j:Nat × Nat=>(lSize c).toNat - j.1) (fun j=>j.1≤(lSize c).toNat) (n:=13) (fr:=fun j=>[(6,iv j.1),(5,iv (lSize c)),(3,.arr j.2 0 j.1)])
  (hp:=fun j=>[(j.2,some ⟨false,40,1,(zeros j.1).map u⟩)]) (N:=0) ?_ (0,6) (Nat.zero_le _) rfl (Nat.zero_le _) ⟨rfl,rfl,rfl,trivial⟩ ⟨rfl,trivial⟩
 rintro ⟨i,id⟩ nx h4 _ hid
 dsimp only at h4 hid ⊢
 have n1:id < nx:=hid id _ (hlk_hd ..)
 refine WP.of okLT 1 (by rfl) ?_
 by_cases hi:i < (lSize c).toNat
 ·have hz:(i:Int) < lSize c:=by omega
  have w:IntKind.wrap .i64 ((i:Int) + 1)=((i + 1:Nat):Int):=by rw [wrap_i (by omega) (by omega)]; omega
  have e1:((zeros i).map u).take i=(zeros i).map u:=List.take_of_length_le (by simp [zeros_len])
  have hb:(i + 1) * 8≤140737488355328:=by omega
  have hle:i≤i:=Nat.le_refl _
  simp only [hz,w,e1,hb,hle,n1,snoc_u,zeros_succ,zeros_len,nb_self,nb_lt,Nat.add_assoc,T30,iv,ctx_T,T40,List.length_map,ev1,ev2,undef,↓condE_t,cv,stepB,aopR,one,pre,binR,intOpR,evo,lkp,hlk,asLst,idOf,srcOk,ofVal,setElems,AV.wr,AV.ok1,sub1,kp,kh,List.replicate,Nat.reduceAdd,Nat.reduceMul,Nat.reduceLT,Nat.reduceLeDiff,reduceCtorEq,eq_self,ne_eq]
  exact ⟨(i + 1,nx + 3),by dsimp only; omega,by dsimp only; omega,⟨rfl,rfl⟩,by simp only [nb_self]⟩
 ·have e:i=(lSize c).toNat:=by omega
  have hz:¬ (i:Int) < lSize c:=by omega
  subst e
  have hle:(lSize c).toNat≤(lSize c).toNat:=Nat.le_refl _
  have e1:((zeros (lSize c).toNat).map u).take (lSize c).toNat=(zeros (lSize c).toNat).map u:=List.take_of_length_le (by simp [zeros_len])
  simp only [hz,hle,e1,zeros_len,hf_u,Nat.add_zero,nb_self,Nat.add_assoc,iv,List.length_map,ev1,ev2,undef,↓condE_f,resB,cv,stepB,aopR,one,pre,binR,intOpR,evo,lkp,hlk,Nat.reduceAdd,Nat.reduceLT,eq_self]
end Go.Vai

/- What a call does at once. -/
namespace Go.Vai
open Go.RowKit Go.Proofs
set_option maxHeartbeats 4000000
set_option maxRecDepth 100000
theorem hfree_fr (a b c d e g h:Int):HFree (.agg [.v (.int .i64 a),.v (.int .i64 b),.v (.int .i64 c),.v (.int .u64 d),.v (.int .u64 e),.v (.int .u64 g),.v (.int .i64 h)])=True:=eq_true (hfree_fv ⟨a,b,c,d,e,g,h⟩)
section
variable {l : List Int} {room : Int} {op pc who val x y res : Int}
end
def ov (x:List Int × Fr):AV:=.tup [ms x.1,fv x.2]
end Go.Vai

/- Calls: the document's answers, and the layer's contracts as a table. -/
namespace Go.Vai
open Go.RowKit Go.Proofs
set_option maxHeartbeats 4000000
set_option maxRecDepth 100000
def rowsG:List Row:=[] ++ rowsF
theorem rowsG_ok:∀ p∈rowsG,RowOk Tryz.prog p:=fun p h=>by
 simp only [rowsG,List.mem_append,List.not_mem_nil,false_or] at h
 rcases h with h
 ·exact rowsF_ok p h
end Go.Vai

/- Deques by lists: a push, a pop, and a steal, alone. -/
namespace Go.Vai
open Go.RowKit
theorem len_pStep (c:Cf) (m:List Int) (f:Fr):(pStep c m f).1.length=m.length:=by
 unfold pStep; repeat' split
 all_goals first | rfl | exact len_store ..
theorem len_oStep (c:Cf) (m:List Int) (f:Fr):(oStep c m f).1.length=m.length:=by
 unfold oStep; repeat' split
 all_goals first | rfl | exact len_store .. | exact len_cas ..
theorem len_sStep (c:Cf) (m:List Int) (f:Fr):(sStep c m f).1.length=m.length:=by
 unfold sStep; repeat' split
 all_goals first | rfl | exact len_store .. | exact len_cas ..
theorem pStep_no {c:Cf} {m:List Int} {f:Fr} (h:goes c m f 0 4=false):pStep c m f=(m,f):=by simp [pStep,h]
theorem oStep_no {c:Cf} {m:List Int} {f:Fr} (h:goes c m f 1 7=false):oStep c m f=(m,f):=by simp [oStep,h]
theorem sStep_no {c:Cf} {m:List Int} {f:Fr} (h:goes c m f 2 4=false):sStep c m f=(m,f):=by simp [sStep,h]
def dRow (c:Cf) (m:List Int) (w t:Int) (n:Nat):List Int:=(List.range n).map fun (i:Nat)=>mLoad m (lSlot c w (wrapU (t + i)))
theorem dList_eq {c:Cf} {m:List Int} {w:Int} (h:dIs c m w=true):dList c m w=dRow c m w (mLoad m (lTop c w)) (dNum c m w).toNat:=by
 unfold dList; rw [if_pos h]; rfl
theorem dRow_len (c:Cf) (m:List Int) (w t:Int) (n:Nat):(dRow c m w t n).length=n:=by simp [dRow]
theorem dRow_succ (c:Cf) (m:List Int) (w t:Int) (n:Nat):dRow c m w t (n + 1)=dRow c m w t n ++ [mLoad m (lSlot c w (wrapU (t + n)))]:=by
 simp [dRow,List.range_succ]
theorem dRow_congr {c:Cf} {m m':List Int} {w t:Int} {n:Nat} (h:∀ i:Nat,i < n→mLoad m' (lSlot c w (wrapU (t + i)))=mLoad m (lSlot c w (wrapU (t + i)))):dRow c m' w t n=dRow c m w t n:=by
 unfold dRow
 exact List.map_congr_left fun i hi=>h i (List.mem_range.1 hi)
theorem dRow_get {c:Cf} {m:List Int} {w t:Int} {n i:Nat} (h:i < n):(dRow c m w t n).getD i 0=mLoad m (lSlot c w (wrapU (t + i))):=by
 simp [dRow,List.getD_eq_getElem?_getD,h]
theorem dRow_drop {c:Cf} {m:List Int} {w t:Int} {n:Nat} (ht:InU t):(dRow c m w t (n + 1)).drop 1=dRow c m w (wrapU (t + 1)) n:=by
 apply List.ext_getElem
 ·simp [dRow]
 ·intro i h1 h2
  simp [dRow]
  congr 1
  have:wrapU (t + ((1 + i:Nat):Int))=wrapU (wrapU (t + 1) + (i:Int)):=by rw [wrapU_eq,wrapU_eq,wrapU_eq]; omega
  rw [← this]
  congr 2
  omega
theorem slot_eq {c:Cf} {m:List Int} {w:Int} (h:Lay c m w) {x y:Int} (e:x % 18446744073709551616=y % 18446744073709551616):lSlot c w x=lSlot c w y:=by
 rw [h.ss,e]
end Go.Vai

/- Pushing: what the functions of the layer compute. -/
namespace Go.Vai
open Go.RowKit Go.Proofs
set_option maxHeartbeats 4000000
set_option maxRecDepth 100000
def sv (x:List Int × Fr):AV:=.tup [ms x.1,fv x.2]
theorem clone_pure (m:List Int) (hm:m.length≤1000):PureC Tryz.prog 79 [ms m] (ms m):=by
 refine pure_sub ok0 1 Tryz.func79 rfl (by show 1≤_; decide) ?_
 have hb:m.length * 8≤140737488355328:=by omega
 have hle:m.length≤m.length:=Nat.le_refl _
 cases m with
 | nil=>simp only [Tryz.f79,hf_0,T30,ms,ctx_T,T40,ev1,ev2,implies_true,undef,resB,cv,stepB,aopR,one,pre,binR,argFrm,evo,lkp,hlk,asLst,idOf,srcOk,setElems,isEq,frz,frz1,frzA,subA,subB,sub1,List.replicate,Nat.reduceAdd,Nat.reduceMul,Nat.reduceLT,reduceCtorEq,eq_self,ne_eq]
 | cons a l=>
  have hn:((a :: l).map u=[])=False:=eq_false (by simp)
  generalize a :: l=l at *
  simp only [Tryz.f79,hn,hb,hle,take_u,hf_u,T30,ms,ctx_T,T40,List.length_map,ev1,ev2,undef,resB,cv,stepB,aopR,one,pre,binR,argFrm,evo,lkp,hlk,asLst,idOf,srcOk,setElems,isEq,frz,frz1,frzA,subA,subB,sub1,List.replicate,Nat.reduceAdd,Nat.reduceMul,Nat.reduceLT,reduceCtorEq,eq_self,ne_eq]
def rowsPA:List Row:=[
 (79,row1 shM fun m=>some (ms m))] ++ rowsK ++ rowsLT ++ rowsG ++ rowsF
theorem rowsPA_ok:∀ p∈rowsPA,RowOk Tryz.prog p:=fun p h=>by
 simp only [rowsPA,List.mem_append,List.mem_cons,List.not_mem_nil,or_false,or_assoc] at h
 rcases h with rfl | h | h | h | h
 ·exact ok_row1 (enters_of Tryz.func79 (by decide) rfl) fun m r g e=>by cases e; exact clone_pure m (shM_got g)
 ·exact rowsK_ok p h
 ·exact rowsLT_ok p h
 ·exact rowsG_ok p h
 ·exact rowsF_ok p h
theorem okPA:(ctx Tryz.prog rowsPA).ok:=rows_ok rowsPA_ok
theorem PA_all:tabC rowsPA 79=(row1 shM fun m=>some (ms m))∧tabC rowsPA 29=(row1 shC fun c=>some (iv (lSize c)))∧tabC rowsPA 28=(row1 shC fun c=>some (bv (mayC c)))∧tabC rowsPA 55=(row1 shF fun f=>some (bv (f.res != 0))):=⟨rfl,rfl,rfl,rfl⟩
theorem goes_pure (c:Cf) (m:List Int) (f:Fr) (op pcs:Int) (hm:m.length≤1000):PureC Tryz.prog 164 [cv' c,ms m,fv f,iv op,iv pcs] (bv (goes c m f op pcs)):=by
 refine pure_sub okPA 1 Tryz.func164 rfl (by show 5≤_; decide) ?_
 have key:goes c m f op pcs=(mayC c && ((m.length:Int) == lSize c) && !(f.res != 0) && decide (f.who ≥ 0) && decide (f.who < c.w) && (f.op == op) && decide (f.pc ≥ 0) && decide (f.pc < pcs)):=by
  rw [Bool.eq_iff_iff]
  simp [goes]
  constructor
  ·rintro ⟨a,b,c,d,e,f,g,h⟩; simp_all
  ·intro h; simp_all
 rw [key]
 simp only [Tryz.f164,PA_all,fv,cv',cf_eta,shC_dec,dC,T23,T42,T30,row1,iv,bv,u,ms,ctx_T,ctx_C,T3,Option.bind_some,List.length_map,shF_dec,dF,fr_eta,ev1,ev2,implies_true,undef,↓guardE_tt,↓guardE_ft,resB,cv,stepB,guardB,guardC,dstAt,aopR,one,pre,binR,intOpR,unR,argFrm,evo,lkp,hlk,lenOf,ofCells,AV.wr,AV.ok1,TK.agg,frz,frz1,frzA,subA,subB,sub1,Nat.reduceAdd,Nat.reduceEqDiff,Nat.reduceLT,Nat.reduceLeDiff,reduceCtorEq,eq_self,ne_eq]
 clear key
 repeat' first | apply And.intro | intro _
 all_goals first | rfl | (simp_all; done) | (simp_all; intros; omega)
end Go.Vai

/- Pushing: a step. -/
namespace Go.Vai
open Go.RowKit Go.Proofs
set_option maxHeartbeats 4000000
set_option maxRecDepth 100000
def rowsPB:List Row:=[
 (164,row5 shC shM shF shI shI fun c m f op pcs=>some (bv (goes c m f op pcs)))] ++ rowsPA
theorem rowsPB_ok:∀ p∈rowsPB,RowOk Tryz.prog p:=fun p h=>by
 simp only [rowsPB,List.mem_append,List.mem_cons,List.not_mem_nil,or_false] at h
 rcases h with rfl | h
 ·exact ok_row5 (enters_of Tryz.func164 (by decide) rfl) fun c m f op pcs r _ g _ _ _ e=>by cases e; exact goes_pure c m f op pcs (shM_got g)
 ·exact rowsPA_ok p h
theorem okPB:(ctx Tryz.prog rowsPB).ok:=rows_ok rowsPB_ok
theorem PB_all:tabC rowsPB 164=(row5 shC shM shF shI shI fun c m f op pcs=>some (bv (goes c m f op pcs)))∧tabC rowsPB 199=(fun _=>none)∧tabC rowsPB 200=(fun _=>none)∧tabC rowsPB 201=(fun _=>none)∧tabC rowsPB 202=(fun _=>none)∧tabC rowsPB 79=(row1 shM fun m=>some (ms m))∧tabC rowsPB 12=(row2 shM shI fun m i=>some (u (mLoad m i)))∧tabC rowsPB 90=(row3 shM shI shN fun m i v=>some (ms (mStore m i v)))∧tabC rowsPB 71=(row2 shC shI fun c w=>some (iv (lTop c w)))∧tabC rowsPB 72=(row2 shC shI fun c w=>some (iv (lBottom c w)))∧tabC rowsPB 73=(row3 shC shI shN fun c w x=>some (iv (lSlot c w x)))∧tabC rowsPB 168=(row3 shF shI shN fun f r v=>some (fv (fEnd f r v))):=⟨rfl,rfl,rfl,rfl,rfl,rfl,rfl,rfl,rfl,rfl,rfl,rfl⟩
theorem step_pure (c:Cf) (m:List Int) (f:Fr) (hm:m.length≤1000):PureC Tryz.prog 182 [cv' c,ms m,fv f] (sv (pStep c m f)):=by
 refine pure_sub okPB 1 Tryz.func182 rfl (by show 3≤_; decide) ?_
 cases hg:goes c m f 0 4 with
 | false=>
  rw [pStep_no hg]
  simp only [Tryz.f182,PB_all,hg,hm,sv,fv,T215,T1,T216,cv',cf_eta,shC_dec,dC,T23,T42,T30,hfree_lu,row1,row5,shI_dec,shM_dec,dI,dM,dU_map,iv,bv,u,ms,ctx_T,ctx_C,Option.bind_some,Option.map_some,shF_dec,dF,fr_eta,ev1,ev2,implies_true,undef,dynCall,↓condE_f,resB,cv,stepB,stepE,callD,tabD,aopR,one,pre,argFrm,evo,lkp,hlk,ofVal,ofCells,setCells,fillA,AV.wr,AV.ok1,TK.agg,frz,frz1,frzt,frzs,frzA,subA,subB,subM,subL,sub1,accOf,Nat.reduceAdd,Nat.reduceMul,Nat.reduceEqDiff,Nat.reduceLT,Nat.reduceLeDiff,reduceCtorEq,eq_self,ne_eq]
  all_goals ((repeat' apply And.intro) <;> first | rfl | omega | (show (_:Bool)=true; kernel_rfl) | decide)
 | true=>
  obtain ⟨hl,hres,hop,h0,h1⟩:=goes_iff.1 hg
  have hd:wrapU c.d=c.d:=by rw [wrapU_eq]; have:=hl.dpos; omega
  have hu:∀ x,IntKind.wrap .u64 x=wrapU x:=fun _=>rfl
  obtain ⟨op,pc,who,val,x,y,res⟩:=f
  dsimp only at h0 h1
  have hpc:pc=0∨pc=1∨pc=2∨pc=3:=by omega
  unfold pStep
  rw [if_pos hg]
  rcases hpc with rfl | rfl | rfl | rfl
  ·simp only [Tryz.f182,Tryz.func199,Tryz.f199,inl,PB_all,hg,hm,sv,fv,T215,T1,T216,cv',cf_eta,shC_dec,dC,T23,T42,T30,hfree_lu,row1,row2,row5,shI_dec,shM_dec,dI,dM,dU_map,iv,bv,u,ms,ctx_T,ctx_C,ctx_P,T3,T40,Option.bind_some,Option.map_some,String.reduceBEq,shF_dec,dF,ev1,ev2,implies_true,undef,dynCall,↓condE_t,frzDeep,deepArgs,deepArg,resB,cv,stepB,stepE,callD,tabD,aopR,one,pre,argFrm,evo,lkp,hlk,ofVal,ofCells,setCells,fillA,AV.wr,AV.ok1,TK.agg,frz,frz1,frzt,frzs,frzA,frzArg,frzArgs,subA,subB,subM,subL,sub1,accOf,Nat.reduceAdd,Nat.reduceMul,Nat.reduceEqDiff,Nat.reduceLT,Nat.reduceLeDiff,reduceCtorEq,eq_self,ne_eq,Int.reduceLE,Int.reduceEq]
   all_goals ((repeat' apply And.intro) <;> first | rfl | omega | (show (_:Bool)=true; kernel_rfl) | decide)
  ·by_cases hf:wrapU (x - mLoad m (lTop c who)) ≥ c.d
   ·have hf':c.d≤wrapU (x - mLoad m (lTop c who)):=hf
    simp only [Tryz.f182,Tryz.func200,Tryz.f200,inl,PB_all,hg,hm,hu,hd,hf,sv,fv,fEnd,T215,T1,T216,cv',cf_eta,shC_dec,dC,T23,T42,T30,hfree_lu,row1,row2,row3,row5,shI_dec,shN_dec,shM_dec,dI,dN,dM,dU_map,iv,bv,u,ms,ctx_T,ctx_C,ctx_P,T3,T40,Option.bind_some,Option.map_some,String.reduceBEq,shF_dec,dF,ev1,ev2,implies_true,undef,dynCall,↓condE_t,frzDeep,deepArgs,deepArg,resB,cv,stepB,stepE,callD,tabD,aopR,one,pre,binR,intOpR,argFrm,evo,lkp,hlk,ofVal,ofCells,setCells,fillA,AV.wr,AV.ok1,TK.agg,frz,frz1,frzt,frzs,frzA,frzArg,frzArgs,subA,subB,subM,subL,sub1,accOf,Nat.reduceAdd,Nat.reduceMul,Nat.reduceEqDiff,Nat.reduceLT,Nat.reduceLeDiff,reduceCtorEq,eq_self,ne_eq,Int.reduceToNat,Int.reduceLE,Int.reduceEq]
    all_goals ((repeat' apply And.intro) <;> first | rfl | omega | (show (_:Bool)=true; kernel_rfl) | decide)
   ·have hf':¬ c.d≤wrapU (x - mLoad m (lTop c who)):=hf
    simp only [Tryz.f182,Tryz.func200,Tryz.f200,inl,PB_all,hg,hm,hu,hd,hf,sv,fv,fEnd,T215,T1,T216,cv',cf_eta,shC_dec,dC,T23,T42,T30,hfree_lu,row1,row2,row5,shI_dec,shM_dec,dI,dM,dU_map,iv,bv,u,ms,ctx_T,ctx_C,ctx_P,T3,T40,Option.bind_some,Option.map_some,String.reduceBEq,shF_dec,dF,ev1,ev2,implies_true,undef,dynCall,↓condE_t,↓condE_f,frzDeep,deepArgs,deepArg,resB,cv,stepB,stepE,callD,tabD,aopR,one,pre,binR,intOpR,argFrm,evo,lkp,hlk,ofVal,ofCells,setCells,fillA,AV.wr,AV.ok1,TK.agg,frz,frz1,frzt,frzs,frzA,frzArg,frzArgs,subA,subB,subM,subL,sub1,accOf,Nat.reduceAdd,Nat.reduceMul,Nat.reduceEqDiff,Nat.reduceLT,Nat.reduceLeDiff,reduceCtorEq,eq_self,ne_eq,Int.reduceToNat,Int.reduceLE,Int.reduceEq]
    all_goals ((repeat' apply And.intro) <;> first | rfl | omega | (show (_:Bool)=true; kernel_rfl) | decide)
  ·skip
   simp only [Tryz.f182,Tryz.func201,Tryz.f201,inl,PB_all,hg,hm,sv,fv,fEnd,T215,T1,T216,cv',cf_eta,shC_dec,dC,T23,T42,T30,hfree_lu,row1,row3,row5,shI_dec,shN_dec,shM_dec,dI,dN,dM,dU_map,iv,bv,u,ms,ctx_T,ctx_C,ctx_P,T3,T40,Option.bind_some,Option.map_some,String.reduceBEq,shF_dec,dF,ev1,ev2,implies_true,undef,dynCall,↓condE_t,frzDeep,deepArgs,deepArg,resB,cv,stepB,stepE,callD,tabD,aopR,one,pre,argFrm,evo,lkp,hlk,ofVal,ofCells,setCells,fillA,AV.wr,AV.ok1,TK.agg,frz,frz1,frzt,frzs,frzA,frzArg,frzArgs,subA,subB,subM,subL,sub1,accOf,Nat.reduceAdd,Nat.reduceMul,Nat.reduceEqDiff,Nat.reduceLT,Nat.reduceLeDiff,reduceCtorEq,eq_self,ne_eq,Int.reduceToNat,Int.reduceLE,Int.reduceEq]
   all_goals ((repeat' apply And.intro) <;> first | rfl | omega | (show (_:Bool)=true; kernel_rfl) | decide)
  ·skip
   simp only [Tryz.f182,Tryz.func202,Tryz.f202,inl,PB_all,hg,hm,hu,sv,fv,fEnd,T215,T1,T216,cv',cf_eta,shC_dec,dC,T23,T42,T30,hfree_lu,row1,row2,row3,row5,shI_dec,shN_dec,shM_dec,dI,dN,dM,dU_map,iv,bv,u,ms,ctx_T,ctx_C,ctx_P,T3,T40,Option.bind_some,Option.map_some,String.reduceBEq,shF_dec,dF,ev1,ev2,implies_true,undef,dynCall,↓condE_t,frzDeep,deepArgs,deepArg,resB,cv,stepB,stepE,callD,tabD,aopR,one,pre,binR,intOpR,argFrm,evo,lkp,hlk,ofVal,ofCells,setCells,fillA,AV.wr,AV.ok1,TK.agg,frz,frz1,frzt,frzs,frzA,frzArg,frzArgs,subA,subB,subM,subL,sub1,accOf,Nat.reduceAdd,Nat.reduceMul,Nat.reduceEqDiff,Nat.reduceLT,Nat.reduceLeDiff,reduceCtorEq,eq_self,ne_eq,Int.reduceToNat,Int.reduceLE,Int.reduceEq]
   all_goals ((repeat' apply And.intro) <;> first | rfl | omega | (show (_:Bool)=true; kernel_rfl) | decide)
end Go.Vai

/- Pushing: what a deque has; the document's answers. -/
namespace Go.Vai
open Go.RowKit Go.Proofs
set_option maxHeartbeats 4000000
set_option maxRecDepth 100000
def rowsPC:List Row:=[
 (182,row3 shC shM shF fun c m f=>some (sv (pStep c m f)))] ++ rowsPB
theorem rowsPC_ok:∀ p∈rowsPC,RowOk Tryz.prog p:=fun p h=>by
 simp only [rowsPC,List.mem_append,List.mem_cons,List.not_mem_nil,or_false] at h
 rcases h with rfl | h
 ·exact ok_row3 (enters_of Tryz.func182 (by decide) rfl) fun c m f r _ g _ e=>by cases e; exact step_pure c m f (shM_got g)
 ·exact rowsPB_ok p h
theorem okPC:(ctx Tryz.prog rowsPC).ok:=rows_ok rowsPC_ok
theorem PC_all:tabC rowsPC 182=(row3 shC shM shF fun c m f=>some (sv (pStep c m f)))∧tabC rowsPC 12=(row2 shM shI fun m i=>some (u (mLoad m i)))∧tabC rowsPC 29=(row1 shC fun c=>some (iv (lSize c)))∧tabC rowsPC 71=(row2 shC shI fun c w=>some (iv (lTop c w)))∧tabC rowsPC 72=(row2 shC shI fun c w=>some (iv (lBottom c w)))∧tabC rowsPC 73=(row3 shC shI shN fun c w x=>some (iv (lSlot c w x)))∧tabC rowsPC 28=(row1 shC fun c=>some (bv (mayC c)))∧tabC rowsPC 70=(row2 shN shN fun a b=>some (iv (far a b))):=⟨rfl,rfl,rfl,rfl,rfl,rfl,rfl,rfl⟩
def lv (c:Cf) (m:List Int) (w:Int):AV:=.tup [ms (dList c m w),bv (dIs c m w)]
theorem list_pure (c:Cf) (m:List Int) (w:Int) (hm:m.length≤1000):PureC Tryz.prog 46 [cv' c,ms m,iv w] (lv c m w):=by
 refine pure_sub okPC 1 Tryz.func46 rfl (by show 3≤_; decide) ?_
 by_cases hL:Lay c m w
 ·have q1:=hL.may
  have q2:((m.length:Int) != lSize c)=false:=by simpa using hL.len
  have q3:¬ w < 0:=by have:=hL.lo; omega
  have q4:¬ w ≥ c.w:=by have:=hL.hi; omega
  have hdn:far (mLoad m (lBottom c w)) (mLoad m (lTop c w))=dNum c m w:=rfl
  by_cases n0:dNum c m w < 0
  ·have hi:dIs c m w=false:=by rw [Bool.eq_false_iff]; intro e; have:=dIs_iff.1 e; omega
   have hd:dList c m w=[]:=by simp [dList,hi]
   simp only [Tryz.f46,PC_all,hm,q1,q2,q3,q4,hdn,n0,hi,hd,lv,cv',cf_eta,shC_dec,dC,T23,T30,row1,row2,shI_dec,shN_dec,shM_dec,dI,dN,dM,dU_map,iv,bv,u,ms,ctx_T,ctx_C,T3,Option.bind_some,List.length_map,ev1,ev2,implies_true,undef,dynCall,↓condE_t,↓condE_f,↓guardE_ff,↓guardE_tf,resB,cv,stepB,stepE,callD,tabD,guardB,guardC,dstAt,aopR,one,pre,binR,intOpR,unR,argFrm,evo,lkp,hlk,lenOf,ofCells,AV.wr,AV.ok1,TK.agg,frz,frz1,frzt,frzA,subA,subB,subM,sub1,accOf,Nat.reduceAdd,Nat.reduceEqDiff,Nat.reduceLT,Nat.reduceLeDiff,reduceCtorEq,eq_self,ne_eq]
   all_goals ((repeat' apply And.intro) <;> first | rfl | omega | (show (_:Bool)=true; kernel_rfl) | decide)
  ·by_cases n1:dNum c m w > c.d
   ·have hi:dIs c m w=false:=by rw [Bool.eq_false_iff]; intro e; have:=dIs_iff.1 e; omega
    have hd:dList c m w=[]:=by simp [dList,hi]
    simp only [Tryz.f46,PC_all,hm,q1,q2,q3,q4,hdn,n0,n1,hi,hd,lv,cv',cf_eta,shC_dec,dC,T23,T30,row1,row2,shI_dec,shN_dec,shM_dec,dI,dN,dM,dU_map,iv,bv,u,ms,ctx_T,ctx_C,T3,Option.bind_some,List.length_map,ev1,ev2,implies_true,undef,dynCall,↓condE_t,↓condE_f,↓guardE_ff,resB,cv,stepB,stepE,callD,tabD,guardB,guardC,dstAt,aopR,one,pre,binR,intOpR,unR,argFrm,evo,lkp,hlk,lenOf,ofCells,AV.wr,AV.ok1,TK.agg,frz,frz1,frzt,frzA,subA,subB,subM,sub1,accOf,Nat.reduceAdd,Nat.reduceEqDiff,Nat.reduceLT,Nat.reduceLeDiff,reduceCtorEq,eq_self,ne_eq]
    all_goals ((repeat' apply And.intro) <;> first | rfl | omega | (show (_:Bool)=true; kernel_rfl) | decide)
   ·have hi:dIs c m w=true:=dIs_iff.2 ⟨hL,by omega,by omega⟩
    simp only [Tryz.f46,PC_all,hm,q1,q2,q3,q4,hdn,n0,n1,hi,lv,cv',cf_eta,shC_dec,dC,T23,T30,row1,row2,shI_dec,shN_dec,shM_dec,dI,dN,dM,dU_map,iv,bv,u,ms,ctx_T,ctx_C,T3,Option.bind_some,List.length_map,ev1,ev2,implies_true,undef,dynCall,↓condE_f,↓guardE_ff,cv,stepB,stepE,callD,tabD,guardB,guardC,dstAt,aopR,one,pre,binR,intOpR,unR,argFrm,evo,lkp,hlk,lenOf,ofCells,AV.wr,AV.ok1,TK.agg,frz,frz1,frzA,subA,subB,sub1,accOf,Nat.reduceAdd,Nat.reduceEqDiff,Nat.reduceLT,Nat.reduceLeDiff,reduceCtorEq,eq_self,ne_eq]
    have hdl:=dList_eq hi
    have hd16:dNum c m w≤16:=by have:=hL.dpos; omega
    generalize ht:mLoad m (lTop c w)=t at *
    generalize hn:(dNum c m w).toNat=n at *
    have hn':dNum c m w=(n:Int):=by omega
    have hu:∀ x,IntKind.wrap .u64 x=wrapU x:=fun _=>rfl
    rw [hn',hdl]
    refine WP.virt 11 40 1 rfl (by decide) ?_
    refine WP.loop (fun j:Nat × Nat=>n - j.1) (fun j=>j.1≤n∧0 < j.2) (n:=72) (fr:=fun j=>[(55,iv j.1),(54,iv n),(11,.arr j.2 0 j.1),(1,ms m),(2,iv w),(8,u t),(3,.ptr 0 0 0)])
     (hp:=fun j=>[(j.2,some ⟨false,40,1,(dRow c m w t j.1).map u⟩),(0,some ⟨false,23,4,[cv' c]⟩)]) (N:=50) ?_ (0,50) ⟨Nat.zero_le _,by decide⟩ rfl (by show 50≤51; decide) ⟨rfl,rfl,rfl,rfl,rfl,rfl,rfl,trivial⟩ ⟨rfl,rfl,trivial⟩
    rintro ⟨i,id⟩ nx ⟨h4,h5⟩ hnx hid
    dsimp only at h4 h5 hid ⊢
    have n1:id < nx:=hid id _ (hlk_hd ..)
    have n2:0 < nx:=by omega
    refine WP.of okPC 1 (by rfl) ?_
    by_cases hlt:i < n
    ·have hz:(i:Int) < (n:Int):=by omega
     have ww:IntKind.wrap .i64 ((i:Int) + 1)=((i + 1:Nat):Int):=by rw [wrap_i (by omega) (by omega)]; omega
     have hx:wrapU (t + wrapU (i:Int))=wrapU (t + (i:Int)):=by rw [wrapU_eq,wrapU_eq,wrapU_eq]; omega
     have e1:((dRow c m w t i).map u).take i=(dRow c m w t i).map u:=List.take_of_length_le (by simp [dRow_len])
     have e2:=(dRow_succ c m w t i).symm
     have hb:(i + 1) * 8≤140737488355328:=by omega
     have hle:i≤i:=Nat.le_refl _
     simp only [PC_all,hm,hz,ww,hu,hx,e1,e2,hb,hle,n1,n2,h5,snoc_u,dRow_len,nb_self,nb_lt,nb_lt0,Nat.add_assoc,cv',cf_eta,shC_dec,dC,T23,row2,row3,shI_dec,shN_dec,shM_dec,dI,dN,dM,dU_map,iv,u,ms,ctx_T,ctx_C,T3,T40,Option.bind_some,List.length_map,T29,ev1,ev2,undef,↓condE_t,cv,stepB,aopR,one,pre,binR,intOpR,evo,lkp,hlk,asLst,idOf,srcOk,ofVal,ofCells,setElems,AV.wr,AV.ok1,TK.agg,sub1,kp,kh,List.replicate,Nat.reduceAdd,Nat.reduceMul,Nat.reduceEqDiff,Nat.reduceLT,Nat.reduceLeDiff,reduceCtorEq,eq_self,ne_eq]
     exact ⟨(i + 1,nx + 14),by dsimp only; omega,⟨by dsimp only; omega,by dsimp only; omega⟩,⟨rfl,rfl⟩,by simp only [nb_self]⟩
    ·have e:i=n:=by omega
     have hz:¬ (i:Int) < (n:Int):=by omega
     subst e
     have hle:i≤i:=Nat.le_refl _
     have e1:((dRow c m w t i).map u).take i=(dRow c m w t i).map u:=List.take_of_length_le (by simp [dRow_len])
     simp only [hz,hle,e1,dRow_len,hf_u,nb_self,Nat.add_assoc,cv',iv,u,ms,List.length_map,ev1,ev2,undef,↓condE_f,resB,cv,stepB,aopR,one,pre,binR,intOpR,evo,lkp,hlk,frz1,frzt,frzA,subB,subM,sub1,Nat.reduceAdd,Nat.reduceLT,eq_self]
 ·have hi:dIs c m w=false:=by rw [Bool.eq_false_iff]; intro e; exact hL (dIs_iff.1 e).1
  have hd:dList c m w=[]:=by simp [dList,hi]
  cases q1:mayC c with
  | false=>
   simp only [Tryz.f46,PC_all,q1,hi,hd,lv,cv',cf_eta,shC_dec,dC,T23,row1,iv,bv,ms,ctx_T,ctx_C,Option.bind_some,ev1,ev2,undef,↓condE_t,↓guardE_tf,resB,cv,stepB,guardB,guardC,dstAt,aopR,one,pre,unR,argFrm,evo,lkp,hlk,ofCells,AV.wr,AV.ok1,TK.agg,frz,frz1,frzt,frzA,subA,subB,subM,sub1,Nat.reduceAdd,Nat.reduceEqDiff,Nat.reduceLT,Nat.reduceLeDiff,reduceCtorEq,eq_self,ne_eq]
   all_goals ((repeat' apply And.intro) <;> first | rfl | omega | (show (_:Bool)=true; kernel_rfl) | decide)
  | true=>
   cases q2:((m.length:Int) != lSize c) with
   | true=>
    simp only [Tryz.f46,PC_all,q1,q2,hi,hd,lv,cv',cf_eta,shC_dec,dC,T23,T30,row1,iv,bv,ms,ctx_T,ctx_C,Option.bind_some,List.length_map,ev1,ev2,undef,↓condE_t,↓guardE_ff,↓guardE_tf,resB,cv,stepB,guardB,guardC,dstAt,aopR,one,pre,binR,intOpR,unR,argFrm,evo,lkp,hlk,lenOf,ofCells,AV.wr,AV.ok1,TK.agg,frz,frz1,frzt,frzA,subA,subB,subM,sub1,Nat.reduceAdd,Nat.reduceEqDiff,Nat.reduceLT,Nat.reduceLeDiff,reduceCtorEq,eq_self,ne_eq]
    all_goals ((repeat' apply And.intro) <;> first | rfl | omega | (show (_:Bool)=true; kernel_rfl) | decide)
   | false=>
    by_cases q3:w < 0
    ·simp only [Tryz.f46,PC_all,q1,q2,q3,hi,hd,lv,cv',cf_eta,shC_dec,dC,T23,T30,row1,iv,bv,ms,ctx_T,ctx_C,Option.bind_some,List.length_map,ev1,ev2,undef,↓condE_t,↓guardE_ff,↓guardE_tf,resB,cv,stepB,guardB,guardC,dstAt,aopR,one,pre,binR,intOpR,unR,argFrm,evo,lkp,hlk,lenOf,ofCells,AV.wr,AV.ok1,TK.agg,frz,frz1,frzt,frzA,subA,subB,subM,sub1,Nat.reduceAdd,Nat.reduceEqDiff,Nat.reduceLT,Nat.reduceLeDiff,reduceCtorEq,eq_self,ne_eq]
     all_goals ((repeat' apply And.intro) <;> first | rfl | omega | (show (_:Bool)=true; kernel_rfl) | decide)
    ·have q4:w ≥ c.w:=by
      by_cases e:w ≥ c.w
      ·exact e
      ·exact (hL ⟨q1,by simpa using q2,by omega,by omega⟩).elim
     simp only [Tryz.f46,PC_all,q1,q2,q3,q4,hi,hd,lv,cv',cf_eta,shC_dec,dC,T23,T30,row1,iv,bv,ms,ctx_T,ctx_C,T3,Option.bind_some,List.length_map,ev1,ev2,implies_true,undef,↓condE_t,↓guardE_ff,resB,cv,stepB,guardB,guardC,dstAt,aopR,one,pre,binR,intOpR,unR,argFrm,evo,lkp,hlk,lenOf,ofCells,AV.wr,AV.ok1,TK.agg,frz,frz1,frzt,frzA,subA,subB,subM,sub1,Nat.reduceAdd,Nat.reduceEqDiff,Nat.reduceLT,Nat.reduceLeDiff,reduceCtorEq,eq_self,ne_eq]
     all_goals ((repeat' apply And.intro) <;> first | rfl | omega | (show (_:Bool)=true; kernel_rfl) | decide)
end Go.Vai

/- Pushing: the document's list; the layer's table; the chapter's example. -/
namespace Go.Vai
open Go.RowKit Go.Proofs
set_option maxHeartbeats 4000000
set_option maxRecDepth 100000
def rowsPD:List Row:=[
 (46,row3 shC shM shI fun c m w=>some (lv c m w)),
 (38,row1 shC fun c=>some (ms (zeros (lSize c).toNat)))] ++ rowsPC
theorem rowsPD_ok:∀ p∈rowsPD,RowOk Tryz.prog p:=fun p h=>by
 simp only [rowsPD,List.mem_append,List.mem_cons,List.not_mem_nil,or_false,or_assoc] at h
 rcases h with rfl | rfl | h
 ·exact ok_row3 (enters_of Tryz.func46 (by decide) rfl) fun c m w r _ g _ e=>by cases e; exact list_pure c m w (shM_got g)
 ·exact ok_row1 (enters_of Tryz.func38 (by decide) rfl) fun c r _ e=>by cases e; exact new_pure c
 ·exact rowsPC_ok p h
end Go.Vai

/- Deques by lists: a pop and a steal, alone. -/
namespace Go.Vai
open Go.RowKit
theorem goes_o {c:Cf} {m:List Int} {w pc val x y:Int} (h:Lay c m w) (h0:0≤pc) (h1:pc < 7):goes c m ⟨1,pc,w,val,x,y,0⟩ 1 7=true:=goes_iff.2 ⟨h,rfl,rfl,h0,h1⟩
theorem goes_s {c:Cf} {m:List Int} {w pc val x y:Int} (h:Lay c m w) (h0:0≤pc) (h1:pc < 4):goes c m ⟨2,pc,w,val,x,y,0⟩ 2 4=true:=goes_iff.2 ⟨h,rfl,rfl,h0,h1⟩
section
variable {c : Cf} {m : List Int} {w v x y : Int}
theorem pop_1 (h:Lay c m w):oStep c m ⟨1,0,w,v,x,y,0⟩=(m,⟨1,1,w,v,wrapU (mLoad m (lBottom c w) - 1),y,0⟩):=by
 simp [oStep,goes_o h]
theorem pop_2 (h:Lay c m w):oStep c m ⟨1,1,w,v,x,y,0⟩=(mStore m (lBottom c w) x,⟨1,2,w,v,x,y,0⟩):=by
 simp [oStep,goes_o h]
theorem pop_3e (h:Lay c m w) (hf:far x (mLoad m (lTop c w)) < 0):oStep c m ⟨1,2,w,v,x,y,0⟩=(m,⟨1,6,w,v,x,mLoad m (lTop c w),0⟩):=by
 simp [oStep,goes_o h,hf]
theorem pop_3 (h:Lay c m w) (hf:¬ far x (mLoad m (lTop c w)) < 0):oStep c m ⟨1,2,w,v,x,y,0⟩=(m,⟨1,3,w,v,x,mLoad m (lTop c w),0⟩):=by
 simp [oStep,goes_o h,hf]
theorem pop_4d (h:Lay c m w) (hf:x≠y):oStep c m ⟨1,3,w,v,x,y,0⟩=(m,⟨1,0,w,mLoad m (lSlot c w x),0,0,1⟩):=by
 simp [oStep,goes_o h,hf,fEnd]
theorem pop_4 (h:Lay c m w) (hf:x=y):oStep c m ⟨1,3,w,v,x,y,0⟩=(m,⟨1,4,w,mLoad m (lSlot c w x),x,y,0⟩):=by
 simp [oStep,goes_o h,hf]
theorem pop_5 (h:Lay c m w):oStep c m ⟨1,4,w,v,x,y,0⟩=(mCas m (lTop c w) y (wrapU (y + 1)),⟨1,if mCasB m (lTop c w) y=true then 5 else 6,w,v,x,y,0⟩):=by
 simp [oStep,goes_o h]
theorem pop_6 (h:Lay c m w):oStep c m ⟨1,5,w,v,x,y,0⟩=(mStore m (lBottom c w) (wrapU (x + 1)),⟨1,0,w,v,0,0,1⟩):=by
 simp [oStep,goes_o h,fEnd]
theorem pop_7 (h:Lay c m w):oStep c m ⟨1,6,w,v,x,y,0⟩=(mStore m (lBottom c w) (wrapU (x + 1)),⟨1,0,w,0,0,0,3⟩):=by
 simp [oStep,goes_o h,fEnd]
theorem steal_1 (h:Lay c m w):sStep c m ⟨2,0,w,v,x,y,0⟩=(m,⟨2,1,w,v,x,mLoad m (lTop c w),0⟩):=by
 simp [sStep,goes_s h]
theorem steal_2e (h:Lay c m w) (hf:far (mLoad m (lBottom c w)) y≤0):sStep c m ⟨2,1,w,v,x,y,0⟩=(m,⟨2,0,w,0,0,0,3⟩):=by
 simp [sStep,goes_s h,hf,fEnd]
theorem steal_2 (h:Lay c m w) (hf:¬ far (mLoad m (lBottom c w)) y≤0):sStep c m ⟨2,1,w,v,x,y,0⟩=(m,⟨2,2,w,v,mLoad m (lBottom c w),y,0⟩):=by
 simp [sStep,goes_s h,hf]
theorem steal_3 (h:Lay c m w):sStep c m ⟨2,2,w,v,x,y,0⟩=(m,⟨2,3,w,mLoad m (lSlot c w y),x,y,0⟩):=by
 simp [sStep,goes_s h]
theorem steal_4 (h:Lay c m w) (hc:mCasB m (lTop c w) y=true):sStep c m ⟨2,3,w,v,x,y,0⟩=(mStore m (lTop c w) (wrapU (y + 1)),⟨2,0,w,v,0,0,1⟩):=by
 simp [sStep,goes_s h,hc,fEnd,cas_store hc]
theorem steal_4a (h:Lay c m w) (hc:mCasB m (lTop c w) y=false):sStep c m ⟨2,3,w,v,x,y,0⟩=(m,⟨2,0,w,0,0,0,4⟩):=by
 simp [sStep,goes_s h,hc,fEnd]
theorem casB_top (h:Lay c m w):mCasB m (lTop c w) (mLoad m (lTop c w))=true:=by simp [mCasB,h.in_top]
end
structure Deq (c:Cf) (m:List Int) (w t b:Int) (n:Nat):Prop where
 lay:Lay c m w
 top:mLoad m (lTop c w)=t
 bot:mLoad m (lBottom c w)=b
 tu:InU t
 bu:InU b
 num:b=wrapU (t + n)
 room:(n:Int)≤c.d
theorem deq_of {c:Cf} {m:List Int} {w:Int} (hm:InM m) (hi:dIs c m w=true):Deq c m w (mLoad m (lTop c w)) (mLoad m (lBottom c w)) (dNum c m w).toNat:=by
 obtain ⟨h,h1,h2⟩:=dIs_iff.1 hi
 have htu:=load_u hm (lTop c w)
 have hbu:=load_u hm (lBottom c w)
 refine ⟨h,rfl,rfl,htu,hbu,?_,by omega⟩
 unfold dNum at *
 rw [far_eq hbu htu] at *
 rw [wrapU_eq]
 unfold InU at hbu htu
 omega
theorem Deq.is {c:Cf} {m:List Int} {w t b:Int} {n:Nat} (h:Deq c m w t b n):dNum c m w=n∧dIs c m w=true∧dList c m w=dRow c m w t n:=by
 have hn:dNum c m w=n:=by
  unfold dNum
  rw [h.top,h.bot,far_eq h.bu h.tu]
  have e:=h.num
  rw [wrapU_eq] at e
  have h1:=h.tu
  have h2:=h.bu
  have h3:=h.room
  have h4:=h.lay.dpos
  unfold InU at h1 h2
  omega
 have hi:dIs c m w=true:=dIs_iff.2 ⟨h.lay,by omega,by rw [hn]; exact h.room⟩
 refine ⟨hn,hi,?_⟩
 rw [dList_eq hi,hn,h.top]
 congr 1
theorem Deq.setBottom {c:Cf} {m:List Int} {w t b:Int} {n k:Nat} (h:Deq c m w t b n) (hk:(k:Int)≤c.d):Deq c (mStore m (lBottom c w) (wrapU (t + k))) w t (wrapU (t + k)) k where
 lay:=h.lay.store _ _
 top:=by rw [load_other h.lay.tb.symm,h.top]
 bot:=load_store h.lay.in_bottom _
 tu:=h.tu
 bu:=wrapU_u _
 num:=rfl
 room:=hk
theorem Deq.incTop {c:Cf} {m:List Int} {w t b:Int} {n:Nat} (h:Deq c m w t b (n + 1)):Deq c (mStore m (lTop c w) (wrapU (t + 1))) w (wrapU (t + 1)) b n where
 lay:=h.lay.store _ _
 top:=load_store h.lay.in_top _
 bot:=by rw [load_other h.lay.tb,h.bot]
 tu:=wrapU_u _
 bu:=h.bu
 num:=by
  have e:=h.num
  rw [wrapU_eq] at e
  rw [e,wrapU_eq,wrapU_eq]
  omega
 room:=by have:=h.room; omega
theorem row_top {c:Cf} {m:List Int} {w t:Int} (h:Lay c m w) (n:Nat) (v:Int):dRow c (mStore m (lTop c w) v) w t n=dRow c m w t n:=
 dRow_congr fun i _=>load_other (h.ts _) _
end Go.Vai

/- Deques by lists: what a push leaves as it is. -/
namespace Go.Vai
open Go.RowKit
end Go.Vai

/- In how many cells two lists differ, and in which one last. -/
namespace Go.Vai
open Go.RowKit
end Go.Vai

/- Popping: a step. -/
namespace Go.Vai
open Go.RowKit Go.Proofs
set_option maxHeartbeats 4000000
set_option maxRecDepth 100000
section
variable {X : Ctx} {n nx : Nat} {fr : Frm} {hp : Hp} {Q : Exit → St → Prop}
def noGotoA (Q:Exit→St→Prop):Exit→St→Prop
 | .goto _,_=>False
 | e,s=>Q e s
def scopeG (X:Ctx) (r:Option Code) (l:Nat) (Q:Exit→St→Prop) (n:Nat) (fr:Frm) (hp:Hp) (nx:Nat):Prop:=
 match r with
 | some rest=>WP X rest (noGotoA Q) ⟨n,fr,hp,nx⟩
 | none=>Q (.goto l) ⟨n,fr,hp,nx⟩
theorem r_scpG {b:Code} {l:Nat}:inScopeA X b Q (.goto l) ⟨n,fr,hp,nx⟩=scopeG X (findLabel b l) l Q n fr hp nx:=by
 unfold scopeG
 simp only [inScopeA]
 cases findLabel b l with
 | none=>rfl
 | some rest=>
  have:(fun (e:Exit) (s':St)=>match e with | .goto _=>False | e=>Q e s')=noGotoA Q:=by
   funext e s'; cases e <;> rfl
  rw [← this]
  rfl
theorem r_ngR:noGotoA Q .ret ⟨n,fr,hp,nx⟩=Q .ret ⟨n,fr,hp,nx⟩:=propext Iff.rfl
theorem r_ngN:noGotoA Q .normal ⟨n,fr,hp,nx⟩=Q .normal ⟨n,fr,hp,nx⟩:=propext Iff.rfl
end
theorem w01:IntKind.wrap .i64 (0 + 1)=1:=rfl
theorem w12:IntKind.wrap .i64 (1 + 1)=2:=rfl
theorem w23:IntKind.wrap .i64 (2 + 1)=3:=rfl
theorem w34:IntKind.wrap .i64 (3 + 1)=4:=rfl
theorem w45:IntKind.wrap .i64 (4 + 1)=5:=rfl
theorem w56:IntKind.wrap .i64 (5 + 1)=6:=rfl
theorem w67:IntKind.wrap .i64 (6 + 1)=7:=rfl
theorem x1:IntKind.wrap .i64 1=1:=rfl
theorem x2:IntKind.wrap .i64 2=2:=rfl
theorem x3:IntKind.wrap .i64 3=3:=rfl
theorem x4:IntKind.wrap .i64 4=4:=rfl
def rowsO0:List Row:=[] ++ rowsPD
theorem rowsO0_ok:∀ p∈rowsO0,RowOk Tryz.prog p:=fun p h=>by
 simp only [rowsO0,List.mem_append,List.not_mem_nil,false_or] at h
 rcases h with h
 ·exact rowsPD_ok p h
theorem okO0:(ctx Tryz.prog rowsO0).ok:=rows_ok rowsO0_ok
theorem O0_all:tabC rowsO0 203=(fun _=>none)∧tabC rowsO0 164=(row5 shC shM shF shI shI fun c m f op pcs=>some (bv (goes c m f op pcs)))∧tabC rowsO0 79=(row1 shM fun m=>some (ms m))∧tabC rowsO0 12=(row2 shM shI fun m i=>some (u (mLoad m i)))∧tabC rowsO0 90=(row3 shM shI shN fun m i v=>some (ms (mStore m i v)))∧tabC rowsO0 167=(row4 shM shI shN shN fun m i v w=>some (.tup [ms (mCas m i v w),bv (mCasB m i v)]))∧tabC rowsO0 71=(row2 shC shI fun c w=>some (iv (lTop c w)))∧tabC rowsO0 72=(row2 shC shI fun c w=>some (iv (lBottom c w)))∧tabC rowsO0 73=(row3 shC shI shN fun c w x=>some (iv (lSlot c w x)))∧tabC rowsO0 70=(row2 shN shN fun a b=>some (iv (far a b)))∧tabC rowsO0 168=(row3 shF shI shN fun f r v=>some (fv (fEnd f r v))):=⟨rfl,rfl,rfl,rfl,rfl,rfl,rfl,rfl,rfl,rfl,rfl⟩
theorem ostep_pure (c:Cf) (m:List Int) (f:Fr) (hm:m.length≤1000):PureC Tryz.prog 183 [cv' c,ms m,fv f] (sv (oStep c m f)):=by
 refine pure_sub okO0 1 Tryz.func183 rfl (by show 3≤_; decide) ?_
 cases hg:goes c m f 1 7 with
 | false=>
  rw [oStep_no hg]
  simp only [Tryz.f183,O0_all,hg,hm,fv,sv,cv',cf_eta,shC_dec,dC,T23,T42,T30,hfree_lu,row1,row5,shI_dec,shM_dec,dI,dM,dU_map,iv,bv,u,ms,ctx_T,ctx_C,Option.bind_some,shF_dec,dF,fr_eta,ev1,ev2,implies_true,undef,dynCall,↓condE_t,resB,cv,stepB,stepE,aopR,one,pre,unR,argFrm,evo,lkp,hlk,ofVal,ofCells,setCells,AV.wr,AV.ok1,TK.agg,frz,frz1,frzt,frzs,frzA,subA,subB,subM,subL,sub1,accOf,Nat.reduceAdd,Nat.reduceEqDiff,Nat.reduceLT,Nat.reduceLeDiff,reduceCtorEq,eq_self,ne_eq]
  all_goals ((repeat' apply And.intro) <;> first | rfl | omega | (show (_:Bool)=true; kernel_rfl) | decide)
 | true=>
  have hu:∀ x,IntKind.wrap .u64 x=wrapU x:=fun _=>rfl
  obtain ⟨hl,hres,hop,h0,h1⟩:=goes_iff.1 hg
  obtain ⟨op,pc,who,val,x,y,res⟩:=f
  dsimp only at h0 h1
  have hpc:pc=0∨pc=1∨pc=2∨pc=3∨pc=4∨pc=5∨pc=6:=by omega
  unfold oStep
  rw [if_pos hg]
  rcases hpc with rfl | rfl | rfl | rfl | rfl | rfl | rfl
  ·skip
   simp only [Tryz.f183,O0_all,hg,hm,hu,w01,fEnd,r_scpG,scopeG,findLabel,fv,sv,fEnd,cv',cf_eta,shC_dec,dC,T23,T42,T30,row1,row2,row5,shI_dec,shM_dec,dI,dM,dU_map,iv,bv,u,ms,ctx_T,ctx_C,T3,T40,Option.bind_some,shF_dec,dF,ev1,ev2,implies_true,undef,dynCall,↓condE_t,↓condE_f,cv,stepB,stepE,callD,tabD,aopR,one,pre,binR,intOpR,unR,argFrm,evo,lkp,hlk,ofVal,ofCells,setCells,AV.wr,AV.ok1,TK.agg,frz,frz1,frzA,subA,subB,sub1,accOf,Nat.reduceAdd,Nat.reduceEqDiff,Nat.reduceLT,Nat.reduceLeDiff,reduceCtorEq,eq_self,ne_eq,Int.reduceEq]
   repeat' apply And.intro
   all_goals first | rfl | omega | (show entryOk _ _ _ _ _=true; kernel_rfl) | (refine WP.of okO0 1 (by rfl) ?_)
   all_goals (simp only [r_ngR,T42,T30,hfree_lu,ctx_T,T3,ev1,ev2,implies_true,undef,dynCall,resB,cv,stepB,stepE,aopR,one,pre,evo,lkp,hlk,ofCells,setCells,AV.wr,AV.ok1,TK.agg,frz1,frzt,frzs,frzA,subB,subM,subL,sub1,accOf,Nat.reduceAdd,Nat.reduceEqDiff,Nat.reduceLT,Nat.reduceLeDiff,reduceCtorEq,eq_self,ne_eq]; all_goals ((repeat' apply And.intro) <;> first | rfl | omega | (show (_:Bool)=true; kernel_rfl) | decide))
  ·skip
   simp only [Tryz.f183,O0_all,hg,hm,w12,fEnd,r_scpG,scopeG,findLabel,fv,sv,fEnd,cv',cf_eta,shC_dec,dC,T23,T42,T30,row1,row2,row3,row5,shI_dec,shN_dec,shM_dec,dI,dN,dM,dU_map,iv,bv,u,ms,ctx_T,ctx_C,T3,T40,Option.bind_some,shF_dec,dF,ev1,ev2,implies_true,undef,dynCall,↓condE_t,↓condE_f,cv,stepB,stepE,callD,tabD,aopR,one,pre,binR,intOpR,unR,argFrm,evo,lkp,hlk,ofVal,ofCells,setCells,AV.wr,AV.ok1,TK.agg,frz,frz1,frzA,subA,subB,sub1,accOf,Nat.reduceAdd,Nat.reduceEqDiff,Nat.reduceLT,Nat.reduceLeDiff,reduceCtorEq,eq_self,ne_eq,Int.reduceBEq,Int.reduceEq]
   repeat' apply And.intro
   all_goals first | rfl | omega | (show entryOk _ _ _ _ _=true; kernel_rfl) | (refine WP.of okO0 1 (by rfl) ?_)
   all_goals (simp only [r_ngR,T42,T30,hfree_lu,ctx_T,T3,ev1,ev2,implies_true,undef,dynCall,resB,cv,stepB,stepE,aopR,one,pre,evo,lkp,hlk,ofCells,setCells,AV.wr,AV.ok1,TK.agg,frz1,frzt,frzs,frzA,subB,subM,subL,sub1,accOf,Nat.reduceAdd,Nat.reduceEqDiff,Nat.reduceLT,Nat.reduceLeDiff,reduceCtorEq,eq_self,ne_eq]; all_goals ((repeat' apply And.intro) <;> first | rfl | omega | (show (_:Bool)=true; kernel_rfl) | decide))
  ·by_cases q:far x (mLoad m (lTop c who)) < 0
   ·skip
    simp only [Tryz.f183,O0_all,hg,hm,w23,q,fEnd,r_scpG,scopeG,findLabel,fv,sv,fEnd,cv',cf_eta,shC_dec,dC,T23,T42,T30,row1,row2,row5,shI_dec,shN_dec,shM_dec,dI,dN,dM,dU_map,iv,bv,u,ms,ctx_T,ctx_C,T3,T40,Option.bind_some,shF_dec,dF,ev1,ev2,implies_true,undef,dynCall,↓condE_t,↓condE_f,cv,stepB,stepE,callD,tabD,aopR,one,pre,binR,intOpR,unR,argFrm,evo,lkp,hlk,ofVal,ofCells,setCells,AV.wr,AV.ok1,TK.agg,frz,frz1,frzA,subA,subB,sub1,accOf,Nat.reduceAdd,Nat.reduceEqDiff,Nat.reduceLT,Nat.reduceLeDiff,reduceCtorEq,eq_self,ne_eq,Int.reduceBEq,Int.reduceEq]
    repeat' apply And.intro
    all_goals first | rfl | omega | (show entryOk _ _ _ _ _=true; kernel_rfl) | (refine WP.of okO0 1 (by rfl) ?_)
    all_goals (simp only [r_ngR,T42,T30,hfree_lu,ctx_T,T3,ev1,ev2,implies_true,undef,dynCall,resB,cv,stepB,stepE,aopR,one,pre,evo,lkp,hlk,ofCells,setCells,AV.wr,AV.ok1,TK.agg,frz1,frzt,frzs,frzA,subB,subM,subL,sub1,accOf,Nat.reduceAdd,Nat.reduceEqDiff,Nat.reduceLT,Nat.reduceLeDiff,reduceCtorEq,eq_self,ne_eq]; all_goals ((repeat' apply And.intro) <;> first | rfl | omega | (show (_:Bool)=true; kernel_rfl) | decide))
   ·skip
    simp only [Tryz.f183,O0_all,hg,hm,w23,q,fEnd,r_scpG,scopeG,findLabel,fv,sv,fEnd,cv',cf_eta,shC_dec,dC,T23,T42,T30,row1,row2,row5,shI_dec,shN_dec,shM_dec,dI,dN,dM,dU_map,iv,bv,u,ms,ctx_T,ctx_C,T3,T40,Option.bind_some,shF_dec,dF,ev1,ev2,implies_true,undef,dynCall,↓condE_t,↓condE_f,cv,stepB,stepE,callD,tabD,aopR,one,pre,binR,intOpR,unR,argFrm,evo,lkp,hlk,ofVal,ofCells,setCells,AV.wr,AV.ok1,TK.agg,frz,frz1,frzA,subA,subB,sub1,accOf,Nat.reduceAdd,Nat.reduceEqDiff,Nat.reduceLT,Nat.reduceLeDiff,reduceCtorEq,eq_self,ne_eq,Int.reduceBEq,Int.reduceEq]
    repeat' apply And.intro
    all_goals first | rfl | omega | (show entryOk _ _ _ _ _=true; kernel_rfl) | (refine WP.of okO0 1 (by rfl) ?_)
    all_goals (simp only [r_ngR,T42,T30,hfree_lu,ctx_T,T3,ev1,ev2,implies_true,undef,dynCall,resB,cv,stepB,stepE,aopR,one,pre,evo,lkp,hlk,ofCells,setCells,AV.wr,AV.ok1,TK.agg,frz1,frzt,frzs,frzA,subB,subM,subL,sub1,accOf,Nat.reduceAdd,Nat.reduceEqDiff,Nat.reduceLT,Nat.reduceLeDiff,reduceCtorEq,eq_self,ne_eq]; all_goals ((repeat' apply And.intro) <;> first | rfl | omega | (show (_:Bool)=true; kernel_rfl) | decide))
  ·by_cases q:x=y
   ·subst q
    simp only [Tryz.f183,O0_all,hg,hm,w34,bne_self_eq_false,fEnd,r_scpG,scopeG,findLabel,fv,sv,fEnd,cv',cf_eta,shC_dec,dC,T23,T42,T30,row1,row2,row3,row5,shI_dec,shN_dec,shM_dec,dI,dN,dM,dU_map,iv,bv,u,ms,ctx_T,ctx_C,T3,T40,Option.bind_some,shF_dec,dF,ev1,ev2,implies_true,undef,dynCall,↓condE_t,↓condE_f,cv,stepB,stepE,callD,tabD,aopR,one,pre,binR,intOpR,unR,argFrm,evo,lkp,hlk,ofVal,ofCells,setCells,AV.wr,AV.ok1,TK.agg,frz,frz1,frzA,subA,subB,sub1,accOf,Nat.reduceAdd,Nat.reduceEqDiff,Nat.reduceLT,Nat.reduceLeDiff,reduceCtorEq,eq_self,ne_eq,Int.reduceBEq,Int.reduceEq]
    repeat' apply And.intro
    all_goals first | rfl | omega | (show entryOk _ _ _ _ _=true; kernel_rfl) | (refine WP.of okO0 1 (by rfl) ?_)
    all_goals (simp only [r_ngR,T42,T30,hfree_lu,ctx_T,T3,ev1,ev2,implies_true,undef,dynCall,resB,cv,stepB,stepE,aopR,one,pre,evo,lkp,hlk,ofCells,setCells,AV.wr,AV.ok1,TK.agg,frz1,frzt,frzs,frzA,subB,subM,subL,sub1,accOf,Nat.reduceAdd,Nat.reduceEqDiff,Nat.reduceLT,Nat.reduceLeDiff,reduceCtorEq,eq_self,ne_eq]; all_goals ((repeat' apply And.intro) <;> first | rfl | omega | (show (_:Bool)=true; kernel_rfl) | decide))
   ·have q1:(x != y)=true:=by simpa using q
    simp only [Tryz.f183,O0_all,hg,hm,w34,q,q1,fEnd,fv,sv,fEnd,cv',cf_eta,shC_dec,dC,T23,T42,T30,hfree_lu,row1,row2,row3,row5,shI_dec,shN_dec,shM_dec,dI,dN,dM,dU_map,iv,bv,u,ms,ctx_T,ctx_C,T3,T40,Option.bind_some,shF_dec,dF,ev1,ev2,implies_true,undef,dynCall,↓condE_t,↓condE_f,resB,cv,stepB,stepE,callD,tabD,aopR,one,pre,binR,intOpR,unR,argFrm,evo,lkp,hlk,ofVal,ofCells,setCells,AV.wr,AV.ok1,TK.agg,frz,frz1,frzt,frzs,frzA,subA,subB,subM,subL,sub1,accOf,Nat.reduceAdd,Nat.reduceEqDiff,Nat.reduceLT,Nat.reduceLeDiff,reduceCtorEq,eq_self,ne_eq,Int.reduceBEq,Int.reduceEq]
    repeat' apply And.intro
    all_goals first | rfl | omega | (show entryOk _ _ _ _ _=true; kernel_rfl) | (refine WP.of okO0 1 (by rfl) ?_)
    all_goals (simp only [O0_all,hg,hm,hu,w01,w12,w23,w34,w45,w56,w67,len_store,len_cas,q,q1,fEnd,r_scpG,r_ngR,r_ngN,scopeG,findLabel,inl,fv,sv,lv,ov,fBegin,fEnd,r_rounds,hfree_fr,hfree_cf,cv',cf_eta,frz_u,shC_dec,dC,T23,T42,T30,hfree_lu,hfree_l0,row0,row1,row2,row3,row4,row5,shI_dec,shN_dec,shB_dec,shM_dec,dI,dN,dB,dM,dU,dU_map,iv,bv,u,ms,ctx_T,ctx_C,ctx_P,T4,T3,T40,Option.bind_some,Option.bind_none,Option.map_some,List.length_map,List.length_set,String.reduceBEq,Int.toNat_natCast,Bool.true_beq,Bool.false_beq,T29,shF_dec,dF,fr_eta,ev1,ev2,implies_true,undef,stepP,drawB,stepL,lateB,lateB0,mixB,mixB0,usesT,mvV,stepM,rdsT,rdsAny,isRd,afterL,preB,callLB,callLV,lateV,dstV,dynCall,↓condE_t,↓condE_f,↓guardE_tt,↓guardE_ff,↓guardE_tf,↓guardE_ft,frzDeep,deepArgs,deepArg,resB,cv,stepB,stepE,callD,tabD,snapD,frzD,frzHs,frzH,ownD,snap1,snapC,snapId,snapIds,guardB,guardC,dstAt,aopR,one,pre,binR,intOpR,shiftOpR,unR,argFrm,evo,lkp,hlk,lenOf,asLst,idOf,bndA,srcOk,ofVal,ofCells,setCells,fillA,setElems,fieldsOf,fieldsEq,scalEq,isEq,AV.wr,AV.ok1,TK.agg,frz,frz1,frzt,frzs,frzA,frzArg,frzArgs,subA,subB,subM,subL,sub1,kp,kh,accOf,List.replicate,Nat.reduceAdd,Nat.reduceSub,Nat.reduceMul,Nat.reduceEqDiff,Nat.reduceLT,Nat.reduceLeDiff,Nat.reduceBEq,reduceIte,reduceCtorEq,eq_self,ne_eq,Int.reduceToNat,Int.reduceLT,Int.reduceLE,Int.reduceGT,Int.reduceGE,Int.reduceBEq,Int.reduceBNe,Int.reduceEq,Int.reduceNe]; all_goals ((repeat' apply And.intro) <;> first | rfl | omega | (show (_:Bool)=true; kernel_rfl) | decide))
  ·cases q:mCasB m (lTop c who) y with
   | true=>
    simp only [Tryz.f183,O0_all,hg,hm,hu,w45,q,fEnd,r_scpG,scopeG,findLabel,fv,sv,fEnd,cv',cf_eta,shC_dec,dC,T23,T42,T30,row1,row2,row4,row5,shI_dec,shN_dec,shM_dec,dI,dN,dM,dU_map,iv,bv,u,ms,ctx_T,ctx_C,T3,T40,Option.bind_some,shF_dec,dF,ev1,ev2,implies_true,undef,dynCall,↓condE_t,↓condE_f,cv,stepB,stepE,callD,tabD,aopR,one,pre,binR,intOpR,unR,argFrm,evo,lkp,hlk,ofVal,ofCells,setCells,AV.wr,AV.ok1,TK.agg,frz,frz1,frzA,subA,subB,sub1,accOf,Nat.reduceAdd,Nat.reduceEqDiff,Nat.reduceLT,Nat.reduceLeDiff,reduceCtorEq,eq_self,ne_eq,Int.reduceBEq,Int.reduceEq]
    repeat' apply And.intro
    all_goals first | rfl | omega | (show entryOk _ _ _ _ _=true; kernel_rfl) | (refine WP.of okO0 1 (by rfl) ?_)
    all_goals (simp only [r_ngR,T42,T30,hfree_lu,ctx_T,T3,ev1,ev2,implies_true,undef,dynCall,resB,cv,stepB,stepE,aopR,one,pre,evo,lkp,hlk,ofCells,setCells,AV.wr,AV.ok1,TK.agg,frz1,frzt,frzs,frzA,subB,subM,subL,sub1,accOf,Nat.reduceAdd,Nat.reduceEqDiff,Nat.reduceLT,Nat.reduceLeDiff,reduceCtorEq,eq_self,ne_eq]; all_goals ((repeat' apply And.intro) <;> first | rfl | omega | (show (_:Bool)=true; kernel_rfl) | decide))
   | false=>
    simp only [Tryz.f183,O0_all,hg,hm,hu,w45,q,fEnd,r_scpG,scopeG,findLabel,fv,sv,fEnd,cv',cf_eta,shC_dec,dC,T23,T42,T30,row1,row2,row4,row5,shI_dec,shN_dec,shM_dec,dI,dN,dM,dU_map,iv,bv,u,ms,ctx_T,ctx_C,T3,T40,Option.bind_some,shF_dec,dF,ev1,ev2,implies_true,undef,dynCall,↓condE_t,↓condE_f,cv,stepB,stepE,callD,tabD,aopR,one,pre,binR,intOpR,unR,argFrm,evo,lkp,hlk,ofVal,ofCells,setCells,AV.wr,AV.ok1,TK.agg,frz,frz1,frzA,subA,subB,sub1,accOf,Nat.reduceAdd,Nat.reduceEqDiff,Nat.reduceLT,Nat.reduceLeDiff,reduceCtorEq,eq_self,ne_eq,Int.reduceBEq,Int.reduceEq]
    repeat' apply And.intro
    all_goals first | rfl | omega | (show entryOk _ _ _ _ _=true; kernel_rfl) | (refine WP.of okO0 1 (by rfl) ?_)
    all_goals (simp only [r_ngR,T42,T30,hfree_lu,ctx_T,T3,ev1,ev2,implies_true,undef,dynCall,resB,cv,stepB,stepE,aopR,one,pre,evo,lkp,hlk,ofCells,setCells,AV.wr,AV.ok1,TK.agg,frz1,frzt,frzs,frzA,subB,subM,subL,sub1,accOf,Nat.reduceAdd,Nat.reduceEqDiff,Nat.reduceLT,Nat.reduceLeDiff,reduceCtorEq,eq_self,ne_eq]; all_goals ((repeat' apply And.intro) <;> first | rfl | omega | (show (_:Bool)=true; kernel_rfl) | decide))
  ·skip
   simp only [Tryz.f183,Tryz.func203,Tryz.f203,O0_all,hg,hm,hu,w56,fEnd,inl,fv,sv,fEnd,cv',cf_eta,shC_dec,dC,T23,T42,T30,hfree_lu,row1,row2,row3,row5,shI_dec,shN_dec,shM_dec,dI,dN,dM,dU_map,iv,bv,u,ms,ctx_T,ctx_C,ctx_P,T3,T40,Option.bind_some,String.reduceBEq,shF_dec,dF,ev1,ev2,implies_true,undef,dynCall,↓condE_t,↓condE_f,frzDeep,deepArgs,deepArg,resB,cv,stepB,stepE,callD,tabD,aopR,one,pre,binR,intOpR,unR,argFrm,evo,lkp,hlk,ofVal,ofCells,setCells,AV.wr,AV.ok1,TK.agg,frz,frz1,frzt,frzs,frzA,frzArg,frzArgs,subA,subB,subM,subL,sub1,accOf,Nat.reduceAdd,Nat.reduceEqDiff,Nat.reduceLT,Nat.reduceLeDiff,reduceCtorEq,eq_self,ne_eq,Int.reduceBEq,Int.reduceEq]
   repeat' apply And.intro
   all_goals first | rfl | omega | (show entryOk _ _ _ _ _=true; kernel_rfl) | (refine WP.of okO0 1 (by rfl) ?_)
   all_goals (simp only [O0_all,hg,hm,hu,w01,w12,w23,w34,w45,w56,w67,len_store,len_cas,fEnd,r_scpG,r_ngR,r_ngN,scopeG,findLabel,inl,fv,sv,lv,ov,fBegin,fEnd,r_rounds,hfree_fr,hfree_cf,cv',cf_eta,frz_u,shC_dec,dC,T23,T42,T30,hfree_lu,hfree_l0,row0,row1,row2,row3,row4,row5,shI_dec,shN_dec,shB_dec,shM_dec,dI,dN,dB,dM,dU,dU_map,iv,bv,u,ms,ctx_T,ctx_C,ctx_P,T4,T3,T40,Option.bind_some,Option.bind_none,Option.map_some,List.length_map,List.length_set,String.reduceBEq,Int.toNat_natCast,Bool.true_beq,Bool.false_beq,T29,shF_dec,dF,fr_eta,ev1,ev2,implies_true,undef,stepP,drawB,stepL,lateB,lateB0,mixB,mixB0,usesT,mvV,stepM,rdsT,rdsAny,isRd,afterL,preB,callLB,callLV,lateV,dstV,dynCall,↓condE_t,↓condE_f,↓guardE_tt,↓guardE_ff,↓guardE_tf,↓guardE_ft,frzDeep,deepArgs,deepArg,resB,cv,stepB,stepE,callD,tabD,snapD,frzD,frzHs,frzH,ownD,snap1,snapC,snapId,snapIds,guardB,guardC,dstAt,aopR,one,pre,binR,intOpR,shiftOpR,unR,argFrm,evo,lkp,hlk,lenOf,asLst,idOf,bndA,srcOk,ofVal,ofCells,setCells,fillA,setElems,fieldsOf,fieldsEq,scalEq,isEq,AV.wr,AV.ok1,TK.agg,frz,frz1,frzt,frzs,frzA,frzArg,frzArgs,subA,subB,subM,subL,sub1,kp,kh,accOf,List.replicate,Nat.reduceAdd,Nat.reduceSub,Nat.reduceMul,Nat.reduceEqDiff,Nat.reduceLT,Nat.reduceLeDiff,Nat.reduceBEq,reduceIte,reduceCtorEq,eq_self,ne_eq,Int.reduceToNat,Int.reduceLT,Int.reduceLE,Int.reduceGT,Int.reduceGE,Int.reduceBEq,Int.reduceBNe,Int.reduceEq,Int.reduceNe]; all_goals ((repeat' apply And.intro) <;> first | rfl | omega | (show (_:Bool)=true; kernel_rfl) | decide))
  ·skip
   simp only [Tryz.f183,Tryz.func203,Tryz.f203,O0_all,hg,hm,hu,w67,fEnd,inl,fv,sv,fEnd,cv',cf_eta,shC_dec,dC,T23,T42,T30,hfree_lu,row1,row2,row3,row5,shI_dec,shN_dec,shM_dec,dI,dN,dM,dU_map,iv,bv,u,ms,ctx_T,ctx_C,ctx_P,T3,T40,Option.bind_some,String.reduceBEq,shF_dec,dF,ev1,ev2,implies_true,undef,dynCall,↓condE_f,frzDeep,deepArgs,deepArg,resB,cv,stepB,stepE,callD,tabD,aopR,one,pre,binR,intOpR,unR,argFrm,evo,lkp,hlk,ofVal,ofCells,setCells,AV.wr,AV.ok1,TK.agg,frz,frz1,frzt,frzs,frzA,frzArg,frzArgs,subA,subB,subM,subL,sub1,accOf,Nat.reduceAdd,Nat.reduceEqDiff,Nat.reduceLT,Nat.reduceLeDiff,reduceCtorEq,eq_self,ne_eq,Int.reduceBEq,Int.reduceEq]
   repeat' apply And.intro
   all_goals first | rfl | omega | (show entryOk _ _ _ _ _=true; kernel_rfl) | (refine WP.of okO0 1 (by rfl) ?_)
   all_goals (simp only [O0_all,hg,hm,hu,w01,w12,w23,w34,w45,w56,w67,len_store,len_cas,fEnd,r_scpG,r_ngR,r_ngN,scopeG,findLabel,inl,fv,sv,lv,ov,fBegin,fEnd,r_rounds,hfree_fr,hfree_cf,cv',cf_eta,frz_u,shC_dec,dC,T23,T42,T30,hfree_lu,hfree_l0,row0,row1,row2,row3,row4,row5,shI_dec,shN_dec,shB_dec,shM_dec,dI,dN,dB,dM,dU,dU_map,iv,bv,u,ms,ctx_T,ctx_C,ctx_P,T4,T3,T40,Option.bind_some,Option.bind_none,Option.map_some,List.length_map,List.length_set,String.reduceBEq,Int.toNat_natCast,Bool.true_beq,Bool.false_beq,T29,shF_dec,dF,fr_eta,ev1,ev2,implies_true,undef,stepP,drawB,stepL,lateB,lateB0,mixB,mixB0,usesT,mvV,stepM,rdsT,rdsAny,isRd,afterL,preB,callLB,callLV,lateV,dstV,dynCall,↓condE_t,↓condE_f,↓guardE_tt,↓guardE_ff,↓guardE_tf,↓guardE_ft,frzDeep,deepArgs,deepArg,resB,cv,stepB,stepE,callD,tabD,snapD,frzD,frzHs,frzH,ownD,snap1,snapC,snapId,snapIds,guardB,guardC,dstAt,aopR,one,pre,binR,intOpR,shiftOpR,unR,argFrm,evo,lkp,hlk,lenOf,asLst,idOf,bndA,srcOk,ofVal,ofCells,setCells,fillA,setElems,fieldsOf,fieldsEq,scalEq,isEq,AV.wr,AV.ok1,TK.agg,frz,frz1,frzt,frzs,frzA,frzArg,frzArgs,subA,subB,subM,subL,sub1,kp,kh,accOf,List.replicate,Nat.reduceAdd,Nat.reduceSub,Nat.reduceMul,Nat.reduceEqDiff,Nat.reduceLT,Nat.reduceLeDiff,Nat.reduceBEq,reduceIte,reduceCtorEq,eq_self,ne_eq,Int.reduceToNat,Int.reduceLT,Int.reduceLE,Int.reduceGT,Int.reduceGE,Int.reduceBEq,Int.reduceBNe,Int.reduceEq,Int.reduceNe]; all_goals ((repeat' apply And.intro) <;> first | rfl | omega | (show (_:Bool)=true; kernel_rfl) | decide))
end Go.Vai

/- Popping: the document's step; the table. -/
namespace Go.Vai
open Go.RowKit Go.Proofs
set_option maxHeartbeats 4000000
set_option maxRecDepth 100000
def rowsO1:List Row:=[
 (183,row3 shC shM shF fun c m f=>some (sv (oStep c m f)))] ++ rowsPD
theorem rowsO1_ok:∀ p∈rowsO1,RowOk Tryz.prog p:=fun p h=>by
 simp only [rowsO1,List.mem_append,List.mem_cons,List.not_mem_nil,or_false] at h
 rcases h with rfl | h
 ·exact ok_row3 (enters_of Tryz.func183 (by decide) rfl) fun c m f r _ g _ e=>by cases e; exact ostep_pure c m f (shM_got g)
 ·exact rowsPD_ok p h
end Go.Vai

/- Stealing: a step. -/
namespace Go.Vai
open Go.RowKit Go.Proofs
set_option maxHeartbeats 4000000
set_option maxRecDepth 100000
def rowsZ0:List Row:=[] ++ rowsPD
theorem rowsZ0_ok:∀ p∈rowsZ0,RowOk Tryz.prog p:=fun p h=>by
 simp only [rowsZ0,List.mem_append,List.not_mem_nil,false_or] at h
 rcases h with h
 ·exact rowsPD_ok p h
theorem okZ0:(ctx Tryz.prog rowsZ0).ok:=rows_ok rowsZ0_ok
theorem Z0_all:tabC rowsZ0 204=(fun _=>none)∧tabC rowsZ0 205=(fun _=>none)∧tabC rowsZ0 206=(fun _=>none)∧tabC rowsZ0 207=(fun _=>none)∧tabC rowsZ0 164=(row5 shC shM shF shI shI fun c m f op pcs=>some (bv (goes c m f op pcs)))∧tabC rowsZ0 79=(row1 shM fun m=>some (ms m))∧tabC rowsZ0 12=(row2 shM shI fun m i=>some (u (mLoad m i)))∧tabC rowsZ0 167=(row4 shM shI shN shN fun m i v w=>some (.tup [ms (mCas m i v w),bv (mCasB m i v)]))∧tabC rowsZ0 71=(row2 shC shI fun c w=>some (iv (lTop c w)))∧tabC rowsZ0 72=(row2 shC shI fun c w=>some (iv (lBottom c w)))∧tabC rowsZ0 73=(row3 shC shI shN fun c w x=>some (iv (lSlot c w x)))∧tabC rowsZ0 70=(row2 shN shN fun a b=>some (iv (far a b)))∧tabC rowsZ0 55=(row1 shF fun f=>some (bv (f.res != 0)))∧tabC rowsZ0 168=(row3 shF shI shN fun f r v=>some (fv (fEnd f r v))):=⟨rfl,rfl,rfl,rfl,rfl,rfl,rfl,rfl,rfl,rfl,rfl,rfl,rfl,rfl⟩
theorem sstep_pure (c:Cf) (m:List Int) (f:Fr) (hm:m.length≤1000):PureC Tryz.prog 184 [cv' c,ms m,fv f] (sv (sStep c m f)):=by
 refine pure_sub okZ0 2 Tryz.func184 rfl (by show 3≤_; decide) ?_
 cases hg:goes c m f 2 4 with
 | false=>
  rw [sStep_no hg]
  simp only [Tryz.f184,Z0_all,hg,hm,fv,sv,cv',cf_eta,shC_dec,dC,T23,T42,T30,hfree_lu,row1,row5,shI_dec,shM_dec,dI,dM,dU_map,iv,bv,u,ms,ctx_T,ctx_C,Option.bind_some,shF_dec,dF,fr_eta,ev1,ev2,implies_true,undef,dynCall,↓condE_t,resB,cv,stepB,stepE,aopR,one,pre,unR,argFrm,evo,lkp,hlk,ofVal,ofCells,setCells,AV.wr,AV.ok1,TK.agg,frz,frz1,frzt,frzs,frzA,subA,subB,subM,subL,sub1,accOf,Nat.reduceAdd,Nat.reduceEqDiff,Nat.reduceLT,Nat.reduceLeDiff,reduceCtorEq,eq_self,ne_eq]
  all_goals ((repeat' apply And.intro) <;> first | rfl | omega | (show (_:Bool)=true; kernel_rfl) | decide)
 | true=>
  have hu:∀ x,IntKind.wrap .u64 x=wrapU x:=fun _=>rfl
  obtain ⟨hl,hres,hop,h0,h1⟩:=goes_iff.1 hg
  obtain ⟨op,pc,who,val,x,y,res⟩:=f
  dsimp only at h0 h1 hres hop
  subst hres hop
  have hpc:pc=0∨pc=1∨pc=2∨pc=3:=by omega
  unfold sStep
  rw [if_pos hg]
  rcases hpc with rfl | rfl | rfl | rfl
  ·skip
   simp only [Tryz.f184,T218,T1,Z0_all,hg,hm,fEnd,Int.cast_ofNat_Int,fv,sv,fEnd,cv',cf_eta,shC_dec,dC,T23,T42,T30,row1,row2,row5,shI_dec,shM_dec,dI,dM,dU_map,iv,bv,u,ms,ctx_T,ctx_C,T3,Option.bind_some,shF_dec,dF,ev1,ev2,implies_true,undef,dynCall,↓condE_f,cv,stepB,stepE,callD,tabD,aopR,one,pre,unR,argFrm,evo,lkp,hlk,lenOf,ofVal,ofCells,setCells,setElems,AV.wr,AV.ok1,TK.agg,frz,frz1,frzA,subA,subB,sub1,accOf,List.replicate,Nat.reduceAdd,Nat.reduceMul,Nat.reduceEqDiff,Nat.reduceLT,Nat.reduceLeDiff,reduceCtorEq,eq_self,ne_eq,Int.reduceEq]
   repeat' apply And.intro
   all_goals first | rfl | omega | (show entryOk _ _ _ _ _=true; kernel_rfl) | (refine WP.rounds okZ0 2 5 (by rfl) ?_)
   all_goals (simp only [T218,T1,Tryz.func204,Tryz.f204,Tryz.func205,Tryz.f205,Tryz.func206,Tryz.f206,Tryz.func207,Tryz.f207,Z0_all,hm,hu,x1,x2,x3,x4,fEnd,Int.cast_ofNat_Int,Int.reduceAdd,inl,fv,fEnd,r_rounds,cf_eta,shC_dec,dC,T23,T42,T30,hfree_lu,row1,row2,row3,row4,shI_dec,shN_dec,shM_dec,dI,dN,dM,dU_map,iv,bv,u,ms,ctx_T,ctx_C,ctx_P,T3,T40,Option.bind_some,String.reduceBEq,shF_dec,dF,ev1,ev2,implies_true,undef,dynCall,↓condE_t,↓condE_f,frzDeep,deepArgs,deepArg,resB,cv,stepB,stepE,callD,tabD,aopR,one,pre,binR,intOpR,unR,argFrm,evo,lkp,hlk,ofCells,setCells,AV.wr,AV.ok1,TK.agg,frz1,frzt,frzs,frzA,frzArg,frzArgs,subB,subM,subL,sub1,accOf,Nat.reduceAdd,Nat.reduceEqDiff,Nat.reduceLT,Nat.reduceLeDiff,reduceCtorEq,eq_self,ne_eq,Int.reduceToNat,Int.reduceLT,Int.reduceLE,Int.reduceBNe]; all_goals ((repeat' apply And.intro) <;> first | rfl | omega | (show (_:Bool)=true; kernel_rfl) | decide))
  ·by_cases q:far (mLoad m (lBottom c who)) y≤0
   ·skip
    simp only [Tryz.f184,T218,T1,Z0_all,hg,hm,q,fEnd,Int.cast_ofNat_Int,fv,sv,fEnd,cv',cf_eta,shC_dec,dC,T23,T42,T30,row1,row2,row5,shI_dec,shM_dec,dI,dM,dU_map,iv,bv,u,ms,ctx_T,ctx_C,T3,Option.bind_some,shF_dec,dF,ev1,ev2,implies_true,undef,dynCall,↓condE_f,cv,stepB,stepE,callD,tabD,aopR,one,pre,unR,argFrm,evo,lkp,hlk,lenOf,ofVal,ofCells,setCells,setElems,AV.wr,AV.ok1,TK.agg,frz,frz1,frzA,subA,subB,sub1,accOf,List.replicate,Nat.reduceAdd,Nat.reduceMul,Nat.reduceEqDiff,Nat.reduceLT,Nat.reduceLeDiff,reduceCtorEq,eq_self,ne_eq,Int.reduceEq]
    repeat' apply And.intro
    all_goals first | rfl | omega | (show entryOk _ _ _ _ _=true; kernel_rfl) | (refine WP.rounds okZ0 2 5 (by rfl) ?_)
    all_goals (simp only [T218,T1,Tryz.func205,Tryz.f205,Z0_all,hm,x1,x2,x3,x4,q,fEnd,Int.cast_ofNat_Int,Int.reduceAdd,inl,fv,fEnd,r_rounds,T42,T30,hfree_lu,row1,row2,row3,shI_dec,shN_dec,shM_dec,dI,dN,dM,dU_map,iv,bv,u,ctx_T,ctx_C,ctx_P,T3,T40,Option.bind_some,String.reduceBEq,shF_dec,dF,ev1,ev2,implies_true,undef,dynCall,↓condE_t,↓condE_f,frzDeep,deepArgs,deepArg,resB,cv,stepB,stepE,aopR,one,pre,binR,intOpR,unR,argFrm,evo,lkp,hlk,ofCells,setCells,AV.wr,AV.ok1,TK.agg,frz1,frzt,frzs,frzA,frzArg,frzArgs,subB,subM,subL,sub1,accOf,Nat.reduceAdd,Nat.reduceEqDiff,Nat.reduceLT,Nat.reduceLeDiff,reduceCtorEq,eq_self,ne_eq,Int.reduceToNat,Int.reduceLT,Int.reduceLE,Int.reduceBNe]; all_goals ((repeat' apply And.intro) <;> first | rfl | omega | (show (_:Bool)=true; kernel_rfl) | decide))
   ·skip
    simp only [Tryz.f184,T218,T1,Z0_all,hg,hm,q,fEnd,Int.cast_ofNat_Int,fv,sv,fEnd,cv',cf_eta,shC_dec,dC,T23,T42,T30,row1,row2,row5,shI_dec,shM_dec,dI,dM,dU_map,iv,bv,u,ms,ctx_T,ctx_C,T3,Option.bind_some,shF_dec,dF,ev1,ev2,implies_true,undef,dynCall,↓condE_f,cv,stepB,stepE,callD,tabD,aopR,one,pre,unR,argFrm,evo,lkp,hlk,lenOf,ofVal,ofCells,setCells,setElems,AV.wr,AV.ok1,TK.agg,frz,frz1,frzA,subA,subB,sub1,accOf,List.replicate,Nat.reduceAdd,Nat.reduceMul,Nat.reduceEqDiff,Nat.reduceLT,Nat.reduceLeDiff,reduceCtorEq,eq_self,ne_eq,Int.reduceEq]
    repeat' apply And.intro
    all_goals first | rfl | omega | (show entryOk _ _ _ _ _=true; kernel_rfl) | (refine WP.rounds okZ0 2 5 (by rfl) ?_)
    all_goals (simp only [T218,T1,Tryz.func205,Tryz.f205,Tryz.func206,Tryz.f206,Tryz.func207,Tryz.f207,Z0_all,hm,hu,x1,x2,x3,x4,q,fEnd,Int.cast_ofNat_Int,Int.reduceAdd,inl,fv,fEnd,r_rounds,cf_eta,shC_dec,dC,T23,T42,T30,hfree_lu,row1,row2,row3,row4,shI_dec,shN_dec,shM_dec,dI,dN,dM,dU_map,iv,bv,u,ms,ctx_T,ctx_C,ctx_P,T3,T40,Option.bind_some,String.reduceBEq,shF_dec,dF,ev1,ev2,implies_true,undef,dynCall,↓condE_t,↓condE_f,frzDeep,deepArgs,deepArg,resB,cv,stepB,stepE,callD,tabD,aopR,one,pre,binR,intOpR,unR,argFrm,evo,lkp,hlk,ofCells,setCells,AV.wr,AV.ok1,TK.agg,frz1,frzt,frzs,frzA,frzArg,frzArgs,subB,subM,subL,sub1,accOf,Nat.reduceAdd,Nat.reduceEqDiff,Nat.reduceLT,Nat.reduceLeDiff,reduceCtorEq,eq_self,ne_eq,Int.reduceToNat,Int.reduceLT,Int.reduceLE,Int.reduceBNe]; all_goals ((repeat' apply And.intro) <;> first | rfl | omega | (show (_:Bool)=true; kernel_rfl) | decide))
  ·skip
   simp only [Tryz.f184,T218,T1,Z0_all,hg,hm,fEnd,Int.cast_ofNat_Int,fv,sv,fEnd,cv',cf_eta,shC_dec,dC,T23,T42,T30,row1,row2,row5,shI_dec,shM_dec,dI,dM,dU_map,iv,bv,u,ms,ctx_T,ctx_C,T3,Option.bind_some,shF_dec,dF,ev1,ev2,implies_true,undef,dynCall,↓condE_f,cv,stepB,stepE,callD,tabD,aopR,one,pre,unR,argFrm,evo,lkp,hlk,lenOf,ofVal,ofCells,setCells,setElems,AV.wr,AV.ok1,TK.agg,frz,frz1,frzA,subA,subB,sub1,accOf,List.replicate,Nat.reduceAdd,Nat.reduceMul,Nat.reduceEqDiff,Nat.reduceLT,Nat.reduceLeDiff,reduceCtorEq,eq_self,ne_eq,Int.reduceEq]
   repeat' apply And.intro
   all_goals first | rfl | omega | (show entryOk _ _ _ _ _=true; kernel_rfl) | (refine WP.rounds okZ0 2 5 (by rfl) ?_)
   all_goals (simp only [T218,T1,Tryz.func206,Tryz.f206,Tryz.func207,Tryz.f207,Z0_all,hm,hu,x1,x2,x3,x4,fEnd,Int.cast_ofNat_Int,Int.reduceAdd,inl,fv,fEnd,r_rounds,cf_eta,shC_dec,dC,T23,T42,T30,hfree_lu,row1,row2,row3,row4,shI_dec,shN_dec,shM_dec,dI,dN,dM,dU_map,iv,bv,u,ms,ctx_T,ctx_C,ctx_P,T3,T40,Option.bind_some,String.reduceBEq,shF_dec,dF,ev1,ev2,implies_true,undef,dynCall,↓condE_t,↓condE_f,frzDeep,deepArgs,deepArg,resB,cv,stepB,stepE,callD,tabD,aopR,one,pre,binR,intOpR,unR,argFrm,evo,lkp,hlk,ofCells,setCells,AV.wr,AV.ok1,TK.agg,frz1,frzt,frzs,frzA,frzArg,frzArgs,subB,subM,subL,sub1,accOf,Nat.reduceAdd,Nat.reduceEqDiff,Nat.reduceLT,Nat.reduceLeDiff,reduceCtorEq,eq_self,ne_eq,Int.reduceToNat,Int.reduceLT,Int.reduceLE,Int.reduceBNe]; all_goals ((repeat' apply And.intro) <;> first | rfl | omega | (show (_:Bool)=true; kernel_rfl) | decide))
  ·cases q:mCasB m (lTop c who) y with
   | true=>
    simp only [Tryz.f184,T218,T1,Z0_all,hg,hm,fEnd,Int.cast_ofNat_Int,fv,sv,fEnd,cv',cf_eta,shC_dec,dC,T23,T42,T30,row1,row2,row5,shI_dec,shM_dec,dI,dM,dU_map,iv,bv,u,ms,ctx_T,ctx_C,T3,Option.bind_some,shF_dec,dF,ev1,ev2,implies_true,undef,dynCall,↓condE_f,cv,stepB,stepE,callD,tabD,aopR,one,pre,unR,argFrm,evo,lkp,hlk,lenOf,ofVal,ofCells,setCells,setElems,AV.wr,AV.ok1,TK.agg,frz,frz1,frzA,subA,subB,sub1,accOf,List.replicate,Nat.reduceAdd,Nat.reduceMul,Nat.reduceEqDiff,Nat.reduceLT,Nat.reduceLeDiff,reduceCtorEq,eq_self,ne_eq,Int.reduceEq]
    repeat' apply And.intro
    all_goals first | rfl | omega | (show entryOk _ _ _ _ _=true; kernel_rfl) | (refine WP.rounds okZ0 2 5 (by rfl) ?_)
    all_goals (simp only [T218,T1,Tryz.func207,Tryz.f207,Z0_all,hm,hu,x1,x2,x3,x4,q,fEnd,Int.cast_ofNat_Int,Int.reduceAdd,inl,fv,fEnd,r_rounds,T42,T30,hfree_lu,row1,row3,row4,shI_dec,shN_dec,shM_dec,dI,dN,dM,dU_map,iv,bv,u,ms,ctx_T,ctx_C,ctx_P,T3,T40,Option.bind_some,String.reduceBEq,shF_dec,dF,ev1,ev2,implies_true,undef,dynCall,↓condE_t,↓condE_f,frzDeep,deepArgs,deepArg,resB,cv,stepB,stepE,aopR,one,pre,binR,intOpR,unR,argFrm,evo,lkp,hlk,ofCells,setCells,AV.wr,AV.ok1,TK.agg,frz1,frzt,frzs,frzA,frzArg,frzArgs,subB,subM,subL,sub1,accOf,Nat.reduceAdd,Nat.reduceEqDiff,Nat.reduceLT,Nat.reduceLeDiff,reduceCtorEq,eq_self,ne_eq,Int.reduceToNat,Int.reduceLT,Int.reduceLE,Int.reduceBNe]; all_goals ((repeat' apply And.intro) <;> first | rfl | omega | (show (_:Bool)=true; kernel_rfl) | decide))
   | false=>
    have q2:=cas_not q (wrapU (y + 1))
    simp only [Tryz.f184,T218,T1,Z0_all,hg,hm,q2,fEnd,Int.cast_ofNat_Int,fv,sv,fEnd,cv',cf_eta,shC_dec,dC,T23,T42,T30,row1,row2,row5,shI_dec,shM_dec,dI,dM,dU_map,iv,bv,u,ms,ctx_T,ctx_C,T3,Option.bind_some,shF_dec,dF,ev1,ev2,implies_true,undef,dynCall,↓condE_f,cv,stepB,stepE,callD,tabD,aopR,one,pre,unR,argFrm,evo,lkp,hlk,lenOf,ofVal,ofCells,setCells,setElems,AV.wr,AV.ok1,TK.agg,frz,frz1,frzA,subA,subB,sub1,accOf,List.replicate,Nat.reduceAdd,Nat.reduceMul,Nat.reduceEqDiff,Nat.reduceLT,Nat.reduceLeDiff,reduceCtorEq,eq_self,ne_eq,Int.reduceEq]
    repeat' apply And.intro
    all_goals first | rfl | omega | (show entryOk _ _ _ _ _=true; kernel_rfl) | (refine WP.rounds okZ0 2 5 (by rfl) ?_)
    all_goals (simp only [T218,T1,Tryz.func207,Tryz.f207,Z0_all,hm,hu,x1,x2,x3,x4,q,q2,fEnd,Int.cast_ofNat_Int,Int.reduceAdd,inl,fv,fEnd,r_rounds,T42,T30,hfree_lu,row1,row3,row4,shI_dec,shN_dec,shM_dec,dI,dN,dM,dU_map,iv,bv,u,ms,ctx_T,ctx_C,ctx_P,T3,T40,Option.bind_some,String.reduceBEq,shF_dec,dF,ev1,ev2,implies_true,undef,dynCall,↓condE_t,↓condE_f,frzDeep,deepArgs,deepArg,resB,cv,stepB,stepE,aopR,one,pre,binR,intOpR,unR,argFrm,evo,lkp,hlk,ofCells,setCells,AV.wr,AV.ok1,TK.agg,frz1,frzt,frzs,frzA,frzArg,frzArgs,subB,subM,subL,sub1,accOf,Nat.reduceAdd,Nat.reduceEqDiff,Nat.reduceLT,Nat.reduceLeDiff,reduceCtorEq,eq_self,ne_eq,Int.reduceToNat,Int.reduceLT,Int.reduceLE,Int.reduceBNe]; all_goals ((repeat' apply And.intro) <;> first | rfl | omega | (show (_:Bool)=true; kernel_rfl) | decide))
end Go.Vai

/- Stealing: the document's step; the table. -/
namespace Go.Vai
open Go.RowKit Go.Proofs
set_option maxHeartbeats 4000000
set_option maxRecDepth 100000
def rowsZ1:List Row:=[
 (184,row3 shC shM shF fun c m f=>some (sv (sStep c m f)))] ++ rowsPD
theorem rowsZ1_ok:∀ p∈rowsZ1,RowOk Tryz.prog p:=fun p h=>by
 simp only [rowsZ1,List.mem_append,List.mem_cons,List.not_mem_nil,or_false] at h
 rcases h with rfl | h
 ·exact ok_row3 (enters_of Tryz.func184 (by decide) rfl) fun c m f r _ g _ e=>by cases e; exact sstep_pure c m f (shM_got g)
 ·exact rowsPD_ok p h
end Go.Vai

/- Lists of frames, of numbers, of truths, and lists of such, as arguments. -/
namespace Go.Vai
open Go.RowKit Go.Proofs
structure El (α:Type) where
 dec:AV→Option α
 enc:α→AV
 ok:∀ a x,dec a=some x→a=enc x
 inv:∀ x,dec (enc x)=some x
 free:∀ x,HFree (enc x)
 cfree:∀ x,∀ c∈(enc x).cells,HFree c
def dL {α:Type} (d:AV→Option α):List AV→Option (List α)
 | []=>some []
 | x :: r=>(d x).bind fun a=>(dL d r).map (a :: ·)
theorem dL_map {α:Type} (E:El α):∀ l:List α,dL E.dec (l.map E.enc)=some l
 | []=>rfl
 | x :: l=>by simp [dL,E.inv,dL_map E l]
theorem dL_some {α:Type} (E:El α):∀ {xs:List AV} {l:List α},dL E.dec xs=some l→xs=l.map E.enc
 | [],l,h=>by cases h; rfl
 | x :: xs,l,h=>by
  simp only [dL,Option.bind_eq_some_iff,Option.map_eq_some_iff] at h
  obtain ⟨a,h1,r,h2,rfl⟩:=h
  rw [E.ok x a h1,dL_some E h2]
  rfl
def encL {α:Type} (n:Nat) (E:El α) (l:List α):AV:=.lst n (l.map E.enc)
theorem hfree_L {α:Type} (n:Nat) (E:El α) (l:List α):HFree (encL n E l):=hfree_lst fun x hx c hc=>by
 obtain ⟨y,_,rfl⟩:=List.mem_map.1 hx
 exact E.cfree y c hc
def decL {α:Type} (n:Nat) (E:El α) (a:AV):Option (List α):=
 match a with
 | .lst k xs=>if k=n then dL E.dec xs else none
 | .v (.slice none 0 0)=>some []
 | _=>none
theorem decL_some {α:Type} {n:Nat} {E:El α} {a:AV} {l:List α} (h:decL n E a=some l):sub1 a (encL n E l):=by
 unfold decL at h
 split at h
 ·rename_i k xs
  split at h
  ·rename_i hk
   subst hk
   rw [dL_some E h]; rfl
  ·cases h
 ·cases h; rfl
 ·cases h
def shL {α:Type} (n:Nat) (E:El α):Sh (List α):=⟨decL n E,encL n E,fun _ _ h=>decL_some h,hfree_L n E⟩
theorem shL_dec {α:Type} {n:Nat} {E:El α} (l:List α):(shL n E).dec (.lst n (l.map E.enc))=some l:=by
 simp [shL,decL,dL_map]
theorem shL_emp {α:Type} {n:Nat} {E:El α}:(shL n E).dec (.lst n [])=some []:=by
 simp [shL,decL,dL]
def elL {α:Type} (n:Nat) (E:El α):El (List α) where
 dec:=fun a=>match a with | .lst k xs=>if k=n then dL E.dec xs else none | _=>none
 enc:=encL n E
 ok:=fun a l h=>by
  split at h
  ·split at h
   ·rename_i hk; subst hk; rw [dL_some E h]; rfl
   ·cases h
  ·cases h
 inv:=fun l=>by simp [encL,dL_map]
 free:=hfree_L n E
 cfree:=fun l c hc=>by
  simp only [encL,AV.cells,List.mem_singleton] at hc
  subst hc; exact hfree_L n E l
theorem dF_ok {a:AV} {f:Fr} (h:dF a=some f):a=fv f:=by
 exact dF_some h
def elF:El Fr:=⟨dF,fv,fun _ _ h=>dF_ok h,fun _=>rfl,hfree_fv,fun f c hc=>by
 simp only [fv,AV.cells,List.mem_cons,List.not_mem_nil,or_false] at hc
 rcases hc with rfl | rfl | rfl | rfl | rfl | rfl | rfl <;> exact hfree_v _⟩
def elI:El Int:=⟨dI,iv,fun a x h=>by unfold dI at h; split at h <;> cases h; rfl,fun _=>rfl,fun _=>hfree_v _,fun x c hc=>by simp only [iv,AV.cells,List.mem_singleton] at hc; subst hc; exact hfree_v _⟩
def elB:El Bool:=⟨dB,bv,fun a x h=>by unfold dB at h; split at h <;> cases h; rfl,fun _=>rfl,fun _=>hfree_v _,fun x c hc=>by simp only [bv,AV.cells,List.mem_singleton] at hc; subst hc; exact hfree_v _⟩
def fs (l:List Fr):AV:=.lst 7 (l.map fv)
def zs (l:List Int):AV:=.lst 1 (l.map iv)
def bs (l:List Bool):AV:=.lst 1 (l.map bv)
def elFs:El (List Fr):=elL 7 elF
def elBs:El (List Bool):=elL 1 elB
def shFs:Sh (List Fr):=shL 7 elF
def shFss:Sh (List (List Fr)):=shL 1 elFs
def shZs:Sh (List Int):=shL 1 elI
def shBs:Sh (List Bool):=shL 1 elB
def shBss:Sh (List (List Bool)):=shL 1 elBs
theorem shFs_dec (l:List Fr):shFs.dec (.lst 7 (l.map fv))=some l:=shL_dec (E:=elF) l
theorem shFss_dec (l:List (List Fr)):shFss.dec (.lst 1 (l.map fs))=some l:=shL_dec (E:=elFs) l
theorem shZs_dec (l:List Int):shZs.dec (.lst 1 (l.map iv))=some l:=shL_dec (E:=elI) l
theorem shBs_dec (l:List Bool):shBs.dec (.lst 1 (l.map bv))=some l:=shL_dec (E:=elB) l
theorem shBss_dec (l:List (List Bool)):shBss.dec (.lst 1 (l.map bs))=some l:=shL_dec (E:=elBs) l
theorem shFss_nil:shFss.dec (.v (.slice none 0 0))=some []:=rfl
theorem shFss_emp:shFss.dec (.lst 1 [])=some []:=shL_emp
theorem shBss_nil:shBss.dec (.v (.slice none 0 0))=some []:=rfl
theorem shBss_emp:shBss.dec (.lst 1 [])=some []:=shL_emp
theorem shZs_emp:shZs.dec (.lst 1 [])=some []:=shL_emp
theorem shFs_nil:shFs.dec (.v (.slice none 0 0))=some []:=rfl
theorem shFs_emp:shFs.dec (.lst 7 [])=some []:=shL_emp
theorem shZs_nil:shZs.dec (.v (.slice none 0 0))=some []:=rfl
theorem shFs_arr (a b c:Nat):shFs.dec (.arr a b c)=none:=rfl
theorem shFss_arr (a b c:Nat):shFss.dec (.arr a b c)=none:=rfl
theorem shZs_arr (a b c:Nat):shZs.dec (.arr a b c)=none:=rfl
theorem shBs_arr (a b c:Nat):shBs.dec (.arr a b c)=none:=rfl
theorem shBss_arr (a b c:Nat):shBss.dec (.arr a b c)=none:=rfl
theorem shFss_arrs (a b c:Nat) (r:List AV):shFss.dec (.lst 1 (.arr a b c :: r))=none:=rfl
theorem shBss_arrs (a b c:Nat) (r:List AV):shBss.dec (.lst 1 (.arr a b c :: r))=none:=rfl
def fr0:Fr:=⟨0,0,0,0,0,0,0⟩
theorem getD_z {l:List Int} {k:Nat} (h:k < l.length):(l.map iv).getD k .top=iv (l.getD k 0):=by simp [List.getD_eq_getElem?_getD,h]
theorem getD_b {l:List Bool} {k:Nat} (h:k < l.length):(l.map bv).getD k .top=bv (l.getD k false):=by simp [List.getD_eq_getElem?_getD,h]
theorem set_f (l:List Fr) (k:Nat) (a b c d e g h:Int):(l.map fv).set k (.agg [.v (.int .i64 a),.v (.int .i64 b),.v (.int .i64 c),.v (.int .u64 d),.v (.int .u64 e),.v (.int .u64 g),.v (.int .i64 h)])=(l.set k ⟨a,b,c,d,e,g,h⟩).map fv:=by rw [List.map_set]; rfl
theorem set_fs (l:List (List Fr)) (k:Nat) (x:List Fr):(l.map fs).set k (.lst 7 (x.map fv))=(l.set k x).map fs:=by rw [List.map_set]; rfl
theorem set_z (l:List Int) (k:Nat) (x:Int):(l.map iv).set k (.v (.int .i64 x))=(l.set k x).map iv:=by rw [List.map_set]; rfl
theorem snoc_f (l:List Fr) (a b c d e g h:Int):l.map fv ++ [.agg [.v (.int .i64 a),.v (.int .i64 b),.v (.int .i64 c),.v (.int .u64 d),.v (.int .u64 e),.v (.int .u64 g),.v (.int .i64 h)]]=(l ++ [(⟨a,b,c,d,e,g,h⟩:Fr)]).map fv:=by rw [List.map_append]; rfl
theorem set_getD_self {α:Type} {l:List α} {k:Nat} {a:α} (h:k < l.length):l.set k (l.getD k a)=l:=by simp [List.getD_eq_getElem?_getD,h]
theorem take_f (l:List Fr):(l.map fv).take l.length=l.map fv:=List.take_of_length_le (by simp)
theorem hfree_fs (l:List Fr):HFree (.lst 7 (l.map fv))=True:=eq_true (hfree_L 7 elF l)
theorem hfree_f0:HFree (.lst 7 [])=True:=eq_true (hfree_L 7 elF [])
theorem len_fs (l:List Fr):(l.map fv).length=l.length:=by simp
theorem len_fss (l:List (List Fr)):(l.map fs).length=l.length:=by simp
theorem len_zs (l:List Int):(l.map iv).length=l.length:=by simp
theorem len_bs (l:List Bool):(l.map bv).length=l.length:=by simp
theorem len_bss (l:List (List Bool)):(l.map bs).length=l.length:=by simp
theorem len_setF (l:List Fr) (k:Nat) (x:Fr):(l.set k x).length=l.length:=by simp
theorem frz_map {α:Type} {g:α→AV} (hg:∀ hp x,frzArg hp (g x)=(g x,hp)) (hp:Hp):∀ l:List α,frzArgs hp (l.map g)=(l.map g,hp)
 | []=>rfl
 | x :: r=>by rw [List.map_cons,frzArgs,hg]; dsimp only; rw [frz_map hg hp r]
theorem frz_fv (hp:Hp) (l:List Fr):frzArgs hp (l.map fv)=(l.map fv,hp):=frz_map (fun _ _=>rfl) hp l
theorem frz_fs (hp:Hp) (l:List (List Fr)):frzArgs hp (l.map fs)=(l.map fs,hp):=frz_map (fun _ _=>rfl) hp l
theorem frz_iv (hp:Hp) (l:List Int):frzArgs hp (l.map iv)=(l.map iv,hp):=frz_map (fun _ _=>rfl) hp l
theorem frz_bv (hp:Hp) (l:List Bool):frzArgs hp (l.map bv)=(l.map bv,hp):=frz_map (fun _ _=>rfl) hp l
theorem frz_bs (hp:Hp) (l:List (List Bool)):frzArgs hp (l.map bs)=(l.map bs,hp):=frz_map (fun _ _=>rfl) hp l
theorem rf1:type_of% (And.intro @shFs_arr <| And.intro @shFss_arr <| And.intro @shZs_arr <| And.intro @shBs_arr <| And.intro @shBss_arr <| And.intro @shFss_arrs <| And.intro @shBss_arrs <| And.intro @shFs_dec <| And.intro @shFss_dec <| And.intro @shZs_dec <| And.intro @shBs_dec <| And.intro @shBss_dec <| And.intro @shFs_nil <| And.intro @shFs_emp <| And.intro @shFss_nil <| And.intro @shFss_emp <| And.intro @shBss_nil <| And.intro @shBss_emp <| And.intro @shZs_nil <| And.intro @shZs_emp <| And.intro @len_zs <| And.intro @len_fs <| And.intro @len_fss <| And.intro @len_bs <| And.intro @len_bss <| And.intro @len_setF <| And.intro @set_f <| And.intro @set_fs <| And.intro @set_z <| And.intro @fr_eta <| And.intro @take_f <| And.intro @snoc_f <| And.intro @frz_fv <| And.intro @frz_fs <| And.intro @frz_iv <| And.intro @frz_bv <| And.intro @frz_bs <| And.intro @hfree_fs <| @hfree_f0):=And.intro @shFs_arr <| And.intro @shFss_arr <| And.intro @shZs_arr <| And.intro @shBs_arr <| And.intro @shBss_arr <| And.intro @shFss_arrs <| And.intro @shBss_arrs <| And.intro @shFs_dec <| And.intro @shFss_dec <| And.intro @shZs_dec <| And.intro @shBs_dec <| And.intro @shBss_dec <| And.intro @shFs_nil <| And.intro @shFs_emp <| And.intro @shFss_nil <| And.intro @shFss_emp <| And.intro @shBss_nil <| And.intro @shBss_emp <| And.intro @shZs_nil <| And.intro @shZs_emp <| And.intro @len_zs <| And.intro @len_fs <| And.intro @len_fss <| And.intro @len_bs <| And.intro @len_bss <| And.intro @len_setF <| And.intro @set_f <| And.intro @set_fs <| And.intro @set_z <| And.intro @fr_eta <| And.intro @take_f <| And.intro @snoc_f <| And.intro @frz_fv <| And.intro @frz_fs <| And.intro @frz_iv <| And.intro @frz_bv <| And.intro @frz_bs <| And.intro @hfree_fs <| @hfree_f0
section
variable {P : Program} {w : World} {t : TypeId} {α : Type} {H : Type} {enc : TypeId × Value → H} {reach : Reach} {b0 base : Nat} {spare : Nat → Bool} {held : Bool} {v : Value} {d : DataW H} {p : List MemPlace}
end
end Go.Vai

/- The injector in cells, by numbers and lists alone: what is where, and what a step does. -/
namespace Go.Vai
open Go.RowKit
def eSeq (c:Cf) (x:Int):Int:=if mayC c then 6 + x.tmod c.i else -1
def eVal (c:Cf) (x:Int):Int:=if mayC c then 6 + c.i + x.tmod c.i else -1
def eFree (c:Cf) (x:Int):Int:=wrapU (wrapU (x.tdiv c.i) * 2)
structure Inj (c:Cf) (m:List Int):Prop where
 may:mayC c=true
 len:(m.length:Int)=lSize c
def goesE (c:Cf) (m:List Int) (f:Fr) (op:Int):Bool:=mayC c && decide ((m.length:Int)=lSize c∧f.res=0∧f.op=op∧0≤f.pc∧f.pc < 5)
theorem goesE_iff {c:Cf} {m:List Int} {f:Fr} {op:Int}:goesE c m f op=true ↔ Inj c m∧f.res=0∧f.op=op∧0≤f.pc∧f.pc < 5:=by
 constructor
 ·intro h
  simp [goesE] at h
  exact ⟨⟨h.1,h.2.1⟩,h.2.2⟩
 ·rintro ⟨h,h1,h2,h3,h4⟩
  simp [goesE,h.may,h.len,h1,h2,h3,h4]
def eStep (c:Cf) (m:List Int) (f:Fr):List Int × Fr:=
 if goesE c m f 3=true then
  if f.pc=0 then (m,⟨f.op,1,f.who,f.val,mLoad m 5,f.y,f.res⟩)
  else if f.pc=1 then
   if mLoad m (eSeq c f.x)=eFree c f.x then (m,⟨f.op,2,f.who,f.val,f.x,mLoad m (eSeq c f.x),f.res⟩)
   else if far (mLoad m (eSeq c f.x)) (eFree c f.x) < 0 then (m,fEnd f 2 f.val)
   else (m,⟨f.op,0,f.who,f.val,f.x,mLoad m (eSeq c f.x),f.res⟩)
  else if f.pc=2 then (mCas m 5 f.x (wrapU (f.x + 1)),⟨f.op,if mCasB m 5 f.x=true then 3 else 0,f.who,f.val,f.x,f.y,f.res⟩)
  else if f.pc=3 then (mStore m (eVal c f.x) f.val,⟨f.op,4,f.who,f.val,f.x,f.y,f.res⟩)
  else (mStore m (eSeq c f.x) (wrapU (eFree c f.x + 1)),fEnd f 1 f.val)
 else (m,f)
def qStep (c:Cf) (m:List Int) (f:Fr):List Int × Fr:=
 if goesE c m f 4=true then
  if f.pc=0 then (m,⟨f.op,1,f.who,f.val,mLoad m 4,f.y,f.res⟩)
  else if f.pc=1 then
   if far (mLoad m (eSeq c f.x)) (wrapU (eFree c f.x + 1))=0 then (m,⟨f.op,2,f.who,f.val,f.x,mLoad m (eSeq c f.x),f.res⟩)
   else if far (mLoad m (eSeq c f.x)) (wrapU (eFree c f.x + 1)) < 0 then (m,fEnd f 3 0)
   else (m,⟨f.op,0,f.who,f.val,f.x,mLoad m (eSeq c f.x),f.res⟩)
  else if f.pc=2 then (mCas m 4 f.x (wrapU (f.x + 1)),⟨f.op,if mCasB m 4 f.x=true then 3 else 0,f.who,f.val,f.x,f.y,f.res⟩)
  else if f.pc=3 then (m,⟨f.op,4,f.who,mLoad m (eVal c f.x),f.x,f.y,f.res⟩)
  else (mStore m (eSeq c f.x) (wrapU (wrapU (eFree c f.x + 1) + 1)),fEnd f 1 f.val)
 else (m,f)
def eLen (c:Cf) (m:List Int):Int:=if mayC c && decide ((m.length:Int)=lSize c) then far (mLoad m 5) (mLoad m 4) else -1
theorem len_eStep (c:Cf) (m:List Int) (f:Fr):(eStep c m f).1.length=m.length:=by
 unfold eStep; repeat' split
 all_goals first | rfl | exact len_store .. | exact len_cas ..
theorem len_qStep (c:Cf) (m:List Int) (f:Fr):(qStep c m f).1.length=m.length:=by
 unfold qStep; repeat' split
 all_goals first | rfl | exact len_store .. | exact len_cas ..
theorem eStep_no {c:Cf} {m:List Int} {f:Fr} (h:goesE c m f 3=false):eStep c m f=(m,f):=by simp [eStep,h]
theorem qStep_no {c:Cf} {m:List Int} {f:Fr} (h:goesE c m f 4=false):qStep c m f=(m,f):=by simp [qStep,h]
theorem goesE_over {c:Cf} {m:List Int} {f:Fr} {op:Int} (h:f.res≠0):goesE c m f op=false:=by simp [goesE,h]
section
variable {c : Cf} {m : List Int}
theorem Inj.store (h:Inj c m) (i v:Int):Inj c (mStore m i v):=⟨h.may,by rw [len_store]; exact h.len⟩
theorem Inj.ipos (h:Inj c m):1≤c.i∧c.i≤16:=⟨(mayC_iff.1 h.may).2.2.2.1,(mayC_iff.1 h.may).2.2.2.2.1⟩
theorem Inj.size (h:Inj c m):6 + 2 * c.i≤m.length∧(m.length:Int)≤190:=by
 obtain ⟨h1,h2,h3,h4,h5,h6,h7⟩:=mayC_iff.1 h.may
 have hl:=h.len
 unfold lSize at hl
 rw [h.may,if_pos rfl] at hl
 unfold lBase at *
 rcases h3 with e | e | e | e | e <;> rw [e] at hl <;> omega
theorem Inj.seq (h:Inj c m) {x:Int} (hx:InU x):eSeq c x=6 + x % c.i:=by
 unfold eSeq InU at *
 rw [h.may,if_pos rfl,Int.tmod_eq_emod_of_nonneg hx.1]
theorem Inj.val (h:Inj c m) {x:Int} (hx:InU x):eVal c x=6 + c.i + x % c.i:=by
 unfold eVal InU at *
 rw [h.may,if_pos rfl,Int.tmod_eq_emod_of_nonneg hx.1]
theorem Inj.mod (h:Inj c m) (x:Int):0≤x % c.i∧x % c.i < c.i:=⟨Int.emod_nonneg _ (by have:=h.ipos; omega),Int.emod_lt_of_pos _ (by have:=h.ipos; omega)⟩
theorem Inj.in_tail (h:Inj c m):isIn m 5=true:=by have:=h.size; have:=h.ipos; simp [isIn]; omega
theorem Inj.in_head (h:Inj c m):isIn m 4=true:=by have:=h.size; have:=h.ipos; simp [isIn]; omega
end
end Go.Vai

/- Deques by lists: pops and steals alone. -/
namespace Go.Vai
open Go.RowKit
def run (st:List Int→Fr→List Int × Fr):Nat→List Int × Fr→List Int × Fr
 | 0,s=>s
 | k + 1,s=>run st k (st s.1 s.2)
end Go.Vai

/- The injector by numbers: what a step leaves as it is. -/
namespace Go.Vai
open Go.RowKit
section
variable {c : Cf} {m : List Int} {w v x y : Int}
theorem goes_e {pc:Int} (h:Inj c m) (h0:0≤pc) (h1:pc < 5):goesE c m ⟨3,pc,w,v,x,y,0⟩ 3=true:=goesE_iff.2 ⟨h,rfl,rfl,h0,h1⟩
theorem goes_q {pc:Int} (h:Inj c m) (h0:0≤pc) (h1:pc < 5):goesE c m ⟨4,pc,w,v,x,y,0⟩ 4=true:=goesE_iff.2 ⟨h,rfl,rfl,h0,h1⟩
theorem enq_1 (h:Inj c m):eStep c m ⟨3,0,w,v,x,y,0⟩=(m,⟨3,1,w,v,mLoad m 5,y,0⟩):=by simp [eStep,goes_e h]
theorem enq_2 (h:Inj c m) (e:mLoad m (eSeq c x)=eFree c x):eStep c m ⟨3,1,w,v,x,y,0⟩=(m,⟨3,2,w,v,x,eFree c x,0⟩):=by simp [eStep,goes_e h,e]
theorem enq_2f (h:Inj c m) (e:far (mLoad m (eSeq c x)) (eFree c x) < 0) (ne:mLoad m (eSeq c x)≠eFree c x):eStep c m ⟨3,1,w,v,x,y,0⟩=(m,⟨3,0,w,v,0,0,2⟩):=by simp [eStep,goes_e h,e,ne,fEnd]
theorem enq_3 (h:Inj c m) (e:mCasB m 5 x=true):eStep c m ⟨3,2,w,v,x,y,0⟩=(mStore m 5 (wrapU (x + 1)),⟨3,3,w,v,x,y,0⟩):=by simp [eStep,goes_e h,e,cas_store e]
theorem enq_3r (h:Inj c m) (e:mCasB m 5 x=false):eStep c m ⟨3,2,w,v,x,y,0⟩=(m,⟨3,0,w,v,x,y,0⟩):=by simp [eStep,goes_e h,e,cas_not e]
theorem enq_4 (h:Inj c m):eStep c m ⟨3,3,w,v,x,y,0⟩=(mStore m (eVal c x) v,⟨3,4,w,v,x,y,0⟩):=by simp [eStep,goes_e h]
theorem enq_5 (h:Inj c m):eStep c m ⟨3,4,w,v,x,y,0⟩=(mStore m (eSeq c x) (wrapU (eFree c x + 1)),⟨3,0,w,v,0,0,1⟩):=by simp [eStep,goes_e h,fEnd]
theorem enq_over {f:Fr} (h:f.res≠0):eStep c m f=(m,f):=eStep_no (goesE_over h)
end
end Go.Vai

/- Taking out of the injector, by numbers and lists alone: the document's step, and what the injector has. -/
namespace Go.Vai
open Go.RowKit
def qFull (c:Cf) (x:Int):Int:=wrapU (eFree c x + 1)
end Go.Vai

/- What the injector has, by numbers and lists alone. -/
namespace Go.Vai
open Go.RowKit
def qX (h:Int):Nat→Int
 | 0=>h
 | k + 1=>wrapU (qX h k + 1)
def qHas (m:List Int) (k:Nat):Bool:=decide ((k:Int) < wrapU (mLoad m 5 - mLoad m 4))
def qWant (c:Cf) (m:List Int) (k:Nat):Int:=if qHas m k=true then qFull c (qX (mLoad m 4) k) else wrapU (qFull c (qX (mLoad m 4) k) - 1)
def qOk (c:Cf) (m:List Int) (k:Nat):Bool:=mLoad m (eSeq c (qX (mLoad m 4) k)) == qWant c m k
def qVal (c:Cf) (m:List Int) (k:Nat):Int:=mLoad m (eVal c (qX (mLoad m 4) k))
def qOut (c:Cf) (m:List Int):Nat→List Int
 | 0=>[]
 | k + 1=>if qHas m k=true then qOut c m k ++ [qVal c m k] else qOut c m k
def qAll (c:Cf) (m:List Int):Nat→Bool
 | 0=>true
 | k + 1=>qAll c m k && qOk c m k
def qList (c:Cf) (m:List Int):List Int × Bool:=
 if eLen c m < 0∨c.i < eLen c m then ([],false) else if qAll c m c.i.toNat=true then (qOut c m c.i.toNat,true) else ([],false)
theorem qX_eq {h:Int} (hh:InU h) (k:Nat):qX h k=wrapU (h + k):=by
 induction k with
 | zero=>rw [qX,wrapU_eq]; unfold InU at hh; omega
 | succ k ih=>rw [qX,ih,wrapU_eq,wrapU_eq,wrapU_eq]; omega
end Go.Vai

/- What all do at the injector, by lists alone. -/
namespace Go.Vai
open Go.RowKit
def noneF:Fr:=⟨-1,0,0,0,0,0,0⟩
def iStep (c:Cf) (m:List Int) (f:Fr):List Int × Fr:=if f.op=3 then eStep c m f else if f.op=4 then qStep c m f else (m,f)
theorem len_iStep (c:Cf) (m:List Int) (f:Fr):(iStep c m f).1.length=m.length:=by
 unfold iStep; repeat' split
 all_goals first | rfl | exact len_eStep .. | exact len_qStep ..
abbrev Stp:=Cf→List Int→Fr→List Int × Fr
section
variable {st : Stp} (hst : ∀ c m f, (st c m f).1.length = m.length)
include hst
end
def Short (n:Nat) (left:List (List Fr)):Prop:=∀ l∈left,l.length≤n
theorem Short.set {n:Nat} {left:List (List Fr)} (h:Short n left) (i:Nat) {l:List Fr} (hl:l.length≤n):Short n (left.set i l):=by
 intro x hx
 rcases List.mem_or_eq_of_mem_set hx with h1 | h1
 ·exact h x h1
 ·rw [h1]; exact hl
theorem op_eStep (c:Cf) (m:List Int) (f:Fr):(eStep c m f).2.op=f.op:=by
 unfold eStep; repeat' split
 all_goals rfl
theorem op_qStep (c:Cf) (m:List Int) (f:Fr):(qStep c m f).2.op=f.op:=by
 unfold qStep; repeat' split
 all_goals rfl
theorem op_iStep (c:Cf) (m:List Int) (f:Fr):(iStep c m f).2.op=f.op:=by
 unfold iStep; repeat' split
 all_goals first | rfl | exact op_eStep .. | exact op_qStep ..
section
variable {st : Stp} (hst : ∀ c m f, (st c m f).1.length = m.length)
include hst
end
end Go.Vai

/- Deques by lists: a steal alone, two steals, a steal and a push. -/
namespace Go.Vai
open Go.RowKit
theorem slot_0 {c:Cf} {m:List Int} {w t:Int} (h:Lay c m w):lSlot c w t=lSlot c w (wrapU (t + ((0:Nat):Int))):=
 slot_eq h (by rw [wrapU_eq]; omega)
theorem Deq.taken {c:Cf} {m:List Int} {w t b:Int} {k:Nat} (D:Deq c m w t b (k + 1)) :
  dIs c (mStore m (lTop c w) (wrapU (t + 1))) w=true∧dList c (mStore m (lTop c w) (wrapU (t + 1))) w=(dList c m w).drop 1∧mLoad m (lSlot c w t)=(dList c m w).getD 0 0∧far b t > 0∧mCasB m (lTop c w) t=true:=by
 obtain ⟨n1,_,l1⟩:=D.is
 obtain ⟨_,i2,l2⟩:=D.incTop.is
 refine ⟨i2,?_,?_,?_,?_⟩
 ·rw [l2,l1,dRow_drop D.tu,row_top D.lay]
 ·rw [l1,dRow_get (by omega),slot_0 D.lay]
 ·have:dNum c m w=far b t:=by unfold dNum; rw [D.bot,D.top]
  omega
 ·have:=casB_top D.lay
  rw [D.top] at this; exact this
theorem Deq.split {c:Cf} {m:List Int} {w:Int} (hm:InM m) (hi:dIs c m w=true) (hne:dList c m w≠[]):∃ k:Nat,Deq c m w (mLoad m (lTop c w)) (mLoad m (lBottom c w)) (k + 1)∧(dList c m w).length=k + 1:=by
 have D:=deq_of hm hi
 obtain ⟨n1,_,l1⟩:=D.is
 cases hn:(dNum c m w).toNat with
 | zero=>rw [hn] at l1; exact (hne (by rw [l1]; rfl)).elim
 | succ k=>rw [hn] at D l1; exact ⟨k,D,by rw [l1,dRow_len]⟩
end Go.Vai

/- What all do at one deque, by lists alone. -/
namespace Go.Vai
open Go.RowKit
def dqStep (c:Cf) (m:List Int) (f:Fr):List Int × Fr:=if f.op=0 then pStep c m f else if f.op=1 then oStep c m f else if f.op=2 then sStep c m f else (m,f)
theorem len_dqStep (c:Cf) (m:List Int) (f:Fr):(dqStep c m f).1.length=m.length:=by
 unfold dqStep; repeat' split
 all_goals first | rfl | exact len_pStep .. | exact len_oStep .. | exact len_sStep ..
section
variable {st : Stp} (hst : ∀ c m f, (st c m f).1.length = m.length)
include hst
end
theorem op_pStep (c:Cf) (m:List Int) (f:Fr):(pStep c m f).2.op=f.op:=by
 unfold pStep; repeat' split
 all_goals rfl
theorem op_oStep (c:Cf) (m:List Int) (f:Fr):(oStep c m f).2.op=f.op:=by
 unfold oStep; repeat' split
 all_goals rfl
theorem op_sStep (c:Cf) (m:List Int) (f:Fr):(sStep c m f).2.op=f.op:=by
 unfold sStep; repeat' split
 all_goals rfl
theorem op_dqStep (c:Cf) (m:List Int) (f:Fr):(dqStep c m f).2.op=f.op:=by
 unfold dqStep; repeat' split
 all_goals first | rfl | exact op_pStep .. | exact op_oStep .. | exact op_sStep ..
end Go.Vai

/- One deque, and all who are at it: steps. -/
namespace Go.Vai
open Go.RowKit Go.Proofs
set_option maxHeartbeats 4000000
set_option maxRecDepth 100000
def rowsJ0:List Row:=[] ++ rowsO1 ++ rowsZ1
theorem rowsJ0_ok:∀ p∈rowsJ0,RowOk Tryz.prog p:=fun p h=>by
 simp only [rowsJ0,List.mem_append,List.not_mem_nil,false_or] at h
 rcases h with h | h
 ·exact rowsO1_ok p h
 ·exact rowsZ1_ok p h
theorem okJ0:(ctx Tryz.prog rowsJ0).ok:=rows_ok rowsJ0_ok
theorem J0_all:tabC rowsJ0 183=(row3 shC shM shF fun c m f=>some (sv (oStep c m f)))∧tabC rowsJ0 182=(row3 shC shM shF fun c m f=>some (sv (pStep c m f)))∧tabC rowsJ0 79=(row1 shM fun m=>some (ms m))∧tabC rowsJ0 184=(row3 shC shM shF fun c m f=>some (sv (sStep c m f))):=⟨rfl,rfl,rfl,rfl⟩
theorem dqstep_pure (c:Cf) (m:List Int) (f:Fr) (hm:m.length≤1000):PureC Tryz.prog 156 [cv' c,ms m,fv f] (sv (dqStep c m f)):=by
 refine pure_sub okJ0 1 Tryz.func156 rfl (by show 3≤_; decide) ?_
 by_cases h0:f.op=0
 ·have e0:(f.op == 0)=true:=by simpa using h0
  rw [show dqStep c m f=pStep c m f from if_pos h0]
  simp only [Tryz.f156,J0_all,e0,hm,sv,fv,cv',cf_eta,shC_dec,dC,T23,T42,hfree_lu,row3,shM_dec,dM,dU_map,iv,u,ms,ctx_T,ctx_C,T3,Option.bind_some,shF_dec,dF,fr_eta,ev1,ev2,implies_true,undef,↓condE_t,resB,cv,stepB,aopR,one,pre,binR,intOpR,argFrm,evo,lkp,hlk,ofVal,ofCells,setCells,AV.wr,AV.ok1,TK.agg,frz,frz1,frzt,frzs,frzA,subA,subB,subM,subL,sub1,Nat.reduceAdd,Nat.reduceEqDiff,Nat.reduceLT,Nat.reduceLeDiff,reduceCtorEq,eq_self,ne_eq]
  all_goals ((repeat' apply And.intro) <;> first | rfl | omega | (show (_:Bool)=true; kernel_rfl) | decide)
 ·have e0:(f.op == 0)=false:=by simpa using h0
  by_cases h1:f.op=1
  ·have e1:(f.op == 1)=true:=by simpa using h1
   rw [show dqStep c m f=oStep c m f from (if_neg h0).trans (if_pos h1)]
   simp only [Tryz.f156,J0_all,e0,e1,hm,sv,fv,cv',cf_eta,shC_dec,dC,T23,T42,hfree_lu,row3,shM_dec,dM,dU_map,iv,u,ms,ctx_T,ctx_C,T3,Option.bind_some,shF_dec,dF,fr_eta,ev1,ev2,implies_true,undef,↓condE_t,↓condE_f,resB,cv,stepB,aopR,one,pre,binR,intOpR,argFrm,evo,lkp,hlk,ofVal,ofCells,setCells,AV.wr,AV.ok1,TK.agg,frz,frz1,frzt,frzs,frzA,subA,subB,subM,subL,sub1,Nat.reduceAdd,Nat.reduceEqDiff,Nat.reduceLT,Nat.reduceLeDiff,reduceCtorEq,eq_self,ne_eq]
   all_goals ((repeat' apply And.intro) <;> first | rfl | omega | (show (_:Bool)=true; kernel_rfl) | decide)
  ·have e1:(f.op == 1)=false:=by simpa using h1
   by_cases h2:f.op=2
   ·have e2:(f.op == 2)=true:=by simpa using h2
    rw [show dqStep c m f=sStep c m f from (if_neg h0).trans ((if_neg h1).trans (if_pos h2))]
    simp only [Tryz.f156,J0_all,e0,e1,e2,hm,sv,fv,cv',cf_eta,shC_dec,dC,T23,T42,hfree_lu,row3,shM_dec,dM,dU_map,iv,u,ms,ctx_T,ctx_C,T3,Option.bind_some,shF_dec,dF,fr_eta,ev1,ev2,implies_true,undef,↓condE_t,↓condE_f,resB,cv,stepB,aopR,one,pre,binR,intOpR,argFrm,evo,lkp,hlk,ofVal,ofCells,setCells,AV.wr,AV.ok1,TK.agg,frz,frz1,frzt,frzs,frzA,subA,subB,subM,subL,sub1,Nat.reduceAdd,Nat.reduceEqDiff,Nat.reduceLT,Nat.reduceLeDiff,reduceCtorEq,eq_self,ne_eq]
    all_goals ((repeat' apply And.intro) <;> first | rfl | omega | (show (_:Bool)=true; kernel_rfl) | decide)
   ·have e2:(f.op == 2)=false:=by simpa using h2
    rw [show dqStep c m f=(m,f) from (if_neg h0).trans ((if_neg h1).trans (if_neg h2))]
    simp only [Tryz.f156,J0_all,e0,e1,e2,hm,sv,fv,cv',T23,T42,hfree_lu,row1,shM_dec,dM,dU_map,iv,u,ms,ctx_T,ctx_C,T3,Option.bind_some,ev1,ev2,implies_true,undef,dynCall,↓condE_f,resB,cv,stepB,stepE,callD,tabD,aopR,one,pre,binR,intOpR,argFrm,evo,lkp,hlk,ofVal,ofCells,setCells,AV.wr,AV.ok1,TK.agg,frz,frz1,frzt,frzs,frzA,subA,subB,subM,subL,sub1,accOf,Nat.reduceAdd,Nat.reduceEqDiff,Nat.reduceLT,Nat.reduceLeDiff,reduceCtorEq,eq_self,ne_eq]
    all_goals ((repeat' apply And.intro) <;> first | rfl | omega | (show (_:Bool)=true; kernel_rfl) | decide)
def rowsJA:List Row:=[
 (156,row3 shC shM shF fun c m f=>some (sv (dqStep c m f)))] ++ rowsJ0
theorem rowsJA_ok:∀ p∈rowsJA,RowOk Tryz.prog p:=fun p h=>by
 simp only [rowsJA,List.mem_append,List.mem_cons,List.not_mem_nil,or_false] at h
 rcases h with rfl | h
 ·exact ok_row3 (enters_of Tryz.func156 (by decide) rfl) fun c m f r _ g _ e=>by cases e; exact dqstep_pure c m f (shM_got g)
 ·exact rowsJ0_ok p h
end Go.Vai

/- Layouts: where the injector's cells are. -/
namespace Go.Vai
open Go.RowKit Go.Proofs
set_option maxHeartbeats 4000000
set_option maxRecDepth 100000
def rowsLE:List Row:=[] ++ rowsLB
theorem rowsLE_ok:∀ p∈rowsLE,RowOk Tryz.prog p:=fun p h=>by
 simp only [rowsLE,List.mem_append,List.not_mem_nil,false_or] at h
 rcases h with h
 ·exact rowsLB_ok p h
theorem okLE:(ctx Tryz.prog rowsLE).ok:=rows_ok rowsLE_ok
theorem LE_all:tabC rowsLE 197=(fun _=>none)∧tabC rowsLE 198=(fun _=>none)∧tabC rowsLE 28=(row1 shC fun c=>some (bv (mayC c)))∧tabC rowsLE 32=(fun _=>none)∧tabC rowsLE 56=(fun _=>none):=⟨rfl,rfl,rfl,rfl,rfl⟩
theorem inj_at {c:Cf} {x:Int} (hm:mayC c=true):IntKind.wrap .i64 (c.w - 1)=c.w - 1∧(0:Int)≤c.w - 1∧IntKind.wrap .u64 c.i=c.i∧c.i≠0∧IntKind.wrap .i64 (x.tmod c.i)=x.tmod c.i ∧
  IntKind.wrap .i64 (6 + x.tmod c.i)=6 + x.tmod c.i∧IntKind.wrap .i64 (6 + c.i)=6 + c.i∧IntKind.wrap .i64 (6 + c.i + x.tmod c.i)=6 + c.i + x.tmod c.i:=by
 obtain ⟨a1,a2,a3,a4,a5,a6,a7⟩:=mayC_iff.1 hm
 have hr:-16 < x.tmod c.i∧x.tmod c.i < 16:=by
  have h1:=Int.tmod_lt_of_pos x (show 0 < c.i by omega)
  have h2:=Int.lt_tmod_of_pos x (show 0 < c.i by omega)
  omega
 exact ⟨wrap_i (by omega) (by omega),by omega,by rw [IntKind.wrap_u64]; omega,by omega,wrap_i (by omega) (by omega),wrap_i (by omega) (by omega),wrap_i (by omega) (by omega),wrap_i (by omega) (by omega)⟩
theorem seq_pure (c:Cf) (x:Int):PureC Tryz.prog 178 [cv' c,u x] (iv (eSeq c x)):=by
 refine pure_sub okLE 3 Tryz.func178 rfl (by show 2≤_; decide) ?_
 cases hm:mayC c with
 | false=>simp only [Tryz.f178,Tryz.func32,Tryz.f32,inl,LE_all,eSeq,hm,cv',cf_eta,shC_dec,dC,T23,row1,iv,bv,u,ctx_T,ctx_C,ctx_P,T40,Option.bind_some,String.reduceBEq,ev1,ev2,undef,↓condE_t,↓guardE_tf,frzDeep,deepArgs,deepArg,resB,cv,stepB,guardB,guardC,dstAt,aopR,one,pre,unR,argFrm,evo,lkp,hlk,ofCells,AV.wr,AV.ok1,TK.agg,frz,frz1,frzA,frzArg,frzArgs,subA,subB,sub1,Nat.reduceAdd,Nat.reduceEqDiff,Nat.reduceLT,Nat.reduceLeDiff,reduceCtorEq,eq_self,ne_eq]
 | true=>
  obtain ⟨h0,h1,h2,h3,h4,h5,h6,h7⟩:=inj_at (x:=x) hm
  simp only [Tryz.f178,Tryz.func32,Tryz.f32,Tryz.func197,Tryz.f197,Tryz.func56,Tryz.f56,inl,LE_all,eSeq,hm,h0,h1,h2,h3,h4,h5,cv',cf_eta,shC_dec,dC,T23,row1,iv,bv,u,ctx_T,ctx_C,ctx_P,T3,T40,Option.bind_some,String.reduceBEq,ev1,ev2,implies_true,undef,↓condE_f,↓guardE_tt,↓guardE_ff,frzDeep,deepArgs,deepArg,resB,cv,stepB,guardB,guardC,dstAt,aopR,one,pre,binR,intOpR,unR,argFrm,evo,lkp,hlk,ofCells,AV.wr,AV.ok1,TK.agg,frz,frz1,frzA,frzArg,frzArgs,subA,subB,sub1,Nat.reduceAdd,Nat.reduceEqDiff,Nat.reduceLT,Nat.reduceLeDiff,reduceCtorEq,eq_self,ne_eq,Int.reduceGE]
  all_goals ((repeat' apply And.intro) <;> first | rfl | omega | (show (_:Bool)=true; kernel_rfl) | decide)
theorem val_pure (c:Cf) (x:Int):PureC Tryz.prog 180 [cv' c,u x] (iv (eVal c x)):=by
 refine pure_sub okLE 3 Tryz.func180 rfl (by show 2≤_; decide) ?_
 cases hm:mayC c with
 | false=>simp only [Tryz.f180,Tryz.func32,Tryz.f32,inl,LE_all,eVal,hm,cv',cf_eta,shC_dec,dC,T23,row1,iv,bv,u,ctx_T,ctx_C,ctx_P,T40,Option.bind_some,String.reduceBEq,ev1,ev2,undef,↓condE_t,↓guardE_tf,frzDeep,deepArgs,deepArg,resB,cv,stepB,guardB,guardC,dstAt,aopR,one,pre,unR,argFrm,evo,lkp,hlk,ofCells,AV.wr,AV.ok1,TK.agg,frz,frz1,frzA,frzArg,frzArgs,subA,subB,sub1,Nat.reduceAdd,Nat.reduceEqDiff,Nat.reduceLT,Nat.reduceLeDiff,reduceCtorEq,eq_self,ne_eq]
 | true=>
  obtain ⟨h0,h1,h2,h3,h4,h5,h6,h7⟩:=inj_at (x:=x) hm
  simp only [Tryz.f180,Tryz.func32,Tryz.f32,Tryz.func198,Tryz.f198,Tryz.func56,Tryz.f56,inl,LE_all,eVal,hm,h0,h1,h2,h3,h4,h6,h7,cv',cf_eta,shC_dec,dC,T23,row1,iv,bv,u,ctx_T,ctx_C,ctx_P,T3,T40,Option.bind_some,String.reduceBEq,ev1,ev2,implies_true,undef,dynCall,↓condE_f,↓guardE_tt,↓guardE_ff,frzDeep,deepArgs,deepArg,resB,cv,stepB,stepE,guardB,guardC,dstAt,aopR,one,pre,binR,intOpR,unR,argFrm,evo,lkp,hlk,ofCells,AV.wr,AV.ok1,TK.agg,frz,frz1,frzA,frzArg,frzArgs,subA,subB,sub1,accOf,Nat.reduceAdd,Nat.reduceEqDiff,Nat.reduceLT,Nat.reduceLeDiff,reduceCtorEq,eq_self,ne_eq,Int.reduceGE]
  all_goals ((repeat' apply And.intro) <;> first | rfl | omega | (show (_:Bool)=true; kernel_rfl) | decide)
def rowsLI:List Row:=[
 (178,row2 shC shN fun c x=>some (iv (eSeq c x))),
 (180,row2 shC shN fun c x=>some (iv (eVal c x)))] ++ rowsLT
theorem rowsLI_ok:∀ p∈rowsLI,RowOk Tryz.prog p:=fun p h=>by
 simp only [rowsLI,List.mem_append,List.mem_cons,List.not_mem_nil,or_false,or_assoc] at h
 rcases h with rfl | rfl | h
 ·exact ok_row2 (enters_of Tryz.func178 (by decide) rfl) fun c x r _ _ e=>by cases e; exact seq_pure c x
 ·exact ok_row2 (enters_of Tryz.func180 (by decide) rfl) fun c x r _ _ e=>by cases e; exact val_pure c x
 ·exact rowsLT_ok p h
end Go.Vai

/- Putting into the injector: what the functions of the layer compute. -/
namespace Go.Vai
open Go.RowKit Go.Proofs
set_option maxHeartbeats 4000000
set_option maxRecDepth 100000
def rowsEA:List Row:=[] ++ rowsPA ++ rowsLI
theorem rowsEA_ok:∀ p∈rowsEA,RowOk Tryz.prog p:=fun p h=>by
 simp only [rowsEA,List.mem_append,List.not_mem_nil,false_or] at h
 rcases h with h | h
 ·exact rowsPA_ok p h
 ·exact rowsLI_ok p h
theorem okEA:(ctx Tryz.prog rowsEA).ok:=rows_ok rowsEA_ok
theorem EA_all:tabC rowsEA 69=(fun _=>none)∧tabC rowsEA 196=(fun _=>none)∧tabC rowsEA 12=(row2 shM shI fun m i=>some (u (mLoad m i)))∧tabC rowsEA 29=(row1 shC fun c=>some (iv (lSize c)))∧tabC rowsEA 28=(row1 shC fun c=>some (bv (mayC c)))∧tabC rowsEA 70=(row2 shN shN fun a b=>some (iv (far a b)))∧tabC rowsEA 55=(row1 shF fun f=>some (bv (f.res != 0))):=⟨rfl,rfl,rfl,rfl,rfl,rfl,rfl⟩
def plainC:AV→Bool
 | .v _ | .top=>true
 | _=>false
theorem hfree_plain {x:AV} (h:plainC x=true):HFree x:=by
 cases x <;> first | exact hfree_v _ | exact hfree_top | cases h
theorem hfree_rptr {cs:List AV} (h:∀ c∈cs,HFree c):HFree (.rptr cs):=fun E _ k=>by
 cases k with
 | rptr _ ad y hk h1 hx=>exact .rptr _ _ y hk h1 fun j b hb=>h b (List.mem_of_getElem? hb) E _ (hx j b hb)
def freeRow:List AV→Option AV
 | [.rptr [c0,c1,c2,c3,.v (.int .u64 x),c5,c6,c7,c8,.v (.int .i64 i),c10,c11]]=>
  if ([c0,c1,c2,c3,c5,c6,c7,c8,c10,c11].all plainC && decide (1≤i∧i≤16))=true then some (u (wrapU (wrapU (x.tdiv i) * 2))) else none
 | _=>none
theorem free_pure (c0 c1 c2 c3 c5 c6 c7 c8 c10 c11:AV) (x i:Int) (h1:1≤i) (h2:i≤16):PureC Tryz.prog 196 [.rptr [c0,c1,c2,c3,.v (.int .u64 x),c5,c6,c7,c8,.v (.int .i64 i),c10,c11]] (u (wrapU (wrapU (x.tdiv i) * 2))):=by
 refine pure_sub okPA 1 Tryz.func196 rfl (by show 1≤_; decide) ?_
 have hd:IntKind.wrap .u64 i=i:=by rw [IntKind.wrap_u64]; omega
 have hi0:i≠0:=by omega
 have hu:∀ x,IntKind.wrap .u64 x=wrapU x:=fun _=>rfl
 simp only [Tryz.f196,hd,hi0,hu,T201,T23,T42,u,ctx_T,T3,T40,ev1,ev2,implies_true,undef,dynCall,resB,cv,stepB,stepE,aopR,one,pre,binR,intOpR,argFrm,evo,lkp,ofCells,TK.agg,frz,frz1,frzA,subA,subB,sub1,Nat.reduceAdd,Nat.reduceLT,Nat.reduceLeDiff,reduceCtorEq,eq_self,ne_eq]
 all_goals ((repeat' apply And.intro) <;> first | rfl | omega | (show (_:Bool)=true; kernel_rfl) | decide)
theorem free_ok:RowOk Tryz.prog (196,freeRow):=by
 intro args r h
 dsimp only at h
 unfold freeRow at h
 split at h
 ·rename_i c0 c1 c2 c3 x c5 c6 c7 c8 i c10 c11
  split at h
  ·rename_i hc
   cases h
   simp only [Bool.and_eq_true,List.all_cons,List.all_nil,decide_eq_true_eq] at hc
   obtain ⟨⟨p0,p1,p2,p3,p5,p6,p7,p8,p10,p11,_⟩,h1,h2⟩:=hc
   refine ⟨enters_of Tryz.func196 (by decide) rfl,?_,free_pure c0 c1 c2 c3 c5 c6 c7 c8 c10 c11 x i h1 h2⟩
   simp only [List.mem_cons,List.not_mem_nil,or_false]
   rintro _ rfl
   refine hfree_rptr ?_
   simp only [List.mem_cons,List.not_mem_nil,or_false]
   rintro c (rfl | rfl | rfl | rfl | rfl | rfl | rfl | rfl | rfl | rfl | rfl | rfl) <;> first | exact hfree_v _ | (apply hfree_plain; assumption)
  ·cases h
 ·cases h
theorem goesE_key (c:Cf) (m:List Int) (f:Fr) (op:Int):goesE c m f op=(mayC c && ((m.length:Int) == lSize c) && !(f.res != 0) && (f.op == op) && decide (f.pc ≥ 0) && decide (f.pc < 5)):=by
 rw [Bool.eq_iff_iff]
 simp [goesE]
 constructor
 ·rintro ⟨a,b,c,d,e,f⟩; simp_all
 ·intro h; simp_all
theorem goesE_pure (c:Cf) (m:List Int) (f:Fr) (op:Int) (hm:m.length≤1000):PureC Tryz.prog 171 [cv' c,ms m,fv f,iv op] (bv (goesE c m f op)):=by
 refine pure_sub okEA 2 Tryz.func171 rfl (by show 4≤_; decide) ?_
 rw [goesE_key]
 simp only [Tryz.f171,Tryz.func69,Tryz.f69,inl,EA_all,fv,cv',cf_eta,frz_u,shC_dec,dC,T23,T42,T30,row1,iv,bv,u,ms,ctx_T,ctx_C,ctx_P,T3,Option.bind_some,List.length_map,String.reduceBEq,shF_dec,dF,fr_eta,ev1,ev2,implies_true,undef,↓guardE_tt,↓guardE_ft,frzDeep,deepArgs,deepArg,resB,cv,stepB,guardB,guardC,dstAt,aopR,one,pre,binR,intOpR,unR,argFrm,evo,lkp,hlk,lenOf,ofCells,AV.wr,AV.ok1,TK.agg,frz,frz1,frzA,frzArg,frzArgs,subA,subB,sub1,Nat.reduceAdd,Nat.reduceEqDiff,Nat.reduceLT,Nat.reduceLeDiff,reduceCtorEq,eq_self,ne_eq]
 repeat' first | apply And.intro | intro _
 all_goals first | rfl | (simp_all; done) | (simp_all; intros; omega)
theorem length_pure (c:Cf) (m:List Int) (hm:m.length≤1000):PureC Tryz.prog 45 [cv' c,ms m] (iv (eLen c m)):=by
 refine pure_sub okEA 2 Tryz.func45 rfl (by show 2≤_; decide) ?_
 cases h1:mayC c with
 | false=>
  have e:eLen c m=-1:=by simp [eLen,h1]
  simp only [Tryz.f45,Tryz.func69,Tryz.f69,inl,EA_all,h1,e,cv',cf_eta,frz_u,shC_dec,dC,T23,row1,iv,bv,ms,ctx_T,ctx_C,ctx_P,Option.bind_some,String.reduceBEq,ev1,ev2,undef,↓condE_t,↓guardE_ft,frzDeep,deepArgs,deepArg,resB,cv,stepB,guardB,guardC,dstAt,aopR,one,pre,unR,argFrm,evo,lkp,hlk,ofCells,AV.wr,AV.ok1,TK.agg,frz,frz1,frzA,frzArg,frzArgs,subA,subB,sub1,Nat.reduceAdd,Nat.reduceEqDiff,Nat.reduceLT,Nat.reduceLeDiff,reduceCtorEq,eq_self,ne_eq]
  all_goals ((repeat' apply And.intro) <;> first | rfl | omega | (show (_:Bool)=true; kernel_rfl) | decide)
 | true=>
  cases h2:((m.length:Int) == lSize c) with
  | false=>
   have e:eLen c m=-1:=by
    have:¬ (m.length:Int)=lSize c:=by simpa using h2
    simp [eLen,this]
   simp only [Tryz.f45,Tryz.func69,Tryz.f69,inl,EA_all,h1,h2,e,cv',cf_eta,frz_u,shC_dec,dC,T23,T30,row1,iv,bv,ms,ctx_T,ctx_C,ctx_P,Option.bind_some,List.length_map,String.reduceBEq,ev1,ev2,undef,↓condE_t,↓guardE_tt,frzDeep,deepArgs,deepArg,resB,cv,stepB,guardB,guardC,dstAt,aopR,one,pre,binR,intOpR,unR,argFrm,evo,lkp,hlk,lenOf,ofCells,AV.wr,AV.ok1,TK.agg,frz,frz1,frzA,frzArg,frzArgs,subA,subB,sub1,Nat.reduceAdd,Nat.reduceEqDiff,Nat.reduceLT,Nat.reduceLeDiff,reduceCtorEq,eq_self,ne_eq]
   all_goals ((repeat' apply And.intro) <;> first | rfl | omega | (show (_:Bool)=true; kernel_rfl) | decide)
  | true=>
   have e:eLen c m=far (mLoad m 5) (mLoad m 4):=by
    have:(m.length:Int)=lSize c:=by simpa using h2
    simp [eLen,h1,this]
   simp only [Tryz.f45,Tryz.func69,Tryz.f69,inl,EA_all,h1,h2,e,hm,cv',cf_eta,frz_u,shC_dec,dC,T23,T30,row1,row2,shI_dec,shN_dec,shM_dec,dI,dN,dM,dU_map,iv,bv,u,ms,ctx_T,ctx_C,ctx_P,Option.bind_some,List.length_map,String.reduceBEq,ev1,ev2,undef,↓condE_f,↓guardE_tt,frzDeep,deepArgs,deepArg,resB,cv,stepB,guardB,guardC,dstAt,aopR,one,pre,binR,intOpR,unR,argFrm,evo,lkp,hlk,lenOf,ofCells,AV.wr,AV.ok1,TK.agg,frz,frz1,frzA,frzArg,frzArgs,subA,subB,sub1,Nat.reduceAdd,Nat.reduceEqDiff,Nat.reduceLT,Nat.reduceLeDiff,reduceCtorEq,eq_self,ne_eq]
   all_goals ((repeat' apply And.intro) <;> first | rfl | omega | (show (_:Bool)=true; kernel_rfl) | decide)
end Go.Vai

/- Putting into the injector: a step. -/
namespace Go.Vai
open Go.RowKit Go.Proofs
set_option maxHeartbeats 4000000
set_option maxRecDepth 100000
def rowsEB:List Row:=[
 (196,freeRow),
 (171,row4 shC shM shF shI fun c m f op=>some (bv (goesE c m f op))),
 (45,row2 shC shM fun c m=>some (iv (eLen c m)))] ++ rowsEA
theorem rowsEB_ok:∀ p∈rowsEB,RowOk Tryz.prog p:=fun p h=>by
 simp only [rowsEB,List.mem_append,List.mem_cons,List.not_mem_nil,or_false,or_assoc] at h
 rcases h with rfl | rfl | rfl | h
 ·exact free_ok
 ·exact ok_row4 (enters_of Tryz.func171 (by decide) rfl) fun c m f op r _ g _ _ e=>by cases e; exact goesE_pure c m f op (shM_got g)
 ·exact ok_row2 (enters_of Tryz.func45 (by decide) rfl) fun c m r _ g e=>by cases e; exact length_pure c m (shM_got g)
 ·exact rowsEA_ok p h
theorem okEB:(ctx Tryz.prog rowsEB).ok:=rows_ok rowsEB_ok
theorem EB_all:tabC rowsEB 196=(freeRow)∧tabC rowsEB 171=(row4 shC shM shF shI fun c m f op=>some (bv (goesE c m f op)))∧tabC rowsEB 45=(row2 shC shM fun c m=>some (iv (eLen c m)))∧tabC rowsEB 172=(fun _=>none)∧tabC rowsEB 173=(fun _=>none)∧tabC rowsEB 174=(fun _=>none)∧tabC rowsEB 175=(fun _=>none)∧tabC rowsEB 176=(fun _=>none)∧tabC rowsEB 177=(fun _=>none)∧tabC rowsEB 79=(row1 shM fun m=>some (ms m))∧tabC rowsEB 12=(row2 shM shI fun m i=>some (u (mLoad m i)))∧tabC rowsEB 90=(row3 shM shI shN fun m i v=>some (ms (mStore m i v)))∧tabC rowsEB 167=(row4 shM shI shN shN fun m i v w=>some (.tup [ms (mCas m i v w),bv (mCasB m i v)]))∧tabC rowsEB 70=(row2 shN shN fun a b=>some (iv (far a b)))∧tabC rowsEB 168=(row3 shF shI shN fun f r v=>some (fv (fEnd f r v)))∧tabC rowsEB 178=(row2 shC shN fun c x=>some (iv (eSeq c x)))∧tabC rowsEB 180=(row2 shC shN fun c x=>some (iv (eVal c x))):=⟨rfl,rfl,rfl,rfl,rfl,rfl,rfl,rfl,rfl,rfl,rfl,rfl,rfl,rfl,rfl,rfl,rfl⟩
theorem estep_pure (c:Cf) (m:List Int) (f:Fr) (hm:m.length≤1000):PureC Tryz.prog 150 [cv' c,ms m,fv f] (sv (eStep c m f)):=by
 refine pure_sub okEB 3 Tryz.func150 rfl (by show 3≤_; decide) ?_
 cases hg:goesE c m f 3 with
 | false=>
  rw [eStep_no hg]
  simp only [Tryz.f150,EB_all,hg,hm,sv,fv,T201,cv',cf_eta,shC_dec,dC,T23,T42,T30,hfree_lu,row1,row4,shI_dec,shM_dec,dI,dM,dU_map,iv,bv,u,ms,ctx_T,ctx_C,Option.bind_some,Option.map_some,shF_dec,dF,fr_eta,ev1,ev2,implies_true,undef,dynCall,↓condE_t,resB,cv,stepB,stepE,callD,tabD,aopR,one,pre,unR,argFrm,evo,lkp,hlk,ofVal,ofCells,setCells,fillA,AV.wr,AV.ok1,TK.agg,frz,frz1,frzt,frzs,frzA,subA,subB,subM,subL,sub1,accOf,Nat.reduceAdd,Nat.reduceEqDiff,Nat.reduceLT,Nat.reduceLeDiff,reduceCtorEq,eq_self,ne_eq]
  all_goals ((repeat' apply And.intro) <;> first | rfl | omega | (show (_:Bool)=true; kernel_rfl) | decide)
 | true=>
  obtain ⟨hl,hres,hop,h0,h1⟩:=goesE_iff.1 hg
  have hd:wrapU c.i=c.i:=by rw [wrapU_eq]; have:=hl.ipos; omega
  have hi0:c.i≠0:=by have:=hl.ipos; omega
  have hii:(1≤c.i∧c.i≤16)=True:=eq_true (by have:=mayC_iff.1 hl.may; omega)
  have hu:∀ x,IntKind.wrap .u64 x=wrapU x:=fun _=>rfl
  obtain ⟨op,pc,who,val,x,y,res⟩:=f
  dsimp only at h0 h1
  have hE:wrapU (wrapU (x.tdiv c.i) * 2)=eFree c x:=rfl
  have hpc:pc=0∨pc=1∨pc=2∨pc=3∨pc=4:=by omega
  unfold eStep
  rw [if_pos hg]
  rcases hpc with rfl | rfl | rfl | rfl | rfl
  ·skip
   simp only [Tryz.f150,Tryz.func172,Tryz.f172,Tryz.func177,Tryz.f177,inl,EB_all,hg,hm,sv,fv,fEnd,T201,T83,T203,cv',cf_eta,shC_dec,dC,T23,T42,T30,hfree_lu,row1,row2,row4,shI_dec,shM_dec,dI,dM,dU_map,iv,bv,u,ms,ctx_T,ctx_C,ctx_P,T3,T40,Option.bind_some,Option.map_some,String.reduceBEq,shF_dec,dF,Int.cast_ofNat_Int,ev1,ev2,implies_true,undef,dynCall,↓condE_f,frzDeep,deepArgs,deepArg,resB,cv,stepB,stepE,callD,tabD,aopR,one,pre,unR,argFrm,evo,lkp,hlk,ofVal,ofCells,setCells,fillA,setElems,AV.wr,AV.ok1,TK.agg,frz,frz1,frzt,frzs,frzA,frzArg,frzArgs,subA,subB,subM,subL,sub1,accOf,List.replicate,Nat.reduceAdd,Nat.reduceMul,Nat.reduceEqDiff,Nat.reduceLT,Nat.reduceLeDiff,reduceCtorEq,eq_self,ne_eq,Int.reduceLT,Int.reduceLE,Int.reduceEq]
   all_goals ((repeat' apply And.intro) <;> first | rfl | omega | (show (_:Bool)=true; kernel_rfl) | decide)
  ·by_cases q:mLoad m (eSeq c x)=eFree c x
   ·have q1:(mLoad m (eSeq c x) == eFree c x)=true:=by simpa using q
    simp only [Tryz.f150,Tryz.func173,Tryz.f173,Tryz.func177,Tryz.f177,inl,EB_all,hg,hm,hii,freeRow,plainC,hE,q,beq_self_eq_true,sv,fv,fEnd,T201,T83,T203,cv',cf_eta,shC_dec,dC,T23,T42,T30,hfree_lu,row1,row2,row4,shI_dec,shN_dec,shM_dec,dI,dN,dM,dU_map,iv,bv,u,ms,ctx_T,ctx_C,ctx_P,T3,T40,Option.bind_some,Option.map_some,String.reduceBEq,shF_dec,dF,Int.cast_ofNat_Int,ev1,ev2,implies_true,undef,dynCall,↓condE_t,↓condE_f,frzDeep,deepArgs,deepArg,resB,cv,stepB,stepE,callD,tabD,snapD,snap1,snapC,snapId,snapIds,aopR,one,pre,binR,intOpR,unR,argFrm,evo,lkp,hlk,ofVal,ofCells,setCells,fillA,setElems,AV.wr,AV.ok1,TK.agg,frz,frz1,frzt,frzs,frzA,frzArg,frzArgs,subA,subB,subM,subL,sub1,accOf,List.replicate,Nat.reduceAdd,Nat.reduceMul,Nat.reduceEqDiff,Nat.reduceLT,Nat.reduceLeDiff,reduceCtorEq,eq_self,ne_eq,Int.reduceToNat,Int.reduceLT,Int.reduceLE,Int.reduceEq]
    all_goals ((repeat' apply And.intro) <;> first | rfl | omega | (show (_:Bool)=true; kernel_rfl) | decide)
   ·have q1:(mLoad m (eSeq c x) == eFree c x)=false:=by simpa using q
    by_cases q2:far (mLoad m (eSeq c x)) (eFree c x) < 0
    ·skip
     simp only [Tryz.f150,Tryz.func173,Tryz.f173,Tryz.func177,Tryz.f177,inl,EB_all,hg,hm,hii,freeRow,plainC,hE,q,q1,q2,sv,fv,fEnd,T201,T83,T203,cv',cf_eta,shC_dec,dC,T23,T42,T30,hfree_lu,row1,row2,row3,row4,shI_dec,shN_dec,shM_dec,dI,dN,dM,dU_map,iv,bv,u,ms,ctx_T,ctx_C,ctx_P,T3,T40,Option.bind_some,Option.map_some,String.reduceBEq,shF_dec,dF,Int.cast_ofNat_Int,ev1,ev2,implies_true,undef,dynCall,↓condE_t,↓condE_f,frzDeep,deepArgs,deepArg,resB,cv,stepB,stepE,callD,tabD,snapD,snap1,snapC,snapId,snapIds,aopR,one,pre,binR,intOpR,unR,argFrm,evo,lkp,hlk,ofVal,ofCells,setCells,fillA,setElems,AV.wr,AV.ok1,TK.agg,frz,frz1,frzt,frzs,frzA,frzArg,frzArgs,subA,subB,subM,subL,sub1,accOf,List.replicate,Nat.reduceAdd,Nat.reduceMul,Nat.reduceEqDiff,Nat.reduceLT,Nat.reduceLeDiff,reduceCtorEq,eq_self,ne_eq,Int.reduceToNat,Int.reduceLT,Int.reduceLE,Int.reduceEq]
     all_goals ((repeat' apply And.intro) <;> first | rfl | omega | (show (_:Bool)=true; kernel_rfl) | decide)
    ·skip
     simp only [Tryz.f150,Tryz.func173,Tryz.f173,Tryz.func177,Tryz.f177,inl,EB_all,hg,hm,hii,freeRow,plainC,hE,q,q1,q2,sv,fv,fEnd,T201,T83,T203,cv',cf_eta,shC_dec,dC,T23,T42,T30,hfree_lu,row1,row2,row4,shI_dec,shN_dec,shM_dec,dI,dN,dM,dU_map,iv,bv,u,ms,ctx_T,ctx_C,ctx_P,T3,T40,Option.bind_some,Option.map_some,String.reduceBEq,shF_dec,dF,Int.cast_ofNat_Int,ev1,ev2,implies_true,undef,dynCall,↓condE_f,frzDeep,deepArgs,deepArg,resB,cv,stepB,stepE,callD,tabD,snapD,snap1,snapC,snapId,snapIds,aopR,one,pre,binR,intOpR,unR,argFrm,evo,lkp,hlk,ofVal,ofCells,setCells,fillA,setElems,AV.wr,AV.ok1,TK.agg,frz,frz1,frzt,frzs,frzA,frzArg,frzArgs,subA,subB,subM,subL,sub1,accOf,List.replicate,Nat.reduceAdd,Nat.reduceMul,Nat.reduceEqDiff,Nat.reduceLT,Nat.reduceLeDiff,reduceCtorEq,eq_self,ne_eq,Int.reduceToNat,Int.reduceLT,Int.reduceLE,Int.reduceEq]
     all_goals ((repeat' apply And.intro) <;> first | rfl | omega | (show (_:Bool)=true; kernel_rfl) | decide)
  ·cases q:mCasB m 5 x with
   | true=>
    simp only [Tryz.f150,Tryz.func174,Tryz.f174,Tryz.func177,Tryz.f177,inl,EB_all,hg,hm,hu,q,sv,fv,fEnd,T201,T83,T203,cv',cf_eta,shC_dec,dC,T23,T42,T30,hfree_lu,row1,row4,shI_dec,shN_dec,shM_dec,dI,dN,dM,dU_map,iv,bv,u,ms,ctx_T,ctx_C,ctx_P,T3,T40,Option.bind_some,Option.map_some,String.reduceBEq,shF_dec,dF,Int.cast_ofNat_Int,ev1,ev2,implies_true,undef,dynCall,↓condE_t,↓condE_f,frzDeep,deepArgs,deepArg,resB,cv,stepB,stepE,callD,tabD,aopR,one,pre,binR,intOpR,unR,argFrm,evo,lkp,hlk,ofVal,ofCells,setCells,fillA,setElems,AV.wr,AV.ok1,TK.agg,frz,frz1,frzt,frzs,frzA,frzArg,frzArgs,subA,subB,subM,subL,sub1,accOf,List.replicate,Nat.reduceAdd,Nat.reduceMul,Nat.reduceEqDiff,Nat.reduceLT,Nat.reduceLeDiff,reduceCtorEq,eq_self,ne_eq,Int.reduceToNat,Int.reduceLT,Int.reduceLE,Int.reduceEq]
    all_goals ((repeat' apply And.intro) <;> first | rfl | omega | (show (_:Bool)=true; kernel_rfl) | decide)
   | false=>
    simp only [Tryz.f150,Tryz.func174,Tryz.f174,Tryz.func177,Tryz.f177,inl,EB_all,hg,hm,hu,q,sv,fv,fEnd,T201,T83,T203,cv',cf_eta,shC_dec,dC,T23,T42,T30,hfree_lu,row1,row4,shI_dec,shN_dec,shM_dec,dI,dN,dM,dU_map,iv,bv,u,ms,ctx_T,ctx_C,ctx_P,T3,T40,Option.bind_some,Option.map_some,String.reduceBEq,shF_dec,dF,Int.cast_ofNat_Int,ev1,ev2,implies_true,undef,dynCall,↓condE_f,frzDeep,deepArgs,deepArg,resB,cv,stepB,stepE,callD,tabD,aopR,one,pre,binR,intOpR,unR,argFrm,evo,lkp,hlk,ofVal,ofCells,setCells,fillA,setElems,AV.wr,AV.ok1,TK.agg,frz,frz1,frzt,frzs,frzA,frzArg,frzArgs,subA,subB,subM,subL,sub1,accOf,List.replicate,Nat.reduceAdd,Nat.reduceMul,Nat.reduceEqDiff,Nat.reduceLT,Nat.reduceLeDiff,reduceCtorEq,eq_self,ne_eq,Int.reduceToNat,Int.reduceLT,Int.reduceLE,Int.reduceEq]
    all_goals ((repeat' apply And.intro) <;> first | rfl | omega | (show (_:Bool)=true; kernel_rfl) | decide)
  ·skip
   simp only [Tryz.f150,Tryz.func175,Tryz.f175,Tryz.func177,Tryz.f177,inl,EB_all,hg,hm,sv,fv,fEnd,T201,T83,T203,cv',cf_eta,shC_dec,dC,T23,T42,T30,hfree_lu,row1,row2,row3,row4,shI_dec,shN_dec,shM_dec,dI,dN,dM,dU_map,iv,bv,u,ms,ctx_T,ctx_C,ctx_P,T3,T40,Option.bind_some,Option.map_some,String.reduceBEq,shF_dec,dF,Int.cast_ofNat_Int,ev1,ev2,implies_true,undef,dynCall,↓condE_f,frzDeep,deepArgs,deepArg,resB,cv,stepB,stepE,callD,tabD,aopR,one,pre,unR,argFrm,evo,lkp,hlk,ofVal,ofCells,setCells,fillA,setElems,AV.wr,AV.ok1,TK.agg,frz,frz1,frzt,frzs,frzA,frzArg,frzArgs,subA,subB,subM,subL,sub1,accOf,List.replicate,Nat.reduceAdd,Nat.reduceMul,Nat.reduceEqDiff,Nat.reduceLT,Nat.reduceLeDiff,reduceCtorEq,eq_self,ne_eq,Int.reduceToNat,Int.reduceLT,Int.reduceLE,Int.reduceEq]
   all_goals ((repeat' apply And.intro) <;> first | rfl | omega | (show (_:Bool)=true; kernel_rfl) | decide)
  ·skip
   simp only [Tryz.f150,Tryz.func176,Tryz.f176,Tryz.func177,Tryz.f177,inl,EB_all,hg,hm,hu,hii,freeRow,plainC,hE,sv,fv,fEnd,T201,T83,T203,cv',cf_eta,shC_dec,dC,T23,T42,T30,hfree_lu,row1,row2,row3,row4,shI_dec,shN_dec,shM_dec,dI,dN,dM,dU_map,iv,bv,u,ms,ctx_T,ctx_C,ctx_P,T3,T40,Option.bind_some,Option.map_some,String.reduceBEq,shF_dec,dF,Int.cast_ofNat_Int,ev1,ev2,implies_true,undef,dynCall,↓condE_f,frzDeep,deepArgs,deepArg,resB,cv,stepB,stepE,callD,tabD,snapD,snap1,snapC,snapId,snapIds,aopR,one,pre,binR,intOpR,unR,argFrm,evo,lkp,hlk,ofVal,ofCells,setCells,fillA,setElems,AV.wr,AV.ok1,TK.agg,frz,frz1,frzt,frzs,frzA,frzArg,frzArgs,subA,subB,subM,subL,sub1,accOf,List.replicate,Nat.reduceAdd,Nat.reduceMul,Nat.reduceEqDiff,Nat.reduceLT,Nat.reduceLeDiff,reduceCtorEq,eq_self,ne_eq,Int.reduceToNat,Int.reduceLT,Int.reduceLE,Int.reduceEq]
   all_goals ((repeat' apply And.intro) <;> first | rfl | omega | (show (_:Bool)=true; kernel_rfl) | decide)
end Go.Vai

/- Taking out of the injector: a step. -/
namespace Go.Vai
open Go.RowKit Go.Proofs
set_option maxHeartbeats 4000000
set_option maxRecDepth 100000
theorem full_pure (c:Cf) (x:Int) (h:1≤c.i∧c.i≤16):PureC Tryz.prog 179 [cv' c,u x] (u (qFull c x)):=by
 refine pure_sub okEB 1 Tryz.func179 rfl (by show 2≤_; decide) ?_
 have hd:wrapU c.i=c.i:=by rw [wrapU_eq]; omega
 have hi0:c.i≠0:=by omega
 have hu:∀ x,IntKind.wrap .u64 x=wrapU x:=fun _=>rfl
 have hE:wrapU (wrapU (x.tdiv c.i) * 2)=eFree c x:=rfl
 unfold qFull
 simp only [Tryz.f179,hu,hd,hi0,hE,cv',T23,iv,u,ctx_T,T3,T40,ev1,ev2,implies_true,undef,resB,cv,stepB,aopR,one,pre,binR,intOpR,argFrm,evo,lkp,hlk,ofCells,AV.wr,AV.ok1,TK.agg,frz,frz1,frzA,subA,subB,sub1,Nat.reduceAdd,Nat.reduceLT,Nat.reduceLeDiff,reduceCtorEq,eq_self,ne_eq]
 all_goals ((repeat' apply And.intro) <;> first | rfl | omega | (show (_:Bool)=true; kernel_rfl) | decide)
def rowsDA:List Row:=[
 (179,row2 shC shN fun c x=>if 1≤c.i∧c.i≤16 then some (u (qFull c x)) else none)] ++ rowsEB
theorem rowsDA_ok:∀ p∈rowsDA,RowOk Tryz.prog p:=fun p h=>by
 simp only [rowsDA,List.mem_append,List.mem_cons,List.not_mem_nil,or_false] at h
 rcases h with rfl | h
 ·exact ok_row2 (enters_of Tryz.func179 (by decide) rfl) fun c x r _ _ e=>by split at e; cases e; exact full_pure c x ‹_›; cases e
 ·exact rowsEB_ok p h
theorem okDA:(ctx Tryz.prog rowsDA).ok:=rows_ok rowsDA_ok
theorem DA_all:tabC rowsDA 179=(row2 shC shN fun c x=>if 1≤c.i∧c.i≤16 then some (u (qFull c x)) else none)∧tabC rowsDA 171=(row4 shC shM shF shI fun c m f op=>some (bv (goesE c m f op)))∧tabC rowsDA 79=(row1 shM fun m=>some (ms m))∧tabC rowsDA 12=(row2 shM shI fun m i=>some (u (mLoad m i)))∧tabC rowsDA 90=(row3 shM shI shN fun m i v=>some (ms (mStore m i v)))∧tabC rowsDA 167=(row4 shM shI shN shN fun m i v w=>some (.tup [ms (mCas m i v w),bv (mCasB m i v)]))∧tabC rowsDA 70=(row2 shN shN fun a b=>some (iv (far a b)))∧tabC rowsDA 168=(row3 shF shI shN fun f r v=>some (fv (fEnd f r v)))∧tabC rowsDA 178=(row2 shC shN fun c x=>some (iv (eSeq c x)))∧tabC rowsDA 180=(row2 shC shN fun c x=>some (iv (eVal c x))):=⟨rfl,rfl,rfl,rfl,rfl,rfl,rfl,rfl,rfl,rfl⟩
theorem qstep_pure (c:Cf) (m:List Int) (f:Fr) (hm:m.length≤1000):PureC Tryz.prog 151 [cv' c,ms m,fv f] (sv (qStep c m f)):=by
 refine pure_sub okDA 1 Tryz.func151 rfl (by show 3≤_; decide) ?_
 cases hg:goesE c m f 4 with
 | false=>
  rw [qStep_no hg]
  simp only [Tryz.f151,DA_all,hg,hm,sv,fv,cv',cf_eta,shC_dec,dC,T23,T42,hfree_lu,row1,row4,shI_dec,shM_dec,dI,dM,dU_map,iv,bv,u,ms,ctx_T,ctx_C,Option.bind_some,shF_dec,dF,fr_eta,ev1,ev2,undef,dynCall,↓condE_t,resB,cv,stepB,stepE,aopR,one,pre,unR,argFrm,evo,lkp,hlk,ofVal,ofCells,setCells,AV.wr,AV.ok1,TK.agg,frz,frz1,frzt,frzs,frzA,subA,subB,subM,subL,sub1,accOf,Nat.reduceAdd,Nat.reduceEqDiff,Nat.reduceLT,Nat.reduceLeDiff,reduceCtorEq,eq_self,ne_eq]
  all_goals ((repeat' apply And.intro) <;> first | rfl | omega | (show (_:Bool)=true; kernel_rfl) | decide)
 | true=>
  obtain ⟨hl,hres,hop,h0,h1⟩:=goesE_iff.1 hg
  have hd:wrapU c.i=c.i:=by rw [wrapU_eq]; have:=hl.ipos; omega
  have hi0:c.i≠0:=by have:=hl.ipos; omega
  have hii:(1≤c.i∧c.i≤16)=True:=eq_true hl.ipos
  have hu:∀ x,IntKind.wrap .u64 x=wrapU x:=fun _=>rfl
  obtain ⟨op,pc,who,val,x,y,res⟩:=f
  dsimp only at h0 h1
  have hpc:pc=0∨pc=1∨pc=2∨pc=3∨pc=4:=by omega
  unfold qStep
  rw [if_pos hg]
  rcases hpc with rfl | rfl | rfl | rfl | rfl
  ·skip
   simp only [Tryz.f151,DA_all,hg,hm,sv,fv,fEnd,cv',cf_eta,shC_dec,dC,T23,T42,hfree_lu,row1,row2,row4,shI_dec,shM_dec,dI,dM,dU_map,iv,bv,u,ms,ctx_T,ctx_C,T3,T40,Option.bind_some,shF_dec,dF,ev1,ev2,implies_true,undef,dynCall,↓condE_t,↓condE_f,resB,cv,stepB,stepE,aopR,one,pre,binR,intOpR,unR,argFrm,evo,lkp,hlk,ofVal,ofCells,setCells,AV.wr,AV.ok1,TK.agg,frz,frz1,frzt,frzs,frzA,subA,subB,subM,subL,sub1,accOf,Nat.reduceAdd,Nat.reduceEqDiff,Nat.reduceLT,Nat.reduceLeDiff,reduceCtorEq,eq_self,ne_eq,Int.reduceEq]
   all_goals ((repeat' apply And.intro) <;> first | rfl | omega | (show (_:Bool)=true; kernel_rfl) | decide)
  ·by_cases q:far (mLoad m (eSeq c x)) (qFull c x)=0
   ·have q1:(far (mLoad m (eSeq c x)) (qFull c x) == 0)=true:=by simpa using q
    have q0:far (mLoad m (eSeq c x)) (wrapU (eFree c x + 1))=0:=q
    simp only [Tryz.f151,DA_all,hg,hm,hii,q0,q1,sv,fv,fEnd,cv',cf_eta,shC_dec,dC,T23,T42,hfree_lu,row1,row2,row4,shI_dec,shN_dec,shM_dec,dI,dN,dM,dU_map,iv,bv,u,ms,ctx_T,ctx_C,T3,T40,Option.bind_some,shF_dec,dF,ev1,ev2,implies_true,undef,dynCall,↓condE_t,↓condE_f,resB,cv,stepB,stepE,callD,tabD,aopR,one,pre,binR,intOpR,unR,argFrm,evo,lkp,hlk,ofVal,ofCells,setCells,AV.wr,AV.ok1,TK.agg,frz,frz1,frzt,frzs,frzA,subA,subB,subM,subL,sub1,accOf,Nat.reduceAdd,Nat.reduceEqDiff,Nat.reduceLT,Nat.reduceLeDiff,reduceCtorEq,eq_self,ne_eq,Int.reduceLT,Int.reduceBEq,Int.reduceEq]
    all_goals ((repeat' apply And.intro) <;> first | rfl | omega | (show (_:Bool)=true; kernel_rfl) | decide)
   ·have q1:(far (mLoad m (eSeq c x)) (qFull c x) == 0)=false:=by simpa using q
    have q0:¬ far (mLoad m (eSeq c x)) (wrapU (eFree c x + 1))=0:=q
    by_cases q2:far (mLoad m (eSeq c x)) (qFull c x) < 0
    ·have q3:far (mLoad m (eSeq c x)) (wrapU (eFree c x + 1)) < 0:=q2
     simp only [Tryz.f151,DA_all,hg,hm,hii,q0,q1,q2,q3,sv,fv,fEnd,cv',cf_eta,shC_dec,dC,T23,T42,hfree_lu,row1,row2,row3,row4,shI_dec,shN_dec,shM_dec,dI,dN,dM,dU_map,iv,bv,u,ms,ctx_T,ctx_C,T3,T40,Option.bind_some,shF_dec,dF,ev1,ev2,implies_true,undef,dynCall,↓condE_t,↓condE_f,resB,cv,stepB,stepE,callD,tabD,aopR,one,pre,binR,intOpR,unR,argFrm,evo,lkp,hlk,ofVal,ofCells,setCells,AV.wr,AV.ok1,TK.agg,frz,frz1,frzt,frzs,frzA,subA,subB,subM,subL,sub1,accOf,Nat.reduceAdd,Nat.reduceEqDiff,Nat.reduceLT,Nat.reduceLeDiff,reduceCtorEq,eq_self,ne_eq,Int.reduceBEq,Int.reduceEq]
     all_goals ((repeat' apply And.intro) <;> first | rfl | omega | (show (_:Bool)=true; kernel_rfl) | decide)
    ·have q3:¬ far (mLoad m (eSeq c x)) (wrapU (eFree c x + 1)) < 0:=q2
     simp only [Tryz.f151,DA_all,hg,hm,hii,q0,q1,q2,q3,sv,fv,fEnd,cv',cf_eta,shC_dec,dC,T23,T42,hfree_lu,row1,row2,row4,shI_dec,shN_dec,shM_dec,dI,dN,dM,dU_map,iv,bv,u,ms,ctx_T,ctx_C,T3,T40,Option.bind_some,shF_dec,dF,ev1,ev2,implies_true,undef,dynCall,↓condE_t,↓condE_f,resB,cv,stepB,stepE,callD,tabD,aopR,one,pre,binR,intOpR,unR,argFrm,evo,lkp,hlk,ofVal,ofCells,setCells,AV.wr,AV.ok1,TK.agg,frz,frz1,frzt,frzs,frzA,subA,subB,subM,subL,sub1,accOf,Nat.reduceAdd,Nat.reduceEqDiff,Nat.reduceLT,Nat.reduceLeDiff,reduceCtorEq,eq_self,ne_eq,Int.reduceBEq,Int.reduceEq]
     all_goals ((repeat' apply And.intro) <;> first | rfl | omega | (show (_:Bool)=true; kernel_rfl) | decide)
  ·cases q:mCasB m 4 x with
   | true=>
    simp only [Tryz.f151,DA_all,hg,hm,hu,q,sv,fv,fEnd,cv',cf_eta,shC_dec,dC,T23,T42,hfree_lu,row1,row4,shI_dec,shN_dec,shM_dec,dI,dN,dM,dU_map,iv,bv,u,ms,ctx_T,ctx_C,T3,T40,Option.bind_some,shF_dec,dF,ev1,ev2,implies_true,undef,dynCall,↓condE_t,↓condE_f,resB,cv,stepB,stepE,aopR,one,pre,binR,intOpR,unR,argFrm,evo,lkp,hlk,ofVal,ofCells,setCells,AV.wr,AV.ok1,TK.agg,frz,frz1,frzt,frzs,frzA,subA,subB,subM,subL,sub1,accOf,Nat.reduceAdd,Nat.reduceEqDiff,Nat.reduceLT,Nat.reduceLeDiff,reduceCtorEq,eq_self,ne_eq,Int.reduceBEq,Int.reduceEq]
    all_goals ((repeat' apply And.intro) <;> first | rfl | omega | (show (_:Bool)=true; kernel_rfl) | decide)
   | false=>
    simp only [Tryz.f151,DA_all,hg,hm,hu,q,sv,fv,fEnd,cv',cf_eta,shC_dec,dC,T23,T42,hfree_lu,row1,row4,shI_dec,shN_dec,shM_dec,dI,dN,dM,dU_map,iv,bv,u,ms,ctx_T,ctx_C,T3,T40,Option.bind_some,shF_dec,dF,ev1,ev2,implies_true,undef,dynCall,↓condE_t,↓condE_f,resB,cv,stepB,stepE,aopR,one,pre,binR,intOpR,unR,argFrm,evo,lkp,hlk,ofVal,ofCells,setCells,AV.wr,AV.ok1,TK.agg,frz,frz1,frzt,frzs,frzA,subA,subB,subM,subL,sub1,accOf,Nat.reduceAdd,Nat.reduceEqDiff,Nat.reduceLT,Nat.reduceLeDiff,reduceCtorEq,eq_self,ne_eq,Int.reduceBEq,Int.reduceEq]
    all_goals ((repeat' apply And.intro) <;> first | rfl | omega | (show (_:Bool)=true; kernel_rfl) | decide)
  ·skip
   simp only [Tryz.f151,DA_all,hg,hm,sv,fv,fEnd,cv',cf_eta,shC_dec,dC,T23,T42,hfree_lu,row1,row2,row4,shI_dec,shN_dec,shM_dec,dI,dN,dM,dU_map,iv,bv,u,ms,ctx_T,ctx_C,T3,T40,Option.bind_some,shF_dec,dF,ev1,ev2,implies_true,undef,dynCall,↓condE_t,↓condE_f,resB,cv,stepB,stepE,aopR,one,pre,binR,intOpR,unR,argFrm,evo,lkp,hlk,ofVal,ofCells,setCells,AV.wr,AV.ok1,TK.agg,frz,frz1,frzt,frzs,frzA,subA,subB,subM,subL,sub1,accOf,Nat.reduceAdd,Nat.reduceEqDiff,Nat.reduceLT,Nat.reduceLeDiff,reduceCtorEq,eq_self,ne_eq,Int.reduceBEq,Int.reduceEq]
   all_goals ((repeat' apply And.intro) <;> first | rfl | omega | (show (_:Bool)=true; kernel_rfl) | decide)
  ·have hF:wrapU (wrapU (eFree c x + 1) + 1)=wrapU (qFull c x + 1):=rfl
   rw [hF]
   simp only [Tryz.f151,DA_all,hg,hm,hu,hii,sv,fv,fEnd,cv',cf_eta,shC_dec,dC,T23,T42,hfree_lu,row1,row2,row3,row4,shI_dec,shN_dec,shM_dec,dI,dN,dM,dU_map,iv,bv,u,ms,ctx_T,ctx_C,T3,T40,Option.bind_some,shF_dec,dF,ev1,ev2,implies_true,undef,dynCall,↓condE_f,resB,cv,stepB,stepE,callD,tabD,aopR,one,pre,binR,intOpR,unR,argFrm,evo,lkp,hlk,ofVal,ofCells,setCells,AV.wr,AV.ok1,TK.agg,frz,frz1,frzt,frzs,frzA,subA,subB,subM,subL,sub1,accOf,Nat.reduceAdd,Nat.reduceEqDiff,Nat.reduceLT,Nat.reduceLeDiff,reduceCtorEq,eq_self,ne_eq,Int.reduceBEq,Int.reduceEq]
   all_goals ((repeat' apply And.intro) <;> first | rfl | omega | (show (_:Bool)=true; kernel_rfl) | decide)
end Go.Vai

/- Words, and where a worker parks. -/
namespace Go.Vai
open Go.RowKit Go.Proofs
set_option maxHeartbeats 4000000
set_option maxRecDepth 100000
theorem tt_all:type_of% (And.intro T1 <| And.intro T2 <| And.intro T3 <| And.intro T4 <| And.intro T5 <| And.intro T6 <| And.intro T12 <| And.intro T15 <| And.intro T16 <| And.intro T17 <| And.intro T21 <| And.intro T22 <| And.intro T23 <| And.intro T24 <| And.intro T25 <| And.intro T26 <| And.intro T27 <| And.intro T28 <| And.intro T29 <| And.intro T30 <| And.intro T31 <| And.intro T32 <| And.intro T33 <| And.intro T34 <| And.intro T35 <| And.intro T37 <| And.intro T38 <| And.intro T39 <| And.intro T40 <| And.intro T41 <| And.intro T42 <| And.intro T43 <| And.intro T44 <| And.intro T45 <| And.intro T46 <| And.intro T47 <| And.intro T48 <| And.intro T49 <| And.intro T50 <| And.intro T51 <| And.intro T53 <| And.intro T54 <| And.intro T55 <| And.intro T57 <| And.intro T58 <| And.intro T59 <| And.intro T60 <| And.intro T61 <| And.intro T62 <| And.intro T63 <| And.intro T64 <| And.intro T65 <| And.intro T66 <| And.intro T67 <| And.intro T69 <| And.intro T71 <| And.intro T72 <| And.intro T73 <| And.intro T74 <| And.intro T75 <| And.intro T76 <| And.intro T77 <| And.intro T78 <| And.intro T79 <| And.intro T80 <| And.intro T81 <| And.intro T82 <| And.intro T83 <| And.intro T84 <| And.intro T85 <| And.intro T86 <| And.intro T87 <| And.intro T88 <| And.intro T89 <| And.intro T90 <| And.intro T91 <| And.intro T92 <| And.intro T93 <| And.intro T94 <| And.intro T96 <| And.intro T98 <| And.intro T99 <| And.intro T100 <| And.intro T101 <| And.intro T102 <| And.intro T103 <| And.intro T104 <| And.intro T105 <| And.intro T106 <| And.intro T107 <| And.intro T108 <| And.intro T109 <| And.intro T110 <| And.intro T111 <| And.intro T112 <| And.intro T113 <| And.intro T114 <| And.intro T115 <| And.intro T116 <| And.intro T117 <| And.intro T118 <| And.intro T119 <| And.intro T120 <| And.intro T121 <| And.intro T122 <| And.intro T123 <| And.intro T124 <| And.intro T125 <| And.intro T126 <| And.intro T127 <| And.intro T128 <| And.intro T129 <| And.intro T130 <| And.intro T131 <| And.intro T132 <| And.intro T133 <| And.intro T134 <| And.intro T135 <| And.intro T136 <| And.intro T137 <| And.intro T139 <| And.intro T140 <| And.intro T142 <| And.intro T143 <| And.intro T144 <| And.intro T146 <| And.intro T147 <| And.intro T148 <| And.intro T149 <| And.intro T150 <| And.intro T151 <| And.intro T152 <| And.intro T154 <| And.intro T155 <| And.intro T156 <| And.intro T157 <| And.intro T158 <| And.intro T159 <| And.intro T160 <| And.intro T161 <| And.intro T164 <| And.intro T165 <| And.intro T166 <| And.intro T167 <| And.intro T168 <| And.intro T169 <| And.intro T170 <| And.intro T171 <| And.intro T172 <| And.intro T173 <| And.intro T174 <| And.intro T175 <| And.intro T176 <| And.intro T177 <| And.intro T178 <| And.intro T179 <| And.intro T181 <| And.intro T182 <| And.intro T183 <| And.intro T184 <| And.intro T185 <| And.intro T186 <| And.intro T187 <| And.intro T188 <| And.intro T189 <| And.intro T191 <| And.intro T192 <| And.intro T193 <| And.intro T195 <| And.intro T196 <| And.intro T197 <| And.intro T198 <| And.intro T199 <| And.intro T200 <| And.intro T201 <| And.intro T202 <| And.intro T203 <| And.intro T204 <| And.intro T205 <| And.intro T206 <| And.intro T207 <| And.intro T210 <| And.intro T211 <| And.intro T212 <| And.intro T213 <| And.intro T214 <| And.intro T215 <| And.intro T216 <| And.intro T217 <| And.intro T218 <| And.intro T219 <| And.intro T220 <| And.intro T221 <| And.intro T227 <| And.intro T228 <| And.intro T229 <| And.intro T230 <| And.intro T231 <| And.intro T232 <| T233):=And.intro T1 <| And.intro T2 <| And.intro T3 <| And.intro T4 <| And.intro T5 <| And.intro T6 <| And.intro T12 <| And.intro T15 <| And.intro T16 <| And.intro T17 <| And.intro T21 <| And.intro T22 <| And.intro T23 <| And.intro T24 <| And.intro T25 <| And.intro T26 <| And.intro T27 <| And.intro T28 <| And.intro T29 <| And.intro T30 <| And.intro T31 <| And.intro T32 <| And.intro T33 <| And.intro T34 <| And.intro T35 <| And.intro T37 <| And.intro T38 <| And.intro T39 <| And.intro T40 <| And.intro T41 <| And.intro T42 <| And.intro T43 <| And.intro T44 <| And.intro T45 <| And.intro T46 <| And.intro T47 <| And.intro T48 <| And.intro T49 <| And.intro T50 <| And.intro T51 <| And.intro T53 <| And.intro T54 <| And.intro T55 <| And.intro T57 <| And.intro T58 <| And.intro T59 <| And.intro T60 <| And.intro T61 <| And.intro T62 <| And.intro T63 <| And.intro T64 <| And.intro T65 <| And.intro T66 <| And.intro T67 <| And.intro T69 <| And.intro T71 <| And.intro T72 <| And.intro T73 <| And.intro T74 <| And.intro T75 <| And.intro T76 <| And.intro T77 <| And.intro T78 <| And.intro T79 <| And.intro T80 <| And.intro T81 <| And.intro T82 <| And.intro T83 <| And.intro T84 <| And.intro T85 <| And.intro T86 <| And.intro T87 <| And.intro T88 <| And.intro T89 <| And.intro T90 <| And.intro T91 <| And.intro T92 <| And.intro T93 <| And.intro T94 <| And.intro T96 <| And.intro T98 <| And.intro T99 <| And.intro T100 <| And.intro T101 <| And.intro T102 <| And.intro T103 <| And.intro T104 <| And.intro T105 <| And.intro T106 <| And.intro T107 <| And.intro T108 <| And.intro T109 <| And.intro T110 <| And.intro T111 <| And.intro T112 <| And.intro T113 <| And.intro T114 <| And.intro T115 <| And.intro T116 <| And.intro T117 <| And.intro T118 <| And.intro T119 <| And.intro T120 <| And.intro T121 <| And.intro T122 <| And.intro T123 <| And.intro T124 <| And.intro T125 <| And.intro T126 <| And.intro T127 <| And.intro T128 <| And.intro T129 <| And.intro T130 <| And.intro T131 <| And.intro T132 <| And.intro T133 <| And.intro T134 <| And.intro T135 <| And.intro T136 <| And.intro T137 <| And.intro T139 <| And.intro T140 <| And.intro T142 <| And.intro T143 <| And.intro T144 <| And.intro T146 <| And.intro T147 <| And.intro T148 <| And.intro T149 <| And.intro T150 <| And.intro T151 <| And.intro T152 <| And.intro T154 <| And.intro T155 <| And.intro T156 <| And.intro T157 <| And.intro T158 <| And.intro T159 <| And.intro T160 <| And.intro T161 <| And.intro T164 <| And.intro T165 <| And.intro T166 <| And.intro T167 <| And.intro T168 <| And.intro T169 <| And.intro T170 <| And.intro T171 <| And.intro T172 <| And.intro T173 <| And.intro T174 <| And.intro T175 <| And.intro T176 <| And.intro T177 <| And.intro T178 <| And.intro T179 <| And.intro T181 <| And.intro T182 <| And.intro T183 <| And.intro T184 <| And.intro T185 <| And.intro T186 <| And.intro T187 <| And.intro T188 <| And.intro T189 <| And.intro T191 <| And.intro T192 <| And.intro T193 <| And.intro T195 <| And.intro T196 <| And.intro T197 <| And.intro T198 <| And.intro T199 <| And.intro T200 <| And.intro T201 <| And.intro T202 <| And.intro T203 <| And.intro T204 <| And.intro T205 <| And.intro T206 <| And.intro T207 <| And.intro T210 <| And.intro T211 <| And.intro T212 <| And.intro T213 <| And.intro T214 <| And.intro T215 <| And.intro T216 <| And.intro T217 <| And.intro T218 <| And.intro T219 <| And.intro T220 <| And.intro T221 <| And.intro T227 <| And.intro T228 <| And.intro T229 <| And.intro T230 <| And.intro T231 <| And.intro T232 <| T233
def wAnd (a b:Int):Int:=IntKind.wrap .u64 (BitVec.ofInt IntKind.u64.bits a &&& BitVec.ofInt IntKind.u64.bits b).toNat
def wOr (a b:Int):Int:=IntKind.wrap .u64 (BitVec.ofInt IntKind.u64.bits a ||| BitVec.ofInt IntKind.u64.bits b).toNat
def wShl (a b:Int):Int:=IntKind.wrap .u64 (a * 2 ^ (min b.toNat IntKind.u64.bits))
def wShr (a b:Int):Int:=a.fdiv (2 ^ (min b.toNat IntKind.u64.bits))
def wMask (e:Int):Int:=wAnd e 65535
def wEpoch (e:Int):Int:=wShr e 16
def wPack (p m:Int):Int:=wOr (wShl p 16) (wAnd m 65535)
def wSet (e w:Int):Int:=if 0≤w∧w < 16 then wOr e (wShl 1 w) else e
def wBit (e w:Int):Bool:=wAnd (wShr e w) 1 == 1
def wLow (e:Int):Int:=((List.range 16).find? fun (i:Nat)=>wBit e (i:Int)).elim (-1) fun (i:Nat)=>(i:Int)
def wBump (e:Int):Int:=wPack (wrapU (wEpoch e + 1)) (wAnd (wMask e) (wrapU (wMask e - 1)))
def lPark (c:Cf) (w:Int):Int:=if lHas c w then lBase c w + 2 else -1
theorem mask_pure (e:Int):PureC Tryz.prog 30 [u e] (u (wMask e)):=by
 refine pure_sub ok0 1 Tryz.func30 rfl (by show 1≤_; decide) ?_
 simp only [Tryz.f30,u,ctx_T,ev1,ev2,undef,resB,cv,stepB,aopR,one,pre,binR,intOpR,argFrm,evo,lkp,frz,frz1,frzA,subA,subB,sub1,Nat.reduceAdd,Nat.reduceLT,eq_self]
 all_goals ((repeat' apply And.intro) <;> first | rfl | omega | (show (_:Bool)=true; kernel_rfl) | decide)
theorem epoch_pure (e:Int):PureC Tryz.prog 188 [u e] (u (wEpoch e)):=by
 refine pure_sub ok0 1 Tryz.func188 rfl (by show 1≤_; decide) ?_
 simp only [Tryz.f188,u,ctx_T,ev1,ev2,undef,resB,cv,stepB,aopR,one,pre,binR,shiftOpR,argFrm,evo,lkp,frz,frz1,frzA,subA,subB,sub1,Nat.reduceAdd,Nat.reduceLT,Int.reduceToNat,Int.reduceLE]
 all_goals ((repeat' apply And.intro) <;> first | rfl | omega | (show (_:Bool)=true; kernel_rfl) | decide)
theorem pack_pure (p m:Int):PureC Tryz.prog 208 [u p,u m] (u (wPack p m)):=by
 refine pure_sub ok0 1 Tryz.func208 rfl (by show 2≤_; decide) ?_
 simp only [Tryz.f208,u,ctx_T,ev1,ev2,undef,resB,cv,stepB,aopR,one,pre,binR,intOpR,shiftOpR,argFrm,evo,lkp,frz,frz1,frzA,subA,subB,sub1,Nat.reduceAdd,Nat.reduceLT,eq_self,Int.reduceToNat,Int.reduceLE]
 all_goals ((repeat' apply And.intro) <;> first | rfl | omega | (show (_:Bool)=true; kernel_rfl) | decide)
theorem wset_pure (e w:Int):PureC Tryz.prog 189 [u e,iv w] (u (wSet e w)):=by
 refine pure_sub ok0 1 Tryz.func189 rfl (by show 2≤_; decide) ?_
 unfold wSet
 by_cases h0:w < 0
 ·rw [if_neg (by omega)]
  simp only [Tryz.f189,h0,iv,u,ctx_T,ev1,ev2,undef,↓condE_t,↓guardE_tf,resB,cv,stepB,guardB,guardC,dstAt,aopR,one,pre,binR,intOpR,argFrm,evo,lkp,frz,frz1,frzA,subA,subB,sub1,Nat.reduceAdd,Nat.reduceLT,eq_self]
  all_goals ((repeat' apply And.intro) <;> first | rfl | omega | (show (_:Bool)=true; kernel_rfl) | decide)
 ·by_cases h1:w ≥ 16
  ·rw [if_neg (by omega)]
   simp only [Tryz.f189,h0,h1,iv,u,ctx_T,ev1,ev2,undef,↓condE_t,↓guardE_ff,resB,cv,stepB,guardB,guardC,dstAt,aopR,one,pre,binR,intOpR,argFrm,evo,lkp,frz,frz1,frzA,subA,subB,sub1,Nat.reduceAdd,Nat.reduceLT,eq_self]
   all_goals ((repeat' apply And.intro) <;> first | rfl | omega | (show (_:Bool)=true; kernel_rfl) | decide)
  ·rw [if_pos (by omega)]
   have h2:0≤w:=by omega
   simp only [Tryz.f189,h0,h1,h2,iv,u,ctx_T,ev1,ev2,undef,↓condE_f,↓guardE_ff,resB,cv,stepB,guardB,guardC,dstAt,aopR,one,pre,binR,intOpR,shiftOpR,argFrm,evo,lkp,frz,frz1,frzA,subA,subB,sub1,Nat.reduceAdd,Nat.reduceLT,eq_self]
   all_goals ((repeat' apply And.intro) <;> first | rfl | omega | (show (_:Bool)=true; kernel_rfl) | decide)
def rowsLP:List Row:=[] ++ rowsLB
theorem rowsLP_ok:∀ p∈rowsLP,RowOk Tryz.prog p:=fun p h=>by
 simp only [rowsLP,List.mem_append,List.not_mem_nil,false_or] at h
 rcases h with h
 ·exact rowsLB_ok p h
theorem okLP:(ctx Tryz.prog rowsLP).ok:=rows_ok rowsLP_ok
theorem LP_all:tabC rowsLP 33=(fun _=>none)∧tabC rowsLP 28=(row1 shC fun c=>some (bv (mayC c)))∧tabC rowsLP 34=(row2 shC shI fun c w=>if mayC c=true∧0≤w∧w≤8 then some (iv (lBase c w)) else none)∧tabC rowsLP 32=(fun _=>none)∧tabC rowsLP 56=(fun _=>none):=⟨rfl,rfl,rfl,rfl,rfl⟩
theorem park_pure (c:Cf) (w:Int):PureC Tryz.prog 13 [cv' c,iv w] (iv (lPark c w)):=by
 refine pure_sub okLP 3 Tryz.func13 rfl (by show 2≤_; decide) ?_
 cases h:lHas c w with
 | false=>
  cases hm:mayC c with
  | false=>simp only [Tryz.f13,Tryz.func32,Tryz.f32,inl,LP_all,lPark,h,hm,cv',cf_eta,shC_dec,dC,T23,row1,iv,bv,ctx_T,ctx_C,ctx_P,T3,Option.bind_some,String.reduceBEq,ev1,ev2,implies_true,undef,↓condE_t,↓guardE_tf,frzDeep,deepArgs,deepArg,resB,cv,stepB,guardB,guardC,dstAt,aopR,one,pre,unR,argFrm,evo,lkp,hlk,ofCells,AV.wr,AV.ok1,TK.agg,frz,frz1,frzA,frzArg,frzArgs,subA,subB,sub1,Nat.reduceAdd,Nat.reduceEqDiff,Nat.reduceLT,Nat.reduceLeDiff,reduceCtorEq,eq_self,ne_eq]
  | true=>
   have a:=mayC_iff.1 hm
   have h4:IntKind.wrap .i64 (c.w - 1)=c.w - 1:=wrap_i (by omega) (by omega)
   by_cases h0:w ≥ 0
   ·have h1:¬ w≤c.w - 1:=by
     intro e
     have:lHas c w=true:=has_iff.2 ⟨hm,h0,by omega⟩
     rw [h] at this; cases this
    simp only [Tryz.f13,Tryz.func32,Tryz.f32,Tryz.func56,Tryz.f56,inl,LP_all,lPark,h,hm,h0,h1,h4,cv',cf_eta,shC_dec,dC,T23,row1,iv,bv,ctx_T,ctx_C,ctx_P,T3,Option.bind_some,String.reduceBEq,ev1,ev2,implies_true,undef,↓condE_t,↓guardE_tt,↓guardE_ff,frzDeep,deepArgs,deepArg,resB,cv,stepB,guardB,guardC,dstAt,aopR,one,pre,binR,intOpR,unR,argFrm,evo,lkp,hlk,ofCells,AV.wr,AV.ok1,TK.agg,frz,frz1,frzA,frzArg,frzArgs,subA,subB,sub1,Nat.reduceAdd,Nat.reduceEqDiff,Nat.reduceLT,Nat.reduceLeDiff,reduceCtorEq,eq_self,ne_eq]
   ·simp only [Tryz.f13,Tryz.func32,Tryz.f32,Tryz.func56,Tryz.f56,inl,LP_all,lPark,h,hm,h0,h4,cv',cf_eta,shC_dec,dC,T23,row1,iv,bv,ctx_T,ctx_C,ctx_P,T3,Option.bind_some,String.reduceBEq,ev1,ev2,implies_true,undef,↓condE_t,↓guardE_ff,↓guardE_ft,frzDeep,deepArgs,deepArg,resB,cv,stepB,guardB,guardC,dstAt,aopR,one,pre,binR,intOpR,unR,argFrm,evo,lkp,hlk,ofCells,AV.wr,AV.ok1,TK.agg,frz,frz1,frzA,frzArg,frzArgs,subA,subB,sub1,Nat.reduceAdd,Nat.reduceEqDiff,Nat.reduceLT,Nat.reduceLeDiff,reduceCtorEq,eq_self,ne_eq]
 | true=>
  obtain ⟨h0,h1,h2,h3,h4,h5,b1,b3,d1,d2,d3,dd⟩:=at_ok h
  have hm:=(has_iff.1 h).1
  have s6:IntKind.wrap .i64 (lBase c w + 2)=lBase c w + 2:=by
   obtain ⟨b1,b2⟩:=(base_ok hm h0 h1).e6
   exact wrap_i (by omega) (by omega)
  simp only [Tryz.f13,Tryz.func32,Tryz.f32,Tryz.func33,Tryz.f33,Tryz.func56,Tryz.f56,inl,LP_all,lPark,h,hm,h0,h1,h3,h4,s6,cv',cf_eta,shC_dec,dC,T23,row1,row2,shI_dec,dI,iv,bv,ctx_T,ctx_C,ctx_P,T3,Option.bind_some,String.reduceBEq,ev1,ev2,implies_true,undef,↓condE_f,↓guardE_tt,↓guardE_ff,frzDeep,deepArgs,deepArg,resB,cv,stepB,guardB,guardC,dstAt,aopR,one,pre,binR,intOpR,unR,argFrm,evo,lkp,hlk,ofCells,AV.wr,AV.ok1,TK.agg,frz,frz1,frzA,frzArg,frzArgs,subA,subB,sub1,Nat.reduceAdd,Nat.reduceEqDiff,Nat.reduceLT,Nat.reduceLeDiff,reduceCtorEq,eq_self,ne_eq]
  all_goals ((repeat' apply And.intro) <;> first | rfl | omega | (show (_:Bool)=true; kernel_rfl) | decide)
theorem low_at {e:Int} {i:Nat} (hi:i < 16) (hb:wBit e i=true) (h:∀ j:Nat,j < i→wBit e j=false):wLow e=i:=by
 unfold wLow
 have:(List.range 16).find? (fun (k:Nat)=>wBit e (k:Int))=some i:=by
  rw [List.find?_eq_some_iff_append]
  refine ⟨hb,List.range i,(List.range (15 - i)).map (fun k=>k + (i + 1)),?_,fun a ha=>?_⟩
  ·apply List.ext_getElem
   ·simp; omega
   ·intro k h1 h2
    simp only [List.getElem_range]
    rw [List.getElem_append]
    split
    ·simp
    ·rename_i hk
     simp at hk
     obtain ⟨q,rfl⟩:∃ q,k=i + q:=⟨k - i,by omega⟩
     cases q with
     | zero=>simp
     | succ q=>simp; omega
  ·simp only [List.mem_range] at ha
   simp [h a ha]
 rw [this]; rfl
theorem low_none {e:Int} (h:∀ j:Nat,j < 16→wBit e j=false):wLow e=-1:=by
 unfold wLow
 have:(List.range 16).find? (fun (k:Nat)=>wBit e (k:Int))=none:=by
  rw [List.find?_eq_none]
  intro k hk
  simp only [List.mem_range] at hk
  simp [h k hk]
 rw [this]; rfl
def rowsA0:List Row:=[]
theorem rowsA0_ok:∀ p∈rowsA0,RowOk Tryz.prog p:=fun p h=>by
 cases h
theorem okA0:(ctx Tryz.prog rowsA0).ok:=rows_ok rowsA0_ok
theorem A0_all:tabC rowsA0 195=(fun _=>none)∧tabC rowsA0 209=(fun _=>none):=⟨rfl,rfl⟩
theorem low_pure (e:Int):PureC Tryz.prog 170 [u e] (iv (wLow e)):=by
 refine pure_top okA0 2 Tryz.func170 rfl (by show 1≤_; decide) ?_
 simp only [Tryz.f170,Tryz.func195,Tryz.f195,inl,A0_all,top_T,r_rangeF,iv,u,ctx_T,ctx_C,ctx_P,T3,T40,String.reduceBEq,ev1,ev2,undef,frzDeep,deepArgs,deepArg,resB,cv,stepB,aopR,one,argFrm,evo,lkp,ofVal,AV.wr,AV.ok1,frz,frz1,frzA,frzArg,frzArgs,subA,subB,sub1,Nat.reduceAdd,Nat.reduceLT,Nat.reduceLeDiff,reduceCtorEq,eq_self,ne_eq]
 refine WP.ranges okA0 1 (g:=209) rfl (enters_of Tryz.func209 (by decide) rfl) Tryz.func209 rfl (by decide) (by rfl) (by rfl) ?_
 intro Y hI hYF hYT hYC hYY
 simp only [Tryz.f209,ctx_T,ev1,ev2,undef,cv,stepB,aopR,one,argFrm,evo,Nat.reduceAdd,Nat.reduceLT]
 refine WP.loop (ι:=Nat) (fun i=>20 - i) (fun i=>i≤16∧∀ j:Nat,j < i→wBit e j=false) (n:=19) (fr:=fun i=>[(4,iv i),(0,.yld 7),(1,.ptr 3 0 0)])
  (hp:=fun i=>[(7,some (gBlk 0)),(3,some ⟨false,40,1,[u e]⟩),(0,some ⟨false,3,1,[iv 0]⟩)]) (N:=9) ?_ 0 ⟨by omega,fun j h=>by omega⟩ rfl (by show 9≤9; decide) ⟨rfl,rfl,rfl,trivial⟩ ⟨rfl,rfl,rfl,trivial⟩ (im:=hI.im)
 rintro i nx ⟨h1,h2⟩ hN hid
 have n0:0 < nx:=by omega
 have n3:3 < nx:=by omega
 have n7:7 < nx:=by omega
 refine WP.ofX hI hYF (by rfl) ?_
 by_cases hi:i < 16
 ·have hz:(i:Int) < 16:=by omega
  have hz0:(0:Int)≤(i:Int):=by omega
  cases hb:wBit e i with
  | true=>
   have hb':(IntKind.wrap .u64 (BitVec.ofInt IntKind.u64.bits (e.fdiv (2 ^ (min i IntKind.u64.bits))) &&& BitVec.ofInt IntKind.u64.bits 1).toNat == 1)=true:=hb
   simp only [hYT,hYY,r_yld,hz,hz0,hb',Nat.add_assoc,inR_T,r_yld,r_start,r_rkR,r_endR,r_endM,r_endJ2,zipF,iv,u,ctx_T,T3,T40,Int.toNat_natCast,ev1,ev2,implies_true,undef,↓condE_t,↓guardE_tt,resB,cv,stepB,guardB,guardC,dstAt,aopR,one,pre,binR,intOpR,shiftOpR,unR,evo,lkp,hlk,ofCells,setCells,AV.wr,AV.ok1,TK.agg,Nat.reduceAdd,Nat.reduceLT,Nat.reduceLeDiff,reduceCtorEq,eq_self,ne_eq]
   intro l
   rw [low_at hi hb h2]
  | false=>
   have hb':(IntKind.wrap .u64 (BitVec.ofInt IntKind.u64.bits (e.fdiv (2 ^ (min i IntKind.u64.bits))) &&& BitVec.ofInt IntKind.u64.bits 1).toNat == 1)=false:=hb
   simp only [hYT,hz,hz0,hb',Nat.add_assoc,iv,u,ctx_T,T40,Int.toNat_natCast,ev1,ev2,implies_true,undef,↓condE_t,↓condE_f,↓guardE_ft,cv,stepB,guardB,guardC,dstAt,aopR,one,pre,binR,intOpR,shiftOpR,evo,lkp,hlk,ofCells,TK.agg,sub1,kp,kh,Nat.reduceAdd,Nat.reduceLT,Nat.reduceLeDiff,reduceCtorEq,eq_self,ne_eq]
   refine ⟨i + 1,by omega,⟨by omega,fun j hj=>?_⟩,by rw [wrap_s (by omega)]⟩
   rcases Nat.lt_succ_iff_lt_or_eq.1 hj with h | rfl
   ·exact h2 j h
   ·exact hb
 ·have hz:¬ (i:Int) < 16:=by omega
  simp only [hz,Nat.add_assoc,top_T,r_endR,r_endM,r_endJ0,iv,u,ctx_T,T3,ev1,ev2,implies_true,undef,↓condE_f,resB,cv,stepB,aopR,one,pre,binR,intOpR,evo,lkp,hlk,ofCells,setCells,AV.wr,AV.ok1,TK.agg,Nat.reduceAdd,Nat.reduceLT,Nat.reduceLeDiff,reduceCtorEq,eq_self,ne_eq]
  rw [low_none fun j hj=>h2 j (by omega)]
end Go.Vai

/- The injector's steps again; waiting, a step. -/
namespace Go.Vai
open Go.RowKit Go.Proofs
set_option maxHeartbeats 4000000
set_option maxRecDepth 100000
def rowsAA:List Row:=[
 (150,row3 shC shM shF fun c m f=>some (sv (eStep c m f))),
 (151,row3 shC shM shF fun c m f=>some (sv (qStep c m f))),
 (30,row1 shN fun e=>some (u (wMask e))),
 (188,row1 shN fun e=>some (u (wEpoch e))),
 (208,row2 shN shN fun p m=>some (u (wPack p m))),
 (189,row2 shN shI fun e w=>some (u (wSet e w))),
 (170,row1 shN fun e=>some (iv (wLow e))),
 (13,row2 shC shI fun c w=>some (iv (lPark c w)))] ++ rowsJA ++ rowsDA ++ rowsLP ++ rowsA0
theorem rowsAA_ok:∀ p∈rowsAA,RowOk Tryz.prog p:=fun p h=>by
 simp only [rowsAA,List.mem_append,List.mem_cons,List.not_mem_nil,or_false,or_assoc] at h
 rcases h with rfl | rfl | rfl | rfl | rfl | rfl | rfl | rfl | h | h | h | h
 ·exact ok_row3 (enters_of Tryz.func150 (by decide) rfl) fun c m f r _ g _ e=>by cases e; exact estep_pure c m f (shM_got g)
 ·exact ok_row3 (enters_of Tryz.func151 (by decide) rfl) fun c m f r _ g _ e=>by cases e; exact qstep_pure c m f (shM_got g)
 ·exact ok_row1 (enters_of Tryz.func30 (by decide) rfl) fun e r _ h=>by cases h; exact mask_pure e
 ·exact ok_row1 (enters_of Tryz.func188 (by decide) rfl) fun e r _ h=>by cases h; exact epoch_pure e
 ·exact ok_row2 (enters_of Tryz.func208 (by decide) rfl) fun p m r _ _ h=>by cases h; exact pack_pure p m
 ·exact ok_row2 (enters_of Tryz.func189 (by decide) rfl) fun e w r _ _ h=>by cases h; exact wset_pure e w
 ·exact ok_row1 (enters_of Tryz.func170 (by decide) rfl) fun e r _ h=>by cases h; exact low_pure e
 ·exact ok_row2 (enters_of Tryz.func13 (by decide) rfl) fun c w r _ _ e=>by cases e; exact park_pure c w
 ·exact rowsJA_ok p h
 ·exact rowsDA_ok p h
 ·exact rowsLP_ok p h
 ·exact rowsA0_ok p h
theorem okAA:(ctx Tryz.prog rowsAA).ok:=rows_ok rowsAA_ok
theorem AA_all:tabC rowsAA 150=(row3 shC shM shF fun c m f=>some (sv (eStep c m f)))∧tabC rowsAA 151=(row3 shC shM shF fun c m f=>some (sv (qStep c m f)))∧tabC rowsAA 30=(row1 shN fun e=>some (u (wMask e)))∧tabC rowsAA 188=(row1 shN fun e=>some (u (wEpoch e)))∧tabC rowsAA 208=(row2 shN shN fun p m=>some (u (wPack p m)))∧tabC rowsAA 189=(row2 shN shI fun e w=>some (u (wSet e w)))∧tabC rowsAA 170=(row1 shN fun e=>some (iv (wLow e)))∧tabC rowsAA 13=(row2 shC shI fun c w=>some (iv (lPark c w)))∧tabC rowsAA 159=(fun _=>none)∧tabC rowsAA 160=(fun _=>none)∧tabC rowsAA 161=(fun _=>none)∧tabC rowsAA 162=(fun _=>none)∧tabC rowsAA 163=(fun _=>none)∧tabC rowsAA 164=(row5 shC shM shF shI shI fun c m f op pcs=>some (bv (goes c m f op pcs)))∧tabC rowsAA 79=(row1 shM fun m=>some (ms m))∧tabC rowsAA 12=(row2 shM shI fun m i=>some (u (mLoad m i)))∧tabC rowsAA 90=(row3 shM shI shN fun m i v=>some (ms (mStore m i v)))∧tabC rowsAA 167=(row4 shM shI shN shN fun m i v w=>some (.tup [ms (mCas m i v w),bv (mCasB m i v)]))∧tabC rowsAA 29=(row1 shC fun c=>some (iv (lSize c)))∧tabC rowsAA 28=(row1 shC fun c=>some (bv (mayC c)))∧tabC rowsAA 55=(row1 shF fun f=>some (bv (f.res != 0)))∧tabC rowsAA 168=(row3 shF shI shN fun f r v=>some (fv (fEnd f r v))):=⟨rfl,rfl,rfl,rfl,rfl,rfl,rfl,rfl,rfl,rfl,rfl,rfl,rfl,rfl,rfl,rfl,rfl,rfl,rfl,rfl,rfl,rfl⟩
theorem istep_pure (c:Cf) (m:List Int) (f:Fr) (hm:m.length≤1000):PureC Tryz.prog 121 [cv' c,ms m,fv f] (sv (iStep c m f)):=by
 refine pure_sub okAA 1 Tryz.func121 rfl (by show 3≤_; decide) ?_
 by_cases h3:f.op=3
 ·have e3:(f.op == 3)=true:=by simpa using h3
  rw [show iStep c m f=eStep c m f from if_pos h3]
  simp only [Tryz.f121,AA_all,e3,hm,sv,fv,cv',cf_eta,shC_dec,dC,T23,T42,hfree_lu,row3,shM_dec,dM,dU_map,iv,u,ms,ctx_T,ctx_C,T3,Option.bind_some,shF_dec,dF,fr_eta,ev1,ev2,implies_true,undef,↓condE_t,resB,cv,stepB,aopR,one,pre,binR,intOpR,argFrm,evo,lkp,hlk,ofVal,ofCells,setCells,AV.wr,AV.ok1,TK.agg,frz,frz1,frzt,frzs,frzA,subA,subB,subM,subL,sub1,Nat.reduceAdd,Nat.reduceEqDiff,Nat.reduceLT,Nat.reduceLeDiff,reduceCtorEq,eq_self,ne_eq]
  all_goals ((repeat' apply And.intro) <;> first | rfl | omega | (show (_:Bool)=true; kernel_rfl) | decide)
 ·have e3:(f.op == 3)=false:=by simpa using h3
  by_cases h4:f.op=4
  ·have e4:(f.op == 4)=true:=by simpa using h4
   rw [show iStep c m f=qStep c m f from (if_neg h3).trans (if_pos h4)]
   simp only [Tryz.f121,AA_all,e3,e4,hm,sv,fv,cv',cf_eta,shC_dec,dC,T23,T42,hfree_lu,row3,shM_dec,dM,dU_map,iv,u,ms,ctx_T,ctx_C,T3,Option.bind_some,shF_dec,dF,fr_eta,ev1,ev2,implies_true,undef,↓condE_t,↓condE_f,resB,cv,stepB,aopR,one,pre,binR,intOpR,argFrm,evo,lkp,hlk,ofVal,ofCells,setCells,AV.wr,AV.ok1,TK.agg,frz,frz1,frzt,frzs,frzA,subA,subB,subM,subL,sub1,Nat.reduceAdd,Nat.reduceEqDiff,Nat.reduceLT,Nat.reduceLeDiff,reduceCtorEq,eq_self,ne_eq]
   all_goals ((repeat' apply And.intro) <;> first | rfl | omega | (show (_:Bool)=true; kernel_rfl) | decide)
  ·have e4:(f.op == 4)=false:=by simpa using h4
   rw [show iStep c m f=(m,f) from (if_neg h3).trans (if_neg h4)]
   simp only [Tryz.f121,AA_all,e3,e4,hm,sv,fv,cv',T23,T42,hfree_lu,row1,shM_dec,dM,dU_map,iv,u,ms,ctx_T,ctx_C,T3,Option.bind_some,ev1,ev2,implies_true,undef,dynCall,↓condE_f,resB,cv,stepB,stepE,callD,tabD,aopR,one,pre,binR,intOpR,argFrm,evo,lkp,hlk,ofVal,ofCells,setCells,AV.wr,AV.ok1,TK.agg,frz,frz1,frzt,frzs,frzA,subA,subB,subM,subL,sub1,accOf,Nat.reduceAdd,Nat.reduceEqDiff,Nat.reduceLT,Nat.reduceLeDiff,reduceCtorEq,eq_self,ne_eq]
   all_goals ((repeat' apply And.intro) <;> first | rfl | omega | (show (_:Bool)=true; kernel_rfl) | decide)
def waStep (c:Cf) (m:List Int) (f:Fr):List Int × Fr:=
 if goes c m f 5 5=true then
  (if f.pc=0 then (m,⟨f.op,1,f.who,f.val,mLoad m 2,f.y,f.res⟩)
  else if f.pc=1 then (m,if wEpoch (mLoad m 2)=wEpoch f.x then ⟨f.op,2,f.who,f.val,f.x,mLoad m 2,f.res⟩ else ⟨f.op,0,f.who,0,0,0,4⟩)
  else if f.pc=2 then (mCas m 2 f.y (wSet f.y f.who),⟨f.op,if mCasB m 2 f.y=true then 3 else 1,f.who,f.val,f.x,f.y,f.res⟩)
  else if f.pc=3 then (m,⟨f.op,if mLoad m (lPark c f.who)=0 then 3 else 4,f.who,f.val,f.x,mLoad m (lPark c f.who),f.res⟩)
  else (mStore m (lPark c f.who) 0,⟨f.op,0,f.who,0,0,0,1⟩))
 else (m,f)
theorem waStep_no {c:Cf} {m:List Int} {f:Fr} (h:goes c m f 5 5=false):waStep c m f=(m,f):=by simp [waStep,h]
theorem len_waStep (c:Cf) (m:List Int) (f:Fr):(waStep c m f).1.length=m.length:=by
 unfold waStep
 repeat' split
 all_goals first | rfl | exact len_store .. | exact len_cas ..
theorem wastep_pure (c:Cf) (m:List Int) (f:Fr) (hm:m.length≤1000):PureC Tryz.prog 148 [cv' c,ms m,fv f] (sv (waStep c m f)):=by
 refine pure_sub okAA 2 Tryz.func148 rfl (by show 3≤_; decide) ?_
 cases hg:goes c m f 5 5 with
 | false=>
  rw [waStep_no hg]
  simp only [Tryz.f148,AA_all,hg,hm,sv,fv,T185,T186,T187,Int.cast_ofNat_Int,cv',cf_eta,shC_dec,dC,T23,T42,T30,hfree_lu,row1,row5,shI_dec,shM_dec,dI,dM,dU_map,iv,bv,u,ms,ctx_T,ctx_C,Option.bind_some,Option.map_some,shF_dec,dF,fr_eta,ev1,ev2,implies_true,undef,dynCall,↓condE_f,resB,cv,stepB,stepE,callD,tabD,aopR,one,pre,argFrm,evo,lkp,hlk,lenOf,ofVal,ofCells,setCells,fillA,setElems,AV.wr,AV.ok1,TK.agg,frz,frz1,frzt,frzs,frzA,subA,subB,subM,subL,sub1,accOf,List.replicate,Nat.reduceAdd,Nat.reduceMul,Nat.reduceEqDiff,Nat.reduceLT,Nat.reduceLeDiff,reduceCtorEq,eq_self,ne_eq]
  all_goals ((repeat' apply And.intro) <;> first | rfl | omega | (show (_:Bool)=true; kernel_rfl) | decide)
 | true=>
  obtain ⟨hl,hres,hop,h0,h1⟩:=goes_iff.1 hg
  have hu:∀ x,IntKind.wrap .u64 x=wrapU x:=fun _=>rfl
  obtain ⟨op,pc,who,val,x,y,res⟩:=f
  dsimp only at h0 h1
  have hpc:pc=0∨pc=1∨pc=2∨pc=3∨pc=4:=by omega
  unfold waStep
  rw [if_pos hg]
  rcases hpc with rfl | rfl | rfl | rfl | rfl
  ·simp only [Tryz.f148,Tryz.func159,Tryz.f159,inl,AA_all,hg,hm,sv,fv,T185,T186,T187,Int.cast_ofNat_Int,cv',cf_eta,shC_dec,dC,T23,T42,T30,hfree_lu,row1,row2,row5,shI_dec,shM_dec,dI,dM,dU_map,iv,bv,u,ms,ctx_T,ctx_C,ctx_P,T3,T40,Option.bind_some,Option.map_some,String.reduceBEq,shF_dec,dF,ev1,ev2,implies_true,undef,dynCall,↓condE_t,frzDeep,deepArgs,deepArg,resB,cv,stepB,stepE,callD,tabD,aopR,one,pre,argFrm,evo,lkp,hlk,lenOf,ofVal,ofCells,setCells,fillA,setElems,AV.wr,AV.ok1,TK.agg,frz,frz1,frzt,frzs,frzA,frzArg,frzArgs,subA,subB,subM,subL,sub1,accOf,List.replicate,Nat.reduceAdd,Nat.reduceMul,Nat.reduceEqDiff,Nat.reduceLT,Nat.reduceLeDiff,reduceCtorEq,eq_self,ne_eq,Int.reduceLT,Int.reduceLE,Int.reduceEq]
   all_goals ((repeat' apply And.intro) <;> first | rfl | omega | (show (_:Bool)=true; kernel_rfl) | decide)
  ·by_cases hf:wEpoch (mLoad m 2)=wEpoch x
   ·have hf':(wEpoch (mLoad m 2) != wEpoch x)=false:=by simpa using hf
    simp only [Tryz.f148,Tryz.func160,Tryz.f160,inl,AA_all,hg,hm,hf,bne_self_eq_false,sv,fv,T185,T186,T187,Int.cast_ofNat_Int,cv',cf_eta,shC_dec,dC,T23,T42,T30,hfree_lu,row1,row2,row5,shI_dec,shN_dec,shM_dec,dI,dN,dM,dU_map,iv,bv,u,ms,ctx_T,ctx_C,ctx_P,T3,T40,Option.bind_some,Option.map_some,String.reduceBEq,shF_dec,dF,ev1,ev2,implies_true,undef,dynCall,↓condE_t,↓condE_f,frzDeep,deepArgs,deepArg,resB,cv,stepB,stepE,callD,tabD,aopR,one,pre,binR,intOpR,argFrm,evo,lkp,hlk,lenOf,ofVal,ofCells,setCells,fillA,setElems,AV.wr,AV.ok1,TK.agg,frz,frz1,frzt,frzs,frzA,frzArg,frzArgs,subA,subB,subM,subL,sub1,accOf,List.replicate,Nat.reduceAdd,Nat.reduceMul,Nat.reduceEqDiff,Nat.reduceLT,Nat.reduceLeDiff,reduceCtorEq,eq_self,ne_eq,Int.reduceToNat,Int.reduceLT,Int.reduceLE,Int.reduceEq]
    all_goals ((repeat' apply And.intro) <;> first | rfl | omega | (show (_:Bool)=true; kernel_rfl) | decide)
   ·have hf':(wEpoch (mLoad m 2) != wEpoch x)=true:=by simpa using hf
    simp only [Tryz.f148,Tryz.func160,Tryz.f160,inl,AA_all,hg,hm,hf,hf',sv,fv,fEnd,T185,T186,T187,Int.cast_ofNat_Int,cv',cf_eta,shC_dec,dC,T23,T42,T30,hfree_lu,row1,row2,row3,row5,shI_dec,shN_dec,shM_dec,dI,dN,dM,dU_map,iv,bv,u,ms,ctx_T,ctx_C,ctx_P,T3,T40,Option.bind_some,Option.map_some,String.reduceBEq,shF_dec,dF,ev1,ev2,implies_true,undef,dynCall,↓condE_t,frzDeep,deepArgs,deepArg,resB,cv,stepB,stepE,callD,tabD,aopR,one,pre,binR,intOpR,argFrm,evo,lkp,hlk,lenOf,ofVal,ofCells,setCells,fillA,setElems,AV.wr,AV.ok1,TK.agg,frz,frz1,frzt,frzs,frzA,frzArg,frzArgs,subA,subB,subM,subL,sub1,accOf,List.replicate,Nat.reduceAdd,Nat.reduceMul,Nat.reduceEqDiff,Nat.reduceLT,Nat.reduceLeDiff,reduceCtorEq,eq_self,ne_eq,Int.reduceToNat,Int.reduceLT,Int.reduceLE,Int.reduceEq]
    all_goals ((repeat' apply And.intro) <;> first | rfl | omega | (show (_:Bool)=true; kernel_rfl) | decide)
  ·cases hb:mCasB m 2 y with
   | true=>
    simp only [Tryz.f148,Tryz.func161,Tryz.f161,inl,AA_all,hg,hm,hb,sv,fv,T185,T186,T187,Int.cast_ofNat_Int,cv',cf_eta,shC_dec,dC,T23,T42,T30,hfree_lu,row1,row2,row4,row5,shI_dec,shN_dec,shM_dec,dI,dN,dM,dU_map,iv,bv,u,ms,ctx_T,ctx_C,ctx_P,T3,T40,Option.bind_some,Option.map_some,String.reduceBEq,shF_dec,dF,ev1,ev2,implies_true,undef,dynCall,↓condE_t,frzDeep,deepArgs,deepArg,resB,cv,stepB,stepE,callD,tabD,aopR,one,pre,argFrm,evo,lkp,hlk,lenOf,ofVal,ofCells,setCells,fillA,setElems,AV.wr,AV.ok1,TK.agg,frz,frz1,frzt,frzs,frzA,frzArg,frzArgs,subA,subB,subM,subL,sub1,accOf,List.replicate,Nat.reduceAdd,Nat.reduceMul,Nat.reduceEqDiff,Nat.reduceLT,Nat.reduceLeDiff,reduceCtorEq,eq_self,ne_eq,Int.reduceToNat,Int.reduceLT,Int.reduceLE,Int.reduceEq]
    all_goals ((repeat' apply And.intro) <;> first | rfl | omega | (show (_:Bool)=true; kernel_rfl) | decide)
   | false=>
    simp only [Tryz.f148,Tryz.func161,Tryz.f161,inl,AA_all,hg,hm,hb,sv,fv,T185,T186,T187,Int.cast_ofNat_Int,cv',cf_eta,shC_dec,dC,T23,T42,T30,hfree_lu,row1,row2,row4,row5,shI_dec,shN_dec,shM_dec,dI,dN,dM,dU_map,iv,bv,u,ms,ctx_T,ctx_C,ctx_P,T3,T40,Option.bind_some,Option.map_some,String.reduceBEq,shF_dec,dF,ev1,ev2,implies_true,undef,dynCall,↓condE_t,↓condE_f,frzDeep,deepArgs,deepArg,resB,cv,stepB,stepE,callD,tabD,aopR,one,pre,argFrm,evo,lkp,hlk,lenOf,ofVal,ofCells,setCells,fillA,setElems,AV.wr,AV.ok1,TK.agg,frz,frz1,frzt,frzs,frzA,frzArg,frzArgs,subA,subB,subM,subL,sub1,accOf,List.replicate,Nat.reduceAdd,Nat.reduceMul,Nat.reduceEqDiff,Nat.reduceLT,Nat.reduceLeDiff,reduceCtorEq,eq_self,ne_eq,Int.reduceToNat,Int.reduceLT,Int.reduceLE,Int.reduceEq]
    all_goals ((repeat' apply And.intro) <;> first | rfl | omega | (show (_:Bool)=true; kernel_rfl) | decide)
  ·by_cases hf:mLoad m (lPark c who)=0
   ·have hf':(mLoad m (lPark c who) != 0)=false:=by simpa using hf
    simp only [Tryz.f148,Tryz.func162,Tryz.f162,inl,AA_all,hg,hm,hf,bne_self_eq_false,sv,fv,T185,T186,T187,Int.cast_ofNat_Int,cv',cf_eta,shC_dec,dC,T23,T42,T30,hfree_lu,row1,row2,row5,shI_dec,shM_dec,dI,dM,dU_map,iv,bv,u,ms,ctx_T,ctx_C,ctx_P,T3,T40,Option.bind_some,Option.map_some,String.reduceBEq,shF_dec,dF,ev1,ev2,implies_true,undef,dynCall,↓condE_t,↓condE_f,frzDeep,deepArgs,deepArg,resB,cv,stepB,stepE,callD,tabD,aopR,one,pre,binR,intOpR,argFrm,evo,lkp,hlk,lenOf,ofVal,ofCells,setCells,fillA,setElems,AV.wr,AV.ok1,TK.agg,frz,frz1,frzt,frzs,frzA,frzArg,frzArgs,subA,subB,subM,subL,sub1,accOf,List.replicate,Nat.reduceAdd,Nat.reduceMul,Nat.reduceEqDiff,Nat.reduceLT,Nat.reduceLeDiff,reduceCtorEq,eq_self,ne_eq,Int.reduceToNat,Int.reduceLT,Int.reduceLE,Int.reduceEq]
    all_goals ((repeat' apply And.intro) <;> first | rfl | omega | (show (_:Bool)=true; kernel_rfl) | decide)
   ·have hf':(mLoad m (lPark c who) != 0)=true:=by simpa using hf
    simp only [Tryz.f148,Tryz.func162,Tryz.f162,inl,AA_all,hg,hm,hf,hf',sv,fv,T185,T186,T187,Int.cast_ofNat_Int,cv',cf_eta,shC_dec,dC,T23,T42,T30,hfree_lu,row1,row2,row5,shI_dec,shM_dec,dI,dM,dU_map,iv,bv,u,ms,ctx_T,ctx_C,ctx_P,T3,T40,Option.bind_some,Option.map_some,String.reduceBEq,shF_dec,dF,ev1,ev2,implies_true,undef,dynCall,↓condE_t,frzDeep,deepArgs,deepArg,resB,cv,stepB,stepE,callD,tabD,aopR,one,pre,binR,intOpR,argFrm,evo,lkp,hlk,lenOf,ofVal,ofCells,setCells,fillA,setElems,AV.wr,AV.ok1,TK.agg,frz,frz1,frzt,frzs,frzA,frzArg,frzArgs,subA,subB,subM,subL,sub1,accOf,List.replicate,Nat.reduceAdd,Nat.reduceMul,Nat.reduceEqDiff,Nat.reduceLT,Nat.reduceLeDiff,reduceCtorEq,eq_self,ne_eq,Int.reduceToNat,Int.reduceLT,Int.reduceLE,Int.reduceEq]
    all_goals ((repeat' apply And.intro) <;> first | rfl | omega | (show (_:Bool)=true; kernel_rfl) | decide)
  ·skip
   simp only [Tryz.f148,Tryz.func163,Tryz.f163,inl,AA_all,hg,hm,sv,fv,fEnd,T185,T186,T187,Int.cast_ofNat_Int,cv',cf_eta,shC_dec,dC,T23,T42,T30,hfree_lu,row1,row2,row3,row5,shI_dec,shN_dec,shM_dec,dI,dN,dM,dU_map,iv,bv,u,ms,ctx_T,ctx_C,ctx_P,T3,Option.bind_some,Option.map_some,String.reduceBEq,shF_dec,dF,ev1,ev2,implies_true,undef,dynCall,↓condE_t,frzDeep,deepArgs,deepArg,resB,cv,stepB,stepE,callD,tabD,aopR,one,pre,argFrm,evo,lkp,hlk,lenOf,ofVal,ofCells,setCells,fillA,setElems,AV.wr,AV.ok1,TK.agg,frz,frz1,frzt,frzs,frzA,frzArg,frzArgs,subA,subB,subM,subL,sub1,accOf,List.replicate,Nat.reduceAdd,Nat.reduceMul,Nat.reduceEqDiff,Nat.reduceLT,Nat.reduceLeDiff,reduceCtorEq,eq_self,ne_eq,Int.reduceToNat,Int.reduceLT,Int.reduceLE,Int.reduceEq]
   all_goals ((repeat' apply And.intro) <;> first | rfl | omega | (show (_:Bool)=true; kernel_rfl) | decide)
def wParked (f:Fr):Bool:=f.op == 5 && !(f.res != 0) && f.pc == 3
theorem wparked_pure (f:Fr):PureC Tryz.prog 27 [fv f] (bv (wParked f)):=by
 refine pure_sub okAA 1 Tryz.func27 rfl (by show 1≤_; decide) ?_
 unfold wParked
 cases h1:f.op == 5 <;> cases h2:f.res != 0 <;> cases h3:f.pc == 3 <;>
 ·simp only [Tryz.f27,AA_all,h1,h2,h3,fv,Bool.not_true,Bool.not_false,Bool.and_true,Bool.and_false,T42,row1,iv,bv,u,ctx_T,ctx_C,T3,Option.bind_some,shF_dec,dF,fr_eta,ev1,ev2,implies_true,undef,↓guardE_tt,↓guardE_ft,resB,cv,stepB,guardB,guardC,dstAt,aopR,one,pre,binR,intOpR,unR,argFrm,evo,lkp,hlk,ofCells,AV.wr,AV.ok1,TK.agg,frz,frz1,frzA,subA,subB,sub1,Nat.reduceAdd,Nat.reduceEqDiff,Nat.reduceLT,Nat.reduceLeDiff,reduceCtorEq,eq_self,ne_eq]
  all_goals ((repeat' apply And.intro) <;> first | rfl | omega | (show (_:Bool)=true; kernel_rfl) | decide)
def wWaits (c:Cf) (m:List Int) (w:Int):Bool:=mayC c && decide ((m.length:Int)=lSize c∧0≤w∧w < c.w) && wBit (wMask (mLoad m 2)) w
theorem wwaits_pure (c:Cf) (m:List Int) (w:Int) (hm:m.length≤1000):PureC Tryz.prog 11 [cv' c,ms m,iv w] (bv (wWaits c m w)):=by
 refine pure_sub okAA 1 Tryz.func11 rfl (by show 3≤_; decide) ?_
 unfold wWaits
 cases hc:mayC c with
 | false=>
  simp only [Tryz.f11,AA_all,hc,Bool.false_and,Bool.not_false,cv',cf_eta,shC_dec,dC,T23,row1,iv,bv,ms,ctx_T,ctx_C,Option.bind_some,ev1,ev2,undef,↓condE_t,↓guardE_tf,resB,cv,stepB,guardB,guardC,dstAt,aopR,one,pre,unR,argFrm,evo,lkp,hlk,ofCells,AV.wr,AV.ok1,TK.agg,frz,frz1,frzA,subA,subB,sub1,Nat.reduceAdd,Nat.reduceEqDiff,Nat.reduceLT,Nat.reduceLeDiff,reduceCtorEq,eq_self,ne_eq]
  all_goals ((repeat' apply And.intro) <;> first | rfl | omega | (show (_:Bool)=true; kernel_rfl) | decide)
 | true=>
  by_cases h1:(m.length:Int)=lSize c
  ·have h1':((m.length:Int) != lSize c)=false:=by simpa using h1
   by_cases h2:w < 0
   ·have:¬ (0≤w∧w < c.w):=by omega
    simp only [Tryz.f11,AA_all,hc,h1,bne_self_eq_false,h2,this,decide_false,and_false,Bool.and_false,Bool.false_and,Bool.not_true,cv',cf_eta,shC_dec,dC,T23,T30,row1,iv,bv,ms,ctx_T,ctx_C,Option.bind_some,List.length_map,ev1,ev2,undef,↓condE_t,↓guardE_ff,↓guardE_tf,resB,cv,stepB,guardB,guardC,dstAt,aopR,one,pre,binR,intOpR,unR,argFrm,evo,lkp,hlk,lenOf,ofCells,AV.wr,AV.ok1,TK.agg,frz,frz1,frzA,subA,subB,sub1,Nat.reduceAdd,Nat.reduceEqDiff,Nat.reduceLT,Nat.reduceLeDiff,reduceCtorEq,eq_self,ne_eq]
    all_goals ((repeat' apply And.intro) <;> first | rfl | omega | (show (_:Bool)=true; kernel_rfl) | decide)
   ·by_cases h3:w ≥ c.w
    ·have:¬ (0≤w∧w < c.w):=by omega
     simp only [Tryz.f11,AA_all,hc,h1,bne_self_eq_false,h2,h3,this,decide_false,and_false,Bool.and_false,Bool.false_and,Bool.not_true,cv',cf_eta,shC_dec,dC,T23,T30,row1,iv,bv,ms,ctx_T,ctx_C,T3,Option.bind_some,List.length_map,ev1,ev2,implies_true,undef,↓condE_t,↓guardE_ff,resB,cv,stepB,guardB,guardC,dstAt,aopR,one,pre,binR,intOpR,unR,argFrm,evo,lkp,hlk,lenOf,ofCells,AV.wr,AV.ok1,TK.agg,frz,frz1,frzA,subA,subB,sub1,Nat.reduceAdd,Nat.reduceEqDiff,Nat.reduceLT,Nat.reduceLeDiff,reduceCtorEq,eq_self,ne_eq]
     all_goals ((repeat' apply And.intro) <;> first | rfl | omega | (show (_:Bool)=true; kernel_rfl) | decide)
    ·have h4:0≤w∧w < c.w:=by omega
     have h5:0≤w:=by omega
     simp only [Tryz.f11,AA_all,hc,h1,bne_self_eq_false,h2,h3,h4,hm,decide_true,and_true,Bool.and_true,Bool.true_and,Bool.not_true,cv',cf_eta,shC_dec,dC,T23,T30,row1,row2,shI_dec,shN_dec,shM_dec,dI,dN,dM,dU_map,iv,bv,u,ms,ctx_T,ctx_C,T3,Option.bind_some,List.length_map,ev1,ev2,implies_true,undef,↓condE_f,↓guardE_ff,resB,cv,stepB,guardB,guardC,dstAt,aopR,one,pre,binR,intOpR,shiftOpR,unR,argFrm,evo,lkp,hlk,lenOf,ofCells,AV.wr,AV.ok1,TK.agg,frz,frz1,frzA,subA,subB,sub1,Nat.reduceAdd,Nat.reduceEqDiff,Nat.reduceLT,Nat.reduceLeDiff,reduceCtorEq,eq_self,ne_eq]
     all_goals ((repeat' apply And.intro) <;> first | rfl | omega | (show (_:Bool)=true; kernel_rfl) | decide)
  ·have h1':((m.length:Int) != lSize c)=true:=by simpa using h1
   simp only [Tryz.f11,AA_all,hc,h1,h1',false_and,decide_false,Bool.and_false,Bool.false_and,Bool.not_true,cv',cf_eta,shC_dec,dC,T23,T30,row1,iv,bv,ms,ctx_T,ctx_C,Option.bind_some,List.length_map,ev1,ev2,undef,↓condE_t,↓guardE_ff,↓guardE_tf,resB,cv,stepB,guardB,guardC,dstAt,aopR,one,pre,binR,intOpR,unR,argFrm,evo,lkp,hlk,lenOf,ofCells,AV.wr,AV.ok1,TK.agg,frz,frz1,frzA,subA,subB,sub1,Nat.reduceAdd,Nat.reduceEqDiff,Nat.reduceLT,Nat.reduceLeDiff,reduceCtorEq,eq_self,ne_eq]
   all_goals ((repeat' apply And.intro) <;> first | rfl | omega | (show (_:Bool)=true; kernel_rfl) | decide)
end Go.Vai

/- Waking, a step. -/
namespace Go.Vai
open Go.RowKit Go.Proofs
set_option maxHeartbeats 4000000
set_option maxRecDepth 100000
def rowsAB:List Row:=[
 (121,row3 shC shM shF fun c m f=>some (sv (iStep c m f))),
 (148,row3 shC shM shF fun c m f=>some (sv (waStep c m f))),
 (27,row1 shF fun f=>some (bv (wParked f))),
 (11,row3 shC shM shI fun c m w=>some (bv (wWaits c m w)))] ++ rowsAA
theorem rowsAB_ok:∀ p∈rowsAB,RowOk Tryz.prog p:=fun p h=>by
 simp only [rowsAB,List.mem_append,List.mem_cons,List.not_mem_nil,or_false,or_assoc] at h
 rcases h with rfl | rfl | rfl | rfl | h
 ·exact ok_row3 (enters_of Tryz.func121 (by decide) rfl) fun c m f r _ g _ e=>by cases e; exact istep_pure c m f (shM_got g)
 ·exact ok_row3 (enters_of Tryz.func148 (by decide) rfl) fun c m f r _ g _ e=>by cases e; exact wastep_pure c m f (shM_got g)
 ·exact ok_row1 (enters_of Tryz.func27 (by decide) rfl) fun f r _ e=>by cases e; exact wparked_pure f
 ·exact ok_row3 (enters_of Tryz.func11 (by decide) rfl) fun c m w r _ g _ e=>by cases e; exact wwaits_pure c m w (shM_got g)
 ·exact rowsAA_ok p h
theorem okAB:(ctx Tryz.prog rowsAB).ok:=rows_ok rowsAB_ok
theorem AB_all:tabC rowsAB 121=(row3 shC shM shF fun c m f=>some (sv (iStep c m f)))∧tabC rowsAB 148=(row3 shC shM shF fun c m f=>some (sv (waStep c m f)))∧tabC rowsAB 27=(row1 shF fun f=>some (bv (wParked f)))∧tabC rowsAB 11=(row3 shC shM shI fun c m w=>some (bv (wWaits c m w)))∧tabC rowsAB 191=(fun _=>none)∧tabC rowsAB 190=(fun _=>none)∧tabC rowsAB 192=(fun _=>none)∧tabC rowsAB 166=(fun _=>none)∧tabC rowsAB 30=(row1 shN fun e=>some (u (wMask e)))∧tabC rowsAB 188=(row1 shN fun e=>some (u (wEpoch e)))∧tabC rowsAB 208=(row2 shN shN fun p m=>some (u (wPack p m)))∧tabC rowsAB 170=(row1 shN fun e=>some (iv (wLow e)))∧tabC rowsAB 13=(row2 shC shI fun c w=>some (iv (lPark c w)))∧tabC rowsAB 90=(row3 shM shI shN fun m i v=>some (ms (mStore m i v)))∧tabC rowsAB 29=(row1 shC fun c=>some (iv (lSize c)))∧tabC rowsAB 28=(row1 shC fun c=>some (bv (mayC c)))∧tabC rowsAB 55=(row1 shF fun f=>some (bv (f.res != 0))):=⟨rfl,rfl,rfl,rfl,rfl,rfl,rfl,rfl,rfl,rfl,rfl,rfl,rfl,rfl,rfl,rfl,rfl⟩
theorem hfree_fn0 (g:FuncId):HFree (.fn (.func g) [] []):=hfree_fn (fun x h=>by cases h) (fun x h=>by cases h)
def kindsM:List AV:=[.tup [.v (.int .i64 6),.fn (.func 190) [] []],.tup [.v (.int .i64 7),.fn (.func 192) [] []]]
theorem kinds_pure:PureC Tryz.prog 166 [] (.fm kindsM):=by
 refine pure_sub okAB 1 Tryz.func166 rfl (by show 0≤_; decide) ?_
 have hm:(∀ x∈kindsM,HFree x)=True:=eq_true (by
  intro x hx
  simp only [kindsM,List.mem_cons,List.not_mem_nil,or_false] at hx
  rcases hx with rfl | rfl
  ·refine hfree_tup fun c hc=>?_
   simp only [List.mem_cons,List.not_mem_nil,or_false] at hc
   rcases hc with rfl | rfl
   ·exact hfree_v _
   ·exact hfree_fn0 _
  ·refine hfree_tup fun c hc=>?_
   simp only [List.mem_cons,List.not_mem_nil,or_false] at hc
   rcases hc with rfl | rfl
   ·exact hfree_v _
   ·exact hfree_fn0 _)
 unfold kindsM at hm ⊢
 simp only [Tryz.f166,hm,T192,mo_make,mo_ins,updM,find_nil,find_cons,findS,List.cons_append,List.nil_append,ctx_T,T3,ev1,ev2,undef,resB,cv,stepB,aopR,one,argFrm,evo,lkp,hlk,frz,frz1,frzA,subA,subB,sub1,Nat.reduceAdd,Nat.reduceLT,eq_self,Int.reduceBEq]
 all_goals ((repeat' apply And.intro) <;> first | rfl | omega | (show (_:Bool)=true; kernel_rfl) | decide)
theorem bump_pure (e:Int):PureC Tryz.prog 191 [u e] (.tup [u (wBump e),iv (wLow (wMask e))]):=by
 refine pure_sub okAB 1 Tryz.func191 rfl (by show 1≤_; decide) ?_
 have hu:∀ x,IntKind.wrap .u64 x=wrapU x:=fun _=>rfl
 simp only [Tryz.f191,AB_all,row1,row2,shN_dec,dN,iv,u,ctx_T,ctx_C,Option.bind_some,ev1,ev2,undef,resB,cv,stepB,aopR,one,pre,binR,intOpR,argFrm,evo,lkp,frz,frz1,frzt,frzA,subA,subB,subM,sub1,Nat.reduceAdd,Nat.reduceLT,eq_self]
 all_goals ((repeat' apply And.intro) <;> first | rfl | omega | (show (_:Bool)=true; kernel_rfl) | decide)
theorem wake_pure (c:Cf) (m:List Int) (w:Int) (hm:m.length≤1000):PureC Tryz.prog 169 [cv' c,ms m,.lst 1 [iv w]] (ms (mStore m (lPark c w) 1)):=by
 refine pure_sub okAB 1 Tryz.func169 rfl (by show 3≤_; decide) ?_
 simp only [Tryz.f169,tt_all,cv',iv,ms,ctx_T,Int.cast_ofNat_Int,ev1,ev2,undef,cv,stepB,aopR,one,argFrm,evo,lkp,lenOf,AV.wr,AV.ok1,frz,frz1,frzA,subA,subB,sub1,Nat.reduceAdd,Nat.reduceLT,reduceCtorEq,eq_self,ne_eq]
 refine WP.rounds okAB 1 2 (by rfl) ?_
 have w1:IntKind.wrap .i64 1=1:=by decide
 simp only [r_rounds,w1,AB_all,hm,tt_all,cf_eta,shC_dec,dC,hfree_lu,row2,row3,shI_dec,shN_dec,shM_dec,dI,dN,dM,dU_map,iv,ms,ctx_T,ctx_C,Option.bind_some,Int.cast_ofNat_Int,Int.reduceAdd,ev1,ev2,implies_true,undef,↓condE_t,↓condE_f,resB,cv,stepB,aopR,one,pre,binR,intOpR,evo,lkp,hlk,ofCells,TK.agg,Nat.reduceAdd,Nat.reduceEqDiff,Nat.reduceLT,Nat.reduceLeDiff,reduceCtorEq,eq_self,ne_eq,Int.reduceLT,Int.reduceLE]
 all_goals ((repeat' apply And.intro) <;> first | rfl | omega | (show (_:Bool)=true; kernel_rfl) | decide)
def shW:Sh Int where
 dec:=fun a=>match a with
  | .lst 1 [.v (.int .i64 w)]=>some w
  | _=>none
 enc:=fun w=>.lst 1 [iv w]
 ok:=fun a x h=>by
  split at h
  ·cases h; rfl
  ·cases h
 free:=fun x=>hfree_lst fun y hy c hc=>by
  simp only [List.mem_cons,List.not_mem_nil,or_false] at hy
  subst hy
  simp only [iv,AV.cells,List.mem_singleton] at hc
  subst hc; exact hfree_v _
theorem shW_dec (w:Int):shW.dec (.lst 1 [.v (.int .i64 w)])=some w:=rfl
def rowsAC:List Row:=[
 (166,row0 (.fm kindsM)),
 (191,row1 shN fun e=>some (.tup [u (wBump e),iv (wLow (wMask e))])),
 (169,row3 shC shM shW fun c m w=>some (ms (mStore m (lPark c w) 1)))] ++ rowsAB
theorem rowsAC_ok:∀ p∈rowsAC,RowOk Tryz.prog p:=fun p h=>by
 simp only [rowsAC,List.mem_append,List.mem_cons,List.not_mem_nil,or_false,or_assoc] at h
 rcases h with rfl | rfl | rfl | h
 ·exact ok_row0 (enters_of Tryz.func166 (by decide) rfl) kinds_pure
 ·exact ok_row1 (enters_of Tryz.func191 (by decide) rfl) fun e r _ h=>by cases h; exact bump_pure e
 ·exact ok_row3 (enters_of Tryz.func169 (by decide) rfl) fun c m w r _ g _ e=>by cases e; exact wake_pure c m w (shM_got g)
 ·exact rowsAB_ok p h
theorem okAC:(ctx Tryz.prog rowsAC).ok:=rows_ok rowsAC_ok
theorem AC_all:tabC rowsAC 166=(row0 (.fm kindsM))∧tabC rowsAC 191=(row1 shN fun e=>some (.tup [u (wBump e),iv (wLow (wMask e))]))∧tabC rowsAC 169=(row3 shC shM shW fun c m w=>some (ms (mStore m (lPark c w) 1)))∧tabC rowsAC 121=(row3 shC shM shF fun c m f=>some (sv (iStep c m f)))∧tabC rowsAC 148=(row3 shC shM shF fun c m f=>some (sv (waStep c m f)))∧tabC rowsAC 27=(row1 shF fun f=>some (bv (wParked f)))∧tabC rowsAC 11=(row3 shC shM shI fun c m w=>some (bv (wWaits c m w)))∧tabC rowsAC 190=(fun _=>none)∧tabC rowsAC 192=(fun _=>none)∧tabC rowsAC 30=(row1 shN fun e=>some (u (wMask e)))∧tabC rowsAC 188=(row1 shN fun e=>some (u (wEpoch e)))∧tabC rowsAC 208=(row2 shN shN fun p m=>some (u (wPack p m)))∧tabC rowsAC 170=(row1 shN fun e=>some (iv (wLow e)))∧tabC rowsAC 13=(row2 shC shI fun c w=>some (iv (lPark c w)))∧tabC rowsAC 90=(row3 shM shI shN fun m i v=>some (ms (mStore m i v)))∧tabC rowsAC 29=(row1 shC fun c=>some (iv (lSize c)))∧tabC rowsAC 28=(row1 shC fun c=>some (bv (mayC c)))∧tabC rowsAC 55=(row1 shF fun f=>some (bv (f.res != 0))):=⟨rfl,rfl,rfl,rfl,rfl,rfl,rfl,rfl,rfl,rfl,rfl,rfl,rfl,rfl,rfl,rfl,rfl,rfl⟩
def goesN (c:Cf) (m:List Int) (f:Fr):Bool:=mayC c && decide ((m.length:Int)=lSize c∧f.res=0∧0≤f.pc∧f.pc≤2)
theorem ngoes_pure (c:Cf) (m:List Int) (f:Fr) (hm:m.length≤1000) (h6:f.op=6):PureC Tryz.prog 165 [cv' c,ms m,fv f] (bv (goesN c m f)):=by
 refine pure_sub okAC 1 Tryz.func165 rfl (by show 3≤_; decide) ?_
 have key:goesN c m f=(mayC c && ((m.length:Int) == lSize c) && !(f.res != 0) && decide (f.pc ≥ 0) && decide (f.pc≤2)):=by
  rw [Bool.eq_iff_iff]
  simp [goesN]
  constructor
  ·rintro ⟨a,b,c,d,e⟩; simp_all
  ·intro h; simp_all
 rw [key]
 simp only [Tryz.f165,AC_all,h6,kindsM,fv,T192,mo_look,lookM,hitM,find_cons,findS,List.cons_append,List.nil_append,cv',cf_eta,shC_dec,dC,T23,T42,T30,row0,row1,iv,bv,u,ms,ctx_T,ctx_C,T3,Option.bind_some,List.length_map,shF_dec,dF,ev1,ev2,implies_true,undef,dynCall,↓guardE_tt,↓guardE_ft,resB,cv,stepB,stepE,callD,tabD,guardB,guardC,dstAt,aopR,one,pre,binR,intOpR,unR,argFrm,evo,lkp,hlk,lenOf,ofCells,AV.wr,AV.ok1,TK.agg,frz,frz1,frzA,subA,subB,sub1,accOf,Nat.reduceAdd,Nat.reduceEqDiff,Nat.reduceLT,Nat.reduceLeDiff,reduceCtorEq,eq_self,ne_eq]
 clear key
 repeat' first | apply And.intro | intro _
 all_goals first | rfl | (simp_all; done) | (simp_all; intros; omega)
end Go.Vai
