/- Stamps, spans, writes, notes as trees; contracts of the elder kind, told as data. -/
import Derived.Test.YtblfjaedaijfoaaGreatDoorQAbsSimp
import Derived.Test.YtblfjaedaijfoaaGreatDoorProg
import Derived.Test.YtblfjaedaijfoaaGreatDoorQNoteSmall
set_option linter.all false
set_option linter.unnecessarySimpa false
set_option linter.unusedSimpArgs false
set_option linter.unusedVariables false
namespace Go.Proofs.YtblfjaedaijfoaaGreatDoor
open Go.ChangeShapes Go.WideShapes Go.ChangeAt Go.RowKit
@[go_sem] theorem E26:tyK Tryz.prog 3=some (0,1):=by kernel_rfl
@[go_sem] theorem Di5:Su Tryz.prog 3=some .i64:=by kernel_rfl
@[go_sem] theorem E24:tyZ Tryz.prog 3=some (0,[.int .i64 0]):=by kernel_rfl
@[go_sem] theorem E25:tyK Tryz.prog 4=some (0,1):=by kernel_rfl
@[go_sem] theorem E23:tyZ Tryz.prog 4=some (0,[.bool false]):=by kernel_rfl
@[go_sem] theorem Di4:Su Tryz.prog 5=some .u8:=by kernel_rfl
@[go_sem] theorem E22:tyZ Tryz.prog 5=some (0,[.int .u8 0]):=by kernel_rfl
@[go_sem] theorem Dg1:Lr Tryz.prog 9=true:=by kernel_rfl
@[go_sem] theorem Du1:tyK Tryz.prog 22=some (0,1):=by kernel_rfl
@[go_sem] theorem Dh3:Ez Tryz.prog 22=some (53,2,16):=by kernel_rfl
@[go_sem] theorem Dr9:tyZ Tryz.prog 22=some (0,[.slice none 0 0]):=by kernel_rfl
@[go_sem] theorem Du0:tyK Tryz.prog 23=some (0,1):=by kernel_rfl
@[go_sem] theorem Dh2:Ez Tryz.prog 23=some (142,3,40):=by kernel_rfl
@[go_sem] theorem Dr8:tyZ Tryz.prog 23=some (0,[.slice none 0 0]):=by kernel_rfl
@[go_sem] theorem Dt9:tyK Tryz.prog 24=some (0,1):=by kernel_rfl
@[go_sem] theorem Dh1:Ez Tryz.prog 24=some (102,4,32):=by kernel_rfl
@[go_sem] theorem Dt8:tyK Tryz.prog 25=some (0,1):=by kernel_rfl
@[go_sem] theorem Dh0:Ez Tryz.prog 25=some (79,4,48):=by kernel_rfl
@[go_sem] theorem Dt7:tyK Tryz.prog 27=some (1,5):=by kernel_rfl
@[go_sem] theorem D28:tyF Tryz.prog 27 0=some (0,0,1):=by kernel_rfl
@[go_sem] theorem D27:tyF Tryz.prog 27 1=some (1,0,1):=by kernel_rfl
@[go_sem] theorem D26:tyF Tryz.prog 27 2=some (2,0,1):=by kernel_rfl
@[go_sem] theorem D25:tyF Tryz.prog 27 3=some (3,0,1):=by kernel_rfl
@[go_sem] theorem D24:tyF Tryz.prog 27 4=some (4,0,1):=by kernel_rfl
@[go_sem] theorem Du9:K7 Tryz.prog 27=some ([.slice none 0 0,.slice none 0 0,.slice none 0 0,.slice none 0 0,.int .i64 0],[(0,1),(1,1),(2,1),(3,1),(4,1)]):=by kernel_rfl
@[go_sem] theorem Dr7:tyZ Tryz.prog 27=some (1,[.slice none 0 0,.slice none 0 0,.slice none 0 0,.slice none 0 0,.int .i64 0]):=by kernel_rfl
@[go_sem] theorem Dt6:tyK Tryz.prog 28=some (0,1):=by kernel_rfl
@[go_sem] theorem Dg9:Ez Tryz.prog 28=some (98,4,96):=by kernel_rfl
@[go_sem] theorem Dt5:tyK Tryz.prog 30=some (1,3):=by kernel_rfl
@[go_sem] theorem D23:tyF Tryz.prog 30 0=some (0,0,1):=by kernel_rfl
@[go_sem] theorem D22:tyF Tryz.prog 30 1=some (1,0,1):=by kernel_rfl
@[go_sem] theorem D21:tyF Tryz.prog 30 2=some (2,0,1):=by kernel_rfl
@[go_sem] theorem Du8:K7 Tryz.prog 30=some ([.slice none 0 0,.slice none 0 0,.int .i64 0],[(0,1),(1,1),(2,1)]):=by kernel_rfl
@[go_sem] theorem Dr6:tyZ Tryz.prog 30=some (1,[.slice none 0 0,.slice none 0 0,.int .i64 0]):=by kernel_rfl
@[go_sem] theorem Dt4:tyK Tryz.prog 31=some (0,1):=by kernel_rfl
@[go_sem] theorem Dg8:Ez Tryz.prog 31=some (77,5,56):=by kernel_rfl
@[go_sem] theorem Dt3:tyK Tryz.prog 32=some (0,1):=by kernel_rfl
@[go_sem] theorem Dg7:Ez Tryz.prog 32=some (118,7,56):=by kernel_rfl
@[go_sem] theorem Dt2:tyK Tryz.prog 33=some (0,1):=by kernel_rfl
@[go_sem] theorem Dg6:Ez Tryz.prog 33=some (81,12,160):=by kernel_rfl
@[go_sem] theorem Dt1:tyK Tryz.prog 34=some (0,1):=by kernel_rfl
@[go_sem] theorem Dg5:Ez Tryz.prog 34=some (134,3,40):=by kernel_rfl
@[go_sem] theorem Dt0:tyK Tryz.prog 36=some (1,2):=by kernel_rfl
@[go_sem] theorem D20:tyF Tryz.prog 36 0=some (0,0,1):=by kernel_rfl
@[go_sem] theorem D19:tyF Tryz.prog 36 1=some (1,0,1):=by kernel_rfl
@[go_sem] theorem Du7:K7 Tryz.prog 36=some ([.int .i64 0,.slice none 0 0],[(0,1),(1,1)]):=by kernel_rfl
@[go_sem] theorem Dr5:tyZ Tryz.prog 36=some (1,[.int .i64 0,.slice none 0 0]):=by kernel_rfl
@[go_sem] theorem Ds9:tyK Tryz.prog 38=some (1,16):=by kernel_rfl
@[go_sem] theorem D18:tyF Tryz.prog 38 0=some (0,0,1):=by kernel_rfl
@[go_sem] theorem D17:tyF Tryz.prog 38 1=some (1,1,5):=by kernel_rfl
@[go_sem] theorem D16:tyF Tryz.prog 38 2=some (6,1,3):=by kernel_rfl
@[go_sem] theorem D15:tyF Tryz.prog 38 3=some (9,0,1):=by kernel_rfl
@[go_sem] theorem D14:tyF Tryz.prog 38 4=some (10,0,1):=by kernel_rfl
@[go_sem] theorem D13:tyF Tryz.prog 38 5=some (11,0,1):=by kernel_rfl
@[go_sem] theorem D12:tyF Tryz.prog 38 6=some (12,0,1):=by kernel_rfl
@[go_sem] theorem D11:tyF Tryz.prog 38 7=some (13,1,2):=by kernel_rfl
@[go_sem] theorem D10:tyF Tryz.prog 38 8=some (15,0,1):=by kernel_rfl
@[go_sem] theorem Du6:K7 Tryz.prog 38=some ([.int .i64 0,.slice none 0 0,.slice none 0 0,.slice none 0 0,.slice none 0 0,.int .i64 0,.slice none 0 0,.slice none 0 0,.int .i64 0,.slice none 0 0,.slice none 0 0,.int .i64 0,.slice none 0 0,.int .i64 0,.slice none 0 0,.bool false],[(0,1),(1,5),(6,3),(9,1),(10,1),(11,1),(12,1),(13,2),(15,1)]):=by kernel_rfl
@[go_sem] theorem Dr4:tyZ Tryz.prog 38=some (1,[.int .i64 0,.slice none 0 0,.slice none 0 0,.slice none 0 0,.slice none 0 0,.int .i64 0,.slice none 0 0,.slice none 0 0,.int .i64 0,.slice none 0 0,.slice none 0 0,.int .i64 0,.slice none 0 0,.int .i64 0,.slice none 0 0,.bool false]):=by kernel_rfl
@[go_sem] theorem Dg4:Ez Tryz.prog 39=none:=by kernel_rfl
@[go_sem] theorem Dj3:Wh Tryz.prog 39=some (3,0,1):=by kernel_rfl
@[go_sem] theorem Ds8:tyK Tryz.prog 41=some (0,1):=by kernel_rfl
@[go_sem] theorem Ds7:tyK Tryz.prog 47=some (0,1):=by kernel_rfl
@[go_sem] theorem Dg3:Ez Tryz.prog 47=some (5,1,1):=by kernel_rfl
@[go_sem] theorem D29:Un Tryz.prog 47=true:=by kernel_rfl
@[go_sem] theorem Ds6:tyK Tryz.prog 48=some (0,1):=by kernel_rfl
@[go_sem] theorem Dg2:Ez Tryz.prog 48=some (121,2,16):=by kernel_rfl
@[go_sem] theorem Dr3:tyZ Tryz.prog 48=some (0,[.slice none 0 0]):=by kernel_rfl
@[go_sem] theorem Ds5:tyK Tryz.prog 53=some (1,2):=by kernel_rfl
@[go_sem] theorem D09:tyF Tryz.prog 53 0=some (0,0,1):=by kernel_rfl
@[go_sem] theorem D08:tyF Tryz.prog 53 1=some (1,0,1):=by kernel_rfl
@[go_sem] theorem Du5:K7 Tryz.prog 53=some ([.int .i64 0,.int .i64 0],[(0,1),(1,1)]):=by kernel_rfl
@[go_sem] theorem Dr2:tyZ Tryz.prog 53=some (1,[.int .i64 0,.int .i64 0]):=by kernel_rfl
@[go_sem] theorem Ds4:tyK Tryz.prog 58=some (1,5):=by kernel_rfl
@[go_sem] theorem D07:tyF Tryz.prog 58 0=some (0,0,1):=by kernel_rfl
@[go_sem] theorem D06:tyF Tryz.prog 58 1=some (1,0,1):=by kernel_rfl
@[go_sem] theorem Du4:K7 Tryz.prog 58=some ([.int .i64 0,.slice none 0 0,.bool false,.int .i64 0,.int .i64 0],[(0,1),(1,1),(2,1),(3,2)]):=by kernel_rfl
@[go_sem] theorem Dr1:tyZ Tryz.prog 58=some (1,[.int .i64 0,.slice none 0 0,.bool false,.int .i64 0,.int .i64 0]):=by kernel_rfl
@[go_sem] theorem Ds3:tyK Tryz.prog 77=some (1,5):=by kernel_rfl
@[go_sem] theorem D05:tyF Tryz.prog 77 0=some (0,0,1):=by kernel_rfl
@[go_sem] theorem D04:tyF Tryz.prog 77 1=some (1,0,1):=by kernel_rfl
@[go_sem] theorem D03:tyF Tryz.prog 77 2=some (2,0,1):=by kernel_rfl
@[go_sem] theorem D02:tyF Tryz.prog 77 3=some (3,0,1):=by kernel_rfl
@[go_sem] theorem D01:tyF Tryz.prog 77 4=some (4,0,1):=by kernel_rfl
@[go_sem] theorem Dr0:tyZ Tryz.prog 77=some (1,[.int .i64 0,.int .i64 0,.slice none 0 0,.int .i64 0,.int .i64 0]):=by kernel_rfl
@[go_sem] theorem Ds2:tyK Tryz.prog 79=some (1,4):=by kernel_rfl
@[go_sem] theorem D00:tyF Tryz.prog 79 0=some (0,0,1):=by kernel_rfl
@[go_sem] theorem Cz9:tyF Tryz.prog 79 1=some (1,1,2):=by kernel_rfl
@[go_sem] theorem Cz8:tyF Tryz.prog 79 2=some (3,0,1):=by kernel_rfl
@[go_sem] theorem Du3:K7 Tryz.prog 79=some ([.int .i64 0,.int .i64 0,.int .i64 0,.slice none 0 0],[(0,1),(1,2),(3,1)]):=by kernel_rfl
@[go_sem] theorem Dq9:tyZ Tryz.prog 79=some (1,[.int .i64 0,.int .i64 0,.int .i64 0,.slice none 0 0]):=by kernel_rfl
@[go_sem] theorem Ds1:tyK Tryz.prog 81=some (1,12):=by kernel_rfl
@[go_sem] theorem Cz7:tyF Tryz.prog 81 0=some (0,0,1):=by kernel_rfl
@[go_sem] theorem Cz6:tyF Tryz.prog 81 1=some (1,0,1):=by kernel_rfl
@[go_sem] theorem Cz5:tyF Tryz.prog 81 2=some (2,0,1):=by kernel_rfl
@[go_sem] theorem Cz4:tyF Tryz.prog 81 3=some (3,0,1):=by kernel_rfl
@[go_sem] theorem Cz3:tyF Tryz.prog 81 4=some (4,0,1):=by kernel_rfl
@[go_sem] theorem Cz2:tyF Tryz.prog 81 5=some (5,0,1):=by kernel_rfl
@[go_sem] theorem Cz1:tyF Tryz.prog 81 6=some (6,0,1):=by kernel_rfl
@[go_sem] theorem Cz0:tyF Tryz.prog 81 7=some (7,0,1):=by kernel_rfl
@[go_sem] theorem Cy9:tyF Tryz.prog 81 8=some (8,1,4):=by kernel_rfl
@[go_sem] theorem Dq8:tyZ Tryz.prog 81=some (1,[.int .i64 0,.int .i64 0,.int .i64 0,.int .i64 0,.int .i64 0,.slice none 0 0,.slice none 0 0,.slice none 0 0,.int .i64 0,.int .i64 0,.int .i64 0,.slice none 0 0]):=by kernel_rfl
@[go_sem] theorem Ds0:tyK Tryz.prog 98=some (1,4):=by kernel_rfl
@[go_sem] theorem Cy8:tyF Tryz.prog 98 0=some (0,0,1):=by kernel_rfl
@[go_sem] theorem Cy7:tyF Tryz.prog 98 1=some (1,0,1):=by kernel_rfl
@[go_sem] theorem Cy6:tyF Tryz.prog 98 2=some (2,0,1):=by kernel_rfl
@[go_sem] theorem Cy5:tyF Tryz.prog 98 3=some (3,0,1):=by kernel_rfl
@[go_sem] theorem Du2:K7 Tryz.prog 98=some ([.slice none 0 0,.slice none 0 0,.slice none 0 0,.slice none 0 0],[(0,1),(1,1),(2,1),(3,1)]):=by kernel_rfl
@[go_sem] theorem Dq7:tyZ Tryz.prog 98=some (1,[.slice none 0 0,.slice none 0 0,.slice none 0 0,.slice none 0 0]):=by kernel_rfl
@[go_sem] theorem Di3:tyK Tryz.prog 102=some (1,4):=by kernel_rfl
@[go_sem] theorem Cq3:tyF Tryz.prog 102 0=some (0,1,2):=by kernel_rfl
@[go_sem] theorem Cq2:tyF Tryz.prog 102 1=some (2,0,1):=by kernel_rfl
@[go_sem] theorem Cq1:tyF Tryz.prog 102 2=some (3,0,1):=by kernel_rfl
@[go_sem] theorem Dj2:K7 Tryz.prog 102=some ([.int .i64 0,.int .i64 0,.int .i64 0,.bool false],[(0,2),(2,1),(3,1)]):=by kernel_rfl
@[go_sem] theorem Dg0:tyZ Tryz.prog 102=some (1,[.int .i64 0,.int .i64 0,.int .i64 0,.bool false]):=by kernel_rfl
@[go_sem] theorem Di2:tyK Tryz.prog 104=some (1,17):=by kernel_rfl
@[go_sem] theorem Cq0:tyF Tryz.prog 104 0=some (0,0,1):=by kernel_rfl
@[go_sem] theorem Cp9:tyF Tryz.prog 104 1=some (1,1,4):=by kernel_rfl
@[go_sem] theorem Cp8:tyF Tryz.prog 104 2=some (5,1,4):=by kernel_rfl
@[go_sem] theorem Cp7:tyF Tryz.prog 104 3=some (9,0,1):=by kernel_rfl
@[go_sem] theorem Cp6:tyF Tryz.prog 104 4=some (10,0,1):=by kernel_rfl
@[go_sem] theorem Cp5:tyF Tryz.prog 104 5=some (11,1,5):=by kernel_rfl
@[go_sem] theorem Cp4:tyF Tryz.prog 104 6=some (16,0,1):=by kernel_rfl
@[go_sem] theorem Dj1:K7 Tryz.prog 104=some ([.int .i64 0,.slice none 0 0,.slice none 0 0,.slice none 0 0,.slice none 0 0,.int .i64 0,.int .i64 0,.int .i64 0,.slice none 0 0,.int .i64 0,.slice none 0 0,.slice none 0 0,.slice none 0 0,.slice none 0 0,.slice none 0 0,.int .i64 0,.slice none 0 0],[(0,1),(1,4),(5,4),(9,1),(10,1),(11,5),(16,1)]):=by kernel_rfl
@[go_sem] theorem Df9:tyZ Tryz.prog 104=some (1,[.int .i64 0,.slice none 0 0,.slice none 0 0,.slice none 0 0,.slice none 0 0,.int .i64 0,.int .i64 0,.int .i64 0,.slice none 0 0,.int .i64 0,.slice none 0 0,.slice none 0 0,.slice none 0 0,.slice none 0 0,.slice none 0 0,.int .i64 0,.slice none 0 0]):=by kernel_rfl
@[go_sem] theorem Di1:tyK Tryz.prog 118=some (1,7):=by kernel_rfl
@[go_sem] theorem Cp3:tyF Tryz.prog 118 0=some (0,0,1):=by kernel_rfl
@[go_sem] theorem Cp2:tyF Tryz.prog 118 1=some (1,0,1):=by kernel_rfl
@[go_sem] theorem Cp1:tyF Tryz.prog 118 2=some (2,0,1):=by kernel_rfl
@[go_sem] theorem Cp0:tyF Tryz.prog 118 3=some (3,0,1):=by kernel_rfl
@[go_sem] theorem Co9:tyF Tryz.prog 118 4=some (4,0,1):=by kernel_rfl
@[go_sem] theorem Co8:tyF Tryz.prog 118 5=some (5,0,1):=by kernel_rfl
@[go_sem] theorem Co7:tyF Tryz.prog 118 6=some (6,0,1):=by kernel_rfl
@[go_sem] theorem Df8:tyZ Tryz.prog 118=some (1,[.int .i64 0,.slice none 0 0,.int .i64 0,.int .i64 0,.bool false,.bool false,.bool false]):=by kernel_rfl
@[go_sem] theorem Di0:tyK Tryz.prog 121=some (1,2):=by kernel_rfl
@[go_sem] theorem Co6:tyF Tryz.prog 121 0=some (0,0,1):=by kernel_rfl
@[go_sem] theorem Co5:tyF Tryz.prog 121 1=some (1,0,1):=by kernel_rfl
@[go_sem] theorem Dj0:K7 Tryz.prog 121=some ([.int .i64 0,.int .i64 0],[(0,1),(1,1)]):=by kernel_rfl
@[go_sem] theorem Df7:tyZ Tryz.prog 121=some (1,[.int .i64 0,.int .i64 0]):=by kernel_rfl
@[go_sem] theorem Dh9:tyK Tryz.prog 134=some (1,3):=by kernel_rfl
@[go_sem] theorem Co4:tyF Tryz.prog 134 0=some (0,0,1):=by kernel_rfl
@[go_sem] theorem Co3:tyF Tryz.prog 134 1=some (1,0,1):=by kernel_rfl
@[go_sem] theorem Co2:tyF Tryz.prog 134 2=some (2,0,1):=by kernel_rfl
@[go_sem] theorem Di9:K7 Tryz.prog 134=some ([.int .i64 0,.slice none 0 0,.int .i64 0],[(0,1),(1,1),(2,1)]):=by kernel_rfl
@[go_sem] theorem Df6:tyZ Tryz.prog 134=some (1,[.int .i64 0,.slice none 0 0,.int .i64 0]):=by kernel_rfl
@[go_sem] theorem Cy4:Wf Tryz.prog 135=some (.i64,.bool false):=by kernel_rfl
@[go_sem] theorem Dh8:tyK Tryz.prog 142=some (1,3):=by kernel_rfl
@[go_sem] theorem Co1:tyF Tryz.prog 142 0=some (0,1,2):=by kernel_rfl
@[go_sem] theorem Co0:tyF Tryz.prog 142 1=some (2,0,1):=by kernel_rfl
@[go_sem] theorem Di8:K7 Tryz.prog 142=some ([.int .i64 0,.int .i64 0,.slice none 0 0],[(0,2),(2,1)]):=by kernel_rfl
@[go_sem] theorem Df5:tyZ Tryz.prog 142=some (1,[.int .i64 0,.int .i64 0,.slice none 0 0]):=by kernel_rfl
@[go_sem] theorem Cn7:Su Tryz.prog 195=some .u64:=by kernel_rfl
@[go_sem] theorem Cy3:Ez Tryz.prog 197=none:=by kernel_rfl
@[go_sem] theorem D33:Wh Tryz.prog 197=some (256,0,1):=by kernel_rfl
@[go_sem] theorem Df4:tyZ Tryz.prog 197=some (2,rep 256 (.bool false)):=by kernel_rfl
@[go_sem] theorem Cy2:Ez Tryz.prog 208=none:=by kernel_rfl
@[go_sem] theorem D32:Wh Tryz.prog 208=some (2,0,1):=by kernel_rfl
@[go_sem] theorem Di7:K7 Tryz.prog 208=some ([.int .i64 0,.int .i64 0],[(0,1),(1,1)]):=by kernel_rfl
@[go_sem] theorem Dh7:tyK Tryz.prog 209=some (2,4):=by kernel_rfl
@[go_sem] theorem Cy1:Ez Tryz.prog 209=none:=by kernel_rfl
@[go_sem] theorem D31:Wh Tryz.prog 209=some (2,2,2):=by kernel_rfl
@[go_sem] theorem Di6:K7 Tryz.prog 209=some ([.int .i64 0,.int .i64 0,.int .i64 0,.int .i64 0],[(0,2),(2,2)]):=by kernel_rfl
@[go_sem] theorem Df3:tyZ Tryz.prog 209=some (2,[.int .i64 0,.int .i64 0,.int .i64 0,.int .i64 0]):=by kernel_rfl
@[go_sem] theorem Cy0:Ez Tryz.prog 216=some (22,1,24):=by kernel_rfl
@[go_sem] theorem Cn6:Su Tryz.prog 241=some .u32:=by kernel_rfl
@[go_sem] theorem Cx9:Ez Tryz.prog 246=none:=by kernel_rfl
@[go_sem] theorem D30:Wh Tryz.prog 246=some (64,0,1):=by kernel_rfl
@[go_sem] theorem Dh6:tyK Tryz.prog 263=some (0,1):=by kernel_rfl
@[go_sem] theorem Cn9:tyF Tryz.prog 275 0=some (0,2,64):=by kernel_rfl
@[go_sem] theorem Cn8:tyF Tryz.prog 275 1=some (64,0,1):=by kernel_rfl
@[go_sem] theorem Df2:tyZ Tryz.prog 275=some (1,rep 64 (.int .i64 0)++[.int .u64 0]):=by kernel_rfl
@[go_sem] theorem Dh5:tyK Tryz.prog 281=some (0,1):=by kernel_rfl
@[go_sem] theorem Df1:tyZ Tryz.prog 281=some (0,[.nilFunc]):=by kernel_rfl
@[go_sem] theorem Cx8:Ez Tryz.prog 291=some (3,1,8):=by kernel_rfl
@[go_sem] theorem Cx7:Ez Tryz.prog 304=some (48,1,24):=by kernel_rfl
@[go_sem] theorem Dh4:tyK Tryz.prog 313=some (0,1):=by kernel_rfl
def Rj (s:Ab):List IV:=[.val (.int .i64 s.count),.val (.int .i64 s.node)]
def Nl (s:Ao):List IV:=[.val (.int .i64 s.lo),.val (.int .i64 s.hi)]
def enW (y:Ap):List IV:=[.val (.int .i64 y.stamp.count),.val (.int .i64 y.stamp.node),.val (.int .i64 y.object),.val (.bool y.gone)]
def stI (l:List Ab):IV:=.sl 2 (l.map Rj)
def spI (l:List Ao):IV:=.sl 2 (l.map Nl)
def wrI (l:List Ap):IV:=.sl 4 (l.map enW)
def enN (x:Bc):List IV:=[stI x.start,stI x.end_,spI x.blur,wrI x.writes]
def noI (l:List Bc):IV:=.sl 4 (l.map enN)
def stA (l:List Ab):AV:=.iv (stI l)
def spA (l:List Ao):AV:=.iv (spI l)
def Ft (x:Bc):AV:=.agg [.iv (stI x.start),.iv (stI x.end_),.iv (spI x.blur),.iv (wrI x.writes)]
theorem Z7 (s:Ab):Rj s=[.val (.int .i64 s.count),.val (.int .i64 s.node)]:=rfl
theorem Bi1 (s:Ao):Nl s=[.val (.int .i64 s.lo),.val (.int .i64 s.hi)]:=rfl
theorem Eb (y:Ap):enW y=[.val (.int .i64 y.stamp.count),.val (.int .i64 y.stamp.node),.val (.int .i64 y.object),.val (.bool y.gone)]:=rfl
theorem Ms (x:Bc):enN x=[stI x.start,stI x.end_,spI x.blur,wrI x.writes]:=rfl
section
variable {X : World} {v : Value}
theorem Wk {cs:List Value} {s:Ab} (h:G7 cs s):Ay X cs (Rj s):=by
 obtain ⟨rfl,h1,h2⟩:=h;exact ⟨.val h1,.val h2,trivial⟩
theorem Ci3 {cs:List Value} {s:Ab} (h:Ay X cs (Rj s)):G7 cs s:=by
 match cs,h with
 | [a,b],⟨h1,h2,_⟩=>cases h1 with | val i1=>cases h2 with | val i2=>exact ⟨rfl,i1,i2⟩
theorem Ts {cs:List Value} {s:Ao} (h:Ei cs s):Ay X cs (Nl s):=by
 obtain ⟨rfl,h1,h2⟩:=h;exact ⟨.val h1,.val h2,trivial⟩
theorem Ci4 {cs:List Value} {s:Ao} (h:Ay X cs (Nl s)):Ei cs s:=by
 match cs,h with
 | [a,b],⟨h1,h2,_⟩=>cases h1 with | val i1=>cases h2 with | val i2=>exact ⟨rfl,i1,i2⟩
theorem Cd0 {cs:List Value} {s:Ap} (h:Ud cs s):Ay X cs (enW s):=by
 obtain ⟨rfl,h1,h2,h3⟩:=h;exact ⟨.val h1,.val h2,.val h3,.val trivial,trivial⟩
theorem D51 {cs:List Value} {s:Ap} (h:Ay X cs (enW s)):Ud cs s:=by
 match cs,h with
 | [a,b,c,d],⟨h1,h2,h3,h4,_⟩=>cases h1 with | val i1=>cases h2 with | val i2=>cases h3 with | val i3=>cases h4 with | val i4=>exact ⟨rfl,i1,i2,i3⟩
theorem Cp.stamps {l:List Ab} (h:Cp X v (stI l)):C8 X X.heap.size v l:=h.to_typed fun _ _ _ h=>Ci3 h
theorem Cp.spans {l:List Ao} (h:Cp X v (spI l)):Dz X X.heap.size v l:=h.to_typed fun _ _ _ h=>Ci4 h
theorem Cp.writes {l:List Ap} (h:Cp X v (wrI l)):Mu X X.heap.size v l:=h.to_typed fun _ _ _ h=>D51 h
theorem Ky {l:List Ab} {B:Nat} (h:C8 X B v l) (hB:B<=X.heap.size):Cp X v (stI l):=Cp.of_typed (fun _ _ h=>Wk h) h hB
theorem Ry {l:List Ao} {B:Nat} (h:Dz X B v l) (hB:B<=X.heap.size):Cp X v (spI l):=Cp.of_typed (fun _ _ h=>Ts h) h hB
theorem Za {l:List Ap} {B:Nat} (h:Mu X B v l) (hB:B<=X.heap.size):Cp X v (wrI l):=Cp.of_typed (fun _ _ h=>Cd0 h) h hB
theorem Nw {E:Env} {w:World} (he:Ext X w) {x:Bc} (h:Bd E X v (Ft x)):∃ v0 v1 v2 v3,v=.agg #[v0,v1,v2,v3]/\Qg w w.heap.size v0 v1 v2 v3 x:=by
 cases h with
 | @agg vs _ h1 h2 =>
  obtain ⟨l⟩:=vs
  match l,h1 with
  | [v0,v1,v2,v3],_ =>
   have a0:=h2 0 v0 _ rfl rfl
   have a1:=h2 1 v1 _ rfl rfl
   have a2:=h2 2 v2 _ rfl rfl
   have a3:=h2 3 v3 _ rfl rfl
   cases a0 with | iv a0=>cases a1 with | iv a1=>cases a2 with | iv a2=>cases a3 with | iv a3 =>
   exact ⟨v0,v1,v2,v3,rfl,a0.stamps.ext (fun _ _ h=>h) he,a1.stamps.ext (fun _ _ h=>h) he,a2.spans.ext (fun _ _ h=>h) he,a3.writes.ext (fun _ _ h=>h) he⟩
theorem Bx.map_ {α β:Type} {R:List Value->α->Prop} {R':List Value->β->Prop} {f:α->β} {k:Nat} (hR:∀ cs x,R cs x->R' cs (f x)):∀ {xs:List Value} {l:List α},Bx R k xs l->Bx R' k xs (l.map f)
 | _,[],h=>h
 | _,_ :: _,⟨cs,rest,e,hk,h1,h⟩=>⟨cs,rest,e,hk,hR _ _ h1,Bx.map_ hR h⟩
theorem Ah.map_ {α β:Type} {R:List Value->α->Prop} {R':List Value->β->Prop} {f:α->β} {k:Nat} {w:World} {base:Nat} {e:TypeId} {l:List α} (hR:∀ cs x,R cs x->R' cs (f x)) (h:Ah R k w base e v l):Ah R' k w base e v (l.map f):=by
 obtain ⟨xs,h1,h2,h3⟩:=h
 exact ⟨xs,by rw [List.length_map];exact h1,h2.map_ hR,by rw [List.length_map];exact h3⟩
end
section
variable {P : Program} {G : World -> Prop} {f : FuncId} {fn : Func} {c : Code}
theorem Ri (hf : P.funcs[f]? = some fn) (hb : fn.body = some c) (hname : (fn.name == "runtime.NumGoroutine") = false) (vs : Array Value) (w : World) : (callFunc f vs).run P w = .ok (.enter f vs) w := by
 have hname' : ¬ fn.name = "runtime.NumGoroutine" := by simpa using hname
 simp [callFunc,program,Sem.run,hf,hname',hb]
theorem Cl7 {args : List AV} {r : AV} (hf : P.funcs[f]? = some fn) (hb : fn.body = some c) (hname : (fn.name == "runtime.NumGoroutine") = false)
  (h:∀ (V w:World) (E:Env) (vs:Array Value),Ext V w->G w->Au E V vs.toList args->Calls P f vs w fun e w'=>∃ v,e=.returned v/\Below w.heap.size w w'/\Bd E (vis V w w' []) v r):A7 P G f args r [] :=
 ⟨Ri hf hb hname,fun V w E vs hV hG hr=>(h V w E vs hV hG hr).mono fun _ w' ⟨v,he,hb,hv⟩=>⟨v,E,he,hb,List.nodup_nil,fun _ h=>(by cases h),fun _ h=>(by cases h),hv⟩⟩
theorem H6 {E:Env} {V:World} {vs:Array Value} {a:AV} (h:Au E V vs.toList [a]):∃ v,vs=#[v]/\Bd E V v a:=by
 obtain ⟨v,vs',h1,h2,h3⟩:=Au.cons_iff.1 h
 rw [Au.nil_iff] at h3
 subst h3
 exact ⟨v,by rw [<-Array.toArray_toList (xs:=vs),h1],h2⟩
theorem Kr {E:Env} {V:World} {vs:Array Value} {a b:AV} (h:Au E V vs.toList [a,b]):∃ v u,vs=#[v,u]/\Bd E V v a/\Bd E V u b:=by
 obtain ⟨v,vs',h1,h2,h3⟩:=Au.cons_iff.1 h
 obtain ⟨u,vs2,rfl,h4,h5⟩:=Au.cons_iff.1 h3
 rw [Au.nil_iff] at h5
 subst h5
 exact ⟨v,u,by rw [<-Array.toArray_toList (xs:=vs),h1],h2,h4⟩
theorem Cl {E:Env} {V w:World} {v:Value} {l:List Ab} (hV:Ext V w) (h:Bd E V v (.iv (stI l))):C8 w w.heap.size v l:=by
 cases h with | iv h=>exact h.stamps.ext (fun _ _ h=>h) hV
theorem Ji {E:Env} {V w:World} {v:Value} {l:List Ao} (hV:Ext V w) (h:Bd E V v (.iv (spI l))):Dz w w.heap.size v l:=by
 cases h with | iv h=>exact h.spans.ext (fun _ _ h=>h) hV
theorem Bq3 {E:Env} {V w:World} {v:Value} {l:List Ap} (hV:Ext V w) (h:Bd E V v (.iv (wrI l))):Mu w w.heap.size v l:=by
 cases h with | iv h=>exact h.writes.ext (fun _ _ h=>h) hV
theorem Bt {args : List AV} {v : Value} (hf : P.funcs[f]? = some fn) (hb : fn.body = some c) (hname : (fn.name == "runtime.NumGoroutine") = false)
  (h:∀ (V w:World) (E:Env) (vs:Array Value),Ext V w->G w->Au E V vs.toList args->Calls P f vs w fun e w'=>e=.returned v/\Below w.heap.size w w'):A7 P G f args (.val v) [] :=
 ⟨Ri hf hb hname,fun V w E vs hV hG hr=>(h V w E vs hV hG hr).mono fun _ w' ⟨he,hb⟩=>⟨v,E,he,hb,List.nodup_nil,fun _ h=>(by cases h),fun _ h=>(by cases h),.val⟩⟩
theorem El {α : Type} {R : List Value -> α -> Prop} {enc : α -> List IV} {k T : Nat} {l : List α} (hR : ∀ X cs x, R cs x -> Ay X cs (enc x)) {args : List AV} (hf : P.funcs[f]? = some fn) (hb : fn.body = some c) (hname : (fn.name == "runtime.NumGoroutine") = false)
  (h:∀ (V w:World) (E:Env) (vs:Array Value),Ext V w->G w->Au E V vs.toList args->Calls P f vs w fun e w'=>(∃ v,e=.returned v/\Ah R k w' w.heap.size T v l)/\Below w.heap.size w w'):A7 P G f args (.own 0) [.row 0 T k (l.map enc)] :=
 ⟨Ri hf hb hname,fun V w E vs hV hG hr=>(h V w E vs hV hG hr).mono fun _ w' ⟨⟨v,he,hO⟩,hb⟩=>by
  obtain ⟨A,cc,hv⟩:=hO.form
  have ho:Ac ⟨fun _=>(v.ownBlock).getD 0,fun _=>v⟩ [.row 0 T k (l.map enc)]=v.ownBlock.toList:=by simp [Ac,BA.owned]
  refine ⟨v,⟨fun _=>(v.ownBlock).getD 0,fun _=>v⟩,he,hb,by rw [ho];cases v.ownBlock<;>simp,fun g hg=>by rw [ho,Option.mem_toList] at hg;exact (hO.lt g hg).1,fun b hb'=>?_,?_⟩
  ·simp only [List.mem_singleton] at hb'
   subst hb'
   exact ⟨hO.map_ fun cs x h=>hR _ cs x h,fun g hg=>by simp [hg]⟩
  ·rw [hv]
   exact .own rfl⟩
end
end Go.Proofs.YtblfjaedaijfoaaGreatDoor
