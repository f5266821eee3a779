/- What the calls of the law reach, reckoned once. -/
import Derived.Test.YtahgkllhbggmgaaGreatDoorCards
import Derived.JoinedOf
set_option linter.all false
set_option linter.unnecessarySimpa false
set_option linter.unusedSimpArgs false
set_option linter.unusedVariables false
namespace Go.Proofs.YtahgkllhbggmgaaGreatDoor
namespace cCalmLinks
set_option maxRecDepth 100000
theorem cl:Tryz.pinned.checked.prog.closure 6=[6,18,8,23,57,62,128,93,129,58,59,22,10,25,27,71,60,61,127,26,63,130,131,65,132,262,133,263,349,350,420,470,471,134,264,135,265,195,43,86,137,138,267,351,421,422,292,298,136,266,64,139,268,352,145,144,270,271,354,353,423,269,66,67,140,141,142,68,69,143,146,70,148,147,28,50,103,196,197,198,199,200,104,201,202,205,203,204,206,207,208,209,210,211,51,105,54,52,106,121,237,238,317,370,441,439,487,442,389,443,181,290,101,191,192,363,424,425,472,426,294,295,427,473,474,496,428,429,430,431,291,367,438,486,437,436,99,444,488,499,506,507,516,508,509,517,518,520,510,511,512,513,489,372,371,445,373,446,490,491,500,514,447,482,448,374,449,375,376,318,377,378,319,320,321,379,322,254,341,258,344,212,299,300,365,432,475,476,433,477,434,478,497,479,480,498,504,505,515,519,481,483,484,366,302,435,485,98,213,301,303,368,440,214,304,107,215,305,369,216,217,218,219,306,108,220,221,109,222,223,53,110,224,225,111,226,227,112,228,307,308,229,230,309,231,232,310,311,233,234,312,235,236,313,314,315,316,113,239,323,380,450,324,325,382,383,381,451,452,492,501,240,326,241,327,328,384,453,329,330,385,386,387,246,336,390,455,456,457,458,414,391,392,247,337,393,394,459,460,395,461,462,493,502,338,342,248,339,242,331,289,362,243,332,388,454,114,244,55,115,245,334,333,335,116,249,117,250,251,340,396,397,463,398,399,464,465,494,400,401,402,403,252,118,119,120,253,255,343,404,405,406,256,257,122,259,123,260,345,346,407,261,347,408,409,466,410,411,412,413,467,348,415,416,417,418,419,468,469,495,503,56,124,125,126,45,95,96,179,180,20,46,97,47,48,100,182,188,183,293,184,185,296,297,364,186,187,189,190,21,11,29,72,30,73,74,75,149,78,272,273,274,355,84,150,275,356,276,151,152,153,277,154,76,155,94,156,157,278,158,170,279,159,280,92,160,281,357,165,44,42,161,282,77,162,169,193,194,283,163,164,284,358,79,80,166,167,81,82,83,168,49,102,19]:=by kernel_rfl
theorem uf:Tryz.pinned.checked.prog.unfollowed 6=Rows.calmLinksUptoRow.unfollowed:=by
 unfold Program.unfollowed
 rw [cl]
 kernel_rfl
theorem c3:(Rows.calmLinksUptoRow.inPlace==Tryz.pinned.checked.prog.inPlace 6)=true:=by
 unfold Program.inPlace
 rw [cl]
 kernel_rfl
theorem c4:(Rows.calmLinksUptoRow.unfollowed==Tryz.pinned.checked.prog.unfollowed 6)=true:=by rw [uf];kernel_rfl
theorem c5:(Rows.calmLinksUptoRow.recurses==Tryz.pinned.checked.prog.recurses 6)=true:=by
 unfold Program.recurses
 rw [uf]
 kernel_rfl
theorem c6:(Rows.calmLinksUptoRow.named==Tryz.pinned.checked.prog.varsNamed 6)=true:=by
 unfold Program.varsNamed
 rw [cl]
 kernel_rfl
theorem gs:Tryz.pinned.checked.prog.goes 6=false:=by
 unfold Program.goes
 rw [cl,uf]
 kernel_rfl
theorem nm:Tryz.pinned.checked.prog.funcNamed Rows.calmLinksUptoRow.func=some 6:=by kernel_rfl
theorem gb:false=Rows.calmLinksUptoRow.goesBy Tryz.pinned.checked.prog:=by
 unfold OpenClaim.goesBy Program.goesAt Program.goesFrom
 rw [nm]
 rw [Option.any_some,gs]
 kernel_rfl
end cCalmLinks
end Go.Proofs.YtahgkllhbggmgaaGreatDoor
