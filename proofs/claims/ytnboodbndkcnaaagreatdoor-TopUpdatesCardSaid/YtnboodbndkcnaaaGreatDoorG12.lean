import Derived.Test.YtnboodbndkcnaaaGreatDoorCards
import Derived.Test.YtnboodbndkcnaaaGreatDoorTie
import Derived.Test.YtnboodbndkcnaaaGreatDoorG11
set_option linter.all false
set_option maxRecDepth 100000
namespace Go.Proofs.YtnboodbndkcnaaaGreatDoor.topUpdates
section
open Go Go.ChangeShapes Go.WideShapes Go.ChangeAt Go.RowKit Go.Sl Go.R
def mD:List Nat:=[5,6,25,24,47,48,49,85,124,187,186,272,327,328,123,79,115,177,178,116,171,172,262,263,180,182,181,183,120,185,74,73,112,271,206,75,53,184,125,188,189,273,329,336,274,76,330,113,176,114,235,80,310,81,78,100,190,241,77,191,276,291,275,331,333,222,294,335,296,201,193,194,192,277,278,96,126,127,195,240,91,11,39,90,135,196,279,157,242,93,140,139,226,225,297,298,299,337,338,300,256,227,228,229,301,303,302,339,340,352,312,350,343,341,362,342,363,364,383,397,399,230,304,344,305,345,83,122,233,86,128,197,280,146,236,72,129,13,42,43,82,117,118,179,268,326,270,269,119,121,198,281,282,111,110,174,264,267,265,175,266,324,325,361,348,374,375,382,395,396,130,199,283,200,223,292,293,334,133,295,224,21,14,44,84,50,10,9,27,28,52,54,88,55,89,97,98,134,207,287,208,209,210,211,212,220,221,213,289,290,288,215,214,217,216,219,218,36,29,56,12,41,70,71,40,69,108,109,173,57,92,136,137,138,94,95,141,231,232,307,306,346,308,347,365,371,389,366,384,367,385,386,368,387,388,398,369,370,372,373,309,349,142,30,58,65,63,32,64,59,99,143,234,144,145,147,148,156,149,238,239,311,237,151,150,153,152,155,154,60,101,158,159,102,103,160,161,61,104,162,243,313,351,244,314,245,315,353,258,105,163,246,247,248,249,166,253,252,165,251,318,354,376,390,391,355,319,356,357,377,378,392,164,250,317,316,62,106,167,107,168,254,255,321,320,358,379,322,323,359,380,381,393,394,360,169,170,257,259,260,261,31,33,34,35,37,18,66,38,67,68,22,45,7,26,51,87,132,205,131,202,203,204,284,332,286,285,15,8,16,17,23,46]
def cl:Tryz.prog.closure 5=mD:=ZV
def p1:Tryz.prog.inPlace 5=Rows.topUpdatesRow.inPlace:=by unfold Program.inPlace;rw[cl];kernel_rfl
def p2:Tryz.prog.unfollowed 5=true:=by unfold Program.unfollowed;rw[cl];kernel_rfl
def p3:Tryz.prog.recurses 5=true:=by unfold Program.recurses;rw[p2];rfl
def p4:Tryz.prog.varsNamed 5=Rows.topUpdatesRow.named:=by unfold Program.varsNamed;rw[cl];kernel_rfl
def ZpV:joinedFacts Tryz.prog 5 Tryz.f5 (OpenSpec.ofChange Rows.topUpdatesSpec).bare Rows.topUpdatesRow=true:=by unfold joinedFacts;rw[p1,p2,p3,p4];kernel_rfl
def ZfR:Tryz.prog.funcNamed Rows.topUpdatesRow.func=some 5:=ZV
def Zpk:Tryz.prog.goes 5=false:=by unfold Program.goes;rw[cl,p2];kernel_rfl
def Zpj:false=Rows.topUpdatesRow.goesBy Tryz.prog:=by unfold OpenClaim.goesBy Program.goesAt Program.goesFrom;rw[ZfR,Option.any_some,Zpk];rfl
end
end Go.Proofs.YtnboodbndkcnaaaGreatDoor.topUpdates
