import Derived.Test.YtlaogoehmndcjaaGreatDoorZ32
set_option maxRecDepth 100000
set_option linter.unusedVariables false
set_option linter.unusedSectionVars false
set_option linter.unusedSimpArgs false
namespace Go.Proofs.YtlaogoehmndcjaaGreatDoor.Sy
open Go RowKit Lib AS Base Ba
noncomputable section
theorem KA {D:Nat→Value} {j:Nat} {c:Bool} {i:Nat} {b:Bool} (hd:D j =.bool c) (h:rY [(j,c)] i=some b):D i =.bool b:=by
 simp only[rY]at h
 split at h
 ·rename_i he
  cases h
  rw[←Nat.eq_of_beq_eq_true he];exact hd
 ·cases h
theorem AO {a b:Int} (h:a=b):(a==b)=true:=by simp[h]
theorem uh {a b:Int} (h:¬a=b):(a==b)=false:=by simp[h]
theorem Q6 {a b:Int} (h:¬a=b):(a != b)=true:=by simp[h]
theorem AJ {a b:Int} (h:a=b):(a != b)=false:=by simp[h]
abbrev mH:List Nat:=[28,36,43,48,78,79,80,83,94,96,97,98,99,100,103,116,126,130,137,138,139,140,141,142,143,144,145,146,147,148,149,150,151,152,159,166,182,183,184,185,186,187,188,189,190,191,192,194,198,201,218,219,220,221,222,223,224,225,226,227,238,239,240,281,286,287,290,291]
abbrev mG:List Nat:=[1,2,3,4,5,21,23,31,32,34,39,49,51,76,95,126,136,155,158,160,162,167,171,201,203,208,209,227,247,272,293]
abbrev Bh:TypeId×List Value:=(23,dM)
abbrev rF:TypeId×List Value:=(136,[qP 0])
abbrev SG:TypeId×List Value:=(208,[qF 96 [qP 7,qP 8,qP 9]])
abbrev Wl:TypeId×List Value:=(203,zA++[.nilFunc,.iface 171 (qP 0),.nilFunc]++dM++[.pointer none,sym 10,.int .i64 7])
abbrev Wh:TypeId×List Value:=(203,zA++[.nilFunc,.iface 201 (qP 43),.func (.func 99) #[qP 0] #[]]++dM++[qP 43,sym 10,sym 11])
abbrev Ia:TypeId×List Value:=(3,[sym 30])
abbrev ZG:TypeId×List Value:=(203,[iZ,sym 7,iZ,sym 8,sym 9,sZ,.nilFunc,.iface 171 (qP 0),.nilFunc]++dM++[.pointer none,sym 10,sym 11])
abbrev jJ:TypeId×List Value:=(203,[iZ,sym 7,iZ,sym 8,sym 9,sZ,.nilFunc,.iface 201 (qP 1),.func (.func 99) #[qP 0] #[]]++dM++[qP 1,sym 10,sym 11])
abbrev V8:TypeId×List Value:=(247,[.int .i64 2,sym 48,.int .i64 8,sym 45,uZ,sZ,qF 201 [qP 155]]++dM++[sym 40,sym 18,sym 23,sym 28,sym 30,sym 24,.bool true,.bool false,.int .i64 10])
abbrev V7:TypeId×List Value:=(1,[qF 238 [qP 138,qP 139,qP 140,qP 141,qP 142]])
abbrev bU:TypeId×List Value:=(201,[qP 1])
abbrev Ry:TypeId×List Value:=(1,[qF 220 [qP 90,qP 129,qP 92,qP 131,qP 93]])
abbrev qg:TypeId×List Value:=(2,[sym 30])
abbrev Rx:TypeId×List Value:=(247,zA++[.nilFunc]++dM++[sym 17,sym 18,sym 23,sym 28,sym 30,sym 24,.bool true,.bool true,iZ])
abbrev Np:TypeId×List Value:=(1,[qF 238 [qP 32,qP 33,qP 34,qP 35,qP 36]])
abbrev kU:TypeId×List Value:=(3,[sym 23])
abbrev mE:TypeId×List Value:=(162,[sym 24,sym 25,sym 26,uZ])
abbrev mD:TypeId×List Value:=(1,[qF 220 [qP 8,qP 9,qP 10,qP 11,qP 12]])
abbrev lJ:TypeId×List Value:=(3,[sym 27])
abbrev xm:TypeId×List Value:=(32,[sym 28])
abbrev xk:TypeId×List Value:=(21,[sym 29])
abbrev uW:TypeId×List Value:=(1,[qF 218 [qP 13,qP 14,qP 15,qP 16]])
abbrev uV:TypeId×List Value:=(3,[sym 31])
abbrev uU:TypeId×List Value:=(3,[sym 32])
abbrev Rw:TypeId×List Value:=(203,[iZ,sym 7,iZ,sym 8,sym 9,sZ,.nilFunc,.iface 209 (qP 1),.nilFunc]++dM++[qP 2,sym 10,sym 11])
abbrev Wm:TypeId×List Value:=(272,[iZ,sym 12,iZ,sym 13,sym 14,sZ,.nilFunc]++dM++[sym 15,sym 16,.bool false,sym 17])
abbrev pF:TypeId×List Value:=(247,[iZ,sym 18,sym 19,sym 20,sym 21,sym 22,.nilFunc]++dM++[sym 23,sym 24,sym 25,sym 26,sym 27,sym 28,.bool true,.bool true,iZ])
abbrev Rv:TypeId×List Value:=(203,[iZ,sym 7,iZ,sym 8,sym 9,sZ,.nilFunc,.iface 209 (qP 1),.nilFunc]++dM++[qP 4,sym 10,.int .i64 6])
abbrev uT:TypeId×List Value:=(203,[iZ,sym 7,iZ,sym 8,sym 9,sZ,.nilFunc,.iface 209 (qP 1),qF 151 [qP 2,qP 3]]++dM++[qP 4,sym 10,sym 11])
abbrev jM:TypeId×List Value:=(209,[qP 1])
abbrev Nn:TypeId×List Value:=(1,[qF 238 [qP 29,qP 30,qP 31,qP 32,qP 33]])
abbrev zz:TypeId×List Value:=(21,[sym 28])
abbrev xh:TypeId×List Value:=(1,[qF 186 [qP 13]])
abbrev Wj:TypeId×List Value:=(272,[iZ,sym 12,iZ,sym 13,sym 14,sZ,.nilFunc]++dM++[sym 15,sym 16,sym 17,sym 18])
abbrev Wi:TypeId×List Value:=(247,[iZ,sym 19,sym 20,sym 21,sym 22,sym 23,.nilFunc]++dM++[sym 24,sym 25,sym 26,sym 27,sym 28,sym 29,.bool true,.bool true,iZ])
abbrev Ru:TypeId×List Value:=(247,[.int .i64 2,sym 47,.int .i64 8,sym 44,uZ,sZ,qF 201 [qP 135]]++dM++[sym 39,sym 18,sym 19,sym 20,sym 21,sym 22,.bool true,.bool false,.int .i64 10])
abbrev Rt:TypeId×List Value:=(1,[qF 238 [qP 118,qP 119,qP 120,qP 121,qP 122]])
abbrev Rs:TypeId×List Value:=(1,[qF 220 [qP 70,qP 109,qP 72,qP 111,qP 73]])
abbrev Nl:TypeId×List Value:=(1,[qF 218 [qP 11,qP 12,qP 13,qP 14]])
abbrev Rq:TypeId×List Value:=(247,zA++[.nilFunc]++dM++[sym 17,sym 18,sym 19,sym 20,sym 21,sym 22,.bool true,.bool true,iZ])
abbrev We:TypeId×List Value:=(203,[iZ,sym 7,iZ,sym 8,sym 9,sZ,.nilFunc,.iface 201 (qP 1),.nilFunc]++dM++[qP 1,sym 10,sym 11])
abbrev Wd:TypeId×List Value:=(247,[iZ,sym 12,sym 13,sym 14,sym 15,sym 16,.nilFunc]++dM++[sym 17,sym 18,sym 19,sym 20,sym 21,sym 22,.bool true,.bool false,iZ])
abbrev Rp:TypeId×List Value:=(203,[.int .i64 1,sym 7,.int .i64 8,sym 8,sym 9,sZ,qF 166 [qP 1],.iface 171 (qP 0),.nilFunc]++dM++[.pointer none,sym 10,sym 11])
abbrev rT:TypeId×List Value:=(247,[.int .i64 2,sym 12,sym 13,sym 14,sym 15,sym 16,qF 201 [qP 2]]++dM++[sym 17,sym 18,sym 19,sym 20,sym 21,sym 22,.bool true,.bool false,.int .i64 10])
abbrev xg:TypeId×List Value:=(1,[qF 238 [qP 3,qP 4,qP 5,qP 6,qP 7]])
abbrev Ro:TypeId×List Value:=(272,[.int .i64 1,sym 12,.int .i64 8,sym 13,sym 14,sZ,qF 166 [qP 5]]++dM++[sym 15,sym 16,.bool false,sym 17])
def pG:dU:=[Rp,(227,[qF 138 [qP 2,qP 3,qP 4,qP 5]]),(171,[qP 0]),Bh,(208,[qF 96 [qP 6,qP 7,qP 8]]),(2,[sym 12]),rF,Bh,(32,[sym 13])]
def BU (l:Lg) (aO kv kw pos ee y4:Int) (y3:Value):List Value:=iN l++[iL aO,iW kv,iW kw,iL pos,iL ee,iL y4,y3]
def BV:dU:=[(203,[.int .i64 1,sym 7,.int .i64 4,sym 8,sym 9,sZ,qF 166 [qP 1],.iface 171 (qP 0),.nilFunc]++dM++[.pointer none,sym 10,sym 11]),(227,[qF 139 [qP 2,qP 3,qP 4,qP 5,qP 6]]),(171,[qP 0]),Bh,SG,(31,[sym 12]),(2,[sym 13]),rF,Bh,(32,[sym 14])]
def Ns (l:Lg) (aO kv kw pos ee y5 y6:Int) (y3:Value):List Value:=iN l++[iL aO,iW kv,iW kw,iL pos,iL ee,iW y5,iL y6,y3]
def jE:dU:=[Rp,(227,[qF 140 [qP 2,qP 3,qP 4,qP 5,qP 6]]),SG,(155,[sym 12]),Bh,(31,[sym 13]),(2,[sym 14]),rF,Bh,(32,[sym 15])]
def xq (l:Lg) (aO kv kw pos ee y7 y8 y9:Int) (y3:Value):List Value:=iN l++[iL aO,iW kv,iW kw,iL pos,iL ee,iU y7,iW y8,iL y9,y3]
def rW:dU:=[ZG]
def zB (l:Lg) (aO kv kw pos ee:Int):List Value:=iN l++[iL aO,iW kv,iW kw,iL pos,iL ee]
def gy:dU:=[jJ,(247,[.int .i64 3,sym 12,sym 13,sym 14,sym 15,sym 16,qF 184 [qP 2]]++dM++[sym 17,sym 18,sym 19,sym 20,sym 21,sym 22,.bool false,.bool false,.int .i64 10]),(227,[qF 143 [qP 3,qP 4,qP 5]]),kU,(2,[sym 24]),bU]
def rU (l:Lg) (aO kv kw pos ee aG bA bz bu:Int) (gQ:Value) (gU:Value) (gT:Value) (af ay aA aj ya yb:Int):List Value:=iN l++[iL aO,iW kv,iW kw,iL pos,iL ee,iL aG,iL bA,iW bz,iW bu,gQ,gU,gT,iL af,iI ay,iL aA,iL aj,iL ya,iL yb]
def mF:dU:=[jJ,rT,xg,bU,kU,mE,(3,[iZ]),mD,bU,lJ,xm,xk,uW,bU,qg,uV,uU]
def BR (l:Lg) (aO kv kw pos ee aG bA bz bu:Int) (gQ:Value) (gU:Value) (gT:Value) (af ay aA aj yl ym yn yo yc:Int) (yd:Value) (ye y0 y1 y2:Int):List Value:=iN l++[iL aO,iW kv,iW kw,iL pos,iL ee,iL aG,iL bA,iW bz,iW bu,gQ,gU,gT,iL af,iI ay,iL aA,iL aj,iL yl,iW ym,iW yn,iW yo,iL yc,yd,iI ye,iL y0,iL y1,iL y2]
def uX:dU:=[Rw,Wm,pF]
def BQ (l:Lg) (aO kv kw pos ee bq bP bM aN az bD aG bA bz bu:Int) (gQ:Value) (gU:Value) (gT:Value) (af ay aA aj:Int):List Value:=iN l++[iL aO,iW kv,iW kw,iL pos,iL ee,iL bq,iW bP,iW bM,iI aN,iU az,iL bD,iL aG,iL bA,iW bz,iW bu,gQ,gU,gT,iL af,iI ay,iL aA,iL aj]
def xu:dU:=[uT,Ro,jM,rF,pF,(227,[qF 189 [qP 6]]),jM]
def Fb (l:Lg) (aO kv kw pos ee bq bP bM aN az bD aG bA bz bu:Int) (gQ:Value) (gU:Value) (gT:Value) (af ay aA aj:Int):List Value:=iN l++[iL aO,iW kv,iW kw,iL pos,iL ee,iL bq,iW bP,iW bM,iI aN,iU az,iL bD,iL aG,iL bA,iW bz,iW bu,gQ,gU,gT,iL af,iI ay,iL aA,iL aj]
def Fe:dU:=[jJ,rT,xg,bU,kU,mE,(3,[iZ]),mD,bU,lJ,(32,[sZ]),zz,xh,bU]
def Nr (l:Lg) (aO kv kw pos ee aG bA bz bu:Int) (gQ:Value) (gU:Value) (gT:Value) (af ay aA aj yl ym yn yo yc ye:Int):List Value:=iN l++[iL aO,iW kv,iW kw,iL pos,iL ee,iL aG,iL bA,iW bz,iW bu,gQ,gU,gT,iL af,iI ay,iL aA,iL aj,iL yl,iW ym,iW yn,iW yo,iL yc,iI ye]
def zF:dU:=[jJ,rT,xg,bU,kU,mE,(3,[.int .i64 1]),mD,bU,lJ,xm,xk,uW,bU,qg,uV,uU]
def Nq (l:Lg) (aO kv kw pos ee aG bA bz bu:Int) (gQ:Value) (gU:Value) (gT:Value) (af ay aA aj yl ym yn yo yc:Int) (yd:Value) (ye y0 y1 y2:Int):List Value:=iN l++[iL aO,iW kv,iW kw,iL pos,iL ee,iL aG,iL bA,iW bz,iW bu,gQ,gU,gT,iL af,iI ay,iL aA,iL aj,iL yl,iW ym,iW yn,iW yo,iL yc,yd,iI ye,iL y0,iL y1,iL y2]
def qi:dU:=[uT,Ro,jM,rF,pF,(227,[qF 222 [qP 6,qP 7]]),jM,(3,[sym 29])]
def zD (l:Lg) (aO kv kw pos ee bq bP bM aN az bD aG bA bz bu:Int) (gQ:Value) (gU:Value) (gT:Value) (af ay aA aj yh:Int):List Value:=iN l++[iL aO,iW kv,iW kw,iL pos,iL ee,iL bq,iW bP,iW bM,iI aN,iU az,iL bD,iL aG,iL bA,iW bz,iW bu,gQ,gU,gT,iL af,iI ay,iL aA,iL aj,iL yh]
def zI:dU:=[jJ,rT,xg,bU,kU,mE,(3,[.int .i64 1]),mD,bU,lJ,(32,[sZ]),zz,xh,bU]
def Ig (l:Lg) (aO kv kw pos ee aG bA bz bu:Int) (gQ:Value) (gU:Value) (gT:Value) (af ay aA aj yl ym yn yo yc ye:Int):List Value:=iN l++[iL aO,iW kv,iW kw,iL pos,iL ee,iL aG,iL bA,iW bz,iW bu,gQ,gU,gT,iL af,iI ay,iL aA,iL aj,iL yl,iW ym,iW yn,iW yo,iL yc,iI ye]
def sS:dU:=[jJ,rT,xg,bU,kU,mE,(3,[.int .i64 2]),mD,bU,lJ,xm,xk,uW,bU,qg,uV,uU]
def Ie (l:Lg) (aO kv kw pos ee aG bA bz bu:Int) (gQ:Value) (gU:Value) (gT:Value) (af ay aA aj yl ym yn yo yc:Int) (yd:Value) (ye y0 y1 y2:Int):List Value:=iN l++[iL aO,iW kv,iW kw,iL pos,iL ee,iL aG,iL bA,iW bz,iW bu,gQ,gU,gT,iL af,iI ay,iL aA,iL aj,iL yl,iW ym,iW yn,iW yo,iL yc,yd,iI ye,iL y0,iL y1,iL y2]
def sQ:dU:=[uT,(272,[.int .i64 4,sym 12,.int .i64 8,sym 13,sym 14,sZ,qF 240 [qP 5]]++dM++[sym 15,sym 16,.bool false,sym 17]),jM,rF,pF,(293,[qF 225 [qP 6]]),jM]
def Di (l:Lg) (aO kv kw pos ee bq bP bM aN az bD aG bA bz bu:Int) (gQ:Value) (gU:Value) (gT:Value) (af ay aA aj:Int):List Value:=iN l++[iL aO,iW kv,iW kw,iL pos,iL ee,iL bq,iW bP,iW bM,iI aN,iU az,iL bD,iL aG,iL bA,iW bz,iW bu,gQ,gU,gT,iL af,iI ay,iL aA,iL aj]
def wz:dU:=[uT,(272,[.int .i64 4,sym 12,.int .i64 4,sym 13,sym 14,sZ,qF 240 [qP 5]]++dM++[sym 15,sym 16,.bool false,sym 17]),jM,rF,pF,(293,[qF 239 [qP 6]]),jM]
def Dh (l:Lg) (aO kv kw pos ee bq bP bM aN az bD aG bA bz bu:Int) (gQ:Value) (gU:Value) (gT:Value) (af ay aA aj:Int):List Value:=iN l++[iL aO,iW kv,iW kw,iL pos,iL ee,iL bq,iW bP,iW bM,iI aN,iU az,iL bD,iL aG,iL bA,iW bz,iW bu,gQ,gU,gT,iL af,iI ay,iL aA,iL aj]
def zH:dU:=[jJ,rT,xg,bU,kU,mE,(3,[.int .i64 2]),mD,bU,lJ,(32,[sZ]),zz,xh,bU]
def Ic (l:Lg) (aO kv kw pos ee aG bA bz bu:Int) (gQ:Value) (gU:Value) (gT:Value) (af ay aA aj yl ym yn yo yc ye:Int):List Value:=iN l++[iL aO,iW kv,iW kw,iL pos,iL ee,iL aG,iL bA,iW bz,iW bu,gQ,gU,gT,iL af,iI ay,iL aA,iL aj,iL yl,iW ym,iW yn,iW yo,iL yc,iI ye]
def mX:dU:=[jJ,rT,xg,bU,kU,mE,(3,[.int .i64 3]),mD,bU,lJ,xm,xk,uW,bU,qg,uV,uU]
def Dg (l:Lg) (aO kv kw pos ee aG bA bz bu:Int) (gQ:Value) (gU:Value) (gT:Value) (af ay aA aj yl ym yn yo yc:Int) (yd:Value) (ye y0 y1 y2:Int):List Value:=iN l++[iL aO,iW kv,iW kw,iL pos,iL ee,iL aG,iL bA,iW bz,iW bu,gQ,gU,gT,iL af,iI ay,iL aA,iL aj,iL yl,iW ym,iW yn,iW yo,iL yc,yd,iI ye,iL y0,iL y1,iL y2]
def sP:dU:=[Rw,Wj,Wi]
def Df (l:Lg) (aO kv kw pos ee bq bP bM aN az:Int) (rE:Bool) (bD aG bA bz bu:Int) (gQ:Value) (gU:Value) (gT:Value) (af ay aA aj:Int):List Value:=iN l++[iL aO,iW kv,iW kw,iL pos,iL ee,iL bq,iW bP,iW bM,iI aN,iU az,.bool rE,iL bD,iL aG,iL bA,iW bz,iW bu,gQ,gU,gT,iL af,iI ay,iL aA,iL aj]
def zG:dU:=[jJ,rT,xg,bU,kU,mE,(3,[.int .i64 3]),mD,bU,lJ,(32,[sZ]),zz,xh,bU]
def Ib (l:Lg) (aO kv kw pos ee aG bA bz bu:Int) (gQ:Value) (gU:Value) (gT:Value) (af ay aA aj yl ym yn yo yc ye:Int):List Value:=iN l++[iL aO,iW kv,iW kw,iL pos,iL ee,iL aG,iL bA,iW bz,iW bu,gQ,gU,gT,iL af,iI ay,iL aA,iL aj,iL yl,iW ym,iW yn,iW yo,iL yc,iI ye]
def je:dU:=[jJ,rT,(1,[qF 218 [qP 3,qP 4,qP 5,qP 6]]),bU,(2,[sym 23]),(3,[sym 24]),(3,[sym 25])]
def wu (l:Lg) (aO kv kw pos ee aG bA bz bu:Int) (gQ:Value) (gU:Value) (gT:Value) (af ay aA aj y0 y1 y2:Int):List Value:=iN l++[iL aO,iW kv,iW kw,iL pos,iL ee,iL aG,iL bA,iW bz,iW bu,gQ,gU,gT,iL af,iI ay,iL aA,iL aj,iL y0,iL y1,iL y2]
def lK:dU:=[jJ,(247,[.int .i64 6,sym 12,sym 13,sym 14,sym 15,sym 16,qF 227 [qP 2,qP 3,qP 4,qP 5,qP 6]]++dM++[sym 17,sym 18,sym 19,sym 20,sym 21,sym 22,.bool true,.bool false,.int .i64 10]),(171,[qP 1]),kU,(3,[sym 24]),(32,[sym 25]),(1,[qF 221 [qP 7,qP 8,qP 9,qP 10]]),bU,(3,[sym 26]),(21,[sym 27]),Nl,bU,(2,[sym 28]),(3,[sym 29]),Ia]
def zC (l:Lg) (aO kv kw pos ee aG bA bz bu:Int) (gQ:Value) (gU:Value) (gT:Value) (af ay aA aj yi yj:Int) (yk:Value) (yf yg y0 y1 y2:Int):List Value:=iN l++[iL aO,iW kv,iW kw,iL pos,iL ee,iL aG,iL bA,iW bz,iW bu,gQ,gU,gT,iL af,iI ay,iL aA,iL aj,iL yi,iL yj,yk,iL yf,iI yg,iL y0,iL y1,iL y2]
def sM:dU:=[jJ,rT,(1,[qF 186 [qP 3]]),bU]
def De (l:Lg) (aO kv kw pos ee aG bA bz bu:Int) (gQ:Value) (gU:Value) (gT:Value) (af ay aA aj:Int):List Value:=iN l++[iL aO,iW kv,iW kw,iL pos,iL ee,iL aG,iL bA,iW bz,iW bu,gQ,gU,gT,iL af,iI ay,iL aA,iL aj]
def sK:dU:=[We,Wd]
def Dc (l:Lg) (aO kv kw pos ee aG bA bz bu:Int) (gQ:Value) (gU:Value) (gT:Value) (af ay aA aj:Int):List Value:=iN l++[iL aO,iW kv,iW kw,iL pos,iL ee,iL aG,iL bA,iW bz,iW bu,gQ,gU,gT,iL af,iI ay,iL aA,iL aj]
def kH:dU:=[(203,[iZ,sym 7,iZ,sym 8,sym 9,sZ,.nilFunc,.nilIface,.nilFunc]++dM++[.pointer none,sym 10,sym 11])]
def qh (l:Lg) (aO kv kw pos ee:Int):List Value:=iN l++[iL aO,iW kv,iW kw,iL pos,iL ee]
