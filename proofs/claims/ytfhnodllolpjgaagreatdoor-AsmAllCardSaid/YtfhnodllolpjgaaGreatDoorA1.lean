/- Texts put together. -/
import Derived.Test.YtfhnodllolpjgaaGreatDoorE1
set_option linter.all false
namespace Rv
open Go
set_option maxRecDepth 100000
def K.atA:Fn:=(148,[])
def K.rdA:Fn:=(193,[.cf (148,[])])
def K.wrA:Fn:=(194,[.cf (148,[])])
def K.atB:Fn:=(149,[])
def K.rdB:Fn:=(193,[.cf (149,[])])
def K.wrB:Fn:=(194,[.cf (149,[])])
def K.atC:Fn:=(150,[])
def K.rdC:Fn:=(193,[.cf (150,[])])
def K.wrC:Fn:=(194,[.cf (150,[])])
def K.rdE:Fn:=(195,[.c0 (.cs ([]:Str))])
def K.wrE:Fn:=(197,[.c0 (.cs ([]:Str))])
def K.rdQ:Fn:=(195,[.c0 (.cs ([61]:Str))])
def K.wrQ:Fn:=(197,[.c0 (.cs ([61]:Str))])
def K.rdN:Fn:=(152,[])
def K.wrN:Fn:=(153,[])
abbrev It:=Int×Int×Str×Unit
abbrev Tk:=Int×Int×Str×Int×Unit
abbrev Sn:=Int×Int×Int×Int×Int×Bool×(List It)×Str×Unit
abbrev Ln:=Str×Sn×Unit
abbrev zI:It:=((0:Int),((0:Int),(([]:Str),())))
abbrev zT:Tk:=((0:Int),((0:Int),(([]:Str),((0:Int),()))))
abbrev zL:Ln:=(([]:Str),(((0:Int),((0:Int),((0:Int),((0:Int),((0:Int),(false,([],(([]:Str),())))))))),()))
def L.opsR(k o:Int):List (Fn×Fn×Unit):=
 if k=1 then(if o=0 then[(K.rdA,K.wrA,()),(K.rdC,K.wrC,())] else[(K.rdA,K.wrA,()),(K.rdB,K.wrB,()),(K.rdC,K.wrC,())]) else
 if k=2 then(if o=0 then[(K.rdA,K.wrA,()),(K.rdE,K.wrE,())] else[(K.rdA,K.wrA,()),(K.rdB,K.wrB,()),(K.rdE,K.wrE,())]) else
 if k=3\/k=4 then[(K.rdA,K.wrA,())] else
 if k=5 then[(K.rdA,K.wrA,()),(K.rdB,K.wrB,()),(K.rdE,K.wrE,())] else
 if k=6 then[(K.rdC,K.wrC,())] else
 if k=7\/k=9 then[(K.rdE,K.wrE,())] else
 if k=8 then[(K.rdA,K.wrA,()),(K.rdQ,K.wrQ,())] else
 if k=10 then[(K.rdN,K.wrN,())] else[]
namespace Zdg
def f(n:Nat)(a:Int):Option (Bool×Unit):=
  if(decide ((65:Int)<=a)) then
  (if(decide (a<=(90:Int)))=false then
  (if(decide ((97:Int)<=a)) then
  (if(decide (a<=(122:Int)))=false then(some ((decide (a=(95:Int))),()))
  else(some (true,())))
  else(some ((decide (a=(95:Int))),())))
  else(some (true,())))
  else
  (if(decide ((97:Int)<=a)) then
  (if(decide (a<=(122:Int)))=false then(some ((decide (a=(95:Int))),()))
  else(some (true,())))
  else(some ((decide (a=(95:Int))),())))
def g(a:Int):Option (Bool×Unit):=f (1000+a.toNat) a
end Zdg
namespace Zdr
def f(n:Nat)(a:Int):Option (Bool×Unit):=
  if(decide ((48:Int)<=a)) then(some ((decide (a<=(57:Int))),()))
  else(some (false,()))
def g(a:Int):Option (Bool×Unit):=f (1000+a.toNat) a
end Zdr
namespace Zav
def j3(n:Nat)(rl2:Str->Int->Option (Str×Unit))(a:Str)(b:Int):Option (Str×Unit):=
  rl2 a (IntKind.i64.wrap (b+(1:Int)))
def j4(n:Nat)(a:Str)(b:Int):Option (Str×Unit):=
  if 0<=b/\b<=(a.length:Int) then(some (((a.take ((b).toNat)).drop 0),())) else none
def l2(n:Nat):Nat->Str->Int->Option (Str×Unit)
 |0,_,_=>none
 |m+1,a,b=>
  if(decide (b<(a.length:Int))) then
  (if 0<=b/\b<(a.length:Int) then
  ((Zdg.g (bt a b)).bind fun y1=>
  if y1.1=false then
  (if 0<=b/\b<(a.length:Int) then
  ((Zdr.g (bt a b)).bind fun y2=>
  if y2.1 then(Zav.j3 n (Zav.l2 n m) a b)
  else(Zav.j4 n a b)) else none)
  else(Zav.j3 n (Zav.l2 n m) a b)) else none)
  else(Zav.j4 n a b)
def f(n:Nat)(a:Str):Option (Str×Unit):=
  Zav.l2 n n a (0:Int)
def g(a:Str):Option (Str×Unit):=f (1000+a.length) a
end Zav
namespace Zat
def f(n:Nat)(a:Int):Option (Int×Unit):=
  some ((ay .or .u8 a (32:Int)),())
def g(a:Int):Option (Int×Unit):=f (1000+a.toNat) a
end Zat
namespace Zaa
def j55(n:Nat)(rl36:Int->Bool->Str->Int->Int->Bool->Int->(List Int)->Int->Int->Option (Int×(Option Int)×Unit))(a:Int)(b:Bool)(c:Str)(d:Int)(e:Int)(i:Bool)(j:Int)(k:List Int)(l:Int)(o:Int):Option (Int×(Option Int)×Unit):=
  rl36 a b c d e i j k l (IntKind.i64.wrap (o+(1:Int)))
def j46(n:Nat)(rl36:Int->Bool->Str->Int->Int->Bool->Int->(List Int)->Int->Int->Option (Int×(Option Int)×Unit))(a:Int)(b:Bool)(c:Str)(d:Int)(e:Int)(i:Bool)(j:Int)(k:Int)(l:List Int)(o:Int)(p:Int):Option (Int×(Option Int)×Unit):=
  if(decide ((IntKind.u8.wrap a)<=k)) then(some ((0:Int),(some (2:Int)),()))
  else
  (if(decide (d<=j)) then(some (e,(some (1:Int)),()))
  else
  (if(decide ((IntKind.u64.wrap ((IntKind.u64.wrap (j*(IntKind.u64.wrap a)))+(IntKind.u64.wrap k)))<(IntKind.u64.wrap (j*(IntKind.u64.wrap a)))))=false then
  (if(decide (e<(IntKind.u64.wrap ((IntKind.u64.wrap (j*(IntKind.u64.wrap a)))+(IntKind.u64.wrap k))))) then(some (e,(some (1:Int)),()))
  else
  (Zaa.j55 n rl36 a b c d e i (IntKind.u64.wrap ((IntKind.u64.wrap (j*(IntKind.u64.wrap a)))+(IntKind.u64.wrap k))) l o p))
  else(some (e,(some (1:Int)),()))))
def l36(n:Nat):Nat->Int->Bool->Str->Int->Int->Bool->Int->(List Int)->Int->Int->Option (Int×(Option Int)×Unit)
 |0,_,_,_,_,_,_,_,_,_,_=>none
 |m+1,a,b,c,d,e,i,j,k,l,o=>
  if(decide (o<l)) then
  (if 0<=o/\o<(k.length:Int) then
  (if(decide ((k.getD (o).toNat (0:Int))=(95:Int))) then
  (if b then
  (Zaa.j55 n (Zaa.l36 n m) a b c d e true j k l o)
  else
  (if(decide ((48:Int)<=(k.getD (o).toNat (0:Int)))) then
  (if(decide ((k.getD (o).toNat (0:Int))<=(57:Int))) then
  (Zaa.j46 n (Zaa.l36 n m) a b c d e i j (IntKind.u8.wrap ((k.getD (o).toNat (0:Int))-(48:Int))) k l o)
  else
  ((Zat.g (k.getD (o).toNat (0:Int))).bind fun y1=>
  if(decide ((97:Int)<=y1.1)) then
  ((Zat.g (k.getD (o).toNat (0:Int))).bind fun y2=>
  if(decide (y2.1<=(122:Int))) then
  ((Zat.g (k.getD (o).toNat (0:Int))).bind fun y3=>
  Zaa.j46 n (Zaa.l36 n m) a b c d e i j (IntKind.u8.wrap ((IntKind.u8.wrap (y3.1-(97:Int)))+(10:Int))) k l o)
  else(some ((0:Int),(some (2:Int)),())))
  else(some ((0:Int),(some (2:Int)),()))))
  else
  ((Zat.g (k.getD (o).toNat (0:Int))).bind fun y4=>
  if(decide ((97:Int)<=y4.1)) then
  ((Zat.g (k.getD (o).toNat (0:Int))).bind fun y5=>
  if(decide (y5.1<=(122:Int))) then
  ((Zat.g (k.getD (o).toNat (0:Int))).bind fun y6=>
  Zaa.j46 n (Zaa.l36 n m) a b c d e i j (IntKind.u8.wrap ((IntKind.u8.wrap (y6.1-(97:Int)))+(10:Int))) k l o)
  else(some ((0:Int),(some (2:Int)),())))
  else(some ((0:Int),(some (2:Int)),())))))
  else
  (if(decide ((48:Int)<=(k.getD (o).toNat (0:Int)))) then
  (if(decide ((k.getD (o).toNat (0:Int))<=(57:Int))) then
  (Zaa.j46 n (Zaa.l36 n m) a b c d e i j (IntKind.u8.wrap ((k.getD (o).toNat (0:Int))-(48:Int))) k l o)
  else
  ((Zat.g (k.getD (o).toNat (0:Int))).bind fun y7=>
  if(decide ((97:Int)<=y7.1)) then
  ((Zat.g (k.getD (o).toNat (0:Int))).bind fun y8=>
  if(decide (y8.1<=(122:Int))) then
  ((Zat.g (k.getD (o).toNat (0:Int))).bind fun y9=>
  Zaa.j46 n (Zaa.l36 n m) a b c d e i j (IntKind.u8.wrap ((IntKind.u8.wrap (y9.1-(97:Int)))+(10:Int))) k l o)
  else(some ((0:Int),(some (2:Int)),())))
  else(some ((0:Int),(some (2:Int)),()))))
  else
  ((Zat.g (k.getD (o).toNat (0:Int))).bind fun y10=>
  if(decide ((97:Int)<=y10.1)) then
  ((Zat.g (k.getD (o).toNat (0:Int))).bind fun y11=>
  if(decide (y11.1<=(122:Int))) then
  ((Zat.g (k.getD (o).toNat (0:Int))).bind fun y12=>
  Zaa.j46 n (Zaa.l36 n m) a b c d e i j (IntKind.u8.wrap ((IntKind.u8.wrap (y12.1-(97:Int)))+(10:Int))) k l o)
  else(some ((0:Int),(some (2:Int)),())))
  else(some ((0:Int),(some (2:Int)),()))))) else none)
  else
  (if i then
  ((L.underscoreO c).bind fun y13=>
  if(!y13.1) then(some ((0:Int),(some (2:Int)),()))
  else(some (j,none,())))
  else(some (j,none,())))
def j32(n:Nat)(a:Str)(b:Int)(c:Int)(d:Bool)(e:Str)(i:Int):Option (Int×(Option Int)×Unit):=
  if(IntKind.u64.wrap c)<0 then none else
  (Zaa.l36 n n b d e i (IntKind.u64.wrap ((IntKind.u64.wrap ((1:Int)*2 ^ (min (IntKind.u64.wrap c).toNat IntKind.u64.bits)))-(1:Int))) false (0:Int) (a.map fun b=>(b.toNat:Int)) ((a.map fun b=>(b.toNat:Int)).length:Int) (0:Int))
def j25(n:Nat)(a:Str)(b:Int)(c:Int)(d:Bool)(e:Str):Option (Int×(Option Int)×Unit):=
  if(decide (b=(10:Int))) then
  (Zaa.j32 n a b c d e (1844674407370955162:Int))
  else
  (if(decide (b=(16:Int))) then
  (Zaa.j32 n a b c d e (1152921504606846976:Int))
  else
  (if(IntKind.u64.wrap b)=0 then none else
  (Zaa.j32 n a b c d e (IntKind.u64.wrap ((IntKind.u64.wrap (Int.tdiv (18446744073709551615:Int) (IntKind.u64.wrap b)))+(1:Int))))))
def j21(n:Nat)(a:Str)(b:Int)(c:Int)(d:Bool)(e:Str):Option (Int×(Option Int)×Unit):=
  if(decide (c=(0:Int))) then(Zaa.j25 n a b (64:Int) d e)
  else
  (if(decide (c<(0:Int)))=false then
  (if(decide ((64:Int)<c)) then(some ((0:Int),(some (4:Int)),()))
  else(Zaa.j25 n a b c d e))
  else(some ((0:Int),(some (4:Int)),())))
def j17(n:Nat)(a:Str)(b:Int)(c:Int)(d:Bool)(e:Str):Option (Int×(Option Int)×Unit):=
  if 0<=(2:Int)/\(2:Int)<=(a.length:Int) then
  (Zaa.j21 n ((a.take (((a.length:Int)).toNat)).drop (((2:Int)).toNat)) b c d e) else none
def j20(n:Nat)(a:Str)(b:Int)(c:Int)(d:Bool)(e:Str):Option (Int×(Option Int)×Unit):=
  if 0<=(2:Int)/\(2:Int)<=(a.length:Int) then
  (Zaa.j21 n ((a.take (((a.length:Int)).toNat)).drop (((2:Int)).toNat)) b c d e) else none
def j11(n:Nat)(a:Str)(b:Int)(c:Int)(d:Bool)(e:Str):Option (Int×(Option Int)×Unit):=
  if 0<=(1:Int)/\(1:Int)<=(a.length:Int) then
  (Zaa.j21 n ((a.take (((a.length:Int)).toNat)).drop (((1:Int)).toNat)) b c d e) else none
def j9(n:Nat)(a:Str)(b:Int)(c:Int)(d:Bool)(e:Str):Option (Int×(Option Int)×Unit):=
  if 0<=(0:Int)/\(0:Int)<(a.length:Int) then
  (if(decide ((bt a (0:Int))=(48:Int))) then
  (if(decide ((3:Int)<=(a.length:Int))) then
  (if 0<=(1:Int)/\(1:Int)<(a.length:Int) then
  ((Zat.g (bt a (1:Int))).bind fun y1=>
  if(decide (y1.1=(98:Int))) then
  (if 0<=(2:Int)/\(2:Int)<=(a.length:Int) then
  (Zaa.j21 n ((a.take (((a.length:Int)).toNat)).drop (((2:Int)).toNat)) (2:Int) c d e) else none)
  else
  (if(decide ((3:Int)<=(a.length:Int))) then
  (if 0<=(1:Int)/\(1:Int)<(a.length:Int) then
  ((Zat.g (bt a (1:Int))).bind fun y2=>
  if(decide (y2.1=(111:Int))) then(Zaa.j17 n a (8:Int) c d e)
  else
  (if(decide ((3:Int)<=(a.length:Int))) then
  (if 0<=(1:Int)/\(1:Int)<(a.length:Int) then
  ((Zat.g (bt a (1:Int))).bind fun y3=>
  if(decide (y3.1=(120:Int))) then(Zaa.j20 n a (16:Int) c d e)
  else(Zaa.j11 n a (8:Int) c d e)) else none)
  else(Zaa.j11 n a (8:Int) c d e))) else none)
  else
  (if(decide ((3:Int)<=(a.length:Int))) then
  (if 0<=(1:Int)/\(1:Int)<(a.length:Int) then
  ((Zat.g (bt a (1:Int))).bind fun y4=>
  if(decide (y4.1=(120:Int))) then(Zaa.j20 n a (16:Int) c d e)
  else(Zaa.j11 n a (8:Int) c d e)) else none)
  else(Zaa.j11 n a (8:Int) c d e)))) else none)
  else
  (if(decide ((3:Int)<=(a.length:Int))) then
  (if 0<=(1:Int)/\(1:Int)<(a.length:Int) then
  ((Zat.g (bt a (1:Int))).bind fun y5=>
  if(decide (y5.1=(111:Int))) then(Zaa.j17 n a (8:Int) c d e)
  else
  (if(decide ((3:Int)<=(a.length:Int))) then
  (if 0<=(1:Int)/\(1:Int)<(a.length:Int) then
  ((Zat.g (bt a (1:Int))).bind fun y6=>
  if(decide (y6.1=(120:Int))) then(Zaa.j20 n a (16:Int) c d e)
  else(Zaa.j11 n a (8:Int) c d e)) else none)
  else(Zaa.j11 n a (8:Int) c d e))) else none)
  else
  (if(decide ((3:Int)<=(a.length:Int))) then
  (if 0<=(1:Int)/\(1:Int)<(a.length:Int) then
  ((Zat.g (bt a (1:Int))).bind fun y7=>
  if(decide (y7.1=(120:Int))) then(Zaa.j20 n a (16:Int) c d e)
  else(Zaa.j11 n a (8:Int) c d e)) else none)
  else(Zaa.j11 n a (8:Int) c d e))))
  else(Zaa.j21 n a b c d e)) else none
def f(n:Nat)(a:Str)(b:Int)(c:Int):Option (Int×(Option Int)×Unit):=
  if(decide (a=([]:Str))) then(some ((0:Int),(some (2:Int)),()))
  else
  (if(decide ((2:Int)<=b)) then
  (if(decide (b<=(36:Int))) then
  (Zaa.j21 n a b c (decide (b=(0:Int))) a)
  else
  (if(decide (b=(0:Int))) then
  (Zaa.j9 n a (10:Int) c (decide (b=(0:Int))) a)
  else(some ((0:Int),(some (3:Int)),()))))
  else
  (if(decide (b=(0:Int))) then
  (Zaa.j9 n a (10:Int) c (decide (b=(0:Int))) a)
  else(some ((0:Int),(some (3:Int)),()))))
def g(a:Str)(b:Int)(c:Int):Option (Int×(Option Int)×Unit):=f (1000+a.length+b.toNat+c.toNat) a b c
end Zaa
namespace Zdh
def f(n:Nat)(a:Str)(b:Int)(c:Int):Option (Int×Bool×Unit):=
  (Zaa.g a b c).bind fun y1=>
  if(!y1.2.1.isNone) then
  ((L.toErrorO ([80,97,114,115,101,85,105,110,116]:Str) a b c y1.2.1).bind fun y2=>
  some (y1.1,y2.1,()))
  else(some (y1.1,true,()))
def g(a:Str)(b:Int)(c:Int):Option (Int×Bool×Unit):=f (1000+a.length+b.toNat+c.toNat) a b c
end Zdh
namespace Zch
def j5(n:Nat)(a:Str)(b:Int):Option (Int×Bool×Unit):=
  (L.containsO a ([95]:Str)).bind fun y1=>
  if y1.1 then(some ((0:Int),false,()))
  else
  ((Zdh.g a b (32:Int)).bind fun y2=>
  some ((IntKind.u32.wrap y2.1),y2.2.1,()))
def f(n:Nat)(a:Str):Option (Int×Bool×Unit):=
  if(L.cutIs a ([48,120]:Str)) then
  (Zch.j5 n (L.cutRest a ([48,120]:Str)) (16:Int))
  else(Zch.j5 n a (10:Int))
def g(a:Str):Option (Int×Bool×Unit):=f (1000+a.length) a
end Zch
namespace Zao
def j23(n:Nat)(rg0:Str->(List Tk)->Int->Option ((List Tk)×Int×Unit))(a:Str)(b:List Tk)(c:Int)(d:Int)(e:Int)(i:Str)(j:Int):Option ((List Tk)×Int×Unit):=
  if(b.length+([(d,e,i,j,())]:List Tk).length)*40<=140737488355328/\0<40/\0<4 then
  (rg0 a (b++([(d,e,i,j,())]:List Tk)) (IntKind.i64.wrap (c+(i.length:Int)))) else none
def g0(n:Nat):Nat->Str->(List Tk)->Int->Option ((List Tk)×Int×Unit)
 |0,_,_,_=>none
 |m+1,a,b,c=>
  if(decide ((a.length:Int)<=c))=false then
  (if 0<=c/\c<(a.length:Int) then
  (if(decide ((bt a c)=(59:Int))) then(some (b,(0:Int),()))
  else
  (if 0<=c/\c<(a.length:Int) then
  (if(decide ((bt a c)=(32:Int)))=false then
  (if(decide ((bt a c)=(9:Int))) then((Zao.g0 n m) a b (IntKind.i64.wrap (c+(1:Int))))
  else
  ((Zdg.g (bt a c)).bind fun y1=>
  if y1.1 then
  (if 0<=c/\c<=(a.length:Int) then
  ((Zav.g ((a.take (((a.length:Int)).toNat)).drop ((c).toNat))).bind fun y2=>
  Zao.j23 n (Zao.g0 n m) a b c (1:Int) c y2.1 0) else none)
  else
  ((Zdr.g (bt a c)).bind fun y3=>
  if y3.1 then
  (if 0<=c/\c<=(a.length:Int) then
  ((Zav.g ((a.take (((a.length:Int)).toNat)).drop ((c).toNat))).bind fun y4=>
  (Zch.g y4.1).bind fun y5=>
  if(!y5.2.1) then(some ([],(21:Int),()))
  else
  (Zao.j23 n (Zao.g0 n m) a b c (2:Int) c y4.1 y5.1)) else none)
  else
  (if(decide ((bt a c)=(46:Int))) then
  (if(decide ((IntKind.i64.wrap (c+(1:Int)))<(a.length:Int))) then
  (if 0<=(IntKind.i64.wrap (c+(1:Int)))/\(IntKind.i64.wrap (c+(1:Int)))<(a.length:Int) then
  ((Zdg.g (bt a (IntKind.i64.wrap (c+(1:Int))))).bind fun y6=>
  if y6.1 then
  (if 0<=(IntKind.i64.wrap (c+(1:Int)))/\(IntKind.i64.wrap (c+(1:Int)))<=(a.length:Int) then
  ((Zav.g ((a.take (((a.length:Int)).toNat)).drop (((IntKind.i64.wrap (c+(1:Int)))).toNat))).bind fun y7=>
  Zao.j23 n (Zao.g0 n m) a b (IntKind.i64.wrap (c+(1:Int))) (4:Int) c y7.1 0) else none)
  else
  (if(decide ((0:Int)<=(L.indexByte ([44,58,43,45,42,40,41,61]:Str) (bt a c)))) then
  (if 0<=(IntKind.i64.wrap (c+(1:Int)))/\(IntKind.i64.wrap (c+(1:Int)))<=(a.length:Int) then
  (if 0<=c/\c<=(IntKind.i64.wrap (c+(1:Int))) then
  (Zao.j23 n (Zao.g0 n m) a b c (3:Int) c ((a.take (((IntKind.i64.wrap (c+(1:Int)))).toNat)).drop ((c).toNat)) 0) else none) else none)
  else(some ([],(20:Int),())))) else none)
  else
  (if(decide ((0:Int)<=(L.indexByte ([44,58,43,45,42,40,41,61]:Str) (bt a c)))) then
  (if 0<=(IntKind.i64.wrap (c+(1:Int)))/\(IntKind.i64.wrap (c+(1:Int)))<=(a.length:Int) then
  (if 0<=c/\c<=(IntKind.i64.wrap (c+(1:Int))) then
  (Zao.j23 n (Zao.g0 n m) a b c (3:Int) c ((a.take (((IntKind.i64.wrap (c+(1:Int)))).toNat)).drop ((c).toNat)) 0) else none) else none)
  else(some ([],(20:Int),()))))
  else
  (if(decide ((0:Int)<=(L.indexByte ([44,58,43,45,42,40,41,61]:Str) (bt a c)))) then
  (if 0<=(IntKind.i64.wrap (c+(1:Int)))/\(IntKind.i64.wrap (c+(1:Int)))<=(a.length:Int) then
  (if 0<=c/\c<=(IntKind.i64.wrap (c+(1:Int))) then
  (Zao.j23 n (Zao.g0 n m) a b c (3:Int) c ((a.take (((IntKind.i64.wrap (c+(1:Int)))).toNat)).drop ((c).toNat)) 0) else none) else none)
  else(some ([],(20:Int),())))))))
  else((Zao.g0 n m) a b (IntKind.i64.wrap (c+(1:Int))))) else none)) else none)
  else(some (b,(0:Int),()))
def f(n:Nat)(a:Str):Option ((List Tk)×Int×Unit):=
  Zao.g0 n n a ([]) (0:Int)
def g(a:Str):Option ((List Tk)×Int×Unit):=f (1000+a.length) a
end Zao
namespace Zaf
def j9(n:Nat)(rl4:Str->Int->Int->Option (Bool×Unit))(a:Str)(b:Int)(c:Int):Option (Bool×Unit):=
  rl4 a b (IntKind.i64.wrap (c+(1:Int)))
def l4(n:Nat):Nat->Str->Int->Int->Option (Bool×Unit)
 |0,_,_,_=>none
 |m+1,a,b,c=>
  if(decide (c<b)) then
  (if 0<=c/\c<(a.length:Int) then
  (if(decide ((ay .or .u8 (bt a c) (32:Int))<(97:Int)))=false then
  (if(decide ((122:Int)<(ay .or .u8 (bt a c) (32:Int))))=false then
  (if 0<=c/\c<(a.length:Int) then
  (if(decide ((bt a c)<(65:Int))) then
  (if 0<=c/\c<(a.length:Int) then
  (if(decide ((bt a c)≠(95:Int))) then
  (if 0<=c/\c<(a.length:Int) then
  (if(decide ((bt a c)<(48:Int)))=false then
  (if 0<=c/\c<(a.length:Int) then
  (if(decide ((57:Int)<(bt a c))) then(some (false,()))
  else(Zaf.j9 n (Zaf.l4 n m) a b c)) else none)
  else(some (false,()))) else none)
  else(Zaf.j9 n (Zaf.l4 n m) a b c)) else none)
  else(Zaf.j9 n (Zaf.l4 n m) a b c)) else none)
  else
  (if 0<=c/\c<(a.length:Int) then
  (if(decide ((bt a c)≠(95:Int))) then
  (if 0<=c/\c<(a.length:Int) then
  (if(decide ((bt a c)<(48:Int)))=false then
  (if 0<=c/\c<(a.length:Int) then
  (if(decide ((57:Int)<(bt a c))) then(some (false,()))
  else(Zaf.j9 n (Zaf.l4 n m) a b c)) else none)
  else(some (false,()))) else none)
  else(Zaf.j9 n (Zaf.l4 n m) a b c)) else none))
  else
  (if 0<=c/\c<(a.length:Int) then
  (if(decide ((bt a c)≠(95:Int))) then
  (if 0<=c/\c<(a.length:Int) then
  (if(decide ((bt a c)<(48:Int)))=false then
  (if 0<=c/\c<(a.length:Int) then
  (if(decide ((57:Int)<(bt a c))) then(some (false,()))
  else(Zaf.j9 n (Zaf.l4 n m) a b c)) else none)
  else(some (false,()))) else none)
  else(Zaf.j9 n (Zaf.l4 n m) a b c)) else none)) else none)
  else
  (if 0<=(0:Int)/\(0:Int)<(a.length:Int) then
  (if(decide ((bt a (0:Int))=(82:Int))) then
  (if(decide ((a.length:Int)=(2:Int)))=false then
  (if(decide ((a.length:Int)=(3:Int))) then
  (if 0<=(1:Int)/\(1:Int)<=(a.length:Int) then
  ((L.trimO ((a.take (((a.length:Int)).toNat)).drop (((1:Int)).toNat)) ([48,49,50,51,52,53,54,55,56,57]:Str)).bind fun y1=>
  some ((!(decide (y1.1=([]:Str)))),())) else none)
  else(some (true,())))
  else
  (if 0<=(1:Int)/\(1:Int)<=(a.length:Int) then
  ((L.trimO ((a.take (((a.length:Int)).toNat)).drop (((1:Int)).toNat)) ([48,49,50,51,52,53,54,55,56,57]:Str)).bind fun y2=>
  some ((!(decide (y2.1=([]:Str)))),())) else none))
  else(some (true,()))) else none)
def j3(n:Nat)(a:Str):Option (Bool×Unit):=
  Zaf.l4 n n a (a.length:Int) (0:Int)
def f(n:Nat)(a:Str):Option (Bool×Unit):=
  if(decide (a=([]:Str)))=false then
  (if(decide ((12:Int)<(a.length:Int)))=false then
  (if 0<=(0:Int)/\(0:Int)<(a.length:Int) then
  (if(decide ((48:Int)<=(bt a (0:Int)))) then
  (if 0<=(0:Int)/\(0:Int)<(a.length:Int) then
  (if(decide ((bt a (0:Int))<=(57:Int))) then(some (false,()))
  else(Zaf.j3 n a)) else none)
  else(Zaf.j3 n a)) else none)
  else(some (false,())))
  else(some (false,()))
def g(a:Str):Option (Bool×Unit):=f (1000+a.length) a
end Zaf
namespace Zar
def j21(n:Nat)(a:Bool)(b:Int):Option (Int×(Option Int)×Unit):=
  if a then
  (some ((IntKind.i64.wrap (0-(IntKind.i64.wrap b))),none,()))
  else(some ((IntKind.i64.wrap b),none,()))
def j19(n:Nat)(a:Bool)(b:Int)(c:Int):Option (Int×(Option Int)×Unit):=
  if a then
  (if(decide (c<b)) then
  (some ((IntKind.i64.wrap (0-(IntKind.i64.wrap c))),(some (1:Int)),()))
  else(Zar.j21 n a b))
  else(Zar.j21 n a b)
def j16(n:Nat)(a:Int)(b:Bool)(c:Int):Option (Int×(Option Int)×Unit):=
  if(IntKind.u64.wrap (IntKind.i64.wrap (a-(1:Int))))<0 then none else
  (if(!b) then
  (if(decide ((IntKind.u64.wrap ((1:Int)*2 ^ (min (IntKind.u64.wrap (IntKind.i64.wrap (a-(1:Int)))).toNat IntKind.u64.bits)))<=c)) then
  (some ((IntKind.i64.wrap (IntKind.u64.wrap ((IntKind.u64.wrap ((1:Int)*2 ^ (min (IntKind.u64.wrap (IntKind.i64.wrap (a-(1:Int)))).toNat IntKind.u64.bits)))-(1:Int)))),(some (1:Int)),()))
  else
  (Zar.j19 n b c (IntKind.u64.wrap ((1:Int)*2 ^ (min (IntKind.u64.wrap (IntKind.i64.wrap (a-(1:Int)))).toNat IntKind.u64.bits)))))
  else
  (Zar.j19 n b c (IntKind.u64.wrap ((1:Int)*2 ^ (min (IntKind.u64.wrap (IntKind.i64.wrap (a-(1:Int)))).toNat IntKind.u64.bits)))))
def j14(n:Nat)(a:Int)(b:Bool)(c:Int):Option (Int×(Option Int)×Unit):=
  if(decide (a=(0:Int))) then(Zar.j16 n (64:Int) b c)
  else(Zar.j16 n a b c)
def j10(n:Nat)(a:Str)(b:Int)(c:Int)(d:Bool):Option (Int×(Option Int)×Unit):=
  (Zaa.g a b c).bind fun y1=>
  if(!y1.2.1.isNone) then
  (if(!(decide (y1.2.1=(some (1:Int))))) then(some ((0:Int),y1.2.1,()))
  else(Zar.j14 n c d y1.1))
  else(Zar.j14 n c d y1.1)
def f(n:Nat)(a:Str)(b:Int)(c:Int):Option (Int×(Option Int)×Unit):=
  if(decide (a=([]:Str))) then(some ((0:Int),(some (2:Int)),()))
  else
  (if 0<=(0:Int)/\(0:Int)<(a.length:Int) then
  (if(decide ((bt a (0:Int))=(43:Int))) then
  (if 0<=(1:Int)/\(1:Int)<=(a.length:Int) then
  (Zar.j10 n ((a.take (((a.length:Int)).toNat)).drop (((1:Int)).toNat)) b c false) else none)
  else
  (if(decide ((bt a (0:Int))=(45:Int))) then
  (if 0<=(1:Int)/\(1:Int)<=(a.length:Int) then
  (Zar.j10 n ((a.take (((a.length:Int)).toNat)).drop (((1:Int)).toNat)) b c true) else none)
  else(Zar.j10 n a b c false))) else none)
def g(a:Str)(b:Int)(c:Int):Option (Int×(Option Int)×Unit):=f (1000+a.length+b.toNat+c.toNat) a b c
end Zar
namespace Zaw
def l10(n:Nat):Nat->Str->Int->(List Int)->Int->Int->Option (Int×(Option Int)×Unit)
 |0,_,_,_,_,_=>none
 |m+1,a,b,c,d,e=>
  if(decide (e<d)) then
  (if 0<=e/\e<(c.length:Int) then
  (if(decide ((9:Int)<(IntKind.u8.wrap ((c.getD (e).toNat (0:Int))-(48:Int))))) then(some ((0:Int),(some (2:Int)),()))
  else
  ((Zaw.l10 n m) a (IntKind.i64.wrap ((IntKind.i64.wrap (b*(10:Int)))+(IntKind.i64.wrap (IntKind.u8.wrap ((c.getD (e).toNat (0:Int))-(48:Int)))))) c d (IntKind.i64.wrap (e+(1:Int))))) else none)
  else
  (if 0<=(0:Int)/\(0:Int)<(a.length:Int) then
  (if(decide ((bt a (0:Int))=(45:Int))) then(some ((IntKind.i64.wrap (0-b)),none,()))
  else(some (b,none,()))) else none)
def j8(n:Nat)(a:Str)(b:Str):Option (Int×(Option Int)×Unit):=
  Zaw.l10 n n b (0:Int) (a.map fun b=>(b.toNat:Int)) ((a.map fun b=>(b.toNat:Int)).length:Int) (0:Int)
def j6(n:Nat)(a:Str)(b:Str):Option (Int×(Option Int)×Unit):=
  if(decide ((a.length:Int)<(1:Int))) then(some ((0:Int),(some (2:Int)),()))
  else(Zaw.j8 n a b)
def j20(n:Nat)(a:Str):Option (Int×(Option Int)×Unit):=
  (Zar.g a (10:Int) (0:Int)).bind fun y1=>
  some (y1.1,y1.2.1,())
def f(n:Nat)(a:Str):Option (Int×(Option Int)×Unit):=
  if(decide ((0:Int)<(a.length:Int))) then
  (if(decide ((a.length:Int)<(19:Int))) then
  (if 0<=(0:Int)/\(0:Int)<(a.length:Int) then
  (if(decide ((bt a (0:Int))=(45:Int)))=false then
  (if 0<=(0:Int)/\(0:Int)<(a.length:Int) then
  (if(decide ((bt a (0:Int))=(43:Int))) then
  (if 0<=(1:Int)/\(1:Int)<=(a.length:Int) then
  (Zaw.j6 n ((a.take (((a.length:Int)).toNat)).drop (((1:Int)).toNat)) a) else none)
  else(Zaw.j8 n a a)) else none)
  else
  (if 0<=(1:Int)/\(1:Int)<=(a.length:Int) then
  (Zaw.j6 n ((a.take (((a.length:Int)).toNat)).drop (((1:Int)).toNat)) a) else none)) else none)
  else(Zaw.j20 n a))
  else(Zaw.j20 n a)
def g(a:Str):Option (Int×(Option Int)×Unit):=f (1000+a.length) a
end Zaw
namespace Zeg
def f(n:Nat)(a:Str):Option (Int×Bool×Unit):=
  (Zaw.g a).bind fun y1=>
  if(!y1.2.1.isNone) then
  ((L.toErrorO ([65,116,111,105]:Str) a (0:Int) (0:Int) y1.2.1).bind fun y2=>
  some (y1.1,y2.1,()))
  else(some (y1.1,true,()))
def g(a:Str):Option (Int×Bool×Unit):=f (1000+a.length) a
end Zeg
namespace Zdi
def f(n:Nat)(a:Int):Option (Str×Unit):=
  if(decide (a<(0:Int)))=false then
  (if(decide ((16:Int)<=a)) then(some (([]:Str),()))
  else
  ((L.itoaO a).bind fun y1=>
  if([82]:Str).length+y1.1.length<=9223372036854775807 then(some ((([82]:Str)++y1.1),())) else none))
  else(some (([]:Str),()))
def g(a:Int):Option (Str×Unit):=f (1000+a.toNat) a
end Zdi
namespace Zcu
def f(n:Nat)(a:Str):Option (Int×Bool×Unit):=
  (Zeg.g (L.cutRest a ([82]:Str))).bind fun y2=>
  if(!(L.cutIs a ([82]:Str)))=false then
  (if(!y2.2.1)=false then
  ((Zdi.g y2.1).bind fun y3=>
  if(!(decide (y3.1=a))) then(some ((0:Int),false,()))
  else(some (y2.1,true,())))
  else(some ((0:Int),false,())))
  else(some ((0:Int),false,()))
def g(a:Str):Option (Int×Bool×Unit):=f (1000+a.length) a
end Zcu
namespace Zbj
def f(n:Nat)(a:Int)(b:List Tk)(c:Int)(d:List It)(e:Int):Option ((List Tk)×Int×(List It)×Int×Unit):=
  if(decide (e=(0:Int))) then(some (b,c,d,a,()))
  else(some (b,c,d,e,()))
def g(a:Int)(b:List Tk)(c:Int)(d:List It)(e:Int):Option ((List Tk)×Int×(List It)×Int×Unit):=f (1000+a.toNat+b.length+c.toNat+d.length+e.toNat) a b c d e
end Zbj
namespace Zbr
def f(n:Nat)(a:List Tk)(b:Int)(c:List It)(d:Int):Option (Int×Int×Str×Int×Bool×(List Tk)×Int×(List It)×Int×Unit):=
  if(decide (d≠(0:Int)))=false then
  (if(decide (b<(0:Int)))=false then
  (if(decide ((a.length:Int)<=b)) then(some (0,0,([]:Str),0,false,a,b,c,d,()))
  else
  (if 0<=b/\b<(a.length:Int) then
  (some ((a.getD (b).toNat zT).1,((a.getD (b).toNat zT).2).1,(((a.getD (b).toNat zT).2).2).1,((((a.getD (b).toNat zT).2).2).2).1,true,a,b,c,d,())) else none))
  else(some (0,0,([]:Str),0,false,a,b,c,d,())))
  else(some (0,0,([]:Str),0,false,a,b,c,d,()))
def g(a:List Tk)(b:Int)(c:List It)(d:Int):Option (Int×Int×Str×Int×Bool×(List Tk)×Int×(List It)×Int×Unit):=f (1000+a.length+b.toNat+c.length+d.toNat) a b c d
end Zbr
namespace Zas
def j8(n:Nat)(rl3:Bool->(List Str)->Int->Int->(List Tk)->Int->(List It)->Int->Int->Int->Str->Int->Option (Str×Bool×(List Tk)×Int×(List It)×Int×Unit))(a:Bool)(b:List Str)(c:Int)(d:Int)(e:List Tk)(i:Int)(j:List It)(k:Int)(l:Int)(o:Int)(p:Str)(q:Int):Option (Str×Bool×(List Tk)×Int×(List It)×Int×Unit):=
  rl3 a b c (IntKind.i64.wrap (d+(1:Int))) e i j k l o p q
def l3(n:Nat):Nat->Bool->(List Str)->Int->Int->(List Tk)->Int->(List It)->Int->Int->Int->Str->Int->Option (Str×Bool×(List Tk)×Int×(List It)×Int×Unit)
 |0,_,_,_,_,_,_,_,_,_,_,_,_=>none
 |m+1,a,b,c,d,e,i,j,k,l,o,p,q=>
  if(decide (d<c)) then
  (if 0<=d/\d<(b.length:Int) then
  (if a then
  (if(decide (l=(3:Int))) then
  (if(decide (p=(b.getD (d).toNat ([]:Str)))) then
  (some ((b.getD (d).toNat ([]:Str)),true,e,(IntKind.i64.wrap (i+(1:Int))),j,k,()))
  else
  (Zas.j8 n (Zas.l3 n m) a b c d e i j k l o p q))
  else
  (Zas.j8 n (Zas.l3 n m) a b c d e i j k l o p q))
  else
  (Zas.j8 n (Zas.l3 n m) a b c d e i j k l o p q)) else none)
  else(some (([]:Str),false,e,i,j,k,()))
def f(n:Nat)(a:List Str)(b:List Tk)(c:Int)(d:List It)(e:Int):Option (Str×Bool×(List Tk)×Int×(List It)×Int×Unit):=
  (Zbr.g b c d e).bind fun y1=>
  Zas.l3 n n y1.2.2.2.2.1 a (a.length:Int) (0:Int) y1.2.2.2.2.2.1 y1.2.2.2.2.2.2.1 y1.2.2.2.2.2.2.2.1 y1.2.2.2.2.2.2.2.2.1 y1.1 y1.2.1 y1.2.2.1 y1.2.2.2.1
def g(a:List Str)(b:List Tk)(c:Int)(d:List It)(e:Int):Option (Str×Bool×(List Tk)×Int×(List It)×Int×Unit):=f (1000+a.length+b.length+c.toNat+d.length+e.toNat) a b c d e
end Zas
namespace Zbk
def f(n:Nat)(a:Int)(b:Int)(c:Str)(d:List Tk)(e:Int)(i:List It)(j:Int):Option ((List Tk)×Int×(List It)×Int×Unit):=
  if(i.length+([(a,b,c,())]:List It).length)*32<=140737488355328/\0<32/\0<3 then
  (some (d,e,(i++([(a,b,c,())]:List It)),j,())) else none
def g(a:Int)(b:Int)(c:Str)(d:List Tk)(e:Int)(i:List It)(j:Int):Option ((List Tk)×Int×(List It)×Int×Unit):=f (1000+a.toNat+b.toNat+c.length+d.length+e.toNat+i.length+j.toNat) a b c d e i j
end Zbk
structure aB where
 expr_parser_sum:Int->(List Tk)->Int->(List It)->Int->Option ((List Tk)×Int×(List It)×Int×Unit)
 expr_parser_row_c256:(List Str)->(List Tk)->Int->(List It)->Int->Int->Option ((List Tk)×Int×(List It)×Int×Unit×Int×Unit)
 expr_parser_sum_1:Int->(List Tk)->Int->(List It)->Int->Option (Unit×Int×(List Tk)×Int×(List It)×Int×Unit)
 expr_parser_row_c257:(List Str)->(List Tk)->Int->(List It)->Int->Int->Option ((List Tk)×Int×(List It)×Int×Unit×Int×Unit)
 expr_parser_sum_1_1:Int->(List Tk)->Int->(List It)->Int->Option (Unit×Int×(List Tk)×Int×(List It)×Int×Unit)
 expr_parser_factor:Int->(List Tk)->Int->(List It)->Int->Option ((List Tk)×Int×(List It)×Int×Unit)
namespace expr_parser_sum
def f(n:Nat)(R:aB)(a:Int)(b:List Tk)(c:Int)(d:List It)(e:Int):Option ((List Tk)×Int×(List It)×Int×Unit):=
  (R.expr_parser_row_c256 ([([43]:Str),([45]:Str)]:List Str) b c d e a).bind fun y1=>
  some (y1.1,y1.2.1,y1.2.2.1,y1.2.2.2.1,())
def h(R:aB)(a:Int)(b:List Tk)(c:Int)(d:List It)(e:Int):Option ((List Tk)×Int×(List It)×Int×Unit):=f (1000+a.toNat+b.length+c.toNat+d.length+e.toNat) R a b c d e
end expr_parser_sum
namespace expr_parser_row_c256
def l1(n:Nat)(R:aB):Nat->(List Str)->(List Tk)->Int->(List It)->Int->Int->Option ((List Tk)×Int×(List It)×Int×Unit×Int×Unit)
 |0,_,_,_,_,_,_=>none
 |m+1,a,b,c,d,e,i=>
  (Zas.g a b c d e).bind fun y1=>
  if(!y1.2.1) then
  (some (y1.2.2.1,y1.2.2.2.1,y1.2.2.2.2.1,y1.2.2.2.2.2.1,(),i,()))
  else
  ((R.expr_parser_sum_1 i y1.2.2.1 y1.2.2.2.1 y1.2.2.2.2.1 y1.2.2.2.2.2.1).bind fun y2=>
  (Zbk.g ((L.kinds y1.1).1) 0 ([]:Str) y2.2.2.1 y2.2.2.2.1 y2.2.2.2.2.1 y2.2.2.2.2.2.1).bind fun y3=>
  (expr_parser_row_c256.l1 n R m) a y3.1 y3.2.1 y3.2.2.1 y3.2.2.2.1 y2.2.1)
def f(n:Nat)(R:aB)(a:List Str)(b:List Tk)(c:Int)(d:List It)(e:Int)(i:Int):Option ((List Tk)×Int×(List It)×Int×Unit×Int×Unit):=
  (R.expr_parser_sum_1 i b c d e).bind fun y1=>
  expr_parser_row_c256.l1 n R n a y1.2.2.1 y1.2.2.2.1 y1.2.2.2.2.1 y1.2.2.2.2.2.1 y1.2.1
def h(R:aB)(a:List Str)(b:List Tk)(c:Int)(d:List It)(e:Int)(i:Int):Option ((List Tk)×Int×(List It)×Int×Unit×Int×Unit):=f (1000+a.length+b.length+c.toNat+d.length+e.toNat+i.toNat) R a b c d e i
end expr_parser_row_c256
namespace expr_parser_sum_1
def f(n:Nat)(R:aB)(a:Int)(b:List Tk)(c:Int)(d:List It)(e:Int):Option (Unit×Int×(List Tk)×Int×(List It)×Int×Unit):=
  (R.expr_parser_row_c257 ([([42]:Str)]:List Str) b c d e a).bind fun y1=>
  some ((),y1.2.2.2.2.2.1,y1.1,y1.2.1,y1.2.2.1,y1.2.2.2.1,())
def h(R:aB)(a:Int)(b:List Tk)(c:Int)(d:List It)(e:Int):Option (Unit×Int×(List Tk)×Int×(List It)×Int×Unit):=f (1000+a.toNat+b.length+c.toNat+d.length+e.toNat) R a b c d e
end expr_parser_sum_1
namespace expr_parser_row_c257
def l1(n:Nat)(R:aB):Nat->(List Str)->(List Tk)->Int->(List It)->Int->Int->Option ((List Tk)×Int×(List It)×Int×Unit×Int×Unit)
 |0,_,_,_,_,_,_=>none
 |m+1,a,b,c,d,e,i=>
  (Zas.g a b c d e).bind fun y1=>
  if(!y1.2.1) then
  (some (y1.2.2.1,y1.2.2.2.1,y1.2.2.2.2.1,y1.2.2.2.2.2.1,(),i,()))
  else
  ((R.expr_parser_sum_1_1 i y1.2.2.1 y1.2.2.2.1 y1.2.2.2.2.1 y1.2.2.2.2.2.1).bind fun y2=>
  (Zbk.g ((L.kinds y1.1).1) 0 ([]:Str) y2.2.2.1 y2.2.2.2.1 y2.2.2.2.2.1 y2.2.2.2.2.2.1).bind fun y3=>
  (expr_parser_row_c257.l1 n R m) a y3.1 y3.2.1 y3.2.2.1 y3.2.2.2.1 y2.2.1)
def f(n:Nat)(R:aB)(a:List Str)(b:List Tk)(c:Int)(d:List It)(e:Int)(i:Int):Option ((List Tk)×Int×(List It)×Int×Unit×Int×Unit):=
  (R.expr_parser_sum_1_1 i b c d e).bind fun y1=>
  expr_parser_row_c257.l1 n R n a y1.2.2.1 y1.2.2.2.1 y1.2.2.2.2.1 y1.2.2.2.2.2.1 y1.2.1
def h(R:aB)(a:List Str)(b:List Tk)(c:Int)(d:List It)(e:Int)(i:Int):Option ((List Tk)×Int×(List It)×Int×Unit×Int×Unit):=f (1000+a.length+b.length+c.toNat+d.length+e.toNat+i.toNat) R a b c d e i
end expr_parser_row_c257
namespace expr_parser_sum_1_1
def f(n:Nat)(R:aB)(a:Int)(b:List Tk)(c:Int)(d:List It)(e:Int):Option (Unit×Int×(List Tk)×Int×(List It)×Int×Unit):=
  (R.expr_parser_factor a b c d e).bind fun y1=>
  some ((),a,y1.1,y1.2.1,y1.2.2.1,y1.2.2.2.1,())
def h(R:aB)(a:Int)(b:List Tk)(c:Int)(d:List It)(e:Int):Option (Unit×Int×(List Tk)×Int×(List It)×Int×Unit):=f (1000+a.toNat+b.length+c.toNat+d.length+e.toNat) R a b c d e
end expr_parser_sum_1_1
namespace expr_parser_factor
def j19(n:Nat)(R:aB)(a:List Tk)(b:Int)(c:List It)(d:Int):Option ((List Tk)×Int×(List It)×Int×Unit):=
  some (a,(IntKind.i64.wrap (b+(1:Int))),c,d,())
def f(n:Nat)(R:aB)(a:Int)(b:List Tk)(c:Int)(d:List It)(e:Int):Option ((List Tk)×Int×(List It)×Int×Unit):=
  if(decide (e≠(0:Int))) then(some (b,c,d,e,()))
  else
  (if(decide ((8:Int)<a)) then
  ((Zbj.g (24:Int) b c d e).bind fun y1=>
  some (y1.1,y1.2.1,y1.2.2.1,y1.2.2.2.1,()))
  else
  ((Zas.g ([([45]:Str),([40]:Str)]:List Str) b c d e).bind fun y2=>
  if(decide (y2.1=([45]:Str))) then
  ((R.expr_parser_factor (IntKind.i64.wrap (a+(1:Int))) y2.2.2.1 y2.2.2.2.1 y2.2.2.2.2.1 y2.2.2.2.2.2.1).bind fun y3=>
  (Zbk.g (3:Int) 0 ([]:Str) y3.1 y3.2.1 y3.2.2.1 y3.2.2.2.1).bind fun y4=>
  some (y4.1,y4.2.1,y4.2.2.1,y4.2.2.2.1,()))
  else
  (if(decide (y2.1=([40]:Str))) then
  ((R.expr_parser_sum (IntKind.i64.wrap (a+(1:Int))) y2.2.2.1 y2.2.2.2.1 y2.2.2.2.2.1 y2.2.2.2.2.2.1).bind fun y5=>
  (Zas.g ([([41]:Str)]:List Str) y5.1 y5.2.1 y5.2.2.1 y5.2.2.2.1).bind fun y6=>
  if(!y6.2.1) then
  ((Zbj.g (23:Int) y6.2.2.1 y6.2.2.2.1 y6.2.2.2.2.1 y6.2.2.2.2.2.1).bind fun y7=>
  some (y7.1,y7.2.1,y7.2.2.1,y7.2.2.2.1,()))
  else
  (some (y6.2.2.1,y6.2.2.2.1,y6.2.2.2.2.1,y6.2.2.2.2.2.1,())))
  else
  ((Zbr.g y2.2.2.1 y2.2.2.2.1 y2.2.2.2.2.1 y2.2.2.2.2.2.1).bind fun y8=>
  if y8.2.2.2.2.1 then
  (if(decide (y8.1=(2:Int))) then
  ((Zbk.g (1:Int) y8.2.2.2.1 ([]:Str) y8.2.2.2.2.2.1 y8.2.2.2.2.2.2.1 y8.2.2.2.2.2.2.2.1 y8.2.2.2.2.2.2.2.2.1).bind fun y9=>
  expr_parser_factor.j19 n R y9.1 y9.2.1 y9.2.2.1 y9.2.2.2.1)
  else
  (if y8.2.2.2.2.1 then
  (if(decide (y8.1=(1:Int))) then
  ((Zaf.g y8.2.2.1).bind fun y10=>
  if y10.1 then
  ((Zbk.g (2:Int) 0 y8.2.2.1 y8.2.2.2.2.2.1 y8.2.2.2.2.2.2.1 y8.2.2.2.2.2.2.2.1 y8.2.2.2.2.2.2.2.2.1).bind fun y11=>
  expr_parser_factor.j19 n R y11.1 y11.2.1 y11.2.2.1 y11.2.2.2.1)
  else
  ((Zbj.g (23:Int) y8.2.2.2.2.2.1 y8.2.2.2.2.2.2.1 y8.2.2.2.2.2.2.2.1 y8.2.2.2.2.2.2.2.2.1).bind fun y12=>
  expr_parser_factor.j19 n R y12.1 y12.2.1 y12.2.2.1 y12.2.2.2.1))
  else
  ((Zbj.g (23:Int) y8.2.2.2.2.2.1 y8.2.2.2.2.2.2.1 y8.2.2.2.2.2.2.2.1 y8.2.2.2.2.2.2.2.2.1).bind fun y13=>
  expr_parser_factor.j19 n R y13.1 y13.2.1 y13.2.2.1 y13.2.2.2.1))
  else
  ((Zbj.g (23:Int) y8.2.2.2.2.2.1 y8.2.2.2.2.2.2.1 y8.2.2.2.2.2.2.2.1 y8.2.2.2.2.2.2.2.2.1).bind fun y14=>
  expr_parser_factor.j19 n R y14.1 y14.2.1 y14.2.2.1 y14.2.2.2.1)))
  else
  (if y8.2.2.2.2.1 then
  (if(decide (y8.1=(1:Int))) then
  ((Zaf.g y8.2.2.1).bind fun y15=>
  if y15.1 then
  ((Zbk.g (2:Int) 0 y8.2.2.1 y8.2.2.2.2.2.1 y8.2.2.2.2.2.2.1 y8.2.2.2.2.2.2.2.1 y8.2.2.2.2.2.2.2.2.1).bind fun y16=>
  expr_parser_factor.j19 n R y16.1 y16.2.1 y16.2.2.1 y16.2.2.2.1)
  else
  ((Zbj.g (23:Int) y8.2.2.2.2.2.1 y8.2.2.2.2.2.2.1 y8.2.2.2.2.2.2.2.1 y8.2.2.2.2.2.2.2.2.1).bind fun y17=>
  expr_parser_factor.j19 n R y17.1 y17.2.1 y17.2.2.1 y17.2.2.2.1))
  else
  ((Zbj.g (23:Int) y8.2.2.2.2.2.1 y8.2.2.2.2.2.2.1 y8.2.2.2.2.2.2.2.1 y8.2.2.2.2.2.2.2.2.1).bind fun y18=>
  expr_parser_factor.j19 n R y18.1 y18.2.1 y18.2.2.1 y18.2.2.2.1))
  else
  ((Zbj.g (23:Int) y8.2.2.2.2.2.1 y8.2.2.2.2.2.2.1 y8.2.2.2.2.2.2.2.1 y8.2.2.2.2.2.2.2.2.1).bind fun y19=>
  expr_parser_factor.j19 n R y19.1 y19.2.1 y19.2.2.1 y19.2.2.2.1))))))
def h(R:aB)(a:Int)(b:List Tk)(c:Int)(d:List It)(e:Int):Option ((List Tk)×Int×(List It)×Int×Unit):=f (1000+a.toNat+b.length+c.toNat+d.length+e.toNat) R a b c d e
end expr_parser_factor
def af:Nat->aB
 |0=>⟨fun _ _ _ _ _=>none,fun _ _ _ _ _ _=>none,fun _ _ _ _ _=>none,fun _ _ _ _ _ _=>none,fun _ _ _ _ _=>none,fun _ _ _ _ _=>none⟩
 |q+1=>⟨expr_parser_sum.h (af q),expr_parser_row_c256.h (af q),expr_parser_sum_1.h (af q),expr_parser_row_c257.h (af q),expr_parser_sum_1_1.h (af q),expr_parser_factor.h (af q)⟩
def expr_parser_sum.g(a:Int)(b:List Tk)(c:Int)(d:List It)(e:Int):Option ((List Tk)×Int×(List It)×Int×Unit):=(af (1000+a.toNat+b.length+c.toNat+d.length+e.toNat)).expr_parser_sum a b c d e
def expr_parser_row_c256.g(a:List Str)(b:List Tk)(c:Int)(d:List It)(e:Int)(i:Int):Option ((List Tk)×Int×(List It)×Int×Unit×Int×Unit):=(af (1000+a.length+b.length+c.toNat+d.length+e.toNat+i.toNat)).expr_parser_row_c256 a b c d e i
def expr_parser_sum_1.g(a:Int)(b:List Tk)(c:Int)(d:List It)(e:Int):Option (Unit×Int×(List Tk)×Int×(List It)×Int×Unit):=(af (1000+a.toNat+b.length+c.toNat+d.length+e.toNat)).expr_parser_sum_1 a b c d e
def expr_parser_row_c257.g(a:List Str)(b:List Tk)(c:Int)(d:List It)(e:Int)(i:Int):Option ((List Tk)×Int×(List It)×Int×Unit×Int×Unit):=(af (1000+a.length+b.length+c.toNat+d.length+e.toNat+i.toNat)).expr_parser_row_c257 a b c d e i
def expr_parser_sum_1_1.g(a:Int)(b:List Tk)(c:Int)(d:List It)(e:Int):Option (Unit×Int×(List Tk)×Int×(List It)×Int×Unit):=(af (1000+a.toNat+b.length+c.toNat+d.length+e.toNat)).expr_parser_sum_1_1 a b c d e
def expr_parser_factor.g(a:Int)(b:List Tk)(c:Int)(d:List It)(e:Int):Option ((List Tk)×Int×(List It)×Int×Unit):=(af (1000+a.toNat+b.length+c.toNat+d.length+e.toNat)).expr_parser_factor a b c d e
namespace Zci
def j5(n:Nat)(a:List Tk)(b:Int)(c:List It)(d:Int):Option ((List It)×Int×Int×Unit):=
  if(decide (d≠(0:Int))) then(some ([],(0:Int),d,()))
  else(some (c,b,(0:Int),()))
def f(n:Nat)(a:List Tk)(b:Int):Option ((List It)×Int×Int×Unit):=
  (expr_parser_sum.g (0:Int) a b ([]) 0).bind fun y1=>
  if(decide (y1.2.2.2.1=(0:Int))) then
  (if(decide ((64:Int)<(y1.2.2.1.length:Int))) then(Zci.j5 n y1.1 y1.2.1 y1.2.2.1 (24:Int))
  else(Zci.j5 n y1.1 y1.2.1 y1.2.2.1 y1.2.2.2.1))
  else(Zci.j5 n y1.1 y1.2.1 y1.2.2.1 y1.2.2.2.1)
def g(a:List Tk)(b:Int):Option ((List It)×Int×Int×Unit):=f (1000+a.length+b.toNat) a b
end Zci
namespace Zfa
def f(n:Nat)(a:Str)(b:Int)(c:Str):Option (Bool×Str×Unit):=
  some ((decide (a=c)),c,())
def g(a:Str)(b:Int)(c:Str):Option (Bool×Str×Unit):=f (1000+a.length+b.toNat+c.length) a b c
end Zfa
namespace Zcv
def l2(n:Nat):Nat->(List (Str×Int×Unit))->Int->Int->Str->Option (Int×Str×Unit)
 |0,_,_,_,_=>none
 |m+1,a,b,c,d=>
  if(decide (c<b)) then
  (if 0<=c/\c<(a.length:Int) then
  ((Zfa.g ((a.getD (c).toNat (([]:Str),((0:Int),()))).1) (((a.getD (c).toNat (([]:Str),((0:Int),()))).2).1) d).bind fun y1=>
  if y1.1 then(some (c,y1.2.1,()))
  else
  ((Zcv.l2 n m) a b (IntKind.i64.wrap (c+(1:Int))) y1.2.1)) else none)
  else(some ((-1:Int),d,()))
def f(n:Nat)(a:List (Str×Int×Unit))(b:Str):Option (Int×Str×Unit):=
  Zcv.l2 n n a (a.length:Int) (0:Int) b
def g(a:List (Str×Int×Unit))(b:Str):Option (Int×Str×Unit):=f (1000+a.length+b.length) a b
end Zcv
namespace Zcw
def f(n:Nat)(a:List (Str×Int×Unit))(b:Str):Option (Int×Bool×Unit):=
  (Zcv.g a b).bind fun y1=>
  if(decide (y1.1<(0:Int))) then(some ((0:Int),false,()))
  else
  (if 0<=y1.1/\y1.1<(a.length:Int) then
  (some (((a.getD (y1.1).toNat (([]:Str),((0:Int),()))).2).1,true,())) else none)
def g(a:List (Str×Int×Unit))(b:Str):Option (Int×Bool×Unit):=f (1000+a.length+b.length) a b
end Zcw
namespace Zdj
def j2(n:Nat)(a:Bool)(b:Int)(c:Int)(d:Str):Option (Int×Bool×Unit):=
  if(decide (b=(1:Int))) then(some ((0:Int),(decide (d=([]:Str))),()))
  else
  (if(decide (b=(2:Int))) then
  (if(decide (c=(0:Int))) then
  ((Zaf.g d).bind fun y1=>
  some ((0:Int),y1.1,()))
  else(some ((0:Int),false,())))
  else
  (if(decide (b=(3:Int))) then(some ((1:Int),a,()))
  else
  (if(decide (b=(4:Int))) then
  (if(decide (b=(4:Int))) then(some ((2:Int),a,()))
  else(some ((0:Int),false,())))
  else
  (if(decide (b=(5:Int))) then
  (if(decide (b=(5:Int))) then(some ((2:Int),a,()))
  else(some ((0:Int),false,())))
  else
  (if(decide (b=(6:Int))) then(some ((2:Int),a,()))
  else(some ((0:Int),false,())))))))
def f(n:Nat)(a:Int)(b:Int)(c:Str):Option (Int×Bool×Unit):=
  if(decide (b=(0:Int))) then(Zdj.j2 n (decide (c=([]:Str))) a b c)
  else(Zdj.j2 n false a b c)
def g(a:Int)(b:Int)(c:Str):Option (Int×Bool×Unit):=f (1000+a.toNat+b.toNat+c.length) a b c
end Zdj
namespace Zcr
def l3(n:Nat):Nat->(List It)->Int->(List It)->Int->Int->Option (Bool×Unit)
 |0,_,_,_,_,_=>none
 |m+1,a,b,c,d,e=>
  if(decide (e<d)) then
  (if 0<=e/\e<(c.length:Int) then
  ((Zdj.g ((c.getD (e).toNat zI).1) (((c.getD (e).toNat zI).2).1) ((((c.getD (e).toNat zI).2).2).1)).bind fun y1=>
  if(!y1.2.1)=false then
  (if(decide (b<y1.1)) then(some (false,()))
  else
  ((Zcr.l3 n m) a (IntKind.i64.wrap (b+(IntKind.i64.wrap ((1:Int)-y1.1)))) c d (IntKind.i64.wrap (e+(1:Int)))))
  else(some (false,()))) else none)
  else
  (if(decide (b=(1:Int))) then(some ((decide ((a.length:Int)<=(64:Int))),()))
  else(some (false,())))
def f(n:Nat)(a:List It):Option (Bool×Unit):=
  Zcr.l3 n n a (0:Int) a (a.length:Int) (0:Int)
def g(a:List It):Option (Bool×Unit):=f (1000+a.length) a
end Zcr
namespace Zcc
def f(n:Nat)(a:List (Int×Int×Unit)):Option (Int×Int×(List (Int×Int×Unit))×Unit):=
  if 0<=(IntKind.i64.wrap ((a.length:Int)-(1:Int)))/\(IntKind.i64.wrap ((a.length:Int)-(1:Int)))<(a.length:Int) then
  (if 0<=(IntKind.i64.wrap ((a.length:Int)-(1:Int)))/\(IntKind.i64.wrap ((a.length:Int)-(1:Int)))<=(a.length:Int) then
  (some ((a.getD ((IntKind.i64.wrap ((a.length:Int)-(1:Int)))).toNat ((0:Int),((0:Int),()))).1,((a.getD ((IntKind.i64.wrap ((a.length:Int)-(1:Int)))).toNat ((0:Int),((0:Int),()))).2).1,(a.take ((IntKind.i64.wrap ((a.length:Int)-(1:Int)))).toNat),())) else none) else none
def g(a:List (Int×Int×Unit)):Option (Int×Int×(List (Int×Int×Unit))×Unit):=f (1000+a.length) a
end Zcc
namespace Zea
def f(n:Nat)(a:Int)(b:Int)(c:Int):Option (Int×Int×Unit):=
  some ((IntKind.u32.wrap ((IntKind.u32.wrap c)*a)),(IntKind.i64.wrap (c*b)),())
def g(a:Int)(b:Int)(c:Int):Option (Int×Int×Unit):=f (1000+a.toNat+b.toNat+c.toNat) a b c
end Zea
namespace Zfb
def f(n:Nat)(a:Int)(b:Int)(c:Int)(d:Int):Option (Int×Int×Unit):=
  some ((IntKind.u32.wrap (a+c)),(IntKind.i64.wrap (b+d)),())
def g(a:Int)(b:Int)(c:Int)(d:Int):Option (Int×Int×Unit):=f (1000+a.toNat+b.toNat+c.toNat+d.toNat) a b c d
end Zfb
namespace Zam
def j27(n:Nat)(rl5:(List (Str×Int×Unit))->(List It)->Int->Int->Int->Int->(List (Int×Int×Unit))->Option (Int×Int×Int×Unit))(a:List (Str×Int×Unit))(b:List It)(c:Int)(d:Int)(e:Int)(i:Int)(j:List (Int×Int×Unit))(k:Int)(l:Int):Option (Int×Int×Int×Unit):=
  if(j.length+([(k,l,())]:List (Int×Int×Unit)).length)*16<=140737488355328/\0<16/\0<2 then
  (rl5 a b c (IntKind.i64.wrap (d+(1:Int))) e i (j++([(k,l,())]:List (Int×Int×Unit)))) else none
def l5(n:Nat):Nat->(List (Str×Int×Unit))->(List It)->Int->Int->Int->Int->(List (Int×Int×Unit))->Option (Int×Int×Int×Unit)
 |0,_,_,_,_,_,_,_=>none
 |m+1,a,b,c,d,e,i,j=>
  if(decide (d<c)) then
  (if 0<=d/\d<(b.length:Int) then
  (if(decide ((b.getD (d).toNat zI).1=(2:Int))) then
  ((Zcw.g a ((((b.getD (d).toNat zI).2).2).1)).bind fun y1=>
  if(!y1.2.1) then(some (0,0,(25:Int),()))
  else
  (Zam.j27 n (Zam.l5 n m) a b c d e i j (IntKind.u32.wrap y1.1) (1:Int)))
  else
  (if(decide ((b.getD (d).toNat zI).1=(3:Int))) then
  ((Zcc.g j).bind fun y2=>
  (Zea.g y2.1 y2.2.1 (-1:Int)).bind fun y3=>
  Zam.j27 n (Zam.l5 n m) a b c d e i y2.2.2.1 y3.1 y3.2.1)
  else
  (if(decide ((b.getD (d).toNat zI).1=(4:Int))) then
  ((Zcc.g j).bind fun y4=>
  (Zcc.g y4.2.2.1).bind fun y5=>
  (Zfb.g y4.1 y4.2.1 y5.1 y5.2.1).bind fun y6=>
  Zam.j27 n (Zam.l5 n m) a b c d e i y5.2.2.1 y6.1 y6.2.1)
  else
  (if(decide ((b.getD (d).toNat zI).1=(5:Int))) then
  ((Zcc.g j).bind fun y7=>
  (Zcc.g y7.2.2.1).bind fun y8=>
  (Zea.g y7.1 y7.2.1 (-1:Int)).bind fun y9=>
  (Zfb.g y8.1 y8.2.1 y9.1 y9.2.1).bind fun y10=>
  Zam.j27 n (Zam.l5 n m) a b c d e i y8.2.2.1 y10.1 y10.2.1)
  else
  (if(decide ((b.getD (d).toNat zI).1=(6:Int))) then
  ((Zcc.g j).bind fun y11=>
  (Zcc.g y11.2.2.1).bind fun y12=>
  if(!(decide (y11.1=y11.1)&&(decide (y11.2.1=0)&&true)))=false then
  (if(!(decide (y12.1=y12.1)&&(decide (y12.2.1=0)&&true))) then(some (0,0,(27:Int),()))
  else
  (Zam.j27 n (Zam.l5 n m) a b c d e i y12.2.2.1 (IntKind.u32.wrap (y11.1*y12.1)) 0))
  else(some (0,0,(27:Int),())))
  else
  (Zam.j27 n (Zam.l5 n m) a b c d e i j (((b.getD (d).toNat zI).2).1) 0)))))) else none)
  else
  ((Zcc.g j).bind fun y13=>
  some (y13.1,y13.2.1,(0:Int),()))
def f(n:Nat)(a:List It)(b:List (Str×Int×Unit)):Option (Int×Int×Int×Unit):=
  (Zcr.g a).bind fun y1=>
  if(!y1.1) then(some (0,0,(23:Int),()))
  else(Zam.l5 n n b a (a.length:Int) (0:Int) 0 0 ([]))
def g(a:List It)(b:List (Str×Int×Unit)):Option (Int×Int×Int×Unit):=f (1000+a.length+b.length) a b
end Zam
namespace Zax
def j11(n:Nat)(rl7:Int->Int->Int->Int->Int->Option (Int×Int×Unit))(a:Int)(b:Int)(c:Int)(d:Int)(e:Int):Option (Int×Int×Unit):=
  rl7 a b c d (IntKind.i64.wrap (e+(1:Int)))
def l7(n:Nat):Nat->Int->Int->Int->Int->Int->Option (Int×Int×Unit)
 |0,_,_,_,_,_=>none
 |m+1,a,b,c,d,e=>
  if(decide (e<(2:Int))) then
  (if 0<=e/\e<(2:Int) then
  (if(decide (a<=([c,d].getD (e).toNat 0))) then
  (if(decide (([c,d].getD (e).toNat 0)<=b)) then(some (([c,d].getD (e).toNat 0),(0:Int),()))
  else(Zax.j11 n (Zax.l7 n m) a b c d e))
  else(Zax.j11 n (Zax.l7 n m) a b c d e)) else none)
  else(some ((0:Int),(28:Int),()))
def f(n:Nat)(a:List It)(b:List (Str×Int×Unit))(c:Int)(d:Int):Option (Int×Int×Unit):=
  (Zam.g a b).bind fun y1=>
  if(decide (y1.2.2.1≠(0:Int))) then(some ((0:Int),y1.2.2.1,()))
  else
  (if(decide (y1.2.1≠(0:Int))) then(some ((0:Int),(27:Int),()))
  else
  (Zax.l7 n n c d (IntKind.i64.wrap (IntKind.i32.wrap y1.1)) (IntKind.i64.wrap y1.1) (0:Int)))
def g(a:List It)(b:List (Str×Int×Unit))(c:Int)(d:Int):Option (Int×Int×Unit):=f (1000+a.length+b.length+c.toNat+d.toNat) a b c d
end Zax
namespace Zdk
def f(n:Nat)(a:Int):Option (Bool×Unit):=
  if(decide ((65:Int)<=a)) then
  (if(decide (a<=(90:Int)))=false then
  (if(decide ((97:Int)<=a)) then
  (if(decide (a<=(122:Int)))=false then(some ((decide (a=(95:Int))),()))
  else(some (true,())))
  else(some ((decide (a=(95:Int))),())))
  else(some (true,())))
  else
  (if(decide ((97:Int)<=a)) then
  (if(decide (a<=(122:Int)))=false then(some ((decide (a=(95:Int))),()))
  else(some (true,())))
  else(some ((decide (a=(95:Int))),())))
def g(a:Int):Option (Bool×Unit):=f (1000+a.toNat) a
end Zdk
namespace Zcx
def f(n:Nat)(a:Int):Option (Bool×Unit):=
  if(decide ((48:Int)<=a)) then(some ((decide (a<=(57:Int))),()))
  else(some (false,()))
def g(a:Int):Option (Bool×Unit):=f (1000+a.toNat) a
end Zcx
namespace Zbo
def j3(n:Nat)(rl2:Str->Int->Option (Int×Unit))(a:Str)(b:Int):Option (Int×Unit):=
  rl2 a (IntKind.i64.wrap (b+(1:Int)))
def l2(n:Nat):Nat->Str->Int->Option (Int×Unit)
 |0,_,_=>none
 |m+1,a,b=>
  if(decide (b<(a.length:Int))) then
  (if 0<=b/\b<(a.length:Int) then
  ((Zdk.g (bt a b)).bind fun y1=>
  if y1.1=false then
  (if 0<=b/\b<(a.length:Int) then
  ((Zcx.g (bt a b)).bind fun y2=>
  if y2.1 then(Zbo.j3 n (Zbo.l2 n m) a b)
  else(some (b,()))) else none)
  else(Zbo.j3 n (Zbo.l2 n m) a b)) else none)
  else(some (b,()))
def f(n:Nat)(a:Str):Option (Int×Unit):=
  Zbo.l2 n n a (0:Int)
def g(a:Str):Option (Int×Unit):=f (1000+a.length) a
end Zbo
namespace Zfc
def f(n:Nat)(a:Int):Option (Int×Bool×Unit):=
  (Zcx.g a).bind fun y1=>
  if y1.1 then
  (some ((IntKind.i64.wrap (IntKind.u8.wrap (a-(48:Int)))),true,()))
  else
  (if(decide ((65:Int)<=a)) then
  (if(decide (a<=(70:Int))) then
  (some ((IntKind.i64.wrap ((IntKind.i64.wrap (IntKind.u8.wrap (a-(65:Int))))+(10:Int))),true,()))
  else
  (if(decide ((97:Int)<=a)) then
  (if(decide (a<=(102:Int))) then
  (some ((IntKind.i64.wrap ((IntKind.i64.wrap (IntKind.u8.wrap (a-(97:Int))))+(10:Int))),true,()))
  else(some ((0:Int),false,())))
  else(some ((0:Int),false,()))))
  else
  (if(decide ((97:Int)<=a)) then
  (if(decide (a<=(102:Int))) then
  (some ((IntKind.i64.wrap ((IntKind.i64.wrap (IntKind.u8.wrap (a-(97:Int))))+(10:Int))),true,()))
  else(some ((0:Int),false,())))
  else(some ((0:Int),false,()))))
def g(a:Int):Option (Int×Bool×Unit):=f (1000+a.toNat) a
end Zfc
namespace Zbp
def l8(n:Nat):Nat->Str->Int->Int->Int->Option (Int×Bool×Unit)
 |0,_,_,_,_=>none
 |m+1,a,b,c,d=>
  if(decide (d<(a.length:Int))) then
  (if 0<=d/\d<(a.length:Int) then
  ((Zfc.g (bt a d)).bind fun y1=>
  if(!y1.2.1)=false then
  (if(decide (b<=y1.1)) then(some ((0:Int),false,()))
  else
  (if(decide ((4294967296:Int)<=(IntKind.i64.wrap ((IntKind.i64.wrap (c*b))+y1.1)))) then(some ((0:Int),false,()))
  else
  ((Zbp.l8 n m) a b (IntKind.i64.wrap ((IntKind.i64.wrap (c*b))+y1.1)) (IntKind.i64.wrap (d+(1:Int))))))
  else(some ((0:Int),false,()))) else none)
  else(some ((IntKind.u32.wrap c),true,()))
def j6(n:Nat)(a:Str)(b:Int)(c:Int):Option (Int×Bool×Unit):=
  Zbp.l8 n n a b (0:Int) c
def f(n:Nat)(a:Str):Option (Int×Bool×Unit):=
  if(decide ((2:Int)<(a.length:Int))) then
  (if 0<=(0:Int)/\(0:Int)<(a.length:Int) then
  (if(decide ((bt a (0:Int))=(48:Int))) then
  (if 0<=(1:Int)/\(1:Int)<(a.length:Int) then
  (if(decide ((bt a (1:Int))=(120:Int))) then(Zbp.j6 n a (16:Int) (2:Int))
  else(Zbp.j6 n a (10:Int) (0:Int))) else none)
  else(Zbp.j6 n a (10:Int) (0:Int))) else none)
  else(Zbp.j6 n a (10:Int) (0:Int))
def g(a:Str):Option (Int×Bool×Unit):=f (1000+a.length) a
end Zbp
namespace Zdl
def l3(n:Nat):Nat->Int->Str->Int->Option (Bool×Unit)
 |0,_,_,_=>none
 |m+1,a,b,c=>
  if(decide (c<(b.length:Int))) then
  (if 0<=c/\c<(b.length:Int) then
  (if(decide ((bt b c)=a)) then(some (true,()))
  else
  ((Zdl.l3 n m) a b (IntKind.i64.wrap (c+(1:Int))))) else none)
  else(some (false,()))
def f(n:Nat)(a:Int):Option (Bool×Unit):=
  Zdl.l3 n n a ([44,58,43,45,42,40,41,61]:Str) (0:Int)
def g(a:Int):Option (Bool×Unit):=f (1000+a.toNat) a
end Zdl
namespace Zai
def j26(n:Nat)(rl3:Str->(List Tk)->Int->Option ((List Tk)×Int×Unit))(a:Str)(b:List Tk)(c:Int)(d:Int)(e:Int)(i:Str)(j:Int):Option ((List Tk)×Int×Unit):=
  if(b.length+([(d,e,i,j,())]:List Tk).length)*40<=140737488355328/\0<40/\0<4 then
  (rl3 a (b++([(d,e,i,j,())]:List Tk)) (IntKind.i64.wrap (c+(i.length:Int)))) else none
def j25(n:Nat)(rl3:Str->(List Tk)->Int->Option ((List Tk)×Int×Unit))(a:Str)(b:List Tk)(c:Int)(d:Int)(e:Int)(i:Str)(j:Int):Option ((List Tk)×Int×Unit):=
  if 0<=(IntKind.i64.wrap (c+(1:Int)))/\(IntKind.i64.wrap (c+(1:Int)))<=(a.length:Int) then
  (if 0<=c/\c<=(IntKind.i64.wrap (c+(1:Int))) then
  (Zai.j26 n rl3 a b c d e ((a.take (((IntKind.i64.wrap (c+(1:Int)))).toNat)).drop ((c).toNat)) j) else none) else none
def l3(n:Nat):Nat->Str->(List Tk)->Int->Option ((List Tk)×Int×Unit)
 |0,_,_,_=>none
 |m+1,a,b,c=>
  if(decide (c<(a.length:Int))) then
  (if 0<=c/\c<(a.length:Int) then
  (if(decide ((bt a c)≠(59:Int))) then
  (if 0<=c/\c<(a.length:Int) then
  (if(decide ((bt a c)=(32:Int)))=false then
  (if(decide ((bt a c)=(9:Int))) then
  ((Zai.l3 n m) a b (IntKind.i64.wrap (c+(1:Int))))
  else
  ((Zdk.g (bt a c)).bind fun y1=>
  if y1.1 then
  (if 0<=c/\c<=(a.length:Int) then
  ((Zbo.g ((a.take (((a.length:Int)).toNat)).drop ((c).toNat))).bind fun y2=>
  if 0<=(IntKind.i64.wrap (c+y2.1))/\(IntKind.i64.wrap (c+y2.1))<=(a.length:Int) then
  (if 0<=c/\c<=(IntKind.i64.wrap (c+y2.1)) then
  (Zai.j26 n (Zai.l3 n m) a b c (1:Int) c ((a.take (((IntKind.i64.wrap (c+y2.1))).toNat)).drop ((c).toNat)) 0) else none) else none) else none)
  else
  ((Zcx.g (bt a c)).bind fun y3=>
  if y3.1 then
  (if 0<=c/\c<=(a.length:Int) then
  ((Zbo.g ((a.take (((a.length:Int)).toNat)).drop ((c).toNat))).bind fun y4=>
  if 0<=(IntKind.i64.wrap (c+y4.1))/\(IntKind.i64.wrap (c+y4.1))<=(a.length:Int) then
  (if 0<=c/\c<=(IntKind.i64.wrap (c+y4.1)) then
  ((Zbp.g ((a.take (((IntKind.i64.wrap (c+y4.1))).toNat)).drop ((c).toNat))).bind fun y5=>
  if(!y5.2.1) then(some ([],(21:Int),()))
  else
  (Zai.j26 n (Zai.l3 n m) a b c (2:Int) c ((a.take (((IntKind.i64.wrap (c+y4.1))).toNat)).drop ((c).toNat)) y5.1)) else none) else none) else none)
  else
  (if(decide ((bt a c)=(46:Int))) then
  (if(decide ((IntKind.i64.wrap (c+(1:Int)))<(a.length:Int))) then
  (if 0<=(IntKind.i64.wrap (c+(1:Int)))/\(IntKind.i64.wrap (c+(1:Int)))<(a.length:Int) then
  ((Zdk.g (bt a (IntKind.i64.wrap (c+(1:Int))))).bind fun y6=>
  if y6.1 then
  (if 0<=(IntKind.i64.wrap (c+(1:Int)))/\(IntKind.i64.wrap (c+(1:Int)))<=(a.length:Int) then
  ((Zbo.g ((a.take (((a.length:Int)).toNat)).drop (((IntKind.i64.wrap (c+(1:Int)))).toNat))).bind fun y7=>
  if 0<=(IntKind.i64.wrap ((IntKind.i64.wrap (c+(1:Int)))+y7.1))/\(IntKind.i64.wrap ((IntKind.i64.wrap (c+(1:Int)))+y7.1))<=(a.length:Int) then
  (if 0<=(IntKind.i64.wrap (c+(1:Int)))/\(IntKind.i64.wrap (c+(1:Int)))<=(IntKind.i64.wrap ((IntKind.i64.wrap (c+(1:Int)))+y7.1)) then
  (Zai.j26 n (Zai.l3 n m) a b (IntKind.i64.wrap (c+(1:Int))) (4:Int) c ((a.take (((IntKind.i64.wrap ((IntKind.i64.wrap (c+(1:Int)))+y7.1))).toNat)).drop (((IntKind.i64.wrap (c+(1:Int)))).toNat)) 0) else none) else none) else none)
  else
  ((Zdl.g (bt a c)).bind fun y8=>
  if y8.1 then
  (Zai.j25 n (Zai.l3 n m) a b c (3:Int) c ([]:Str) 0)
  else(some ([],(20:Int),())))) else none)
  else
  ((Zdl.g (bt a c)).bind fun y9=>
  if y9.1 then
  (Zai.j25 n (Zai.l3 n m) a b c (3:Int) c ([]:Str) 0)
  else(some ([],(20:Int),()))))
  else
  ((Zdl.g (bt a c)).bind fun y10=>
  if y10.1 then
  (Zai.j25 n (Zai.l3 n m) a b c (3:Int) c ([]:Str) 0)
  else(some ([],(20:Int),())))))))
  else
  ((Zai.l3 n m) a b (IntKind.i64.wrap (c+(1:Int))))) else none)
  else(some (b,(0:Int),()))) else none)
  else(some (b,(0:Int),()))
def f(n:Nat)(a:Str):Option ((List Tk)×Int×Unit):=
  Zai.l3 n n a ([]:List Tk) (0:Int)
def g(a:Str):Option ((List Tk)×Int×Unit):=f (1000+a.length) a
end Zai
namespace Zeb
def f(n:Nat)(a:Int):Option (Bool×Unit):=
  if(decide ((65:Int)<=a)) then
  (if(decide (a<=(90:Int)))=false then
  (if(decide ((97:Int)<=a)) then(some ((decide (a<=(122:Int))),()))
  else(some (false,())))
  else(some (true,())))
  else
  (if(decide ((97:Int)<=a)) then(some ((decide (a<=(122:Int))),()))
  else(some (false,())))
def g(a:Int):Option (Bool×Unit):=f (1000+a.toNat) a
end Zeb
namespace Zdm
def f(n:Nat)(a:Int):Option (Bool×Unit):=
  if(decide ((48:Int)<=a)) then(some ((decide (a<=(57:Int))),()))
  else(some (false,()))
def g(a:Int):Option (Bool×Unit):=f (1000+a.toNat) a
end Zdm
namespace Zeh
def f(n:Nat)(a:Str):Option (Bool×Unit):=
  if(decide ((a.length:Int)<(2:Int)))=false then
  (if(decide ((3:Int)<(a.length:Int)))=false then
  (if 0<=(0:Int)/\(0:Int)<(a.length:Int) then
  (if(decide ((bt a (0:Int))≠(82:Int))) then(some (false,()))
  else
  (if 0<=(1:Int)/\(1:Int)<(a.length:Int) then
  ((Zdm.g (bt a (1:Int))).bind fun y1=>
  if y1.1 then
  (if(decide ((a.length:Int)=(2:Int)))=false then
  (if 0<=(2:Int)/\(2:Int)<(a.length:Int) then
  ((Zdm.g (bt a (2:Int))).bind fun y2=>
  some (y2.1,())) else none)
  else(some (true,())))
  else(some (false,()))) else none)) else none)
  else(some (false,())))
  else(some (false,()))
def g(a:Str):Option (Bool×Unit):=f (1000+a.length) a
end Zeh
namespace Zaz
def j5(n:Nat)(rl4:Str->Int->Option (Bool×Unit))(a:Str)(b:Int):Option (Bool×Unit):=
  rl4 a (IntKind.i64.wrap (b+(1:Int)))
def l4(n:Nat):Nat->Str->Int->Option (Bool×Unit)
 |0,_,_=>none
 |m+1,a,b=>
  if(decide (b<(a.length:Int))) then
  (if 0<=b/\b<(a.length:Int) then
  ((Zeb.g (bt a b)).bind fun y1=>
  if(!y1.1) then
  (if 0<=b/\b<(a.length:Int) then
  ((Zdm.g (bt a b)).bind fun y2=>
  if(!y2.1) then
  (if 0<=b/\b<(a.length:Int) then
  (if(decide ((bt a b)≠(95:Int))) then(some (false,()))
  else(Zaz.j5 n (Zaz.l4 n m) a b)) else none)
  else(Zaz.j5 n (Zaz.l4 n m) a b)) else none)
  else(Zaz.j5 n (Zaz.l4 n m) a b)) else none)
  else(some (true,()))
def f(n:Nat)(a:Str):Option (Bool×Unit):=
  if(decide ((a.length:Int)<(1:Int)))=false then
  (if(decide ((12:Int)<(a.length:Int)))=false then
  (if 0<=(0:Int)/\(0:Int)<(a.length:Int) then
  ((Zeb.g (bt a (0:Int))).bind fun y1=>
  if(!y1.1)=false then
  ((Zeh.g a).bind fun y2=>
  if y2.1 then(some (false,()))
  else(Zaz.l4 n n a (0:Int)))
  else(some (false,()))) else none)
  else(some (false,())))
  else(some (false,()))
def g(a:Str):Option (Bool×Unit):=f (1000+a.length) a
end Zaz
namespace Zbw
def j3(n:Nat)(a:Str):Option (Bool×Unit):=
  (Zaz.g a).bind fun y1=>
  some (y1.1,())
def f(n:Nat)(a:Str):Option (Bool×Unit):=
  if(decide ((0:Int)<(a.length:Int))) then
  (if 0<=(0:Int)/\(0:Int)<(a.length:Int) then
  (if(decide ((bt a (0:Int))=(95:Int))) then
  (if 0<=(1:Int)/\(1:Int)<=(a.length:Int) then
  (if([97]:Str).length+((a.take (((a.length:Int)).toNat)).drop (((1:Int)).toNat)).length<=9223372036854775807 then
  ((Zaz.g (([97]:Str)++((a.take (((a.length:Int)).toNat)).drop (((1:Int)).toNat)))).bind fun y1=>
  some (y1.1,())) else none) else none)
  else(Zbw.j3 n a)) else none)
  else(Zbw.j3 n a)
def g(a:Str):Option (Bool×Unit):=f (1000+a.length) a
end Zbw
namespace Zfh
def f(n:Nat)(a:Str)(b:Int):Option (Str×Unit):=
  if 0<=(IntKind.i64.wrap ((IntKind.i64.wrap ((3:Int)*b))+(3:Int)))/\(IntKind.i64.wrap ((IntKind.i64.wrap ((3:Int)*b))+(3:Int)))<=(a.length:Int) then
  (if 0<=(IntKind.i64.wrap ((3:Int)*b))/\(IntKind.i64.wrap ((3:Int)*b))<=(IntKind.i64.wrap ((IntKind.i64.wrap ((3:Int)*b))+(3:Int))) then
  (some (((a.take (((IntKind.i64.wrap ((IntKind.i64.wrap ((3:Int)*b))+(3:Int)))).toNat)).drop (((IntKind.i64.wrap ((3:Int)*b))).toNat)),())) else none) else none
def g(a:Str)(b:Int):Option (Str×Unit):=f (1000+a.length+b.toNat) a b
end Zfh
namespace Zag
def j6(n:Nat)(a:Int)(b:Str)(c:Str):Option (Str×Unit):=
  if(decide (a=(7:Int))) then(some (c,()))
  else
  (if 0<=(IntKind.i64.wrap ((IntKind.i64.wrap ((2:Int)*a))+(2:Int)))/\(IntKind.i64.wrap ((IntKind.i64.wrap ((2:Int)*a))+(2:Int)))<=(b.length:Int) then
  (if 0<=(IntKind.i64.wrap ((2:Int)*a))/\(IntKind.i64.wrap ((2:Int)*a))<=(IntKind.i64.wrap ((IntKind.i64.wrap ((2:Int)*a))+(2:Int))) then
  (if c.length+((b.take (((IntKind.i64.wrap ((IntKind.i64.wrap ((2:Int)*a))+(2:Int)))).toNat)).drop (((IntKind.i64.wrap ((2:Int)*a))).toNat)).length<=9223372036854775807 then
  (some ((c++((b.take (((IntKind.i64.wrap ((IntKind.i64.wrap ((2:Int)*a))+(2:Int)))).toNat)).drop (((IntKind.i64.wrap ((2:Int)*a))).toNat))),())) else none) else none) else none)
def j23(n:Nat)(a:Int)(b:Int):Option (Str×Unit):=
  if(decide (b≠(0:Int))) then(some (([]:Str),()))
  else
  (if(decide (a=(3:Int))) then(some (([77,79,86,72]:Str),()))
  else
  (if(decide (a=(4:Int))) then(some (([77,79,86,70]:Str),()))
  else
  (if(decide (a=(8:Int))) then(some (([76,68,76]:Str),()))
  else
  (if(decide (a=(9:Int))) then(some (([119,111,114,100]:Str),()))
  else
  (if(decide (a=(10:Int))) then(some (([101,120,112,111,114,116]:Str),()))
  else(some (([]:Str),())))))))
def j21(n:Nat)(a:Int)(b:Int):Option (Str×Unit):=
  if(decide (a=(5:Int))) then
  (if(decide ((0:Int)<=b)) then
  (if(decide (b<=(3:Int))) then
  ((Zfh.g ([76,68,87,76,68,66,83,84,87,83,84,66]:Str) b).bind fun y1=>
  some (y1.1,()))
  else(Zag.j23 n a b))
  else(Zag.j23 n a b))
  else(Zag.j23 n a b)
def j17(n:Nat)(a:Int)(b:Int)(c:Bool):Option (Str×Unit):=
  if c then(some (([]:Str),()))
  else
  (if(decide (a=(1:Int))) then
  (if(decide ((0:Int)<=b)) then
  (if(decide (b<=(11:Int))) then
  ((Zfh.g ([77,79,86,76,83,76,65,83,82,82,79,82,65,78,68,65,78,78,73,79,82,88,79,82,65,68,68,83,85,66,77,85,76,68,73,86]:Str) b).bind fun y1=>
  some (y1.1,()))
  else(Zag.j21 n a b))
  else(Zag.j21 n a b))
  else(Zag.j21 n a b))
def j15(n:Nat)(a:Int)(b:Int)(c:Bool):Option (Str×Unit):=
  if(decide (a=(1:Int))) then
  (if c then
  (if(decide (b=(10:Int))) then(some (([77,76,85]:Str),()))
  else(Zag.j17 n a b c))
  else(Zag.j17 n a b c))
  else(Zag.j17 n a b c)
def j13(n:Nat)(a:Int)(b:Int)(c:Bool):Option (Str×Unit):=
  if(decide (a=(1:Int))) then
  (if c then
  (if(decide (b=(9:Int))) then(some (([83,66,67]:Str),()))
  else(Zag.j15 n a b c))
  else(Zag.j15 n a b c))
  else(Zag.j15 n a b c)
def j11(n:Nat)(a:Int)(b:Int)(c:Bool):Option (Str×Unit):=
  if(decide (a=(1:Int))) then
  (if c then
  (if(decide (b=(8:Int))) then(some (([65,68,67]:Str),()))
  else(Zag.j13 n a b c))
  else(Zag.j13 n a b c))
  else(Zag.j13 n a b c)
def j9(n:Nat)(a:Int)(b:Int)(c:Bool):Option (Str×Unit):=
  if(decide (a=(1:Int))) then
  (if c then
  (if(decide (b=(0:Int))) then(some (([77,79,86,85]:Str),()))
  else(Zag.j11 n a b c))
  else(Zag.j11 n a b c))
  else(Zag.j11 n a b c)
def f(n:Nat)(a:Int)(b:Int)(c:Bool):Option (Str×Unit):=
  if(decide (a=(7:Int))) then
  (if(decide ((0:Int)<=b)) then
  (if(decide (b<=(15:Int))) then
  (if c then
  (Zag.j6 n b ([77,73,69,81,67,83,86,83,76,83,76,84,76,69,32,32,80,76,78,69,67,67,86,67,72,73,71,69,71,84,78,86]:Str) ([66,76]:Str))
  else
  (Zag.j6 n b ([77,73,69,81,67,83,86,83,76,83,76,84,76,69,32,32,80,76,78,69,67,67,86,67,72,73,71,69,71,84,78,86]:Str) ([66]:Str)))
  else(Zag.j9 n a b c))
  else(Zag.j9 n a b c))
  else(Zag.j9 n a b c)
def g(a:Int)(b:Int)(c:Bool):Option (Str×Unit):=f (1000+a.toNat+b.toNat) a b c
end Zag
namespace Zba
def l7(n:Nat)(rl4:Str->Int->Option (Int×Int×Bool×Bool×Unit)):Nat->Str->Int->Int->Option (Int×Int×Bool×Bool×Unit)
 |0,_,_,_=>none
 |m+1,a,b,c=>
  if(decide (c<(16:Int))) then
  ((Zag.g b c false).bind fun y1=>
  if(decide (y1.1=a)) then(some (b,c,false,true,()))
  else
  ((Zag.g b c true).bind fun y2=>
  if(decide (y2.1=a)) then(some (b,c,true,true,()))
  else
  ((Zba.l7 n rl4 m) a b (IntKind.i64.wrap (c+(1:Int))))))
  else(rl4 a (IntKind.i64.wrap (b+(1:Int))))
def l4(n:Nat):Nat->Str->Int->Option (Int×Int×Bool×Bool×Unit)
 |0,_,_=>none
 |m+1,a,b=>
  if(decide (b<(11:Int))) then
  (Zba.l7 n (Zba.l4 n m) n a b (0:Int))
  else(some ((0:Int),(0:Int),false,false,()))
def f(n:Nat)(a:Str):Option (Int×Int×Bool×Bool×Unit):=
  if(decide (a=([]:Str))) then(some ((0:Int),(0:Int),false,false,()))
  else(Zba.l4 n n a (0:Int))
def g(a:Str):Option (Int×Int×Bool×Bool×Unit):=f (1000+a.length) a
end Zba
namespace Zfd
def f(n:Nat)(a:Int):Option (Str×Unit):=
  if(decide (a<(0:Int)))=false then
  (if(decide ((15:Int)<a)) then(some (([]:Str),()))
  else
  (if(decide ((9:Int)<a)) then
  (if([82,49]:Str).length+(bytesOf ([(IntKind.u8.wrap ((48:Int)+(IntKind.u8.wrap (IntKind.i64.wrap (a-(10:Int))))))]:List Int)).length<=9223372036854775807 then
  (some ((([82,49]:Str)++(bytesOf ([(IntKind.u8.wrap ((48:Int)+(IntKind.u8.wrap (IntKind.i64.wrap (a-(10:Int))))))]:List Int))),())) else none)
  else
  (if([82]:Str).length+(bytesOf ([(IntKind.u8.wrap ((48:Int)+(IntKind.u8.wrap a)))]:List Int)).length<=9223372036854775807 then
  (some ((([82]:Str)++(bytesOf ([(IntKind.u8.wrap ((48:Int)+(IntKind.u8.wrap a)))]:List Int))),())) else none)))
  else(some (([]:Str),()))
def g(a:Int):Option (Str×Unit):=f (1000+a.toNat) a
end Zfd
namespace Zcj
def l2(n:Nat):Nat->Str->Int->Option (Int×Bool×Unit)
 |0,_,_=>none
 |m+1,a,b=>
  if(decide (b<(16:Int))) then
  ((Zfd.g b).bind fun y1=>
  if(decide (y1.1=a)) then(some (b,true,()))
  else
  ((Zcj.l2 n m) a (IntKind.i64.wrap (b+(1:Int)))))
  else(some ((0:Int),false,()))
def f(n:Nat)(a:Str):Option (Int×Bool×Unit):=
  Zcj.l2 n n a (0:Int)
def g(a:Str):Option (Int×Bool×Unit):=f (1000+a.length) a
end Zcj
namespace Zbq
def f(n:Nat)(a:Str)(b:List Tk)(c:Int)(d:Int):Option (Bool×(List Tk)×Int×Int×Unit):=
  if(decide ((0:Int)<=c)) then
  (if(decide (c<(b.length:Int))) then
  (if 0<=c/\c<(b.length:Int) then
  (if(decide ((b.getD (c).toNat zT).1=(3:Int))) then
  (if 0<=c/\c<(b.length:Int) then
  (if(decide ((((b.getD (c).toNat zT).2).2).1=a)) then(some (true,b,(IntKind.i64.wrap (c+(1:Int))),d,()))
  else(some (false,b,c,d,()))) else none)
  else(some (false,b,c,d,()))) else none)
  else(some (false,b,c,d,())))
  else(some (false,b,c,d,()))
def g(a:Str)(b:List Tk)(c:Int)(d:Int):Option (Bool×(List Tk)×Int×Int×Unit):=f (1000+a.length+b.length+c.toNat+d.toNat) a b c d
end Zbq
structure aI where
 rivetref15_parser_sum:Int->(List Tk)->Int->Int->Option ((List It)×(List Tk)×Int×Int×Unit)
 rivetref15_parser_term:Int->(List Tk)->Int->Int->Option ((List It)×(List Tk)×Int×Int×Unit)
 rivetref15_parser_factor:Int->(List Tk)->Int->Int->Option ((List It)×(List Tk)×Int×Int×Unit)
namespace rivetref15_parser_sum
def j8(n:Nat)(R:aI)(rl2:Int->(List It)->(List Tk)->Int->Int->Option ((List It)×(List Tk)×Int×Int×Unit))(a:Int)(b:List It)(c:Int)(d:List Tk)(e:Int)(i:Int):Option ((List It)×(List Tk)×Int×Int×Unit):=
  (R.rivetref15_parser_term a d e i).bind fun y1=>
  if(b.length+y1.1.length)*32<=140737488355328/\0<32/\0<3 then
  (if((b++y1.1).length+([(c,0,([]:Str),())]:List It).length)*32<=140737488355328/\0<32/\0<3 then
  (rl2 a ((b++y1.1)++([(c,0,([]:Str),())]:List It)) y1.2.1 y1.2.2.1 y1.2.2.2.1) else none) else none
def l2(n:Nat)(R:aI):Nat->Int->(List It)->(List Tk)->Int->Int->Option ((List It)×(List Tk)×Int×Int×Unit)
 |0,_,_,_,_,_=>none
 |m+1,a,b,c,d,e=>
  if(decide (e=(0:Int))) then
  ((Zbq.g ([43]:Str) c d e).bind fun y1=>
  if(!y1.1) then
  ((Zbq.g ([45]:Str) y1.2.1 y1.2.2.1 y1.2.2.2.1).bind fun y2=>
  if(!y2.1) then(some (b,y2.2.1,y2.2.2.1,y2.2.2.2.1,()))
  else
  (rivetref15_parser_sum.j8 n R (rivetref15_parser_sum.l2 n R m) a b (5:Int) y2.2.1 y2.2.2.1 y2.2.2.2.1))
  else
  (rivetref15_parser_sum.j8 n R (rivetref15_parser_sum.l2 n R m) a b (4:Int) y1.2.1 y1.2.2.1 y1.2.2.2.1))
  else(some (b,c,d,e,()))
def f(n:Nat)(R:aI)(a:Int)(b:List Tk)(c:Int)(d:Int):Option ((List It)×(List Tk)×Int×Int×Unit):=
  (R.rivetref15_parser_term a b c d).bind fun y1=>
  rivetref15_parser_sum.l2 n R n a y1.1 y1.2.1 y1.2.2.1 y1.2.2.2.1
def h(R:aI)(a:Int)(b:List Tk)(c:Int)(d:Int):Option ((List It)×(List Tk)×Int×Int×Unit):=f (1000+a.toNat+b.length+c.toNat+d.toNat) R a b c d
end rivetref15_parser_sum
namespace rivetref15_parser_term
def l2(n:Nat)(R:aI):Nat->Int->(List It)->(List Tk)->Int->Int->Option ((List It)×(List Tk)×Int×Int×Unit)
 |0,_,_,_,_,_=>none
 |m+1,a,b,c,d,e=>
  if(decide (e=(0:Int))) then
  ((Zbq.g ([42]:Str) c d e).bind fun y1=>
  if y1.1 then
  ((R.rivetref15_parser_factor a y1.2.1 y1.2.2.1 y1.2.2.2.1).bind fun y2=>
  if(b.length+y2.1.length)*32<=140737488355328/\0<32/\0<3 then
  (if((b++y2.1).length+([((6:Int),0,([]:Str),())]:List It).length)*32<=140737488355328/\0<32/\0<3 then
  ((rivetref15_parser_term.l2 n R m) a ((b++y2.1)++([((6:Int),0,([]:Str),())]:List It)) y2.2.1 y2.2.2.1 y2.2.2.2.1) else none) else none)
  else(some (b,y1.2.1,y1.2.2.1,y1.2.2.2.1,())))
  else(some (b,c,d,e,()))
def f(n:Nat)(R:aI)(a:Int)(b:List Tk)(c:Int)(d:Int):Option ((List It)×(List Tk)×Int×Int×Unit):=
  (R.rivetref15_parser_factor a b c d).bind fun y1=>
  rivetref15_parser_term.l2 n R n a y1.1 y1.2.1 y1.2.2.1 y1.2.2.2.1
def h(R:aI)(a:Int)(b:List Tk)(c:Int)(d:Int):Option ((List It)×(List Tk)×Int×Int×Unit):=f (1000+a.toNat+b.length+c.toNat+d.toNat) R a b c d
end rivetref15_parser_term
namespace rivetref15_parser_factor
def j20(n:Nat)(R:aI)(a:List Tk)(b:Int)(c:Int):Option ((List It)×(List Tk)×Int×Int×Unit):=
  some ([],a,b,(23:Int),())
def f(n:Nat)(R:aI)(a:Int)(b:List Tk)(c:Int)(d:Int):Option ((List It)×(List Tk)×Int×Int×Unit):=
  if(decide ((8:Int)<a)) then(some ([],b,c,(24:Int),()))
  else
  ((Zbq.g ([45]:Str) b c d).bind fun y1=>
  if y1.1 then
  ((R.rivetref15_parser_factor (IntKind.i64.wrap (a+(1:Int))) y1.2.1 y1.2.2.1 y1.2.2.2.1).bind fun y2=>
  if(y2.1.length+([((3:Int),0,([]:Str),())]:List It).length)*32<=140737488355328/\0<32/\0<3 then
  (some ((y2.1++([((3:Int),0,([]:Str),())]:List It)),y2.2.1,y2.2.2.1,y2.2.2.2.1,())) else none)
  else
  ((Zbq.g ([40]:Str) y1.2.1 y1.2.2.1 y1.2.2.2.1).bind fun y3=>
  if y3.1 then
  ((R.rivetref15_parser_sum (IntKind.i64.wrap (a+(1:Int))) y3.2.1 y3.2.2.1 y3.2.2.2.1).bind fun y4=>
  if(decide (y4.2.2.2.1=(0:Int))) then
  ((Zbq.g ([41]:Str) y4.2.1 y4.2.2.1 y4.2.2.2.1).bind fun y5=>
  if(!y5.1) then(some (y4.1,y5.2.1,y5.2.2.1,(23:Int),()))
  else(some (y4.1,y5.2.1,y5.2.2.1,y5.2.2.2.1,())))
  else(some (y4.1,y4.2.1,y4.2.2.1,y4.2.2.2.1,())))
  else
  (if(decide (y3.2.2.1<(0:Int)))=false then
  (if(decide ((y3.2.1.length:Int)<=y3.2.2.1)) then(some ([],y3.2.1,y3.2.2.1,(23:Int),()))
  else
  (if 0<=y3.2.2.1/\y3.2.2.1<(y3.2.1.length:Int) then
  (if(decide ((y3.2.1.getD (y3.2.2.1).toNat zT).1=(2:Int))) then
  (some (([((1:Int),((((y3.2.1.getD (y3.2.2.1).toNat zT).2).2).2).1,([]:Str),())]:List It),y3.2.1,(IntKind.i64.wrap (y3.2.2.1+(1:Int))),y3.2.2.2.1,()))
  else
  (if(decide ((y3.2.1.getD (y3.2.2.1).toNat zT).1=(1:Int))) then
  ((Zbw.g ((((y3.2.1.getD (y3.2.2.1).toNat zT).2).2).1)).bind fun y6=>
  if y6.1 then
  (some (([((2:Int),0,(((y3.2.1.getD (y3.2.2.1).toNat zT).2).2).1,())]:List It),y3.2.1,(IntKind.i64.wrap (y3.2.2.1+(1:Int))),y3.2.2.2.1,()))
  else
  (rivetref15_parser_factor.j20 n R y3.2.1 (IntKind.i64.wrap (y3.2.2.1+(1:Int))) y3.2.2.2.1))
  else
  (rivetref15_parser_factor.j20 n R y3.2.1 (IntKind.i64.wrap (y3.2.2.1+(1:Int))) y3.2.2.2.1))) else none))
  else(some ([],y3.2.1,y3.2.2.1,(23:Int),())))))
def h(R:aI)(a:Int)(b:List Tk)(c:Int)(d:Int):Option ((List It)×(List Tk)×Int×Int×Unit):=f (1000+a.toNat+b.length+c.toNat+d.toNat) R a b c d
end rivetref15_parser_factor
def au:Nat->aI
 |0=>⟨fun _ _ _ _=>none,fun _ _ _ _=>none,fun _ _ _ _=>none⟩
 |q+1=>⟨rivetref15_parser_sum.h (au q),rivetref15_parser_term.h (au q),rivetref15_parser_factor.h (au q)⟩
def rivetref15_parser_sum.g(a:Int)(b:List Tk)(c:Int)(d:Int):Option ((List It)×(List Tk)×Int×Int×Unit):=(au (1000+a.toNat+b.length+c.toNat+d.toNat)).rivetref15_parser_sum a b c d
def rivetref15_parser_term.g(a:Int)(b:List Tk)(c:Int)(d:Int):Option ((List It)×(List Tk)×Int×Int×Unit):=(au (1000+a.toNat+b.length+c.toNat+d.toNat)).rivetref15_parser_term a b c d
def rivetref15_parser_factor.g(a:Int)(b:List Tk)(c:Int)(d:Int):Option ((List It)×(List Tk)×Int×Int×Unit):=(au (1000+a.toNat+b.length+c.toNat+d.toNat)).rivetref15_parser_factor a b c d
namespace Zei
def f(n:Nat)(a:List Tk)(b:Int):Option ((List It)×Int×Int×Unit):=
  (rivetref15_parser_sum.g (0:Int) a b 0).bind fun y1=>
  if(decide (y1.2.2.2.1≠(0:Int))) then(some ([],(0:Int),y1.2.2.2.1,()))
  else
  (if(decide ((64:Int)<(y1.1.length:Int))) then(some ([],(0:Int),(24:Int),()))
  else(some (y1.1,y1.2.2.1,(0:Int),())))
def g(a:List Tk)(b:Int):Option ((List It)×Int×Int×Unit):=f (1000+a.length+b.toNat) a b
end Zei
namespace Zbl
def l2(n:Nat):Nat->(List (Str×Int×Unit))->Str->Int->Option (Int×Bool×Unit)
 |0,_,_,_=>none
 |m+1,a,b,c=>
  if(decide (c<(a.length:Int))) then
  (if 0<=c/\c<(a.length:Int) then
  (if(decide ((a.getD (c).toNat (([]:Str),((0:Int),()))).1=b)) then
  (if 0<=c/\c<(a.length:Int) then
  (some (((a.getD (c).toNat (([]:Str),((0:Int),()))).2).1,true,())) else none)
  else
  ((Zbl.l2 n m) a b (IntKind.i64.wrap (c+(1:Int))))) else none)
  else(some ((0:Int),false,()))
def f(n:Nat)(a:List (Str×Int×Unit))(b:Str):Option (Int×Bool×Unit):=
  Zbl.l2 n n a b (0:Int)
def g(a:List (Str×Int×Unit))(b:Str):Option (Int×Bool×Unit):=f (1000+a.length+b.length) a b
end Zbl
namespace Zej
def f(n:Nat)(a:Int)(b:Int)(c:Str):Option (Int×Unit):=
  if(decide (a=(1:Int))) then
  (if(decide (c=([]:Str))) then(some ((0:Int),()))
  else(some ((-1:Int),())))
  else
  (if(decide (a=(2:Int))) then
  (if(decide (b=(0:Int))) then
  ((Zbw.g c).bind fun y1=>
  if y1.1 then(some ((0:Int),()))
  else(some ((-1:Int),())))
  else(some ((-1:Int),())))
  else
  (if(decide (b≠(0:Int)))=false then
  (if(!(decide (c=([]:Str)))) then(some ((-1:Int),()))
  else
  (if(decide (a=(3:Int))) then(some ((1:Int),()))
  else
  (if(decide ((4:Int)<=a)) then
  (if(decide (a<=(6:Int))) then(some ((2:Int),()))
  else(some ((-1:Int),())))
  else(some ((-1:Int),())))))
  else(some ((-1:Int),()))))
def g(a:Int)(b:Int)(c:Str):Option (Int×Unit):=f (1000+a.toNat+b.toNat+c.length) a b c
end Zej
namespace Zcy
def l3(n:Nat):Nat->(List It)->Int->Int->Option (Bool×Unit)
 |0,_,_,_=>none
 |m+1,a,b,c=>
  if(decide (c<(a.length:Int))) then
  (if 0<=c/\c<(a.length:Int) then
  ((Zej.g ((a.getD (c).toNat zI).1) (((a.getD (c).toNat zI).2).1) ((((a.getD (c).toNat zI).2).2).1)).bind fun y1=>
  if(decide (y1.1<(0:Int)))=false then
  (if(decide (b<y1.1)) then(some (false,()))
  else
  ((Zcy.l3 n m) a (IntKind.i64.wrap ((IntKind.i64.wrap (b-y1.1))+(1:Int))) (IntKind.i64.wrap (c+(1:Int)))))
  else(some (false,()))) else none)
  else
  (if(decide (b=(1:Int))) then(some ((decide ((a.length:Int)<=(64:Int))),()))
  else(some (false,())))
def f(n:Nat)(a:List It):Option (Bool×Unit):=
  Zcy.l3 n n a (0:Int) (0:Int)
def g(a:List It):Option (Bool×Unit):=f (1000+a.length) a
end Zcy
namespace Zal
def j29(n:Nat)(rl5:(List It)->(List (Str×Int×Unit))->(List (Int×Int×Unit))->Int->Int->Int->Option (Int×Int×Int×Unit))(a:List It)(b:List (Str×Int×Unit))(c:List (Int×Int×Unit))(d:Int)(e:Int)(i:Int)(j:Int)(k:Int)(l:Int):Option (Int×Int×Int×Unit):=
  if 0<=e/\e<=(c.length:Int) then
  (if(([]:List (Int×Int×Unit)).length+(c.take (e).toNat).length)*16<=140737488355328/\0<16/\0<2 then
  (if((([]:List (Int×Int×Unit))++(c.take (e).toNat)).length+([(k,l,())]:List (Int×Int×Unit)).length)*16<=140737488355328/\0<16/\0<2 then
  (rl5 a b ((([]:List (Int×Int×Unit))++(c.take (e).toNat))++([(k,l,())]:List (Int×Int×Unit))) (IntKind.i64.wrap (d+(1:Int))) i j) else none) else none) else none
def l5(n:Nat):Nat->(List It)->(List (Str×Int×Unit))->(List (Int×Int×Unit))->Int->Int->Int->Option (Int×Int×Int×Unit)
 |0,_,_,_,_,_,_=>none
 |m+1,a,b,c,d,e,i=>
  if(decide (d<(a.length:Int))) then
  (if 0<=d/\d<(a.length:Int) then
  (if 0<=d/\d<(a.length:Int) then
  (if(decide ((a.getD (d).toNat zI).1=(2:Int))) then
  (if 0<=d/\d<(a.length:Int) then
  ((Zbl.g b ((((a.getD (d).toNat zI).2).2).1)).bind fun y1=>
  if(!y1.2.1) then(some (0,0,(25:Int),()))
  else
  (Zal.j29 n (Zal.l5 n m) a b c d (c.length:Int) e i (IntKind.u32.wrap y1.1) (1:Int))) else none)
  else
  (if(decide ((a.getD (d).toNat zI).1=(3:Int))) then
  (if 0<=(IntKind.i64.wrap ((c.length:Int)-(1:Int)))/\(IntKind.i64.wrap ((c.length:Int)-(1:Int)))<(c.length:Int) then
  (if 0<=(IntKind.i64.wrap ((c.length:Int)-(1:Int)))/\(IntKind.i64.wrap ((c.length:Int)-(1:Int)))<(c.length:Int) then
  (Zal.j29 n (Zal.l5 n m) a b c d (IntKind.i64.wrap ((c.length:Int)-(1:Int))) e i (IntKind.u32.wrap (0-(c.getD ((IntKind.i64.wrap ((c.length:Int)-(1:Int)))).toNat ((0:Int),((0:Int),()))).1)) (IntKind.i64.wrap (0-((c.getD ((IntKind.i64.wrap ((c.length:Int)-(1:Int)))).toNat ((0:Int),((0:Int),()))).2).1))) else none) else none)
  else
  (if(decide ((a.getD (d).toNat zI).1=(4:Int))) then
  (if 0<=(IntKind.i64.wrap ((c.length:Int)-(2:Int)))/\(IntKind.i64.wrap ((c.length:Int)-(2:Int)))<(c.length:Int) then
  (if 0<=(IntKind.i64.wrap ((IntKind.i64.wrap ((c.length:Int)-(2:Int)))+(1:Int)))/\(IntKind.i64.wrap ((IntKind.i64.wrap ((c.length:Int)-(2:Int)))+(1:Int)))<(c.length:Int) then
  (if 0<=(IntKind.i64.wrap ((c.length:Int)-(2:Int)))/\(IntKind.i64.wrap ((c.length:Int)-(2:Int)))<(c.length:Int) then
  (if 0<=(IntKind.i64.wrap ((IntKind.i64.wrap ((c.length:Int)-(2:Int)))+(1:Int)))/\(IntKind.i64.wrap ((IntKind.i64.wrap ((c.length:Int)-(2:Int)))+(1:Int)))<(c.length:Int) then
  (Zal.j29 n (Zal.l5 n m) a b c d (IntKind.i64.wrap ((c.length:Int)-(2:Int))) e i (IntKind.u32.wrap ((c.getD ((IntKind.i64.wrap ((c.length:Int)-(2:Int)))).toNat ((0:Int),((0:Int),()))).1+(c.getD ((IntKind.i64.wrap ((IntKind.i64.wrap ((c.length:Int)-(2:Int)))+(1:Int)))).toNat ((0:Int),((0:Int),()))).1)) (IntKind.i64.wrap (((c.getD ((IntKind.i64.wrap ((c.length:Int)-(2:Int)))).toNat ((0:Int),((0:Int),()))).2).1+((c.getD ((IntKind.i64.wrap ((IntKind.i64.wrap ((c.length:Int)-(2:Int)))+(1:Int)))).toNat ((0:Int),((0:Int),()))).2).1))) else none) else none) else none) else none)
  else
  (if(decide ((a.getD (d).toNat zI).1=(5:Int))) then
  (if 0<=(IntKind.i64.wrap ((c.length:Int)-(2:Int)))/\(IntKind.i64.wrap ((c.length:Int)-(2:Int)))<(c.length:Int) then
  (if 0<=(IntKind.i64.wrap ((IntKind.i64.wrap ((c.length:Int)-(2:Int)))+(1:Int)))/\(IntKind.i64.wrap ((IntKind.i64.wrap ((c.length:Int)-(2:Int)))+(1:Int)))<(c.length:Int) then
  (if 0<=(IntKind.i64.wrap ((c.length:Int)-(2:Int)))/\(IntKind.i64.wrap ((c.length:Int)-(2:Int)))<(c.length:Int) then
  (if 0<=(IntKind.i64.wrap ((IntKind.i64.wrap ((c.length:Int)-(2:Int)))+(1:Int)))/\(IntKind.i64.wrap ((IntKind.i64.wrap ((c.length:Int)-(2:Int)))+(1:Int)))<(c.length:Int) then
  (Zal.j29 n (Zal.l5 n m) a b c d (IntKind.i64.wrap ((c.length:Int)-(2:Int))) e i (IntKind.u32.wrap ((c.getD ((IntKind.i64.wrap ((c.length:Int)-(2:Int)))).toNat ((0:Int),((0:Int),()))).1-(c.getD ((IntKind.i64.wrap ((IntKind.i64.wrap ((c.length:Int)-(2:Int)))+(1:Int)))).toNat ((0:Int),((0:Int),()))).1)) (IntKind.i64.wrap (((c.getD ((IntKind.i64.wrap ((c.length:Int)-(2:Int)))).toNat ((0:Int),((0:Int),()))).2).1-((c.getD ((IntKind.i64.wrap ((IntKind.i64.wrap ((c.length:Int)-(2:Int)))+(1:Int)))).toNat ((0:Int),((0:Int),()))).2).1))) else none) else none) else none) else none)
  else
  (if(decide ((a.getD (d).toNat zI).1=(6:Int))) then
  (if 0<=(IntKind.i64.wrap ((c.length:Int)-(2:Int)))/\(IntKind.i64.wrap ((c.length:Int)-(2:Int)))<(c.length:Int) then
  (if(decide (((c.getD ((IntKind.i64.wrap ((c.length:Int)-(2:Int)))).toNat ((0:Int),((0:Int),()))).2).1≠(0:Int)))=false then
  (if 0<=(IntKind.i64.wrap ((IntKind.i64.wrap ((c.length:Int)-(2:Int)))+(1:Int)))/\(IntKind.i64.wrap ((IntKind.i64.wrap ((c.length:Int)-(2:Int)))+(1:Int)))<(c.length:Int) then
  (if(decide (((c.getD ((IntKind.i64.wrap ((IntKind.i64.wrap ((c.length:Int)-(2:Int)))+(1:Int)))).toNat ((0:Int),((0:Int),()))).2).1≠(0:Int))) then(some (0,0,(27:Int),()))
  else
  (if 0<=(IntKind.i64.wrap ((c.length:Int)-(2:Int)))/\(IntKind.i64.wrap ((c.length:Int)-(2:Int)))<(c.length:Int) then
  (if 0<=(IntKind.i64.wrap ((IntKind.i64.wrap ((c.length:Int)-(2:Int)))+(1:Int)))/\(IntKind.i64.wrap ((IntKind.i64.wrap ((c.length:Int)-(2:Int)))+(1:Int)))<(c.length:Int) then
  (Zal.j29 n (Zal.l5 n m) a b c d (IntKind.i64.wrap ((c.length:Int)-(2:Int))) e i (IntKind.u32.wrap ((c.getD ((IntKind.i64.wrap ((c.length:Int)-(2:Int)))).toNat ((0:Int),((0:Int),()))).1*(c.getD ((IntKind.i64.wrap ((IntKind.i64.wrap ((c.length:Int)-(2:Int)))+(1:Int)))).toNat ((0:Int),((0:Int),()))).1)) 0) else none) else none)) else none)
  else(some (0,0,(27:Int),()))) else none)
  else
  (Zal.j29 n (Zal.l5 n m) a b c d (c.length:Int) e i (((a.getD (d).toNat zI).2).1) 0)))))) else none) else none)
  else
  (if 0<=(0:Int)/\(0:Int)<(c.length:Int) then
  (some ((c.getD ((0:Int)).toNat ((0:Int),((0:Int),()))).1,((c.getD ((0:Int)).toNat ((0:Int),((0:Int),()))).2).1,(0:Int),())) else none)
def f(n:Nat)(a:List It)(b:List (Str×Int×Unit)):Option (Int×Int×Int×Unit):=
  (Zcy.g a).bind fun y1=>
  if(!y1.1) then(some (0,0,(23:Int),()))
  else
  (Zal.l5 n n a b ([]:List (Int×Int×Unit)) (0:Int) 0 0)
def g(a:List It)(b:List (Str×Int×Unit)):Option (Int×Int×Int×Unit):=f (1000+a.length+b.length) a b
end Zal
namespace Zbs
def j12(n:Nat)(a:Int)(b:Int)(c:Int):Option (Int×Int×Unit):=
  if(decide (a<=c)) then
  (if(decide (c<=b)) then(some (c,(0:Int),()))
  else(some ((0:Int),(28:Int),())))
  else(some ((0:Int),(28:Int),()))
def j10(n:Nat)(a:Int)(b:Int)(c:Int)(d:Int):Option (Int×Int×Unit):=
  if(decide (a<=d)) then
  (if(decide (d<=b)) then(some (d,(0:Int),()))
  else(Zbs.j12 n a b c))
  else(Zbs.j12 n a b c)
def f(n:Nat)(a:List It)(b:List (Str×Int×Unit))(c:Int)(d:Int):Option (Int×Int×Unit):=
  (Zal.g a b).bind fun y1=>
  if(decide (y1.2.2.1≠(0:Int))) then(some ((0:Int),y1.2.2.1,()))
  else
  (if(decide (y1.2.1≠(0:Int))) then(some ((0:Int),(27:Int),()))
  else
  (if(decide ((2147483648:Int)<=(IntKind.i64.wrap y1.1))) then
  (Zbs.j10 n c d (IntKind.i64.wrap y1.1) (IntKind.i64.wrap ((IntKind.i64.wrap y1.1)-(4294967296:Int))))
  else
  (Zbs.j10 n c d (IntKind.i64.wrap y1.1) (IntKind.i64.wrap y1.1))))
def g(a:List It)(b:List (Str×Int×Unit))(c:Int)(d:Int):Option (Int×Int×Unit):=f (1000+a.length+b.length+c.toNat+d.toNat) a b c d
end Zbs
namespace Zay
def l4(n:Nat):Nat->Str->Str->Str->Int->Option (Str×Unit)
 |0,_,_,_,_=>none
 |m+1,a,b,c,d=>
  if(decide (d<(a.length:Int))) then
  (if(decide (d<(6:Int))) then
  (if 0<=d/\d<(a.length:Int) then
  (if 0<=d/\d<(a.length:Int) then
  (if 0<=(IntKind.i64.wrap ((Int.tmod (IntKind.i64.wrap (bt a d)) (12:Int))+(1:Int)))/\(IntKind.i64.wrap ((Int.tmod (IntKind.i64.wrap (bt a d)) (12:Int))+(1:Int)))<=(b.length:Int) then
  (if 0<=(Int.tmod (IntKind.i64.wrap (bt a d)) (12:Int))/\(Int.tmod (IntKind.i64.wrap (bt a d)) (12:Int))<=(IntKind.i64.wrap ((Int.tmod (IntKind.i64.wrap (bt a d)) (12:Int))+(1:Int))) then
  (if c.length+((b.take (((IntKind.i64.wrap ((Int.tmod (IntKind.i64.wrap (bt a d)) (12:Int))+(1:Int)))).toNat)).drop (((Int.tmod (IntKind.i64.wrap (bt a d)) (12:Int))).toNat)).length<=9223372036854775807 then
  ((Zay.l4 n m) a b (c++((b.take (((IntKind.i64.wrap ((Int.tmod (IntKind.i64.wrap (bt a d)) (12:Int))+(1:Int)))).toNat)).drop (((Int.tmod (IntKind.i64.wrap (bt a d)) (12:Int))).toNat))) (IntKind.i64.wrap (d+(1:Int)))) else none) else none) else none) else none) else none)
  else(some (c,())))
  else(some (c,()))
def f(n:Nat)(a:Str):Option (Str×Unit):=
  Zay.l4 n n a ([97,98,99,88,89,90,95,48,49,57,82,109]:Str) (bytesOf ([(IntKind.u8.wrap ((97:Int)+(IntKind.u8.wrap (Int.tmod (a.length:Int) (26:Int)))))]:List Int)) (0:Int)
def g(a:Str):Option (Str×Unit):=f (1000+a.length) a
end Zay
namespace Zbx
def f(n:Nat)(a:Str):Option (Str×Unit):=
  (Zay.g a).bind fun y1=>
  if(decide ((Int.tmod (a.length:Int) (3:Int))=(1:Int))) then
  (if 0<=(mn (y1.1.length:Int) (11:Int))/\(mn (y1.1.length:Int) (11:Int))<=(y1.1.length:Int) then
  (if([95]:Str).length+((y1.1.take (((mn (y1.1.length:Int) (11:Int))).toNat)).drop 0).length<=9223372036854775807 then
  (some ((([95]:Str)++((y1.1.take (((mn (y1.1.length:Int) (11:Int))).toNat)).drop 0)),())) else none) else none)
  else(some (y1.1,()))
def g(a:Str):Option (Str×Unit):=f (1000+a.length) a
end Zbx
namespace Zae
def j18(n:Nat)(rl4:(List It)->(List It)->Int->Int->Option ((List It)×Unit))(a:List It)(b:List It)(c:Int)(d:Int)(e:Int)(i:Int)(j:Str):Option ((List It)×Unit):=
  if(b.length+([(e,i,j,())]:List It).length)*32<=140737488355328/\0<32/\0<3 then
  (rl4 a (b++([(e,i,j,())]:List It)) c (IntKind.i64.wrap (d+(1:Int)))) else none
def j9(n:Nat)(rl4:(List It)->(List It)->Int->Int->Option ((List It)×Unit))(a:List It)(b:List It)(c:Int)(d:Int)(e:Int)(i:Int)(j:Str):Option ((List It)×Unit):=
  if(decide (e=(1:Int))) then
  (if 0<=d/\d<(a.length:Int) then
  (Zae.j18 n rl4 a b (IntKind.i64.wrap (c+(1:Int))) d e (((a.getD (d).toNat zI).2).1) j) else none)
  else
  (if(decide (e=(2:Int))) then
  (if 0<=d/\d<(a.length:Int) then
  (if 0<=d/\d<(a.length:Int) then
  (if 0<=(mn (((((a.getD (d).toNat zI).2).2).1).length:Int) (6:Int))/\(mn (((((a.getD (d).toNat zI).2).2).1).length:Int) (6:Int))<=(((((a.getD (d).toNat zI).2).2).1).length:Int) then
  ((Zbx.g ((((((a.getD (d).toNat zI).2).2).1).take (((mn (((((a.getD (d).toNat zI).2).2).1).length:Int) (6:Int))).toNat)).drop 0)).bind fun y1=>
  Zae.j18 n rl4 a b (IntKind.i64.wrap (c+(1:Int))) d e i y1.1) else none) else none) else none)
  else
  (if(decide (e=(3:Int))) then(Zae.j18 n rl4 a b c d e i j)
  else
  (Zae.j18 n rl4 a b (IntKind.i64.wrap (c-(1:Int))) d e i j)))
def l21(n:Nat):Nat->(List It)->Int->Option ((List It)×Unit)
 |0,_,_=>none
 |m+1,a,b=>
  if(decide ((1:Int)<b)) then
  (if(a.length+([((4:Int),0,([]:Str),())]:List It).length)*32<=140737488355328/\0<32/\0<3 then
  ((Zae.l21 n m) (a++([((4:Int),0,([]:Str),())]:List It)) (IntKind.i64.wrap (b-(1:Int)))) else none)
  else(some (a,()))
def j19(n:Nat)(a:List It)(b:Int):Option ((List It)×Unit):=
  if(decide (b=(0:Int))) then
  (some (([((1:Int),(7:Int),([]:Str),())]:List It),()))
  else(Zae.l21 n n a b)
def l4(n:Nat):Nat->(List It)->(List It)->Int->Int->Option ((List It)×Unit)
 |0,_,_,_,_=>none
 |m+1,a,b,c,d=>
  if(decide (d<(a.length:Int))) then
  (if(decide (d<(10:Int))) then
  (if 0<=d/\d<(a.length:Int) then
  (if(decide ((IntKind.i64.wrap ((1:Int)+(Int.tmod (IntKind.i64.wrap ((Int.tmod ((a.getD (d).toNat zI).1) (6:Int))+(6:Int))) (6:Int))))=(3:Int))) then
  (if(decide (c<(1:Int)))=false then
  (if(decide ((3:Int)<(IntKind.i64.wrap ((1:Int)+(Int.tmod (IntKind.i64.wrap ((Int.tmod ((a.getD (d).toNat zI).1) (6:Int))+(6:Int))) (6:Int)))))) then
  (if(decide (c<(2:Int))) then
  (Zae.j9 n (Zae.l4 n m) a b c d (1:Int) 0 ([]:Str))
  else
  (Zae.j9 n (Zae.l4 n m) a b c d (IntKind.i64.wrap ((1:Int)+(Int.tmod (IntKind.i64.wrap ((Int.tmod ((a.getD (d).toNat zI).1) (6:Int))+(6:Int))) (6:Int)))) 0 ([]:Str)))
  else
  (Zae.j9 n (Zae.l4 n m) a b c d (IntKind.i64.wrap ((1:Int)+(Int.tmod (IntKind.i64.wrap ((Int.tmod ((a.getD (d).toNat zI).1) (6:Int))+(6:Int))) (6:Int)))) 0 ([]:Str)))
  else
  (Zae.j9 n (Zae.l4 n m) a b c d (1:Int) 0 ([]:Str)))
  else
  (if(decide ((3:Int)<(IntKind.i64.wrap ((1:Int)+(Int.tmod (IntKind.i64.wrap ((Int.tmod ((a.getD (d).toNat zI).1) (6:Int))+(6:Int))) (6:Int)))))) then
  (if(decide (c<(2:Int))) then
  (Zae.j9 n (Zae.l4 n m) a b c d (1:Int) 0 ([]:Str))
  else
  (Zae.j9 n (Zae.l4 n m) a b c d (IntKind.i64.wrap ((1:Int)+(Int.tmod (IntKind.i64.wrap ((Int.tmod ((a.getD (d).toNat zI).1) (6:Int))+(6:Int))) (6:Int)))) 0 ([]:Str)))
  else
  (Zae.j9 n (Zae.l4 n m) a b c d (IntKind.i64.wrap ((1:Int)+(Int.tmod (IntKind.i64.wrap ((Int.tmod ((a.getD (d).toNat zI).1) (6:Int))+(6:Int))) (6:Int)))) 0 ([]:Str)))) else none)
  else(Zae.j19 n b c))
  else(Zae.j19 n b c)
def f(n:Nat)(a:List It):Option ((List It)×Unit):=
  Zae.l4 n n a ([]:List It) (0:Int) (0:Int)
def g(a:List It):Option ((List It)×Unit):=f (1000+a.length) a
end Zae
namespace Zbe
def j4(n:Nat)(rl3:(List (Str×Int×Unit))->(List It)->Int->Option ((List It)×Unit))(a:List (Str×Int×Unit))(b:List It)(c:Int):Option ((List It)×Unit):=
  rl3 a b (IntKind.i64.wrap (c+(1:Int)))
def l3(n:Nat):Nat->(List (Str×Int×Unit))->(List It)->Int->Option ((List It)×Unit)
 |0,_,_,_=>none
 |m+1,a,b,c=>
  if(decide (c<(b.length:Int))) then
  (if 0<=c/\c<(b.length:Int) then
  (if(decide ((b.getD (c).toNat zI).1≠(2:Int))) then(Zbe.j4 n (Zbe.l3 n m) a b c)
  else
  (if(decide ((a.length:Int)=(0:Int))) then
  (if 0<=c/\c<(b.length:Int) then
  (if 0<=c/\c<(b.length:Int) then
  (Zbe.j4 n (Zbe.l3 n m) a (b.set (c).toNat ((1:Int),(IntKind.u32.wrap (((((b.getD (c).toNat zI).2).2).1).length:Int)),([]:Str),())) c) else none) else none)
  else
  (if 0<=c/\c<(b.length:Int) then
  (if(a.length:Int)=0 then none else
  (if 0<=(Int.tmod (IntKind.i64.wrap (c+(((((b.getD (c).toNat zI).2).2).1).length:Int))) (a.length:Int))/\(Int.tmod (IntKind.i64.wrap (c+(((((b.getD (c).toNat zI).2).2).1).length:Int))) (a.length:Int))<(a.length:Int) then
  (if 0<=c/\c<(b.length:Int) then
  (Zbe.j4 n (Zbe.l3 n m) a (b.set (c).toNat ((b.getD (c).toNat zI).1,((b.getD (c).toNat zI).2).1,(a.getD ((Int.tmod (IntKind.i64.wrap (c+(((((b.getD (c).toNat zI).2).2).1).length:Int))) (a.length:Int))).toNat (([]:Str),((0:Int),()))).1,())) c) else none) else none)) else none))) else none)
  else(some (b,()))
def f(n:Nat)(a:List It)(b:List (Str×Int×Unit)):Option ((List It)×Unit):=
  (Zae.g a).bind fun y1=>
  Zbe.l3 n n b y1.1 (0:Int)
def g(a:List It)(b:List (Str×Int×Unit)):Option ((List It)×Unit):=f (1000+a.length+b.length) a b
end Zbe
end Rv
namespace Rv
open Go
set_option maxRecDepth 100000
namespace Zbf
def f(n:Nat)(a:Bool)(b:List Tk)(c:Int)(d:Int):Option ((List Tk)×Int×Int×Unit):=
  if(!a) then
  (if(decide (d=(0:Int))) then(some (b,c,(22:Int),()))
  else(some (b,c,d,())))
  else(some (b,c,d,()))
def g(a:Bool)(b:List Tk)(c:Int)(d:Int):Option ((List Tk)×Int×Int×Unit):=f (1000+b.length+c.toNat+d.toNat) a b c d
end Zbf
namespace Zek
def f(n:Nat)(a:Int):Option (Bool×Unit):=
  if(decide (a=(9:Int)))=false then(some ((decide (a=(10:Int))),()))
  else(some (true,()))
def g(a:Int):Option (Bool×Unit):=f (1000+a.toNat) a
end Zek
namespace Zds
def f(n:Nat)(a:Int)(b:List Tk)(c:Int)(d:Int):Option (Str×(List Tk)×Int×Int×Unit):=
  if(decide (d≠(0:Int)))=false then
  (if(decide ((b.length:Int)<=c))=false then
  (if 0<=c/\c<(b.length:Int) then
  (if(decide ((b.getD (c).toNat zT).1≠a)) then(some (([]:Str),b,c,d,()))
  else
  (if 0<=c/\c<(b.length:Int) then
  (some ((((b.getD (c).toNat zT).2).2).1,b,c,d,())) else none)) else none)
  else(some (([]:Str),b,c,d,())))
  else(some (([]:Str),b,c,d,()))
def g(a:Int)(b:List Tk)(c:Int)(d:Int):Option (Str×(List Tk)×Int×Int×Unit):=f (1000+a.toNat+b.length+c.toNat+d.toNat) a b c d
end Zds
namespace Zck
def f(n:Nat)(a:Int)(b:List Tk)(c:Int)(d:Int):Option (Str×(List Tk)×Int×Int×Unit):=
  (Zds.g a b c d).bind fun y1=>
  some (y1.1,y1.2.1,(IntKind.i64.wrap (y1.2.2.1+(1:Int))),y1.2.2.2.1,())
def g(a:Int)(b:List Tk)(c:Int)(d:Int):Option (Str×(List Tk)×Int×Int×Unit):=f (1000+a.toNat+b.length+c.toNat+d.toNat) a b c d
end Zck
namespace Zel
def f(n:Nat)(a:List Tk)(b:Int)(c:Int)(d:Int)(e:Int)(i:Int)(j:Int)(k:Int)(l:Bool)(o:List It)(p:Str):Option ((List Tk)×Int×Int×Int×Int×Int×Int×Int×Bool×(List It)×Str×Unit):=
  (Zds.g (1:Int) a b c).bind fun y1=>
  (Zcu.g y1.1).bind fun y2=>
  if(decide (d=(1:Int))) then
  (if(!y2.2.1)=false then
  (if l then
  (if(decide (e=(0:Int))) then
  (some (y1.2.1,y1.2.2.1,y1.2.2.2.1,(2:Int),e,i,j,k,l,o,p,()))
  else
  (if(decide (d=(7:Int))) then
  (if y2.2.1 then
  (some (y1.2.1,y1.2.2.1,y1.2.2.2.1,(6:Int),e,i,j,k,l,o,p,()))
  else
  (some (y1.2.1,y1.2.2.1,y1.2.2.2.1,d,e,i,j,k,l,o,p,())))
  else
  (some (y1.2.1,y1.2.2.1,y1.2.2.2.1,d,e,i,j,k,l,o,p,()))))
  else
  (if(decide (d=(7:Int))) then
  (if y2.2.1 then
  (some (y1.2.1,y1.2.2.1,y1.2.2.2.1,(6:Int),e,i,j,k,l,o,p,()))
  else
  (some (y1.2.1,y1.2.2.1,y1.2.2.2.1,d,e,i,j,k,l,o,p,())))
  else
  (some (y1.2.1,y1.2.2.1,y1.2.2.2.1,d,e,i,j,k,l,o,p,()))))
  else
  (some (y1.2.1,y1.2.2.1,y1.2.2.2.1,(2:Int),e,i,j,k,l,o,p,())))
  else
  (if(decide (d=(7:Int))) then
  (if y2.2.1 then
  (some (y1.2.1,y1.2.2.1,y1.2.2.2.1,(6:Int),e,i,j,k,l,o,p,()))
  else
  (some (y1.2.1,y1.2.2.1,y1.2.2.2.1,d,e,i,j,k,l,o,p,())))
  else
  (some (y1.2.1,y1.2.2.1,y1.2.2.2.1,d,e,i,j,k,l,o,p,())))
def g(a:List Tk)(b:Int)(c:Int)(d:Int)(e:Int)(i:Int)(j:Int)(k:Int)(l:Bool)(o:List It)(p:Str):Option ((List Tk)×Int×Int×Int×Int×Int×Int×Int×Bool×(List It)×Str×Unit):=f (1000+a.length+b.toNat+c.toNat+d.toNat+e.toNat+i.toNat+j.toNat+k.toNat+o.length+p.length) a b c d e i j k l o p
end Zel
namespace Zfk
def f(n:Nat)(a:Int)(b:Int)(c:Int)(d:Int)(e:Int)(i:Bool)(j:List It)(k:Str):Option (Unit×Int×Int×Int×Int×Int×Bool×(List It)×Str×Unit):=
  some ((),a,b,c,d,e,i,j,k,())
def g(a:Int)(b:Int)(c:Int)(d:Int)(e:Int)(i:Bool)(j:List It)(k:Str):Option (Unit×Int×Int×Int×Int×Int×Bool×(List It)×Str×Unit):=f (1000+a.toNat+b.toNat+c.toNat+d.toNat+e.toNat+j.length+k.length) a b c d e i j k
end Zfk
namespace Zfl
def f(n:Nat)(a:Int)(b:Int)(c:Int)(d:Int)(e:Int)(i:Bool)(j:List It)(k:Str):Option (Unit×Int×Int×Int×Int×Int×Bool×(List It)×Str×Unit):=
  some ((),a,b,c,d,e,i,j,k,())
def g(a:Int)(b:Int)(c:Int)(d:Int)(e:Int)(i:Bool)(j:List It)(k:Str):Option (Unit×Int×Int×Int×Int×Int×Bool×(List It)×Str×Unit):=f (1000+a.toNat+b.toNat+c.toNat+d.toNat+e.toNat+j.length+k.length) a b c d e i j k
end Zfl
namespace Zfm
def f(n:Nat)(a:Int)(b:Int)(c:Int)(d:Int)(e:Int)(i:Bool)(j:List It)(k:Str):Option (Unit×Int×Int×Int×Int×Int×Bool×(List It)×Str×Unit):=
  some ((),a,b,c,d,e,i,j,k,())
def g(a:Int)(b:Int)(c:Int)(d:Int)(e:Int)(i:Bool)(j:List It)(k:Str):Option (Unit×Int×Int×Int×Int×Int×Bool×(List It)×Str×Unit):=f (1000+a.toNat+b.toNat+c.toNat+d.toNat+e.toNat+j.length+k.length) a b c d e i j k
end Zfm
namespace Zdt
def f(n:Nat)(a:Fn)(b:List Tk)(c:Int)(d:Int)(e:Int)(i:Int)(j:Int)(k:Int)(l:Int)(o:Bool)(p:List It)(q:Str):Option ((List Tk)×Int×Int×Int×Int×Int×Int×Int×Bool×(List It)×Str×Unit):=
  (Zck.g (1:Int) b c d).bind fun y1=>
  (Zcu.g y1.1).bind fun y2=>
  (Zbf.g y2.2.1 y1.2.1 y1.2.2.1 y1.2.2.2.1).bind fun y3=>
  if a=K.atA then((Zfk.g e i j k l o p q).bind fun y4=>
  some (y3.1,y3.2.1,y3.2.2.1,y4.2.1,y4.2.2.1,y2.1,y4.2.2.2.2.1,y4.2.2.2.2.2.1,y4.2.2.2.2.2.2.1,y4.2.2.2.2.2.2.2.1,y4.2.2.2.2.2.2.2.2.1,()))
  else if a=K.atB then((Zfl.g e i j k l o p q).bind fun y5=>
  some (y3.1,y3.2.1,y3.2.2.1,y5.2.1,y5.2.2.1,y5.2.2.2.1,y2.1,y5.2.2.2.2.2.1,y5.2.2.2.2.2.2.1,y5.2.2.2.2.2.2.2.1,y5.2.2.2.2.2.2.2.2.1,()))
  else if a=K.atC then((Zfm.g e i j k l o p q).bind fun y6=>
  some (y3.1,y3.2.1,y3.2.2.1,y6.2.1,y6.2.2.1,y6.2.2.2.1,y6.2.2.2.2.1,y2.1,y6.2.2.2.2.2.2.1,y6.2.2.2.2.2.2.2.1,y6.2.2.2.2.2.2.2.2.1,()))
  else none
def g(a:Fn)(b:List Tk)(c:Int)(d:Int)(e:Int)(i:Int)(j:Int)(k:Int)(l:Int)(o:Bool)(p:List It)(q:Str):Option ((List Tk)×Int×Int×Int×Int×Int×Int×Int×Bool×(List It)×Str×Unit):=f (1000+b.length+c.toNat+d.toNat+e.toNat+i.toNat+j.toNat+k.toNat+l.toNat+p.length+q.length) a b c d e i j k l o p q
end Zdt
namespace Zby
def j2(n:Nat)(a:List Tk)(b:Int)(c:Int)(d:Int)(e:Int)(i:Int)(j:Int)(k:Int)(l:Bool)(o:List It)(p:Str):Option ((List Tk)×Int×Int×Int×Int×Int×Int×Int×Bool×(List It)×Str×Unit):=
  if(decide (c=(0:Int))) then
  ((Zci.g a b).bind fun y1=>
  some (a,y1.2.1,y1.2.2.1,d,e,i,j,k,l,y1.1,p,()))
  else(some (a,b,c,d,e,i,j,k,l,o,p,()))
def f(n:Nat)(a:Str)(b:List Tk)(c:Int)(d:Int)(e:Int)(i:Int)(j:Int)(k:Int)(l:Int)(o:Bool)(p:List It)(q:Str):Option ((List Tk)×Int×Int×Int×Int×Int×Int×Int×Bool×(List It)×Str×Unit):=
  if(!(decide (a=([]:Str)))) then
  ((Zck.g (3:Int) b c d).bind fun y1=>
  (Zbf.g (decide (y1.1=a)) y1.2.1 y1.2.2.1 y1.2.2.2.1).bind fun y2=>
  Zby.j2 n y2.1 y2.2.1 y2.2.2.1 e i j k l o p q)
  else(Zby.j2 n b c d e i j k l o p q)
def g(a:Str)(b:List Tk)(c:Int)(d:Int)(e:Int)(i:Int)(j:Int)(k:Int)(l:Int)(o:Bool)(p:List It)(q:Str):Option ((List Tk)×Int×Int×Int×Int×Int×Int×Int×Bool×(List It)×Str×Unit):=f (1000+a.length+b.length+c.toNat+d.toNat+e.toNat+i.toNat+j.toNat+k.toNat+l.toNat+p.length+q.length) a b c d e i j k l o p q
end Zby
namespace Zcs
def j4(n:Nat)(a:Int)(b:Bool):Option (Bool×Unit):=
  if(!b) then
  (if(decide (a=(95:Int)))=false then
  (if(decide ((48:Int)<=a)) then(some ((decide (a<=(57:Int))),()))
  else(some (false,())))
  else(some (true,())))
  else(some (false,()))
def f(n:Nat)(a:Int)(b:Bool):Option (Bool×Unit):=
  if(decide ((65:Int)<=a)) then
  (if(decide (a<=(90:Int))) then
  (if(decide (a<=(90:Int))) then(some (true,()))
  else(Zcs.j4 n a b))
  else
  (if(decide ((97:Int)<=a)) then
  (if(decide (a<=(122:Int))) then(some (true,()))
  else(Zcs.j4 n a b))
  else(Zcs.j4 n a b)))
  else
  (if(decide ((97:Int)<=a)) then
  (if(decide (a<=(122:Int))) then(some (true,()))
  else(Zcs.j4 n a b))
  else(Zcs.j4 n a b))
def g(a:Int)(b:Bool):Option (Bool×Unit):=f (1000+a.toNat) a b
end Zcs
namespace Zbg
def l4(n:Nat):Nat->Str->Int->Int->Option (Bool×Unit)
 |0,_,_,_=>none
 |m+1,a,b,c=>
  if(decide (c<b)) then
  (if 0<=c/\c<(a.length:Int) then
  ((Zcs.g (bt a c) (decide (c=(0:Int)))).bind fun y1=>
  if(!y1.1) then(some (false,()))
  else((Zbg.l4 n m) a b (IntKind.i64.wrap (c+(1:Int))))) else none)
  else
  (if 0<=(0:Int)/\(0:Int)<(a.length:Int) then
  (if(decide ((bt a (0:Int))=(82:Int))) then
  (if(decide ((a.length:Int)=(2:Int)))=false then
  (if(decide ((a.length:Int)=(3:Int))) then
  (if 0<=(1:Int)/\(1:Int)<=(a.length:Int) then
  ((L.trimO ((a.take (((a.length:Int)).toNat)).drop (((1:Int)).toNat)) ([48,49,50,51,52,53,54,55,56,57]:Str)).bind fun y2=>
  some ((!(decide (y2.1=([]:Str)))),())) else none)
  else(some (true,())))
  else
  (if 0<=(1:Int)/\(1:Int)<=(a.length:Int) then
  ((L.trimO ((a.take (((a.length:Int)).toNat)).drop (((1:Int)).toNat)) ([48,49,50,51,52,53,54,55,56,57]:Str)).bind fun y3=>
  some ((!(decide (y3.1=([]:Str)))),())) else none))
  else(some (true,()))) else none)
def f(n:Nat)(a:Str):Option (Bool×Unit):=
  if(decide ((a.length:Int)=(0:Int)))=false then
  (if(decide ((12:Int)<(a.length:Int))) then(some (false,()))
  else(Zbg.l4 n n a (a.length:Int) (0:Int)))
  else(some (false,()))
def g(a:Str):Option (Bool×Unit):=f (1000+a.length) a
end Zbg
namespace Zem
def f(n:Nat)(a:List Tk)(b:Int)(c:Int)(d:Int)(e:Int)(i:Int)(j:Int)(k:Int)(l:Bool)(o:List It)(p:Str):Option ((List Tk)×Int×Int×Int×Int×Int×Int×Int×Bool×(List It)×Str×Unit):=
  (Zck.g (1:Int) a b c).bind fun y1=>
  (Zbg.g y1.1).bind fun y2=>
  (Zbf.g y2.1 y1.2.1 y1.2.2.1 y1.2.2.2.1).bind fun y3=>
  some (y3.1,y3.2.1,y3.2.2.1,d,e,i,j,k,l,o,y1.1,())
def g(a:List Tk)(b:Int)(c:Int)(d:Int)(e:Int)(i:Int)(j:Int)(k:Int)(l:Bool)(o:List It)(p:Str):Option ((List Tk)×Int×Int×Int×Int×Int×Int×Int×Bool×(List It)×Str×Unit):=f (1000+a.length+b.toNat+c.toNat+d.toNat+e.toNat+i.toNat+j.toNat+k.toNat+o.length+p.length) a b c d e i j k l o p
end Zem
namespace Zac
def j20(n:Nat)(iT:(List Tk)->Str->Int->Int->Int->Int->Int->Int->Int->Int->Int->Bool->(List It)->Str->(List Tk)->Int->Int->Option (Str×Int×Int×Int×Int×Int×Bool×(List It)×Str×Int×Unit))(a:List Tk)(b:Str)(c:Int)(d:Int)(e:Int)(i:Int)(j:Int)(k:Int)(l:Int)(o:Int)(p:Int)(q:Bool)(r:List It)(s:Str)(t:List Tk)(u:Int)(v:Int):Option (Str×Int×Int×Int×Int×Int×Bool×(List It)×Str×Int×Unit):=
  iT a b c d e (IntKind.i64.wrap (i+(1:Int))) j k l o p q r s t u v
def j19(n:Nat)(iT:(List Tk)->Str->Int->Int->Int->Int->Int->Int->Int->Int->Int->Bool->(List It)->Str->(List Tk)->Int->Int->Option (Str×Int×Int×Int×Int×Int×Bool×(List It)×Str×Int×Unit))(a:List Tk)(b:Str)(c:Int)(d:Int)(e:Int)(i:Int)(j:Int)(k:Int)(l:Int)(o:Int)(p:Int)(q:Int)(r:Bool)(s:List It)(t:Str)(u:List Tk)(v:Int)(w:Int):Option (Str×Int×Int×Int×Int×Int×Bool×(List It)×Str×Int×Unit):=
  if 0<=e/\e<((L.opsR k c).length:Int) then
  (if((L.opsR k c).getD (e).toNat (((0,[]):Fn),(((0,[]):Fn),()))).1=K.rdA then((Zdt.g K.atA u v w k l o p q r s t).bind fun y2=>
  Zac.j20 n iT a b c d i j y2.2.2.2.1 y2.2.2.2.2.1 y2.2.2.2.2.2.1 y2.2.2.2.2.2.2.1 y2.2.2.2.2.2.2.2.1 y2.2.2.2.2.2.2.2.2.1 y2.2.2.2.2.2.2.2.2.2.1 y2.2.2.2.2.2.2.2.2.2.2.1 y2.1 y2.2.1 y2.2.2.1)
  else if((L.opsR k c).getD (e).toNat (((0,[]):Fn),(((0,[]):Fn),()))).1=K.rdB then((Zdt.g K.atB u v w k l o p q r s t).bind fun y3=>
  Zac.j20 n iT a b c d i j y3.2.2.2.1 y3.2.2.2.2.1 y3.2.2.2.2.2.1 y3.2.2.2.2.2.2.1 y3.2.2.2.2.2.2.2.1 y3.2.2.2.2.2.2.2.2.1 y3.2.2.2.2.2.2.2.2.2.1 y3.2.2.2.2.2.2.2.2.2.2.1 y3.1 y3.2.1 y3.2.2.1)
  else if((L.opsR k c).getD (e).toNat (((0,[]):Fn),(((0,[]):Fn),()))).1=K.rdC then((Zdt.g K.atC u v w k l o p q r s t).bind fun y4=>
  Zac.j20 n iT a b c d i j y4.2.2.2.1 y4.2.2.2.2.1 y4.2.2.2.2.2.1 y4.2.2.2.2.2.2.1 y4.2.2.2.2.2.2.2.1 y4.2.2.2.2.2.2.2.2.1 y4.2.2.2.2.2.2.2.2.2.1 y4.2.2.2.2.2.2.2.2.2.2.1 y4.1 y4.2.1 y4.2.2.1)
  else if((L.opsR k c).getD (e).toNat (((0,[]):Fn),(((0,[]):Fn),()))).1=K.rdE then((Zby.g ([]:Str) u v w k l o p q r s t).bind fun y5=>
  Zac.j20 n iT a b c d i j y5.2.2.2.1 y5.2.2.2.2.1 y5.2.2.2.2.2.1 y5.2.2.2.2.2.2.1 y5.2.2.2.2.2.2.2.1 y5.2.2.2.2.2.2.2.2.1 y5.2.2.2.2.2.2.2.2.2.1 y5.2.2.2.2.2.2.2.2.2.2.1 y5.1 y5.2.1 y5.2.2.1)
  else if((L.opsR k c).getD (e).toNat (((0,[]):Fn),(((0,[]):Fn),()))).1=K.rdQ then((Zby.g ([61]:Str) u v w k l o p q r s t).bind fun y6=>
  Zac.j20 n iT a b c d i j y6.2.2.2.1 y6.2.2.2.2.1 y6.2.2.2.2.2.1 y6.2.2.2.2.2.2.1 y6.2.2.2.2.2.2.2.1 y6.2.2.2.2.2.2.2.2.1 y6.2.2.2.2.2.2.2.2.2.1 y6.2.2.2.2.2.2.2.2.2.2.1 y6.1 y6.2.1 y6.2.2.1)
  else if((L.opsR k c).getD (e).toNat (((0,[]):Fn),(((0,[]):Fn),()))).1=K.rdN then((Zem.g u v w k l o p q r s t).bind fun y7=>
  Zac.j20 n iT a b c d i j y7.2.2.2.1 y7.2.2.2.2.1 y7.2.2.2.2.2.1 y7.2.2.2.2.2.2.1 y7.2.2.2.2.2.2.2.1 y7.2.2.2.2.2.2.2.2.1 y7.2.2.2.2.2.2.2.2.2.1 y7.2.2.2.2.2.2.2.2.2.2.1 y7.1 y7.2.1 y7.2.2.1)
  else none) else none
def j17(n:Nat)(iT:(List Tk)->Str->Int->Int->Int->Int->Int->Int->Int->Int->Int->Bool->(List It)->Str->(List Tk)->Int->Int->Option (Str×Int×Int×Int×Int×Int×Bool×(List It)×Str×Int×Unit))(a:List Tk)(b:Str)(c:Int)(d:Int)(e:Int)(i:Int)(j:Int)(k:Int)(l:Int)(o:Int)(p:Int)(q:Int)(r:Bool)(s:List It)(t:Str)(u:List Tk)(v:Int)(w:Int):Option (Str×Int×Int×Int×Int×Int×Bool×(List It)×Str×Int×Unit):=
  if(decide (e=(IntKind.i64.wrap (d-(1:Int))))) then
  ((Zel.g u v w k l o p q r s t).bind fun y1=>
  Zac.j19 n iT a b c d e i j y1.2.2.2.1 y1.2.2.2.2.1 y1.2.2.2.2.2.1 y1.2.2.2.2.2.2.1 y1.2.2.2.2.2.2.2.1 y1.2.2.2.2.2.2.2.2.1 y1.2.2.2.2.2.2.2.2.2.1 y1.2.2.2.2.2.2.2.2.2.2.1 y1.1 y1.2.1 y1.2.2.1)
  else(Zac.j19 n iT a b c d e i j k l o p q r s t u v w)
def j22(n:Nat)(a:Str)(b:Int)(c:Int)(d:Int)(e:Int)(i:Int)(j:Bool)(k:List It)(l:Str)(o:List Tk)(p:Int)(q:Int):Option (Str×Int×Int×Int×Int×Int×Bool×(List It)×Str×Int×Unit):=
  if(decide (q≠(0:Int))) then
  (some (([]:Str),0,0,0,0,0,false,[],([]:Str),q,()))
  else(some (a,b,c,d,e,i,j,k,l,(0:Int),()))
def l13(n:Nat):Nat->(List Tk)->Str->Int->Int->Int->Int->Int->Int->Int->Int->Int->Bool->(List It)->Str->(List Tk)->Int->Int->Option (Str×Int×Int×Int×Int×Int×Bool×(List It)×Str×Int×Unit)
 |0,_,_,_,_,_,_,_,_,_,_,_,_,_,_,_,_,_=>none
 |m+1,a,b,c,d,e,i,j,k,l,o,p,q,r,s,t,u,v=>
  if(decide (i<e)) then
  (if(decide ((0:Int)<i)) then
  ((Zck.g (3:Int) t u v).bind fun y1=>
  (Zbf.g (decide (y1.1=([44]:Str))) y1.2.1 y1.2.2.1 y1.2.2.2.1).bind fun y2=>
  Zac.j17 n (Zac.l13 n m) a b c d i e i j k l o p q r s y2.1 y2.2.1 y2.2.2.1)
  else
  (Zac.j17 n (Zac.l13 n m) a b c d i e i j k l o p q r s t u v))
  else
  ((Zbf.g (decide ((a.length:Int)<=u)) t u v).bind fun y3=>
  Zac.j22 n b j k l o p q r s y3.1 y3.2.1 y3.2.2.1)
def j9(n:Nat)(a:List Tk)(b:Str)(c:Int)(d:Int)(e:Bool)(i:Int)(j:Int)(k:Int)(l:Int)(o:Int)(p:Bool)(q:List It)(r:Str)(s:List Tk)(t:Int)(u:Int):Option (Str×Int×Int×Int×Int×Int×Bool×(List It)×Str×Int×Unit):=
  Zac.l13 n n a b d ((L.opsR c d).length:Int) ((L.opsR c d).length:Int) (0:Int) c d 0 0 0 e ([]) ([]:Str) s (IntKind.i64.wrap (t+(1:Int))) u
def j5(n:Nat)(a:List Tk)(b:Str)(c:Int)(d:Int)(e:Int)(i:Int)(j:Int)(k:Bool)(l:List It)(o:Str)(p:List Tk)(q:Int)(r:Int):Option (Str×Int×Int×Int×Int×Int×Bool×(List It)×Str×Int×Unit):=
  if(decide (r=(0:Int))) then
  (if(decide (q<(a.length:Int))) then
  (if 0<=q/\q<(a.length:Int) then
  ((L.nameOfO ((((a.getD (q).toNat zT).2).2).1)).bind fun y1=>
  if y1.2.2.2.1 then
  ((Zek.g y1.1).bind fun y2=>
  if((decide ((a.getD (q).toNat zT).1=(4:Int))) == y2.1) then
  (if(decide ((a.getD (q).toNat zT).1=(4:Int)))=false then
  ((Zbf.g (decide ((a.getD (q).toNat zT).1=(1:Int))) p q r).bind fun y3=>
  Zac.j9 n a b y1.1 y1.2.1 y1.2.2.1 c d e i j k l o y3.1 y3.2.1 y3.2.2.1)
  else
  ((Zbf.g true p q r).bind fun y4=>
  Zac.j9 n a b y1.1 y1.2.1 y1.2.2.1 c d e i j k l o y4.1 y4.2.1 y4.2.2.1))
  else
  ((Zbf.g false p q r).bind fun y5=>
  Zac.j9 n a b y1.1 y1.2.1 y1.2.2.1 c d e i j k l o y5.1 y5.2.1 y5.2.2.1))
  else
  ((Zbf.g false p q r).bind fun y6=>
  Zac.j9 n a b y1.1 y1.2.1 y1.2.2.1 c d e i j k l o y6.1 y6.2.1 y6.2.2.1)) else none)
  else(Zac.j22 n b c d e i j k l o p q r))
  else(Zac.j22 n b c d e i j k l o p q r)
def f(n:Nat)(a:List Tk):Option (Str×Int×Int×Int×Int×Int×Bool×(List It)×Str×Int×Unit):=
  if(decide ((1:Int)<(a.length:Int))) then
  (if 0<=(0:Int)/\(0:Int)<(a.length:Int) then
  (if(decide ((a.getD ((0:Int)).toNat zT).1=(1:Int))) then
  (if 0<=(1:Int)/\(1:Int)<(a.length:Int) then
  (if(decide ((a.getD ((1:Int)).toNat zT).1=(3:Int))) then
  (if 0<=(1:Int)/\(1:Int)<(a.length:Int) then
  (if(decide ((((a.getD ((1:Int)).toNat zT).2).2).1=([58]:Str))) then
  (if 0<=(0:Int)/\(0:Int)<(a.length:Int) then
  ((Zaf.g ((((a.getD ((0:Int)).toNat zT).2).2).1)).bind fun y1=>
  (Zbf.g y1.1 a (2:Int) 0).bind fun y2=>
  Zac.j5 n a ((((a.getD ((0:Int)).toNat zT).2).2).1) 0 0 0 0 0 false ([]) ([]:Str) y2.1 y2.2.1 y2.2.2.1) else none)
  else
  (Zac.j5 n a ([]:Str) 0 0 0 0 0 false ([]) ([]:Str) a 0 0)) else none)
  else
  (Zac.j5 n a ([]:Str) 0 0 0 0 0 false ([]) ([]:Str) a 0 0)) else none)
  else
  (Zac.j5 n a ([]:Str) 0 0 0 0 0 false ([]) ([]:Str) a 0 0)) else none)
  else
  (Zac.j5 n a ([]:Str) 0 0 0 0 0 false ([]) ([]:Str) a 0 0)
def g(a:List Tk):Option (Str×Int×Int×Int×Int×Int×Bool×(List It)×Str×Int×Unit):=f (1000+a.length) a
end Zac
namespace Zdu
def f(n:Nat)(a:Int)(b:Int)(c:Int):Option (Bool×Unit):=
  if(decide (b<=a)) then(some ((decide (a<=c)),()))
  else(some (false,()))
def g(a:Int)(b:Int)(c:Int):Option (Bool×Unit):=f (1000+a.toNat+b.toNat+c.toNat) a b c
end Zdu
namespace Zfi
def f(n:Nat)(a:Bool):Option (Int×Unit):=
  if a then(some ((1:Int),()))
  else(some ((0:Int),()))
def g(a:Bool):Option (Int×Unit):=f (1000) a
end Zfi
namespace Zbz
def f(n:Nat)(a:Int)(b:Bool)(c:Bool):Option (Int×Int×Int×Unit):=
  (Zfi.g b).bind fun y1=>
  (Zfi.g c).bind fun y2=>
  some ((28:Int),(4:Int),(ay .or .i64 (ay .or .i64 (IntKind.i64.wrap (a*2 ^ (min (2:Int).toNat IntKind.i64.bits))) (IntKind.i64.wrap ((IntKind.i64.wrap y1.1)*2 ^ (min (1:Int).toNat IntKind.i64.bits)))) (IntKind.i64.wrap y2.1)),())
def g(a:Int)(b:Bool)(c:Bool):Option (Int×Int×Int×Unit):=f (1000+a.toNat) a b c
end Zbz
namespace Zen
def f(n:Nat)(a:Int)(b:Int)(c:Int)(d:Int):Option (Int×Int×Unit):=
  if a<0 then none else
  (if b<0 then none else
  (if a<0 then none else
  (some ((ay .or .u32 (ay .andNot .u32 c (IntKind.u32.wrap ((1:Int)*2 ^ (min a.toNat IntKind.u32.bits)))) (IntKind.u32.wrap ((ay .and .u32 ((d).fdiv (2 ^ (min b.toNat IntKind.u32.bits))) (1:Int))*2 ^ (min a.toNat IntKind.u32.bits)))),d,()))))
def g(a:Int)(b:Int)(c:Int)(d:Int):Option (Int×Int×Unit):=f (1000+a.toNat+b.toNat+c.toNat+d.toNat) a b c d
end Zen
namespace Zdn
def l2(n:Nat):Nat->Int->Int->Int->Int->Int->Option (Int×Int×Unit)
 |0,_,_,_,_,_=>none
 |m+1,a,b,c,d,e=>
  if(decide (c<(32:Int))) then
  (if(decide ((IntKind.i64.wrap (c-a))<b)) then
  ((Zen.g c (IntKind.i64.wrap (c-a)) d e).bind fun y1=>
  (Zdn.l2 n m) a b (IntKind.i64.wrap (c+(1:Int))) y1.1 y1.2.1)
  else(some (d,e,())))
  else(some (d,e,()))
def f(n:Nat)(a:Int)(b:Int)(c:Int)(d:Int):Option (Int×Int×Unit):=
  if(decide (b<(1:Int)))=false then
  (if(decide ((32:Int)<=a))=false then
  (if(decide (a<=(IntKind.i64.wrap (0-b)))) then(some (c,d,()))
  else(Zdn.l2 n n a b (mx a (0:Int)) c d))
  else(some (c,d,())))
  else(some (c,d,()))
def g(a:Int)(b:Int)(c:Int)(d:Int):Option (Int×Int×Unit):=f (1000+a.toNat+b.toNat+c.toNat+d.toNat) a b c d
end Zdn
namespace Zeo
def f(n:Nat)(a:Int)(b:Int)(c:Int)(d:Int):Option (Int×Unit):=
  (Zdn.g b c a d).bind fun y1=>
  some (y1.1,())
def g(a:Int)(b:Int)(c:Int)(d:Int):Option (Int×Unit):=f (1000+a.toNat+b.toNat+c.toNat+d.toNat) a b c d
end Zeo
namespace Zbc
def l3(n:Nat):Nat->Int->(List (Int×Int×Int×Unit))->Int->Int->Option (Int×Unit)
 |0,_,_,_,_=>none
 |m+1,a,b,c,d=>
  if(decide (d<c)) then
  (if 0<=d/\d<(b.length:Int) then
  (if 0<=(0:Int)/\(0:Int)<(3:Int) then
  (if 0<=(1:Int)/\(1:Int)<(3:Int) then
  (if 0<=(2:Int)/\(2:Int)<(3:Int) then
  ((Zeo.g a ([(b.getD (d).toNat ((0:Int),((0:Int),((0:Int),())))).1,((b.getD (d).toNat ((0:Int),((0:Int),((0:Int),())))).2).1,(((b.getD (d).toNat ((0:Int),((0:Int),((0:Int),())))).2).2).1].getD ((0:Int)).toNat 0) ([(b.getD (d).toNat ((0:Int),((0:Int),((0:Int),())))).1,((b.getD (d).toNat ((0:Int),((0:Int),((0:Int),())))).2).1,(((b.getD (d).toNat ((0:Int),((0:Int),((0:Int),())))).2).2).1].getD ((1:Int)).toNat 0) (IntKind.u32.wrap ([(b.getD (d).toNat ((0:Int),((0:Int),((0:Int),())))).1,((b.getD (d).toNat ((0:Int),((0:Int),((0:Int),())))).2).1,(((b.getD (d).toNat ((0:Int),((0:Int),((0:Int),())))).2).2).1].getD ((2:Int)).toNat 0))).bind fun y1=>
  (Zbc.l3 n m) y1.1 b c (IntKind.i64.wrap (d+(1:Int)))) else none) else none) else none) else none)
  else(some (a,()))
def f(n:Nat)(a:List (Int×Int×Int×Unit)):Option (Int×Unit):=
  Zbc.l3 n n (0:Int) a (a.length:Int) (0:Int)
def g(a:List (Int×Int×Int×Unit)):Option (Int×Unit):=f (1000+a.length) a
end Zbc
namespace Zcl
def j14(n:Nat)(a:Int)(b:Int)(c:Int)(d:Int)(e:Int)(i:Int)(j:Bool)(k:Int)(l:Int)(o:Int):Option (Int×Unit):=
  (Zbz.g (3:Int) true j).bind fun y1=>
  (Zbc.g ([(y1.1,y1.2.1,y1.2.2.1,()),(k,l,o,()),((0:Int),(24:Int),i,())]:List (Int×Int×Int×Unit))).bind fun y2=>
  some (y2.1,())
def f(n:Nat)(a:Int)(b:Int)(c:Int)(d:Int)(e:Int)(i:Int)(j:Bool):Option (Int×Unit):=
  if(decide (a=(1:Int))) then
  ((Zbz.g (0:Int) j false).bind fun y1=>
  (Zbc.g ([(y1.1,y1.2.1,y1.2.2.1,()),((24:Int),(4:Int),c,()),((20:Int),(4:Int),d,()),((16:Int),(4:Int),b,()),((0:Int),(4:Int),e,())]:List (Int×Int×Int×Unit))).bind fun y2=>
  some (y2.1,()))
  else
  (if(decide (a=(3:Int))) then
  (if(decide (a=(3:Int))) then
  ((Zbz.g (0:Int) true (decide (a=(4:Int)))).bind fun y3=>
  (Zbc.g ([(y3.1,y3.2.1,y3.2.2.1,()),((24:Int),(4:Int),c,())]:List (Int×Int×Int×Unit))).bind fun y4=>
  some (y4.1,()))
  else
  (if(decide (a=(2:Int))) then
  ((Zbz.g (1:Int) j (decide (i<(0:Int)))).bind fun y5=>
  (Zbc.g ([(y5.1,y5.2.1,y5.2.2.1,()),((24:Int),(4:Int),c,()),((20:Int),(4:Int),d,()),((16:Int),(4:Int),b,()),((0:Int),(16:Int),i,())]:List (Int×Int×Int×Unit))).bind fun y6=>
  some (y6.1,()))
  else
  (if(decide (a=(5:Int))) then
  ((Zbz.g (2:Int) (decide ((2:Int)<=b)) (decide ((Int.tmod b (2:Int))=(1:Int)))).bind fun y7=>
  (Zbc.g ([(y7.1,y7.2.1,y7.2.2.1,()),((24:Int),(4:Int),c,()),((20:Int),(4:Int),d,()),((0:Int),(20:Int),i,())]:List (Int×Int×Int×Unit))).bind fun y8=>
  some (y8.1,()))
  else
  (if(decide (a=(6:Int))) then
  ((Zbz.g (3:Int) false j).bind fun y9=>
  (Zbc.g ([(y9.1,y9.2.1,y9.2.2.1,()),((24:Int),(4:Int),b,()),((0:Int),(4:Int),e,())]:List (Int×Int×Int×Unit))).bind fun y10=>
  some (y10.1,()))
  else(Zcl.j14 n a b c d e i j (24:Int) (4:Int) b)))))
  else
  (if(decide (a=(4:Int))) then
  ((Zbz.g (0:Int) true (decide (a=(4:Int)))).bind fun y11=>
  (Zbc.g ([(y11.1,y11.2.1,y11.2.2.1,()),((24:Int),(4:Int),c,())]:List (Int×Int×Int×Unit))).bind fun y12=>
  some (y12.1,()))
  else
  (if(decide (a=(2:Int))) then
  ((Zbz.g (1:Int) j (decide (i<(0:Int)))).bind fun y13=>
  (Zbc.g ([(y13.1,y13.2.1,y13.2.2.1,()),((24:Int),(4:Int),c,()),((20:Int),(4:Int),d,()),((16:Int),(4:Int),b,()),((0:Int),(16:Int),i,())]:List (Int×Int×Int×Unit))).bind fun y14=>
  some (y14.1,()))
  else
  (if(decide (a=(5:Int))) then
  ((Zbz.g (2:Int) (decide ((2:Int)<=b)) (decide ((Int.tmod b (2:Int))=(1:Int)))).bind fun y15=>
  (Zbc.g ([(y15.1,y15.2.1,y15.2.2.1,()),((24:Int),(4:Int),c,()),((20:Int),(4:Int),d,()),((0:Int),(20:Int),i,())]:List (Int×Int×Int×Unit))).bind fun y16=>
  some (y16.1,()))
  else
  (if(decide (a=(6:Int))) then
  ((Zbz.g (3:Int) false j).bind fun y17=>
  (Zbc.g ([(y17.1,y17.2.1,y17.2.2.1,()),((24:Int),(4:Int),b,()),((0:Int),(4:Int),e,())]:List (Int×Int×Int×Unit))).bind fun y18=>
  some (y18.1,()))
  else(Zcl.j14 n a b c d e i j (24:Int) (4:Int) b))))))
def g(a:Int)(b:Int)(c:Int)(d:Int)(e:Int)(i:Int)(j:Bool):Option (Int×Unit):=f (1000+a.toNat+b.toNat+c.toNat+d.toNat+e.toNat+i.toNat) a b c d e i j
end Zcl
namespace Zep
def f(n:Nat)(a:Int)(b:Int)(c:Int)(d:Int):Option (Int×Int×Unit):=
  if a<0 then none else
  (if b<0 then none else
  (some ((ay .or .u32 c (IntKind.u32.wrap ((ay .and .u32 ((d).fdiv (2 ^ (min a.toNat IntKind.u32.bits))) (1:Int))*2 ^ (min b.toNat IntKind.u32.bits)))),d,())))
def g(a:Int)(b:Int)(c:Int)(d:Int):Option (Int×Int×Unit):=f (1000+a.toNat+b.toNat+c.toNat+d.toNat) a b c d
end Zep
namespace Zdo
def l2(n:Nat):Nat->Int->Int->Int->Int->Int->Option (Int×Int×Unit)
 |0,_,_,_,_,_=>none
 |m+1,a,b,c,d,e=>
  if(decide (c<(32:Int))) then
  (if(decide ((IntKind.i64.wrap (c-a))<b)) then
  ((Zep.g c (IntKind.i64.wrap (c-a)) d e).bind fun y1=>
  (Zdo.l2 n m) a b (IntKind.i64.wrap (c+(1:Int))) y1.1 y1.2.1)
  else(some (d,e,())))
  else(some (d,e,()))
def f(n:Nat)(a:Int)(b:Int)(c:Int)(d:Int):Option (Int×Int×Unit):=
  if(decide (b<(1:Int)))=false then
  (if(decide ((32:Int)<=a))=false then
  (if(decide (a<=(IntKind.i64.wrap (0-b)))) then(some (c,d,()))
  else(Zdo.l2 n n a b (mx a (0:Int)) c d))
  else(some (c,d,())))
  else(some (c,d,()))
def g(a:Int)(b:Int)(c:Int)(d:Int):Option (Int×Int×Unit):=f (1000+a.toNat+b.toNat+c.toNat+d.toNat) a b c d
end Zdo
namespace Zeq
def f(n:Nat)(a:Int)(b:Int)(c:Int):Option (Int×Unit):=
  (Zdo.g b c 0 a).bind fun y1=>
  some (y1.1,())
def g(a:Int)(b:Int)(c:Int):Option (Int×Unit):=f (1000+a.toNat+b.toNat+c.toNat) a b c
end Zeq
namespace Zbh
def f(n:Nat)(a:Int)(b:Int)(c:Int):Option (Int×Unit):=
  (Zeq.g c a b).bind fun y1=>
  some ((IntKind.i64.wrap y1.1),())
def g(a:Int)(b:Int)(c:Int):Option (Int×Unit):=f (1000+a.toNat+b.toNat+c.toNat) a b c
end Zbh
namespace Zfe
def f(n:Nat)(a:Int):Option (Int×Unit):=
  some ((mn (mx a (1:Int)) (32:Int)),())
def g(a:Int):Option (Int×Unit):=f (1000+a.toNat) a
end Zfe
namespace Zec
def f(n:Nat)(a:Int)(b:Int):Option (Int×Unit):=
  (Zfe.g b).bind fun y1=>
  if(IntKind.i64.wrap ((32:Int)-y1.1))<0 then none else
  (if(IntKind.i64.wrap ((32:Int)-y1.1))<0 then none else
  (some ((IntKind.i64.wrap (((IntKind.i32.wrap (IntKind.u32.wrap (a*2 ^ (min (IntKind.i64.wrap ((32:Int)-y1.1)).toNat IntKind.u32.bits))))).fdiv (2 ^ (min (IntKind.i64.wrap ((32:Int)-y1.1)).toNat IntKind.i32.bits)))),())))
def g(a:Int)(b:Int):Option (Int×Unit):=f (1000+a.toNat+b.toNat) a b
end Zec
namespace Zca
def j16(n:Nat)(a:Int)(b:Int)(c:Int)(d:Int)(e:Int)(i:Int)(j:Bool)(k:Int)(l:Int)(o:Int)(p:Int)(q:Int)(r:Int)(s:Bool):Option (Int×Int×Int×Int×Int×Int×Bool×Unit):=
  some (k,l,o,p,q,r,s,())
def f(n:Nat)(a:Int):Option (Int×Int×Int×Int×Int×Int×Bool×Unit):=
  (Zbh.g (29:Int) (1:Int) a).bind fun y1=>
  (Zbh.g (28:Int) (1:Int) a).bind fun y2=>
  (Zbh.g (24:Int) (4:Int) a).bind fun y3=>
  (Zbh.g (20:Int) (4:Int) a).bind fun y4=>
  (Zbh.g (16:Int) (4:Int) a).bind fun y5=>
  (Zbh.g (30:Int) (2:Int) a).bind fun y6=>
  if(decide (y6.1=(0:Int))) then
  ((Zbh.g (0:Int) (4:Int) a).bind fun y7=>
  if(decide (y1.1=(1:Int))) then
  (if(decide (y5.1=(0:Int))) then
  ((Zbh.g (28:Int) (1:Int) a).bind fun y8=>
  Zca.j16 n 0 0 0 0 0 0 false (IntKind.i64.wrap ((3:Int)+y8.1)) 0 y3.1 0 0 0 false)
  else
  (Zca.j16 n 0 0 0 0 0 0 false (1:Int) y5.1 y3.1 y4.1 y7.1 0 (decide (y1.1=(1:Int)))))
  else
  (Zca.j16 n 0 0 0 0 0 0 false (1:Int) y5.1 y3.1 y4.1 y7.1 0 (decide (y1.1=(1:Int)))))
  else
  (if(decide (y6.1=(1:Int))) then
  ((Zbh.g (0:Int) (16:Int) a).bind fun y9=>
  (Zbh.g (28:Int) (1:Int) a).bind fun y10=>
  Zca.j16 n 0 0 0 0 0 0 false (2:Int) y5.1 y3.1 y4.1 0 (IntKind.i64.wrap (y9.1-(IntKind.i64.wrap (y10.1*2 ^ (min (16:Int).toNat IntKind.i64.bits))))) (decide (y1.1=(1:Int))))
  else
  (if(decide (y6.1=(2:Int))) then
  ((Zbh.g (29:Int) (1:Int) a).bind fun y11=>
  (Zbh.g (28:Int) (1:Int) a).bind fun y12=>
  (Zec.g a (20:Int)).bind fun y13=>
  Zca.j16 n 0 0 0 0 0 0 false (5:Int) (IntKind.i64.wrap ((IntKind.i64.wrap (y11.1*(2:Int)))+y12.1)) y3.1 y4.1 0 y13.1 false)
  else
  ((Zbh.g (0:Int) (4:Int) a).bind fun y14=>
  if(decide (y1.1=(1:Int))) then
  ((Zec.g a (24:Int)).bind fun y15=>
  Zca.j16 n 0 0 0 0 0 0 false (7:Int) y3.1 0 0 (0:Int) y15.1 (decide (y2.1=(1:Int))))
  else
  (Zca.j16 n 0 0 0 0 0 0 false (6:Int) y3.1 0 0 y14.1 0 (decide (y2.1=(1:Int)))))))
def g(a:Int):Option (Int×Int×Int×Int×Int×Int×Bool×Unit):=f (1000+a.toNat) a
end Zca
namespace Zbm
def j10(n:Nat)(a:Int)(b:Int)(c:Int)(d:Int)(e:Int)(i:Int)(j:Bool):Option (Bool×Unit):=
  if(!j)=false then
  ((Zdu.g b (8:Int) (10:Int)).bind fun y1=>
  some (y1.1,()))
  else(some (true,()))
def f(n:Nat)(a:Int)(b:Int)(c:Int)(d:Int)(e:Int)(i:Int)(j:Bool):Option (Bool×Unit):=
  (Zdu.g a (1:Int) (7:Int)).bind fun y1=>
  if(!y1.1)=false then
  ((Zdu.g b (0:Int) (15:Int)).bind fun y2=>
  if(!y2.1)=false then
  ((Zcl.g a b c d e i j).bind fun y3=>
  (Zca.g y3.1).bind fun y4=>
  if(!(decide (a=y4.1)&&(decide (b=y4.2.1)&&(decide (c=y4.2.2.1)&&(decide (d=y4.2.2.2.1)&&(decide (e=y4.2.2.2.2.1)&&(decide (i=y4.2.2.2.2.2.1)&&((j == y4.2.2.2.2.2.2.1)&&true)))))))) then(some (false,()))
  else
  (if(decide (a=(1:Int))) then
  (if(decide (a=(1:Int))) then
  (if(decide (b=(0:Int))) then
  (if(decide (d=(0:Int))) then
  (if(decide (a=(2:Int)))=false then
  (if(!j) then
  (if(!j)=false then(some ((decide ((0:Int)<=i)),()))
  else(some (true,())))
  else(some (false,())))
  else
  (if(!j)=false then(some ((decide ((0:Int)<=i)),()))
  else(some (true,()))))
  else(some (false,())))
  else
  (if(decide ((11:Int)<b)) then(some (false,()))
  else(Zbm.j10 n a b c d e i j)))
  else(some (true,())))
  else
  (if(decide (a=(2:Int))) then
  (if(decide (b=(0:Int))) then
  (if(decide (d=(0:Int))) then
  (if(decide (a=(2:Int)))=false then
  (if(!j) then
  (if(!j)=false then(some ((decide ((0:Int)<=i)),()))
  else(some (true,())))
  else(some (false,())))
  else
  (if(!j)=false then(some ((decide ((0:Int)<=i)),()))
  else(some (true,()))))
  else(some (false,())))
  else
  (if(decide ((11:Int)<b)) then(some (false,()))
  else(Zbm.j10 n a b c d e i j)))
  else(some (true,())))))
  else(some (false,())))
  else(some (false,()))
def g(a:Int)(b:Int)(c:Int)(d:Int)(e:Int)(i:Int)(j:Bool):Option (Bool×Unit):=f (1000+a.toNat+b.toNat+c.toNat+d.toNat+e.toNat+i.toNat) a b c d e i j
end Zbm
namespace Zdv
def f(n:Nat)(a:Int)(b:Int)(c:Int)(d:Int)(e:Int)(i:Int)(j:Bool):Option (Int×Int×Unit):=
  (Zbm.g a b c d e i j).bind fun y1=>
  if(!y1.1) then(some ((0:Int),(1:Int),()))
  else
  ((Zcl.g a b c d e i j).bind fun y2=>
  some (y2.1,(0:Int),()))
def g(a:Int)(b:Int)(c:Int)(d:Int)(e:Int)(i:Int)(j:Bool):Option (Int×Int×Unit):=f (1000+a.toNat+b.toNat+c.toNat+d.toNat+e.toNat+i.toNat) a b c d e i j
end Zdv
end Rv
namespace Rv
open Go
set_option maxRecDepth 100000
namespace Zcd
def f(n:Nat)(a:Int)(b:List Tk)(c:Int)(d:Int):Option (Str×(List Tk)×Int×Int×Unit):=
  if(decide (d=(0:Int))) then
  (if(decide (c<(b.length:Int))) then
  (if 0<=c/\c<(b.length:Int) then
  (if(decide ((b.getD (c).toNat zT).1=a)) then
  (if 0<=c/\c<(b.length:Int) then
  (some ((((b.getD (c).toNat zT).2).2).1,b,c,d,())) else none)
  else(some (([]:Str),b,c,d,()))) else none)
  else(some (([]:Str),b,c,d,())))
  else(some (([]:Str),b,c,d,()))
def g(a:Int)(b:List Tk)(c:Int)(d:Int):Option (Str×(List Tk)×Int×Int×Unit):=f (1000+a.toNat+b.length+c.toNat+d.toNat) a b c d
end Zcd
namespace Zbd
def j4(n:Nat)(a:Int)(b:List Tk)(c:Int)(d:Int):Option (Int×(List Tk)×Int×Int×Unit):=
  some (a,b,(IntKind.i64.wrap (c+(1:Int))),d,())
def f(n:Nat)(a:List Tk)(b:Int)(c:Int):Option (Int×(List Tk)×Int×Int×Unit):=
  (Zcd.g (1:Int) a b c).bind fun y1=>
  (Zcj.g y1.1).bind fun y2=>
  if(!y2.2.1) then
  (if(decide (y1.2.2.2.1=(0:Int))) then
  (Zbd.j4 n y2.1 y1.2.1 y1.2.2.1 (22:Int))
  else
  (Zbd.j4 n y2.1 y1.2.1 y1.2.2.1 y1.2.2.2.1))
  else
  (Zbd.j4 n y2.1 y1.2.1 y1.2.2.1 y1.2.2.2.1)
def g(a:List Tk)(b:Int)(c:Int):Option (Int×(List Tk)×Int×Int×Unit):=f (1000+a.length+b.toNat+c.toNat) a b c
end Zbd
namespace Zbt
def j2(n:Nat)(a:List Tk)(b:Int)(c:Int):Option ((List Tk)×Int×Int×Unit):=
  some (a,(IntKind.i64.wrap (b+(1:Int))),c,())
def f(n:Nat)(a:Str)(b:List Tk)(c:Int)(d:Int):Option ((List Tk)×Int×Int×Unit):=
  (Zcd.g (3:Int) b c d).bind fun y1=>
  if(!(decide (y1.1=a))) then
  (if(decide (y1.2.2.2.1=(0:Int))) then(Zbt.j2 n y1.2.1 y1.2.2.1 (22:Int))
  else(Zbt.j2 n y1.2.1 y1.2.2.1 y1.2.2.2.1))
  else(Zbt.j2 n y1.2.1 y1.2.2.1 y1.2.2.2.1)
def g(a:Str)(b:List Tk)(c:Int)(d:Int):Option ((List Tk)×Int×Int×Unit):=f (1000+a.length+b.length+c.toNat+d.toNat) a b c d
end Zbt
namespace Zce
def f(n:Nat)(a:List Tk)(b:Int)(c:Int):Option ((List It)×(List Tk)×Int×Int×Unit):=
  if(decide (c≠(0:Int))) then(some ([],a,b,c,()))
  else
  ((Zei.g a b).bind fun y1=>
  some (y1.1,a,y1.2.1,y1.2.2.1,()))
def g(a:List Tk)(b:Int)(c:Int):Option ((List It)×(List Tk)×Int×Int×Unit):=f (1000+a.length+b.toNat+c.toNat) a b c
end Zce
namespace Zcm
def j7(n:Nat)(a:List Tk)(b:Int)(c:Int)(d:Int)(e:Int)(i:Int)(j:Int)(k:Int)(l:Bool)(o:List It)(p:Str)(q:Int)(r:Int)(s:Int)(t:Int)(u:Int)(v:Bool)(w:List It)(x:Str):Option (Int×Int×Int×Int×Int×Bool×(List It)×Str×(List Tk)×Int×Int×Unit):=
  some (d,e,i,j,k,l,o,p,a,b,c,())
def f(n:Nat)(a:Int)(b:Int)(c:Int)(d:Int)(e:Int)(i:Bool)(j:List It)(k:Str)(l:Int)(o:Int)(p:List Tk)(q:Int)(r:Int):Option (Int×Int×Int×Int×Int×Bool×(List It)×Str×(List Tk)×Int×Int×Unit):=
  (Zcd.g (1:Int) p q r).bind fun y1=>
  (Zcj.g y1.1).bind fun y2=>
  if y2.2.1 then
  ((Zbd.g y1.2.1 y1.2.2.1 y1.2.2.2.1).bind fun y3=>
  Zcm.j7 n y3.2.1 y3.2.2.1 y3.2.2.2.1 l b c d y3.1 i j k 0 0 0 0 0 false ([]) ([]:Str))
  else
  ((Zce.g y1.2.1 y1.2.2.1 y1.2.2.2.1).bind fun y4=>
  Zcm.j7 n y4.2.1 y4.2.2.1 y4.2.2.2.1 o b c d e i y4.1 k 0 0 0 0 0 false ([]) ([]:Str))
def g(a:Int)(b:Int)(c:Int)(d:Int)(e:Int)(i:Bool)(j:List It)(k:Str)(l:Int)(o:Int)(p:List Tk)(q:Int)(r:Int):Option (Int×Int×Int×Int×Int×Bool×(List It)×Str×(List Tk)×Int×Int×Unit):=f (1000+a.toNat+b.toNat+c.toNat+d.toNat+e.toNat+j.length+k.length+l.toNat+o.toNat+p.length+q.toNat+r.toNat) a b c d e i j k l o p q r
end Zcm
namespace Zaj
def j16(n:Nat)(a:List Tk)(b:Int)(c:Int)(d:Int)(e:Int)(i:Int)(j:Int)(k:Int)(l:Bool)(o:List It)(p:Str)(q:Int)(r:Int)(s:Int)(t:Int)(u:Int)(v:Bool)(w:List It)(x:Str):Option (Int×Int×Int×Int×Int×Bool×(List It)×Str×(List Tk)×Int×Int×Unit):=
  (Zcm.g d e i j k l o p (1:Int) (2:Int) a b c).bind fun y1=>
  some (y1.1,y1.2.1,y1.2.2.1,y1.2.2.2.1,y1.2.2.2.2.1,y1.2.2.2.2.2.1,y1.2.2.2.2.2.2.1,y1.2.2.2.2.2.2.2.1,y1.2.2.2.2.2.2.2.2.1,y1.2.2.2.2.2.2.2.2.2.1,y1.2.2.2.2.2.2.2.2.2.2.1,())
def j12(n:Nat)(a:List Tk)(b:Int)(c:Int)(d:Int)(e:Int)(i:Int)(j:Int)(k:Int)(l:Bool)(o:List It)(p:Str)(q:Int)(r:Int)(s:Int)(t:Int)(u:Int)(v:Bool)(w:List It)(x:Str):Option (Int×Int×Int×Int×Int×Bool×(List It)×Str×(List Tk)×Int×Int×Unit):=
  if(decide (e=(0:Int))) then
  (if l then
  ((Zce.g a b c).bind fun y1=>
  some ((2:Int),e,i,j,k,l,y1.1,p,y1.2.1,y1.2.2.1,y1.2.2.2.1,()))
  else
  (Zaj.j16 n a b c d e i j k l o p q r s t u v w x))
  else
  (Zaj.j16 n a b c d e i j k l o p q r s t u v w x)
def j35(n:Nat)(a:List Tk)(b:Int)(c:Int)(d:Int)(e:Int)(i:Int)(j:Int)(k:Int)(l:Bool)(o:List It)(p:Str)(q:Int)(r:Int)(s:Int)(t:Int)(u:Int)(v:Bool)(w:List It)(x:Str):Option (Int×Int×Int×Int×Int×Bool×(List It)×Str×(List Tk)×Int×Int×Unit):=
  some (d,e,i,j,k,l,o,p,a,b,c,())
def j22(n:Nat)(a:List Tk)(b:Int)(c:Int)(d:Int)(e:Int)(i:Int)(j:Int)(k:Int)(l:Bool)(o:List It)(p:Str)(q:Int)(r:Int)(s:Int)(t:Int)(u:Int)(v:Bool)(w:List It)(x:Str):Option (Int×Int×Int×Int×Int×Bool×(List It)×Str×(List Tk)×Int×Int×Unit):=
  (Zbt.g ([44]:Str) a b c).bind fun y1=>
  (Zbd.g y1.1 y1.2.1 y1.2.2.1).bind fun y2=>
  (Zbt.g ([44]:Str) y2.2.1 y2.2.2.1 y2.2.2.2.1).bind fun y3=>
  (Zce.g y3.1 y3.2.1 y3.2.2.1).bind fun y4=>
  Zaj.j35 n y4.2.1 y4.2.2.1 y4.2.2.2.1 d e i y2.1 k l y4.1 p q r s t u v w x
def j30(n:Nat)(a:List Tk)(b:Int)(c:Int)(d:Int)(e:Int)(i:Int)(j:Int)(k:Int)(l:Bool)(o:List It)(p:Str)(q:Int)(r:Int)(s:Int)(t:Int)(u:Int)(v:Bool)(w:List It)(x:Str):Option (Int×Int×Int×Int×Int×Bool×(List It)×Str×(List Tk)×Int×Int×Unit):=
  (Zbt.g ([44]:Str) a b c).bind fun y1=>
  (Zbt.g ([61]:Str) y1.1 y1.2.1 y1.2.2.1).bind fun y2=>
  (Zce.g y2.1 y2.2.1 y2.2.2.1).bind fun y3=>
  Zaj.j35 n y3.2.1 y3.2.2.1 y3.2.2.2.1 d e i j k l y3.1 p q r s t u v w x
def j5(n:Nat)(a:List Tk)(b:Int)(c:Int)(d:Int)(e:Int)(i:Int)(j:Int)(k:Int)(l:Bool)(o:List It)(p:Str)(q:Int)(r:Int)(s:Int)(t:Int)(u:Int)(v:Bool)(w:List It)(x:Str):Option (Int×Int×Int×Int×Int×Bool×(List It)×Str×(List Tk)×Int×Int×Unit):=
  Zaj.j35 n a (IntKind.i64.wrap (b+(1:Int))) c d e i j k l o p q r s t u v w x
def j3(n:Nat)(a:List Tk)(b:Int)(c:Int)(d:Int)(e:Int)(i:Int)(j:Int)(k:Int)(l:Bool)(o:List It)(p:Str)(q:Int)(r:Int)(s:Int)(t:Int)(u:Int)(v:Bool)(w:List It)(x:Str):Option (Int×Int×Int×Int×Int×Bool×(List It)×Str×(List Tk)×Int×Int×Unit):=
  (Zaz.g p).bind fun y1=>
  if(!y1.1) then
  (if(decide (c=(0:Int))) then
  (Zaj.j5 n a b (22:Int) d e i j k l o p q r s t u v w x)
  else
  (Zaj.j5 n a b c d e i j k l o p q r s t u v w x))
  else
  (Zaj.j5 n a b c d e i j k l o p q r s t u v w x)
def f(n:Nat)(a:Int)(b:Int)(c:Int)(d:Int)(e:Int)(i:Bool)(j:List It)(k:Str)(l:List Tk)(o:Int)(p:Int):Option (Int×Int×Int×Int×Int×Bool×(List It)×Str×(List Tk)×Int×Int×Unit):=
  if(decide (a=(1:Int))) then
  ((Zbd.g l o p).bind fun y1=>
  (Zbt.g ([44]:Str) y1.2.1 y1.2.2.1 y1.2.2.2.1).bind fun y2=>
  if(decide (b≠(0:Int))) then
  ((Zbd.g y2.1 y2.2.1 y2.2.2.1).bind fun y3=>
  (Zbt.g ([44]:Str) y3.2.1 y3.2.2.1 y3.2.2.2.1).bind fun y4=>
  Zaj.j12 n y4.1 y4.2.1 y4.2.2.1 a b y1.1 y3.1 e i j k 0 0 0 0 0 false ([]) ([]:Str))
  else
  (Zaj.j12 n y2.1 y2.2.1 y2.2.2.1 a b y1.1 d e i j k 0 0 0 0 0 false ([]) ([]:Str)))
  else
  (if(decide (a=(3:Int))) then
  (if(decide (a=(3:Int))) then
  ((Zbd.g l o p).bind fun y5=>
  Zaj.j35 n y5.2.1 y5.2.2.1 y5.2.2.2.1 a b y5.1 d e i j k 0 0 0 0 0 false ([]) ([]:Str))
  else
  (if(decide (a=(5:Int))) then
  ((Zbd.g l o p).bind fun y6=>
  Zaj.j22 n y6.2.1 y6.2.2.1 y6.2.2.2.1 a b y6.1 d e i j k 0 0 0 0 0 false ([]) ([]:Str))
  else
  (if(decide (a=(7:Int))) then
  ((Zcm.g a b c d e i j k (6:Int) (7:Int) l o p).bind fun y7=>
  some (y7.1,y7.2.1,y7.2.2.1,y7.2.2.2.1,y7.2.2.2.2.1,y7.2.2.2.2.2.1,y7.2.2.2.2.2.2.1,y7.2.2.2.2.2.2.2.1,y7.2.2.2.2.2.2.2.2.1,y7.2.2.2.2.2.2.2.2.2.1,y7.2.2.2.2.2.2.2.2.2.2.1,()))
  else
  (if(decide (a=(8:Int))) then
  ((Zbd.g l o p).bind fun y8=>
  Zaj.j30 n y8.2.1 y8.2.2.1 y8.2.2.2.1 a b y8.1 d e i j k 0 0 0 0 0 false ([]) ([]:Str))
  else
  (if(decide (a=(9:Int))) then
  ((Zce.g l o p).bind fun y9=>
  Zaj.j35 n y9.2.1 y9.2.2.1 y9.2.2.2.1 a b c d e i y9.1 k 0 0 0 0 0 false ([]) ([]:Str))
  else
  ((Zcd.g (1:Int) l o p).bind fun y10=>
  Zaj.j3 n y10.2.1 y10.2.2.1 y10.2.2.2.1 a b c d e i j y10.1 0 0 0 0 0 false ([]) ([]:Str)))))))
  else
  (if(decide (a=(4:Int))) then
  ((Zbd.g l o p).bind fun y11=>
  Zaj.j35 n y11.2.1 y11.2.2.1 y11.2.2.2.1 a b y11.1 d e i j k 0 0 0 0 0 false ([]) ([]:Str))
  else
  (if(decide (a=(5:Int))) then
  ((Zbd.g l o p).bind fun y12=>
  Zaj.j22 n y12.2.1 y12.2.2.1 y12.2.2.2.1 a b y12.1 d e i j k 0 0 0 0 0 false ([]) ([]:Str))
  else
  (if(decide (a=(7:Int))) then
  ((Zcm.g a b c d e i j k (6:Int) (7:Int) l o p).bind fun y13=>
  some (y13.1,y13.2.1,y13.2.2.1,y13.2.2.2.1,y13.2.2.2.2.1,y13.2.2.2.2.2.1,y13.2.2.2.2.2.2.1,y13.2.2.2.2.2.2.2.1,y13.2.2.2.2.2.2.2.2.1,y13.2.2.2.2.2.2.2.2.2.1,y13.2.2.2.2.2.2.2.2.2.2.1,()))
  else
  (if(decide (a=(8:Int))) then
  ((Zbd.g l o p).bind fun y14=>
  Zaj.j30 n y14.2.1 y14.2.2.1 y14.2.2.2.1 a b y14.1 d e i j k 0 0 0 0 0 false ([]) ([]:Str))
  else
  (if(decide (a=(9:Int))) then
  ((Zce.g l o p).bind fun y15=>
  Zaj.j35 n y15.2.1 y15.2.2.1 y15.2.2.2.1 a b c d e i y15.1 k 0 0 0 0 0 false ([]) ([]:Str))
  else
  ((Zcd.g (1:Int) l o p).bind fun y16=>
  Zaj.j3 n y16.2.1 y16.2.2.1 y16.2.2.2.1 a b c d e i j y16.1 0 0 0 0 0 false ([]) ([]:Str))))))))
def g(a:Int)(b:Int)(c:Int)(d:Int)(e:Int)(i:Bool)(j:List It)(k:Str)(l:List Tk)(o:Int)(p:Int):Option (Int×Int×Int×Int×Int×Bool×(List It)×Str×(List Tk)×Int×Int×Unit):=f (1000+a.toNat+b.toNat+c.toNat+d.toNat+e.toNat+j.length+k.length+l.length+o.toNat+p.toNat) a b c d e i j k l o p
end Zaj
namespace Zap
def j19(n:Nat)(a:Str)(b:Int)(c:Int)(d:Int)(e:Int)(i:Int)(j:Bool)(k:List It)(l:Str)(o:List Tk)(p:Int)(q:Int)(r:Int)(s:Int)(t:Int)(u:Int)(v:Int)(w:Bool)(x:List It)(z:Str):Option (Str×Int×Int×Int×Int×Int×Bool×(List It)×Str×Int×Unit):=
  if(decide (q≠(0:Int))) then
  (some (([]:Str),0,0,0,0,0,false,[],([]:Str),q,()))
  else(some (a,r,s,t,u,v,w,x,z,(0:Int),()))
def j15(n:Nat)(a:List Tk)(b:Str)(c:Int)(d:Int)(e:Bool)(i:Int)(j:Int)(k:Int)(l:Int)(o:Int)(p:Bool)(q:List It)(r:Str)(s:List Tk)(t:Int)(u:Int):Option (Str×Int×Int×Int×Int×Int×Bool×(List It)×Str×Int×Unit):=
  (Zaj.g c d 0 0 0 e ([]) ([]:Str) s (IntKind.i64.wrap (t+(1:Int))) u).bind fun y1=>
  if(decide (y1.2.2.2.2.2.2.2.2.2.2.1=(0:Int))) then
  (if(decide (y1.2.2.2.2.2.2.2.2.2.1<(a.length:Int))) then
  (Zap.j19 n b i j k l o p q r y1.2.2.2.2.2.2.2.2.1 y1.2.2.2.2.2.2.2.2.2.1 (22:Int) y1.1 y1.2.1 y1.2.2.1 y1.2.2.2.1 y1.2.2.2.2.1 y1.2.2.2.2.2.1 y1.2.2.2.2.2.2.1 y1.2.2.2.2.2.2.2.1)
  else
  (Zap.j19 n b i j k l o p q r y1.2.2.2.2.2.2.2.2.1 y1.2.2.2.2.2.2.2.2.2.1 y1.2.2.2.2.2.2.2.2.2.2.1 y1.1 y1.2.1 y1.2.2.1 y1.2.2.2.1 y1.2.2.2.2.1 y1.2.2.2.2.2.1 y1.2.2.2.2.2.2.1 y1.2.2.2.2.2.2.2.1))
  else
  (Zap.j19 n b i j k l o p q r y1.2.2.2.2.2.2.2.2.1 y1.2.2.2.2.2.2.2.2.2.1 y1.2.2.2.2.2.2.2.2.2.2.1 y1.1 y1.2.1 y1.2.2.1 y1.2.2.2.1 y1.2.2.2.2.1 y1.2.2.2.2.2.1 y1.2.2.2.2.2.2.1 y1.2.2.2.2.2.2.2.1)
def j13(n:Nat)(a:List Tk)(b:Str)(c:Int)(d:Int)(e:Bool)(i:Bool)(j:Bool)(k:Int)(l:Int)(o:Int)(p:Int)(q:Int)(r:Bool)(s:List It)(t:Str)(u:List Tk)(v:Int)(w:Int)(x:Int)(z:Int)(A:Str)(B:Int):Option (Str×Int×Int×Int×Int×Int×Bool×(List It)×Str×Int×Unit):=
  if(!i)=false then
  (if j then
  (if(decide (x≠(4:Int)))=false then
  (if(!j) then
  (if(decide (x≠(1:Int))) then
  (some (([]:Str),0,0,0,0,0,false,[],([]:Str),(22:Int),()))
  else(Zap.j15 n a b c d e k l o p q r s t u v w))
  else(Zap.j15 n a b c d e k l o p q r s t u v w))
  else
  (some (([]:Str),0,0,0,0,0,false,[],([]:Str),(22:Int),())))
  else
  (if(!j) then
  (if(decide (x≠(1:Int))) then
  (some (([]:Str),0,0,0,0,0,false,[],([]:Str),(22:Int),()))
  else(Zap.j15 n a b c d e k l o p q r s t u v w))
  else(Zap.j15 n a b c d e k l o p q r s t u v w)))
  else
  (some (([]:Str),0,0,0,0,0,false,[],([]:Str),(22:Int),()))
def j8(n:Nat)(a:List Tk)(b:Str)(c:Int)(d:Int)(e:Int)(i:Int)(j:Int)(k:Bool)(l:List It)(o:Str)(p:List Tk)(q:Int)(r:Int):Option (Str×Int×Int×Int×Int×Int×Bool×(List It)×Str×Int×Unit):=
  if(decide (q=(a.length:Int))) then
  (some (b,0,0,0,0,0,false,[],([]:Str),(0:Int),()))
  else
  (if 0<=q/\q<(a.length:Int) then
  ((Zba.g ((((a.getD (q).toNat zT).2).2).1)).bind fun y1=>
  if(decide (y1.1=(9:Int)))=false then
  (Zap.j13 n a b y1.1 y1.2.1 y1.2.2.1 y1.2.2.2.1 (decide (y1.1=(10:Int))) c d e i j k l o p q r ((a.getD (q).toNat zT).1) (((a.getD (q).toNat zT).2).1) ((((a.getD (q).toNat zT).2).2).1) (((((a.getD (q).toNat zT).2).2).2).1))
  else
  (Zap.j13 n a b y1.1 y1.2.1 y1.2.2.1 y1.2.2.2.1 true c d e i j k l o p q r ((a.getD (q).toNat zT).1) (((a.getD (q).toNat zT).2).1) ((((a.getD (q).toNat zT).2).2).1) (((((a.getD (q).toNat zT).2).2).2).1))) else none)
def f(n:Nat)(a:List Tk):Option (Str×Int×Int×Int×Int×Int×Bool×(List It)×Str×Int×Unit):=
  if(decide ((1:Int)<(a.length:Int))) then
  (if 0<=(0:Int)/\(0:Int)<(a.length:Int) then
  (if(decide ((a.getD ((0:Int)).toNat zT).1=(1:Int))) then
  (if 0<=(1:Int)/\(1:Int)<(a.length:Int) then
  (if(decide ((a.getD ((1:Int)).toNat zT).1=(3:Int))) then
  (if 0<=(1:Int)/\(1:Int)<(a.length:Int) then
  (if(decide ((((a.getD ((1:Int)).toNat zT).2).2).1=([58]:Str))) then
  (if 0<=(0:Int)/\(0:Int)<(a.length:Int) then
  ((Zbw.g ((((a.getD ((0:Int)).toNat zT).2).2).1)).bind fun y1=>
  if(!y1.1) then
  (some (([]:Str),0,0,0,0,0,false,[],([]:Str),(22:Int),()))
  else
  (Zap.j8 n a ((((a.getD ((0:Int)).toNat zT).2).2).1) 0 0 0 0 0 false ([]) ([]:Str) a (2:Int) 0)) else none)
  else
  (Zap.j8 n a ([]:Str) 0 0 0 0 0 false ([]) ([]:Str) a 0 0)) else none)
  else
  (Zap.j8 n a ([]:Str) 0 0 0 0 0 false ([]) ([]:Str) a 0 0)) else none)
  else
  (Zap.j8 n a ([]:Str) 0 0 0 0 0 false ([]) ([]:Str) a 0 0)) else none)
  else
  (Zap.j8 n a ([]:Str) 0 0 0 0 0 false ([]) ([]:Str) a 0 0)
def g(a:List Tk):Option (Str×Int×Int×Int×Int×Int×Bool×(List It)×Str×Int×Unit):=f (1000+a.length) a
end Zap
namespace Zfj
def f(n:Nat)(a:Int)(b:Int)(c:Int)(d:Int)(e:Int)(i:Bool)(j:List It)(k:Str):Option (Int×Int×Int×Int×Int×Int×Bool×Unit):=
  some (a,b,c,d,e,0,i,())
def g(a:Int)(b:Int)(c:Int)(d:Int)(e:Int)(i:Bool)(j:List It)(k:Str):Option (Int×Int×Int×Int×Int×Int×Bool×Unit):=f (1000+a.toNat+b.toNat+c.toNat+d.toNat+e.toNat+j.length+k.length) a b c d e i j k
end Zfj
namespace Zcz
def f(n:Nat)(a:Int):Option (Bool×Unit):=
  if(decide ((0:Int)<=a)) then(some ((decide (a<=(15:Int))),()))
  else(some (false,()))
def g(a:Int):Option (Bool×Unit):=f (1000+a.toNat) a
end Zcz
namespace Zcn
def f(n:Nat)(a:Int)(b:Int):Option (Bool×Unit):=
  if(IntKind.i64.wrap ((mn (mx b (1:Int)) (32:Int))-(1:Int)))<0 then none else
  (if(decide ((IntKind.i64.wrap ((-1:Int)*2 ^ (min (IntKind.i64.wrap ((mn (mx b (1:Int)) (32:Int))-(1:Int))).toNat IntKind.i64.bits)))<=a)) then
  (if(IntKind.i64.wrap ((mn (mx b (1:Int)) (32:Int))-(1:Int)))<0 then none else
  (some ((decide (a<(IntKind.i64.wrap ((1:Int)*2 ^ (min (IntKind.i64.wrap ((mn (mx b (1:Int)) (32:Int))-(1:Int))).toNat IntKind.i64.bits))))),())))
  else(some (false,())))
def g(a:Int)(b:Int):Option (Bool×Unit):=f (1000+a.toNat+b.toNat) a b
end Zcn
namespace Zak
def j22(n:Nat)(a:Bool)(b:Int)(c:Int)(d:Int)(e:Int)(i:Int)(j:Int)(k:Bool)(l:Int)(o:Int)(p:Int)(q:Int)(r:Int)(s:Int)(t:Bool):Option (Bool×Unit):=
  if(decide (l=b)&&(decide (o=c)&&(decide (p=d)&&(decide (q=e)&&(decide (r=i)&&(decide (s=j)&&((t == k)&&true))))))) then
  (if(decide (j<=(65535:Int))) then
  (if(decide ((-65536:Int)<=j)) then
  (if(decide ((0:Int)<=j))=false then(some ((!a),()))
  else(some (true,())))
  else(some (false,())))
  else(some (false,())))
  else(some (false,()))
def j21(n:Nat)(a:Int)(b:Int)(c:Int)(d:Int)(e:Int)(i:Int)(j:Bool)(k:Int)(l:Int)(o:Int)(p:Int)(q:Int)(r:Int)(s:Bool):Option (Bool×Unit):=
  if(decide (b=(0:Int))) then(Zak.j22 n j a b c d e i j k l o p q r s)
  else(Zak.j22 n false a b c d e i j k l o p q r s)
def j15(n:Nat)(a:Int)(b:Int)(c:Int)(d:Int)(e:Int)(i:Int)(j:Bool)(k:Int)(l:Int)(o:Int)(p:Int)(q:Int)(r:Int)(s:Bool):Option (Bool×Unit):=
  if(decide (a=(1:Int))) then
  (some ((decide (k=a)&&(decide (l=b)&&(decide (o=c)&&(decide (p=d)&&(decide (e=e)&&(decide (r=i)&&((s == j)&&true))))))),()))
  else
  (if(decide (b=(0:Int))) then(Zak.j21 n a b c d e i j k l o p q i j)
  else(Zak.j21 n a b c d e i j k l o p q i s))
def j13(n:Nat)(a:Bool)(b:Int)(c:Int)(d:Int)(e:Int)(i:Int)(j:Int)(k:Bool)(l:Int)(o:Int)(p:Int)(q:Int)(r:Int)(s:Int)(t:Bool):Option (Bool×Unit):=
  if a then(Zak.j15 n b c d e i j k l o p q r s k)
  else(Zak.j15 n b c d e i j k l o p q r s t)
def j8(n:Nat)(a:Bool)(b:Int)(c:Int)(d:Int)(e:Int)(i:Int)(j:Int)(k:Bool)(l:Int)(o:Int)(p:Int)(q:Int)(r:Int)(s:Int)(t:Bool):Option (Bool×Unit):=
  if(decide (c<(0:Int)))=false then
  (if(decide ((11:Int)<c)) then(some (false,()))
  else
  (if(decide (c≠(0:Int))) then(Zak.j13 n a b c d e i j k l c p e r s t)
  else(Zak.j13 n a b c d e i j k l c p q r s t)))
  else(some (false,()))
def j25(n:Nat)(a:Int)(b:Int)(c:Int)(d:Int)(e:Int)(i:Int)(j:Bool)(k:Int)(l:Int)(o:Int)(p:Int)(q:Int)(r:Int)(s:Bool):Option (Bool×Unit):=
  some ((decide (k=a)&&(decide (l=b)&&(decide (o=c)&&(decide (p=d)&&(decide (q=e)&&(decide (r=i)&&((s == j)&&true))))))),())
def j26(n:Nat)(a:Int)(b:Int)(c:Int)(d:Int)(e:Int)(i:Int)(j:Int)(k:Bool)(l:Int)(o:Int)(p:Int)(q:Int)(r:Int)(s:Int)(t:Bool):Option (Bool×Unit):=
  if(decide (a=(5:Int))) then
  (if(decide (l=b)&&(decide (c=c)&&(decide (p=d)&&(decide (e=e)&&(decide (r=i)&&(decide (j=j)&&((t == k)&&true))))))) then
  (if(decide ((0:Int)<=c)) then
  (if(decide (c<=(3:Int))) then
  ((Zcn.g j (20:Int)).bind fun y1=>
  some (y1.1,()))
  else(some (false,())))
  else(some (false,())))
  else(some (false,())))
  else
  (if(decide (a=(6:Int))) then
  (if(decide (b=b)&&(decide (c=c)&&(decide (0=d)&&(decide (0=e)&&(decide (i=i)&&(decide (0=j)&&((k == k)&&true))))))) then
  ((Zcz.g c).bind fun y2=>
  some (y2.1,()))
  else(some (false,())))
  else
  (if(decide (a=(7:Int))) then
  (if(decide (b=b)&&(decide (c=c)&&(decide (0=d)&&(decide (0=e)&&(decide (0=i)&&(decide (j=j)&&((k == k)&&true))))))) then
  ((Zcz.g c).bind fun y3=>
  if y3.1 then
  ((Zcn.g j (24:Int)).bind fun y4=>
  some (y4.1,()))
  else(some (false,())))
  else(some (false,())))
  else(some (false,()))))
def j23(n:Nat)(a:Int)(b:Int)(c:Int)(d:Int)(e:Int)(i:Int)(j:Int)(k:Bool)(l:Int)(o:Int)(p:Int)(q:Int)(r:Int)(s:Int)(t:Bool):Option (Bool×Unit):=
  if(decide (a=(3:Int))) then
  (if(decide (a=(3:Int))) then(Zak.j25 n b c d e i j k l o p q r s t)
  else(Zak.j26 n a b c d e i j k l o p q r s t))
  else
  (if(decide (a=(4:Int))) then(Zak.j25 n b c d e i j k l o p q r s t)
  else(Zak.j26 n a b c d e i j k l o p q r s t))
def j5(n:Nat)(a:Bool)(b:Int)(c:Int)(d:Int)(e:Int)(i:Int)(j:Int)(k:Bool)(l:Int)(o:Int)(p:Int)(q:Int)(r:Int)(s:Int)(t:Bool):Option (Bool×Unit):=
  if(decide (b=(1:Int))) then
  (if(decide (b=(1:Int))) then(Zak.j8 n a b c d e i j k l o p q r s t)
  else(Zak.j23 n b b c d e i j k l o p q r s t))
  else
  (if(decide (b=(2:Int))) then(Zak.j8 n a b c d e i j k l o p q r s t)
  else(Zak.j23 n b b c d e i j k l o p q r s t))
def f(n:Nat)(a:Int)(b:Int)(c:Int)(d:Int)(e:Int)(i:Int)(j:Bool):Option (Bool×Unit):=
  (Zcz.g c).bind fun y1=>
  if(!y1.1)=false then
  ((Zcz.g d).bind fun y2=>
  if(!y2.1)=false then
  ((Zcz.g e).bind fun y3=>
  if(!y3.1) then(some (false,()))
  else
  (if(decide ((8:Int)<=b)) then
  (Zak.j5 n (decide (b<=(10:Int))) a b c d e i j a 0 c 0 0 0 false)
  else(Zak.j5 n false a b c d e i j a 0 c 0 0 0 false)))
  else(some (false,())))
  else(some (false,()))
def g(a:Int)(b:Int)(c:Int)(d:Int)(e:Int)(i:Int)(j:Bool):Option (Bool×Unit):=f (1000+a.toNat+b.toNat+c.toNat+d.toNat+e.toNat+i.toNat) a b c d e i j
end Zak
namespace Zed
def f(n:Nat)(a:Bool):Option (Int×Unit):=
  if a then(some ((1:Int),()))
  else(some ((0:Int),()))
def g(a:Bool):Option (Int×Unit):=f (1000) a
end Zed
namespace Zdp
def f(n:Nat)(a:Int)(b:Int)(c:Int)(d:Int)(e:Int)(i:Int)(j:Bool):Option (Int×Int×Unit):=
  (Zak.g a b c d e i j).bind fun y1=>
  if(!y1.1) then(some ((0:Int),(1:Int),()))
  else
  ((Zed.g j).bind fun y2=>
  if(decide (a=(1:Int))) then
  (some ((ay .or .u32 (ay .or .u32 (ay .or .u32 (ay .or .u32 (IntKind.u32.wrap (y2.1*2 ^ (min (29:Int).toNat IntKind.u32.bits))) (IntKind.u32.wrap ((IntKind.u32.wrap c)*2 ^ (min (24:Int).toNat IntKind.u32.bits)))) (IntKind.u32.wrap ((IntKind.u32.wrap d)*2 ^ (min (20:Int).toNat IntKind.u32.bits)))) (IntKind.u32.wrap ((IntKind.u32.wrap b)*2 ^ (min (16:Int).toNat IntKind.u32.bits)))) (IntKind.u32.wrap e)),(0:Int),()))
  else
  (if(decide (a=(2:Int))) then
  ((Zed.g (decide (i<(0:Int)))).bind fun y3=>
  some ((ay .or .u32 (ay .or .u32 (ay .or .u32 (ay .or .u32 (ay .or .u32 (ay .or .u32 (1073741824:Int) (IntKind.u32.wrap (y2.1*2 ^ (min (29:Int).toNat IntKind.u32.bits)))) (IntKind.u32.wrap (y3.1*2 ^ (min (28:Int).toNat IntKind.u32.bits)))) (IntKind.u32.wrap ((IntKind.u32.wrap c)*2 ^ (min (24:Int).toNat IntKind.u32.bits)))) (IntKind.u32.wrap ((IntKind.u32.wrap d)*2 ^ (min (20:Int).toNat IntKind.u32.bits)))) (IntKind.u32.wrap ((IntKind.u32.wrap b)*2 ^ (min (16:Int).toNat IntKind.u32.bits)))) (Int.tmod (IntKind.u32.wrap i) (65536:Int))),(0:Int),()))
  else
  (if(decide (a=(3:Int))) then
  (some ((ay .or .u32 (536870912:Int) (IntKind.u32.wrap ((IntKind.u32.wrap c)*2 ^ (min (24:Int).toNat IntKind.u32.bits)))),(0:Int),()))
  else
  (if(decide (a=(4:Int))) then
  (some ((ay .or .u32 (805306368:Int) (IntKind.u32.wrap ((IntKind.u32.wrap c)*2 ^ (min (24:Int).toNat IntKind.u32.bits)))),(0:Int),()))
  else
  (if(decide (a=(5:Int))) then
  ((Zed.g (decide ((2:Int)<=b))).bind fun y4=>
  (Zed.g (decide ((Int.tmod b (2:Int))=(1:Int)))).bind fun y5=>
  some ((ay .or .u32 (ay .or .u32 (ay .or .u32 (ay .or .u32 (ay .or .u32 (2147483648:Int) (IntKind.u32.wrap (y4.1*2 ^ (min (29:Int).toNat IntKind.u32.bits)))) (IntKind.u32.wrap (y5.1*2 ^ (min (28:Int).toNat IntKind.u32.bits)))) (IntKind.u32.wrap ((IntKind.u32.wrap c)*2 ^ (min (24:Int).toNat IntKind.u32.bits)))) (IntKind.u32.wrap ((IntKind.u32.wrap d)*2 ^ (min (20:Int).toNat IntKind.u32.bits)))) (Int.tmod (IntKind.u32.wrap i) (1048576:Int))),(0:Int),()))
  else
  (if(decide (a=(6:Int))) then
  (some ((ay .or .u32 (ay .or .u32 (ay .or .u32 (3221225472:Int) (IntKind.u32.wrap (y2.1*2 ^ (min (28:Int).toNat IntKind.u32.bits)))) (IntKind.u32.wrap ((IntKind.u32.wrap b)*2 ^ (min (24:Int).toNat IntKind.u32.bits)))) (IntKind.u32.wrap e)),(0:Int),()))
  else
  (some ((ay .or .u32 (ay .or .u32 (ay .or .u32 (3758096384:Int) (IntKind.u32.wrap (y2.1*2 ^ (min (28:Int).toNat IntKind.u32.bits)))) (IntKind.u32.wrap ((IntKind.u32.wrap b)*2 ^ (min (24:Int).toNat IntKind.u32.bits)))) (Int.tmod (IntKind.u32.wrap i) (16777216:Int))),(0:Int),()))))))))
def g(a:Int)(b:Int)(c:Int)(d:Int)(e:Int)(i:Int)(j:Bool):Option (Int×Int×Unit):=f (1000+a.toNat+b.toNat+c.toNat+d.toNat+e.toNat+i.toNat) a b c d e i j
end Zdp
namespace Zer
def f(n:Nat)(a:Int)(b:Int):Option (Int×Unit):=
  if(mn (mx b (1:Int)) (32:Int))<0 then none else
  (if(IntKind.i64.wrap ((1:Int)*2 ^ (min (mn (mx b (1:Int)) (32:Int)).toNat IntKind.i64.bits)))=0 then none else
  (if(IntKind.i64.wrap ((mn (mx b (1:Int)) (32:Int))-(1:Int)))<0 then none else
  (if(decide ((IntKind.i64.wrap ((1:Int)*2 ^ (min (IntKind.i64.wrap ((mn (mx b (1:Int)) (32:Int))-(1:Int))).toNat IntKind.i64.bits)))<=(Int.tmod (IntKind.i64.wrap a) (IntKind.i64.wrap ((1:Int)*2 ^ (min (mn (mx b (1:Int)) (32:Int)).toNat IntKind.i64.bits)))))) then
  (if(mn (mx b (1:Int)) (32:Int))<0 then none else
  (some ((IntKind.i64.wrap ((Int.tmod (IntKind.i64.wrap a) (IntKind.i64.wrap ((1:Int)*2 ^ (min (mn (mx b (1:Int)) (32:Int)).toNat IntKind.i64.bits))))-(IntKind.i64.wrap ((1:Int)*2 ^ (min (mn (mx b (1:Int)) (32:Int)).toNat IntKind.i64.bits))))),())))
  else
  (some ((Int.tmod (IntKind.i64.wrap a) (IntKind.i64.wrap ((1:Int)*2 ^ (min (mn (mx b (1:Int)) (32:Int)).toNat IntKind.i64.bits)))),())))))
def g(a:Int)(b:Int):Option (Int×Unit):=f (1000+a.toNat+b.toNat) a b
end Zer
namespace Zan
def j25(n:Nat)(a:Int)(b:Int)(c:Int)(d:Int)(e:Int)(i:Int)(j:Bool)(k:Int)(l:Int)(o:Int)(p:Int)(q:Int)(r:Int)(s:Bool):Option (Int×Int×Int×Int×Int×Int×Bool×Unit):=
  some (k,l,o,p,q,r,s,())
def j10(n:Nat)(a:Int)(b:Int)(c:Int)(d:Int)(e:Int)(i:Int)(j:Int)(k:Bool)(l:Int)(o:Int)(p:Int)(q:Int)(r:Int)(s:Int)(t:Bool)(u:Int)(v:Int)(w:Int)(x:Int)(z:Int)(A:Int)(B:Bool):Option (Int×Int×Int×Int×Int×Int×Bool×Unit):=
  if(decide (u=(1:Int))) then(some (u,v,w,x,(ay .and .i64 i (15:Int)),A,B,()))
  else
  (if(decide (a=(0:Int))) then
  (if k then
  (Zan.j25 n l o p q r s t u v w x z (ay .and .i64 j (65535:Int)) true)
  else
  (Zan.j25 n l o p q r s t u v w x z (IntKind.i64.wrap ((ay .and .i64 j (131071:Int))-(65536:Int))) B))
  else
  (Zan.j25 n l o p q r s t u v w x z (IntKind.i64.wrap ((ay .and .i64 j (131071:Int))-(65536:Int))) B))
def j9(n:Nat)(a:Int)(b:Int)(c:Int)(d:Int)(e:Int)(i:Int)(j:Int)(k:Bool)(l:Int)(o:Int)(p:Int)(q:Int)(r:Int)(s:Int)(t:Bool)(u:Int)(v:Int)(w:Int)(x:Int)(z:Int)(A:Int)(B:Bool):Option (Int×Int×Int×Int×Int×Int×Bool×Unit):=
  if k then
  (if(decide ((8:Int)<=a)) then
  (Zan.j10 n a b c d e i j k l o p q r s t u v w x z A (decide (a<=(10:Int))))
  else
  (Zan.j10 n a b c d e i j k l o p q r s t u v w x z A false))
  else
  (Zan.j10 n a b c d e i j k l o p q r s t u v w x z A false)
def j7(n:Nat)(a:Int)(b:Int)(c:Int)(d:Int)(e:Int)(i:Int)(j:Int)(k:Bool)(l:Int)(o:Int)(p:Int)(q:Int)(r:Int)(s:Int)(t:Bool)(u:Int)(v:Int)(w:Int)(x:Int)(z:Int)(A:Int)(B:Bool):Option (Int×Int×Int×Int×Int×Int×Bool×Unit):=
  if(decide (a≠(0:Int))) then
  (Zan.j9 n a b c d e i j k l o p q r s t u v w (ay .and .i64 e (15:Int)) z A B)
  else
  (Zan.j9 n a b c d e i j k l o p q r s t u v w x z A B)
def j19(n:Nat)(a:Int)(b:Int)(c:Int)(d:Int)(e:Int)(i:Int)(j:Bool)(k:Int)(l:Int)(o:Int)(p:Int)(q:Int)(r:Int)(s:Bool)(t:Int)(u:Int)(v:Int)(w:Int)(x:Int)(z:Int)(A:Bool):Option (Int×Int×Int×Int×Int×Int×Bool×Unit):=
  Zan.j25 n k l o p q r s t u v (ay .and .i64 d (15:Int)) x (IntKind.i64.wrap ((ay .and .i64 i (1048575:Int))-(524288:Int))) A
def f(n:Nat)(a:Int)(b:Int)(c:Int)(d:Int)(e:Int)(i:Int)(j:Bool):Option (Int×Int×Int×Int×Int×Int×Bool×Unit):=
  if(decide ((IntKind.i64.wrap ((1:Int)+(Int.tmod (IntKind.i64.wrap ((Int.tmod a (7:Int))+(7:Int))) (7:Int))))=(1:Int))) then
  (if(decide ((IntKind.i64.wrap ((1:Int)+(Int.tmod (IntKind.i64.wrap ((Int.tmod a (7:Int))+(7:Int))) (7:Int))))=(1:Int))) then
  (Zan.j7 n (Int.tmod (IntKind.i64.wrap ((Int.tmod b (12:Int))+(12:Int))) (12:Int)) a b c d e i j 0 0 0 0 0 0 false (IntKind.i64.wrap ((1:Int)+(Int.tmod (IntKind.i64.wrap ((Int.tmod a (7:Int))+(7:Int))) (7:Int)))) (Int.tmod (IntKind.i64.wrap ((Int.tmod b (12:Int))+(12:Int))) (12:Int)) (ay .and .i64 c (15:Int)) 0 0 0 false)
  else
  (if(decide ((IntKind.i64.wrap ((1:Int)+(Int.tmod (IntKind.i64.wrap ((Int.tmod a (7:Int))+(7:Int))) (7:Int))))=(5:Int))) then
  (Zan.j19 n a b c d e i j 0 0 0 0 0 0 false (IntKind.i64.wrap ((1:Int)+(Int.tmod (IntKind.i64.wrap ((Int.tmod a (7:Int))+(7:Int))) (7:Int)))) (ay .and .i64 b (3:Int)) (ay .and .i64 c (15:Int)) 0 0 0 false)
  else
  (if(decide ((IntKind.i64.wrap ((1:Int)+(Int.tmod (IntKind.i64.wrap ((Int.tmod a (7:Int))+(7:Int))) (7:Int))))=(6:Int))) then
  (Zan.j25 n 0 0 0 0 0 0 false (IntKind.i64.wrap ((1:Int)+(Int.tmod (IntKind.i64.wrap ((Int.tmod a (7:Int))+(7:Int))) (7:Int)))) (ay .and .i64 b (15:Int)) 0 0 (ay .and .i64 e (15:Int)) 0 j)
  else
  (if(decide ((IntKind.i64.wrap ((1:Int)+(Int.tmod (IntKind.i64.wrap ((Int.tmod a (7:Int))+(7:Int))) (7:Int))))=(7:Int))) then
  (Zan.j25 n 0 0 0 0 0 0 false (IntKind.i64.wrap ((1:Int)+(Int.tmod (IntKind.i64.wrap ((Int.tmod a (7:Int))+(7:Int))) (7:Int)))) (ay .and .i64 b (15:Int)) 0 0 0 (IntKind.i64.wrap ((ay .and .i64 i (16777215:Int))-(8388608:Int))) j)
  else
  (Zan.j25 n 0 0 0 0 0 0 false (IntKind.i64.wrap ((1:Int)+(Int.tmod (IntKind.i64.wrap ((Int.tmod a (7:Int))+(7:Int))) (7:Int)))) 0 (ay .and .i64 c (15:Int)) 0 0 0 false)))))
  else
  (if(decide ((IntKind.i64.wrap ((1:Int)+(Int.tmod (IntKind.i64.wrap ((Int.tmod a (7:Int))+(7:Int))) (7:Int))))=(2:Int))) then
  (Zan.j7 n (Int.tmod (IntKind.i64.wrap ((Int.tmod b (12:Int))+(12:Int))) (12:Int)) a b c d e i j 0 0 0 0 0 0 false (IntKind.i64.wrap ((1:Int)+(Int.tmod (IntKind.i64.wrap ((Int.tmod a (7:Int))+(7:Int))) (7:Int)))) (Int.tmod (IntKind.i64.wrap ((Int.tmod b (12:Int))+(12:Int))) (12:Int)) (ay .and .i64 c (15:Int)) 0 0 0 false)
  else
  (if(decide ((IntKind.i64.wrap ((1:Int)+(Int.tmod (IntKind.i64.wrap ((Int.tmod a (7:Int))+(7:Int))) (7:Int))))=(5:Int))) then
  (Zan.j19 n a b c d e i j 0 0 0 0 0 0 false (IntKind.i64.wrap ((1:Int)+(Int.tmod (IntKind.i64.wrap ((Int.tmod a (7:Int))+(7:Int))) (7:Int)))) (ay .and .i64 b (3:Int)) (ay .and .i64 c (15:Int)) 0 0 0 false)
  else
  (if(decide ((IntKind.i64.wrap ((1:Int)+(Int.tmod (IntKind.i64.wrap ((Int.tmod a (7:Int))+(7:Int))) (7:Int))))=(6:Int))) then
  (Zan.j25 n 0 0 0 0 0 0 false (IntKind.i64.wrap ((1:Int)+(Int.tmod (IntKind.i64.wrap ((Int.tmod a (7:Int))+(7:Int))) (7:Int)))) (ay .and .i64 b (15:Int)) 0 0 (ay .and .i64 e (15:Int)) 0 j)
  else
  (if(decide ((IntKind.i64.wrap ((1:Int)+(Int.tmod (IntKind.i64.wrap ((Int.tmod a (7:Int))+(7:Int))) (7:Int))))=(7:Int))) then
  (Zan.j25 n 0 0 0 0 0 0 false (IntKind.i64.wrap ((1:Int)+(Int.tmod (IntKind.i64.wrap ((Int.tmod a (7:Int))+(7:Int))) (7:Int)))) (ay .and .i64 b (15:Int)) 0 0 0 (IntKind.i64.wrap ((ay .and .i64 i (16777215:Int))-(8388608:Int))) j)
  else
  (Zan.j25 n 0 0 0 0 0 0 false (IntKind.i64.wrap ((1:Int)+(Int.tmod (IntKind.i64.wrap ((Int.tmod a (7:Int))+(7:Int))) (7:Int)))) 0 (ay .and .i64 c (15:Int)) 0 0 0 false)))))
def g(a:Int)(b:Int)(c:Int)(d:Int)(e:Int)(i:Int)(j:Bool):Option (Int×Int×Int×Int×Int×Int×Bool×Unit):=f (1000+a.toNat+b.toNat+c.toNat+d.toNat+e.toNat+i.toNat) a b c d e i j
end Zan
namespace Zbu
def j8(n:Nat)(a:Int)(b:Int)(c:Int)(d:Int)(e:Int)(i:Bool)(j:List It)(k:Str)(l:Int)(o:Int)(p:Int)(q:Int)(r:Int)(s:Bool)(t:List It)(u:Str):Option Sn:=
  some (l,o,p,q,r,s,t,u,())
def j9(n:Nat)(a:Int)(b:List It)(c:Int)(d:Int)(e:Int)(i:Int)(j:Int)(k:Bool)(l:List It)(o:Str)(p:Int)(q:Int)(r:Int)(s:Int)(t:Int)(u:Bool)(v:List It)(w:Str):Option Sn:=
  if(decide (a=(8:Int))) then
  (some (a,0,(ay .and .i64 e (15:Int)),0,0,false,b,([]:Str),()))
  else
  (if(decide (a=(9:Int))) then(some (a,0,0,0,0,false,b,([]:Str),()))
  else
  (if(decide (a=(10:Int))) then
  (if 0<=(mn (o.length:Int) (6:Int))/\(mn (o.length:Int) (6:Int))<=(o.length:Int) then
  ((Zay.g ((o.take (((mn (o.length:Int) (6:Int))).toNat)).drop 0)).bind fun y1=>
  some (a,0,0,0,0,false,[],y1.1,())) else none)
  else(some (0,0,0,0,0,false,[],([]:Str),()))))
def f(n:Nat)(a:Int)(b:Int)(c:Int)(d:Int)(e:Int)(i:Bool)(j:List It)(k:Str):Option Sn:=
  (Zae.g j).bind fun y1=>
  if(decide ((1:Int)<=(Int.tmod (IntKind.i64.wrap ((Int.tmod a (11:Int))+(11:Int))) (11:Int)))) then
  (if(decide ((Int.tmod (IntKind.i64.wrap ((Int.tmod a (11:Int))+(11:Int))) (11:Int))<=(7:Int))) then
  ((Zan.g (IntKind.i64.wrap ((Int.tmod (IntKind.i64.wrap ((Int.tmod a (11:Int))+(11:Int))) (11:Int))-(1:Int))) b c d e 0 i).bind fun y2=>
  if(decide ((Int.tmod (IntKind.i64.wrap ((Int.tmod a (11:Int))+(11:Int))) (11:Int))=(2:Int)))=false then
  (if(decide ((Int.tmod (IntKind.i64.wrap ((Int.tmod a (11:Int))+(11:Int))) (11:Int))=(5:Int)))=false then
  (if(decide ((Int.tmod (IntKind.i64.wrap ((Int.tmod a (11:Int))+(11:Int))) (11:Int))=(7:Int))) then
  (Zbu.j8 n 0 0 0 0 0 false ([]) ([]:Str) y2.1 y2.2.1 y2.2.2.1 y2.2.2.2.1 y2.2.2.2.2.1 y2.2.2.2.2.2.2.1 y1.1 ([]:Str))
  else
  (Zbu.j8 n 0 0 0 0 0 false ([]) ([]:Str) y2.1 y2.2.1 y2.2.2.1 y2.2.2.2.1 y2.2.2.2.2.1 y2.2.2.2.2.2.2.1 ([]) ([]:Str)))
  else
  (Zbu.j8 n 0 0 0 0 0 false ([]) ([]:Str) y2.1 y2.2.1 y2.2.2.1 y2.2.2.2.1 y2.2.2.2.2.1 y2.2.2.2.2.2.2.1 y1.1 ([]:Str)))
  else
  (Zbu.j8 n 0 0 0 0 0 false ([]) ([]:Str) y2.1 y2.2.1 y2.2.2.1 y2.2.2.2.1 y2.2.2.2.2.1 y2.2.2.2.2.2.2.1 y1.1 ([]:Str)))
  else
  (Zbu.j9 n (Int.tmod (IntKind.i64.wrap ((Int.tmod a (11:Int))+(11:Int))) (11:Int)) y1.1 a b c d e i j k 0 0 0 0 0 false ([]) ([]:Str)))
  else
  (Zbu.j9 n (Int.tmod (IntKind.i64.wrap ((Int.tmod a (11:Int))+(11:Int))) (11:Int)) y1.1 a b c d e i j k 0 0 0 0 0 false ([]) ([]:Str))
def g(a:Int)(b:Int)(c:Int)(d:Int)(e:Int)(i:Bool)(j:List It)(k:Str):Option Sn:=f (1000+a.toNat+b.toNat+c.toNat+d.toNat+e.toNat+j.length+k.length) a b c d e i j k
end Zbu
end Rv
namespace Rv
open Go
set_option maxRecDepth 100000
namespace Zes
def f(n:Nat)(a:Str):Option (Str×Int×Int×Int×Int×Int×Bool×(List It)×Str×Int×Unit):=
  (Zao.g a).bind fun y1=>
  if(decide (y1.2.1≠(0:Int))) then
  (some (([]:Str),0,0,0,0,0,false,[],([]:Str),y1.2.1,()))
  else
  ((Zac.g y1.1).bind fun y2=>
  some (y2.1,y2.2.1,y2.2.2.1,y2.2.2.2.1,y2.2.2.2.2.1,y2.2.2.2.2.2.1,y2.2.2.2.2.2.2.1,y2.2.2.2.2.2.2.2.1,y2.2.2.2.2.2.2.2.2.1,y2.2.2.2.2.2.2.2.2.2.1,()))
def g(a:Str):Option (Str×Int×Int×Int×Int×Int×Bool×(List It)×Str×Int×Unit):=f (1000+a.length) a
end Zes
namespace Zda
def l5(n:Nat):Nat->(List Ln)->(List Str)->Int->Int->Option ((List Ln)×Int×Int×Unit)
 |0,_,_,_,_=>none
 |m+1,a,b,c,d=>
  if(decide (d<c)) then
  (if 0<=d/\d<(b.length:Int) then
  ((Zes.g (b.getD (d).toNat ([]:Str))).bind fun y1=>
  if(decide (y1.2.2.2.2.2.2.2.2.2.1≠(0:Int))) then
  (some ([],(IntKind.i64.wrap (d+(1:Int))),y1.2.2.2.2.2.2.2.2.2.1,()))
  else
  (if(a.length+([(y1.1,(y1.2.1,y1.2.2.1,y1.2.2.2.1,y1.2.2.2.2.1,y1.2.2.2.2.2.1,y1.2.2.2.2.2.2.1,y1.2.2.2.2.2.2.2.1,y1.2.2.2.2.2.2.2.2.1,()),())]:List Ln).length)*104<=140737488355328/\0<104/\0<9 then
  ((Zda.l5 n m) (a++([(y1.1,(y1.2.1,y1.2.2.1,y1.2.2.2.1,y1.2.2.2.2.1,y1.2.2.2.2.2.1,y1.2.2.2.2.2.2.1,y1.2.2.2.2.2.2.2.1,y1.2.2.2.2.2.2.2.2.1,()),())]:List Ln)) b c (IntKind.i64.wrap (d+(1:Int)))) else none)) else none)
  else(some (a,(0:Int),(0:Int),()))
def f(n:Nat)(a:List Str):Option ((List Ln)×Int×Int×Unit):=
  if(decide ((4096:Int)<(a.length:Int))) then(some ([],(0:Int),(2:Int),()))
  else
  (Zda.l5 n n ([]) a (a.length:Int) (0:Int))
def g(a:List Str):Option ((List Ln)×Int×Int×Unit):=f (1000+a.length) a
end Zda
namespace Zdb
def j7(n:Nat)(a:List Str):Option ((List Ln)×Int×Int×Unit):=
  (Zda.g a).bind fun y1=>
  some (y1.1,y1.2.1,y1.2.2.1,())
def f(n:Nat)(a:Str):Option ((List Ln)×Int×Int×Unit):=
  if(decide ((262144:Int)<(a.length:Int))) then(some ([],(0:Int),(2:Int),()))
  else
  ((L.splitO a ([10]:Str)).bind fun y1=>
  if 0<=(IntKind.i64.wrap ((y1.1.length:Int)-(1:Int)))/\(IntKind.i64.wrap ((y1.1.length:Int)-(1:Int)))<(y1.1.length:Int) then
  (if(decide ((y1.1.getD ((IntKind.i64.wrap ((y1.1.length:Int)-(1:Int)))).toNat ([]:Str))=([]:Str))) then
  (if 0<=(IntKind.i64.wrap ((y1.1.length:Int)-(1:Int)))/\(IntKind.i64.wrap ((y1.1.length:Int)-(1:Int)))<=(y1.1.length:Int) then
  (Zdb.j7 n ((y1.1.take (((IntKind.i64.wrap ((y1.1.length:Int)-(1:Int)))).toNat)).drop 0)) else none)
  else(Zdb.j7 n y1.1)) else none)
def g(a:Str):Option ((List Ln)×Int×Int×Unit):=f (1000+a.length) a
end Zdb
namespace Zcb
def j5(n:Nat)(rl4:Str->(List Str)->Int->Int->Option ((List Str)×Unit))(a:Str)(b:List Str)(c:Int)(d:Int):Option ((List Str)×Unit):=
  rl4 a b c (IntKind.i64.wrap (d+(1:Int)))
def l4(n:Nat):Nat->Str->(List Str)->Int->Int->Option ((List Str)×Unit)
 |0,_,_,_,_=>none
 |m+1,a,b,c,d=>
  if(decide (d<(a.length:Int))) then
  (if 0<=d/\d<(a.length:Int) then
  (if(decide ((bt a d)=(10:Int))) then
  (if 0<=d/\d<=(a.length:Int) then
  (if 0<=c/\c<=d then
  (if(b.length+([((a.take ((d).toNat)).drop ((c).toNat))]:List Str).length)*16<=140737488355328/\0<16/\0<1 then
  (Zcb.j5 n (Zcb.l4 n m) a (b++([((a.take ((d).toNat)).drop ((c).toNat))]:List Str)) (IntKind.i64.wrap (d+(1:Int))) d) else none) else none) else none)
  else
  (Zcb.j5 n (Zcb.l4 n m) a b c d)) else none)
  else
  (if(decide (c<(a.length:Int))) then
  (if 0<=c/\c<=(a.length:Int) then
  (if(b.length+([((a.take (((a.length:Int)).toNat)).drop ((c).toNat))]:List Str).length)*16<=140737488355328/\0<16/\0<1 then
  (some ((b++([((a.take (((a.length:Int)).toNat)).drop ((c).toNat))]:List Str)),())) else none) else none)
  else(some (b,())))
def f(n:Nat)(a:Str):Option ((List Str)×Unit):=
  Zcb.l4 n n a ([]:List Str) (0:Int) (0:Int)
def g(a:Str):Option ((List Str)×Unit):=f (1000+a.length) a
end Zcb
namespace Zdc
def l8(n:Nat):Nat->(List Str)->(List Ln)->Int->Option ((List Ln)×Int×Int×Unit)
 |0,_,_,_=>none
 |m+1,a,b,c=>
  if(decide (c<(a.length:Int))) then
  (if 0<=c/\c<(a.length:Int) then
  ((Zai.g (a.getD (c).toNat ([]:Str))).bind fun y1=>
  if(decide (y1.2.1≠(0:Int))) then(some ([],(IntKind.i64.wrap (c+(1:Int))),y1.2.1,()))
  else
  ((Zap.g y1.1).bind fun y2=>
  if(decide (y2.2.2.2.2.2.2.2.2.2.1≠(0:Int))) then
  (some ([],(IntKind.i64.wrap (c+(1:Int))),y2.2.2.2.2.2.2.2.2.2.1,()))
  else
  (if(b.length+([(y2.1,(y2.2.1,y2.2.2.1,y2.2.2.2.1,y2.2.2.2.2.1,y2.2.2.2.2.2.1,y2.2.2.2.2.2.2.1,y2.2.2.2.2.2.2.2.1,y2.2.2.2.2.2.2.2.2.1,()),())]:List Ln).length)*104<=140737488355328/\0<104/\0<9 then
  ((Zdc.l8 n m) a (b++([(y2.1,(y2.2.1,y2.2.2.1,y2.2.2.2.1,y2.2.2.2.2.1,y2.2.2.2.2.2.1,y2.2.2.2.2.2.2.1,y2.2.2.2.2.2.2.2.1,y2.2.2.2.2.2.2.2.2.1,()),())]:List Ln)) (IntKind.i64.wrap (c+(1:Int)))) else none))) else none)
  else(some (b,(0:Int),(0:Int),()))
def f(n:Nat)(a:Str):Option ((List Ln)×Int×Int×Unit):=
  if(decide ((262144:Int)<(a.length:Int))) then(some ([],(0:Int),(2:Int),()))
  else
  ((Zcb.g a).bind fun y1=>
  if(decide ((4096:Int)<(y1.1.length:Int))) then(some ([],(0:Int),(2:Int),()))
  else
  (Zdc.l8 n n y1.1 ([]:List Ln) (0:Int)))
def g(a:Str):Option ((List Ln)×Int×Int×Unit):=f (1000+a.length) a
end Zdc
namespace Zbn
def j8(n:Nat)(rl3:(List Ln)->(List Ln)->Int->Option ((List Ln)×Unit))(a:List Ln)(b:List Ln)(c:Int)(d:Str)(e:Int)(i:Int)(j:Int)(k:Int)(l:Int)(o:Bool)(p:List It)(q:Str):Option ((List Ln)×Unit):=
  if(b.length+([(d,(e,i,j,k,l,o,p,q,()),())]:List Ln).length)*104<=140737488355328/\0<104/\0<9 then
  (rl3 a (b++([(d,(e,i,j,k,l,o,p,q,()),())]:List Ln)) (IntKind.i64.wrap (c+(1:Int)))) else none
def l3(n:Nat):Nat->(List Ln)->(List Ln)->Int->Option ((List Ln)×Unit)
 |0,_,_,_=>none
 |m+1,a,b,c=>
  if(decide (c<(a.length:Int))) then
  (if(decide (c<(20:Int))) then
  (if 0<=c/\c<(a.length:Int) then
  ((Zbu.g ((((a.getD (c).toNat zL).2).1).1) (((((a.getD (c).toNat zL).2).1).2).1) ((((((a.getD (c).toNat zL).2).1).2).2).1) (((((((a.getD (c).toNat zL).2).1).2).2).2).1) ((((((((a.getD (c).toNat zL).2).1).2).2).2).2).1) (((((((((a.getD (c).toNat zL).2).1).2).2).2).2).2).1) ((((((((((a.getD (c).toNat zL).2).1).2).2).2).2).2).2).1) (((((((((((a.getD (c).toNat zL).2).1).2).2).2).2).2).2).2).1)).bind fun y1=>
  if 0<=c/\c<(a.length:Int) then
  (if(decide ((2:Int)<(((a.getD (c).toNat zL).1).length:Int))) then
  (if 0<=c/\c<(a.length:Int) then
  (if 0<=c/\c<(a.length:Int) then
  (if 0<=(mn (((a.getD (c).toNat zL).1).length:Int) (20:Int))/\(mn (((a.getD (c).toNat zL).1).length:Int) (20:Int))<=(((a.getD (c).toNat zL).1).length:Int) then
  ((Zbx.g ((((a.getD (c).toNat zL).1).take (((mn (((a.getD (c).toNat zL).1).length:Int) (20:Int))).toNat)).drop 0)).bind fun y2=>
  Zbn.j8 n (Zbn.l3 n m) a b c y2.1 y1.1 y1.2.1 y1.2.2.1 y1.2.2.2.1 y1.2.2.2.2.1 y1.2.2.2.2.2.1 y1.2.2.2.2.2.2.1 y1.2.2.2.2.2.2.2.1) else none) else none) else none)
  else
  (Zbn.j8 n (Zbn.l3 n m) a b c ([]:Str) y1.1 y1.2.1 y1.2.2.1 y1.2.2.2.1 y1.2.2.2.2.1 y1.2.2.2.2.2.1 y1.2.2.2.2.2.2.1 y1.2.2.2.2.2.2.2.1)) else none) else none)
  else(some (b,())))
  else(some (b,()))
def f(n:Nat)(a:List Ln):Option ((List Ln)×Unit):=
  Zbn.l3 n n a ([]:List Ln) (0:Int)
def g(a:List Ln):Option ((List Ln)×Unit):=f (1000+a.length) a
end Zbn
end Rv
