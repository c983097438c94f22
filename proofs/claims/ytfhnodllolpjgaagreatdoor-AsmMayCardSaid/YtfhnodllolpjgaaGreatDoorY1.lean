/- Texts put together. -/
import Derived.Test.YtfhnodllolpjgaaGreatDoorH1
set_option linter.all false
namespace Rv
open Go
set_option maxRecDepth 100000
def K.atA:Fn:=(148,[])
def K.rdA:Fn:=(193,[.cf (148,[])])
def K.wrA:Fn:=(194,[.cf (148,[])])
def K.atB:Fn:=(149,[])
def K.rdB:Fn:=(193,[.cf (149,[])])
def K.wrB:Fn:=(194,[.cf (149,[])])
def K.atC:Fn:=(150,[])
def K.rdC:Fn:=(193,[.cf (150,[])])
def K.wrC:Fn:=(194,[.cf (150,[])])
def K.rdE:Fn:=(195,[.c0 (.cs ([]:Str))])
def K.wrE:Fn:=(197,[.c0 (.cs ([]:Str))])
def K.rdQ:Fn:=(195,[.c0 (.cs ([61]:Str))])
def K.wrQ:Fn:=(197,[.c0 (.cs ([61]:Str))])
def K.rdN:Fn:=(152,[])
def K.wrN:Fn:=(153,[])
abbrev It:=Int×Int×Str×Unit
abbrev Tk:=Int×Int×Str×Int×Unit
abbrev Sn:=Int×Int×Int×Int×Int×Bool×(List It)×Str×Unit
abbrev Ln:=Str×Sn×Unit
abbrev zI:It:=((0:Int),((0:Int),(([]:Str),())))
abbrev zT:Tk:=((0:Int),((0:Int),(([]:Str),((0:Int),()))))
abbrev zL:Ln:=(([]:Str),(((0:Int),((0:Int),((0:Int),((0:Int),((0:Int),(false,([],(([]:Str),())))))))),()))
def L.opsR(k o:Int):List (Fn×Fn×Unit):=
 if k=1 then(if o=0 then[(K.rdA,K.wrA,()),(K.rdC,K.wrC,())] else[(K.rdA,K.wrA,()),(K.rdB,K.wrB,()),(K.rdC,K.wrC,())]) else
 if k=2 then(if o=0 then[(K.rdA,K.wrA,()),(K.rdE,K.wrE,())] else[(K.rdA,K.wrA,()),(K.rdB,K.wrB,()),(K.rdE,K.wrE,())]) else
 if k=3\/k=4 then[(K.rdA,K.wrA,())] else
 if k=5 then[(K.rdA,K.wrA,()),(K.rdB,K.wrB,()),(K.rdE,K.wrE,())] else
 if k=6 then[(K.rdC,K.wrC,())] else
 if k=7\/k=9 then[(K.rdE,K.wrE,())] else
 if k=8 then[(K.rdA,K.wrA,()),(K.rdQ,K.wrQ,())] else
 if k=10 then[(K.rdN,K.wrN,())] else[]
namespace Zcb
def f(n:Nat)(a:Int):Option (Bool×Unit):=
  if(decide ((65:Int)<=a)) then
  (if(decide (a<=(90:Int)))=false then
  (if(decide ((97:Int)<=a)) then
  (if(decide (a<=(122:Int)))=false then(some ((decide (a=(95:Int))),()))
  else(some (true,())))
  else(some ((decide (a=(95:Int))),())))
  else(some (true,())))
  else
  (if(decide ((97:Int)<=a)) then
  (if(decide (a<=(122:Int)))=false then(some ((decide (a=(95:Int))),()))
  else(some (true,())))
  else(some ((decide (a=(95:Int))),())))
def g(a:Int):Option (Bool×Unit):=f (1000+a.toNat) a
end Zcb
namespace Zck
def f(n:Nat)(a:Int):Option (Bool×Unit):=
  if(decide ((48:Int)<=a)) then(some ((decide (a<=(57:Int))),()))
  else(some (false,()))
def g(a:Int):Option (Bool×Unit):=f (1000+a.toNat) a
end Zck
namespace Zak
def j3(n:Nat)(rl2:Str->Int->Option (Str×Unit))(a:Str)(b:Int):Option (Str×Unit):=
  rl2 a (IntKind.i64.wrap (b+(1:Int)))
def j4(n:Nat)(a:Str)(b:Int):Option (Str×Unit):=
  if 0<=b/\b<=(a.length:Int) then(some (((a.take ((b).toNat)).drop 0),())) else none
def l2(n:Nat):Nat->Str->Int->Option (Str×Unit)
 |0,_,_=>none
 |m+1,a,b=>
  if(decide (b<(a.length:Int))) then
  (if 0<=b/\b<(a.length:Int) then
  ((Zcb.g (bt a b)).bind fun y1=>
  if y1.1=false then
  (if 0<=b/\b<(a.length:Int) then
  ((Zck.g (bt a b)).bind fun y2=>
  if y2.1 then(Zak.j3 n (Zak.l2 n m) a b)
  else(Zak.j4 n a b)) else none)
  else(Zak.j3 n (Zak.l2 n m) a b)) else none)
  else(Zak.j4 n a b)
def f(n:Nat)(a:Str):Option (Str×Unit):=
  Zak.l2 n n a (0:Int)
def g(a:Str):Option (Str×Unit):=f (1000+a.length) a
end Zak
namespace Zah
def f(n:Nat)(a:Int):Option (Int×Unit):=
  some ((aQ .or .u8 a (32:Int)),())
def g(a:Int):Option (Int×Unit):=f (1000+a.toNat) a
end Zah
namespace Zaa
def j55(n:Nat)(rl36:Int->Bool->Str->Int->Int->Bool->Int->(List Int)->Int->Int->Option (Int×(Option Int)×Unit))(a:Int)(b:Bool)(c:Str)(d:Int)(e:Int)(i:Bool)(j:Int)(k:List Int)(l:Int)(o:Int):Option (Int×(Option Int)×Unit):=
  rl36 a b c d e i j k l (IntKind.i64.wrap (o+(1:Int)))
def j46(n:Nat)(rl36:Int->Bool->Str->Int->Int->Bool->Int->(List Int)->Int->Int->Option (Int×(Option Int)×Unit))(a:Int)(b:Bool)(c:Str)(d:Int)(e:Int)(i:Bool)(j:Int)(k:Int)(l:List Int)(o:Int)(p:Int):Option (Int×(Option Int)×Unit):=
  if(decide ((IntKind.u8.wrap a)<=k)) then(some ((0:Int),(some (2:Int)),()))
  else
  (if(decide (d<=j)) then(some (e,(some (1:Int)),()))
  else
  (if(decide ((IntKind.u64.wrap ((IntKind.u64.wrap (j*(IntKind.u64.wrap a)))+(IntKind.u64.wrap k)))<(IntKind.u64.wrap (j*(IntKind.u64.wrap a)))))=false then
  (if(decide (e<(IntKind.u64.wrap ((IntKind.u64.wrap (j*(IntKind.u64.wrap a)))+(IntKind.u64.wrap k))))) then(some (e,(some (1:Int)),()))
  else
  (Zaa.j55 n rl36 a b c d e i (IntKind.u64.wrap ((IntKind.u64.wrap (j*(IntKind.u64.wrap a)))+(IntKind.u64.wrap k))) l o p))
  else(some (e,(some (1:Int)),()))))
def l36(n:Nat):Nat->Int->Bool->Str->Int->Int->Bool->Int->(List Int)->Int->Int->Option (Int×(Option Int)×Unit)
 |0,_,_,_,_,_,_,_,_,_,_=>none
 |m+1,a,b,c,d,e,i,j,k,l,o=>
  if(decide (o<l)) then
  (if 0<=o/\o<(k.length:Int) then
  (if(decide ((k.getD (o).toNat (0:Int))=(95:Int))) then
  (if b then
  (Zaa.j55 n (Zaa.l36 n m) a b c d e true j k l o)
  else
  (if(decide ((48:Int)<=(k.getD (o).toNat (0:Int)))) then
  (if(decide ((k.getD (o).toNat (0:Int))<=(57:Int))) then
  (Zaa.j46 n (Zaa.l36 n m) a b c d e i j (IntKind.u8.wrap ((k.getD (o).toNat (0:Int))-(48:Int))) k l o)
  else
  ((Zah.g (k.getD (o).toNat (0:Int))).bind fun y1=>
  if(decide ((97:Int)<=y1.1)) then
  ((Zah.g (k.getD (o).toNat (0:Int))).bind fun y2=>
  if(decide (y2.1<=(122:Int))) then
  ((Zah.g (k.getD (o).toNat (0:Int))).bind fun y3=>
  Zaa.j46 n (Zaa.l36 n m) a b c d e i j (IntKind.u8.wrap ((IntKind.u8.wrap (y3.1-(97:Int)))+(10:Int))) k l o)
  else(some ((0:Int),(some (2:Int)),())))
  else(some ((0:Int),(some (2:Int)),()))))
  else
  ((Zah.g (k.getD (o).toNat (0:Int))).bind fun y4=>
  if(decide ((97:Int)<=y4.1)) then
  ((Zah.g (k.getD (o).toNat (0:Int))).bind fun y5=>
  if(decide (y5.1<=(122:Int))) then
  ((Zah.g (k.getD (o).toNat (0:Int))).bind fun y6=>
  Zaa.j46 n (Zaa.l36 n m) a b c d e i j (IntKind.u8.wrap ((IntKind.u8.wrap (y6.1-(97:Int)))+(10:Int))) k l o)
  else(some ((0:Int),(some (2:Int)),())))
  else(some ((0:Int),(some (2:Int)),())))))
  else
  (if(decide ((48:Int)<=(k.getD (o).toNat (0:Int)))) then
  (if(decide ((k.getD (o).toNat (0:Int))<=(57:Int))) then
  (Zaa.j46 n (Zaa.l36 n m) a b c d e i j (IntKind.u8.wrap ((k.getD (o).toNat (0:Int))-(48:Int))) k l o)
  else
  ((Zah.g (k.getD (o).toNat (0:Int))).bind fun y7=>
  if(decide ((97:Int)<=y7.1)) then
  ((Zah.g (k.getD (o).toNat (0:Int))).bind fun y8=>
  if(decide (y8.1<=(122:Int))) then
  ((Zah.g (k.getD (o).toNat (0:Int))).bind fun y9=>
  Zaa.j46 n (Zaa.l36 n m) a b c d e i j (IntKind.u8.wrap ((IntKind.u8.wrap (y9.1-(97:Int)))+(10:Int))) k l o)
  else(some ((0:Int),(some (2:Int)),())))
  else(some ((0:Int),(some (2:Int)),()))))
  else
  ((Zah.g (k.getD (o).toNat (0:Int))).bind fun y10=>
  if(decide ((97:Int)<=y10.1)) then
  ((Zah.g (k.getD (o).toNat (0:Int))).bind fun y11=>
  if(decide (y11.1<=(122:Int))) then
  ((Zah.g (k.getD (o).toNat (0:Int))).bind fun y12=>
  Zaa.j46 n (Zaa.l36 n m) a b c d e i j (IntKind.u8.wrap ((IntKind.u8.wrap (y12.1-(97:Int)))+(10:Int))) k l o)
  else(some ((0:Int),(some (2:Int)),())))
  else(some ((0:Int),(some (2:Int)),()))))) else none)
  else
  (if i then
  ((L.underscoreO c).bind fun y13=>
  if(!y13.1) then(some ((0:Int),(some (2:Int)),()))
  else(some (j,none,())))
  else(some (j,none,())))
def j32(n:Nat)(a:Str)(b:Int)(c:Int)(d:Bool)(e:Str)(i:Int):Option (Int×(Option Int)×Unit):=
  if(IntKind.u64.wrap c)<0 then none else
  (Zaa.l36 n n b d e i (IntKind.u64.wrap ((IntKind.u64.wrap ((1:Int)*2 ^ (min (IntKind.u64.wrap c).toNat IntKind.u64.bits)))-(1:Int))) false (0:Int) (a.map fun b=>(b.toNat:Int)) ((a.map fun b=>(b.toNat:Int)).length:Int) (0:Int))
def j25(n:Nat)(a:Str)(b:Int)(c:Int)(d:Bool)(e:Str):Option (Int×(Option Int)×Unit):=
  if(decide (b=(10:Int))) then
  (Zaa.j32 n a b c d e (1844674407370955162:Int))
  else
  (if(decide (b=(16:Int))) then
  (Zaa.j32 n a b c d e (1152921504606846976:Int))
  else
  (if(IntKind.u64.wrap b)=0 then none else
  (Zaa.j32 n a b c d e (IntKind.u64.wrap ((IntKind.u64.wrap (Int.tdiv (18446744073709551615:Int) (IntKind.u64.wrap b)))+(1:Int))))))
def j21(n:Nat)(a:Str)(b:Int)(c:Int)(d:Bool)(e:Str):Option (Int×(Option Int)×Unit):=
  if(decide (c=(0:Int))) then(Zaa.j25 n a b (64:Int) d e)
  else
  (if(decide (c<(0:Int)))=false then
  (if(decide ((64:Int)<c)) then(some ((0:Int),(some (4:Int)),()))
  else(Zaa.j25 n a b c d e))
  else(some ((0:Int),(some (4:Int)),())))
def j17(n:Nat)(a:Str)(b:Int)(c:Int)(d:Bool)(e:Str):Option (Int×(Option Int)×Unit):=
  if 0<=(2:Int)/\(2:Int)<=(a.length:Int) then
  (Zaa.j21 n ((a.take (((a.length:Int)).toNat)).drop (((2:Int)).toNat)) b c d e) else none
def j20(n:Nat)(a:Str)(b:Int)(c:Int)(d:Bool)(e:Str):Option (Int×(Option Int)×Unit):=
  if 0<=(2:Int)/\(2:Int)<=(a.length:Int) then
  (Zaa.j21 n ((a.take (((a.length:Int)).toNat)).drop (((2:Int)).toNat)) b c d e) else none
def j11(n:Nat)(a:Str)(b:Int)(c:Int)(d:Bool)(e:Str):Option (Int×(Option Int)×Unit):=
  if 0<=(1:Int)/\(1:Int)<=(a.length:Int) then
  (Zaa.j21 n ((a.take (((a.length:Int)).toNat)).drop (((1:Int)).toNat)) b c d e) else none
def j9(n:Nat)(a:Str)(b:Int)(c:Int)(d:Bool)(e:Str):Option (Int×(Option Int)×Unit):=
  if 0<=(0:Int)/\(0:Int)<(a.length:Int) then
  (if(decide ((bt a (0:Int))=(48:Int))) then
  (if(decide ((3:Int)<=(a.length:Int))) then
  (if 0<=(1:Int)/\(1:Int)<(a.length:Int) then
  ((Zah.g (bt a (1:Int))).bind fun y1=>
  if(decide (y1.1=(98:Int))) then
  (if 0<=(2:Int)/\(2:Int)<=(a.length:Int) then
  (Zaa.j21 n ((a.take (((a.length:Int)).toNat)).drop (((2:Int)).toNat)) (2:Int) c d e) else none)
  else
  (if(decide ((3:Int)<=(a.length:Int))) then
  (if 0<=(1:Int)/\(1:Int)<(a.length:Int) then
  ((Zah.g (bt a (1:Int))).bind fun y2=>
  if(decide (y2.1=(111:Int))) then(Zaa.j17 n a (8:Int) c d e)
  else
  (if(decide ((3:Int)<=(a.length:Int))) then
  (if 0<=(1:Int)/\(1:Int)<(a.length:Int) then
  ((Zah.g (bt a (1:Int))).bind fun y3=>
  if(decide (y3.1=(120:Int))) then(Zaa.j20 n a (16:Int) c d e)
  else(Zaa.j11 n a (8:Int) c d e)) else none)
  else(Zaa.j11 n a (8:Int) c d e))) else none)
  else
  (if(decide ((3:Int)<=(a.length:Int))) then
  (if 0<=(1:Int)/\(1:Int)<(a.length:Int) then
  ((Zah.g (bt a (1:Int))).bind fun y4=>
  if(decide (y4.1=(120:Int))) then(Zaa.j20 n a (16:Int) c d e)
  else(Zaa.j11 n a (8:Int) c d e)) else none)
  else(Zaa.j11 n a (8:Int) c d e)))) else none)
  else
  (if(decide ((3:Int)<=(a.length:Int))) then
  (if 0<=(1:Int)/\(1:Int)<(a.length:Int) then
  ((Zah.g (bt a (1:Int))).bind fun y5=>
  if(decide (y5.1=(111:Int))) then(Zaa.j17 n a (8:Int) c d e)
  else
  (if(decide ((3:Int)<=(a.length:Int))) then
  (if 0<=(1:Int)/\(1:Int)<(a.length:Int) then
  ((Zah.g (bt a (1:Int))).bind fun y6=>
  if(decide (y6.1=(120:Int))) then(Zaa.j20 n a (16:Int) c d e)
  else(Zaa.j11 n a (8:Int) c d e)) else none)
  else(Zaa.j11 n a (8:Int) c d e))) else none)
  else
  (if(decide ((3:Int)<=(a.length:Int))) then
  (if 0<=(1:Int)/\(1:Int)<(a.length:Int) then
  ((Zah.g (bt a (1:Int))).bind fun y7=>
  if(decide (y7.1=(120:Int))) then(Zaa.j20 n a (16:Int) c d e)
  else(Zaa.j11 n a (8:Int) c d e)) else none)
  else(Zaa.j11 n a (8:Int) c d e))))
  else(Zaa.j21 n a b c d e)) else none
def f(n:Nat)(a:Str)(b:Int)(c:Int):Option (Int×(Option Int)×Unit):=
  if(decide (a=([]:Str))) then(some ((0:Int),(some (2:Int)),()))
  else
  (if(decide ((2:Int)<=b)) then
  (if(decide (b<=(36:Int))) then
  (Zaa.j21 n a b c (decide (b=(0:Int))) a)
  else
  (if(decide (b=(0:Int))) then
  (Zaa.j9 n a (10:Int) c (decide (b=(0:Int))) a)
  else(some ((0:Int),(some (3:Int)),()))))
  else
  (if(decide (b=(0:Int))) then
  (Zaa.j9 n a (10:Int) c (decide (b=(0:Int))) a)
  else(some ((0:Int),(some (3:Int)),()))))
def g(a:Str)(b:Int)(c:Int):Option (Int×(Option Int)×Unit):=f (1000+a.length+b.toNat+c.toNat) a b c
end Zaa
namespace Zcc
def f(n:Nat)(a:Str)(b:Int)(c:Int):Option (Int×Bool×Unit):=
  (Zaa.g a b c).bind fun y1=>
  if(!y1.2.1.isNone) then
  ((L.toErrorO ([80,97,114,115,101,85,105,110,116]:Str) a b c y1.2.1).bind fun y2=>
  some (y1.1,y2.1,()))
  else(some (y1.1,true,()))
def g(a:Str)(b:Int)(c:Int):Option (Int×Bool×Unit):=f (1000+a.length+b.toNat+c.toNat) a b c
end Zcc
namespace Zbe
def j5(n:Nat)(a:Str)(b:Int):Option (Int×Bool×Unit):=
  (L.containsO a ([95]:Str)).bind fun y1=>
  if y1.1 then(some ((0:Int),false,()))
  else
  ((Zcc.g a b (32:Int)).bind fun y2=>
  some ((IntKind.u32.wrap y2.1),y2.2.1,()))
def f(n:Nat)(a:Str):Option (Int×Bool×Unit):=
  if(L.cutIs a ([48,120]:Str)) then
  (Zbe.j5 n (L.cutRest a ([48,120]:Str)) (16:Int))
  else(Zbe.j5 n a (10:Int))
def g(a:Str):Option (Int×Bool×Unit):=f (1000+a.length) a
end Zbe
namespace Zae
def j23(n:Nat)(rg0:Str->(List Tk)->Int->Option ((List Tk)×Int×Unit))(a:Str)(b:List Tk)(c:Int)(d:Int)(e:Int)(i:Str)(j:Int):Option ((List Tk)×Int×Unit):=
  if(b.length+([(d,e,i,j,())]:List Tk).length)*40<=140737488355328/\0<40/\0<4 then
  (rg0 a (b++([(d,e,i,j,())]:List Tk)) (IntKind.i64.wrap (c+(i.length:Int)))) else none
def g0(n:Nat):Nat->Str->(List Tk)->Int->Option ((List Tk)×Int×Unit)
 |0,_,_,_=>none
 |m+1,a,b,c=>
  if(decide ((a.length:Int)<=c))=false then
  (if 0<=c/\c<(a.length:Int) then
  (if(decide ((bt a c)=(59:Int))) then(some (b,(0:Int),()))
  else
  (if 0<=c/\c<(a.length:Int) then
  (if(decide ((bt a c)=(32:Int)))=false then
  (if(decide ((bt a c)=(9:Int))) then((Zae.g0 n m) a b (IntKind.i64.wrap (c+(1:Int))))
  else
  ((Zcb.g (bt a c)).bind fun y1=>
  if y1.1 then
  (if 0<=c/\c<=(a.length:Int) then
  ((Zak.g ((a.take (((a.length:Int)).toNat)).drop ((c).toNat))).bind fun y2=>
  Zae.j23 n (Zae.g0 n m) a b c (1:Int) c y2.1 0) else none)
  else
  ((Zck.g (bt a c)).bind fun y3=>
  if y3.1 then
  (if 0<=c/\c<=(a.length:Int) then
  ((Zak.g ((a.take (((a.length:Int)).toNat)).drop ((c).toNat))).bind fun y4=>
  (Zbe.g y4.1).bind fun y5=>
  if(!y5.2.1) then(some ([],(21:Int),()))
  else
  (Zae.j23 n (Zae.g0 n m) a b c (2:Int) c y4.1 y5.1)) else none)
  else
  (if(decide ((bt a c)=(46:Int))) then
  (if(decide ((IntKind.i64.wrap (c+(1:Int)))<(a.length:Int))) then
  (if 0<=(IntKind.i64.wrap (c+(1:Int)))/\(IntKind.i64.wrap (c+(1:Int)))<(a.length:Int) then
  ((Zcb.g (bt a (IntKind.i64.wrap (c+(1:Int))))).bind fun y6=>
  if y6.1 then
  (if 0<=(IntKind.i64.wrap (c+(1:Int)))/\(IntKind.i64.wrap (c+(1:Int)))<=(a.length:Int) then
  ((Zak.g ((a.take (((a.length:Int)).toNat)).drop (((IntKind.i64.wrap (c+(1:Int)))).toNat))).bind fun y7=>
  Zae.j23 n (Zae.g0 n m) a b (IntKind.i64.wrap (c+(1:Int))) (4:Int) c y7.1 0) else none)
  else
  (if(decide ((0:Int)<=(L.indexByte ([44,58,43,45,42,40,41,61]:Str) (bt a c)))) then
  (if 0<=(IntKind.i64.wrap (c+(1:Int)))/\(IntKind.i64.wrap (c+(1:Int)))<=(a.length:Int) then
  (if 0<=c/\c<=(IntKind.i64.wrap (c+(1:Int))) then
  (Zae.j23 n (Zae.g0 n m) a b c (3:Int) c ((a.take (((IntKind.i64.wrap (c+(1:Int)))).toNat)).drop ((c).toNat)) 0) else none) else none)
  else(some ([],(20:Int),())))) else none)
  else
  (if(decide ((0:Int)<=(L.indexByte ([44,58,43,45,42,40,41,61]:Str) (bt a c)))) then
  (if 0<=(IntKind.i64.wrap (c+(1:Int)))/\(IntKind.i64.wrap (c+(1:Int)))<=(a.length:Int) then
  (if 0<=c/\c<=(IntKind.i64.wrap (c+(1:Int))) then
  (Zae.j23 n (Zae.g0 n m) a b c (3:Int) c ((a.take (((IntKind.i64.wrap (c+(1:Int)))).toNat)).drop ((c).toNat)) 0) else none) else none)
  else(some ([],(20:Int),()))))
  else
  (if(decide ((0:Int)<=(L.indexByte ([44,58,43,45,42,40,41,61]:Str) (bt a c)))) then
  (if 0<=(IntKind.i64.wrap (c+(1:Int)))/\(IntKind.i64.wrap (c+(1:Int)))<=(a.length:Int) then
  (if 0<=c/\c<=(IntKind.i64.wrap (c+(1:Int))) then
  (Zae.j23 n (Zae.g0 n m) a b c (3:Int) c ((a.take (((IntKind.i64.wrap (c+(1:Int)))).toNat)).drop ((c).toNat)) 0) else none) else none)
  else(some ([],(20:Int),())))))))
  else((Zae.g0 n m) a b (IntKind.i64.wrap (c+(1:Int))))) else none)) else none)
  else(some (b,(0:Int),()))
def f(n:Nat)(a:Str):Option ((List Tk)×Int×Unit):=
  Zae.g0 n n a ([]) (0:Int)
def g(a:Str):Option ((List Tk)×Int×Unit):=f (1000+a.length) a
end Zae
namespace Zac
def j9(n:Nat)(rl4:Str->Int->Int->Option (Bool×Unit))(a:Str)(b:Int)(c:Int):Option (Bool×Unit):=
  rl4 a b (IntKind.i64.wrap (c+(1:Int)))
def l4(n:Nat):Nat->Str->Int->Int->Option (Bool×Unit)
 |0,_,_,_=>none
 |m+1,a,b,c=>
  if(decide (c<b)) then
  (if 0<=c/\c<(a.length:Int) then
  (if(decide ((aQ .or .u8 (bt a c) (32:Int))<(97:Int)))=false then
  (if(decide ((122:Int)<(aQ .or .u8 (bt a c) (32:Int))))=false then
  (if 0<=c/\c<(a.length:Int) then
  (if(decide ((bt a c)<(65:Int))) then
  (if 0<=c/\c<(a.length:Int) then
  (if(decide ((bt a c)≠(95:Int))) then
  (if 0<=c/\c<(a.length:Int) then
  (if(decide ((bt a c)<(48:Int)))=false then
  (if 0<=c/\c<(a.length:Int) then
  (if(decide ((57:Int)<(bt a c))) then(some (false,()))
  else(Zac.j9 n (Zac.l4 n m) a b c)) else none)
  else(some (false,()))) else none)
  else(Zac.j9 n (Zac.l4 n m) a b c)) else none)
  else(Zac.j9 n (Zac.l4 n m) a b c)) else none)
  else
  (if 0<=c/\c<(a.length:Int) then
  (if(decide ((bt a c)≠(95:Int))) then
  (if 0<=c/\c<(a.length:Int) then
  (if(decide ((bt a c)<(48:Int)))=false then
  (if 0<=c/\c<(a.length:Int) then
  (if(decide ((57:Int)<(bt a c))) then(some (false,()))
  else(Zac.j9 n (Zac.l4 n m) a b c)) else none)
  else(some (false,()))) else none)
  else(Zac.j9 n (Zac.l4 n m) a b c)) else none))
  else
  (if 0<=c/\c<(a.length:Int) then
  (if(decide ((bt a c)≠(95:Int))) then
  (if 0<=c/\c<(a.length:Int) then
  (if(decide ((bt a c)<(48:Int)))=false then
  (if 0<=c/\c<(a.length:Int) then
  (if(decide ((57:Int)<(bt a c))) then(some (false,()))
  else(Zac.j9 n (Zac.l4 n m) a b c)) else none)
  else(some (false,()))) else none)
  else(Zac.j9 n (Zac.l4 n m) a b c)) else none)) else none)
  else
  (if 0<=(0:Int)/\(0:Int)<(a.length:Int) then
  (if(decide ((bt a (0:Int))=(82:Int))) then
  (if(decide ((a.length:Int)=(2:Int)))=false then
  (if(decide ((a.length:Int)=(3:Int))) then
  (if 0<=(1:Int)/\(1:Int)<=(a.length:Int) then
  ((L.trimO ((a.take (((a.length:Int)).toNat)).drop (((1:Int)).toNat)) ([48,49,50,51,52,53,54,55,56,57]:Str)).bind fun y1=>
  some ((!(decide (y1.1=([]:Str)))),())) else none)
  else(some (true,())))
  else
  (if 0<=(1:Int)/\(1:Int)<=(a.length:Int) then
  ((L.trimO ((a.take (((a.length:Int)).toNat)).drop (((1:Int)).toNat)) ([48,49,50,51,52,53,54,55,56,57]:Str)).bind fun y2=>
  some ((!(decide (y2.1=([]:Str)))),())) else none))
  else(some (true,()))) else none)
def j3(n:Nat)(a:Str):Option (Bool×Unit):=
  Zac.l4 n n a (a.length:Int) (0:Int)
def f(n:Nat)(a:Str):Option (Bool×Unit):=
  if(decide (a=([]:Str)))=false then
  (if(decide ((12:Int)<(a.length:Int)))=false then
  (if 0<=(0:Int)/\(0:Int)<(a.length:Int) then
  (if(decide ((48:Int)<=(bt a (0:Int)))) then
  (if 0<=(0:Int)/\(0:Int)<(a.length:Int) then
  (if(decide ((bt a (0:Int))<=(57:Int))) then(some (false,()))
  else(Zac.j3 n a)) else none)
  else(Zac.j3 n a)) else none)
  else(some (false,())))
  else(some (false,()))
def g(a:Str):Option (Bool×Unit):=f (1000+a.length) a
end Zac
namespace Zaf
def j21(n:Nat)(a:Bool)(b:Int):Option (Int×(Option Int)×Unit):=
  if a then
  (some ((IntKind.i64.wrap (0-(IntKind.i64.wrap b))),none,()))
  else(some ((IntKind.i64.wrap b),none,()))
def j19(n:Nat)(a:Bool)(b:Int)(c:Int):Option (Int×(Option Int)×Unit):=
  if a then
  (if(decide (c<b)) then
  (some ((IntKind.i64.wrap (0-(IntKind.i64.wrap c))),(some (1:Int)),()))
  else(Zaf.j21 n a b))
  else(Zaf.j21 n a b)
def j16(n:Nat)(a:Int)(b:Bool)(c:Int):Option (Int×(Option Int)×Unit):=
  if(IntKind.u64.wrap (IntKind.i64.wrap (a-(1:Int))))<0 then none else
  (if(!b) then
  (if(decide ((IntKind.u64.wrap ((1:Int)*2 ^ (min (IntKind.u64.wrap (IntKind.i64.wrap (a-(1:Int)))).toNat IntKind.u64.bits)))<=c)) then
  (some ((IntKind.i64.wrap (IntKind.u64.wrap ((IntKind.u64.wrap ((1:Int)*2 ^ (min (IntKind.u64.wrap (IntKind.i64.wrap (a-(1:Int)))).toNat IntKind.u64.bits)))-(1:Int)))),(some (1:Int)),()))
  else
  (Zaf.j19 n b c (IntKind.u64.wrap ((1:Int)*2 ^ (min (IntKind.u64.wrap (IntKind.i64.wrap (a-(1:Int)))).toNat IntKind.u64.bits)))))
  else
  (Zaf.j19 n b c (IntKind.u64.wrap ((1:Int)*2 ^ (min (IntKind.u64.wrap (IntKind.i64.wrap (a-(1:Int)))).toNat IntKind.u64.bits)))))
def j14(n:Nat)(a:Int)(b:Bool)(c:Int):Option (Int×(Option Int)×Unit):=
  if(decide (a=(0:Int))) then(Zaf.j16 n (64:Int) b c)
  else(Zaf.j16 n a b c)
def j10(n:Nat)(a:Str)(b:Int)(c:Int)(d:Bool):Option (Int×(Option Int)×Unit):=
  (Zaa.g a b c).bind fun y1=>
  if(!y1.2.1.isNone) then
  (if(!(decide (y1.2.1=(some (1:Int))))) then(some ((0:Int),y1.2.1,()))
  else(Zaf.j14 n c d y1.1))
  else(Zaf.j14 n c d y1.1)
def f(n:Nat)(a:Str)(b:Int)(c:Int):Option (Int×(Option Int)×Unit):=
  if(decide (a=([]:Str))) then(some ((0:Int),(some (2:Int)),()))
  else
  (if 0<=(0:Int)/\(0:Int)<(a.length:Int) then
  (if(decide ((bt a (0:Int))=(43:Int))) then
  (if 0<=(1:Int)/\(1:Int)<=(a.length:Int) then
  (Zaf.j10 n ((a.take (((a.length:Int)).toNat)).drop (((1:Int)).toNat)) b c false) else none)
  else
  (if(decide ((bt a (0:Int))=(45:Int))) then
  (if 0<=(1:Int)/\(1:Int)<=(a.length:Int) then
  (Zaf.j10 n ((a.take (((a.length:Int)).toNat)).drop (((1:Int)).toNat)) b c true) else none)
  else(Zaf.j10 n a b c false))) else none)
def g(a:Str)(b:Int)(c:Int):Option (Int×(Option Int)×Unit):=f (1000+a.length+b.toNat+c.toNat) a b c
end Zaf
namespace Zal
def l10(n:Nat):Nat->Str->Int->(List Int)->Int->Int->Option (Int×(Option Int)×Unit)
 |0,_,_,_,_,_=>none
 |m+1,a,b,c,d,e=>
  if(decide (e<d)) then
  (if 0<=e/\e<(c.length:Int) then
  (if(decide ((9:Int)<(IntKind.u8.wrap ((c.getD (e).toNat (0:Int))-(48:Int))))) then(some ((0:Int),(some (2:Int)),()))
  else
  ((Zal.l10 n m) a (IntKind.i64.wrap ((IntKind.i64.wrap (b*(10:Int)))+(IntKind.i64.wrap (IntKind.u8.wrap ((c.getD (e).toNat (0:Int))-(48:Int)))))) c d (IntKind.i64.wrap (e+(1:Int))))) else none)
  else
  (if 0<=(0:Int)/\(0:Int)<(a.length:Int) then
  (if(decide ((bt a (0:Int))=(45:Int))) then(some ((IntKind.i64.wrap (0-b)),none,()))
  else(some (b,none,()))) else none)
def j8(n:Nat)(a:Str)(b:Str):Option (Int×(Option Int)×Unit):=
  Zal.l10 n n b (0:Int) (a.map fun b=>(b.toNat:Int)) ((a.map fun b=>(b.toNat:Int)).length:Int) (0:Int)
def j6(n:Nat)(a:Str)(b:Str):Option (Int×(Option Int)×Unit):=
  if(decide ((a.length:Int)<(1:Int))) then(some ((0:Int),(some (2:Int)),()))
  else(Zal.j8 n a b)
def j20(n:Nat)(a:Str):Option (Int×(Option Int)×Unit):=
  (Zaf.g a (10:Int) (0:Int)).bind fun y1=>
  some (y1.1,y1.2.1,())
def f(n:Nat)(a:Str):Option (Int×(Option Int)×Unit):=
  if(decide ((0:Int)<(a.length:Int))) then
  (if(decide ((a.length:Int)<(19:Int))) then
  (if 0<=(0:Int)/\(0:Int)<(a.length:Int) then
  (if(decide ((bt a (0:Int))=(45:Int)))=false then
  (if 0<=(0:Int)/\(0:Int)<(a.length:Int) then
  (if(decide ((bt a (0:Int))=(43:Int))) then
  (if 0<=(1:Int)/\(1:Int)<=(a.length:Int) then
  (Zal.j6 n ((a.take (((a.length:Int)).toNat)).drop (((1:Int)).toNat)) a) else none)
  else(Zal.j8 n a a)) else none)
  else
  (if 0<=(1:Int)/\(1:Int)<=(a.length:Int) then
  (Zal.j6 n ((a.take (((a.length:Int)).toNat)).drop (((1:Int)).toNat)) a) else none)) else none)
  else(Zal.j20 n a))
  else(Zal.j20 n a)
def g(a:Str):Option (Int×(Option Int)×Unit):=f (1000+a.length) a
end Zal
namespace Zcx
def f(n:Nat)(a:Str):Option (Int×Bool×Unit):=
  (Zal.g a).bind fun y1=>
  if(!y1.2.1.isNone) then
  ((L.toErrorO ([65,116,111,105]:Str) a (0:Int) (0:Int) y1.2.1).bind fun y2=>
  some (y1.1,y2.1,()))
  else(some (y1.1,true,()))
def g(a:Str):Option (Int×Bool×Unit):=f (1000+a.length) a
end Zcx
namespace Zcd
def f(n:Nat)(a:Int):Option (Str×Unit):=
  if(decide (a<(0:Int)))=false then
  (if(decide ((16:Int)<=a)) then(some (([]:Str),()))
  else
  ((L.itoaO a).bind fun y1=>
  if([82]:Str).length+y1.1.length<=9223372036854775807 then(some ((([82]:Str)++y1.1),())) else none))
  else(some (([]:Str),()))
def g(a:Int):Option (Str×Unit):=f (1000+a.toNat) a
end Zcd
namespace Zbp
def f(n:Nat)(a:Str):Option (Int×Bool×Unit):=
  (Zcx.g (L.cutRest a ([82]:Str))).bind fun y2=>
  if(!(L.cutIs a ([82]:Str)))=false then
  (if(!y2.2.1)=false then
  ((Zcd.g y2.1).bind fun y3=>
  if(!(decide (y3.1=a))) then(some ((0:Int),false,()))
  else(some (y2.1,true,())))
  else(some ((0:Int),false,())))
  else(some ((0:Int),false,()))
def g(a:Str):Option (Int×Bool×Unit):=f (1000+a.length) a
end Zbp
namespace Zaq
def f(n:Nat)(a:Int)(b:List Tk)(c:Int)(d:List It)(e:Int):Option ((List Tk)×Int×(List It)×Int×Unit):=
  if(decide (e=(0:Int))) then(some (b,c,d,a,()))
  else(some (b,c,d,e,()))
def g(a:Int)(b:List Tk)(c:Int)(d:List It)(e:Int):Option ((List Tk)×Int×(List It)×Int×Unit):=f (1000+a.toNat+b.length+c.toNat+d.length+e.toNat) a b c d e
end Zaq
namespace Zau
def f(n:Nat)(a:List Tk)(b:Int)(c:List It)(d:Int):Option (Int×Int×Str×Int×Bool×(List Tk)×Int×(List It)×Int×Unit):=
  if(decide (d≠(0:Int)))=false then
  (if(decide (b<(0:Int)))=false then
  (if(decide ((a.length:Int)<=b)) then(some (0,0,([]:Str),0,false,a,b,c,d,()))
  else
  (if 0<=b/\b<(a.length:Int) then
  (some ((a.getD (b).toNat zT).1,((a.getD (b).toNat zT).2).1,(((a.getD (b).toNat zT).2).2).1,((((a.getD (b).toNat zT).2).2).2).1,true,a,b,c,d,())) else none))
  else(some (0,0,([]:Str),0,false,a,b,c,d,())))
  else(some (0,0,([]:Str),0,false,a,b,c,d,()))
def g(a:List Tk)(b:Int)(c:List It)(d:Int):Option (Int×Int×Str×Int×Bool×(List Tk)×Int×(List It)×Int×Unit):=f (1000+a.length+b.toNat+c.length+d.toNat) a b c d
end Zau
namespace Zag
def j8(n:Nat)(rl3:Bool->(List Str)->Int->Int->(List Tk)->Int->(List It)->Int->Int->Int->Str->Int->Option (Str×Bool×(List Tk)×Int×(List It)×Int×Unit))(a:Bool)(b:List Str)(c:Int)(d:Int)(e:List Tk)(i:Int)(j:List It)(k:Int)(l:Int)(o:Int)(p:Str)(q:Int):Option (Str×Bool×(List Tk)×Int×(List It)×Int×Unit):=
  rl3 a b c (IntKind.i64.wrap (d+(1:Int))) e i j k l o p q
def l3(n:Nat):Nat->Bool->(List Str)->Int->Int->(List Tk)->Int->(List It)->Int->Int->Int->Str->Int->Option (Str×Bool×(List Tk)×Int×(List It)×Int×Unit)
 |0,_,_,_,_,_,_,_,_,_,_,_,_=>none
 |m+1,a,b,c,d,e,i,j,k,l,o,p,q=>
  if(decide (d<c)) then
  (if 0<=d/\d<(b.length:Int) then
  (if a then
  (if(decide (l=(3:Int))) then
  (if(decide (p=(b.getD (d).toNat ([]:Str)))) then
  (some ((b.getD (d).toNat ([]:Str)),true,e,(IntKind.i64.wrap (i+(1:Int))),j,k,()))
  else
  (Zag.j8 n (Zag.l3 n m) a b c d e i j k l o p q))
  else
  (Zag.j8 n (Zag.l3 n m) a b c d e i j k l o p q))
  else
  (Zag.j8 n (Zag.l3 n m) a b c d e i j k l o p q)) else none)
  else(some (([]:Str),false,e,i,j,k,()))
def f(n:Nat)(a:List Str)(b:List Tk)(c:Int)(d:List It)(e:Int):Option (Str×Bool×(List Tk)×Int×(List It)×Int×Unit):=
  (Zau.g b c d e).bind fun y1=>
  Zag.l3 n n y1.2.2.2.2.1 a (a.length:Int) (0:Int) y1.2.2.2.2.2.1 y1.2.2.2.2.2.2.1 y1.2.2.2.2.2.2.2.1 y1.2.2.2.2.2.2.2.2.1 y1.1 y1.2.1 y1.2.2.1 y1.2.2.2.1
def g(a:List Str)(b:List Tk)(c:Int)(d:List It)(e:Int):Option (Str×Bool×(List Tk)×Int×(List It)×Int×Unit):=f (1000+a.length+b.length+c.toNat+d.length+e.toNat) a b c d e
end Zag
namespace Zar
def f(n:Nat)(a:Int)(b:Int)(c:Str)(d:List Tk)(e:Int)(i:List It)(j:Int):Option ((List Tk)×Int×(List It)×Int×Unit):=
  if(i.length+([(a,b,c,())]:List It).length)*32<=140737488355328/\0<32/\0<3 then
  (some (d,e,(i++([(a,b,c,())]:List It)),j,())) else none
def g(a:Int)(b:Int)(c:Str)(d:List Tk)(e:Int)(i:List It)(j:Int):Option ((List Tk)×Int×(List It)×Int×Unit):=f (1000+a.toNat+b.toNat+c.length+d.length+e.toNat+i.length+j.toNat) a b c d e i j
end Zar
structure av where
 expr_parser_sum:Int->(List Tk)->Int->(List It)->Int->Option ((List Tk)×Int×(List It)×Int×Unit)
 expr_parser_row_c256:(List Str)->(List Tk)->Int->(List It)->Int->Int->Option ((List Tk)×Int×(List It)×Int×Unit×Int×Unit)
 expr_parser_sum_1:Int->(List Tk)->Int->(List It)->Int->Option (Unit×Int×(List Tk)×Int×(List It)×Int×Unit)
 expr_parser_row_c257:(List Str)->(List Tk)->Int->(List It)->Int->Int->Option ((List Tk)×Int×(List It)×Int×Unit×Int×Unit)
 expr_parser_sum_1_1:Int->(List Tk)->Int->(List It)->Int->Option (Unit×Int×(List Tk)×Int×(List It)×Int×Unit)
 expr_parser_factor:Int->(List Tk)->Int->(List It)->Int->Option ((List Tk)×Int×(List It)×Int×Unit)
namespace expr_parser_sum
def f(n:Nat)(R:av)(a:Int)(b:List Tk)(c:Int)(d:List It)(e:Int):Option ((List Tk)×Int×(List It)×Int×Unit):=
  (R.expr_parser_row_c256 ([([43]:Str),([45]:Str)]:List Str) b c d e a).bind fun y1=>
  some (y1.1,y1.2.1,y1.2.2.1,y1.2.2.2.1,())
def h(R:av)(a:Int)(b:List Tk)(c:Int)(d:List It)(e:Int):Option ((List Tk)×Int×(List It)×Int×Unit):=f (1000+a.toNat+b.length+c.toNat+d.length+e.toNat) R a b c d e
end expr_parser_sum
namespace expr_parser_row_c256
def l1(n:Nat)(R:av):Nat->(List Str)->(List Tk)->Int->(List It)->Int->Int->Option ((List Tk)×Int×(List It)×Int×Unit×Int×Unit)
 |0,_,_,_,_,_,_=>none
 |m+1,a,b,c,d,e,i=>
  (Zag.g a b c d e).bind fun y1=>
  if(!y1.2.1) then
  (some (y1.2.2.1,y1.2.2.2.1,y1.2.2.2.2.1,y1.2.2.2.2.2.1,(),i,()))
  else
  ((R.expr_parser_sum_1 i y1.2.2.1 y1.2.2.2.1 y1.2.2.2.2.1 y1.2.2.2.2.2.1).bind fun y2=>
  (Zar.g ((L.kinds y1.1).1) 0 ([]:Str) y2.2.2.1 y2.2.2.2.1 y2.2.2.2.2.1 y2.2.2.2.2.2.1).bind fun y3=>
  (expr_parser_row_c256.l1 n R m) a y3.1 y3.2.1 y3.2.2.1 y3.2.2.2.1 y2.2.1)
def f(n:Nat)(R:av)(a:List Str)(b:List Tk)(c:Int)(d:List It)(e:Int)(i:Int):Option ((List Tk)×Int×(List It)×Int×Unit×Int×Unit):=
  (R.expr_parser_sum_1 i b c d e).bind fun y1=>
  expr_parser_row_c256.l1 n R n a y1.2.2.1 y1.2.2.2.1 y1.2.2.2.2.1 y1.2.2.2.2.2.1 y1.2.1
def h(R:av)(a:List Str)(b:List Tk)(c:Int)(d:List It)(e:Int)(i:Int):Option ((List Tk)×Int×(List It)×Int×Unit×Int×Unit):=f (1000+a.length+b.length+c.toNat+d.length+e.toNat+i.toNat) R a b c d e i
end expr_parser_row_c256
namespace expr_parser_sum_1
def f(n:Nat)(R:av)(a:Int)(b:List Tk)(c:Int)(d:List It)(e:Int):Option (Unit×Int×(List Tk)×Int×(List It)×Int×Unit):=
  (R.expr_parser_row_c257 ([([42]:Str)]:List Str) b c d e a).bind fun y1=>
  some ((),y1.2.2.2.2.2.1,y1.1,y1.2.1,y1.2.2.1,y1.2.2.2.1,())
def h(R:av)(a:Int)(b:List Tk)(c:Int)(d:List It)(e:Int):Option (Unit×Int×(List Tk)×Int×(List It)×Int×Unit):=f (1000+a.toNat+b.length+c.toNat+d.length+e.toNat) R a b c d e
end expr_parser_sum_1
namespace expr_parser_row_c257
def l1(n:Nat)(R:av):Nat->(List Str)->(List Tk)->Int->(List It)->Int->Int->Option ((List Tk)×Int×(List It)×Int×Unit×Int×Unit)
 |0,_,_,_,_,_,_=>none
 |m+1,a,b,c,d,e,i=>
  (Zag.g a b c d e).bind fun y1=>
  if(!y1.2.1) then
  (some (y1.2.2.1,y1.2.2.2.1,y1.2.2.2.2.1,y1.2.2.2.2.2.1,(),i,()))
  else
  ((R.expr_parser_sum_1_1 i y1.2.2.1 y1.2.2.2.1 y1.2.2.2.2.1 y1.2.2.2.2.2.1).bind fun y2=>
  (Zar.g ((L.kinds y1.1).1) 0 ([]:Str) y2.2.2.1 y2.2.2.2.1 y2.2.2.2.2.1 y2.2.2.2.2.2.1).bind fun y3=>
  (expr_parser_row_c257.l1 n R m) a y3.1 y3.2.1 y3.2.2.1 y3.2.2.2.1 y2.2.1)
def f(n:Nat)(R:av)(a:List Str)(b:List Tk)(c:Int)(d:List It)(e:Int)(i:Int):Option ((List Tk)×Int×(List It)×Int×Unit×Int×Unit):=
  (R.expr_parser_sum_1_1 i b c d e).bind fun y1=>
  expr_parser_row_c257.l1 n R n a y1.2.2.1 y1.2.2.2.1 y1.2.2.2.2.1 y1.2.2.2.2.2.1 y1.2.1
def h(R:av)(a:List Str)(b:List Tk)(c:Int)(d:List It)(e:Int)(i:Int):Option ((List Tk)×Int×(List It)×Int×Unit×Int×Unit):=f (1000+a.length+b.length+c.toNat+d.length+e.toNat+i.toNat) R a b c d e i
end expr_parser_row_c257
namespace expr_parser_sum_1_1
def f(n:Nat)(R:av)(a:Int)(b:List Tk)(c:Int)(d:List It)(e:Int):Option (Unit×Int×(List Tk)×Int×(List It)×Int×Unit):=
  (R.expr_parser_factor a b c d e).bind fun y1=>
  some ((),a,y1.1,y1.2.1,y1.2.2.1,y1.2.2.2.1,())
def h(R:av)(a:Int)(b:List Tk)(c:Int)(d:List It)(e:Int):Option (Unit×Int×(List Tk)×Int×(List It)×Int×Unit):=f (1000+a.toNat+b.length+c.toNat+d.length+e.toNat) R a b c d e
end expr_parser_sum_1_1
namespace expr_parser_factor
def j19(n:Nat)(R:av)(a:List Tk)(b:Int)(c:List It)(d:Int):Option ((List Tk)×Int×(List It)×Int×Unit):=
  some (a,(IntKind.i64.wrap (b+(1:Int))),c,d,())
def f(n:Nat)(R:av)(a:Int)(b:List Tk)(c:Int)(d:List It)(e:Int):Option ((List Tk)×Int×(List It)×Int×Unit):=
  if(decide (e≠(0:Int))) then(some (b,c,d,e,()))
  else
  (if(decide ((8:Int)<a)) then
  ((Zaq.g (24:Int) b c d e).bind fun y1=>
  some (y1.1,y1.2.1,y1.2.2.1,y1.2.2.2.1,()))
  else
  ((Zag.g ([([45]:Str),([40]:Str)]:List Str) b c d e).bind fun y2=>
  if(decide (y2.1=([45]:Str))) then
  ((R.expr_parser_factor (IntKind.i64.wrap (a+(1:Int))) y2.2.2.1 y2.2.2.2.1 y2.2.2.2.2.1 y2.2.2.2.2.2.1).bind fun y3=>
  (Zar.g (3:Int) 0 ([]:Str) y3.1 y3.2.1 y3.2.2.1 y3.2.2.2.1).bind fun y4=>
  some (y4.1,y4.2.1,y4.2.2.1,y4.2.2.2.1,()))
  else
  (if(decide (y2.1=([40]:Str))) then
  ((R.expr_parser_sum (IntKind.i64.wrap (a+(1:Int))) y2.2.2.1 y2.2.2.2.1 y2.2.2.2.2.1 y2.2.2.2.2.2.1).bind fun y5=>
  (Zag.g ([([41]:Str)]:List Str) y5.1 y5.2.1 y5.2.2.1 y5.2.2.2.1).bind fun y6=>
  if(!y6.2.1) then
  ((Zaq.g (23:Int) y6.2.2.1 y6.2.2.2.1 y6.2.2.2.2.1 y6.2.2.2.2.2.1).bind fun y7=>
  some (y7.1,y7.2.1,y7.2.2.1,y7.2.2.2.1,()))
  else
  (some (y6.2.2.1,y6.2.2.2.1,y6.2.2.2.2.1,y6.2.2.2.2.2.1,())))
  else
  ((Zau.g y2.2.2.1 y2.2.2.2.1 y2.2.2.2.2.1 y2.2.2.2.2.2.1).bind fun y8=>
  if y8.2.2.2.2.1 then
  (if(decide (y8.1=(2:Int))) then
  ((Zar.g (1:Int) y8.2.2.2.1 ([]:Str) y8.2.2.2.2.2.1 y8.2.2.2.2.2.2.1 y8.2.2.2.2.2.2.2.1 y8.2.2.2.2.2.2.2.2.1).bind fun y9=>
  expr_parser_factor.j19 n R y9.1 y9.2.1 y9.2.2.1 y9.2.2.2.1)
  else
  (if y8.2.2.2.2.1 then
  (if(decide (y8.1=(1:Int))) then
  ((Zac.g y8.2.2.1).bind fun y10=>
  if y10.1 then
  ((Zar.g (2:Int) 0 y8.2.2.1 y8.2.2.2.2.2.1 y8.2.2.2.2.2.2.1 y8.2.2.2.2.2.2.2.1 y8.2.2.2.2.2.2.2.2.1).bind fun y11=>
  expr_parser_factor.j19 n R y11.1 y11.2.1 y11.2.2.1 y11.2.2.2.1)
  else
  ((Zaq.g (23:Int) y8.2.2.2.2.2.1 y8.2.2.2.2.2.2.1 y8.2.2.2.2.2.2.2.1 y8.2.2.2.2.2.2.2.2.1).bind fun y12=>
  expr_parser_factor.j19 n R y12.1 y12.2.1 y12.2.2.1 y12.2.2.2.1))
  else
  ((Zaq.g (23:Int) y8.2.2.2.2.2.1 y8.2.2.2.2.2.2.1 y8.2.2.2.2.2.2.2.1 y8.2.2.2.2.2.2.2.2.1).bind fun y13=>
  expr_parser_factor.j19 n R y13.1 y13.2.1 y13.2.2.1 y13.2.2.2.1))
  else
  ((Zaq.g (23:Int) y8.2.2.2.2.2.1 y8.2.2.2.2.2.2.1 y8.2.2.2.2.2.2.2.1 y8.2.2.2.2.2.2.2.2.1).bind fun y14=>
  expr_parser_factor.j19 n R y14.1 y14.2.1 y14.2.2.1 y14.2.2.2.1)))
  else
  (if y8.2.2.2.2.1 then
  (if(decide (y8.1=(1:Int))) then
  ((Zac.g y8.2.2.1).bind fun y15=>
  if y15.1 then
  ((Zar.g (2:Int) 0 y8.2.2.1 y8.2.2.2.2.2.1 y8.2.2.2.2.2.2.1 y8.2.2.2.2.2.2.2.1 y8.2.2.2.2.2.2.2.2.1).bind fun y16=>
  expr_parser_factor.j19 n R y16.1 y16.2.1 y16.2.2.1 y16.2.2.2.1)
  else
  ((Zaq.g (23:Int) y8.2.2.2.2.2.1 y8.2.2.2.2.2.2.1 y8.2.2.2.2.2.2.2.1 y8.2.2.2.2.2.2.2.2.1).bind fun y17=>
  expr_parser_factor.j19 n R y17.1 y17.2.1 y17.2.2.1 y17.2.2.2.1))
  else
  ((Zaq.g (23:Int) y8.2.2.2.2.2.1 y8.2.2.2.2.2.2.1 y8.2.2.2.2.2.2.2.1 y8.2.2.2.2.2.2.2.2.1).bind fun y18=>
  expr_parser_factor.j19 n R y18.1 y18.2.1 y18.2.2.1 y18.2.2.2.1))
  else
  ((Zaq.g (23:Int) y8.2.2.2.2.2.1 y8.2.2.2.2.2.2.1 y8.2.2.2.2.2.2.2.1 y8.2.2.2.2.2.2.2.2.1).bind fun y19=>
  expr_parser_factor.j19 n R y19.1 y19.2.1 y19.2.2.1 y19.2.2.2.1))))))
def h(R:av)(a:Int)(b:List Tk)(c:Int)(d:List It)(e:Int):Option ((List Tk)×Int×(List It)×Int×Unit):=f (1000+a.toNat+b.length+c.toNat+d.length+e.toNat) R a b c d e
end expr_parser_factor
def af:Nat->av
 |0=>⟨fun _ _ _ _ _=>none,fun _ _ _ _ _ _=>none,fun _ _ _ _ _=>none,fun _ _ _ _ _ _=>none,fun _ _ _ _ _=>none,fun _ _ _ _ _=>none⟩
 |q+1=>⟨expr_parser_sum.h (af q),expr_parser_row_c256.h (af q),expr_parser_sum_1.h (af q),expr_parser_row_c257.h (af q),expr_parser_sum_1_1.h (af q),expr_parser_factor.h (af q)⟩
def expr_parser_sum.g(a:Int)(b:List Tk)(c:Int)(d:List It)(e:Int):Option ((List Tk)×Int×(List It)×Int×Unit):=(af (1000+a.toNat+b.length+c.toNat+d.length+e.toNat)).expr_parser_sum a b c d e
def expr_parser_row_c256.g(a:List Str)(b:List Tk)(c:Int)(d:List It)(e:Int)(i:Int):Option ((List Tk)×Int×(List It)×Int×Unit×Int×Unit):=(af (1000+a.length+b.length+c.toNat+d.length+e.toNat+i.toNat)).expr_parser_row_c256 a b c d e i
def expr_parser_sum_1.g(a:Int)(b:List Tk)(c:Int)(d:List It)(e:Int):Option (Unit×Int×(List Tk)×Int×(List It)×Int×Unit):=(af (1000+a.toNat+b.length+c.toNat+d.length+e.toNat)).expr_parser_sum_1 a b c d e
def expr_parser_row_c257.g(a:List Str)(b:List Tk)(c:Int)(d:List It)(e:Int)(i:Int):Option ((List Tk)×Int×(List It)×Int×Unit×Int×Unit):=(af (1000+a.length+b.length+c.toNat+d.length+e.toNat+i.toNat)).expr_parser_row_c257 a b c d e i
def expr_parser_sum_1_1.g(a:Int)(b:List Tk)(c:Int)(d:List It)(e:Int):Option (Unit×Int×(List Tk)×Int×(List It)×Int×Unit):=(af (1000+a.toNat+b.length+c.toNat+d.length+e.toNat)).expr_parser_sum_1_1 a b c d e
def expr_parser_factor.g(a:Int)(b:List Tk)(c:Int)(d:List It)(e:Int):Option ((List Tk)×Int×(List It)×Int×Unit):=(af (1000+a.toNat+b.length+c.toNat+d.length+e.toNat)).expr_parser_factor a b c d e
namespace Zbf
def j5(n:Nat)(a:List Tk)(b:Int)(c:List It)(d:Int):Option ((List It)×Int×Int×Unit):=
  if(decide (d≠(0:Int))) then(some ([],(0:Int),d,()))
  else(some (c,b,(0:Int),()))
def f(n:Nat)(a:List Tk)(b:Int):Option ((List It)×Int×Int×Unit):=
  (expr_parser_sum.g (0:Int) a b ([]) 0).bind fun y1=>
  if(decide (y1.2.2.2.1=(0:Int))) then
  (if(decide ((64:Int)<(y1.2.2.1.length:Int))) then(Zbf.j5 n y1.1 y1.2.1 y1.2.2.1 (24:Int))
  else(Zbf.j5 n y1.1 y1.2.1 y1.2.2.1 y1.2.2.2.1))
  else(Zbf.j5 n y1.1 y1.2.1 y1.2.2.1 y1.2.2.2.1)
def g(a:List Tk)(b:Int):Option ((List It)×Int×Int×Unit):=f (1000+a.length+b.toNat) a b
end Zbf
namespace Zbj
def j4(n:Nat)(a:Int)(b:Bool):Option (Bool×Unit):=
  if(!b) then
  (if(decide (a=(95:Int)))=false then
  (if(decide ((48:Int)<=a)) then(some ((decide (a<=(57:Int))),()))
  else(some (false,())))
  else(some (true,())))
  else(some (false,()))
def f(n:Nat)(a:Int)(b:Bool):Option (Bool×Unit):=
  if(decide ((65:Int)<=a)) then
  (if(decide (a<=(90:Int))) then
  (if(decide (a<=(90:Int))) then(some (true,()))
  else(Zbj.j4 n a b))
  else
  (if(decide ((97:Int)<=a)) then
  (if(decide (a<=(122:Int))) then(some (true,()))
  else(Zbj.j4 n a b))
  else(Zbj.j4 n a b)))
  else
  (if(decide ((97:Int)<=a)) then
  (if(decide (a<=(122:Int))) then(some (true,()))
  else(Zbj.j4 n a b))
  else(Zbj.j4 n a b))
def g(a:Int)(b:Bool):Option (Bool×Unit):=f (1000+a.toNat) a b
end Zbj
namespace Zai
def l4(n:Nat):Nat->Str->Int->Int->Option (Bool×Unit)
 |0,_,_,_=>none
 |m+1,a,b,c=>
  if(decide (c<b)) then
  (if 0<=c/\c<(a.length:Int) then
  ((Zbj.g (bt a c) (decide (c=(0:Int)))).bind fun y1=>
  if(!y1.1) then(some (false,()))
  else((Zai.l4 n m) a b (IntKind.i64.wrap (c+(1:Int))))) else none)
  else
  (if 0<=(0:Int)/\(0:Int)<(a.length:Int) then
  (if(decide ((bt a (0:Int))=(82:Int))) then
  (if(decide ((a.length:Int)=(2:Int)))=false then
  (if(decide ((a.length:Int)=(3:Int))) then
  (if 0<=(1:Int)/\(1:Int)<=(a.length:Int) then
  ((L.trimO ((a.take (((a.length:Int)).toNat)).drop (((1:Int)).toNat)) ([48,49,50,51,52,53,54,55,56,57]:Str)).bind fun y2=>
  some ((!(decide (y2.1=([]:Str)))),())) else none)
  else(some (true,())))
  else
  (if 0<=(1:Int)/\(1:Int)<=(a.length:Int) then
  ((L.trimO ((a.take (((a.length:Int)).toNat)).drop (((1:Int)).toNat)) ([48,49,50,51,52,53,54,55,56,57]:Str)).bind fun y3=>
  some ((!(decide (y3.1=([]:Str)))),())) else none))
  else(some (true,()))) else none)
def f(n:Nat)(a:Str):Option (Bool×Unit):=
  if(decide ((a.length:Int)=(0:Int)))=false then
  (if(decide ((12:Int)<(a.length:Int))) then(some (false,()))
  else(Zai.l4 n n a (a.length:Int) (0:Int)))
  else(some (false,()))
def g(a:Str):Option (Bool×Unit):=f (1000+a.length) a
end Zai
namespace Zdp
def f(n:Nat)(a:Str)(b:Int)(c:Str):Option (Bool×Str×Unit):=
  some ((decide (a=c)),c,())
def g(a:Str)(b:Int)(c:Str):Option (Bool×Str×Unit):=f (1000+a.length+b.toNat+c.length) a b c
end Zdp
namespace Zbq
def l2(n:Nat):Nat->(List (Str×Int×Unit))->Int->Int->Str->Option (Int×Str×Unit)
 |0,_,_,_,_=>none
 |m+1,a,b,c,d=>
  if(decide (c<b)) then
  (if 0<=c/\c<(a.length:Int) then
  ((Zdp.g ((a.getD (c).toNat (([]:Str),((0:Int),()))).1) (((a.getD (c).toNat (([]:Str),((0:Int),()))).2).1) d).bind fun y1=>
  if y1.1 then(some (c,y1.2.1,()))
  else
  ((Zbq.l2 n m) a b (IntKind.i64.wrap (c+(1:Int))) y1.2.1)) else none)
  else(some ((-1:Int),d,()))
def f(n:Nat)(a:List (Str×Int×Unit))(b:Str):Option (Int×Str×Unit):=
  Zbq.l2 n n a (a.length:Int) (0:Int) b
def g(a:List (Str×Int×Unit))(b:Str):Option (Int×Str×Unit):=f (1000+a.length+b.length) a b
end Zbq
namespace Zbr
def f(n:Nat)(a:List (Str×Int×Unit))(b:Str):Option (Int×Bool×Unit):=
  (Zbq.g a b).bind fun y1=>
  if(decide (y1.1<(0:Int))) then(some ((0:Int),false,()))
  else
  (if 0<=y1.1/\y1.1<(a.length:Int) then
  (some (((a.getD (y1.1).toNat (([]:Str),((0:Int),()))).2).1,true,())) else none)
def g(a:List (Str×Int×Unit))(b:Str):Option (Int×Bool×Unit):=f (1000+a.length+b.length) a b
end Zbr
namespace Zce
def j2(n:Nat)(a:Bool)(b:Int)(c:Int)(d:Str):Option (Int×Bool×Unit):=
  if(decide (b=(1:Int))) then(some ((0:Int),(decide (d=([]:Str))),()))
  else
  (if(decide (b=(2:Int))) then
  (if(decide (c=(0:Int))) then
  ((Zac.g d).bind fun y1=>
  some ((0:Int),y1.1,()))
  else(some ((0:Int),false,())))
  else
  (if(decide (b=(3:Int))) then(some ((1:Int),a,()))
  else
  (if(decide (b=(4:Int))) then
  (if(decide (b=(4:Int))) then(some ((2:Int),a,()))
  else(some ((0:Int),false,())))
  else
  (if(decide (b=(5:Int))) then
  (if(decide (b=(5:Int))) then(some ((2:Int),a,()))
  else(some ((0:Int),false,())))
  else
  (if(decide (b=(6:Int))) then(some ((2:Int),a,()))
  else(some ((0:Int),false,())))))))
def f(n:Nat)(a:Int)(b:Int)(c:Str):Option (Int×Bool×Unit):=
  if(decide (b=(0:Int))) then(Zce.j2 n (decide (c=([]:Str))) a b c)
  else(Zce.j2 n false a b c)
def g(a:Int)(b:Int)(c:Str):Option (Int×Bool×Unit):=f (1000+a.toNat+b.toNat+c.length) a b c
end Zce
namespace Zbk
def l3(n:Nat):Nat->(List It)->Int->(List It)->Int->Int->Option (Bool×Unit)
 |0,_,_,_,_,_=>none
 |m+1,a,b,c,d,e=>
  if(decide (e<d)) then
  (if 0<=e/\e<(c.length:Int) then
  ((Zce.g ((c.getD (e).toNat zI).1) (((c.getD (e).toNat zI).2).1) ((((c.getD (e).toNat zI).2).2).1)).bind fun y1=>
  if(!y1.2.1)=false then
  (if(decide (b<y1.1)) then(some (false,()))
  else
  ((Zbk.l3 n m) a (IntKind.i64.wrap (b+(IntKind.i64.wrap ((1:Int)-y1.1)))) c d (IntKind.i64.wrap (e+(1:Int)))))
  else(some (false,()))) else none)
  else
  (if(decide (b=(1:Int))) then(some ((decide ((a.length:Int)<=(64:Int))),()))
  else(some (false,())))
def f(n:Nat)(a:List It):Option (Bool×Unit):=
  Zbk.l3 n n a (0:Int) a (a.length:Int) (0:Int)
def g(a:List It):Option (Bool×Unit):=f (1000+a.length) a
end Zbk
namespace Zbb
def f(n:Nat)(a:List (Int×Int×Unit)):Option (Int×Int×(List (Int×Int×Unit))×Unit):=
  if 0<=(IntKind.i64.wrap ((a.length:Int)-(1:Int)))/\(IntKind.i64.wrap ((a.length:Int)-(1:Int)))<(a.length:Int) then
  (if 0<=(IntKind.i64.wrap ((a.length:Int)-(1:Int)))/\(IntKind.i64.wrap ((a.length:Int)-(1:Int)))<=(a.length:Int) then
  (some ((a.getD ((IntKind.i64.wrap ((a.length:Int)-(1:Int)))).toNat ((0:Int),((0:Int),()))).1,((a.getD ((IntKind.i64.wrap ((a.length:Int)-(1:Int)))).toNat ((0:Int),((0:Int),()))).2).1,(a.take ((IntKind.i64.wrap ((a.length:Int)-(1:Int)))).toNat),())) else none) else none
def g(a:List (Int×Int×Unit)):Option (Int×Int×(List (Int×Int×Unit))×Unit):=f (1000+a.length) a
end Zbb
namespace Zct
def f(n:Nat)(a:Int)(b:Int)(c:Int):Option (Int×Int×Unit):=
  some ((IntKind.u32.wrap ((IntKind.u32.wrap c)*a)),(IntKind.i64.wrap (c*b)),())
def g(a:Int)(b:Int)(c:Int):Option (Int×Int×Unit):=f (1000+a.toNat+b.toNat+c.toNat) a b c
end Zct
namespace Zdq
def f(n:Nat)(a:Int)(b:Int)(c:Int)(d:Int):Option (Int×Int×Unit):=
  some ((IntKind.u32.wrap (a+c)),(IntKind.i64.wrap (b+d)),())
def g(a:Int)(b:Int)(c:Int)(d:Int):Option (Int×Int×Unit):=f (1000+a.toNat+b.toNat+c.toNat+d.toNat) a b c d
end Zdq
namespace Zad
def j27(n:Nat)(rl5:(List (Str×Int×Unit))->(List It)->Int->Int->Int->Int->(List (Int×Int×Unit))->Option (Int×Int×Int×Unit))(a:List (Str×Int×Unit))(b:List It)(c:Int)(d:Int)(e:Int)(i:Int)(j:List (Int×Int×Unit))(k:Int)(l:Int):Option (Int×Int×Int×Unit):=
  if(j.length+([(k,l,())]:List (Int×Int×Unit)).length)*16<=140737488355328/\0<16/\0<2 then
  (rl5 a b c (IntKind.i64.wrap (d+(1:Int))) e i (j++([(k,l,())]:List (Int×Int×Unit)))) else none
def l5(n:Nat):Nat->(List (Str×Int×Unit))->(List It)->Int->Int->Int->Int->(List (Int×Int×Unit))->Option (Int×Int×Int×Unit)
 |0,_,_,_,_,_,_,_=>none
 |m+1,a,b,c,d,e,i,j=>
  if(decide (d<c)) then
  (if 0<=d/\d<(b.length:Int) then
  (if(decide ((b.getD (d).toNat zI).1=(2:Int))) then
  ((Zbr.g a ((((b.getD (d).toNat zI).2).2).1)).bind fun y1=>
  if(!y1.2.1) then(some (0,0,(25:Int),()))
  else
  (Zad.j27 n (Zad.l5 n m) a b c d e i j (IntKind.u32.wrap y1.1) (1:Int)))
  else
  (if(decide ((b.getD (d).toNat zI).1=(3:Int))) then
  ((Zbb.g j).bind fun y2=>
  (Zct.g y2.1 y2.2.1 (-1:Int)).bind fun y3=>
  Zad.j27 n (Zad.l5 n m) a b c d e i y2.2.2.1 y3.1 y3.2.1)
  else
  (if(decide ((b.getD (d).toNat zI).1=(4:Int))) then
  ((Zbb.g j).bind fun y4=>
  (Zbb.g y4.2.2.1).bind fun y5=>
  (Zdq.g y4.1 y4.2.1 y5.1 y5.2.1).bind fun y6=>
  Zad.j27 n (Zad.l5 n m) a b c d e i y5.2.2.1 y6.1 y6.2.1)
  else
  (if(decide ((b.getD (d).toNat zI).1=(5:Int))) then
  ((Zbb.g j).bind fun y7=>
  (Zbb.g y7.2.2.1).bind fun y8=>
  (Zct.g y7.1 y7.2.1 (-1:Int)).bind fun y9=>
  (Zdq.g y8.1 y8.2.1 y9.1 y9.2.1).bind fun y10=>
  Zad.j27 n (Zad.l5 n m) a b c d e i y8.2.2.1 y10.1 y10.2.1)
  else
  (if(decide ((b.getD (d).toNat zI).1=(6:Int))) then
  ((Zbb.g j).bind fun y11=>
  (Zbb.g y11.2.2.1).bind fun y12=>
  if(!(decide (y11.1=y11.1)&&(decide (y11.2.1=0)&&true)))=false then
  (if(!(decide (y12.1=y12.1)&&(decide (y12.2.1=0)&&true))) then(some (0,0,(27:Int),()))
  else
  (Zad.j27 n (Zad.l5 n m) a b c d e i y12.2.2.1 (IntKind.u32.wrap (y11.1*y12.1)) 0))
  else(some (0,0,(27:Int),())))
  else
  (Zad.j27 n (Zad.l5 n m) a b c d e i j (((b.getD (d).toNat zI).2).1) 0)))))) else none)
  else
  ((Zbb.g j).bind fun y13=>
  some (y13.1,y13.2.1,(0:Int),()))
def f(n:Nat)(a:List It)(b:List (Str×Int×Unit)):Option (Int×Int×Int×Unit):=
  (Zbk.g a).bind fun y1=>
  if(!y1.1) then(some (0,0,(23:Int),()))
  else(Zad.l5 n n b a (a.length:Int) (0:Int) 0 0 ([]))
def g(a:List It)(b:List (Str×Int×Unit)):Option (Int×Int×Int×Unit):=f (1000+a.length+b.length) a b
end Zad
namespace Zam
def j11(n:Nat)(rl7:Int->Int->Int->Int->Int->Option (Int×Int×Unit))(a:Int)(b:Int)(c:Int)(d:Int)(e:Int):Option (Int×Int×Unit):=
  rl7 a b c d (IntKind.i64.wrap (e+(1:Int)))
def l7(n:Nat):Nat->Int->Int->Int->Int->Int->Option (Int×Int×Unit)
 |0,_,_,_,_,_=>none
 |m+1,a,b,c,d,e=>
  if(decide (e<(2:Int))) then
  (if 0<=e/\e<(2:Int) then
  (if(decide (a<=([c,d].getD (e).toNat 0))) then
  (if(decide (([c,d].getD (e).toNat 0)<=b)) then(some (([c,d].getD (e).toNat 0),(0:Int),()))
  else(Zam.j11 n (Zam.l7 n m) a b c d e))
  else(Zam.j11 n (Zam.l7 n m) a b c d e)) else none)
  else(some ((0:Int),(28:Int),()))
def f(n:Nat)(a:List It)(b:List (Str×Int×Unit))(c:Int)(d:Int):Option (Int×Int×Unit):=
  (Zad.g a b).bind fun y1=>
  if(decide (y1.2.2.1≠(0:Int))) then(some ((0:Int),y1.2.2.1,()))
  else
  (if(decide (y1.2.1≠(0:Int))) then(some ((0:Int),(27:Int),()))
  else
  (Zam.l7 n n c d (IntKind.i64.wrap (IntKind.i32.wrap y1.1)) (IntKind.i64.wrap y1.1) (0:Int)))
def g(a:List It)(b:List (Str×Int×Unit))(c:Int)(d:Int):Option (Int×Int×Unit):=f (1000+a.length+b.length+c.toNat+d.toNat) a b c d
end Zam
namespace Zbs
def l4(n:Nat):Nat->(List Int)->(List Int)->Int->Int->Option (Bool×Unit)
 |0,_,_,_,_=>none
 |m+1,a,b,c,d=>
  if(decide (d<c)) then
  (if 0<=d/\d<(a.length:Int) then
  (if 0<=d/\d<(b.length:Int) then
  (if(decide ((a.getD (d).toNat (0:Int))≠(b.getD (d).toNat (0:Int)))) then(some (false,()))
  else
  ((Zbs.l4 n m) a b c (IntKind.i64.wrap (d+(1:Int))))) else none) else none)
  else(some (true,()))
def f(n:Nat)(a:List Int)(b:List Int):Option (Bool×Unit):=
  if(decide ((a.length:Int)≠(b.length:Int))) then(some (false,()))
  else
  (Zbs.l4 n n a b (a.length:Int) (0:Int))
def g(a:List Int)(b:List Int):Option (Bool×Unit):=f (1000+a.length+b.length) a b
end Zbs
namespace Zbt
def l4(n:Nat):Nat->(List Int)->(List Int)->Int->Int->Option (Bool×Unit)
 |0,_,_,_,_=>none
 |m+1,a,b,c,d=>
  if(decide (d<c)) then
  (if 0<=d/\d<(a.length:Int) then
  (if 0<=d/\d<(b.length:Int) then
  (if(decide ((a.getD (d).toNat (0:Int))≠(b.getD (d).toNat (0:Int)))) then(some (false,()))
  else
  ((Zbt.l4 n m) a b c (IntKind.i64.wrap (d+(1:Int))))) else none) else none)
  else(some (true,()))
def f(n:Nat)(a:List Int)(b:List Int):Option (Bool×Unit):=
  if(decide ((a.length:Int)≠(b.length:Int))) then(some (false,()))
  else
  (Zbt.l4 n n a b (a.length:Int) (0:Int))
def g(a:List Int)(b:List Int):Option (Bool×Unit):=f (1000+a.length+b.length) a b
end Zbt
namespace Zbu
def l4(n:Nat):Nat->(List (Str×Int×Unit))->(List (Str×Int×Unit))->Int->Int->Option (Bool×Unit)
 |0,_,_,_,_=>none
 |m+1,a,b,c,d=>
  if(decide (d<c)) then
  (if 0<=d/\d<(a.length:Int) then
  (if 0<=d/\d<(b.length:Int) then
  (if(!(decide ((a.getD (d).toNat (([]:Str),((0:Int),()))).1=(b.getD (d).toNat (([]:Str),((0:Int),()))).1)&&(decide (((a.getD (d).toNat (([]:Str),((0:Int),()))).2).1=((b.getD (d).toNat (([]:Str),((0:Int),()))).2).1)&&true))) then(some (false,()))
  else
  ((Zbu.l4 n m) a b c (IntKind.i64.wrap (d+(1:Int))))) else none) else none)
  else(some (true,()))
def f(n:Nat)(a:List (Str×Int×Unit))(b:List (Str×Int×Unit)):Option (Bool×Unit):=
  if(decide ((a.length:Int)≠(b.length:Int))) then(some (false,()))
  else
  (Zbu.l4 n n a b (a.length:Int) (0:Int))
def g(a:List (Str×Int×Unit))(b:List (Str×Int×Unit)):Option (Bool×Unit):=f (1000+a.length+b.length) a b
end Zbu
namespace Zcl
def f(n:Nat)(a:List Int)(b:List Int)(c:List (Str×Int×Unit))(d:List Int)(e:List Int)(i:List (Str×Int×Unit)):Option (Bool×Unit):=
  (Zbs.g a d).bind fun y1=>
  if y1.1 then
  ((Zbt.g b e).bind fun y2=>
  if y2.1 then
  ((Zbu.g c i).bind fun y3=>
  some (y3.1,()))
  else(some (false,())))
  else(some (false,()))
def g(a:List Int)(b:List Int)(c:List (Str×Int×Unit))(d:List Int)(e:List Int)(i:List (Str×Int×Unit)):Option (Bool×Unit):=f (1000+a.length+b.length+c.length+d.length+e.length+i.length) a b c d e i
end Zcl
namespace Zat
def l12(n:Nat):Nat->(List Int)->Int->(List Int)->Int->Int->Option ((List Int)×Int×Int×Unit)
 |0,_,_,_,_,_=>none
 |m+1,a,b,c,d,e=>
  if(decide (e<d)) then
  (if 0<=e/\e<(c.length:Int) then
  (if 0<=(c.getD (e).toNat (0:Int))/\(c.getD (e).toNat (0:Int))<(a.length:Int) then
  (if(decide ((65535:Int)<(a.getD ((c.getD (e).toNat (0:Int))).toNat (0:Int)))) then(some ([],(0:Int),(8:Int),()))
  else
  (if 0<=(c.getD (e).toNat (0:Int))/\(c.getD (e).toNat (0:Int))<(a.length:Int) then
  (if 0<=(c.getD (e).toNat (0:Int))/\(c.getD (e).toNat (0:Int))<(a.length:Int) then
  ((Zat.l12 n m) (a.set ((c.getD (e).toNat (0:Int))).toNat (aQ .or .u32 (IntKind.u32.wrap ((a.getD ((c.getD (e).toNat (0:Int))).toNat (0:Int))*2 ^ (min (16:Int).toNat IntKind.u32.bits))) (IntKind.u32.wrap b))) (IntKind.i64.wrap ((c.getD (e).toNat (0:Int))+(1:Int))) c d (IntKind.i64.wrap (e+(1:Int)))) else none) else none)) else none) else none)
  else(some (a,b,(0:Int),()))
def l3(n:Nat):Nat->(List Int)->(List Int)->Int->(List Int)->Int->Int->Option ((List Int)×Int×Int×Unit)
 |0,_,_,_,_,_,_=>none
 |m+1,a,b,c,d,e,i=>
  if(decide (i<e)) then
  (if 0<=i/\i<(d.length:Int) then
  (if(decide ((d.getD (i).toNat (0:Int))<=c))=false then
  (if(decide ((a.length:Int)<=(d.getD (i).toNat (0:Int))))=false then
  (if(decide ((65534:Int)<(d.getD (i).toNat (0:Int)))) then(some ([],(0:Int),(7:Int),()))
  else
  ((Zat.l3 n m) a b (d.getD (i).toNat (0:Int)) d e (IntKind.i64.wrap (i+(1:Int)))))
  else(some ([],(0:Int),(7:Int),())))
  else(some ([],(0:Int),(7:Int),()))) else none)
  else
  ((L.cloneO a).bind fun y1=>
  Zat.l12 n n y1.1 (0:Int) b (b.length:Int) (0:Int))
def f(n:Nat)(a:List Int)(b:List Int):Option ((List Int)×Int×Int×Unit):=
  Zat.l3 n n a b (-1:Int) b (b.length:Int) (0:Int)
def g(a:List Int)(b:List Int):Option ((List Int)×Int×Int×Unit):=f (1000+a.length+b.length) a b
end Zat
namespace Zdr
def f(n:Nat)(a:Int)(b:List Int)(c:List Int)(d:List (Str×Int×Unit))(e:Int):Option (Bool×(List Int)×(List Int)×(List (Str×Int×Unit))×Int×Unit):=
  if 0<=a/\a<(b.length:Int) then
  (some ((decide (e<(IntKind.i64.wrap (b.getD (a).toNat (0:Int))))),b,c,d,e,())) else none
def g(a:Int)(b:List Int)(c:List Int)(d:List (Str×Int×Unit))(e:Int):Option (Bool×(List Int)×(List Int)×(List (Str×Int×Unit))×Int×Unit):=f (1000+a.toNat+b.length+c.length+d.length+e.toNat) a b c d e
end Zdr
namespace Zcf
def l2(n:Nat):Nat->(List Int)->Int->Int->(List Int)->(List Int)->(List (Str×Int×Unit))->Int->Option (Int×(List Int)×(List Int)×(List (Str×Int×Unit))×Int×Unit)
 |0,_,_,_,_,_,_,_=>none
 |m+1,a,b,c,d,e,i,j=>
  if(decide (c<b)) then
  (if 0<=c/\c<(a.length:Int) then
  ((Zdr.g (a.getD (c).toNat (0:Int)) d e i j).bind fun y1=>
  if y1.1 then(some (c,y1.2.1,y1.2.2.1,y1.2.2.2.1,y1.2.2.2.2.1,()))
  else
  ((Zcf.l2 n m) a b (IntKind.i64.wrap (c+(1:Int))) y1.2.1 y1.2.2.1 y1.2.2.2.1 y1.2.2.2.2.1)) else none)
  else(some ((-1:Int),d,e,i,j,()))
def f(n:Nat)(a:List Int)(b:List Int)(c:List Int)(d:List (Str×Int×Unit))(e:Int):Option (Int×(List Int)×(List Int)×(List (Str×Int×Unit))×Int×Unit):=
  Zcf.l2 n n a (a.length:Int) (0:Int) b c d e
def g(a:List Int)(b:List Int)(c:List Int)(d:List (Str×Int×Unit))(e:Int):Option (Int×(List Int)×(List Int)×(List (Str×Int×Unit))×Int×Unit):=f (1000+a.length+b.length+c.length+d.length+e.toNat) a b c d e
end Zcf
namespace Zcy
def f(n:Nat)(a:List Int)(b:List Int)(c:List Int)(d:List (Str×Int×Unit))(e:Int):Option (Bool×(List Int)×(List Int)×(List (Str×Int×Unit))×Int×Unit):=
  (Zcf.g a b c d e).bind fun y1=>
  some ((decide ((0:Int)<=y1.1)),y1.2.1,y1.2.2.1,y1.2.2.2.1,y1.2.2.2.2.1,())
def g(a:List Int)(b:List Int)(c:List Int)(d:List (Str×Int×Unit))(e:Int):Option (Bool×(List Int)×(List Int)×(List (Str×Int×Unit))×Int×Unit):=f (1000+a.length+b.length+c.length+d.length+e.toNat) a b c d e
end Zcy
namespace Zaw
def j6(n:Nat)(rl2:(List (Str×Int×Unit))->Int->Int->(List Int)->(List Int)->(List (Str×Int×Unit))->Option (Bool×(List Int)×(List Int)×(List (Str×Int×Unit))×Unit))(a:List (Str×Int×Unit))(b:Int)(c:Int)(d:List Int)(e:List Int)(i:List (Str×Int×Unit)):Option (Bool×(List Int)×(List Int)×(List (Str×Int×Unit))×Unit):=
  rl2 a b (IntKind.i64.wrap (c+(1:Int))) d e i
def l2(n:Nat):Nat->(List (Str×Int×Unit))->Int->Int->(List Int)->(List Int)->(List (Str×Int×Unit))->Option (Bool×(List Int)×(List Int)×(List (Str×Int×Unit))×Unit)
 |0,_,_,_,_,_,_=>none
 |m+1,a,b,c,d,e,i=>
  if(decide (c<b)) then
  (if 0<=c/\c<(a.length:Int) then
  ((Zai.g ((a.getD (c).toNat (([]:Str),((0:Int),()))).1)).bind fun y1=>
  if(!y1.1)=false then
  (if(decide ((0:Int)<c)) then
  (if 0<=(IntKind.i64.wrap (c-(1:Int)))/\(IntKind.i64.wrap (c-(1:Int)))<(i.length:Int) then
  (if((Op.bytesLess ((a.getD (c).toNat (([]:Str),((0:Int),()))).1) ((i.getD ((IntKind.i64.wrap (c-(1:Int)))).toNat (([]:Str),((0:Int),()))).1))||(decide ((a.getD (c).toNat (([]:Str),((0:Int),()))).1=(i.getD ((IntKind.i64.wrap (c-(1:Int)))).toNat (([]:Str),((0:Int),()))).1))) then(some (false,d,e,i,()))
  else(Zaw.j6 n (Zaw.l2 n m) a b c d e i)) else none)
  else(Zaw.j6 n (Zaw.l2 n m) a b c d e i))
  else(some (false,d,e,i,()))) else none)
  else(some (true,d,e,i,()))
def f(n:Nat)(a:List Int)(b:List Int)(c:List (Str×Int×Unit)):Option (Bool×(List Int)×(List Int)×(List (Str×Int×Unit))×Unit):=
  Zaw.l2 n n c (c.length:Int) (0:Int) a b c
def g(a:List Int)(b:List Int)(c:List (Str×Int×Unit)):Option (Bool×(List Int)×(List Int)×(List (Str×Int×Unit))×Unit):=f (1000+a.length+b.length+c.length) a b c
end Zaw
namespace Zds
def f(n:Nat)(a:Str)(b:Int)(c:Int):Option (Bool×Int×Unit):=
  if(decide (b<(0:Int)))=false then
  (if(decide (c<b))=false then(some ((decide ((Int.tmod b (4:Int))≠(0:Int))),c,()))
  else(some (true,c,())))
  else(some (true,c,()))
def g(a:Str)(b:Int)(c:Int):Option (Bool×Int×Unit):=f (1000+a.length+b.toNat+c.toNat) a b c
end Zds
namespace Zcg
def l2(n:Nat):Nat->(List (Str×Int×Unit))->Int->Int->Int->Option (Int×Int×Unit)
 |0,_,_,_,_=>none
 |m+1,a,b,c,d=>
  if(decide (c<b)) then
  (if 0<=c/\c<(a.length:Int) then
  ((Zds.g ((a.getD (c).toNat (([]:Str),((0:Int),()))).1) (((a.getD (c).toNat (([]:Str),((0:Int),()))).2).1) d).bind fun y1=>
  if y1.1 then(some (c,y1.2.1,()))
  else
  ((Zcg.l2 n m) a b (IntKind.i64.wrap (c+(1:Int))) y1.2.1)) else none)
  else(some ((-1:Int),d,()))
def f(n:Nat)(a:List (Str×Int×Unit))(b:Int):Option (Int×Int×Unit):=
  Zcg.l2 n n a (a.length:Int) (0:Int) b
def g(a:List (Str×Int×Unit))(b:Int):Option (Int×Int×Unit):=f (1000+a.length+b.toNat) a b
end Zcg
namespace Zcz
def f(n:Nat)(a:List (Str×Int×Unit))(b:Int):Option (Bool×Int×Unit):=
  (Zcg.g a b).bind fun y1=>
  some ((decide ((0:Int)<=y1.1)),y1.2.1,())
def g(a:List (Str×Int×Unit))(b:Int):Option (Bool×Int×Unit):=f (1000+a.length+b.toNat) a b
end Zcz
namespace Zbl
def f(n:Nat)(a:List Int)(b:List Int)(c:List (Str×Int×Unit)):Option (Int×Unit):=
  if(decide ((1024:Int)<(a.length:Int)))=false then
  (if(decide ((64:Int)<(c.length:Int))) then(some ((2:Int),()))
  else
  ((Zat.g a b).bind fun y1=>
  if(decide (y1.2.2.1=(7:Int))) then(some (y1.2.2.1,()))
  else
  ((Zcy.g b a b c (IntKind.i64.wrap ((4:Int)*(a.length:Int)))).bind fun y2=>
  if y2.1 then(some ((8:Int),()))
  else
  ((Zaw.g y2.2.1 y2.2.2.1 y2.2.2.2.1).bind fun y3=>
  if(!y3.1) then(some ((9:Int),()))
  else
  ((Zcz.g y3.2.2.2.1 y2.2.2.2.2.1).bind fun y4=>
  if y4.1 then(some ((8:Int),()))
  else(some ((0:Int),())))))))
  else(some ((2:Int),()))
def g(a:List Int)(b:List Int)(c:List (Str×Int×Unit)):Option (Int×Unit):=f (1000+a.length+b.length+c.length) a b c
end Zbl
namespace Zbc
def l3(n:Nat):Nat->(List Int)->(List Int)->Int->Int->Option ((List Int)×Unit)
 |0,_,_,_,_=>none
 |m+1,a,b,c,d=>
  if(decide (d<c)) then
  (if 0<=d/\d<(b.length:Int) then
  (if(a.length+([(IntKind.u8.wrap (b.getD (d).toNat (0:Int))),(IntKind.u8.wrap (((b.getD (d).toNat (0:Int))).fdiv (2 ^ (min (8:Int).toNat IntKind.u32.bits)))),(IntKind.u8.wrap (((b.getD (d).toNat (0:Int))).fdiv (2 ^ (min (16:Int).toNat IntKind.u32.bits)))),(IntKind.u8.wrap (((b.getD (d).toNat (0:Int))).fdiv (2 ^ (min (24:Int).toNat IntKind.u32.bits))))]:List Int).length)*1<=140737488355328/\0<1/\0<1 then
  ((Zbc.l3 n m) (a++([(IntKind.u8.wrap (b.getD (d).toNat (0:Int))),(IntKind.u8.wrap (((b.getD (d).toNat (0:Int))).fdiv (2 ^ (min (8:Int).toNat IntKind.u32.bits)))),(IntKind.u8.wrap (((b.getD (d).toNat (0:Int))).fdiv (2 ^ (min (16:Int).toNat IntKind.u32.bits)))),(IntKind.u8.wrap (((b.getD (d).toNat (0:Int))).fdiv (2 ^ (min (24:Int).toNat IntKind.u32.bits))))]:List Int)) b c (IntKind.i64.wrap (d+(1:Int)))) else none) else none)
  else(some (a,()))
def f(n:Nat)(a:List Int):Option ((List Int)×Unit):=
  Zbc.l3 n n ([]) a (a.length:Int) (0:Int)
def g(a:List Int):Option ((List Int)×Unit):=f (1000+a.length) a
end Zbc
namespace Zdt
def g(a:Str):Option ((List Int)×Int×Unit):=L.putNameO Zai.g a
end Zdt
namespace Zbm
def l10(n:Nat):Nat->(List Int)->(List (Str×Int×Unit))->Int->Int->Option ((List Int)×Int×Unit)
 |0,_,_,_,_=>none
 |m+1,a,b,c,d=>
  if(decide (d<c)) then
  (if 0<=d/\d<(b.length:Int) then
  ((Zdt.g ((b.getD (d).toNat (([]:Str),((0:Int),()))).1)).bind fun y1=>
  if(decide (y1.2.1≠(0:Int))) then(some ([],y1.2.1,()))
  else
  (if(a.length+y1.1.length)*1<=140737488355328/\0<1/\0<1 then
  ((Zbc.g ([(IntKind.u32.wrap ((b.getD (d).toNat (([]:Str),((0:Int),()))).2).1)]:List Int)).bind fun y2=>
  if((a++y1.1).length+y2.1.length)*1<=140737488355328/\0<1/\0<1 then
  ((Zbm.l10 n m) ((a++y1.1)++y2.1) b c (IntKind.i64.wrap (d+(1:Int)))) else none) else none)) else none)
  else
  (if some 1=some 1/\(a.length:Int)=(a.length:Int)/\(a.length:Int)=(a.length:Int) then(some (a,(0:Int),())) else none)
def f(n:Nat)(a:List Int)(b:List Int)(c:List (Str×Int×Unit)):Option ((List Int)×Int×Unit):=
  (Zbl.g a b c).bind fun y1=>
  if(decide (y1.1≠(0:Int))) then(some ([],y1.1,()))
  else
  ((Zat.g a b).bind fun y2=>
  if(decide (y2.2.2.1≠(0:Int))) then(some ([],y2.2.2.1,()))
  else
  ((Zbc.g ([(894847314:Int),(IntKind.u32.wrap (y2.1.length:Int)),(IntKind.u32.wrap y2.2.1),(IntKind.u32.wrap (c.length:Int))]:List Int)).bind fun y3=>
  (Zbc.g y2.1).bind fun y4=>
  if(y3.1.length+y4.1.length)*1<=140737488355328/\0<1/\0<1 then
  (Zbm.l10 n n (y3.1++y4.1) c (c.length:Int) (0:Int)) else none))
def g(a:List Int)(b:List Int)(c:List (Str×Int×Unit)):Option ((List Int)×Int×Unit):=f (1000+a.length+b.length+c.length) a b c
end Zbm
namespace Zbv
def l5(n:Nat):Nat->(List Int)->(List Int)->Int->Int->Option ((List Int)×Int×Unit)
 |0,_,_,_,_=>none
 |m+1,a,b,c,d=>
  if(decide (d<c)) then
  (if 0<=(IntKind.i64.wrap ((IntKind.i64.wrap ((4:Int)*d))+(4:Int)))/\(IntKind.i64.wrap ((IntKind.i64.wrap ((4:Int)*d))+(4:Int)))<=(a.length:Int) then
  (if 0<=(IntKind.i64.wrap ((4:Int)*d))/\(IntKind.i64.wrap ((4:Int)*d))<=(IntKind.i64.wrap ((IntKind.i64.wrap ((4:Int)*d))+(4:Int))) then
  (if 0<=(0:Int)/\(0:Int)<(((a.take (((IntKind.i64.wrap ((IntKind.i64.wrap ((4:Int)*d))+(4:Int)))).toNat)).drop (((IntKind.i64.wrap ((4:Int)*d))).toNat)).length:Int) then
  (if 0<=(1:Int)/\(1:Int)<(((a.take (((IntKind.i64.wrap ((IntKind.i64.wrap ((4:Int)*d))+(4:Int)))).toNat)).drop (((IntKind.i64.wrap ((4:Int)*d))).toNat)).length:Int) then
  (if 0<=(2:Int)/\(2:Int)<(((a.take (((IntKind.i64.wrap ((IntKind.i64.wrap ((4:Int)*d))+(4:Int)))).toNat)).drop (((IntKind.i64.wrap ((4:Int)*d))).toNat)).length:Int) then
  (if 0<=(3:Int)/\(3:Int)<(((a.take (((IntKind.i64.wrap ((IntKind.i64.wrap ((4:Int)*d))+(4:Int)))).toNat)).drop (((IntKind.i64.wrap ((4:Int)*d))).toNat)).length:Int) then
  (if(b.length+([(aQ .or .u32 (aQ .or .u32 (aQ .or .u32 (IntKind.u32.wrap (((a.take (((IntKind.i64.wrap ((IntKind.i64.wrap ((4:Int)*d))+(4:Int)))).toNat)).drop (((IntKind.i64.wrap ((4:Int)*d))).toNat)).getD ((0:Int)).toNat (0:Int))) (IntKind.u32.wrap ((IntKind.u32.wrap (((a.take (((IntKind.i64.wrap ((IntKind.i64.wrap ((4:Int)*d))+(4:Int)))).toNat)).drop (((IntKind.i64.wrap ((4:Int)*d))).toNat)).getD ((1:Int)).toNat (0:Int)))*2 ^ (min (8:Int).toNat IntKind.u32.bits)))) (IntKind.u32.wrap ((IntKind.u32.wrap (((a.take (((IntKind.i64.wrap ((IntKind.i64.wrap ((4:Int)*d))+(4:Int)))).toNat)).drop (((IntKind.i64.wrap ((4:Int)*d))).toNat)).getD ((2:Int)).toNat (0:Int)))*2 ^ (min (16:Int).toNat IntKind.u32.bits)))) (IntKind.u32.wrap ((IntKind.u32.wrap (((a.take (((IntKind.i64.wrap ((IntKind.i64.wrap ((4:Int)*d))+(4:Int)))).toNat)).drop (((IntKind.i64.wrap ((4:Int)*d))).toNat)).getD ((3:Int)).toNat (0:Int)))*2 ^ (min (24:Int).toNat IntKind.u32.bits))))]:List Int).length)*4<=140737488355328/\0<4/\0<1 then
  ((Zbv.l5 n m) a (b++([(aQ .or .u32 (aQ .or .u32 (aQ .or .u32 (IntKind.u32.wrap (((a.take (((IntKind.i64.wrap ((IntKind.i64.wrap ((4:Int)*d))+(4:Int)))).toNat)).drop (((IntKind.i64.wrap ((4:Int)*d))).toNat)).getD ((0:Int)).toNat (0:Int))) (IntKind.u32.wrap ((IntKind.u32.wrap (((a.take (((IntKind.i64.wrap ((IntKind.i64.wrap ((4:Int)*d))+(4:Int)))).toNat)).drop (((IntKind.i64.wrap ((4:Int)*d))).toNat)).getD ((1:Int)).toNat (0:Int)))*2 ^ (min (8:Int).toNat IntKind.u32.bits)))) (IntKind.u32.wrap ((IntKind.u32.wrap (((a.take (((IntKind.i64.wrap ((IntKind.i64.wrap ((4:Int)*d))+(4:Int)))).toNat)).drop (((IntKind.i64.wrap ((4:Int)*d))).toNat)).getD ((2:Int)).toNat (0:Int)))*2 ^ (min (16:Int).toNat IntKind.u32.bits)))) (IntKind.u32.wrap ((IntKind.u32.wrap (((a.take (((IntKind.i64.wrap ((IntKind.i64.wrap ((4:Int)*d))+(4:Int)))).toNat)).drop (((IntKind.i64.wrap ((4:Int)*d))).toNat)).getD ((3:Int)).toNat (0:Int)))*2 ^ (min (24:Int).toNat IntKind.u32.bits))))]:List Int)) c (IntKind.i64.wrap (d+(1:Int)))) else none) else none) else none) else none) else none) else none) else none)
  else(some (b,(0:Int),()))
def f(n:Nat)(a:List Int)(b:Int):Option ((List Int)×Int×Unit):=
  if(decide (b<(0:Int)))=false then
  (if(decide ((IntKind.i64.wrap (Int.tdiv (a.length:Int) (4:Int)))<b)) then(some ([],(3:Int),()))
  else(Zbv.l5 n n a ([]) b (0:Int)))
  else(some ([],(3:Int),()))
def g(a:List Int)(b:Int):Option ((List Int)×Int×Unit):=f (1000+a.length+b.toNat) a b
end Zbv
namespace Zbw
def f(n:Nat)(a:List Int)(b:Int):Option ((List Int)×(List Int)×Int×Unit):=
  (Zbv.g a b).bind fun y1=>
  if(decide (y1.2.1≠(0:Int))) then(some ([],[],y1.2.1,()))
  else
  (if 0<=(IntKind.i64.wrap ((4:Int)*b))/\(IntKind.i64.wrap ((4:Int)*b))<=(a.length:Int) then
  (some (y1.1,((a.take (((a.length:Int)).toNat)).drop (((IntKind.i64.wrap ((4:Int)*b))).toNat)),(0:Int),())) else none)
def g(a:List Int)(b:Int):Option ((List Int)×(List Int)×Int×Unit):=f (1000+a.length+b.toNat) a b
end Zbw
namespace Zda
def f(n:Nat)(a:Int):Option (Int×Unit):=
  some ((IntKind.i64.wrap ((IntKind.i64.wrap (Int.tdiv (IntKind.i64.wrap ((IntKind.i64.wrap ((IntKind.i64.wrap ((1:Int)+a))+(4:Int)))-(1:Int))) (4:Int)))*(4:Int))),())
def g(a:Int):Option (Int×Unit):=f (1000+a.toNat) a
end Zda
namespace Zbx
def l11(n:Nat):Nat->Str->Int->(List Int)->Int->Int->Option (Str×Int×Int×Unit)
 |0,_,_,_,_,_=>none
 |m+1,a,b,c,d,e=>
  if(decide (e<d)) then
  (if 0<=e/\e<(c.length:Int) then
  (if(decide ((c.getD (e).toNat (0:Int))≠(0:Int))) then(some (([]:Str),(0:Int),(6:Int),()))
  else
  ((Zbx.l11 n m) a b c d (IntKind.i64.wrap (e+(1:Int))))) else none)
  else(some (a,b,(0:Int),()))
def f(n:Nat)(a:List Int):Option (Str×Int×Int×Unit):=
  if(decide ((a.length:Int)=(0:Int))) then(some (([]:Str),(0:Int),(3:Int),()))
  else
  (if 0<=(0:Int)/\(0:Int)<(a.length:Int) then
  ((Zda.g (IntKind.i64.wrap (a.getD ((0:Int)).toNat (0:Int)))).bind fun y1=>
  if(decide ((a.length:Int)<y1.1)) then(some (([]:Str),(0:Int),(3:Int),()))
  else
  (if 0<=(IntKind.i64.wrap ((1:Int)+(IntKind.i64.wrap (a.getD ((0:Int)).toNat (0:Int)))))/\(IntKind.i64.wrap ((1:Int)+(IntKind.i64.wrap (a.getD ((0:Int)).toNat (0:Int)))))<=(a.length:Int) then
  (if 0<=(1:Int)/\(1:Int)<=(IntKind.i64.wrap ((1:Int)+(IntKind.i64.wrap (a.getD ((0:Int)).toNat (0:Int))))) then
  ((Zai.g (bytesOf ((a.take (((IntKind.i64.wrap ((1:Int)+(IntKind.i64.wrap (a.getD ((0:Int)).toNat (0:Int)))))).toNat)).drop (((1:Int)).toNat)))).bind fun y2=>
  if(!y2.1) then(some (([]:Str),(0:Int),(9:Int),()))
  else
  (if 0<=y1.1/\y1.1<=(a.length:Int) then
  (if 0<=(IntKind.i64.wrap ((1:Int)+(IntKind.i64.wrap (a.getD ((0:Int)).toNat (0:Int)))))/\(IntKind.i64.wrap ((1:Int)+(IntKind.i64.wrap (a.getD ((0:Int)).toNat (0:Int)))))<=y1.1 then
  (Zbx.l11 n n (bytesOf ((a.take (((IntKind.i64.wrap ((1:Int)+(IntKind.i64.wrap (a.getD ((0:Int)).toNat (0:Int)))))).toNat)).drop (((1:Int)).toNat))) y1.1 ((a.take ((y1.1).toNat)).drop (((IntKind.i64.wrap ((1:Int)+(IntKind.i64.wrap (a.getD ((0:Int)).toNat (0:Int)))))).toNat)) (((a.take ((y1.1).toNat)).drop (((IntKind.i64.wrap ((1:Int)+(IntKind.i64.wrap (a.getD ((0:Int)).toNat (0:Int)))))).toNat)).length:Int) (0:Int)) else none) else none)) else none) else none)) else none)
def g(a:List Int):Option (Str×Int×Int×Unit):=f (1000+a.length) a
end Zbx
namespace Zbn
def l13(n:Nat):Nat->(List Int)->(List Int)->(List Int)->Int->Int->(List Int)->(List Int)->(List (Str×Int×Unit))->(List Int)->(List Int)->(List (Str×Int×Unit))->Option ((List Int)×(List Int)×(List (Str×Int×Unit))×Int×Unit)
 |0,_,_,_,_,_,_,_,_,_,_,_=>none
 |m+1,a,b,c,d,e,i,j,k,l,o,p=>
  if(decide (e<d)) then
  ((Zbx.g a).bind fun y1=>
  if(decide (y1.2.2.1≠(0:Int))) then(some ([],[],[],y1.2.2.1,()))
  else
  (if 0<=y1.2.1/\y1.2.1<=(a.length:Int) then
  ((Zbw.g ((a.take (((a.length:Int)).toNat)).drop ((y1.2.1).toNat)) (1:Int)).bind fun y2=>
  if(decide (y2.2.2.1≠(0:Int))) then(some ([],[],[],y2.2.2.1,()))
  else
  (if 0<=(0:Int)/\(0:Int)<(y2.1.length:Int) then
  (if(p.length+([(y1.1,(IntKind.i64.wrap (y2.1.getD ((0:Int)).toNat (0:Int))),())]:List (Str×Int×Unit)).length)*24<=140737488355328/\0<24/\0<2 then
  ((Zbn.l13 n m) y2.2.1 b c d (IntKind.u32.wrap (e+(1:Int))) i j k l o (p++([(y1.1,(IntKind.i64.wrap (y2.1.getD ((0:Int)).toNat (0:Int))),())]:List (Str×Int×Unit)))) else none) else none)) else none))
  else
  (if(decide ((0:Int)<(a.length:Int))) then(some ([],[],[],(4:Int),()))
  else
  (if 0<=(2:Int)/\(2:Int)<(b.length:Int) then
  ((L.unpackO c (IntKind.i64.wrap (b.getD ((2:Int)).toNat (0:Int)))).bind fun y3=>
  if(decide (y3.2.2.1≠(0:Int))) then(some ([],[],[],y3.2.2.1,()))
  else
  ((Zbl.g y3.1 y3.2.1 p).bind fun y4=>
  if(decide (y4.1≠(0:Int))) then(some ([],[],[],(6:Int),()))
  else(some (y3.1,y3.2.1,p,(0:Int),())))) else none))
def f(n:Nat)(a:List Int):Option ((List Int)×(List Int)×(List (Str×Int×Unit))×Int×Unit):=
  (Zbw.g a (4:Int)).bind fun y1=>
  if(decide (y1.2.2.1≠(0:Int))) then(some ([],[],[],y1.2.2.1,()))
  else
  (if 0<=(0:Int)/\(0:Int)<(y1.1.length:Int) then
  (if(decide ((y1.1.getD ((0:Int)).toNat (0:Int))≠(894847314:Int))) then(some ([],[],[],(5:Int),()))
  else
  (if 0<=(1:Int)/\(1:Int)<(y1.1.length:Int) then
  (if(decide ((1024:Int)<(y1.1.getD ((1:Int)).toNat (0:Int))))=false then
  (if 0<=(3:Int)/\(3:Int)<(y1.1.length:Int) then
  (if(decide ((64:Int)<(y1.1.getD ((3:Int)).toNat (0:Int)))) then(some ([],[],[],(2:Int),()))
  else
  (if 0<=(1:Int)/\(1:Int)<(y1.1.length:Int) then
  ((Zbw.g y1.2.1 (IntKind.i64.wrap (y1.1.getD ((1:Int)).toNat (0:Int)))).bind fun y2=>
  if(decide (y2.2.2.1≠(0:Int))) then(some ([],[],[],y2.2.2.1,()))
  else
  (if 0<=(3:Int)/\(3:Int)<(y1.1.length:Int) then
  (Zbn.l13 n n y2.2.1 y1.1 y2.1 (y1.1.getD ((3:Int)).toNat (0:Int)) (0:Int) ([]) ([]) ([]) ([]) ([]) ([])) else none)) else none)) else none)
  else(some ([],[],[],(2:Int),()))) else none)) else none)
def g(a:List Int):Option ((List Int)×(List Int)×(List (Str×Int×Unit))×Int×Unit):=f (1000+a.length) a
end Zbn
end Rv
namespace Rv
open Go
set_option maxRecDepth 100000
namespace Zao
def f(n:Nat)(a:Bool)(b:List Tk)(c:Int)(d:Int):Option ((List Tk)×Int×Int×Unit):=
  if(!a) then
  (if(decide (d=(0:Int))) then(some (b,c,(22:Int),()))
  else(some (b,c,d,())))
  else(some (b,c,d,()))
def g(a:Bool)(b:List Tk)(c:Int)(d:Int):Option ((List Tk)×Int×Int×Unit):=f (1000+b.length+c.toNat+d.toNat) a b c d
end Zao
namespace Zdb
def f(n:Nat)(a:Int):Option (Bool×Unit):=
  if(decide (a=(9:Int)))=false then(some ((decide (a=(10:Int))),()))
  else(some (true,()))
def g(a:Int):Option (Bool×Unit):=f (1000+a.toNat) a
end Zdb
namespace Zcm
def f(n:Nat)(a:Int)(b:List Tk)(c:Int)(d:Int):Option (Str×(List Tk)×Int×Int×Unit):=
  if(decide (d≠(0:Int)))=false then
  (if(decide ((b.length:Int)<=c))=false then
  (if 0<=c/\c<(b.length:Int) then
  (if(decide ((b.getD (c).toNat zT).1≠a)) then(some (([]:Str),b,c,d,()))
  else
  (if 0<=c/\c<(b.length:Int) then
  (some ((((b.getD (c).toNat zT).2).2).1,b,c,d,())) else none)) else none)
  else(some (([]:Str),b,c,d,())))
  else(some (([]:Str),b,c,d,()))
def g(a:Int)(b:List Tk)(c:Int)(d:Int):Option (Str×(List Tk)×Int×Int×Unit):=f (1000+a.toNat+b.length+c.toNat+d.toNat) a b c d
end Zcm
namespace Zbg
def f(n:Nat)(a:Int)(b:List Tk)(c:Int)(d:Int):Option (Str×(List Tk)×Int×Int×Unit):=
  (Zcm.g a b c d).bind fun y1=>
  some (y1.1,y1.2.1,(IntKind.i64.wrap (y1.2.2.1+(1:Int))),y1.2.2.2.1,())
def g(a:Int)(b:List Tk)(c:Int)(d:Int):Option (Str×(List Tk)×Int×Int×Unit):=f (1000+a.toNat+b.length+c.toNat+d.toNat) a b c d
end Zbg
namespace Zdc
def f(n:Nat)(a:List Tk)(b:Int)(c:Int)(d:Int)(e:Int)(i:Int)(j:Int)(k:Int)(l:Bool)(o:List It)(p:Str):Option ((List Tk)×Int×Int×Int×Int×Int×Int×Int×Bool×(List It)×Str×Unit):=
  (Zcm.g (1:Int) a b c).bind fun y1=>
  (Zbp.g y1.1).bind fun y2=>
  if(decide (d=(1:Int))) then
  (if(!y2.2.1)=false then
  (if l then
  (if(decide (e=(0:Int))) then
  (some (y1.2.1,y1.2.2.1,y1.2.2.2.1,(2:Int),e,i,j,k,l,o,p,()))
  else
  (if(decide (d=(7:Int))) then
  (if y2.2.1 then
  (some (y1.2.1,y1.2.2.1,y1.2.2.2.1,(6:Int),e,i,j,k,l,o,p,()))
  else
  (some (y1.2.1,y1.2.2.1,y1.2.2.2.1,d,e,i,j,k,l,o,p,())))
  else
  (some (y1.2.1,y1.2.2.1,y1.2.2.2.1,d,e,i,j,k,l,o,p,()))))
  else
  (if(decide (d=(7:Int))) then
  (if y2.2.1 then
  (some (y1.2.1,y1.2.2.1,y1.2.2.2.1,(6:Int),e,i,j,k,l,o,p,()))
  else
  (some (y1.2.1,y1.2.2.1,y1.2.2.2.1,d,e,i,j,k,l,o,p,())))
  else
  (some (y1.2.1,y1.2.2.1,y1.2.2.2.1,d,e,i,j,k,l,o,p,()))))
  else
  (some (y1.2.1,y1.2.2.1,y1.2.2.2.1,(2:Int),e,i,j,k,l,o,p,())))
  else
  (if(decide (d=(7:Int))) then
  (if y2.2.1 then
  (some (y1.2.1,y1.2.2.1,y1.2.2.2.1,(6:Int),e,i,j,k,l,o,p,()))
  else
  (some (y1.2.1,y1.2.2.1,y1.2.2.2.1,d,e,i,j,k,l,o,p,())))
  else
  (some (y1.2.1,y1.2.2.1,y1.2.2.2.1,d,e,i,j,k,l,o,p,())))
def g(a:List Tk)(b:Int)(c:Int)(d:Int)(e:Int)(i:Int)(j:Int)(k:Int)(l:Bool)(o:List It)(p:Str):Option ((List Tk)×Int×Int×Int×Int×Int×Int×Int×Bool×(List It)×Str×Unit):=f (1000+a.length+b.toNat+c.toNat+d.toNat+e.toNat+i.toNat+j.toNat+k.toNat+o.length+p.length) a b c d e i j k l o p
end Zdc
namespace Zdz
def f(n:Nat)(a:Int)(b:Int)(c:Int)(d:Int)(e:Int)(i:Bool)(j:List It)(k:Str):Option (Unit×Int×Int×Int×Int×Int×Bool×(List It)×Str×Unit):=
  some ((),a,b,c,d,e,i,j,k,())
def g(a:Int)(b:Int)(c:Int)(d:Int)(e:Int)(i:Bool)(j:List It)(k:Str):Option (Unit×Int×Int×Int×Int×Int×Bool×(List It)×Str×Unit):=f (1000+a.toNat+b.toNat+c.toNat+d.toNat+e.toNat+j.length+k.length) a b c d e i j k
end Zdz
namespace Zea
def f(n:Nat)(a:Int)(b:Int)(c:Int)(d:Int)(e:Int)(i:Bool)(j:List It)(k:Str):Option (Unit×Int×Int×Int×Int×Int×Bool×(List It)×Str×Unit):=
  some ((),a,b,c,d,e,i,j,k,())
def g(a:Int)(b:Int)(c:Int)(d:Int)(e:Int)(i:Bool)(j:List It)(k:Str):Option (Unit×Int×Int×Int×Int×Int×Bool×(List It)×Str×Unit):=f (1000+a.toNat+b.toNat+c.toNat+d.toNat+e.toNat+j.length+k.length) a b c d e i j k
end Zea
namespace Zeb
def f(n:Nat)(a:Int)(b:Int)(c:Int)(d:Int)(e:Int)(i:Bool)(j:List It)(k:Str):Option (Unit×Int×Int×Int×Int×Int×Bool×(List It)×Str×Unit):=
  some ((),a,b,c,d,e,i,j,k,())
def g(a:Int)(b:Int)(c:Int)(d:Int)(e:Int)(i:Bool)(j:List It)(k:Str):Option (Unit×Int×Int×Int×Int×Int×Bool×(List It)×Str×Unit):=f (1000+a.toNat+b.toNat+c.toNat+d.toNat+e.toNat+j.length+k.length) a b c d e i j k
end Zeb
namespace Zcn
def f(n:Nat)(a:Fn)(b:List Tk)(c:Int)(d:Int)(e:Int)(i:Int)(j:Int)(k:Int)(l:Int)(o:Bool)(p:List It)(q:Str):Option ((List Tk)×Int×Int×Int×Int×Int×Int×Int×Bool×(List It)×Str×Unit):=
  (Zbg.g (1:Int) b c d).bind fun y1=>
  (Zbp.g y1.1).bind fun y2=>
  (Zao.g y2.2.1 y1.2.1 y1.2.2.1 y1.2.2.2.1).bind fun y3=>
  if a=K.atA then((Zdz.g e i j k l o p q).bind fun y4=>
  some (y3.1,y3.2.1,y3.2.2.1,y4.2.1,y4.2.2.1,y2.1,y4.2.2.2.2.1,y4.2.2.2.2.2.1,y4.2.2.2.2.2.2.1,y4.2.2.2.2.2.2.2.1,y4.2.2.2.2.2.2.2.2.1,()))
  else if a=K.atB then((Zea.g e i j k l o p q).bind fun y5=>
  some (y3.1,y3.2.1,y3.2.2.1,y5.2.1,y5.2.2.1,y5.2.2.2.1,y2.1,y5.2.2.2.2.2.1,y5.2.2.2.2.2.2.1,y5.2.2.2.2.2.2.2.1,y5.2.2.2.2.2.2.2.2.1,()))
  else if a=K.atC then((Zeb.g e i j k l o p q).bind fun y6=>
  some (y3.1,y3.2.1,y3.2.2.1,y6.2.1,y6.2.2.1,y6.2.2.2.1,y6.2.2.2.2.1,y2.1,y6.2.2.2.2.2.2.1,y6.2.2.2.2.2.2.2.1,y6.2.2.2.2.2.2.2.2.1,()))
  else none
def g(a:Fn)(b:List Tk)(c:Int)(d:Int)(e:Int)(i:Int)(j:Int)(k:Int)(l:Int)(o:Bool)(p:List It)(q:Str):Option ((List Tk)×Int×Int×Int×Int×Int×Int×Int×Bool×(List It)×Str×Unit):=f (1000+b.length+c.toNat+d.toNat+e.toNat+i.toNat+j.toNat+k.toNat+l.toNat+p.length+q.length) a b c d e i j k l o p q
end Zcn
namespace Zax
def j2(n:Nat)(a:List Tk)(b:Int)(c:Int)(d:Int)(e:Int)(i:Int)(j:Int)(k:Int)(l:Bool)(o:List It)(p:Str):Option ((List Tk)×Int×Int×Int×Int×Int×Int×Int×Bool×(List It)×Str×Unit):=
  if(decide (c=(0:Int))) then
  ((Zbf.g a b).bind fun y1=>
  some (a,y1.2.1,y1.2.2.1,d,e,i,j,k,l,y1.1,p,()))
  else(some (a,b,c,d,e,i,j,k,l,o,p,()))
def f(n:Nat)(a:Str)(b:List Tk)(c:Int)(d:Int)(e:Int)(i:Int)(j:Int)(k:Int)(l:Int)(o:Bool)(p:List It)(q:Str):Option ((List Tk)×Int×Int×Int×Int×Int×Int×Int×Bool×(List It)×Str×Unit):=
  if(!(decide (a=([]:Str)))) then
  ((Zbg.g (3:Int) b c d).bind fun y1=>
  (Zao.g (decide (y1.1=a)) y1.2.1 y1.2.2.1 y1.2.2.2.1).bind fun y2=>
  Zax.j2 n y2.1 y2.2.1 y2.2.2.1 e i j k l o p q)
  else(Zax.j2 n b c d e i j k l o p q)
def g(a:Str)(b:List Tk)(c:Int)(d:Int)(e:Int)(i:Int)(j:Int)(k:Int)(l:Int)(o:Bool)(p:List It)(q:Str):Option ((List Tk)×Int×Int×Int×Int×Int×Int×Int×Bool×(List It)×Str×Unit):=f (1000+a.length+b.length+c.toNat+d.toNat+e.toNat+i.toNat+j.toNat+k.toNat+l.toNat+p.length+q.length) a b c d e i j k l o p q
end Zax
namespace Zdd
def f(n:Nat)(a:List Tk)(b:Int)(c:Int)(d:Int)(e:Int)(i:Int)(j:Int)(k:Int)(l:Bool)(o:List It)(p:Str):Option ((List Tk)×Int×Int×Int×Int×Int×Int×Int×Bool×(List It)×Str×Unit):=
  (Zbg.g (1:Int) a b c).bind fun y1=>
  (Zai.g y1.1).bind fun y2=>
  (Zao.g y2.1 y1.2.1 y1.2.2.1 y1.2.2.2.1).bind fun y3=>
  some (y3.1,y3.2.1,y3.2.2.1,d,e,i,j,k,l,o,y1.1,())
def g(a:List Tk)(b:Int)(c:Int)(d:Int)(e:Int)(i:Int)(j:Int)(k:Int)(l:Bool)(o:List It)(p:Str):Option ((List Tk)×Int×Int×Int×Int×Int×Int×Int×Bool×(List It)×Str×Unit):=f (1000+a.length+b.toNat+c.toNat+d.toNat+e.toNat+i.toNat+j.toNat+k.toNat+o.length+p.length) a b c d e i j k l o p
end Zdd
namespace Zab
def j20(n:Nat)(rl13:(List Tk)->Str->Int->Int->Int->Int->Int->Int->Int->Int->Int->Bool->(List It)->Str->(List Tk)->Int->Int->Option (Str×Int×Int×Int×Int×Int×Bool×(List It)×Str×Int×Unit))(a:List Tk)(b:Str)(c:Int)(d:Int)(e:Int)(i:Int)(j:Int)(k:Int)(l:Int)(o:Int)(p:Int)(q:Bool)(r:List It)(s:Str)(t:List Tk)(u:Int)(v:Int):Option (Str×Int×Int×Int×Int×Int×Bool×(List It)×Str×Int×Unit):=
  rl13 a b c d e (IntKind.i64.wrap (i+(1:Int))) j k l o p q r s t u v
def j19(n:Nat)(rl13:(List Tk)->Str->Int->Int->Int->Int->Int->Int->Int->Int->Int->Bool->(List It)->Str->(List Tk)->Int->Int->Option (Str×Int×Int×Int×Int×Int×Bool×(List It)×Str×Int×Unit))(a:List Tk)(b:Str)(c:Int)(d:Int)(e:Int)(i:Int)(j:Int)(k:Int)(l:Int)(o:Int)(p:Int)(q:Int)(r:Bool)(s:List It)(t:Str)(u:List Tk)(v:Int)(w:Int):Option (Str×Int×Int×Int×Int×Int×Bool×(List It)×Str×Int×Unit):=
  if 0<=e/\e<((L.opsR k c).length:Int) then
  (if((L.opsR k c).getD (e).toNat (((0,[]):Fn),(((0,[]):Fn),()))).1=K.rdA then((Zcn.g K.atA u v w k l o p q r s t).bind fun y2=>
  Zab.j20 n rl13 a b c d i j y2.2.2.2.1 y2.2.2.2.2.1 y2.2.2.2.2.2.1 y2.2.2.2.2.2.2.1 y2.2.2.2.2.2.2.2.1 y2.2.2.2.2.2.2.2.2.1 y2.2.2.2.2.2.2.2.2.2.1 y2.2.2.2.2.2.2.2.2.2.2.1 y2.1 y2.2.1 y2.2.2.1)
  else if((L.opsR k c).getD (e).toNat (((0,[]):Fn),(((0,[]):Fn),()))).1=K.rdB then((Zcn.g K.atB u v w k l o p q r s t).bind fun y3=>
  Zab.j20 n rl13 a b c d i j y3.2.2.2.1 y3.2.2.2.2.1 y3.2.2.2.2.2.1 y3.2.2.2.2.2.2.1 y3.2.2.2.2.2.2.2.1 y3.2.2.2.2.2.2.2.2.1 y3.2.2.2.2.2.2.2.2.2.1 y3.2.2.2.2.2.2.2.2.2.2.1 y3.1 y3.2.1 y3.2.2.1)
  else if((L.opsR k c).getD (e).toNat (((0,[]):Fn),(((0,[]):Fn),()))).1=K.rdC then((Zcn.g K.atC u v w k l o p q r s t).bind fun y4=>
  Zab.j20 n rl13 a b c d i j y4.2.2.2.1 y4.2.2.2.2.1 y4.2.2.2.2.2.1 y4.2.2.2.2.2.2.1 y4.2.2.2.2.2.2.2.1 y4.2.2.2.2.2.2.2.2.1 y4.2.2.2.2.2.2.2.2.2.1 y4.2.2.2.2.2.2.2.2.2.2.1 y4.1 y4.2.1 y4.2.2.1)
  else if((L.opsR k c).getD (e).toNat (((0,[]):Fn),(((0,[]):Fn),()))).1=K.rdE then((Zax.g ([]:Str) u v w k l o p q r s t).bind fun y5=>
  Zab.j20 n rl13 a b c d i j y5.2.2.2.1 y5.2.2.2.2.1 y5.2.2.2.2.2.1 y5.2.2.2.2.2.2.1 y5.2.2.2.2.2.2.2.1 y5.2.2.2.2.2.2.2.2.1 y5.2.2.2.2.2.2.2.2.2.1 y5.2.2.2.2.2.2.2.2.2.2.1 y5.1 y5.2.1 y5.2.2.1)
  else if((L.opsR k c).getD (e).toNat (((0,[]):Fn),(((0,[]):Fn),()))).1=K.rdQ then((Zax.g ([61]:Str) u v w k l o p q r s t).bind fun y6=>
  Zab.j20 n rl13 a b c d i j y6.2.2.2.1 y6.2.2.2.2.1 y6.2.2.2.2.2.1 y6.2.2.2.2.2.2.1 y6.2.2.2.2.2.2.2.1 y6.2.2.2.2.2.2.2.2.1 y6.2.2.2.2.2.2.2.2.2.1 y6.2.2.2.2.2.2.2.2.2.2.1 y6.1 y6.2.1 y6.2.2.1)
  else if((L.opsR k c).getD (e).toNat (((0,[]):Fn),(((0,[]):Fn),()))).1=K.rdN then((Zdd.g u v w k l o p q r s t).bind fun y7=>
  Zab.j20 n rl13 a b c d i j y7.2.2.2.1 y7.2.2.2.2.1 y7.2.2.2.2.2.1 y7.2.2.2.2.2.2.1 y7.2.2.2.2.2.2.2.1 y7.2.2.2.2.2.2.2.2.1 y7.2.2.2.2.2.2.2.2.2.1 y7.2.2.2.2.2.2.2.2.2.2.1 y7.1 y7.2.1 y7.2.2.1)
  else none) else none
def j17(n:Nat)(rl13:(List Tk)->Str->Int->Int->Int->Int->Int->Int->Int->Int->Int->Bool->(List It)->Str->(List Tk)->Int->Int->Option (Str×Int×Int×Int×Int×Int×Bool×(List It)×Str×Int×Unit))(a:List Tk)(b:Str)(c:Int)(d:Int)(e:Int)(i:Int)(j:Int)(k:Int)(l:Int)(o:Int)(p:Int)(q:Int)(r:Bool)(s:List It)(t:Str)(u:List Tk)(v:Int)(w:Int):Option (Str×Int×Int×Int×Int×Int×Bool×(List It)×Str×Int×Unit):=
  if(decide (e=(IntKind.i64.wrap (d-(1:Int))))) then
  ((Zdc.g u v w k l o p q r s t).bind fun y1=>
  Zab.j19 n rl13 a b c d e i j y1.2.2.2.1 y1.2.2.2.2.1 y1.2.2.2.2.2.1 y1.2.2.2.2.2.2.1 y1.2.2.2.2.2.2.2.1 y1.2.2.2.2.2.2.2.2.1 y1.2.2.2.2.2.2.2.2.2.1 y1.2.2.2.2.2.2.2.2.2.2.1 y1.1 y1.2.1 y1.2.2.1)
  else(Zab.j19 n rl13 a b c d e i j k l o p q r s t u v w)
def j22(n:Nat)(a:Str)(b:Int)(c:Int)(d:Int)(e:Int)(i:Int)(j:Bool)(k:List It)(l:Str)(o:List Tk)(p:Int)(q:Int):Option (Str×Int×Int×Int×Int×Int×Bool×(List It)×Str×Int×Unit):=
  if(decide (q≠(0:Int))) then
  (some (([]:Str),0,0,0,0,0,false,[],([]:Str),q,()))
  else(some (a,b,c,d,e,i,j,k,l,(0:Int),()))
def l13(n:Nat):Nat->(List Tk)->Str->Int->Int->Int->Int->Int->Int->Int->Int->Int->Bool->(List It)->Str->(List Tk)->Int->Int->Option (Str×Int×Int×Int×Int×Int×Bool×(List It)×Str×Int×Unit)
 |0,_,_,_,_,_,_,_,_,_,_,_,_,_,_,_,_,_=>none
 |m+1,a,b,c,d,e,i,j,k,l,o,p,q,r,s,t,u,v=>
  if(decide (i<e)) then
  (if(decide ((0:Int)<i)) then
  ((Zbg.g (3:Int) t u v).bind fun y1=>
  (Zao.g (decide (y1.1=([44]:Str))) y1.2.1 y1.2.2.1 y1.2.2.2.1).bind fun y2=>
  Zab.j17 n (Zab.l13 n m) a b c d i e i j k l o p q r s y2.1 y2.2.1 y2.2.2.1)
  else
  (Zab.j17 n (Zab.l13 n m) a b c d i e i j k l o p q r s t u v))
  else
  ((Zao.g (decide ((a.length:Int)<=u)) t u v).bind fun y3=>
  Zab.j22 n b j k l o p q r s y3.1 y3.2.1 y3.2.2.1)
def j9(n:Nat)(a:List Tk)(b:Str)(c:Int)(d:Int)(e:Bool)(i:Int)(j:Int)(k:Int)(l:Int)(o:Int)(p:Bool)(q:List It)(r:Str)(s:List Tk)(t:Int)(u:Int):Option (Str×Int×Int×Int×Int×Int×Bool×(List It)×Str×Int×Unit):=
  Zab.l13 n n a b d ((L.opsR c d).length:Int) ((L.opsR c d).length:Int) (0:Int) c d 0 0 0 e ([]) ([]:Str) s (IntKind.i64.wrap (t+(1:Int))) u
def j5(n:Nat)(a:List Tk)(b:Str)(c:Int)(d:Int)(e:Int)(i:Int)(j:Int)(k:Bool)(l:List It)(o:Str)(p:List Tk)(q:Int)(r:Int):Option (Str×Int×Int×Int×Int×Int×Bool×(List It)×Str×Int×Unit):=
  if(decide (r=(0:Int))) then
  (if(decide (q<(a.length:Int))) then
  (if 0<=q/\q<(a.length:Int) then
  ((L.nameOfO ((((a.getD (q).toNat zT).2).2).1)).bind fun y1=>
  if y1.2.2.2.1 then
  ((Zdb.g y1.1).bind fun y2=>
  if((decide ((a.getD (q).toNat zT).1=(4:Int))) == y2.1) then
  (if(decide ((a.getD (q).toNat zT).1=(4:Int)))=false then
  ((Zao.g (decide ((a.getD (q).toNat zT).1=(1:Int))) p q r).bind fun y3=>
  Zab.j9 n a b y1.1 y1.2.1 y1.2.2.1 c d e i j k l o y3.1 y3.2.1 y3.2.2.1)
  else
  ((Zao.g true p q r).bind fun y4=>
  Zab.j9 n a b y1.1 y1.2.1 y1.2.2.1 c d e i j k l o y4.1 y4.2.1 y4.2.2.1))
  else
  ((Zao.g false p q r).bind fun y5=>
  Zab.j9 n a b y1.1 y1.2.1 y1.2.2.1 c d e i j k l o y5.1 y5.2.1 y5.2.2.1))
  else
  ((Zao.g false p q r).bind fun y6=>
  Zab.j9 n a b y1.1 y1.2.1 y1.2.2.1 c d e i j k l o y6.1 y6.2.1 y6.2.2.1)) else none)
  else(Zab.j22 n b c d e i j k l o p q r))
  else(Zab.j22 n b c d e i j k l o p q r)
def f(n:Nat)(a:List Tk):Option (Str×Int×Int×Int×Int×Int×Bool×(List It)×Str×Int×Unit):=
  if(decide ((1:Int)<(a.length:Int))) then
  (if 0<=(0:Int)/\(0:Int)<(a.length:Int) then
  (if(decide ((a.getD ((0:Int)).toNat zT).1=(1:Int))) then
  (if 0<=(1:Int)/\(1:Int)<(a.length:Int) then
  (if(decide ((a.getD ((1:Int)).toNat zT).1=(3:Int))) then
  (if 0<=(1:Int)/\(1:Int)<(a.length:Int) then
  (if(decide ((((a.getD ((1:Int)).toNat zT).2).2).1=([58]:Str))) then
  (if 0<=(0:Int)/\(0:Int)<(a.length:Int) then
  ((Zac.g ((((a.getD ((0:Int)).toNat zT).2).2).1)).bind fun y1=>
  (Zao.g y1.1 a (2:Int) 0).bind fun y2=>
  Zab.j5 n a ((((a.getD ((0:Int)).toNat zT).2).2).1) 0 0 0 0 0 false ([]) ([]:Str) y2.1 y2.2.1 y2.2.2.1) else none)
  else
  (Zab.j5 n a ([]:Str) 0 0 0 0 0 false ([]) ([]:Str) a 0 0)) else none)
  else
  (Zab.j5 n a ([]:Str) 0 0 0 0 0 false ([]) ([]:Str) a 0 0)) else none)
  else
  (Zab.j5 n a ([]:Str) 0 0 0 0 0 false ([]) ([]:Str) a 0 0)) else none)
  else
  (Zab.j5 n a ([]:Str) 0 0 0 0 0 false ([]) ([]:Str) a 0 0)
def g(a:List Tk):Option (Str×Int×Int×Int×Int×Int×Bool×(List It)×Str×Int×Unit):=f (1000+a.length) a
end Zab
namespace Zco
def f(n:Nat)(a:Int)(b:Int)(c:Int):Option (Bool×Unit):=
  if(decide (b<=a)) then(some ((decide (a<=c)),()))
  else(some (false,()))
def g(a:Int)(b:Int)(c:Int):Option (Bool×Unit):=f (1000+a.toNat+b.toNat+c.toNat) a b c
end Zco
namespace Zdy
def f(n:Nat)(a:Bool):Option (Int×Unit):=
  if a then(some ((1:Int),()))
  else(some ((0:Int),()))
def g(a:Bool):Option (Int×Unit):=f (1000) a
end Zdy
namespace Zay
def f(n:Nat)(a:Int)(b:Bool)(c:Bool):Option (Int×Int×Int×Unit):=
  (Zdy.g b).bind fun y1=>
  (Zdy.g c).bind fun y2=>
  some ((28:Int),(4:Int),(aQ .or .i64 (aQ .or .i64 (IntKind.i64.wrap (a*2 ^ (min (2:Int).toNat IntKind.i64.bits))) (IntKind.i64.wrap ((IntKind.i64.wrap y1.1)*2 ^ (min (1:Int).toNat IntKind.i64.bits)))) (IntKind.i64.wrap y2.1)),())
def g(a:Int)(b:Bool)(c:Bool):Option (Int×Int×Int×Unit):=f (1000+a.toNat) a b c
end Zay
namespace Zde
def f(n:Nat)(a:Int)(b:Int)(c:Int)(d:Int):Option (Int×Int×Unit):=
  if a<0 then none else
  (if b<0 then none else
  (if a<0 then none else
  (some ((aQ .or .u32 (aQ .andNot .u32 c (IntKind.u32.wrap ((1:Int)*2 ^ (min a.toNat IntKind.u32.bits)))) (IntKind.u32.wrap ((aQ .and .u32 ((d).fdiv (2 ^ (min b.toNat IntKind.u32.bits))) (1:Int))*2 ^ (min a.toNat IntKind.u32.bits)))),d,()))))
def g(a:Int)(b:Int)(c:Int)(d:Int):Option (Int×Int×Unit):=f (1000+a.toNat+b.toNat+c.toNat+d.toNat) a b c d
end Zde
namespace Zch
def l2(n:Nat):Nat->Int->Int->Int->Int->Int->Option (Int×Int×Unit)
 |0,_,_,_,_,_=>none
 |m+1,a,b,c,d,e=>
  if(decide (c<(32:Int))) then
  (if(decide ((IntKind.i64.wrap (c-a))<b)) then
  ((Zde.g c (IntKind.i64.wrap (c-a)) d e).bind fun y1=>
  (Zch.l2 n m) a b (IntKind.i64.wrap (c+(1:Int))) y1.1 y1.2.1)
  else(some (d,e,())))
  else(some (d,e,()))
def f(n:Nat)(a:Int)(b:Int)(c:Int)(d:Int):Option (Int×Int×Unit):=
  if(decide (b<(1:Int)))=false then
  (if(decide ((32:Int)<=a))=false then
  (if(decide (a<=(IntKind.i64.wrap (0-b)))) then(some (c,d,()))
  else(Zch.l2 n n a b (mx a (0:Int)) c d))
  else(some (c,d,())))
  else(some (c,d,()))
def g(a:Int)(b:Int)(c:Int)(d:Int):Option (Int×Int×Unit):=f (1000+a.toNat+b.toNat+c.toNat+d.toNat) a b c d
end Zch
namespace Zdf
def f(n:Nat)(a:Int)(b:Int)(c:Int)(d:Int):Option (Int×Unit):=
  (Zch.g b c a d).bind fun y1=>
  some (y1.1,())
def g(a:Int)(b:Int)(c:Int)(d:Int):Option (Int×Unit):=f (1000+a.toNat+b.toNat+c.toNat+d.toNat) a b c d
end Zdf
namespace Zan
def l3(n:Nat):Nat->Int->(List (Int×Int×Int×Unit))->Int->Int->Option (Int×Unit)
 |0,_,_,_,_=>none
 |m+1,a,b,c,d=>
  if(decide (d<c)) then
  (if 0<=d/\d<(b.length:Int) then
  (if 0<=(0:Int)/\(0:Int)<(3:Int) then
  (if 0<=(1:Int)/\(1:Int)<(3:Int) then
  (if 0<=(2:Int)/\(2:Int)<(3:Int) then
  ((Zdf.g a ([(b.getD (d).toNat ((0:Int),((0:Int),((0:Int),())))).1,((b.getD (d).toNat ((0:Int),((0:Int),((0:Int),())))).2).1,(((b.getD (d).toNat ((0:Int),((0:Int),((0:Int),())))).2).2).1].getD ((0:Int)).toNat 0) ([(b.getD (d).toNat ((0:Int),((0:Int),((0:Int),())))).1,((b.getD (d).toNat ((0:Int),((0:Int),((0:Int),())))).2).1,(((b.getD (d).toNat ((0:Int),((0:Int),((0:Int),())))).2).2).1].getD ((1:Int)).toNat 0) (IntKind.u32.wrap ([(b.getD (d).toNat ((0:Int),((0:Int),((0:Int),())))).1,((b.getD (d).toNat ((0:Int),((0:Int),((0:Int),())))).2).1,(((b.getD (d).toNat ((0:Int),((0:Int),((0:Int),())))).2).2).1].getD ((2:Int)).toNat 0))).bind fun y1=>
  (Zan.l3 n m) y1.1 b c (IntKind.i64.wrap (d+(1:Int)))) else none) else none) else none) else none)
  else(some (a,()))
def f(n:Nat)(a:List (Int×Int×Int×Unit)):Option (Int×Unit):=
  Zan.l3 n n (0:Int) a (a.length:Int) (0:Int)
def g(a:List (Int×Int×Int×Unit)):Option (Int×Unit):=f (1000+a.length) a
end Zan
namespace Zbh
def j14(n:Nat)(a:Int)(b:Int)(c:Int)(d:Int)(e:Int)(i:Int)(j:Bool)(k:Int)(l:Int)(o:Int):Option (Int×Unit):=
  (Zay.g (3:Int) true j).bind fun y1=>
  (Zan.g ([(y1.1,y1.2.1,y1.2.2.1,()),(k,l,o,()),((0:Int),(24:Int),i,())]:List (Int×Int×Int×Unit))).bind fun y2=>
  some (y2.1,())
def f(n:Nat)(a:Int)(b:Int)(c:Int)(d:Int)(e:Int)(i:Int)(j:Bool):Option (Int×Unit):=
  if(decide (a=(1:Int))) then
  ((Zay.g (0:Int) j false).bind fun y1=>
  (Zan.g ([(y1.1,y1.2.1,y1.2.2.1,()),((24:Int),(4:Int),c,()),((20:Int),(4:Int),d,()),((16:Int),(4:Int),b,()),((0:Int),(4:Int),e,())]:List (Int×Int×Int×Unit))).bind fun y2=>
  some (y2.1,()))
  else
  (if(decide (a=(3:Int))) then
  (if(decide (a=(3:Int))) then
  ((Zay.g (0:Int) true (decide (a=(4:Int)))).bind fun y3=>
  (Zan.g ([(y3.1,y3.2.1,y3.2.2.1,()),((24:Int),(4:Int),c,())]:List (Int×Int×Int×Unit))).bind fun y4=>
  some (y4.1,()))
  else
  (if(decide (a=(2:Int))) then
  ((Zay.g (1:Int) j (decide (i<(0:Int)))).bind fun y5=>
  (Zan.g ([(y5.1,y5.2.1,y5.2.2.1,()),((24:Int),(4:Int),c,()),((20:Int),(4:Int),d,()),((16:Int),(4:Int),b,()),((0:Int),(16:Int),i,())]:List (Int×Int×Int×Unit))).bind fun y6=>
  some (y6.1,()))
  else
  (if(decide (a=(5:Int))) then
  ((Zay.g (2:Int) (decide ((2:Int)<=b)) (decide ((Int.tmod b (2:Int))=(1:Int)))).bind fun y7=>
  (Zan.g ([(y7.1,y7.2.1,y7.2.2.1,()),((24:Int),(4:Int),c,()),((20:Int),(4:Int),d,()),((0:Int),(20:Int),i,())]:List (Int×Int×Int×Unit))).bind fun y8=>
  some (y8.1,()))
  else
  (if(decide (a=(6:Int))) then
  ((Zay.g (3:Int) false j).bind fun y9=>
  (Zan.g ([(y9.1,y9.2.1,y9.2.2.1,()),((24:Int),(4:Int),b,()),((0:Int),(4:Int),e,())]:List (Int×Int×Int×Unit))).bind fun y10=>
  some (y10.1,()))
  else(Zbh.j14 n a b c d e i j (24:Int) (4:Int) b)))))
  else
  (if(decide (a=(4:Int))) then
  ((Zay.g (0:Int) true (decide (a=(4:Int)))).bind fun y11=>
  (Zan.g ([(y11.1,y11.2.1,y11.2.2.1,()),((24:Int),(4:Int),c,())]:List (Int×Int×Int×Unit))).bind fun y12=>
  some (y12.1,()))
  else
  (if(decide (a=(2:Int))) then
  ((Zay.g (1:Int) j (decide (i<(0:Int)))).bind fun y13=>
  (Zan.g ([(y13.1,y13.2.1,y13.2.2.1,()),((24:Int),(4:Int),c,()),((20:Int),(4:Int),d,()),((16:Int),(4:Int),b,()),((0:Int),(16:Int),i,())]:List (Int×Int×Int×Unit))).bind fun y14=>
  some (y14.1,()))
  else
  (if(decide (a=(5:Int))) then
  ((Zay.g (2:Int) (decide ((2:Int)<=b)) (decide ((Int.tmod b (2:Int))=(1:Int)))).bind fun y15=>
  (Zan.g ([(y15.1,y15.2.1,y15.2.2.1,()),((24:Int),(4:Int),c,()),((20:Int),(4:Int),d,()),((0:Int),(20:Int),i,())]:List (Int×Int×Int×Unit))).bind fun y16=>
  some (y16.1,()))
  else
  (if(decide (a=(6:Int))) then
  ((Zay.g (3:Int) false j).bind fun y17=>
  (Zan.g ([(y17.1,y17.2.1,y17.2.2.1,()),((24:Int),(4:Int),b,()),((0:Int),(4:Int),e,())]:List (Int×Int×Int×Unit))).bind fun y18=>
  some (y18.1,()))
  else(Zbh.j14 n a b c d e i j (24:Int) (4:Int) b))))))
def g(a:Int)(b:Int)(c:Int)(d:Int)(e:Int)(i:Int)(j:Bool):Option (Int×Unit):=f (1000+a.toNat+b.toNat+c.toNat+d.toNat+e.toNat+i.toNat) a b c d e i j
end Zbh
namespace Zdg
def f(n:Nat)(a:Int)(b:Int)(c:Int)(d:Int):Option (Int×Int×Unit):=
  if a<0 then none else
  (if b<0 then none else
  (some ((aQ .or .u32 c (IntKind.u32.wrap ((aQ .and .u32 ((d).fdiv (2 ^ (min a.toNat IntKind.u32.bits))) (1:Int))*2 ^ (min b.toNat IntKind.u32.bits)))),d,())))
def g(a:Int)(b:Int)(c:Int)(d:Int):Option (Int×Int×Unit):=f (1000+a.toNat+b.toNat+c.toNat+d.toNat) a b c d
end Zdg
namespace Zci
def l2(n:Nat):Nat->Int->Int->Int->Int->Int->Option (Int×Int×Unit)
 |0,_,_,_,_,_=>none
 |m+1,a,b,c,d,e=>
  if(decide (c<(32:Int))) then
  (if(decide ((IntKind.i64.wrap (c-a))<b)) then
  ((Zdg.g c (IntKind.i64.wrap (c-a)) d e).bind fun y1=>
  (Zci.l2 n m) a b (IntKind.i64.wrap (c+(1:Int))) y1.1 y1.2.1)
  else(some (d,e,())))
  else(some (d,e,()))
def f(n:Nat)(a:Int)(b:Int)(c:Int)(d:Int):Option (Int×Int×Unit):=
  if(decide (b<(1:Int)))=false then
  (if(decide ((32:Int)<=a))=false then
  (if(decide (a<=(IntKind.i64.wrap (0-b)))) then(some (c,d,()))
  else(Zci.l2 n n a b (mx a (0:Int)) c d))
  else(some (c,d,())))
  else(some (c,d,()))
def g(a:Int)(b:Int)(c:Int)(d:Int):Option (Int×Int×Unit):=f (1000+a.toNat+b.toNat+c.toNat+d.toNat) a b c d
end Zci
namespace Zdh
def f(n:Nat)(a:Int)(b:Int)(c:Int):Option (Int×Unit):=
  (Zci.g b c 0 a).bind fun y1=>
  some (y1.1,())
def g(a:Int)(b:Int)(c:Int):Option (Int×Unit):=f (1000+a.toNat+b.toNat+c.toNat) a b c
end Zdh
namespace Zap
def f(n:Nat)(a:Int)(b:Int)(c:Int):Option (Int×Unit):=
  (Zdh.g c a b).bind fun y1=>
  some ((IntKind.i64.wrap y1.1),())
def g(a:Int)(b:Int)(c:Int):Option (Int×Unit):=f (1000+a.toNat+b.toNat+c.toNat) a b c
end Zap
namespace Zdu
def f(n:Nat)(a:Int):Option (Int×Unit):=
  some ((mn (mx a (1:Int)) (32:Int)),())
def g(a:Int):Option (Int×Unit):=f (1000+a.toNat) a
end Zdu
namespace Zcu
def f(n:Nat)(a:Int)(b:Int):Option (Int×Unit):=
  (Zdu.g b).bind fun y1=>
  if(IntKind.i64.wrap ((32:Int)-y1.1))<0 then none else
  (if(IntKind.i64.wrap ((32:Int)-y1.1))<0 then none else
  (some ((IntKind.i64.wrap (((IntKind.i32.wrap (IntKind.u32.wrap (a*2 ^ (min (IntKind.i64.wrap ((32:Int)-y1.1)).toNat IntKind.u32.bits))))).fdiv (2 ^ (min (IntKind.i64.wrap ((32:Int)-y1.1)).toNat IntKind.i32.bits)))),())))
def g(a:Int)(b:Int):Option (Int×Unit):=f (1000+a.toNat+b.toNat) a b
end Zcu
namespace Zaz
def j16(n:Nat)(a:Int)(b:Int)(c:Int)(d:Int)(e:Int)(i:Int)(j:Bool)(k:Int)(l:Int)(o:Int)(p:Int)(q:Int)(r:Int)(s:Bool):Option (Int×Int×Int×Int×Int×Int×Bool×Unit):=
  some (k,l,o,p,q,r,s,())
def f(n:Nat)(a:Int):Option (Int×Int×Int×Int×Int×Int×Bool×Unit):=
  (Zap.g (29:Int) (1:Int) a).bind fun y1=>
  (Zap.g (28:Int) (1:Int) a).bind fun y2=>
  (Zap.g (24:Int) (4:Int) a).bind fun y3=>
  (Zap.g (20:Int) (4:Int) a).bind fun y4=>
  (Zap.g (16:Int) (4:Int) a).bind fun y5=>
  (Zap.g (30:Int) (2:Int) a).bind fun y6=>
  if(decide (y6.1=(0:Int))) then
  ((Zap.g (0:Int) (4:Int) a).bind fun y7=>
  if(decide (y1.1=(1:Int))) then
  (if(decide (y5.1=(0:Int))) then
  ((Zap.g (28:Int) (1:Int) a).bind fun y8=>
  Zaz.j16 n 0 0 0 0 0 0 false (IntKind.i64.wrap ((3:Int)+y8.1)) 0 y3.1 0 0 0 false)
  else
  (Zaz.j16 n 0 0 0 0 0 0 false (1:Int) y5.1 y3.1 y4.1 y7.1 0 (decide (y1.1=(1:Int)))))
  else
  (Zaz.j16 n 0 0 0 0 0 0 false (1:Int) y5.1 y3.1 y4.1 y7.1 0 (decide (y1.1=(1:Int)))))
  else
  (if(decide (y6.1=(1:Int))) then
  ((Zap.g (0:Int) (16:Int) a).bind fun y9=>
  (Zap.g (28:Int) (1:Int) a).bind fun y10=>
  Zaz.j16 n 0 0 0 0 0 0 false (2:Int) y5.1 y3.1 y4.1 0 (IntKind.i64.wrap (y9.1-(IntKind.i64.wrap (y10.1*2 ^ (min (16:Int).toNat IntKind.i64.bits))))) (decide (y1.1=(1:Int))))
  else
  (if(decide (y6.1=(2:Int))) then
  ((Zap.g (29:Int) (1:Int) a).bind fun y11=>
  (Zap.g (28:Int) (1:Int) a).bind fun y12=>
  (Zcu.g a (20:Int)).bind fun y13=>
  Zaz.j16 n 0 0 0 0 0 0 false (5:Int) (IntKind.i64.wrap ((IntKind.i64.wrap (y11.1*(2:Int)))+y12.1)) y3.1 y4.1 0 y13.1 false)
  else
  ((Zap.g (0:Int) (4:Int) a).bind fun y14=>
  if(decide (y1.1=(1:Int))) then
  ((Zcu.g a (24:Int)).bind fun y15=>
  Zaz.j16 n 0 0 0 0 0 0 false (7:Int) y3.1 0 0 (0:Int) y15.1 (decide (y2.1=(1:Int))))
  else
  (Zaz.j16 n 0 0 0 0 0 0 false (6:Int) y3.1 0 0 y14.1 0 (decide (y2.1=(1:Int)))))))
def g(a:Int):Option (Int×Int×Int×Int×Int×Int×Bool×Unit):=f (1000+a.toNat) a
end Zaz
namespace Zas
def j10(n:Nat)(a:Int)(b:Int)(c:Int)(d:Int)(e:Int)(i:Int)(j:Bool):Option (Bool×Unit):=
  if(!j)=false then
  ((Zco.g b (8:Int) (10:Int)).bind fun y1=>
  some (y1.1,()))
  else(some (true,()))
def f(n:Nat)(a:Int)(b:Int)(c:Int)(d:Int)(e:Int)(i:Int)(j:Bool):Option (Bool×Unit):=
  (Zco.g a (1:Int) (7:Int)).bind fun y1=>
  if(!y1.1)=false then
  ((Zco.g b (0:Int) (15:Int)).bind fun y2=>
  if(!y2.1)=false then
  ((Zbh.g a b c d e i j).bind fun y3=>
  (Zaz.g y3.1).bind fun y4=>
  if(!(decide (a=y4.1)&&(decide (b=y4.2.1)&&(decide (c=y4.2.2.1)&&(decide (d=y4.2.2.2.1)&&(decide (e=y4.2.2.2.2.1)&&(decide (i=y4.2.2.2.2.2.1)&&((j == y4.2.2.2.2.2.2.1)&&true)))))))) then(some (false,()))
  else
  (if(decide (a=(1:Int))) then
  (if(decide (a=(1:Int))) then
  (if(decide (b=(0:Int))) then
  (if(decide (d=(0:Int))) then
  (if(decide (a=(2:Int)))=false then
  (if(!j) then
  (if(!j)=false then(some ((decide ((0:Int)<=i)),()))
  else(some (true,())))
  else(some (false,())))
  else
  (if(!j)=false then(some ((decide ((0:Int)<=i)),()))
  else(some (true,()))))
  else(some (false,())))
  else
  (if(decide ((11:Int)<b)) then(some (false,()))
  else(Zas.j10 n a b c d e i j)))
  else(some (true,())))
  else
  (if(decide (a=(2:Int))) then
  (if(decide (b=(0:Int))) then
  (if(decide (d=(0:Int))) then
  (if(decide (a=(2:Int)))=false then
  (if(!j) then
  (if(!j)=false then(some ((decide ((0:Int)<=i)),()))
  else(some (true,())))
  else(some (false,())))
  else
  (if(!j)=false then(some ((decide ((0:Int)<=i)),()))
  else(some (true,()))))
  else(some (false,())))
  else
  (if(decide ((11:Int)<b)) then(some (false,()))
  else(Zas.j10 n a b c d e i j)))
  else(some (true,())))))
  else(some (false,())))
  else(some (false,()))
def g(a:Int)(b:Int)(c:Int)(d:Int)(e:Int)(i:Int)(j:Bool):Option (Bool×Unit):=f (1000+a.toNat+b.toNat+c.toNat+d.toNat+e.toNat+i.toNat) a b c d e i j
end Zas
namespace Zcp
def f(n:Nat)(a:Int)(b:Int)(c:Int)(d:Int)(e:Int)(i:Int)(j:Bool):Option (Int×Int×Unit):=
  (Zas.g a b c d e i j).bind fun y1=>
  if(!y1.1) then(some ((0:Int),(1:Int),()))
  else
  ((Zbh.g a b c d e i j).bind fun y2=>
  some (y2.1,(0:Int),()))
def g(a:Int)(b:Int)(c:Int)(d:Int)(e:Int)(i:Int)(j:Bool):Option (Int×Int×Unit):=f (1000+a.toNat+b.toNat+c.toNat+d.toNat+e.toNat+i.toNat) a b c d e i j
end Zcp
end Rv
namespace Rv
open Go
set_option maxRecDepth 100000
namespace Zdi
def f(n:Nat)(a:Str):Option (Str×Int×Int×Int×Int×Int×Bool×(List It)×Str×Int×Unit):=
  (Zae.g a).bind fun y1=>
  if(decide (y1.2.1≠(0:Int))) then
  (some (([]:Str),0,0,0,0,0,false,[],([]:Str),y1.2.1,()))
  else
  ((Zab.g y1.1).bind fun y2=>
  some (y2.1,y2.2.1,y2.2.2.1,y2.2.2.2.1,y2.2.2.2.2.1,y2.2.2.2.2.2.1,y2.2.2.2.2.2.2.1,y2.2.2.2.2.2.2.2.1,y2.2.2.2.2.2.2.2.2.1,y2.2.2.2.2.2.2.2.2.2.1,()))
def g(a:Str):Option (Str×Int×Int×Int×Int×Int×Bool×(List It)×Str×Int×Unit):=f (1000+a.length) a
end Zdi
namespace Zby
def l5(n:Nat):Nat->(List Ln)->(List Str)->Int->Int->Option ((List Ln)×Int×Int×Unit)
 |0,_,_,_,_=>none
 |m+1,a,b,c,d=>
  if(decide (d<c)) then
  (if 0<=d/\d<(b.length:Int) then
  ((Zdi.g (b.getD (d).toNat ([]:Str))).bind fun y1=>
  if(decide (y1.2.2.2.2.2.2.2.2.2.1≠(0:Int))) then
  (some ([],(IntKind.i64.wrap (d+(1:Int))),y1.2.2.2.2.2.2.2.2.2.1,()))
  else
  (if(a.length+([(y1.1,(y1.2.1,y1.2.2.1,y1.2.2.2.1,y1.2.2.2.2.1,y1.2.2.2.2.2.1,y1.2.2.2.2.2.2.1,y1.2.2.2.2.2.2.2.1,y1.2.2.2.2.2.2.2.2.1,()),())]:List Ln).length)*104<=140737488355328/\0<104/\0<9 then
  ((Zby.l5 n m) (a++([(y1.1,(y1.2.1,y1.2.2.1,y1.2.2.2.1,y1.2.2.2.2.1,y1.2.2.2.2.2.1,y1.2.2.2.2.2.2.1,y1.2.2.2.2.2.2.2.1,y1.2.2.2.2.2.2.2.2.1,()),())]:List Ln)) b c (IntKind.i64.wrap (d+(1:Int)))) else none)) else none)
  else(some (a,(0:Int),(0:Int),()))
def f(n:Nat)(a:List Str):Option ((List Ln)×Int×Int×Unit):=
  if(decide ((4096:Int)<(a.length:Int))) then(some ([],(0:Int),(2:Int),()))
  else
  (Zby.l5 n n ([]) a (a.length:Int) (0:Int))
def g(a:List Str):Option ((List Ln)×Int×Int×Unit):=f (1000+a.length) a
end Zby
namespace Zbz
def j7(n:Nat)(a:List Str):Option ((List Ln)×Int×Int×Unit):=
  (Zby.g a).bind fun y1=>
  some (y1.1,y1.2.1,y1.2.2.1,())
def f(n:Nat)(a:Str):Option ((List Ln)×Int×Int×Unit):=
  if(decide ((262144:Int)<(a.length:Int))) then(some ([],(0:Int),(2:Int),()))
  else
  ((L.splitO a ([10]:Str)).bind fun y1=>
  if 0<=(IntKind.i64.wrap ((y1.1.length:Int)-(1:Int)))/\(IntKind.i64.wrap ((y1.1.length:Int)-(1:Int)))<(y1.1.length:Int) then
  (if(decide ((y1.1.getD ((IntKind.i64.wrap ((y1.1.length:Int)-(1:Int)))).toNat ([]:Str))=([]:Str))) then
  (if 0<=(IntKind.i64.wrap ((y1.1.length:Int)-(1:Int)))/\(IntKind.i64.wrap ((y1.1.length:Int)-(1:Int)))<=(y1.1.length:Int) then
  (Zbz.j7 n ((y1.1.take (((IntKind.i64.wrap ((y1.1.length:Int)-(1:Int)))).toNat)).drop 0)) else none)
  else(Zbz.j7 n y1.1)) else none)
def g(a:Str):Option ((List Ln)×Int×Int×Unit):=f (1000+a.length) a
end Zbz
end Rv
namespace Rv
open Go
set_option maxRecDepth 100000
namespace Zdj
def f(n:Nat)(a:Int)(b:Int)(c:Int)(d:Int)(e:Int)(i:Bool)(j:List It)(k:Str):Option (Int×Unit):=
  if(decide (a=(0:Int))) then
  (if(decide (a=(0:Int))) then(some ((0:Int),()))
  else(some ((1:Int),())))
  else
  (if(decide (a=(10:Int))) then(some ((0:Int),()))
  else(some ((1:Int),())))
def g(a:Int)(b:Int)(c:Int)(d:Int)(e:Int)(i:Bool)(j:List It)(k:Str):Option (Int×Unit):=f (1000+a.toNat+b.toNat+c.toNat+d.toNat+e.toNat+j.length+k.length) a b c d e i j k
end Zdj
namespace Zcj
def j7(n:Nat)(a:List Int)(b:List (Str×Int×Unit))(c:List (Int×Int×Unit))(d:Int)(e:Int)(i:Str)(j:Int)(k:Int)(l:Int)(o:Int)(p:Int)(q:Bool)(r:List It)(s:Str):Option (Int×(List Int)×(List (Str×Int×Unit))×(List (Int×Int×Unit))×Int×Int×Unit):=
  (Zdj.g j k l o p q r s).bind fun y1=>
  some ((0:Int),a,b,c,(IntKind.i64.wrap (d+(IntKind.i64.wrap ((4:Int)*y1.1)))),e,())
def f(n:Nat)(a:Str)(b:Int)(c:Int)(d:Int)(e:Int)(i:Int)(j:Bool)(k:List It)(l:Str)(o:List Int)(p:List (Str×Int×Unit))(q:List (Int×Int×Unit))(r:Int)(s:Int):Option (Int×(List Int)×(List (Str×Int×Unit))×(List (Int×Int×Unit))×Int×Int×Unit):=
  if(o.length+([r]:List Int).length)*8<=140737488355328/\0<8/\0<1 then
  (if(!(decide (a=([]:Str)))) then
  ((Zbr.g p a).bind fun y1=>
  if y1.2.1 then(some ((26:Int),(o++([r]:List Int)),p,q,r,s,()))
  else
  (if(p.length+([(a,r,())]:List (Str×Int×Unit)).length)*24<=140737488355328/\0<24/\0<2 then
  (Zcj.j7 n (o++([r]:List Int)) (p++([(a,r,())]:List (Str×Int×Unit))) q r s a b c d e i j k l) else none))
  else
  (Zcj.j7 n (o++([r]:List Int)) p q r s a b c d e i j k l)) else none
def g(a:Str)(b:Int)(c:Int)(d:Int)(e:Int)(i:Int)(j:Bool)(k:List It)(l:Str)(o:List Int)(p:List (Str×Int×Unit))(q:List (Int×Int×Unit))(r:Int)(s:Int):Option (Int×(List Int)×(List (Str×Int×Unit))×(List (Int×Int×Unit))×Int×Int×Unit):=f (1000+a.length+b.toNat+c.toNat+d.toNat+e.toNat+i.toNat+k.length+l.length+o.length+p.length+q.length+r.toNat+s.toNat) a b c d e i j k l o p q r s
end Zcj
namespace Zcq
def l2(n:Nat):Nat->(List Ln)->Int->Int->(List Int)->(List (Str×Int×Unit))->(List (Int×Int×Unit))->Int->Int->Option (Int×Int×(List Int)×(List (Str×Int×Unit))×(List (Int×Int×Unit))×Int×Int×Unit)
 |0,_,_,_,_,_,_,_,_=>none
 |m+1,a,b,c,d,e,i,j,k=>
  if(decide (c<b)) then
  (if 0<=c/\c<(a.length:Int) then
  ((Zcj.g ((a.getD (c).toNat zL).1) ((((a.getD (c).toNat zL).2).1).1) (((((a.getD (c).toNat zL).2).1).2).1) ((((((a.getD (c).toNat zL).2).1).2).2).1) (((((((a.getD (c).toNat zL).2).1).2).2).2).1) ((((((((a.getD (c).toNat zL).2).1).2).2).2).2).1) (((((((((a.getD (c).toNat zL).2).1).2).2).2).2).2).1) ((((((((((a.getD (c).toNat zL).2).1).2).2).2).2).2).2).1) (((((((((((a.getD (c).toNat zL).2).1).2).2).2).2).2).2).2).1) d e i j k).bind fun y1=>
  if(decide (y1.1≠(0:Int))) then
  (some ((IntKind.i64.wrap (c+(1:Int))),y1.1,y1.2.1,y1.2.2.1,y1.2.2.2.1,y1.2.2.2.2.1,y1.2.2.2.2.2.1,()))
  else
  ((Zcq.l2 n m) a b (IntKind.i64.wrap (c+(1:Int))) y1.2.1 y1.2.2.1 y1.2.2.2.1 y1.2.2.2.2.1 y1.2.2.2.2.2.1)) else none)
  else(some ((0:Int),(0:Int),d,e,i,j,k,()))
def f(n:Nat)(a:List Ln)(b:List Int)(c:List (Str×Int×Unit))(d:List (Int×Int×Unit))(e:Int)(i:Int):Option (Int×Int×(List Int)×(List (Str×Int×Unit))×(List (Int×Int×Unit))×Int×Int×Unit):=
  Zcq.l2 n n a (a.length:Int) (0:Int) b c d e i
def g(a:List Ln)(b:List Int)(c:List (Str×Int×Unit))(d:List (Int×Int×Unit))(e:Int)(i:Int):Option (Int×Int×(List Int)×(List (Str×Int×Unit))×(List (Int×Int×Unit))×Int×Int×Unit):=f (1000+a.length+b.length+c.length+d.length+e.toNat+i.toNat) a b c d e i
end Zcq
namespace Zdv
def f(n:Nat)(a:List (Int×Int×Unit)):Option ((List (Int×Int×Unit))×Unit):=
  if some 2=some 2/\(a.length:Int)=(a.length:Int)/\(a.length:Int)=(a.length:Int) then(some (a,())) else none
def g(a:List (Int×Int×Unit)):Option ((List (Int×Int×Unit))×Unit):=f (1000+a.length) a
end Zdv
namespace Zbi
def l2(n:Nat):Nat->(List (Int×Int×Unit))->(List (Int×Int×Unit))->Int->Int->Int->Int->Option ((List (Int×Int×Unit))×Int×Unit)
 |0,_,_,_,_,_,_=>none
 |m+1,a,b,c,d,e,i=>
  if(decide (d<c)) then
  (if 0<=d/\d<(b.length:Int) then
  (if(decide ((b.getD (d).toNat ((0:Int),((0:Int),()))).1=e)&&(decide (((b.getD (d).toNat ((0:Int),((0:Int),()))).2).1=i)&&true)) then(some (a,d,()))
  else
  ((Zbi.l2 n m) a b c (IntKind.i64.wrap (d+(1:Int))) e i)) else none)
  else
  ((Zdv.g a).bind fun y1=>
  if true=true/\0<([(e,i,())]:List (Int×Int×Unit)).length then
  (if(y1.1.length+([(e,i,())]:List (Int×Int×Unit)).length)*16<=140737488355328/\0<16/\0<2 then
  (some ((y1.1++([(e,i,())]:List (Int×Int×Unit))),(a.length:Int),())) else none) else none)
def f(n:Nat)(a:List (Int×Int×Unit))(b:Int)(c:Int):Option ((List (Int×Int×Unit))×Int×Unit):=
  Zbi.l2 n n a a (a.length:Int) (0:Int) b c
def g(a:List (Int×Int×Unit))(b:Int)(c:Int):Option ((List (Int×Int×Unit))×Int×Unit):=f (1000+a.length+b.toNat+c.toNat) a b c
end Zbi
namespace Zdk
def f(n:Nat)(a:Str)(b:Int)(c:Int)(d:Int)(e:Int)(i:Int)(j:Bool)(k:List It)(l:Str)(o:List Int)(p:List (Str×Int×Unit))(q:List (Int×Int×Unit))(r:Int)(s:Int):Option (Int×(List Int)×(List (Str×Int×Unit))×(List (Int×Int×Unit))×Int×Int×Unit):=
  if(decide (b≠(8:Int))) then(some ((0:Int),o,p,q,r,s,()))
  else
  ((Zad.g k p).bind fun y1=>
  if(decide (y1.2.2.1≠(0:Int))) then(some (y1.2.2.1,o,p,q,r,s,()))
  else
  (if(decide (y1.2.1<(0:Int)))=false then
  (if(decide ((1:Int)<y1.2.1)) then(some ((27:Int),o,p,q,r,s,()))
  else
  ((Zbi.g q y1.1 y1.2.1).bind fun y2=>
  some ((0:Int),o,p,y2.1,r,s,())))
  else(some ((27:Int),o,p,q,r,s,()))))
def g(a:Str)(b:Int)(c:Int)(d:Int)(e:Int)(i:Int)(j:Bool)(k:List It)(l:Str)(o:List Int)(p:List (Str×Int×Unit))(q:List (Int×Int×Unit))(r:Int)(s:Int):Option (Int×(List Int)×(List (Str×Int×Unit))×(List (Int×Int×Unit))×Int×Int×Unit):=f (1000+a.length+b.toNat+c.toNat+d.toNat+e.toNat+i.toNat+k.length+l.length+o.length+p.length+q.length+r.toNat+s.toNat) a b c d e i j k l o p q r s
end Zdk
namespace Zcr
def l2(n:Nat):Nat->(List Ln)->Int->Int->(List Int)->(List (Str×Int×Unit))->(List (Int×Int×Unit))->Int->Int->Option (Int×Int×(List Int)×(List (Str×Int×Unit))×(List (Int×Int×Unit))×Int×Int×Unit)
 |0,_,_,_,_,_,_,_,_=>none
 |m+1,a,b,c,d,e,i,j,k=>
  if(decide (c<b)) then
  (if 0<=c/\c<(a.length:Int) then
  ((Zdk.g ((a.getD (c).toNat zL).1) ((((a.getD (c).toNat zL).2).1).1) (((((a.getD (c).toNat zL).2).1).2).1) ((((((a.getD (c).toNat zL).2).1).2).2).1) (((((((a.getD (c).toNat zL).2).1).2).2).2).1) ((((((((a.getD (c).toNat zL).2).1).2).2).2).2).1) (((((((((a.getD (c).toNat zL).2).1).2).2).2).2).2).1) ((((((((((a.getD (c).toNat zL).2).1).2).2).2).2).2).2).1) (((((((((((a.getD (c).toNat zL).2).1).2).2).2).2).2).2).2).1) d e i j k).bind fun y1=>
  if(decide (y1.1≠(0:Int))) then
  (some ((IntKind.i64.wrap (c+(1:Int))),y1.1,y1.2.1,y1.2.2.1,y1.2.2.2.1,y1.2.2.2.2.1,y1.2.2.2.2.2.1,()))
  else
  ((Zcr.l2 n m) a b (IntKind.i64.wrap (c+(1:Int))) y1.2.1 y1.2.2.1 y1.2.2.2.1 y1.2.2.2.2.1 y1.2.2.2.2.2.1)) else none)
  else(some ((0:Int),(0:Int),d,e,i,j,k,()))
def f(n:Nat)(a:List Ln)(b:List Int)(c:List (Str×Int×Unit))(d:List (Int×Int×Unit))(e:Int)(i:Int):Option (Int×Int×(List Int)×(List (Str×Int×Unit))×(List (Int×Int×Unit))×Int×Int×Unit):=
  Zcr.l2 n n a (a.length:Int) (0:Int) b c d e i
def g(a:List Ln)(b:List Int)(c:List (Str×Int×Unit))(d:List (Int×Int×Unit))(e:Int)(i:Int):Option (Int×Int×(List Int)×(List (Str×Int×Unit))×(List (Int×Int×Unit))×Int×Int×Unit):=f (1000+a.length+b.length+c.length+d.length+e.toNat+i.toNat) a b c d e i
end Zcr
namespace Zav
def j7(n:Nat)(rl4:(List Ln)->Int->Int->(List Int)->(List (Str×Int×Unit))->(List (Int×Int×Unit))->Int->Int->Option ((List Int)×(List (Str×Int×Unit))×(List (Int×Int×Unit))×Int×Int×Int×Int×Unit))(a:List Ln)(b:Int)(c:Int)(d:Int)(e:Int)(i:List Int)(j:List (Str×Int×Unit))(k:List (Int×Int×Unit))(l:Int)(o:Int):Option ((List Int)×(List (Str×Int×Unit))×(List (Int×Int×Unit))×Int×Int×Int×Int×Unit):=
  if(decide (c≠(0:Int))) then(some ([],[],[],0,0,b,c,()))
  else(rl4 a d (IntKind.i64.wrap (e+(1:Int))) i j k l o)
def l4(n:Nat):Nat->(List Ln)->Int->Int->(List Int)->(List (Str×Int×Unit))->(List (Int×Int×Unit))->Int->Int->Option ((List Int)×(List (Str×Int×Unit))×(List (Int×Int×Unit))×Int×Int×Int×Int×Unit)
 |0,_,_,_,_,_,_,_,_=>none
 |m+1,a,b,c,d,e,i,j,k=>
  if(decide (c<b)) then
  (if c=(0:Int) then
  ((Zcq.g a d e i j k).bind fun y1=>
  Zav.j7 n (Zav.l4 n m) a y1.1 y1.2.1 b c y1.2.2.1 y1.2.2.2.1 y1.2.2.2.2.1 y1.2.2.2.2.2.1 y1.2.2.2.2.2.2.1)
  else
  (if c=(1:Int) then
  ((Zcr.g a d e i j k).bind fun y2=>
  Zav.j7 n (Zav.l4 n m) a y2.1 y2.2.1 b c y2.2.2.1 y2.2.2.2.1 y2.2.2.2.2.1 y2.2.2.2.2.2.1 y2.2.2.2.2.2.2.1)
  else none))
  else
  (if(decide ((1024:Int)<(IntKind.i64.wrap ((IntKind.i64.wrap (Int.tdiv j (4:Int)))+(i.length:Int))))) then(some ([],[],[],0,0,(0:Int),(2:Int),()))
  else
  (some (d,e,i,j,(IntKind.i64.wrap ((IntKind.i64.wrap (Int.tdiv j (4:Int)))+(i.length:Int))),(0:Int),(0:Int),())))
def f(n:Nat)(a:List Ln):Option ((List Int)×(List (Str×Int×Unit))×(List (Int×Int×Unit))×Int×Int×Int×Int×Unit):=
  Zav.l4 n n a (2:Int) (0:Int) ([]) ([]) ([]) 0 0
def g(a:List Ln):Option ((List Int)×(List (Str×Int×Unit))×(List (Int×Int×Unit))×Int×Int×Int×Int×Unit):=f (1000+a.length) a
end Zav
end Rv
namespace Rv
open Go
set_option maxRecDepth 100000
namespace Zdw
def f(n:Nat)(a:Str)(b:Int)(c:Str):Option (Int×Unit):=
  some ((L.cmpR a c),())
def g(a:Str)(b:Int)(c:Str):Option (Int×Unit):=f (1000+a.length+b.toNat+c.length) a b c
end Zdw
namespace Zbo
def l3(n:Nat):Nat->(List (Str×Int×Unit))->Str->Int->Int->Int->Option (Int×Bool×Unit)
 |0,_,_,_,_,_=>none
 |m+1,a,b,c,d,e=>
  if(decide (d<e)) then
  (if 0<=(IntKind.i64.wrap (((IntKind.u64.wrap (IntKind.i64.wrap (d+e)))).fdiv (2 ^ (min (1:Int).toNat IntKind.u64.bits))))/\(IntKind.i64.wrap (((IntKind.u64.wrap (IntKind.i64.wrap (d+e)))).fdiv (2 ^ (min (1:Int).toNat IntKind.u64.bits))))<(a.length:Int) then
  ((Zdw.g ((a.getD ((IntKind.i64.wrap (((IntKind.u64.wrap (IntKind.i64.wrap (d+e)))).fdiv (2 ^ (min (1:Int).toNat IntKind.u64.bits))))).toNat (([]:Str),((0:Int),()))).1) (((a.getD ((IntKind.i64.wrap (((IntKind.u64.wrap (IntKind.i64.wrap (d+e)))).fdiv (2 ^ (min (1:Int).toNat IntKind.u64.bits))))).toNat (([]:Str),((0:Int),()))).2).1) b).bind fun y1=>
  if(decide (y1.1<(0:Int))) then
  ((Zbo.l3 n m) a b c (IntKind.i64.wrap ((IntKind.i64.wrap (((IntKind.u64.wrap (IntKind.i64.wrap (d+e)))).fdiv (2 ^ (min (1:Int).toNat IntKind.u64.bits))))+(1:Int))) e)
  else
  ((Zbo.l3 n m) a b c d (IntKind.i64.wrap (((IntKind.u64.wrap (IntKind.i64.wrap (d+e)))).fdiv (2 ^ (min (1:Int).toNat IntKind.u64.bits)))))) else none)
  else
  (if(decide (d<c)) then
  (if 0<=d/\d<(a.length:Int) then
  ((Zdw.g ((a.getD (d).toNat (([]:Str),((0:Int),()))).1) (((a.getD (d).toNat (([]:Str),((0:Int),()))).2).1) b).bind fun y2=>
  some (d,(decide (y2.1=(0:Int))),())) else none)
  else(some (d,false,())))
def f(n:Nat)(a:List (Str×Int×Unit))(b:Str):Option (Int×Bool×Unit):=
  Zbo.l3 n n a b (a.length:Int) (0:Int) (a.length:Int)
def g(a:List (Str×Int×Unit))(b:Str):Option (Int×Bool×Unit):=f (1000+a.length+b.length) a b
end Zbo
namespace Zdl
def f(n:Nat)(a:Str)(b:List Int)(c:List (Str×Int×Unit))(d:List (Int×Int×Unit))(e:Int)(i:Int)(j:List Int)(k:List Int)(l:List (Str×Int×Unit)):Option (Int×(List Int)×(List (Str×Int×Unit))×(List (Int×Int×Unit))×Int×Int×(List Int)×(List Int)×(List (Str×Int×Unit))×Unit):=
  (Zbr.g c a).bind fun y1=>
  (Zbo.g l a).bind fun y2=>
  (Zai.g a).bind fun y3=>
  if(!y3.1) then(some ((9:Int),b,c,d,e,i,j,k,l,()))
  else
  (if(!y1.2.1) then(some ((25:Int),b,c,d,e,i,j,k,l,()))
  else
  (if y2.2.1 then(some ((26:Int),b,c,d,e,i,j,k,l,()))
  else
  ((L.insertO l y2.1 ([(a,y1.1,())]:List (Str×Int×Unit))).bind fun y4=>
  some ((0:Int),b,c,d,e,i,j,k,y4.1,()))))
def g(a:Str)(b:List Int)(c:List (Str×Int×Unit))(d:List (Int×Int×Unit))(e:Int)(i:Int)(j:List Int)(k:List Int)(l:List (Str×Int×Unit)):Option (Int×(List Int)×(List (Str×Int×Unit))×(List (Int×Int×Unit))×Int×Int×(List Int)×(List Int)×(List (Str×Int×Unit))×Unit):=f (1000+a.length+b.length+c.length+d.length+e.toNat+i.toNat+j.length+k.length+l.length) a b c d e i j k l
end Zdl
namespace Zbd
def j3(n:Nat)(a:List Int)(b:List (Str×Int×Unit))(c:List (Int×Int×Unit))(d:Int)(e:Int)(i:List Int)(j:List Int)(k:List (Str×Int×Unit))(l:Int)(o:Int):Option ((List Int)×(List (Str×Int×Unit))×(List (Int×Int×Unit))×Int×Int×(List Int)×(List Int)×(List (Str×Int×Unit))×Unit):=
  if(i.length+([l]:List Int).length)*4<=140737488355328/\0<4/\0<1 then(some (a,b,c,d,e,(i++([l]:List Int)),j,k,())) else none
def f(n:Nat)(a:Int)(b:Int)(c:List Int)(d:List (Str×Int×Unit))(e:List (Int×Int×Unit))(i:Int)(j:Int)(k:List Int)(l:List Int)(o:List (Str×Int×Unit)):Option ((List Int)×(List (Str×Int×Unit))×(List (Int×Int×Unit))×Int×Int×(List Int)×(List Int)×(List (Str×Int×Unit))×Unit):=
  if(decide (b=(1:Int))) then
  (if(l.length+([(k.length:Int)]:List Int).length)*8<=140737488355328/\0<8/\0<1 then
  (Zbd.j3 n c d e i j k (l++([(k.length:Int)]:List Int)) o a b) else none)
  else(Zbd.j3 n c d e i j k l o a b)
def g(a:Int)(b:Int)(c:List Int)(d:List (Str×Int×Unit))(e:List (Int×Int×Unit))(i:Int)(j:Int)(k:List Int)(l:List Int)(o:List (Str×Int×Unit)):Option ((List Int)×(List (Str×Int×Unit))×(List (Int×Int×Unit))×Int×Int×(List Int)×(List Int)×(List (Str×Int×Unit))×Unit):=f (1000+a.toNat+b.toNat+c.length+d.length+e.length+i.toNat+j.toNat+k.length+l.length+o.length) a b c d e i j k l o
end Zbd
namespace Zdm
def f(n:Nat)(a:Int)(b:Int)(c:Int)(d:Int)(e:Int)(i:Int)(j:Bool)(k:List Int)(l:List (Str×Int×Unit))(o:List (Int×Int×Unit))(p:Int)(q:Int)(r:List Int)(s:List Int)(t:List (Str×Int×Unit)):Option (Int×(List Int)×(List (Str×Int×Unit))×(List (Int×Int×Unit))×Int×Int×(List Int)×(List Int)×(List (Str×Int×Unit))×Unit):=
  (Zcp.g a b c d e i j).bind fun y1=>
  if(decide (y1.2.1=(0:Int))) then
  ((Zbd.g y1.1 0 k l o p q r s t).bind fun y2=>
  some (y1.2.1,y2.1,y2.2.1,y2.2.2.1,y2.2.2.2.1,y2.2.2.2.2.1,y2.2.2.2.2.2.1,y2.2.2.2.2.2.2.1,y2.2.2.2.2.2.2.2.1,()))
  else(some (y1.2.1,k,l,o,p,q,r,s,t,()))
def g(a:Int)(b:Int)(c:Int)(d:Int)(e:Int)(i:Int)(j:Bool)(k:List Int)(l:List (Str×Int×Unit))(o:List (Int×Int×Unit))(p:Int)(q:Int)(r:List Int)(s:List Int)(t:List (Str×Int×Unit)):Option (Int×(List Int)×(List (Str×Int×Unit))×(List (Int×Int×Unit))×Int×Int×(List Int)×(List Int)×(List (Str×Int×Unit))×Unit):=f (1000+a.toNat+b.toNat+c.toNat+d.toNat+e.toNat+i.toNat+k.length+l.length+o.length+p.toNat+q.toNat+r.length+s.length+t.length) a b c d e i j k l o p q r s t
end Zdm
namespace Zcs
def f(n:Nat)(a:Int)(b:Int)(c:Int)(d:Int)(e:Int)(i:Bool)(j:List It)(k:Str)(l:Int)(o:List Int)(p:List (Str×Int×Unit))(q:List (Int×Int×Unit))(r:Int)(s:Int)(t:List Int)(u:List Int)(v:List (Str×Int×Unit)):Option (Int×Int×Int×Int×Int×Int×Int×Bool×(List It)×Str×Unit×Int×(List Int)×(List (Str×Int×Unit))×(List (Int×Int×Unit))×Int×Int×(List Int)×(List Int)×(List (Str×Int×Unit))×Unit):=
  (Zad.g j p).bind fun y1=>
  some (y1.1,y1.2.1,a,b,c,d,e,i,j,k,(),y1.2.2.1,o,p,q,r,s,t,u,v,())
def g(a:Int)(b:Int)(c:Int)(d:Int)(e:Int)(i:Bool)(j:List It)(k:Str)(l:Int)(o:List Int)(p:List (Str×Int×Unit))(q:List (Int×Int×Unit))(r:Int)(s:Int)(t:List Int)(u:List Int)(v:List (Str×Int×Unit)):Option (Int×Int×Int×Int×Int×Int×Int×Bool×(List It)×Str×Unit×Int×(List Int)×(List (Str×Int×Unit))×(List (Int×Int×Unit))×Int×Int×(List Int)×(List Int)×(List (Str×Int×Unit))×Unit):=f (1000+a.toNat+b.toNat+c.toNat+d.toNat+e.toNat+j.length+k.length+l.toNat+o.length+p.length+q.length+r.toNat+s.toNat+t.length+u.length+v.length) a b c d e i j k l o p q r s t u v
end Zcs
namespace Zdn
def f(n:Nat)(a:Int)(b:Int)(c:Int):Option (Int×Int×Unit):=
  if(decide (b≠(1:Int))) then(some ((0:Int),(27:Int),()))
  else
  (if(decide ((Int.tmod (IntKind.i64.wrap (IntKind.i32.wrap (IntKind.u32.wrap ((IntKind.u32.wrap (a-(IntKind.u32.wrap c)))-(4:Int))))) (4:Int))≠(0:Int)))=false then
  (if(decide ((IntKind.i64.wrap (Int.tdiv (IntKind.i64.wrap (IntKind.i32.wrap (IntKind.u32.wrap ((IntKind.u32.wrap (a-(IntKind.u32.wrap c)))-(4:Int))))) (4:Int)))<(-8388608:Int)))=false then
  (if(decide ((8388608:Int)<=(IntKind.i64.wrap (Int.tdiv (IntKind.i64.wrap (IntKind.i32.wrap (IntKind.u32.wrap ((IntKind.u32.wrap (a-(IntKind.u32.wrap c)))-(4:Int))))) (4:Int))))) then(some ((0:Int),(28:Int),()))
  else
  (some ((IntKind.i64.wrap (Int.tdiv (IntKind.i64.wrap (IntKind.i32.wrap (IntKind.u32.wrap ((IntKind.u32.wrap (a-(IntKind.u32.wrap c)))-(4:Int))))) (4:Int))),(0:Int),())))
  else(some ((0:Int),(28:Int),())))
  else(some ((0:Int),(28:Int),())))
def g(a:Int)(b:Int)(c:Int):Option (Int×Int×Unit):=f (1000+a.toNat+b.toNat+c.toNat) a b c
end Zdn
namespace Zcv
def f(n:Nat)(a:Int)(b:Int)(c:List Int)(d:List (Str×Int×Unit))(e:List (Int×Int×Unit))(i:Int)(j:Int)(k:List Int)(l:List Int)(o:List (Str×Int×Unit)):Option (Int×(List Int)×(List (Str×Int×Unit))×(List (Int×Int×Unit))×Int×Int×(List Int)×(List Int)×(List (Str×Int×Unit))×Unit):=
  if(decide (b<(0:Int)))=false then
  (if(decide ((1:Int)<b)) then(some ((27:Int),c,d,e,i,j,k,l,o,()))
  else
  (if(decide (b=(1:Int))) then
  (if(decide ((IntKind.i64.wrap ((4:Int)*j))<(IntKind.i64.wrap a))) then(some ((28:Int),c,d,e,i,j,k,l,o,()))
  else(some ((0:Int),c,d,e,i,j,k,l,o,())))
  else(some ((0:Int),c,d,e,i,j,k,l,o,()))))
  else(some ((27:Int),c,d,e,i,j,k,l,o,()))
def g(a:Int)(b:Int)(c:List Int)(d:List (Str×Int×Unit))(e:List (Int×Int×Unit))(i:Int)(j:Int)(k:List Int)(l:List Int)(o:List (Str×Int×Unit)):Option (Int×(List Int)×(List (Str×Int×Unit))×(List (Int×Int×Unit))×Int×Int×(List Int)×(List Int)×(List (Str×Int×Unit))×Unit):=f (1000+a.toNat+b.toNat+c.length+d.length+e.length+i.toNat+j.toNat+k.length+l.length+o.length) a b c d e i j k l o
end Zcv
namespace Zaj
def j32(n:Nat)(a:List Int)(b:List (Str×Int×Unit))(c:List (Int×Int×Unit))(d:Int)(e:Int)(i:List Int)(j:List Int)(k:List (Str×Int×Unit))(l:Int)(o:Int)(p:Int)(q:Int)(r:Int)(s:Int)(t:Int)(u:Bool):Option (Int×(List Int)×(List (Str×Int×Unit))×(List (Int×Int×Unit))×Int×Int×(List Int)×(List Int)×(List (Str×Int×Unit))×Unit):=
  if(decide (l≠(0:Int))) then(some (l,a,b,c,d,e,i,j,k,()))
  else
  ((Zdm.g o p q r s t u a b c d e i j k).bind fun y1=>
  some (y1.1,y1.2.1,y1.2.2.1,y1.2.2.2.1,y1.2.2.2.2.1,y1.2.2.2.2.2.1,y1.2.2.2.2.2.2.1,y1.2.2.2.2.2.2.2.1,y1.2.2.2.2.2.2.2.2.1,()))
def j12(n:Nat)(a:Int)(b:List Int)(c:List (Str×Int×Unit))(d:List (Int×Int×Unit))(e:Int)(i:Int)(j:List Int)(k:List Int)(l:List (Str×Int×Unit))(o:Int)(p:Int)(q:Int)(r:Int)(s:Int)(t:Bool)(u:List It)(v:Str)(w:Int)(x:Int)(z:Int)(A:Int)(B:Int)(C:Int)(D:Int)(E:Bool):Option (Int×(List Int)×(List (Str×Int×Unit))×(List (Int×Int×Unit))×Int×Int×(List Int)×(List Int)×(List (Str×Int×Unit))×Unit):=
  (Zam.g u c a (65535:Int)).bind fun y1=>
  Zaj.j32 n b c d e i j k l y1.2.1 x z A B C y1.1 E
def j31(n:Nat)(a:List Int)(b:List (Str×Int×Unit))(c:List (Int×Int×Unit))(d:Int)(e:Int)(i:List Int)(j:List Int)(k:List (Str×Int×Unit))(l:Int):Option (Int×(List Int)×(List (Str×Int×Unit))×(List (Int×Int×Unit))×Int×Int×(List Int)×(List Int)×(List (Str×Int×Unit))×Unit):=
  some (l,a,b,c,d,e,i,j,k,())
def j29(n:Nat)(a:List Int)(b:List (Str×Int×Unit))(c:List (Int×Int×Unit))(d:Int)(e:Int)(i:List Int)(j:List Int)(k:List (Str×Int×Unit))(l:Int)(o:Int)(p:Int):Option (Int×(List Int)×(List (Str×Int×Unit))×(List (Int×Int×Unit))×Int×Int×(List Int)×(List Int)×(List (Str×Int×Unit))×Unit):=
  if(decide (l=(0:Int))) then
  ((Zbd.g o p a b c d e i j k).bind fun y1=>
  Zaj.j31 n y1.1 y1.2.1 y1.2.2.1 y1.2.2.2.1 y1.2.2.2.2.1 y1.2.2.2.2.2.1 y1.2.2.2.2.2.2.1 y1.2.2.2.2.2.2.2.1 l)
  else(Zaj.j31 n a b c d e i j k l)
def f(n:Nat)(a:Int)(b:Int)(c:Int)(d:Int)(e:Int)(i:Bool)(j:List It)(k:Str)(l:Int)(o:List Int)(p:List (Str×Int×Unit))(q:List (Int×Int×Unit))(r:Int)(s:Int)(t:List Int)(u:List Int)(v:List (Str×Int×Unit)):Option (Int×(List Int)×(List (Str×Int×Unit))×(List (Int×Int×Unit))×Int×Int×(List Int)×(List Int)×(List (Str×Int×Unit))×Unit):=
  if(decide (a=(0:Int))) then(some ((0:Int),o,p,q,r,s,t,u,v,()))
  else
  (if(decide (a=(10:Int))) then
  ((Zdl.g k o p q r s t u v).bind fun y1=>
  some (y1.1,y1.2.1,y1.2.2.1,y1.2.2.2.1,y1.2.2.2.2.1,y1.2.2.2.2.2.1,y1.2.2.2.2.2.2.1,y1.2.2.2.2.2.2.2.1,y1.2.2.2.2.2.2.2.2.1,()))
  else
  (if(decide (a=(2:Int))) then
  (if(decide (b=(0:Int))) then
  (if i then
  (Zaj.j12 n (0:Int) o p q r s t u v a b c d e i j k 0 a b c d e 0 i)
  else
  (Zaj.j12 n (-65536:Int) o p q r s t u v a b c d e i j k 0 a b c d e 0 i))
  else
  (Zaj.j12 n (-65536:Int) o p q r s t u v a b c d e i j k 0 a b c d e 0 i))
  else
  (if(decide (a=(5:Int))) then
  ((Zam.g j p (-524288:Int) (524287:Int)).bind fun y2=>
  Zaj.j32 n o p q r s t u v y2.2.1 a b c d e y2.1 i)
  else
  (if(decide (a=(7:Int))) then
  ((Zcs.g a b c d e i j k 0 o p q r s t u v).bind fun y3=>
  if(decide (y3.2.2.2.2.2.2.2.2.2.2.2.1=(0:Int))) then
  ((Zdn.g y3.1 y3.2.1 l).bind fun y4=>
  Zaj.j32 n y3.2.2.2.2.2.2.2.2.2.2.2.2.1 y3.2.2.2.2.2.2.2.2.2.2.2.2.2.1 y3.2.2.2.2.2.2.2.2.2.2.2.2.2.2.1 y3.2.2.2.2.2.2.2.2.2.2.2.2.2.2.2.1 y3.2.2.2.2.2.2.2.2.2.2.2.2.2.2.2.2.1 y3.2.2.2.2.2.2.2.2.2.2.2.2.2.2.2.2.2.1 y3.2.2.2.2.2.2.2.2.2.2.2.2.2.2.2.2.2.2.1 y3.2.2.2.2.2.2.2.2.2.2.2.2.2.2.2.2.2.2.2.1 y4.2.1 a b c d e y4.1 i)
  else
  (Zaj.j32 n y3.2.2.2.2.2.2.2.2.2.2.2.2.1 y3.2.2.2.2.2.2.2.2.2.2.2.2.2.1 y3.2.2.2.2.2.2.2.2.2.2.2.2.2.2.1 y3.2.2.2.2.2.2.2.2.2.2.2.2.2.2.2.1 y3.2.2.2.2.2.2.2.2.2.2.2.2.2.2.2.2.1 y3.2.2.2.2.2.2.2.2.2.2.2.2.2.2.2.2.2.1 y3.2.2.2.2.2.2.2.2.2.2.2.2.2.2.2.2.2.2.1 y3.2.2.2.2.2.2.2.2.2.2.2.2.2.2.2.2.2.2.2.1 y3.2.2.2.2.2.2.2.2.2.2.2.1 a b c d e 0 i))
  else
  (if(decide (a=(8:Int))) then
  ((Zcs.g a b c d e i j k 0 o p q r s t u v).bind fun y5=>
  if(decide (y5.2.2.2.2.2.2.2.2.2.2.2.1=(0:Int))) then
  ((Zbi.g y5.2.2.2.2.2.2.2.2.2.2.2.2.2.2.1 y5.1 y5.2.1).bind fun y6=>
  (Zcv.g y5.1 y5.2.1 y5.2.2.2.2.2.2.2.2.2.2.2.2.1 y5.2.2.2.2.2.2.2.2.2.2.2.2.2.1 y5.2.2.2.2.2.2.2.2.2.2.2.2.2.2.1 y5.2.2.2.2.2.2.2.2.2.2.2.2.2.2.2.1 y5.2.2.2.2.2.2.2.2.2.2.2.2.2.2.2.2.1 y5.2.2.2.2.2.2.2.2.2.2.2.2.2.2.2.2.2.1 y5.2.2.2.2.2.2.2.2.2.2.2.2.2.2.2.2.2.2.1 y5.2.2.2.2.2.2.2.2.2.2.2.2.2.2.2.2.2.2.2.1).bind fun y7=>
  Zaj.j32 n y7.2.1 y7.2.2.1 y7.2.2.2.1 y7.2.2.2.2.1 y7.2.2.2.2.2.1 y7.2.2.2.2.2.2.1 y7.2.2.2.2.2.2.2.1 y7.2.2.2.2.2.2.2.2.1 y7.1 (5:Int) (0:Int) y5.2.2.2.2.1 (13:Int) 0 (IntKind.i64.wrap (y5.2.2.2.2.2.2.2.2.2.2.2.2.2.2.2.1+(IntKind.i64.wrap ((4:Int)*y6.2.1)))) false)
  else
  (Zaj.j32 n y5.2.2.2.2.2.2.2.2.2.2.2.2.1 y5.2.2.2.2.2.2.2.2.2.2.2.2.2.1 y5.2.2.2.2.2.2.2.2.2.2.2.2.2.2.1 y5.2.2.2.2.2.2.2.2.2.2.2.2.2.2.2.1 y5.2.2.2.2.2.2.2.2.2.2.2.2.2.2.2.2.1 y5.2.2.2.2.2.2.2.2.2.2.2.2.2.2.2.2.2.1 y5.2.2.2.2.2.2.2.2.2.2.2.2.2.2.2.2.2.2.1 y5.2.2.2.2.2.2.2.2.2.2.2.2.2.2.2.2.2.2.2.1 y5.2.2.2.2.2.2.2.2.2.2.2.1 a b c d e 0 i))
  else
  (if(decide (a=(9:Int))) then
  ((Zcs.g a b c d e i j k 0 o p q r s t u v).bind fun y8=>
  if(decide (y8.2.2.2.2.2.2.2.2.2.2.2.1=(0:Int))) then
  ((Zcv.g y8.1 y8.2.1 y8.2.2.2.2.2.2.2.2.2.2.2.2.1 y8.2.2.2.2.2.2.2.2.2.2.2.2.2.1 y8.2.2.2.2.2.2.2.2.2.2.2.2.2.2.1 y8.2.2.2.2.2.2.2.2.2.2.2.2.2.2.2.1 y8.2.2.2.2.2.2.2.2.2.2.2.2.2.2.2.2.1 y8.2.2.2.2.2.2.2.2.2.2.2.2.2.2.2.2.2.1 y8.2.2.2.2.2.2.2.2.2.2.2.2.2.2.2.2.2.2.1 y8.2.2.2.2.2.2.2.2.2.2.2.2.2.2.2.2.2.2.2.1).bind fun y9=>
  Zaj.j29 n y9.2.1 y9.2.2.1 y9.2.2.2.1 y9.2.2.2.2.1 y9.2.2.2.2.2.1 y9.2.2.2.2.2.2.1 y9.2.2.2.2.2.2.2.1 y9.2.2.2.2.2.2.2.2.1 y9.1 y8.1 y8.2.1)
  else
  (Zaj.j29 n y8.2.2.2.2.2.2.2.2.2.2.2.2.1 y8.2.2.2.2.2.2.2.2.2.2.2.2.2.1 y8.2.2.2.2.2.2.2.2.2.2.2.2.2.2.1 y8.2.2.2.2.2.2.2.2.2.2.2.2.2.2.2.1 y8.2.2.2.2.2.2.2.2.2.2.2.2.2.2.2.2.1 y8.2.2.2.2.2.2.2.2.2.2.2.2.2.2.2.2.2.1 y8.2.2.2.2.2.2.2.2.2.2.2.2.2.2.2.2.2.2.1 y8.2.2.2.2.2.2.2.2.2.2.2.2.2.2.2.2.2.2.2.1 y8.2.2.2.2.2.2.2.2.2.2.2.1 y8.1 y8.2.1))
  else(Zaj.j32 n o p q r s t u v 0 a b c d e 0 i)))))))
def g(a:Int)(b:Int)(c:Int)(d:Int)(e:Int)(i:Bool)(j:List It)(k:Str)(l:Int)(o:List Int)(p:List (Str×Int×Unit))(q:List (Int×Int×Unit))(r:Int)(s:Int)(t:List Int)(u:List Int)(v:List (Str×Int×Unit)):Option (Int×(List Int)×(List (Str×Int×Unit))×(List (Int×Int×Unit))×Int×Int×(List Int)×(List Int)×(List (Str×Int×Unit))×Unit):=f (1000+a.toNat+b.toNat+c.toNat+d.toNat+e.toNat+j.length+k.length+l.toNat+o.length+p.length+q.length+r.toNat+s.toNat+t.length+u.length+v.length) a b c d e i j k l o p q r s t u v
end Zaj
namespace Zba
def l14(n:Nat):Nat->(List (Int×Int×Unit))->Int->Int->(List Int)->(List Int)->(List (Str×Int×Unit))->(List Int)->(List (Str×Int×Unit))->(List (Int×Int×Unit))->Int->Int->(List Int)->(List Int)->(List (Str×Int×Unit))->Option ((List Int)×(List Int)×(List (Str×Int×Unit))×Int×Int×Unit)
 |0,_,_,_,_,_,_,_,_,_,_,_,_,_,_=>none
 |m+1,a,b,c,d,e,i,j,k,l,o,p,q,r,s=>
  if(decide (c<b)) then
  (if 0<=c/\c<(a.length:Int) then
  ((Zbd.g ((a.getD (c).toNat ((0:Int),((0:Int),()))).1) (((a.getD (c).toNat ((0:Int),((0:Int),()))).2).1) j k l o p q r s).bind fun y1=>
  (Zba.l14 n m) a b (IntKind.i64.wrap (c+(1:Int))) d e i y1.1 y1.2.1 y1.2.2.1 y1.2.2.2.1 y1.2.2.2.2.1 y1.2.2.2.2.2.1 y1.2.2.2.2.2.2.1 y1.2.2.2.2.2.2.2.1) else none)
  else
  (if(decide ((64:Int)<(s.length:Int))) then(some ([],[],[],(0:Int),(2:Int),()))
  else(some (q,r,s,(0:Int),(0:Int),())))
def l7(n:Nat):Nat->(List Ln)->Int->Int->(List Int)->(List Int)->(List (Str×Int×Unit))->(List Int)->(List (Str×Int×Unit))->(List (Int×Int×Unit))->Int->Int->(List Int)->(List (Str×Int×Unit))->(List (Int×Int×Unit))->Int->Int->(List Int)->(List Int)->(List (Str×Int×Unit))->Option ((List Int)×(List Int)×(List (Str×Int×Unit))×Int×Int×Unit)
 |0,_,_,_,_,_,_,_,_,_,_,_,_,_,_,_,_,_,_,_=>none
 |m+1,a,b,c,d,e,i,j,k,l,o,p,q,r,s,t,u,v,w,x=>
  if(decide (c<b)) then
  (if 0<=c/\c<(a.length:Int) then
  (if 0<=c/\c<(j.length:Int) then
  ((Zaj.g ((((a.getD (c).toNat zL).2).1).1) (((((a.getD (c).toNat zL).2).1).2).1) ((((((a.getD (c).toNat zL).2).1).2).2).1) (((((((a.getD (c).toNat zL).2).1).2).2).2).1) ((((((((a.getD (c).toNat zL).2).1).2).2).2).2).1) (((((((((a.getD (c).toNat zL).2).1).2).2).2).2).2).1) ((((((((((a.getD (c).toNat zL).2).1).2).2).2).2).2).2).1) (((((((((((a.getD (c).toNat zL).2).1).2).2).2).2).2).2).2).1) (j.getD (c).toNat (0:Int)) q r s t u v w x).bind fun y1=>
  if(decide (y1.1≠(0:Int))) then
  (some ([],[],[],(IntKind.i64.wrap (c+(1:Int))),y1.1,()))
  else
  ((Zba.l7 n m) a b (IntKind.i64.wrap (c+(1:Int))) d e i j k l o p y1.2.1 y1.2.2.1 y1.2.2.2.1 y1.2.2.2.2.1 y1.2.2.2.2.2.1 y1.2.2.2.2.2.2.1 y1.2.2.2.2.2.2.2.1 y1.2.2.2.2.2.2.2.2.1)) else none) else none)
  else
  (Zba.l14 n n l (l.length:Int) (0:Int) d e i q r s t u v w x)
def f(n:Nat)(a:List Ln):Option ((List Int)×(List Int)×(List (Str×Int×Unit))×Int×Int×Unit):=
  (Zav.g a).bind fun y1=>
  if(decide (y1.2.2.2.2.2.2.1≠(0:Int))) then(some ([],[],[],y1.2.2.2.2.2.1,y1.2.2.2.2.2.2.1,()))
  else
  (Zba.l7 n n a (a.length:Int) (0:Int) ([]) ([]) ([]) y1.1 y1.2.1 y1.2.2.1 y1.2.2.2.1 y1.2.2.2.2.1 y1.1 y1.2.1 y1.2.2.1 y1.2.2.2.1 y1.2.2.2.2.1 ([]) ([]) ([]))
def g(a:List Ln):Option ((List Int)×(List Int)×(List (Str×Int×Unit))×Int×Int×Unit):=f (1000+a.length) a
end Zba
namespace Zca
def f(n:Nat)(a:Str):Option ((List Int)×(List Int)×(List (Str×Int×Unit))×Int×Int×Unit):=
  (Zbz.g a).bind fun y1=>
  if(decide (y1.2.2.1≠(0:Int))) then(some ([],[],[],y1.2.1,y1.2.2.1,()))
  else
  ((Zba.g y1.1).bind fun y2=>
  some (y2.1,y2.2.1,y2.2.2.1,y2.2.2.2.1,y2.2.2.2.2.1,()))
def g(a:Str):Option ((List Int)×(List Int)×(List (Str×Int×Unit))×Int×Int×Unit):=f (1000+a.length) a
end Zca
namespace Zdx
def l4(n:Nat):Nat->(List Int)->(List Int)->Int->Option (Bool×Unit)
 |0,_,_,_=>none
 |m+1,a,b,c=>
  if(decide (c<(a.length:Int))) then
  (if 0<=c/\c<(a.length:Int) then
  (if 0<=c/\c<(b.length:Int) then
  (if(decide ((a.getD (c).toNat (0:Int))≠(b.getD (c).toNat (0:Int)))) then(some (false,()))
  else
  ((Zdx.l4 n m) a b (IntKind.i64.wrap (c+(1:Int))))) else none) else none)
  else(some (true,()))
def f(n:Nat)(a:List Int)(b:List Int):Option (Bool×Unit):=
  if(decide ((a.length:Int)≠(b.length:Int))) then(some (false,()))
  else(Zdx.l4 n n a b (0:Int))
def g(a:List Int)(b:List Int):Option (Bool×Unit):=f (1000+a.length+b.length) a b
end Zdx
end Rv
namespace Rv
open Go
set_option maxRecDepth 100000
namespace Zdo
def f(n:Nat):Option (Bool×Unit):=
  (Zca.g ([97,58,32,77,79,86,32,82,49,44,32,53,10,66,32,97,10]:Str)).bind fun y1=>
  (Zdx.g y1.1 ([(1090519045:Int),(3892314110:Int)]:List Int)).bind fun y2=>
  if y2.1 then
  (if(decide (y1.2.2.2.1=(0:Int))) then(some ((decide (y1.2.2.2.2.1=(0:Int))),()))
  else(some (false,())))
  else(some (false,()))
def g:Option (Bool×Unit):=f (1000)
end Zdo
namespace Zcw
def f(n:Nat)(a:Str):Option (Str×Unit):=
  if 0<=(mn (a.length:Int) (500:Int))/\(mn (a.length:Int) (500:Int))<=(a.length:Int) then
  (some (((a.take (((mn (a.length:Int) (500:Int))).toNat)).drop 0),())) else none
def g(a:Str):Option (Str×Unit):=f (1000+a.length) a
end Zcw
namespace rivetlaw21_AsmMay
def f(a_rivetlaw21_shown:Option (Bool×Unit))(n:Nat)(a:Str):Option (Bool×Unit):=
  (a_rivetlaw21_shown).bind fun y1=>
  (Zcw.g a).bind fun y2=>
  (Zca.g y2.1).bind fun y3=>
  if(decide (y3.2.2.2.2.1≠(0:Int))) then
  (if y1.1 then
  ((Zcl.g y3.1 y3.2.1 y3.2.2.1 ([]) ([]) ([])).bind fun y4=>
  if y4.1 then
  (if(decide ((0:Int)<=y3.2.2.2.1)) then
  (if(decide (y3.2.2.2.1<=(501:Int))) then
  (if(decide ((0:Int)<y3.2.2.2.1))=false then(some ((decide (y3.2.2.2.2.1=(2:Int))),()))
  else(some (true,())))
  else(some (false,())))
  else(some (false,())))
  else(some (false,())))
  else(some (false,())))
  else
  ((Zbm.g y3.1 y3.2.1 y3.2.2.1).bind fun y5=>
  (Zbn.g y5.1).bind fun y6=>
  if y1.1 then
  (if(decide (y3.2.2.2.1=(0:Int))) then
  ((Zbl.g y3.1 y3.2.1 y3.2.2.1).bind fun y7=>
  if(decide (y7.1=(0:Int))) then
  (if(decide (y5.2.1=(0:Int))) then
  (if(decide (y6.2.2.2.1=(0:Int))) then
  ((Zcl.g y3.1 y3.2.1 y3.2.2.1 y6.1 y6.2.1 y6.2.2.1).bind fun y8=>
  some (y8.1,()))
  else(some (false,())))
  else(some (false,())))
  else(some (false,())))
  else(some (false,())))
  else(some (false,())))
def g(a:Str):Option (Bool×Unit):=f Zdo.g (1000+a.length) a
end rivetlaw21_AsmMay
end Rv
