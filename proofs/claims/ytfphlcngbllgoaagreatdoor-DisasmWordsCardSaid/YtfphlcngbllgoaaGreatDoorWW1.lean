/- Texts put together. -/
import Derived.Test.YtfphlcngbllgoaaGreatDoorW1
import Derived.Test.YtfphlcngbllgoaaGreatDoorW7
import Derived.IntWalk
set_option linter.all false
namespace Rv
open Go
set_option maxRecDepth 100000
def K.atA:Fn:=(181,[])
def K.rdA:Fn:=(227,[.cf (181,[])])
def K.wrA:Fn:=(228,[.cf (181,[])])
def K.atB:Fn:=(182,[])
def K.rdB:Fn:=(227,[.cf (182,[])])
def K.wrB:Fn:=(228,[.cf (182,[])])
def K.atC:Fn:=(183,[])
def K.rdC:Fn:=(227,[.cf (183,[])])
def K.wrC:Fn:=(228,[.cf (183,[])])
def K.rdE:Fn:=(229,[.c0 (.cs ([]:Str))])
def K.wrE:Fn:=(231,[.c0 (.cs ([]:Str))])
def K.rdQ:Fn:=(229,[.c0 (.cs ([61]:Str))])
def K.wrQ:Fn:=(231,[.c0 (.cs ([61]:Str))])
def K.rdN:Fn:=(185,[])
def K.wrN:Fn:=(186,[])
abbrev It:=Int×Int×Str×Unit
abbrev Sn:=Int×Int×Int×Int×Int×Bool×(List It)×Str×Unit
abbrev Ln:=Str×Sn×Unit
abbrev zI:It:=((0:Int),((0:Int),(([]:Str),())))
abbrev zL:Ln:=(([]:Str),(((0:Int),((0:Int),((0:Int),((0:Int),((0:Int),(false,([],(([]:Str),())))))))),()))
def L.opsR(k o:Int):List (Fn×Fn×Unit):=
 if k=1 then(if o=0 then[(K.rdA,K.wrA,()),(K.rdC,K.wrC,())] else[(K.rdA,K.wrA,()),(K.rdB,K.wrB,()),(K.rdC,K.wrC,())]) else
 if k=2 then(if o=0 then[(K.rdA,K.wrA,()),(K.rdE,K.wrE,())] else[(K.rdA,K.wrA,()),(K.rdB,K.wrB,()),(K.rdE,K.wrE,())]) else
 if k=3\/k=4 then[(K.rdA,K.wrA,())] else
 if k=5 then[(K.rdA,K.wrA,()),(K.rdB,K.wrB,()),(K.rdE,K.wrE,())] else
 if k=6 then[(K.rdC,K.wrC,())] else
 if k=7\/k=9 then[(K.rdE,K.wrE,())] else
 if k=8 then[(K.rdA,K.wrA,()),(K.rdQ,K.wrQ,())] else
 if k=10 then[(K.rdN,K.wrN,())] else[]
namespace Zbd
def l12(n:Nat):Nat->(List Int)->Int->(List Int)->Int->Int->Option ((List Int)×Int×Int×Unit)
 |0,_,_,_,_,_=>none
 |m+1,a,b,c,d,e=>
  if(decide (e<d)) then
  (if 0<=e/\e<(c.length:Int) then
  (if 0<=(c.getD (e).toNat (0:Int))/\(c.getD (e).toNat (0:Int))<(a.length:Int) then
  (if(decide ((65535:Int)<(a.getD ((c.getD (e).toNat (0:Int))).toNat (0:Int)))) then(some ([],(0:Int),(8:Int),()))
  else
  (if 0<=(c.getD (e).toNat (0:Int))/\(c.getD (e).toNat (0:Int))<(a.length:Int) then
  (if 0<=(c.getD (e).toNat (0:Int))/\(c.getD (e).toNat (0:Int))<(a.length:Int) then
  ((Zbd.l12 n m) (a.set ((c.getD (e).toNat (0:Int))).toNat (aY .or .u32 (IntKind.u32.wrap ((a.getD ((c.getD (e).toNat (0:Int))).toNat (0:Int))*2 ^ (min (16:Int).toNat IntKind.u32.bits))) (IntKind.u32.wrap b))) (IntKind.i64.wrap ((c.getD (e).toNat (0:Int))+(1:Int))) c d (IntKind.i64.wrap (e+(1:Int)))) else none) else none)) else none) else none)
  else(some (a,b,(0:Int),()))
def l3(n:Nat):Nat->(List Int)->(List Int)->Int->(List Int)->Int->Int->Option ((List Int)×Int×Int×Unit)
 |0,_,_,_,_,_,_=>none
 |m+1,a,b,c,d,e,i=>
  if(decide (i<e)) then
  (if 0<=i/\i<(d.length:Int) then
  (if(decide ((d.getD (i).toNat (0:Int))<=c))=false then
  (if(decide ((a.length:Int)<=(d.getD (i).toNat (0:Int))))=false then
  (if(decide ((65534:Int)<(d.getD (i).toNat (0:Int)))) then(some ([],(0:Int),(7:Int),()))
  else
  ((Zbd.l3 n m) a b (d.getD (i).toNat (0:Int)) d e (IntKind.i64.wrap (i+(1:Int)))))
  else(some ([],(0:Int),(7:Int),())))
  else(some ([],(0:Int),(7:Int),()))) else none)
  else
  ((L.cloneO a).bind fun y1=>
  Zbd.l12 n n y1.1 (0:Int) b (b.length:Int) (0:Int))
def f(n:Nat)(a:List Int)(b:List Int):Option ((List Int)×Int×Int×Unit):=
  Zbd.l3 n n a b (-1:Int) b (b.length:Int) (0:Int)
def g(a:List Int)(b:List Int):Option ((List Int)×Int×Int×Unit):=f (1000+a.length+b.length) a b
end Zbd
namespace Zca
def f(n:Nat)(a:Int)(b:List Int)(c:List Int)(d:List (Str×Int×Unit))(e:Int):Option (Bool×(List Int)×(List Int)×(List (Str×Int×Unit))×Int×Unit):=
  if 0<=a/\a<(b.length:Int) then
  (some ((decide (e<(IntKind.i64.wrap (b.getD (a).toNat (0:Int))))),b,c,d,e,())) else none
def g(a:Int)(b:List Int)(c:List Int)(d:List (Str×Int×Unit))(e:Int):Option (Bool×(List Int)×(List Int)×(List (Str×Int×Unit))×Int×Unit):=f (1000+a.toNat+b.length+c.length+d.length+e.toNat) a b c d e
end Zca
namespace Zbn
def l2(n:Nat):Nat->(List Int)->Int->Int->(List Int)->(List Int)->(List (Str×Int×Unit))->Int->Option (Int×(List Int)×(List Int)×(List (Str×Int×Unit))×Int×Unit)
 |0,_,_,_,_,_,_,_=>none
 |m+1,a,b,c,d,e,i,j=>
  if(decide (c<b)) then
  (if 0<=c/\c<(a.length:Int) then
  ((Zca.g (a.getD (c).toNat (0:Int)) d e i j).bind fun y1=>
  if y1.1 then(some (c,y1.2.1,y1.2.2.1,y1.2.2.2.1,y1.2.2.2.2.1,()))
  else
  ((Zbn.l2 n m) a b (IntKind.i64.wrap (c+(1:Int))) y1.2.1 y1.2.2.1 y1.2.2.2.1 y1.2.2.2.2.1)) else none)
  else(some ((-1:Int),d,e,i,j,()))
def f(n:Nat)(a:List Int)(b:List Int)(c:List Int)(d:List (Str×Int×Unit))(e:Int):Option (Int×(List Int)×(List Int)×(List (Str×Int×Unit))×Int×Unit):=
  Zbn.l2 n n a (a.length:Int) (0:Int) b c d e
def g(a:List Int)(b:List Int)(c:List Int)(d:List (Str×Int×Unit))(e:Int):Option (Int×(List Int)×(List Int)×(List (Str×Int×Unit))×Int×Unit):=f (1000+a.length+b.length+c.length+d.length+e.toNat) a b c d e
end Zbn
namespace Zcb
def f(n:Nat)(a:List Int)(b:List Int)(c:List Int)(d:List (Str×Int×Unit))(e:Int):Option (Bool×(List Int)×(List Int)×(List (Str×Int×Unit))×Int×Unit):=
  (Zbn.g a b c d e).bind fun y1=>
  some ((decide ((0:Int)<=y1.1)),y1.2.1,y1.2.2.1,y1.2.2.2.1,y1.2.2.2.2.1,())
def g(a:List Int)(b:List Int)(c:List Int)(d:List (Str×Int×Unit))(e:Int):Option (Bool×(List Int)×(List Int)×(List (Str×Int×Unit))×Int×Unit):=f (1000+a.length+b.length+c.length+d.length+e.toNat) a b c d e
end Zcb
namespace Zav
def j4(n:Nat)(a:Int)(b:Bool):Option (Bool×Unit):=
  if(!b) then
  (if(decide (a=(95:Int)))=false then
  (if(decide ((48:Int)<=a)) then(some ((decide (a<=(57:Int))),()))
  else(some (false,())))
  else(some (true,())))
  else(some (false,()))
def f(n:Nat)(a:Int)(b:Bool):Option (Bool×Unit):=
  if(decide ((65:Int)<=a)) then
  (if(decide (a<=(90:Int))) then
  (if(decide (a<=(90:Int))) then(some (true,()))
  else(Zav.j4 n a b))
  else
  (if(decide ((97:Int)<=a)) then
  (if(decide (a<=(122:Int))) then(some (true,()))
  else(Zav.j4 n a b))
  else(Zav.j4 n a b)))
  else
  (if(decide ((97:Int)<=a)) then
  (if(decide (a<=(122:Int))) then(some (true,()))
  else(Zav.j4 n a b))
  else(Zav.j4 n a b))
def g(a:Int)(b:Bool):Option (Bool×Unit):=f (1000+a.toNat) a b
end Zav
namespace Zaw
def l4(n:Nat):Nat->Str->Int->Int->Option (Bool×Unit)
 |0,_,_,_=>none
 |m+1,a,b,c=>
  if(decide (c<b)) then
  (if 0<=c/\c<(a.length:Int) then
  ((Zav.g (bt a c) (decide (c=(0:Int)))).bind fun y1=>
  if(!y1.1) then(some (false,()))
  else((Zaw.l4 n m) a b (IntKind.i64.wrap (c+(1:Int))))) else none)
  else
  (if 0<=(0:Int)/\(0:Int)<(a.length:Int) then
  (if(decide ((bt a (0:Int))=(82:Int))) then
  (if(decide ((a.length:Int)=(2:Int)))=false then
  (if(decide ((a.length:Int)=(3:Int))) then
  (if 0<=(1:Int)/\(1:Int)<=(a.length:Int) then
  ((L.trimO ((a.take (((a.length:Int)).toNat)).drop (((1:Int)).toNat)) ([48,49,50,51,52,53,54,55,56,57]:Str)).bind fun y2=>
  some ((!(decide (y2.1=([]:Str)))),())) else none)
  else(some (true,())))
  else
  (if 0<=(1:Int)/\(1:Int)<=(a.length:Int) then
  ((L.trimO ((a.take (((a.length:Int)).toNat)).drop (((1:Int)).toNat)) ([48,49,50,51,52,53,54,55,56,57]:Str)).bind fun y3=>
  some ((!(decide (y3.1=([]:Str)))),())) else none))
  else(some (true,()))) else none)
def f(n:Nat)(a:Str):Option (Bool×Unit):=
  if(decide ((a.length:Int)=(0:Int)))=false then
  (if(decide ((12:Int)<(a.length:Int))) then(some (false,()))
  else(Zaw.l4 n n a (a.length:Int) (0:Int)))
  else(some (false,()))
def g(a:Str):Option (Bool×Unit):=f (1000+a.length) a
end Zaw
namespace Zax
def j6(n:Nat)(rl2:(List (Str×Int×Unit))->Int->Int->(List Int)->(List Int)->(List (Str×Int×Unit))->Option (Bool×(List Int)×(List Int)×(List (Str×Int×Unit))×Unit))(a:List (Str×Int×Unit))(b:Int)(c:Int)(d:List Int)(e:List Int)(i:List (Str×Int×Unit)):Option (Bool×(List Int)×(List Int)×(List (Str×Int×Unit))×Unit):=
  rl2 a b (IntKind.i64.wrap (c+(1:Int))) d e i
def l2(n:Nat):Nat->(List (Str×Int×Unit))->Int->Int->(List Int)->(List Int)->(List (Str×Int×Unit))->Option (Bool×(List Int)×(List Int)×(List (Str×Int×Unit))×Unit)
 |0,_,_,_,_,_,_=>none
 |m+1,a,b,c,d,e,i=>
  if(decide (c<b)) then
  (if 0<=c/\c<(a.length:Int) then
  ((Zaw.g ((a.getD (c).toNat (([]:Str),((0:Int),()))).1)).bind fun y1=>
  if(!y1.1)=false then
  (if(decide ((0:Int)<c)) then
  (if 0<=(IntKind.i64.wrap (c-(1:Int)))/\(IntKind.i64.wrap (c-(1:Int)))<(i.length:Int) then
  (if((Op.bytesLess ((a.getD (c).toNat (([]:Str),((0:Int),()))).1) ((i.getD ((IntKind.i64.wrap (c-(1:Int)))).toNat (([]:Str),((0:Int),()))).1))||(decide ((a.getD (c).toNat (([]:Str),((0:Int),()))).1=(i.getD ((IntKind.i64.wrap (c-(1:Int)))).toNat (([]:Str),((0:Int),()))).1))) then(some (false,d,e,i,()))
  else(Zax.j6 n (Zax.l2 n m) a b c d e i)) else none)
  else(Zax.j6 n (Zax.l2 n m) a b c d e i))
  else(some (false,d,e,i,()))) else none)
  else(some (true,d,e,i,()))
def f(n:Nat)(a:List Int)(b:List Int)(c:List (Str×Int×Unit)):Option (Bool×(List Int)×(List Int)×(List (Str×Int×Unit))×Unit):=
  Zax.l2 n n c (c.length:Int) (0:Int) a b c
def g(a:List Int)(b:List Int)(c:List (Str×Int×Unit)):Option (Bool×(List Int)×(List Int)×(List (Str×Int×Unit))×Unit):=f (1000+a.length+b.length+c.length) a b c
end Zax
namespace Zcc
def f(n:Nat)(a:Str)(b:Int)(c:Int):Option (Bool×Int×Unit):=
  if(decide (b<(0:Int)))=false then
  (if(decide (c<b))=false then(some ((decide ((Int.tmod b (4:Int))≠(0:Int))),c,()))
  else(some (true,c,())))
  else(some (true,c,()))
def g(a:Str)(b:Int)(c:Int):Option (Bool×Int×Unit):=f (1000+a.length+b.toNat+c.toNat) a b c
end Zcc
namespace Zbo
def l2(n:Nat):Nat->(List (Str×Int×Unit))->Int->Int->Int->Option (Int×Int×Unit)
 |0,_,_,_,_=>none
 |m+1,a,b,c,d=>
  if(decide (c<b)) then
  (if 0<=c/\c<(a.length:Int) then
  ((Zcc.g ((a.getD (c).toNat (([]:Str),((0:Int),()))).1) (((a.getD (c).toNat (([]:Str),((0:Int),()))).2).1) d).bind fun y1=>
  if y1.1 then(some (c,y1.2.1,()))
  else
  ((Zbo.l2 n m) a b (IntKind.i64.wrap (c+(1:Int))) y1.2.1)) else none)
  else(some ((-1:Int),d,()))
def f(n:Nat)(a:List (Str×Int×Unit))(b:Int):Option (Int×Int×Unit):=
  Zbo.l2 n n a (a.length:Int) (0:Int) b
def g(a:List (Str×Int×Unit))(b:Int):Option (Int×Int×Unit):=f (1000+a.length+b.toNat) a b
end Zbo
namespace Zcd
def f(n:Nat)(a:List (Str×Int×Unit))(b:Int):Option (Bool×Int×Unit):=
  (Zbo.g a b).bind fun y1=>
  some ((decide ((0:Int)<=y1.1)),y1.2.1,())
def g(a:List (Str×Int×Unit))(b:Int):Option (Bool×Int×Unit):=f (1000+a.length+b.toNat) a b
end Zcd
namespace Zbe
def f(n:Nat)(a:List Int)(b:List Int)(c:List (Str×Int×Unit)):Option (Int×Unit):=
  if(decide ((1024:Int)<(a.length:Int)))=false then
  (if(decide ((64:Int)<(c.length:Int))) then(some ((2:Int),()))
  else
  ((Zbd.g a b).bind fun y1=>
  if(decide (y1.2.2.1=(7:Int))) then(some (y1.2.2.1,()))
  else
  ((Zcb.g b a b c (IntKind.i64.wrap ((4:Int)*(a.length:Int)))).bind fun y2=>
  if y2.1 then(some ((8:Int),()))
  else
  ((Zax.g y2.2.1 y2.2.2.1 y2.2.2.2.1).bind fun y3=>
  if(!y3.1) then(some ((9:Int),()))
  else
  ((Zcd.g y3.2.2.2.1 y2.2.2.2.2.1).bind fun y4=>
  if y4.1 then(some ((8:Int),()))
  else(some ((0:Int),())))))))
  else(some ((2:Int),()))
def g(a:List Int)(b:List Int)(c:List (Str×Int×Unit)):Option (Int×Unit):=f (1000+a.length+b.length+c.length) a b c
end Zbe
namespace Zaq
def l2(n:Nat):Nat->(List Int)->Int->Int->Int->Option (Int×Unit)
 |0,_,_,_,_=>none
 |m+1,a,b,c,d=>
  if(decide (d<c)) then
  (if 0<=d/\d<(a.length:Int) then
  (if(decide (b=(a.getD (d).toNat (0:Int)))) then(some (d,()))
  else
  ((Zaq.l2 n m) a b c (IntKind.i64.wrap (d+(1:Int))))) else none)
  else(some ((-1:Int),()))
def f(n:Nat)(a:List Int)(b:Int):Option (Int×Unit):=
  Zaq.l2 n n a b (a.length:Int) (0:Int)
def g(a:List Int)(b:Int):Option (Int×Unit):=f (1000+a.length+b.toNat) a b
end Zaq
namespace Zay
def f(n:Nat)(a:List Int)(b:Int):Option (Bool×Unit):=
  (Zaq.g a b).bind fun y1=>
  some ((decide ((0:Int)<=y1.1)),())
def g(a:List Int)(b:Int):Option (Bool×Unit):=f (1000+a.length+b.toNat) a b
end Zay
namespace Zbu
def f(n:Nat)(a:Int):Option (Bool×Unit):=
  some ((decide (a≠a)),())
def g(a:Int):Option (Bool×Unit):=f (1000+a.toNat) a
end Zbu
namespace Zce
def f(n:Nat)(a:Int)(b:Int):Option (Bool×Unit):=
  (Zbu.g a).bind fun y1=>
  if y1.1 then
  ((Zbu.g b).bind fun y2=>
  if(!y2.1)=false then(some ((decide (a<b)),()))
  else(some (true,())))
  else(some ((decide (a<b)),()))
def g(a:Int)(b:Int):Option (Bool×Unit):=f (1000+a.toNat+b.toNat) a b
end Zce
namespace Zbv
def f(n:Nat)(a:Int):Option (Bool×Unit):=
  some ((decide (a≠a)),())
def g(a:Int):Option (Bool×Unit):=f (1000+a.toNat) a
end Zbv
namespace Zbf
def l3(n:Nat):Nat->(List Int)->Int->Int->Int->Int->Option (Int×Bool×Unit)
 |0,_,_,_,_,_=>none
 |m+1,a,b,c,d,e=>
  if(decide (d<e)) then
  (if 0<=(IntKind.i64.wrap (((IntKind.u64.wrap (IntKind.i64.wrap (d+e)))).fdiv (2 ^ (min (1:Int).toNat IntKind.u64.bits))))/\(IntKind.i64.wrap (((IntKind.u64.wrap (IntKind.i64.wrap (d+e)))).fdiv (2 ^ (min (1:Int).toNat IntKind.u64.bits))))<(a.length:Int) then
  ((Zce.g (a.getD ((IntKind.i64.wrap (((IntKind.u64.wrap (IntKind.i64.wrap (d+e)))).fdiv (2 ^ (min (1:Int).toNat IntKind.u64.bits))))).toNat (0:Int)) b).bind fun y1=>
  if y1.1 then
  ((Zbf.l3 n m) a b c (IntKind.i64.wrap ((IntKind.i64.wrap (((IntKind.u64.wrap (IntKind.i64.wrap (d+e)))).fdiv (2 ^ (min (1:Int).toNat IntKind.u64.bits))))+(1:Int))) e)
  else
  ((Zbf.l3 n m) a b c d (IntKind.i64.wrap (((IntKind.u64.wrap (IntKind.i64.wrap (d+e)))).fdiv (2 ^ (min (1:Int).toNat IntKind.u64.bits)))))) else none)
  else
  (if(decide (d<c)) then
  (if 0<=d/\d<(a.length:Int) then
  (if(decide ((a.getD (d).toNat (0:Int))=b))=false then
  (if 0<=d/\d<(a.length:Int) then
  ((Zbv.g (a.getD (d).toNat (0:Int))).bind fun y2=>
  if y2.1 then
  ((Zbv.g b).bind fun y3=>
  some (d,y3.1,()))
  else(some (d,false,()))) else none)
  else(some (d,true,()))) else none)
  else(some (d,false,())))
def f(n:Nat)(a:List Int)(b:Int):Option (Int×Bool×Unit):=
  Zbf.l3 n n a b (a.length:Int) (0:Int) (a.length:Int)
def g(a:List Int)(b:Int):Option (Int×Bool×Unit):=f (1000+a.length+b.toNat) a b
end Zbf
namespace Zac
def j9(n:Nat)(rl4:Str->Int->Int->Option (Bool×Unit))(a:Str)(b:Int)(c:Int):Option (Bool×Unit):=
  rl4 a b (IntKind.i64.wrap (c+(1:Int)))
def l4(n:Nat):Nat->Str->Int->Int->Option (Bool×Unit)
 |0,_,_,_=>none
 |m+1,a,b,c=>
  if(decide (c<b)) then
  (if 0<=c/\c<(a.length:Int) then
  (if(decide ((aY .or .u8 (bt a c) (32:Int))<(97:Int)))=false then
  (if(decide ((122:Int)<(aY .or .u8 (bt a c) (32:Int))))=false then
  (if 0<=c/\c<(a.length:Int) then
  (if(decide ((bt a c)<(65:Int))) then
  (if 0<=c/\c<(a.length:Int) then
  (if(decide ((bt a c)≠(95:Int))) then
  (if 0<=c/\c<(a.length:Int) then
  (if(decide ((bt a c)<(48:Int)))=false then
  (if 0<=c/\c<(a.length:Int) then
  (if(decide ((57:Int)<(bt a c))) then(some (false,()))
  else(Zac.j9 n (Zac.l4 n m) a b c)) else none)
  else(some (false,()))) else none)
  else(Zac.j9 n (Zac.l4 n m) a b c)) else none)
  else(Zac.j9 n (Zac.l4 n m) a b c)) else none)
  else
  (if 0<=c/\c<(a.length:Int) then
  (if(decide ((bt a c)≠(95:Int))) then
  (if 0<=c/\c<(a.length:Int) then
  (if(decide ((bt a c)<(48:Int)))=false then
  (if 0<=c/\c<(a.length:Int) then
  (if(decide ((57:Int)<(bt a c))) then(some (false,()))
  else(Zac.j9 n (Zac.l4 n m) a b c)) else none)
  else(some (false,()))) else none)
  else(Zac.j9 n (Zac.l4 n m) a b c)) else none))
  else
  (if 0<=c/\c<(a.length:Int) then
  (if(decide ((bt a c)≠(95:Int))) then
  (if 0<=c/\c<(a.length:Int) then
  (if(decide ((bt a c)<(48:Int)))=false then
  (if 0<=c/\c<(a.length:Int) then
  (if(decide ((57:Int)<(bt a c))) then(some (false,()))
  else(Zac.j9 n (Zac.l4 n m) a b c)) else none)
  else(some (false,()))) else none)
  else(Zac.j9 n (Zac.l4 n m) a b c)) else none)) else none)
  else
  (if 0<=(0:Int)/\(0:Int)<(a.length:Int) then
  (if(decide ((bt a (0:Int))=(82:Int))) then
  (if(decide ((a.length:Int)=(2:Int)))=false then
  (if(decide ((a.length:Int)=(3:Int))) then
  (if 0<=(1:Int)/\(1:Int)<=(a.length:Int) then
  ((L.trimO ((a.take (((a.length:Int)).toNat)).drop (((1:Int)).toNat)) ([48,49,50,51,52,53,54,55,56,57]:Str)).bind fun y1=>
  some ((!(decide (y1.1=([]:Str)))),())) else none)
  else(some (true,())))
  else
  (if 0<=(1:Int)/\(1:Int)<=(a.length:Int) then
  ((L.trimO ((a.take (((a.length:Int)).toNat)).drop (((1:Int)).toNat)) ([48,49,50,51,52,53,54,55,56,57]:Str)).bind fun y2=>
  some ((!(decide (y2.1=([]:Str)))),())) else none))
  else(some (true,()))) else none)
def j3(n:Nat)(a:Str):Option (Bool×Unit):=
  Zac.l4 n n a (a.length:Int) (0:Int)
def f(n:Nat)(a:Str):Option (Bool×Unit):=
  if(decide (a=([]:Str)))=false then
  (if(decide ((12:Int)<(a.length:Int)))=false then
  (if 0<=(0:Int)/\(0:Int)<(a.length:Int) then
  (if(decide ((48:Int)<=(bt a (0:Int)))) then
  (if 0<=(0:Int)/\(0:Int)<(a.length:Int) then
  (if(decide ((bt a (0:Int))<=(57:Int))) then(some (false,()))
  else(Zac.j3 n a)) else none)
  else(Zac.j3 n a)) else none)
  else(some (false,())))
  else(some (false,()))
def g(a:Str):Option (Bool×Unit):=f (1000+a.length) a
end Zac
namespace Zbg
def j2(n:Nat)(a:Bool)(b:Int)(c:Int)(d:Str):Option (Int×Bool×Unit):=
  if(decide (b=(1:Int))) then(some ((0:Int),(decide (d=([]:Str))),()))
  else
  (if(decide (b=(2:Int))) then
  (if(decide (c=(0:Int))) then
  ((Zac.g d).bind fun y1=>
  some ((0:Int),y1.1,()))
  else(some ((0:Int),false,())))
  else
  (if(decide (b=(3:Int))) then(some ((1:Int),a,()))
  else
  (if(decide (b=(4:Int))) then
  (if(decide (b=(4:Int))) then(some ((2:Int),a,()))
  else(some ((0:Int),false,())))
  else
  (if(decide (b=(5:Int))) then
  (if(decide (b=(5:Int))) then(some ((2:Int),a,()))
  else(some ((0:Int),false,())))
  else
  (if(decide (b=(6:Int))) then(some ((2:Int),a,()))
  else(some ((0:Int),false,())))))))
def f(n:Nat)(a:Int)(b:Int)(c:Str):Option (Int×Bool×Unit):=
  if(decide (b=(0:Int))) then(Zbg.j2 n (decide (c=([]:Str))) a b c)
  else(Zbg.j2 n false a b c)
def g(a:Int)(b:Int)(c:Str):Option (Int×Bool×Unit):=f (1000+a.toNat+b.toNat+c.length) a b c
end Zbg
namespace Zbh
def l3(n:Nat):Nat->(List It)->Int->(List It)->Int->Int->Option (Bool×Unit)
 |0,_,_,_,_,_=>none
 |m+1,a,b,c,d,e=>
  if(decide (e<d)) then
  (if 0<=e/\e<(c.length:Int) then
  ((Zbg.g ((c.getD (e).toNat zI).1) (((c.getD (e).toNat zI).2).1) ((((c.getD (e).toNat zI).2).2).1)).bind fun y1=>
  if(!y1.2.1)=false then
  (if(decide (b<y1.1)) then(some (false,()))
  else
  ((Zbh.l3 n m) a (IntKind.i64.wrap (b+(IntKind.i64.wrap ((1:Int)-y1.1)))) c d (IntKind.i64.wrap (e+(1:Int)))))
  else(some (false,()))) else none)
  else
  (if(decide (b=(1:Int))) then(some ((decide ((a.length:Int)<=(64:Int))),()))
  else(some (false,())))
def f(n:Nat)(a:List It):Option (Bool×Unit):=
  Zbh.l3 n n a (0:Int) a (a.length:Int) (0:Int)
def g(a:List It):Option (Bool×Unit):=f (1000+a.length) a
end Zbh
namespace Zaz
def f(n:Nat)(a:Int):Option (Str×Unit):=
  if(decide (a<(0:Int)))=false then
  (if(decide ((16:Int)<=a)) then(some (([]:Str),()))
  else
  ((L.itoaO a).bind fun y1=>
  if([82]:Str).length+y1.1.length<=9223372036854775807 then(some ((([82]:Str)++y1.1),())) else none))
  else(some (([]:Str),()))
def g(a:Int):Option (Str×Unit):=f (1000+a.toNat) a
end Zaz
namespace Zcf
def f(n:Nat)(a:Int)(b:Int):Option (Str×Unit):=
  (L.formatUintO a b).bind fun y1=>
  some (y1.1,())
def g(a:Int)(b:Int):Option (Str×Unit):=f (1000+a.toNat+b.toNat) a b
end Zcf
namespace Zar
def f(n:Nat)(a:Str)(b:Int)(c:Int):Option (Str×Unit):=
  if(decide (b<c)) then
  (if([40]:Str).length+a.length<=9223372036854775807 then
  (if(([40]:Str)++a).length+([41]:Str).length<=9223372036854775807 then(some (((([40]:Str)++a)++([41]:Str)),())) else none) else none)
  else(some (a,()))
def g(a:Str)(b:Int)(c:Int):Option (Str×Unit):=f (1000+a.length+b.toNat+c.toNat) a b c
end Zar
namespace Zae
def j23(n:Nat)(rl5:(List (Str×Int×Unit))->(List It)->Int->Int->Option (Str×Int×Unit))(a:List (Str×Int×Unit))(b:Int)(c:List It)(d:Int)(e:Int)(i:Str)(j:Int):Option (Str×Int×Unit):=
  if 0<=(IntKind.i64.wrap ((a.length:Int)-b))/\(IntKind.i64.wrap ((a.length:Int)-b))<=(a.length:Int) then
  (if((a.take ((IntKind.i64.wrap ((a.length:Int)-b))).toNat).length+([(i,j,())]:List (Str×Int×Unit)).length)*24<=140737488355328/\0<24/\0<2 then
  (rl5 ((a.take ((IntKind.i64.wrap ((a.length:Int)-b))).toNat)++([(i,j,())]:List (Str×Int×Unit))) c d (IntKind.i64.wrap (e+(1:Int)))) else none) else none
def l5(n:Nat):Nat->(List (Str×Int×Unit))->(List It)->Int->Int->Option (Str×Int×Unit)
 |0,_,_,_,_=>none
 |m+1,a,b,c,d=>
  if(decide (d<c)) then
  (if 0<=d/\d<(b.length:Int) then
  ((Zbg.g ((b.getD (d).toNat zI).1) (((b.getD (d).toNat zI).2).1) ((((b.getD (d).toNat zI).2).2).1)).bind fun y1=>
  if 0<=(IntKind.i64.wrap ((a.length:Int)-y1.1))/\(IntKind.i64.wrap ((a.length:Int)-y1.1))<=(a.length:Int) then
  (if(decide ((b.getD (d).toNat zI).1=(1:Int))) then
  ((Zcf.g (IntKind.u64.wrap ((b.getD (d).toNat zI).2).1) (10:Int)).bind fun y2=>
  Zae.j23 n (Zae.l5 n m) a y1.1 b c d y2.1 (2:Int))
  else
  (if(decide ((b.getD (d).toNat zI).1=(2:Int))) then
  (Zae.j23 n (Zae.l5 n m) a y1.1 b c d ((((b.getD (d).toNat zI).2).2).1) (2:Int))
  else
  (if(decide ((b.getD (d).toNat zI).1=(3:Int))) then
  (if 0<=(0:Int)/\(0:Int)<(((a.take (((a.length:Int)).toNat)).drop (((IntKind.i64.wrap ((a.length:Int)-y1.1))).toNat)).length:Int) then
  ((Zar.g ((((a.take (((a.length:Int)).toNat)).drop (((IntKind.i64.wrap ((a.length:Int)-y1.1))).toNat)).getD ((0:Int)).toNat (([]:Str),((0:Int),()))).1) (((((a.take (((a.length:Int)).toNat)).drop (((IntKind.i64.wrap ((a.length:Int)-y1.1))).toNat)).getD ((0:Int)).toNat (([]:Str),((0:Int),()))).2).1) (2:Int)).bind fun y3=>
  if([45]:Str).length+y3.1.length<=9223372036854775807 then
  (Zae.j23 n (Zae.l5 n m) a y1.1 b c d (([45]:Str)++y3.1) (2:Int)) else none) else none)
  else
  (if(decide ((b.getD (d).toNat zI).1=(4:Int))) then
  (if 0<=(0:Int)/\(0:Int)<(((a.take (((a.length:Int)).toNat)).drop (((IntKind.i64.wrap ((a.length:Int)-y1.1))).toNat)).length:Int) then
  ((Zar.g ((((a.take (((a.length:Int)).toNat)).drop (((IntKind.i64.wrap ((a.length:Int)-y1.1))).toNat)).getD ((0:Int)).toNat (([]:Str),((0:Int),()))).1) (((((a.take (((a.length:Int)).toNat)).drop (((IntKind.i64.wrap ((a.length:Int)-y1.1))).toNat)).getD ((0:Int)).toNat (([]:Str),((0:Int),()))).2).1) (0:Int)).bind fun y4=>
  if y4.1.length+([32,43,32]:Str).length<=9223372036854775807 then
  (if 0<=(1:Int)/\(1:Int)<(((a.take (((a.length:Int)).toNat)).drop (((IntKind.i64.wrap ((a.length:Int)-y1.1))).toNat)).length:Int) then
  ((Zar.g ((((a.take (((a.length:Int)).toNat)).drop (((IntKind.i64.wrap ((a.length:Int)-y1.1))).toNat)).getD ((1:Int)).toNat (([]:Str),((0:Int),()))).1) (((((a.take (((a.length:Int)).toNat)).drop (((IntKind.i64.wrap ((a.length:Int)-y1.1))).toNat)).getD ((1:Int)).toNat (([]:Str),((0:Int),()))).2).1) (1:Int)).bind fun y5=>
  if(y4.1++([32,43,32]:Str)).length+y5.1.length<=9223372036854775807 then
  (Zae.j23 n (Zae.l5 n m) a y1.1 b c d ((y4.1++([32,43,32]:Str))++y5.1) (0:Int)) else none) else none) else none) else none)
  else
  (if(decide ((b.getD (d).toNat zI).1=(5:Int))) then
  (if 0<=(0:Int)/\(0:Int)<(((a.take (((a.length:Int)).toNat)).drop (((IntKind.i64.wrap ((a.length:Int)-y1.1))).toNat)).length:Int) then
  ((Zar.g ((((a.take (((a.length:Int)).toNat)).drop (((IntKind.i64.wrap ((a.length:Int)-y1.1))).toNat)).getD ((0:Int)).toNat (([]:Str),((0:Int),()))).1) (((((a.take (((a.length:Int)).toNat)).drop (((IntKind.i64.wrap ((a.length:Int)-y1.1))).toNat)).getD ((0:Int)).toNat (([]:Str),((0:Int),()))).2).1) (0:Int)).bind fun y6=>
  if y6.1.length+([32,45,32]:Str).length<=9223372036854775807 then
  (if 0<=(1:Int)/\(1:Int)<(((a.take (((a.length:Int)).toNat)).drop (((IntKind.i64.wrap ((a.length:Int)-y1.1))).toNat)).length:Int) then
  ((Zar.g ((((a.take (((a.length:Int)).toNat)).drop (((IntKind.i64.wrap ((a.length:Int)-y1.1))).toNat)).getD ((1:Int)).toNat (([]:Str),((0:Int),()))).1) (((((a.take (((a.length:Int)).toNat)).drop (((IntKind.i64.wrap ((a.length:Int)-y1.1))).toNat)).getD ((1:Int)).toNat (([]:Str),((0:Int),()))).2).1) (1:Int)).bind fun y7=>
  if(y6.1++([32,45,32]:Str)).length+y7.1.length<=9223372036854775807 then
  (Zae.j23 n (Zae.l5 n m) a y1.1 b c d ((y6.1++([32,45,32]:Str))++y7.1) (0:Int)) else none) else none) else none) else none)
  else
  (if(decide ((b.getD (d).toNat zI).1=(6:Int))) then
  (if 0<=(0:Int)/\(0:Int)<(((a.take (((a.length:Int)).toNat)).drop (((IntKind.i64.wrap ((a.length:Int)-y1.1))).toNat)).length:Int) then
  ((Zar.g ((((a.take (((a.length:Int)).toNat)).drop (((IntKind.i64.wrap ((a.length:Int)-y1.1))).toNat)).getD ((0:Int)).toNat (([]:Str),((0:Int),()))).1) (((((a.take (((a.length:Int)).toNat)).drop (((IntKind.i64.wrap ((a.length:Int)-y1.1))).toNat)).getD ((0:Int)).toNat (([]:Str),((0:Int),()))).2).1) (1:Int)).bind fun y8=>
  if y8.1.length+([32,42,32]:Str).length<=9223372036854775807 then
  (if 0<=(1:Int)/\(1:Int)<(((a.take (((a.length:Int)).toNat)).drop (((IntKind.i64.wrap ((a.length:Int)-y1.1))).toNat)).length:Int) then
  ((Zar.g ((((a.take (((a.length:Int)).toNat)).drop (((IntKind.i64.wrap ((a.length:Int)-y1.1))).toNat)).getD ((1:Int)).toNat (([]:Str),((0:Int),()))).1) (((((a.take (((a.length:Int)).toNat)).drop (((IntKind.i64.wrap ((a.length:Int)-y1.1))).toNat)).getD ((1:Int)).toNat (([]:Str),((0:Int),()))).2).1) (2:Int)).bind fun y9=>
  if(y8.1++([32,42,32]:Str)).length+y9.1.length<=9223372036854775807 then
  (Zae.j23 n (Zae.l5 n m) a y1.1 b c d ((y8.1++([32,42,32]:Str))++y9.1) (1:Int)) else none) else none) else none) else none)
  else
  (Zae.j23 n (Zae.l5 n m) a y1.1 b c d ([]:Str) 0))))))) else none) else none)
  else
  (if 0<=(0:Int)/\(0:Int)<(a.length:Int) then
  (some ((a.getD ((0:Int)).toNat (([]:Str),((0:Int),()))).1,(0:Int),())) else none)
def f(n:Nat)(a:List It):Option (Str×Int×Unit):=
  (Zbh.g a).bind fun y1=>
  if(!y1.1) then(some (([]:Str),(23:Int),()))
  else(Zae.l5 n n ([]) a (a.length:Int) (0:Int))
def g(a:List It):Option (Str×Int×Unit):=f (1000+a.length) a
end Zae
namespace Zan
def l4(n:Nat):Nat->Str->Str->Str->Int->Option (Str×Unit)
 |0,_,_,_,_=>none
 |m+1,a,b,c,d=>
  if(decide (d<(a.length:Int))) then
  (if(decide (d<(6:Int))) then
  (if 0<=d/\d<(a.length:Int) then
  (if 0<=d/\d<(a.length:Int) then
  (if 0<=(IntKind.i64.wrap ((Int.tmod (IntKind.i64.wrap (bt a d)) (12:Int))+(1:Int)))/\(IntKind.i64.wrap ((Int.tmod (IntKind.i64.wrap (bt a d)) (12:Int))+(1:Int)))<=(b.length:Int) then
  (if 0<=(Int.tmod (IntKind.i64.wrap (bt a d)) (12:Int))/\(Int.tmod (IntKind.i64.wrap (bt a d)) (12:Int))<=(IntKind.i64.wrap ((Int.tmod (IntKind.i64.wrap (bt a d)) (12:Int))+(1:Int))) then
  (if c.length+((b.take (((IntKind.i64.wrap ((Int.tmod (IntKind.i64.wrap (bt a d)) (12:Int))+(1:Int)))).toNat)).drop (((Int.tmod (IntKind.i64.wrap (bt a d)) (12:Int))).toNat)).length<=9223372036854775807 then
  ((Zan.l4 n m) a b (c++((b.take (((IntKind.i64.wrap ((Int.tmod (IntKind.i64.wrap (bt a d)) (12:Int))+(1:Int)))).toNat)).drop (((Int.tmod (IntKind.i64.wrap (bt a d)) (12:Int))).toNat))) (IntKind.i64.wrap (d+(1:Int)))) else none) else none) else none) else none) else none)
  else(some (c,())))
  else(some (c,()))
def f(n:Nat)(a:Str):Option (Str×Unit):=
  Zan.l4 n n a ([97,98,99,88,89,90,95,48,49,57,82,109]:Str) (bytesOf ([(IntKind.u8.wrap ((97:Int)+(IntKind.u8.wrap (Int.tmod (a.length:Int) (26:Int)))))]:List Int)) (0:Int)
def g(a:Str):Option (Str×Unit):=f (1000+a.length) a
end Zan
end Rv
namespace Rv
open Go
set_option maxRecDepth 100000
namespace Zbj
def f(n:Nat)(a:Int)(b:Int)(c:Int)(d:Int):Option (Int×Int×Unit):=
  if a<0 then none else
  (if b<0 then none else
  (some ((aY .or .u32 c (IntKind.u32.wrap ((aY .and .u32 ((d).fdiv (2 ^ (min a.toNat IntKind.u32.bits))) (1:Int))*2 ^ (min b.toNat IntKind.u32.bits)))),d,())))
def g(a:Int)(b:Int)(c:Int)(d:Int):Option (Int×Int×Unit):=f (1000+a.toNat+b.toNat+c.toNat+d.toNat) a b c d
end Zbj
namespace Zas
def l2(n:Nat):Nat->Int->Int->Int->Int->Int->Option (Int×Int×Unit)
 |0,_,_,_,_,_=>none
 |m+1,a,b,c,d,e=>
  if(decide (c<(32:Int))) then
  (if(decide ((IntKind.i64.wrap (c-a))<b)) then
  ((Zbj.g c (IntKind.i64.wrap (c-a)) d e).bind fun y1=>
  (Zas.l2 n m) a b (IntKind.i64.wrap (c+(1:Int))) y1.1 y1.2.1)
  else(some (d,e,())))
  else(some (d,e,()))
def f(n:Nat)(a:Int)(b:Int)(c:Int)(d:Int):Option (Int×Int×Unit):=
  if(decide (b<(1:Int)))=false then
  (if(decide ((32:Int)<=a))=false then
  (if(decide (a<=(IntKind.i64.wrap (0-b)))) then(some (c,d,()))
  else(Zas.l2 n n a b (mx a (0:Int)) c d))
  else(some (c,d,())))
  else(some (c,d,()))
def g(a:Int)(b:Int)(c:Int)(d:Int):Option (Int×Int×Unit):=f (1000+a.toNat+b.toNat+c.toNat+d.toNat) a b c d
end Zas
namespace Zbk
def f(n:Nat)(a:Int)(b:Int)(c:Int):Option (Int×Unit):=
  (Zas.g b c 0 a).bind fun y1=>
  some (y1.1,())
def g(a:Int)(b:Int)(c:Int):Option (Int×Unit):=f (1000+a.toNat+b.toNat+c.toNat) a b c
end Zbk
namespace Zaf
def f(n:Nat)(a:Int)(b:Int)(c:Int):Option (Int×Unit):=
  (Zbk.g c a b).bind fun y1=>
  some ((IntKind.i64.wrap y1.1),())
def g(a:Int)(b:Int)(c:Int):Option (Int×Unit):=f (1000+a.toNat+b.toNat+c.toNat) a b c
end Zaf
namespace Zbp
def f(n:Nat)(a:Int):Option (Int×Unit):=
  some ((mn (mx a (1:Int)) (32:Int)),())
def g(a:Int):Option (Int×Unit):=f (1000+a.toNat) a
end Zbp
namespace Zbi
def f(n:Nat)(a:Int)(b:Int):Option (Int×Unit):=
  (Zbp.g b).bind fun y1=>
  if(IntKind.i64.wrap ((32:Int)-y1.1))<0 then none else
  (if(IntKind.i64.wrap ((32:Int)-y1.1))<0 then none else
  (some ((IntKind.i64.wrap (((IntKind.i32.wrap (IntKind.u32.wrap (a*2 ^ (min (IntKind.i64.wrap ((32:Int)-y1.1)).toNat IntKind.u32.bits))))).fdiv (2 ^ (min (IntKind.i64.wrap ((32:Int)-y1.1)).toNat IntKind.i32.bits)))),())))
def g(a:Int)(b:Int):Option (Int×Unit):=f (1000+a.toNat+b.toNat) a b
end Zbi
namespace Zah
def j16(n:Nat)(a:Int)(b:Int)(c:Int)(d:Int)(e:Int)(i:Int)(j:Bool)(k:Int)(l:Int)(o:Int)(p:Int)(q:Int)(r:Int)(s:Bool):Option (Int×Int×Int×Int×Int×Int×Bool×Unit):=
  some (k,l,o,p,q,r,s,())
def f(n:Nat)(a:Int):Option (Int×Int×Int×Int×Int×Int×Bool×Unit):=
  (Zaf.g (29:Int) (1:Int) a).bind fun y1=>
  (Zaf.g (28:Int) (1:Int) a).bind fun y2=>
  (Zaf.g (24:Int) (4:Int) a).bind fun y3=>
  (Zaf.g (20:Int) (4:Int) a).bind fun y4=>
  (Zaf.g (16:Int) (4:Int) a).bind fun y5=>
  (Zaf.g (30:Int) (2:Int) a).bind fun y6=>
  if(decide (y6.1=(0:Int))) then
  ((Zaf.g (0:Int) (4:Int) a).bind fun y7=>
  if(decide (y1.1=(1:Int))) then
  (if(decide (y5.1=(0:Int))) then
  ((Zaf.g (28:Int) (1:Int) a).bind fun y8=>
  Zah.j16 n 0 0 0 0 0 0 false (IntKind.i64.wrap ((3:Int)+y8.1)) 0 y3.1 0 0 0 false)
  else
  (Zah.j16 n 0 0 0 0 0 0 false (1:Int) y5.1 y3.1 y4.1 y7.1 0 (decide (y1.1=(1:Int)))))
  else
  (Zah.j16 n 0 0 0 0 0 0 false (1:Int) y5.1 y3.1 y4.1 y7.1 0 (decide (y1.1=(1:Int)))))
  else
  (if(decide (y6.1=(1:Int))) then
  ((Zaf.g (0:Int) (16:Int) a).bind fun y9=>
  (Zaf.g (28:Int) (1:Int) a).bind fun y10=>
  Zah.j16 n 0 0 0 0 0 0 false (2:Int) y5.1 y3.1 y4.1 0 (IntKind.i64.wrap (y9.1-(IntKind.i64.wrap (y10.1*2 ^ (min (16:Int).toNat IntKind.i64.bits))))) (decide (y1.1=(1:Int))))
  else
  (if(decide (y6.1=(2:Int))) then
  ((Zaf.g (29:Int) (1:Int) a).bind fun y11=>
  (Zaf.g (28:Int) (1:Int) a).bind fun y12=>
  (Zbi.g a (20:Int)).bind fun y13=>
  Zah.j16 n 0 0 0 0 0 0 false (5:Int) (IntKind.i64.wrap ((IntKind.i64.wrap (y11.1*(2:Int)))+y12.1)) y3.1 y4.1 0 y13.1 false)
  else
  ((Zaf.g (0:Int) (4:Int) a).bind fun y14=>
  if(decide (y1.1=(1:Int))) then
  ((Zbi.g a (24:Int)).bind fun y15=>
  Zah.j16 n 0 0 0 0 0 0 false (7:Int) y3.1 0 0 (0:Int) y15.1 (decide (y2.1=(1:Int))))
  else
  (Zah.j16 n 0 0 0 0 0 0 false (6:Int) y3.1 0 0 y14.1 0 (decide (y2.1=(1:Int)))))))
def g(a:Int):Option (Int×Int×Int×Int×Int×Int×Bool×Unit):=f (1000+a.toNat) a
end Zah
namespace Zba
def f(n:Nat)(a:Int)(b:Int)(c:Int):Option (Bool×Unit):=
  if(decide (b<=a)) then(some ((decide (a<=c)),()))
  else(some (false,()))
def g(a:Int)(b:Int)(c:Int):Option (Bool×Unit):=f (1000+a.toNat+b.toNat+c.toNat) a b c
end Zba
namespace Zbw
def f(n:Nat)(a:Bool):Option (Int×Unit):=
  if a then(some ((1:Int),()))
  else(some ((0:Int),()))
def g(a:Bool):Option (Int×Unit):=f (1000) a
end Zbw
namespace Zak
def f(n:Nat)(a:Int)(b:Bool)(c:Bool):Option (Int×Int×Int×Unit):=
  (Zbw.g b).bind fun y1=>
  (Zbw.g c).bind fun y2=>
  some ((28:Int),(4:Int),(aY .or .i64 (aY .or .i64 (IntKind.i64.wrap (a*2 ^ (min (2:Int).toNat IntKind.i64.bits))) (IntKind.i64.wrap ((IntKind.i64.wrap y1.1)*2 ^ (min (1:Int).toNat IntKind.i64.bits)))) (IntKind.i64.wrap y2.1)),())
def g(a:Int)(b:Bool)(c:Bool):Option (Int×Int×Int×Unit):=f (1000+a.toNat) a b c
end Zak
namespace Zbl
def f(n:Nat)(a:Int)(b:Int)(c:Int)(d:Int):Option (Int×Int×Unit):=
  if a<0 then none else
  (if b<0 then none else
  (if a<0 then none else
  (some ((aY .or .u32 (aY .andNot .u32 c (IntKind.u32.wrap ((1:Int)*2 ^ (min a.toNat IntKind.u32.bits)))) (IntKind.u32.wrap ((aY .and .u32 ((d).fdiv (2 ^ (min b.toNat IntKind.u32.bits))) (1:Int))*2 ^ (min a.toNat IntKind.u32.bits)))),d,()))))
def g(a:Int)(b:Int)(c:Int)(d:Int):Option (Int×Int×Unit):=f (1000+a.toNat+b.toNat+c.toNat+d.toNat) a b c d
end Zbl
namespace Zat
def l2(n:Nat):Nat->Int->Int->Int->Int->Int->Option (Int×Int×Unit)
 |0,_,_,_,_,_=>none
 |m+1,a,b,c,d,e=>
  if(decide (c<(32:Int))) then
  (if(decide ((IntKind.i64.wrap (c-a))<b)) then
  ((Zbl.g c (IntKind.i64.wrap (c-a)) d e).bind fun y1=>
  (Zat.l2 n m) a b (IntKind.i64.wrap (c+(1:Int))) y1.1 y1.2.1)
  else(some (d,e,())))
  else(some (d,e,()))
def f(n:Nat)(a:Int)(b:Int)(c:Int)(d:Int):Option (Int×Int×Unit):=
  if(decide (b<(1:Int)))=false then
  (if(decide ((32:Int)<=a))=false then
  (if(decide (a<=(IntKind.i64.wrap (0-b)))) then(some (c,d,()))
  else(Zat.l2 n n a b (mx a (0:Int)) c d))
  else(some (c,d,())))
  else(some (c,d,()))
def g(a:Int)(b:Int)(c:Int)(d:Int):Option (Int×Int×Unit):=f (1000+a.toNat+b.toNat+c.toNat+d.toNat) a b c d
end Zat
namespace Zbm
def f(n:Nat)(a:Int)(b:Int)(c:Int)(d:Int):Option (Int×Unit):=
  (Zat.g b c a d).bind fun y1=>
  some (y1.1,())
def g(a:Int)(b:Int)(c:Int)(d:Int):Option (Int×Unit):=f (1000+a.toNat+b.toNat+c.toNat+d.toNat) a b c d
end Zbm
namespace Zad
def l3(n:Nat):Nat->Int->(List (Int×Int×Int×Unit))->Int->Int->Option (Int×Unit)
 |0,_,_,_,_=>none
 |m+1,a,b,c,d=>
  if(decide (d<c)) then
  (if 0<=d/\d<(b.length:Int) then
  (if 0<=(0:Int)/\(0:Int)<(3:Int) then
  (if 0<=(1:Int)/\(1:Int)<(3:Int) then
  (if 0<=(2:Int)/\(2:Int)<(3:Int) then
  ((Zbm.g a ([(b.getD (d).toNat ((0:Int),((0:Int),((0:Int),())))).1,((b.getD (d).toNat ((0:Int),((0:Int),((0:Int),())))).2).1,(((b.getD (d).toNat ((0:Int),((0:Int),((0:Int),())))).2).2).1].getD ((0:Int)).toNat 0) ([(b.getD (d).toNat ((0:Int),((0:Int),((0:Int),())))).1,((b.getD (d).toNat ((0:Int),((0:Int),((0:Int),())))).2).1,(((b.getD (d).toNat ((0:Int),((0:Int),((0:Int),())))).2).2).1].getD ((1:Int)).toNat 0) (IntKind.u32.wrap ([(b.getD (d).toNat ((0:Int),((0:Int),((0:Int),())))).1,((b.getD (d).toNat ((0:Int),((0:Int),((0:Int),())))).2).1,(((b.getD (d).toNat ((0:Int),((0:Int),((0:Int),())))).2).2).1].getD ((2:Int)).toNat 0))).bind fun y1=>
  (Zad.l3 n m) y1.1 b c (IntKind.i64.wrap (d+(1:Int)))) else none) else none) else none) else none)
  else(some (a,()))
def f(n:Nat)(a:List (Int×Int×Int×Unit)):Option (Int×Unit):=
  Zad.l3 n n (0:Int) a (a.length:Int) (0:Int)
def g(a:List (Int×Int×Int×Unit)):Option (Int×Unit):=f (1000+a.length) a
end Zad
namespace Zao
def j14(n:Nat)(a:Int)(b:Int)(c:Int)(d:Int)(e:Int)(i:Int)(j:Bool)(k:Int)(l:Int)(o:Int):Option (Int×Unit):=
  (Zak.g (3:Int) true j).bind fun y1=>
  (Zad.g ([(y1.1,y1.2.1,y1.2.2.1,()),(k,l,o,()),((0:Int),(24:Int),i,())]:List (Int×Int×Int×Unit))).bind fun y2=>
  some (y2.1,())
def f(n:Nat)(a:Int)(b:Int)(c:Int)(d:Int)(e:Int)(i:Int)(j:Bool):Option (Int×Unit):=
  if(decide (a=(1:Int))) then
  ((Zak.g (0:Int) j false).bind fun y1=>
  (Zad.g ([(y1.1,y1.2.1,y1.2.2.1,()),((24:Int),(4:Int),c,()),((20:Int),(4:Int),d,()),((16:Int),(4:Int),b,()),((0:Int),(4:Int),e,())]:List (Int×Int×Int×Unit))).bind fun y2=>
  some (y2.1,()))
  else
  (if(decide (a=(3:Int))) then
  (if(decide (a=(3:Int))) then
  ((Zak.g (0:Int) true (decide (a=(4:Int)))).bind fun y3=>
  (Zad.g ([(y3.1,y3.2.1,y3.2.2.1,()),((24:Int),(4:Int),c,())]:List (Int×Int×Int×Unit))).bind fun y4=>
  some (y4.1,()))
  else
  (if(decide (a=(2:Int))) then
  ((Zak.g (1:Int) j (decide (i<(0:Int)))).bind fun y5=>
  (Zad.g ([(y5.1,y5.2.1,y5.2.2.1,()),((24:Int),(4:Int),c,()),((20:Int),(4:Int),d,()),((16:Int),(4:Int),b,()),((0:Int),(16:Int),i,())]:List (Int×Int×Int×Unit))).bind fun y6=>
  some (y6.1,()))
  else
  (if(decide (a=(5:Int))) then
  ((Zak.g (2:Int) (decide ((2:Int)<=b)) (decide ((Int.tmod b (2:Int))=(1:Int)))).bind fun y7=>
  (Zad.g ([(y7.1,y7.2.1,y7.2.2.1,()),((24:Int),(4:Int),c,()),((20:Int),(4:Int),d,()),((0:Int),(20:Int),i,())]:List (Int×Int×Int×Unit))).bind fun y8=>
  some (y8.1,()))
  else
  (if(decide (a=(6:Int))) then
  ((Zak.g (3:Int) false j).bind fun y9=>
  (Zad.g ([(y9.1,y9.2.1,y9.2.2.1,()),((24:Int),(4:Int),b,()),((0:Int),(4:Int),e,())]:List (Int×Int×Int×Unit))).bind fun y10=>
  some (y10.1,()))
  else(Zao.j14 n a b c d e i j (24:Int) (4:Int) b)))))
  else
  (if(decide (a=(4:Int))) then
  ((Zak.g (0:Int) true (decide (a=(4:Int)))).bind fun y11=>
  (Zad.g ([(y11.1,y11.2.1,y11.2.2.1,()),((24:Int),(4:Int),c,())]:List (Int×Int×Int×Unit))).bind fun y12=>
  some (y12.1,()))
  else
  (if(decide (a=(2:Int))) then
  ((Zak.g (1:Int) j (decide (i<(0:Int)))).bind fun y13=>
  (Zad.g ([(y13.1,y13.2.1,y13.2.2.1,()),((24:Int),(4:Int),c,()),((20:Int),(4:Int),d,()),((16:Int),(4:Int),b,()),((0:Int),(16:Int),i,())]:List (Int×Int×Int×Unit))).bind fun y14=>
  some (y14.1,()))
  else
  (if(decide (a=(5:Int))) then
  ((Zak.g (2:Int) (decide ((2:Int)<=b)) (decide ((Int.tmod b (2:Int))=(1:Int)))).bind fun y15=>
  (Zad.g ([(y15.1,y15.2.1,y15.2.2.1,()),((24:Int),(4:Int),c,()),((20:Int),(4:Int),d,()),((0:Int),(20:Int),i,())]:List (Int×Int×Int×Unit))).bind fun y16=>
  some (y16.1,()))
  else
  (if(decide (a=(6:Int))) then
  ((Zak.g (3:Int) false j).bind fun y17=>
  (Zad.g ([(y17.1,y17.2.1,y17.2.2.1,()),((24:Int),(4:Int),b,()),((0:Int),(4:Int),e,())]:List (Int×Int×Int×Unit))).bind fun y18=>
  some (y18.1,()))
  else(Zao.j14 n a b c d e i j (24:Int) (4:Int) b))))))
def g(a:Int)(b:Int)(c:Int)(d:Int)(e:Int)(i:Int)(j:Bool):Option (Int×Unit):=f (1000+a.toNat+b.toNat+c.toNat+d.toNat+e.toNat+i.toNat) a b c d e i j
end Zao
namespace Zai
def j10(n:Nat)(a:Int)(b:Int)(c:Int)(d:Int)(e:Int)(i:Int)(j:Bool):Option (Bool×Unit):=
  if(!j)=false then
  ((Zba.g b (8:Int) (10:Int)).bind fun y1=>
  some (y1.1,()))
  else(some (true,()))
def f(n:Nat)(a:Int)(b:Int)(c:Int)(d:Int)(e:Int)(i:Int)(j:Bool):Option (Bool×Unit):=
  (Zba.g a (1:Int) (7:Int)).bind fun y1=>
  if(!y1.1)=false then
  ((Zba.g b (0:Int) (15:Int)).bind fun y2=>
  if(!y2.1)=false then
  ((Zao.g a b c d e i j).bind fun y3=>
  (Zah.g y3.1).bind fun y4=>
  if(!(decide (a=y4.1)&&(decide (b=y4.2.1)&&(decide (c=y4.2.2.1)&&(decide (d=y4.2.2.2.1)&&(decide (e=y4.2.2.2.2.1)&&(decide (i=y4.2.2.2.2.2.1)&&((j == y4.2.2.2.2.2.2.1)&&true)))))))) then(some (false,()))
  else
  (if(decide (a=(1:Int))) then
  (if(decide (a=(1:Int))) then
  (if(decide (b=(0:Int))) then
  (if(decide (d=(0:Int))) then
  (if(decide (a=(2:Int)))=false then
  (if(!j) then
  (if(!j)=false then(some ((decide ((0:Int)<=i)),()))
  else(some (true,())))
  else(some (false,())))
  else
  (if(!j)=false then(some ((decide ((0:Int)<=i)),()))
  else(some (true,()))))
  else(some (false,())))
  else
  (if(decide ((11:Int)<b)) then(some (false,()))
  else(Zai.j10 n a b c d e i j)))
  else(some (true,())))
  else
  (if(decide (a=(2:Int))) then
  (if(decide (b=(0:Int))) then
  (if(decide (d=(0:Int))) then
  (if(decide (a=(2:Int)))=false then
  (if(!j) then
  (if(!j)=false then(some ((decide ((0:Int)<=i)),()))
  else(some (true,())))
  else(some (false,())))
  else
  (if(!j)=false then(some ((decide ((0:Int)<=i)),()))
  else(some (true,()))))
  else(some (false,())))
  else
  (if(decide ((11:Int)<b)) then(some (false,()))
  else(Zai.j10 n a b c d e i j)))
  else(some (true,())))))
  else(some (false,())))
  else(some (false,()))
def g(a:Int)(b:Int)(c:Int)(d:Int)(e:Int)(i:Int)(j:Bool):Option (Bool×Unit):=f (1000+a.toNat+b.toNat+c.toNat+d.toNat+e.toNat+i.toNat) a b c d e i j
end Zai
namespace Zal
def f(n:Nat)(a:Int):Option (Int×Int×Int×Int×Int×Int×Bool×Bool×Unit):=
  (Zah.g a).bind fun y1=>
  (Zai.g y1.1 y1.2.1 y1.2.2.1 y1.2.2.2.1 y1.2.2.2.2.1 y1.2.2.2.2.2.1 y1.2.2.2.2.2.2.1).bind fun y2=>
  if(!y2.1)=false then
  ((Zao.g y1.1 y1.2.1 y1.2.2.1 y1.2.2.2.1 y1.2.2.2.2.1 y1.2.2.2.2.2.1 y1.2.2.2.2.2.2.1).bind fun y3=>
  if(decide (y3.1≠a)) then(some (0,0,0,0,0,0,false,false,()))
  else
  (some (y1.1,y1.2.1,y1.2.2.1,y1.2.2.2.1,y1.2.2.2.2.1,y1.2.2.2.2.2.1,y1.2.2.2.2.2.2.1,true,())))
  else(some (0,0,0,0,0,0,false,false,()))
def g(a:Int):Option (Int×Int×Int×Int×Int×Int×Bool×Bool×Unit):=f (1000+a.toNat) a
end Zal
namespace Zbx
def f(n:Nat)(a:Int):Option (Bool×Unit):=
  if(decide (a=(2:Int))) then
  (if(decide (a=(2:Int))) then(some (true,()))
  else(some (false,())))
  else
  (if(decide (a=(5:Int))) then
  (if(decide (a=(5:Int))) then(some (true,()))
  else(some (false,())))
  else
  (if(decide (a=(7:Int))) then
  (if(decide (a=(7:Int))) then(some (true,()))
  else(some (false,())))
  else
  (if(decide (a=(8:Int))) then
  (if(decide (a=(8:Int))) then(some (true,()))
  else(some (false,())))
  else
  (if(decide (a=(9:Int))) then(some (true,()))
  else(some (false,()))))))
def g(a:Int):Option (Bool×Unit):=f (1000+a.toNat) a
end Zbx
namespace Zbb
def j12(n:Nat)(a:Int)(b:Int)(c:Int)(d:Int)(e:Int)(i:Int)(j:Bool):Option (Bool×Unit):=
  (Zai.g a b c d e i j).bind fun y1=>
  some (y1.1,())
def j4(n:Nat)(a:Int)(b:Int)(c:Int)(d:Int)(e:Int)(i:Bool)(j:List It)(k:Str)(l:Int)(o:Int)(p:Int)(q:Int)(r:Int)(s:Int)(t:Bool):Option (Bool×Unit):=
  if(decide (a=(0:Int))) then
  (if(decide (a=(0:Int))) then
  (some ((decide (l=a)&&(decide (o=0)&&(decide (p=0)&&(decide (q=0)&&(decide (r=0)&&(decide (s=0)&&((t == false)&&true))))))),()))
  else
  (if(decide (a=(10:Int))) then
  (if(decide (l=a)&&(decide (o=0)&&(decide (p=0)&&(decide (q=0)&&(decide (r=0)&&(decide (s=0)&&((t == false)&&true))))))) then
  ((Zaw.g k).bind fun y1=>
  some (y1.1,()))
  else(some (false,())))
  else
  (if(decide (a=(8:Int))) then
  (if(decide (l=a)&&(decide (o=0)&&(decide (p=c)&&(decide (q=0)&&(decide (r=0)&&(decide (s=0)&&((t == false)&&true))))))) then
  ((Zaz.g c).bind fun y2=>
  some ((!(decide (y2.1=([]:Str)))),()))
  else(some (false,())))
  else(Zbb.j12 n l o p q r s t))))
  else
  (if(decide (a=(9:Int))) then
  (some ((decide (l=a)&&(decide (o=0)&&(decide (p=0)&&(decide (q=0)&&(decide (r=0)&&(decide (s=0)&&((t == false)&&true))))))),()))
  else
  (if(decide (a=(10:Int))) then
  (if(decide (l=a)&&(decide (o=0)&&(decide (p=0)&&(decide (q=0)&&(decide (r=0)&&(decide (s=0)&&((t == false)&&true))))))) then
  ((Zaw.g k).bind fun y3=>
  some (y3.1,()))
  else(some (false,())))
  else
  (if(decide (a=(8:Int))) then
  (if(decide (l=a)&&(decide (o=0)&&(decide (p=c)&&(decide (q=0)&&(decide (r=0)&&(decide (s=0)&&((t == false)&&true))))))) then
  ((Zaz.g c).bind fun y4=>
  some ((!(decide (y4.1=([]:Str)))),()))
  else(some (false,())))
  else(Zbb.j12 n l o p q r s t))))
def f(n:Nat)(a:Int)(b:Int)(c:Int)(d:Int)(e:Int)(i:Bool)(j:List It)(k:Str):Option (Bool×Unit):=
  (Zbx.g a).bind fun y1=>
  if(!(y1.1 == (decide ((0:Int)<(j.length:Int)))))=false then
  ((Zbx.g a).bind fun y2=>
  if y2.1 then
  ((Zbh.g j).bind fun y3=>
  if(!y3.1)=false then
  (if(!((decide (a=(10:Int))) == (!(decide (k=([]:Str)))))) then(some (false,()))
  else(Zbb.j4 n a b c d e i j k a b c d e 0 i))
  else(some (false,())))
  else
  (if(!((decide (a=(10:Int))) == (!(decide (k=([]:Str)))))) then(some (false,()))
  else(Zbb.j4 n a b c d e i j k a b c d e 0 i)))
  else(some (false,()))
def g(a:Int)(b:Int)(c:Int)(d:Int)(e:Int)(i:Bool)(j:List It)(k:Str):Option (Bool×Unit):=f (1000+a.toNat+b.toNat+c.toNat+d.toNat+e.toNat+j.length+k.length) a b c d e i j k
end Zbb
namespace Zcg
def f(n:Nat)(a:Int):Option (Int×Unit):=
  if(decide (a=(2:Int))) then(some ((1:Int),()))
  else
  (if(decide (a=(6:Int))) then(some ((7:Int),()))
  else(some (a,())))
def g(a:Int):Option (Int×Unit):=f (1000+a.toNat) a
end Zcg
namespace Zch
def f(n:Nat)(a:Int):Option (Bool×Unit):=
  if(decide (a=(9:Int)))=false then(some ((decide (a=(10:Int))),()))
  else(some (true,()))
def g(a:Int):Option (Bool×Unit):=f (1000+a.toNat) a
end Zch
namespace Zci
def f(n:Nat)(a:Int)(b:Int)(c:Int)(d:Int)(e:Int)(i:Bool)(j:List It)(k:Str):Option (Unit×Int×Int×Int×Int×Int×Bool×(List It)×Str×Unit):=
  some ((),a,b,c,d,e,i,j,k,())
def g(a:Int)(b:Int)(c:Int)(d:Int)(e:Int)(i:Bool)(j:List It)(k:Str):Option (Unit×Int×Int×Int×Int×Int×Bool×(List It)×Str×Unit):=f (1000+a.toNat+b.toNat+c.toNat+d.toNat+e.toNat+j.length+k.length) a b c d e i j k
end Zci
namespace Zcj
def f(n:Nat)(a:Int)(b:Int)(c:Int)(d:Int)(e:Int)(i:Bool)(j:List It)(k:Str):Option (Unit×Int×Int×Int×Int×Int×Bool×(List It)×Str×Unit):=
  some ((),a,b,c,d,e,i,j,k,())
def g(a:Int)(b:Int)(c:Int)(d:Int)(e:Int)(i:Bool)(j:List It)(k:Str):Option (Unit×Int×Int×Int×Int×Int×Bool×(List It)×Str×Unit):=f (1000+a.toNat+b.toNat+c.toNat+d.toNat+e.toNat+j.length+k.length) a b c d e i j k
end Zcj
namespace Zck
def f(n:Nat)(a:Int)(b:Int)(c:Int)(d:Int)(e:Int)(i:Bool)(j:List It)(k:Str):Option (Unit×Int×Int×Int×Int×Int×Bool×(List It)×Str×Unit):=
  some ((),a,b,c,d,e,i,j,k,())
def g(a:Int)(b:Int)(c:Int)(d:Int)(e:Int)(i:Bool)(j:List It)(k:Str):Option (Unit×Int×Int×Int×Int×Int×Bool×(List It)×Str×Unit):=f (1000+a.toNat+b.toNat+c.toNat+d.toNat+e.toNat+j.length+k.length) a b c d e i j k
end Zck
namespace Zbq
def f(n:Nat)(a:Int)(b:Int)(c:Int)(d:Int)(e:Int)(i:Bool)(j:List It)(k:Str)(l:Fn):Option (Str×Unit):=
  if l=K.atA then((Zci.g a b c d e i j k).bind fun y1=>
  (Zaz.g y1.2.2.2.1).bind fun y2=>
  some (y2.1,()))
  else if l=K.atB then((Zcj.g a b c d e i j k).bind fun y3=>
  (Zaz.g y3.2.2.2.2.1).bind fun y4=>
  some (y4.1,()))
  else if l=K.atC then((Zck.g a b c d e i j k).bind fun y5=>
  (Zaz.g y5.2.2.2.2.2.1).bind fun y6=>
  some (y6.1,()))
  else none
def g(a:Int)(b:Int)(c:Int)(d:Int)(e:Int)(i:Bool)(j:List It)(k:Str)(l:Fn):Option (Str×Unit):=f (1000+a.toNat+b.toNat+c.toNat+d.toNat+e.toNat+j.length+k.length) a b c d e i j k l
end Zbq
namespace Zbr
def l1(n:Nat):Nat->Str->Int->Option (Str×Unit)
 |0,_,_=>none
 |m+1,a,b=>
  if(decide ((0:Int)<(a.length:Int))) then
  (if 0<=(0:Int)/\(0:Int)<(a.length:Int) then
  (if(decide ((bt a (0:Int))=b)) then
  (if 0<=(1:Int)/\(1:Int)<=(a.length:Int) then
  ((Zbr.l1 n m) ((a.take (((a.length:Int)).toNat)).drop (((1:Int)).toNat)) b) else none)
  else(some (a,()))) else none)
  else(some (a,()))
def f(n:Nat)(a:Str)(b:Int):Option (Str×Unit):=
  Zbr.l1 n n a b
def g(a:Str)(b:Int):Option (Str×Unit):=f (1000+a.length+b.toNat) a b
end Zbr
namespace Zbs
def j5(n:Nat)(a:Str)(b:Str):Option (Str×Unit):=
  none
def f(n:Nat)(a:Str)(b:Str):Option (Str×Unit):=
  if(decide (a=([]:Str)))=false then
  (if(decide (b=([]:Str))) then(some (a,()))
  else
  (if(decide ((b.length:Int)=(1:Int))) then
  (if 0<=(0:Int)/\(0:Int)<(b.length:Int) then
  (if(decide ((bt b (0:Int))<(128:Int))) then
  (if 0<=(0:Int)/\(0:Int)<(b.length:Int) then
  ((Zbr.g a (bt b (0:Int))).bind fun y1=>
  some (y1.1,())) else none)
  else(Zbs.j5 n a b)) else none)
  else(Zbs.j5 n a b)))
  else(some (a,()))
def g(a:Str)(b:Str):Option (Str×Unit):=f (1000+a.length+b.length) a b
end Zbs
namespace Zby
def f(n:Nat)(a:Int)(b:Int)(c:Int)(d:Int)(e:Int)(i:Bool)(j:List It)(k:Str)(l:Str):Option (Str×Unit):=
  (Zae.g j).bind fun y1=>
  if l.length+([32]:Str).length<=9223372036854775807 then
  (if(l++([32]:Str)).length+y1.1.length<=9223372036854775807 then
  ((Zbs.g ((l++([32]:Str))++y1.1) ([32]:Str)).bind fun y2=>
  some (y2.1,())) else none) else none
def g(a:Int)(b:Int)(c:Int)(d:Int)(e:Int)(i:Bool)(j:List It)(k:Str)(l:Str):Option (Str×Unit):=f (1000+a.toNat+b.toNat+c.toNat+d.toNat+e.toNat+j.length+k.length+l.length) a b c d e i j k l
end Zby
namespace Zcl
def f(n:Nat)(a:Int)(b:Int)(c:Int)(d:Int)(e:Int)(i:Bool)(j:List It)(k:Str):Option (Str×Unit):=
  some (k,())
def g(a:Int)(b:Int)(c:Int)(d:Int)(e:Int)(i:Bool)(j:List It)(k:Str):Option (Str×Unit):=f (1000+a.toNat+b.toNat+c.toNat+d.toNat+e.toNat+j.length+k.length) a b c d e i j k
end Zcl
namespace Zab
def j15(n:Nat)(rl12:(List Str)->Str->(List Str)->(List (Fn×Fn×Unit))->Int->Int->Int->Int->Int->Int->Int->Bool->(List It)->Str->Option (Str×Int×Unit))(a:List Str)(b:Str)(c:List Str)(d:List (Fn×Fn×Unit))(e:Int)(i:Int)(j:Int)(k:Int)(l:Int)(o:Int)(p:Int)(q:Bool)(r:List It)(s:Str):Option (Str×Int×Unit):=
  rl12 a b c d e (IntKind.i64.wrap (i+(1:Int))) j k l o p q r s
def j17(n:Nat)(a:List Str):Option (Str×Int×Unit):=
  (L.sjoinO a ([32]:Str)).bind fun y1=>
  some (y1.1,(0:Int),())
def l12(n:Nat):Nat->(List Str)->Str->(List Str)->(List (Fn×Fn×Unit))->Int->Int->Int->Int->Int->Int->Int->Bool->(List It)->Str->Option (Str×Int×Unit)
 |0,_,_,_,_,_,_,_,_,_,_,_,_,_,_=>none
 |m+1,a,b,c,d,e,i,j,k,l,o,p,q,r,s=>
  if(decide (i<e)) then
  (if 0<=i/\i<(d.length:Int) then
  (if((d.getD (i).toNat (((0,[]):Fn),(((0,[]):Fn),()))).2).1=K.wrA then((Zbq.g j k l o p q r s K.atA).bind fun y1=>
  if(c.length+([y1.1]:List Str).length)*16<=140737488355328/\0<16/\0<1 then
  (Zab.j15 n (Zab.l12 n m) a b (c++([y1.1]:List Str)) d e i j k l o p q r s) else none)
  else if((d.getD (i).toNat (((0,[]):Fn),(((0,[]):Fn),()))).2).1=K.wrB then((Zbq.g j k l o p q r s K.atB).bind fun y2=>
  if(c.length+([y2.1]:List Str).length)*16<=140737488355328/\0<16/\0<1 then
  (Zab.j15 n (Zab.l12 n m) a b (c++([y2.1]:List Str)) d e i j k l o p q r s) else none)
  else if((d.getD (i).toNat (((0,[]):Fn),(((0,[]):Fn),()))).2).1=K.wrC then((Zbq.g j k l o p q r s K.atC).bind fun y3=>
  if(c.length+([y3.1]:List Str).length)*16<=140737488355328/\0<16/\0<1 then
  (Zab.j15 n (Zab.l12 n m) a b (c++([y3.1]:List Str)) d e i j k l o p q r s) else none)
  else if((d.getD (i).toNat (((0,[]):Fn),(((0,[]):Fn),()))).2).1=K.wrE then((Zby.g j k l o p q r s ([]:Str)).bind fun y4=>
  if(c.length+([y4.1]:List Str).length)*16<=140737488355328/\0<16/\0<1 then
  (Zab.j15 n (Zab.l12 n m) a b (c++([y4.1]:List Str)) d e i j k l o p q r s) else none)
  else if((d.getD (i).toNat (((0,[]):Fn),(((0,[]):Fn),()))).2).1=K.wrQ then((Zby.g j k l o p q r s ([61]:Str)).bind fun y5=>
  if(c.length+([y5.1]:List Str).length)*16<=140737488355328/\0<16/\0<1 then
  (Zab.j15 n (Zab.l12 n m) a b (c++([y5.1]:List Str)) d e i j k l o p q r s) else none)
  else if((d.getD (i).toNat (((0,[]):Fn),(((0,[]):Fn),()))).2).1=K.wrN then((Zcl.g j k l o p q r s).bind fun y6=>
  if(c.length+([y6.1]:List Str).length)*16<=140737488355328/\0<16/\0<1 then
  (Zab.j15 n (Zab.l12 n m) a b (c++([y6.1]:List Str)) d e i j k l o p q r s) else none)
  else none) else none)
  else
  ((L.sjoinO c ([44,32]:Str)).bind fun y7=>
  if(a.length+([b,y7.1]:List Str).length)*16<=140737488355328/\0<16/\0<1 then(Zab.j17 n (a++([b,y7.1]:List Str))) else none)
def j10(n:Nat)(a:List Str)(b:Str)(c:Int)(d:Int)(e:Int)(i:Int)(j:Int)(k:Bool)(l:List It)(o:Str):Option (Str×Int×Unit):=
  Zab.l12 n n a b ([]) (L.opsR c d) ((L.opsR c d).length:Int) (0:Int) c d e i j k l o
def j6(n:Nat)(a:List Str)(b:Int)(c:Int)(d:Int)(e:Int)(i:Int)(j:Bool)(k:List It)(l:Str):Option (Str×Int×Unit):=
  if(decide (b≠(0:Int))) then
  ((Zcg.g b).bind fun y1=>
  (L.mnemO y1.1 c j).bind fun y2=>
  (Zch.g b).bind fun y3=>
  if y3.1 then
  (if([46]:Str).length+y2.1.length<=9223372036854775807 then(Zab.j10 n a (([46]:Str)++y2.1) b c d e i j k l) else none)
  else(Zab.j10 n a y2.1 b c d e i j k l))
  else(Zab.j17 n a)
def j3(n:Nat)(a:Str)(b:Int)(c:Int)(d:Int)(e:Int)(i:Int)(j:Bool)(k:List It)(l:Str):Option (Str×Int×Unit):=
  if(!(decide (a=([]:Str)))) then
  (if a.length+([58]:Str).length<=9223372036854775807 then
  (if(([]:List Str).length+([(a++([58]:Str))]:List Str).length)*16<=140737488355328/\0<16/\0<1 then
  (Zab.j6 n (([]:List Str)++([(a++([58]:Str))]:List Str)) b c d e i j k l) else none) else none)
  else(Zab.j6 n ([]) b c d e i j k l)
def f(n:Nat)(a:Str)(b:Int)(c:Int)(d:Int)(e:Int)(i:Int)(j:Bool)(k:List It)(l:Str):Option (Str×Int×Unit):=
  if(!(decide (a=([]:Str)))) then
  ((Zac.g a).bind fun y1=>
  if(!y1.1)=false then
  ((Zbb.g b c d e i j k l).bind fun y2=>
  if(!y2.1) then(some (([]:Str),(22:Int),()))
  else(Zab.j3 n a b c d e i j k l))
  else(some (([]:Str),(22:Int),())))
  else
  ((Zbb.g b c d e i j k l).bind fun y3=>
  if(!y3.1) then(some (([]:Str),(22:Int),()))
  else(Zab.j3 n a b c d e i j k l))
def g(a:Str)(b:Int)(c:Int)(d:Int)(e:Int)(i:Int)(j:Bool)(k:List It)(l:Str):Option (Str×Int×Unit):=f (1000+a.length+b.toNat+c.toNat+d.toNat+e.toNat+i.toNat+k.length+l.length) a b c d e i j k l
end Zab
end Rv
namespace Rv
open Go
set_option maxRecDepth 100000
end Rv
namespace Rv
open Go
set_option maxRecDepth 100000
namespace Zcm
def f(n:Nat)(a:Str)(b:Int)(c:Int)(d:Int)(e:Int)(i:Int)(j:Bool)(k:List It)(l:Str):Option (Str×Int×Unit):=
  (Zab.g a b c d e i j k l).bind fun y1=>
  some (y1.1,y1.2.1,())
def g(a:Str)(b:Int)(c:Int)(d:Int)(e:Int)(i:Int)(j:Bool)(k:List It)(l:Str):Option (Str×Int×Unit):=f (1000+a.length+b.toNat+c.toNat+d.toNat+e.toNat+i.toNat+k.length+l.length) a b c d e i j k l
end Zcm
namespace Zbt
def l5(n:Nat):Nat->(List Str)->(List Ln)->Int->Int->Option ((List Str)×Int×Int×Unit)
 |0,_,_,_,_=>none
 |m+1,a,b,c,d=>
  if(decide (d<c)) then
  (if 0<=d/\d<(b.length:Int) then
  ((Zcm.g ((b.getD (d).toNat zL).1) ((((b.getD (d).toNat zL).2).1).1) (((((b.getD (d).toNat zL).2).1).2).1) ((((((b.getD (d).toNat zL).2).1).2).2).1) (((((((b.getD (d).toNat zL).2).1).2).2).2).1) ((((((((b.getD (d).toNat zL).2).1).2).2).2).2).1) (((((((((b.getD (d).toNat zL).2).1).2).2).2).2).2).1) ((((((((((b.getD (d).toNat zL).2).1).2).2).2).2).2).2).1) (((((((((((b.getD (d).toNat zL).2).1).2).2).2).2).2).2).2).1)).bind fun y1=>
  if(decide (y1.2.1≠(0:Int))) then(some ([],(IntKind.i64.wrap (d+(1:Int))),y1.2.1,()))
  else
  (if(a.length+([y1.1]:List Str).length)*16<=140737488355328/\0<16/\0<1 then
  ((Zbt.l5 n m) (a++([y1.1]:List Str)) b c (IntKind.i64.wrap (d+(1:Int)))) else none)) else none)
  else(some (a,(0:Int),(0:Int),()))
def f(n:Nat)(a:List Ln):Option ((List Str)×Int×Int×Unit):=
  if(decide ((4096:Int)<(a.length:Int))) then(some ([],(0:Int),(2:Int),()))
  else
  (Zbt.l5 n n ([]) a (a.length:Int) (0:Int))
def g(a:List Ln):Option ((List Str)×Int×Int×Unit):=f (1000+a.length) a
end Zbt
namespace Zcn
def f(n:Nat)(a:List Ln):Option (Str×Int×Int×Unit):=
  (Zbt.g a).bind fun y1=>
  if(decide (y1.2.2.1≠(0:Int))) then(some (([]:Str),y1.2.1,y1.2.2.1,()))
  else
  (if(y1.1.length+([([]:Str)]:List Str).length)*16<=140737488355328/\0<16/\0<1 then
  ((L.sjoinO (y1.1++([([]:Str)]:List Str)) ([10]:Str)).bind fun y2=>
  some (y2.1,(0:Int),(0:Int),())) else none)
def g(a:List Ln):Option (Str×Int×Int×Unit):=f (1000+a.length) a
end Zcn
end Rv
namespace Rv
open Go
set_option maxRecDepth 100000
namespace Zap
def j4(n:Nat)(rl3:(List Int)->Int->(List Int)->Int->Option ((List Int)×Unit))(a:List Int)(b:Int)(c:List Int)(d:Int):Option ((List Int)×Unit):=
  rl3 a b c (IntKind.i64.wrap (d+(1:Int)))
def l3(n:Nat):Nat->(List Int)->Int->(List Int)->Int->Option ((List Int)×Unit)
 |0,_,_,_,_=>none
 |m+1,a,b,c,d=>
  if(decide (d<b)) then
  (if(decide (d<(a.length:Int))) then
  (if 0<=d/\d<(a.length:Int) then
  (if(decide ((aY .and .u8 (a.getD (d).toNat (0:Int)) (1:Int))=(1:Int))) then
  (if(c.length+([d]:List Int).length)*8<=140737488355328/\0<8/\0<1 then
  (Zap.j4 n (Zap.l3 n m) a b (c++([d]:List Int)) d) else none)
  else(Zap.j4 n (Zap.l3 n m) a b c d)) else none)
  else(some (c,())))
  else(some (c,()))
def f(n:Nat)(a:List Int)(b:Int):Option ((List Int)×Unit):=
  Zap.l3 n n a b ([]:List Int) (0:Int)
def g(a:List Int)(b:Int):Option ((List Int)×Unit):=f (1000+a.length+b.toNat) a b
end Zap
end Rv
namespace Rv
open Go
set_option maxRecDepth 100000
namespace Zaa
def j10(n:Nat)(rl9:(List Str)->Int->Int->(List Int)->(List Int)->(List (Str×Int×Unit))->(List Int)->(List Int)->(List (Str×Int×Unit))->Option ((List Int)×(List Int)×(List (Str×Int×Unit))×Unit))(a:List Str)(b:Int)(c:Int)(d:List Int)(e:List Int)(i:List (Str×Int×Unit))(j:List Int)(k:List Int)(l:List (Str×Int×Unit)):Option ((List Int)×(List Int)×(List (Str×Int×Unit))×Unit):=
  rl9 a b (IntKind.i64.wrap (c+(1:Int))) d e i j k l
def j16(n:Nat)(rl9:(List Str)->Int->Int->(List Int)->(List Int)->(List (Str×Int×Unit))->(List Int)->(List Int)->(List (Str×Int×Unit))->Option ((List Int)×(List Int)×(List (Str×Int×Unit))×Unit))(a:List Str)(b:Int)(c:Int)(d:Str)(e:Int)(i:List Int)(j:List Int)(k:List (Str×Int×Unit))(l:List Int)(o:List Int)(p:List (Str×Int×Unit)):Option ((List Int)×(List Int)×(List (Str×Int×Unit))×Unit):=
  if 0<=c/\c<(a.length:Int) then
  (if(IntKind.i64.wrap (b+(1:Int)))=0 then none else
  (if 0<=e/\e<=(p.length:Int) then
  (if(([(d,(IntKind.i64.wrap ((4:Int)*(Int.tmod (IntKind.i64.wrap (((a.getD (c).toNat ([]:Str)).length:Int)+c)) (IntKind.i64.wrap (b+(1:Int)))))),())]:List (Str×Int×Unit)).length+((p.take (((p.length:Int)).toNat)).drop ((e).toNat)).length)*24<=140737488355328/\0<24/\0<2 then
  (if 0<=e/\e<=(p.length:Int) then
  (if(([]:List (Str×Int×Unit)).length+(p.take (e).toNat).length)*24<=140737488355328/\0<24/\0<2 then
  (if((([]:List (Str×Int×Unit))++(p.take (e).toNat)).length+(([(d,(IntKind.i64.wrap ((4:Int)*(Int.tmod (IntKind.i64.wrap (((a.getD (c).toNat ([]:Str)).length:Int)+c)) (IntKind.i64.wrap (b+(1:Int)))))),())]:List (Str×Int×Unit))++((p.take (((p.length:Int)).toNat)).drop ((e).toNat))).length)*24<=140737488355328/\0<24/\0<2 then
  (Zaa.j10 n rl9 a b c i j k l o ((([]:List (Str×Int×Unit))++(p.take (e).toNat))++(([(d,(IntKind.i64.wrap ((4:Int)*(Int.tmod (IntKind.i64.wrap (((a.getD (c).toNat ([]:Str)).length:Int)+c)) (IntKind.i64.wrap (b+(1:Int)))))),())]:List (Str×Int×Unit))++((p.take (((p.length:Int)).toNat)).drop ((e).toNat))))) else none) else none) else none) else none) else none)) else none
def j15(n:Nat)(rl9:(List Str)->Int->Int->(List Int)->(List Int)->(List (Str×Int×Unit))->(List Int)->(List Int)->(List (Str×Int×Unit))->Option ((List Int)×(List Int)×(List (Str×Int×Unit))×Unit))(a:List Str)(b:Int)(c:Int)(d:Str)(e:Int)(i:List Int)(j:List Int)(k:List (Str×Int×Unit))(l:List Int)(o:List Int)(p:List (Str×Int×Unit)):Option ((List Int)×(List Int)×(List (Str×Int×Unit))×Unit):=
  if(decide (e<(p.length:Int))) then
  (if 0<=e/\e<(p.length:Int) then
  (if(decide ((p.getD (e).toNat (([]:Str),((0:Int),()))).1=d)) then(Zaa.j10 n rl9 a b c i j k l o p)
  else(Zaa.j16 n rl9 a b c d e i j k l o p)) else none)
  else(Zaa.j16 n rl9 a b c d e i j k l o p)
def l13(n:Nat)(rl9:(List Str)->Int->Int->(List Int)->(List Int)->(List (Str×Int×Unit))->(List Int)->(List Int)->(List (Str×Int×Unit))->Option ((List Int)×(List Int)×(List (Str×Int×Unit))×Unit)):Nat->(List Str)->Int->Int->Str->Int->(List Int)->(List Int)->(List (Str×Int×Unit))->(List Int)->(List Int)->(List (Str×Int×Unit))->Option ((List Int)×(List Int)×(List (Str×Int×Unit))×Unit)
 |0,_,_,_,_,_,_,_,_,_,_,_=>none
 |m+1,a,b,c,d,e,i,j,k,l,o,p=>
  if(decide (e<(p.length:Int))) then
  (if 0<=e/\e<(p.length:Int) then
  (if(Op.bytesLess ((p.getD (e).toNat (([]:Str),((0:Int),()))).1) d) then
  ((Zaa.l13 n rl9 m) a b c d (IntKind.i64.wrap (e+(1:Int))) i j k l o p)
  else(Zaa.j15 n rl9 a b c d e i j k l o p)) else none)
  else(Zaa.j15 n rl9 a b c d e i j k l o p)
def j18(n:Nat)(a:List Int)(b:List Int)(c:List (Str×Int×Unit))(d:List Int)(e:List Int)(i:List (Str×Int×Unit)):Option ((List Int)×(List Int)×(List (Str×Int×Unit))×Unit):=
  some (d,e,i,())
def l9(n:Nat):Nat->(List Str)->Int->Int->(List Int)->(List Int)->(List (Str×Int×Unit))->(List Int)->(List Int)->(List (Str×Int×Unit))->Option ((List Int)×(List Int)×(List (Str×Int×Unit))×Unit)
 |0,_,_,_,_,_,_,_,_,_=>none
 |m+1,a,b,c,d,e,i,j,k,l=>
  if(decide (c<(a.length:Int))) then
  (if(decide (c<(8:Int))) then
  (if 0<=c/\c<(a.length:Int) then
  ((Zan.g (a.getD (c).toNat ([]:Str))).bind fun y1=>
  Zaa.l13 n (Zaa.l9 n m) n a b c y1.1 (0:Int) d e i j k l) else none)
  else(Zaa.j18 n d e i j k l))
  else(Zaa.j18 n d e i j k l)
def l5(n:Nat):Nat->(List Str)->Int->Int->(List Int)->(List Int)->(List (Str×Int×Unit))->(List Int)->(List Int)->(List (Str×Int×Unit))->Option ((List Int)×(List Int)×(List (Str×Int×Unit))×Unit)
 |0,_,_,_,_,_,_,_,_,_=>none
 |m+1,a,b,c,d,e,i,j,k,l=>
  if(decide (c<(k.length:Int))) then
  (if 0<=c/\c<(k.length:Int) then
  (if 0<=c/\c<(k.length:Int) then
  (if 0<=(k.getD (c).toNat (0:Int))/\(k.getD (c).toNat (0:Int))<(j.length:Int) then
  (if(IntKind.u32.wrap (IntKind.i64.wrap ((IntKind.i64.wrap ((4:Int)*b))+(1:Int))))=0 then none else
  (if 0<=(k.getD (c).toNat (0:Int))/\(k.getD (c).toNat (0:Int))<(j.length:Int) then
  ((Zaa.l5 n m) a b (IntKind.i64.wrap (c+(1:Int))) d e i (j.set ((k.getD (c).toNat (0:Int))).toNat (Int.tmod (j.getD ((k.getD (c).toNat (0:Int))).toNat (0:Int)) (IntKind.u32.wrap (IntKind.i64.wrap ((IntKind.i64.wrap ((4:Int)*b))+(1:Int)))))) k l) else none)) else none) else none) else none)
  else(Zaa.l9 n n a b (0:Int) d e i j k l)
def f(n:Nat)(a:List Int)(b:List Int)(c:List Str):Option ((List Int)×(List Int)×(List (Str×Int×Unit))×Unit):=
  if 0<=(mn (a.length:Int) (40:Int))/\(mn (a.length:Int) (40:Int))<=(a.length:Int) then
  (if(([]:List Int).length+((a.take (((mn (a.length:Int) (40:Int))).toNat)).drop 0).length)*4<=140737488355328/\0<4/\0<1 then
  ((Zap.g b ((([]:List Int)++((a.take (((mn (a.length:Int) (40:Int))).toNat)).drop 0)).length:Int)).bind fun y1=>
  Zaa.l5 n n c ((([]:List Int)++((a.take (((mn (a.length:Int) (40:Int))).toNat)).drop 0)).length:Int) (0:Int) ([]) ([]) ([]) (([]:List Int)++((a.take (((mn (a.length:Int) (40:Int))).toNat)).drop 0)) y1.1 ([])) else none) else none
def g(a:List Int)(b:List Int)(c:List Str):Option ((List Int)×(List Int)×(List (Str×Int×Unit))×Unit):=f (1000+a.length+b.length+c.length) a b c
end Zaa
end Rv
namespace Rv
open Go
set_option maxRecDepth 100000
namespace Zau
def f(n:Nat)(a:List Int)(b:List Int)(c:List (Str×Int×Unit))(d:Int):Option (Int×Bool×Unit):=
  if(decide (d<(0:Int)))=false then
  (if(decide ((a.length:Int)<=d))=false then
  ((Zay.g b d).bind fun y1=>
  if y1.1 then(some ((0:Int),false,()))
  else
  (if 0<=d/\d<(a.length:Int) then
  ((Zal.g (a.getD (d).toNat (0:Int))).bind fun y2=>
  if(!y2.2.2.2.2.2.2.2.1)=false then
  (if(decide (y2.1≠(7:Int)))=false then
  (if(decide ((IntKind.i64.wrap ((4:Int)*(IntKind.i64.wrap ((IntKind.i64.wrap (d+(1:Int)))+y2.2.2.2.2.2.1))))<(0:Int)))=false then
  (if(decide ((IntKind.i64.wrap ((4:Int)*(a.length:Int)))<(IntKind.i64.wrap ((4:Int)*(IntKind.i64.wrap ((IntKind.i64.wrap (d+(1:Int)))+y2.2.2.2.2.2.1)))))) then(some ((0:Int),false,()))
  else
  (some ((IntKind.i64.wrap ((4:Int)*(IntKind.i64.wrap ((IntKind.i64.wrap (d+(1:Int)))+y2.2.2.2.2.2.1)))),true,())))
  else(some ((0:Int),false,())))
  else(some ((0:Int),false,())))
  else(some ((0:Int),false,()))) else none))
  else(some ((0:Int),false,())))
  else(some ((0:Int),false,()))
def g(a:List Int)(b:List Int)(c:List (Str×Int×Unit))(d:Int):Option (Int×Bool×Unit):=f (1000+a.length+b.length+c.length+d.toNat) a b c d
end Zau
namespace Zbz
def g(a:List Int)(b:List Int)(c:List (Str×Int×Unit)):Option ((List Int)×Int×Unit):=L.labelOfO Zbe.g Zau.g a b c
end Zbz
namespace Zaj
def l3(n:Nat):Nat->Int->(List Int)->Int->Option (Str×Unit)
 |0,_,_,_=>none
 |m+1,a,b,c=>
  if(decide ((0:Int)<=c)) then
  (if c<0 then none else
  (if 0<=(aY .and .i64 ((a).fdiv (2 ^ (min c.toNat IntKind.i64.bits))) (15:Int))/\(aY .and .i64 ((a).fdiv (2 ^ (min c.toNat IntKind.i64.bits))) (15:Int))<(([48,49,50,51,52,53,54,55,56,57,65,66,67,68,69,70]:Str).length:Int) then
  (if(b.length+([(bt ([48,49,50,51,52,53,54,55,56,57,65,66,67,68,69,70]:Str) (aY .and .i64 ((a).fdiv (2 ^ (min c.toNat IntKind.i64.bits))) (15:Int)))]:List Int).length)*1<=140737488355328/\0<1/\0<1 then
  ((Zaj.l3 n m) a (b++([(bt ([48,49,50,51,52,53,54,55,56,57,65,66,67,68,69,70]:Str) (aY .and .i64 ((a).fdiv (2 ^ (min c.toNat IntKind.i64.bits))) (15:Int)))]:List Int)) (IntKind.i64.wrap (c-(4:Int)))) else none) else none))
  else(some ((bytesOf b),()))
def f(n:Nat)(a:Int):Option (Str×Unit):=
  Zaj.l3 n n a ([(95:Int)]:List Int) (12:Int)
def g(a:Int):Option (Str×Unit):=f (1000+a.toNat) a
end Zaj
structure fM where
 disasm_number:Int->Option ((List It)×Unit)
namespace disasm_number
def f(n:Nat)(R:fM)(a:Int):Option ((List It)×Unit):=
  if(decide (a<(0:Int))) then
  ((R.disasm_number (IntKind.i64.wrap (0-a))).bind fun y1=>
  if(y1.1.length+([((3:Int),0,([]:Str),())]:List It).length)*32<=140737488355328/\0<32/\0<3 then
  (some ((y1.1++([((3:Int),0,([]:Str),())]:List It)),())) else none)
  else
  (some (([((1:Int),(IntKind.u32.wrap a),([]:Str),())]:List It),()))
def h(R:fM)(a:Int):Option ((List It)×Unit):=f (1000+a.toNat) R a
end disasm_number
def aU:Nat->fM
 |0=>⟨fun _=>none⟩
 |q+1=>⟨disasm_number.h (aU q)⟩
def disasm_number.g(a:Int):Option ((List It)×Unit):=(aU (1000+a.toNat)).disasm_number a
namespace Zbc
def f(n:Nat)(a:Int):Option ((List It)×Unit):=
  (Zaj.g a).bind fun y1=>
  some (([((2:Int),0,y1.1,())]:List It),())
def g(a:Int):Option ((List It)×Unit):=f (1000+a.toNat) a
end Zbc
namespace Zag
def j9(n:Nat)(a:Int)(b:Int)(c:Int)(d:Int)(e:Int)(i:Bool)(j:List It)(k:Str)(l:Int)(o:Int)(p:Int)(q:Int)(r:Int)(s:Bool)(t:List It)(u:Str):Option Sn:=
  some (l,o,p,q,r,s,t,u,())
def j23(n:Nat)(a:Int)(b:Int)(c:Int)(d:Int)(e:Int)(i:Bool)(j:List It)(k:Str)(l:Int)(o:Int)(p:Int)(q:Int)(r:Int)(s:Bool)(t:List It)(u:Str):Option Sn:=
  some (l,o,p,q,r,s,t,u,())
def f(n:Nat)(a:List Int)(b:List Int)(c:List (Str×Int×Unit))(d:Int):Option Sn:=
  if(decide (d<(0:Int)))=false then
  (if(decide ((a.length:Int)<=d)) then(some (0,0,0,0,0,false,[],([]:Str),()))
  else
  (if 0<=d/\d<(a.length:Int) then
  ((disasm_number.g (IntKind.i64.wrap (a.getD (d).toNat (0:Int)))).bind fun y1=>
  (Zay.g b d).bind fun y2=>
  if y2.1 then
  ((Zbc.g (IntKind.i64.wrap (a.getD (d).toNat (0:Int)))).bind fun y3=>
  if(decide ((Int.tmod (IntKind.i64.wrap (a.getD (d).toNat (0:Int))) (4:Int))≠(0:Int))) then
  ((Zbc.g (0:Int)).bind fun y4=>
  (disasm_number.g (IntKind.i64.wrap (a.getD (d).toNat (0:Int)))).bind fun y5=>
  if(y4.1.length+y5.1.length)*32<=140737488355328/\0<32/\0<3 then
  (if((y4.1++y5.1).length+([((4:Int),0,([]:Str),())]:List It).length)*32<=140737488355328/\0<32/\0<3 then
  (Zag.j9 n 0 0 0 0 0 false ([]) ([]:Str) (9:Int) 0 0 0 0 false ((y4.1++y5.1)++([((4:Int),0,([]:Str),())]:List It)) ([]:Str)) else none) else none)
  else
  (Zag.j9 n 0 0 0 0 0 false ([]) ([]:Str) (9:Int) 0 0 0 0 false y3.1 ([]:Str)))
  else
  (if 0<=d/\d<(a.length:Int) then
  ((Zal.g (a.getD (d).toNat (0:Int))).bind fun y6=>
  if(!y6.2.2.2.2.2.2.2.1) then(some ((9:Int),0,0,0,0,false,y1.1,([]:Str),()))
  else
  (if(decide (y6.1=(7:Int))) then
  ((Zau.g a b c d).bind fun y7=>
  if(!y7.2.1) then(some ((9:Int),0,0,0,0,false,y1.1,([]:Str),()))
  else
  ((Zbc.g y7.1).bind fun y8=>
  Zag.j23 n 0 0 0 0 0 false ([]) ([]:Str) y6.1 y6.2.1 y6.2.2.1 y6.2.2.2.1 y6.2.2.2.2.1 y6.2.2.2.2.2.2.1 y8.1 ([]:Str)))
  else
  (if(decide (y6.1=(2:Int))) then
  (if(decide (y6.1=(2:Int))) then
  ((disasm_number.g y6.2.2.2.2.2.1).bind fun y9=>
  Zag.j23 n 0 0 0 0 0 false ([]) ([]:Str) y6.1 y6.2.1 y6.2.2.1 y6.2.2.2.1 y6.2.2.2.2.1 y6.2.2.2.2.2.2.1 y9.1 ([]:Str))
  else
  (Zag.j23 n 0 0 0 0 0 false ([]) ([]:Str) y6.1 y6.2.1 y6.2.2.1 y6.2.2.2.1 y6.2.2.2.2.1 y6.2.2.2.2.2.2.1 ([]) ([]:Str)))
  else
  (if(decide (y6.1=(5:Int))) then
  ((disasm_number.g y6.2.2.2.2.2.1).bind fun y10=>
  Zag.j23 n 0 0 0 0 0 false ([]) ([]:Str) y6.1 y6.2.1 y6.2.2.1 y6.2.2.2.1 y6.2.2.2.2.1 y6.2.2.2.2.2.2.1 y10.1 ([]:Str))
  else
  (Zag.j23 n 0 0 0 0 0 false ([]) ([]:Str) y6.1 y6.2.1 y6.2.2.1 y6.2.2.2.1 y6.2.2.2.2.1 y6.2.2.2.2.2.2.1 ([]) ([]:Str)))))) else none)) else none))
  else(some (0,0,0,0,0,false,[],([]:Str),()))
def g(a:List Int)(b:List Int)(c:List (Str×Int×Unit))(d:Int):Option Sn:=f (1000+a.length+b.length+c.length+d.toNat) a b c d
end Zag
namespace Zco
def g(a:List Int)(b:List Int)(c:List (Str×Int×Unit)):Option ((List Ln)×Int×Unit):=L.linesO Zbe.g Zbz.g Zbf.g Zaj.g Zag.g a b c
end Zco
namespace Zcp
def f(n:Nat)(a:List Int)(b:List Int)(c:List (Str×Int×Unit)):Option (Str×Int×Unit):=
  (Zco.g a b c).bind fun y1=>
  if(decide (y1.2.1≠(0:Int))) then(some (([]:Str),y1.2.1,()))
  else
  ((Zcn.g y1.1).bind fun y2=>
  some (y2.1,y2.2.2.1,()))
def g(a:List Int)(b:List Int)(c:List (Str×Int×Unit)):Option (Str×Int×Unit):=f (1000+a.length+b.length+c.length) a b c
end Zcp
end Rv
namespace Rv
open Go
set_option maxRecDepth 100000
namespace Zam
def f(n:Nat):Option (Bool×Unit):=
  (Zcp.g ([(1090519045:Int),(3892314110:Int)]:List Int) ([]) ([])).bind fun y1=>
  if(decide (y1.1=([95,48,48,48,48,58,10,77,79,86,32,82,49,44,32,53,10,66,32,95,48,48,48,48,10]:Str))) then(some ((decide (y1.2.1=(0:Int))),()))
  else(some (false,()))
def g:Option (Bool×Unit):=f (1000)
end Zam
namespace rivetlaw23_DisasmWords
def j5(a_rivetlaw23_shown:Option (Bool×Unit))(n:Nat)(rl4:Bool->Int->(List Int)->(List Int)->(List (Str×Int×Unit))->Option (Bool×Unit))(a:Bool)(b:Int)(c:List Int)(d:List Int)(e:List (Str×Int×Unit)):Option (Bool×Unit):=
  rl4 a (IntKind.i64.wrap (b+(1:Int))) c d e
def j12(a_rivetlaw23_shown:Option (Bool×Unit))(n:Nat)(rl4:Bool->Int->(List Int)->(List Int)->(List (Str×Int×Unit))->Option (Bool×Unit))(a:Bool)(b:Int)(c:Bool)(d:List Int)(e:List Int)(i:List (Str×Int×Unit))(j:Int)(k:Int)(l:Int)(o:Int)(p:Int)(q:Bool)(r:List It)(s:Str)(t:Int)(u:Int)(v:Int)(w:Int)(x:Int)(z:Int)(A:Bool):Option (Bool×Unit):=
  if(!c) then
  (if(decide (j≠t))=false then
  (if(decide (k≠u))=false then
  (if(decide (l≠v))=false then
  (if(decide (o≠w))=false then
  (if(decide (p≠x))=false then
  (if(!(q == A)) then(some (false,()))
  else(rivetlaw23_DisasmWords.j5 a_rivetlaw23_shown n rl4 a b d e i))
  else(some (false,())))
  else(some (false,())))
  else(some (false,())))
  else(some (false,())))
  else(some (false,())))
  else(rivetlaw23_DisasmWords.j5 a_rivetlaw23_shown n rl4 a b d e i)
def j10(a_rivetlaw23_shown:Option (Bool×Unit))(n:Nat)(rl4:Bool->Int->(List Int)->(List Int)->(List (Str×Int×Unit))->Option (Bool×Unit))(a:Bool)(b:Int)(c:Bool)(d:List Int)(e:List Int)(i:List (Str×Int×Unit))(j:Int)(k:Int)(l:Int)(o:Int)(p:Int)(q:Bool)(r:List It)(s:Str)(t:Int)(u:Int)(v:Int)(w:Int)(x:Int)(z:Int)(A:Bool):Option (Bool×Unit):=
  if c then
  (if(decide (j≠(9:Int)))=false then
  (if(decide ((r.length:Int)≠(1:Int)))=false then
  (if 0<=(0:Int)/\(0:Int)<(r.length:Int) then
  (if 0<=b/\b<(d.length:Int) then
  (if(!(decide ((r.getD ((0:Int)).toNat zI).1=(1:Int))&&(decide (((r.getD ((0:Int)).toNat zI).2).1=(d.getD (b).toNat (0:Int)))&&(decide ((((r.getD ((0:Int)).toNat zI).2).2).1=([]:Str))&&true)))) then(some (false,()))
  else
  (rivetlaw23_DisasmWords.j12 a_rivetlaw23_shown n rl4 a b c d e i j k l o p q r s t u v w x z A)) else none) else none)
  else(some (false,())))
  else(some (false,())))
  else
  (rivetlaw23_DisasmWords.j12 a_rivetlaw23_shown n rl4 a b c d e i j k l o p q r s t u v w x z A)
def l4(a_rivetlaw23_shown:Option (Bool×Unit))(n:Nat):Nat->Bool->Int->(List Int)->(List Int)->(List (Str×Int×Unit))->Option (Bool×Unit)
 |0,_,_,_,_,_=>none
 |m+1,a,b,c,d,e=>
  if(decide (b<(c.length:Int))) then
  ((Zag.g c d e b).bind fun y1=>
  if 0<=b/\b<(c.length:Int) then
  ((Zal.g (c.getD (b).toNat (0:Int))).bind fun y2=>
  if(!y2.2.2.2.2.2.2.2.1)=false then
  (if(decide (y2.1=(7:Int))) then
  (if(decide ((IntKind.i64.wrap ((IntKind.i64.wrap (b+(1:Int)))+y2.2.2.2.2.2.1))<(0:Int)))=false then
  (rivetlaw23_DisasmWords.j10 a_rivetlaw23_shown n (rivetlaw23_DisasmWords.l4 a_rivetlaw23_shown n m) a b (decide ((c.length:Int)<(IntKind.i64.wrap ((IntKind.i64.wrap (b+(1:Int)))+y2.2.2.2.2.2.1)))) c d e y1.1 y1.2.1 y1.2.2.1 y1.2.2.2.1 y1.2.2.2.2.1 y1.2.2.2.2.2.1 y1.2.2.2.2.2.2.1 y1.2.2.2.2.2.2.2.1 y2.1 y2.2.1 y2.2.2.1 y2.2.2.2.1 y2.2.2.2.2.1 y2.2.2.2.2.2.1 y2.2.2.2.2.2.2.1)
  else
  (rivetlaw23_DisasmWords.j10 a_rivetlaw23_shown n (rivetlaw23_DisasmWords.l4 a_rivetlaw23_shown n m) a b true c d e y1.1 y1.2.1 y1.2.2.1 y1.2.2.2.1 y1.2.2.2.2.1 y1.2.2.2.2.2.1 y1.2.2.2.2.2.2.1 y1.2.2.2.2.2.2.2.1 y2.1 y2.2.1 y2.2.2.1 y2.2.2.2.1 y2.2.2.2.2.1 y2.2.2.2.2.2.1 y2.2.2.2.2.2.2.1))
  else
  (rivetlaw23_DisasmWords.j10 a_rivetlaw23_shown n (rivetlaw23_DisasmWords.l4 a_rivetlaw23_shown n m) a b false c d e y1.1 y1.2.1 y1.2.2.1 y1.2.2.2.1 y1.2.2.2.2.1 y1.2.2.2.2.2.1 y1.2.2.2.2.2.2.1 y1.2.2.2.2.2.2.2.1 y2.1 y2.2.1 y2.2.2.1 y2.2.2.2.1 y2.2.2.2.2.1 y2.2.2.2.2.2.1 y2.2.2.2.2.2.2.1))
  else
  (rivetlaw23_DisasmWords.j10 a_rivetlaw23_shown n (rivetlaw23_DisasmWords.l4 a_rivetlaw23_shown n m) a b true c d e y1.1 y1.2.1 y1.2.2.1 y1.2.2.2.1 y1.2.2.2.2.1 y1.2.2.2.2.2.1 y1.2.2.2.2.2.2.1 y1.2.2.2.2.2.2.2.1 y2.1 y2.2.1 y2.2.2.1 y2.2.2.2.1 y2.2.2.2.2.1 y2.2.2.2.2.2.1 y2.2.2.2.2.2.2.1)) else none)
  else
  (if a then
  ((Zag.g c d e (c.length:Int)).bind fun y3=>
  some ((decide ((y3.2.2.2.2.2.2.1.length:Int)=(0:Int))),()))
  else(some (false,())))
def f(a_rivetlaw23_shown:Option (Bool×Unit))(n:Nat)(a:List Int)(b:List Int)(c:List Str):Option (Bool×Unit):=
  (a_rivetlaw23_shown).bind fun y1=>
  (Zaa.g a ([]) c).bind fun y2=>
  rivetlaw23_DisasmWords.l4 a_rivetlaw23_shown n n y1.1 (0:Int) y2.1 y2.2.1 y2.2.2.1
def g(a:List Int)(b:List Int)(c:List Str):Option (Bool×Unit):=f Zam.g (1000+a.length+b.length+c.length) a b c
end rivetlaw23_DisasmWords
end Rv
namespace Rv
open Go Go.Proofs
noncomputable section
set_option maxRecDepth 100000
set_option maxHeartbeats 2000000
variable{ad:LQ}
abbrev u0:Ty:=.pair .str (.pair (.int .i64) .nil)
abbrev u1:Ty:=.pair (.int .i64) (.pair (.int .i64) (.pair (.int .i64) .nil))
abbrev u2:Ty:=.pair (.int .i64) (.pair (.int .u32) (.pair .str .nil))
abbrev u3:Ty:=.pair .str (.pair (.pair (.int .i64) (.pair (.int .i64) (.pair (.int .i64) (.pair (.int .i64) (.pair (.int .i64) (.pair .bool (.pair (.sl (.pair (.int .i64) (.pair (.int .u32) (.pair .str .nil)))) (.pair .str .nil)))))))) .nil)
abbrev u4:Ty:=.pair .fn (.pair .fn .nil)
abbrev u5:Ty:=.pair (.int .i64) (.pair (.int .i64) (.pair .str (.pair (.int .u32) .nil)))
abbrev u6:Ty:=.pair (.int .u32) (.pair (.int .i64) .nil)
abbrev u7:Ty:=.pair (.sl (.int .u32)) (.pair (.sl (.int .i64)) (.pair (.sl (.pair .str (.pair (.int .i64) .nil))) .nil))
abbrev u8:Ty:=.pair (.int .i64) (.pair (.int .i64) (.pair (.int .i64) (.pair (.int .i64) (.pair (.int .i64) (.pair .bool (.pair (.sl (.pair (.int .i64) (.pair (.int .u32) (.pair .str .nil)))) (.pair .str .nil)))))))
abbrev u9:Ty:=.pair (.sl (.int .u32)) (.pair (.sl (.int .u8)) (.pair (.sl .str) .nil))
abbrev u10:Ty:=.pair (.int .i64) (.pair (.int .i64) (.pair (.int .i64) (.pair (.int .i64) (.pair (.int .i64) (.pair (.int .i64) (.pair .bool .nil))))))
abbrev u11:Ty:=.pair (.sl (.int .i64)) (.pair (.sl (.pair .str (.pair (.int .i64) .nil))) (.pair (.sl (.pair (.int .u32) (.pair (.int .i64) .nil))) (.pair (.int .i64) (.pair (.int .i64) .nil))))
abbrev u12:Ty:=.pair (.pair (.sl (.int .i64)) (.pair (.sl (.pair .str (.pair (.int .i64) .nil))) (.pair (.sl (.pair (.int .u32) (.pair (.int .i64) .nil))) (.pair (.int .i64) (.pair (.int .i64) .nil))))) (.pair (.pair (.sl (.int .u32)) (.pair (.sl (.int .i64)) (.pair (.sl (.pair .str (.pair (.int .i64) .nil))) .nil))) .nil)
abbrev u13:Ty:=.pair (.sl (.pair (.int .i64) (.pair (.int .i64) (.pair .str (.pair (.int .u32) .nil))))) (.pair (.int .i64) (.pair (.int .i64) .nil))
abbrev u14:Ty:=.pair (.int .i64) (.pair (.int .i64) .nil)
abbrev u15:Ty:=.pair (.sl (.pair (.int .i64) (.pair (.int .i64) (.pair .str (.pair (.int .u32) .nil))))) (.pair (.int .i64) (.pair (.sl (.pair (.int .i64) (.pair (.int .u32) (.pair .str .nil)))) (.pair (.int .i64) .nil)))
abbrev c0:List CD:=[.sl (.int .u32),.sl (.int .i64),.sl u0]
abbrev c1:List CD:=[ki,ki,ki,ki,ki,ki,.bool]
abbrev c2:List CD:=[ki,ki,ki,ki,ki,.bool,.sl u2,.str]
abbrev c3:List CD:=[.str,ki,ki,ki,ki,ki,.bool,.sl u2,.str]
abbrev c4:List CD:=[.row 51 (.int .u32),.row 3 (.int .i64),.row 70 u0]
abbrev c5:List CD:=[.sl (.int .u32),.sl (.int .u8),.sl .str]
abbrev c6:List CD:=[.sl u5,ki,.row 53 u2,ki]
abbrev c7:List CD:=[.row 3 (.int .i64),.row 70 u0,.sl u6,ki,ki]
abbrev c8:List CD:=[.sl (.int .i64),.sl u0,.sl u6,ki,ki,.row 51 (.int .u32),.row 3 (.int .i64),.row 70 u0]
def types:List (TypeId×TI):=[
 tI 2 .i64 8,
 tI 3 .i64 8,
 tB 4 1,
 tI 5 .u8 1,
 tS 9 16,
 tI 21 .i32 4,
 tL 22 51 (.int .u32),
 tL 23 3 (.int .i64),
 tL 24 70 u0,
 (26,⟨3,true,72,[.nilS,.nilS,.nilS],[(0,1,false),(1,1,false),(2,1,false)],none,some u7,none,false,false,false,none,none⟩),
 tL 29 78 u3,
 tI 30 .i64 8,
 tL 36 53 u2,
 (38,⟨8,true,88,[.int .i64 0,.int .i64 0,.int .i64 0,.int .i64 0,.int .i64 0,.bool false,.nilS,.str []],[(0,1,false),(1,1,false),(2,1,false),(3,1,false),(4,1,false),(5,1,false),(6,1,false),(7,1,false)],none,some u8,none,false,false,false,none,none⟩),
 tL 42 5 (.int .u8),
 tL 43 9 .str,
 (45,⟨3,true,72,[.nilS,.nilS,.nilS],[(0,1,false),(1,1,false),(2,1,false)],none,some u9,none,false,false,false,none,none⟩),
 (48,⟨7,true,56,[.int .i64 0,.int .i64 0,.int .i64 0,.int .i64 0,.int .i64 0,.int .i64 0,.bool false],[(0,1,false),(1,1,false),(2,1,false),(3,1,false),(4,1,false),(5,1,false),(6,1,false)],none,some u10,none,false,false,false,some u10,none⟩),
 tI 51 .u32 4,
 (53,⟨3,true,32,[.int .i64 0,.int .u32 0,.str []],[(0,1,false),(1,1,false),(2,1,false)],none,some u2,none,false,false,false,some u2,none⟩),
 (70,⟨2,true,24,[.str [],.int .i64 0],[(0,1,false),(1,1,false)],none,some u0,none,false,false,false,some u0,none⟩),
 (78,⟨9,true,104,[.str [],.int .i64 0,.int .i64 0,.int .i64 0,.int .i64 0,.int .i64 0,.bool false,.nilS,.str []],[(0,1,false),(1,8,true)],none,some u3,none,false,false,false,none,none⟩),
 tL 96 106 u6,
 (98,⟨5,true,88,[.nilS,.nilS,.nilS,.int .i64 0,.int .i64 0],[(0,1,false),(1,1,false),(2,1,false),(3,1,false),(4,1,false)],none,some u11,none,false,false,false,none,none⟩),
 (101,⟨1,false,8,[.raw (.pointer none)],[],none,none,none,false,false,false,none,none⟩),
 (103,⟨8,true,160,[.nilS,.nilS,.nilS,.int .i64 0,.int .i64 0,.nilS,.nilS,.nilS],[(0,5,true),(5,3,true)],none,some u12,none,false,false,false,none,none⟩),
 (106,⟨2,true,16,[.int .u32 0,.int .i64 0],[(0,1,false),(1,1,false)],none,some u6,none,false,false,false,some u6,none⟩),
 tI 135 .u64 8,
 (138,⟨3,true,24,[.int .i64 0,.int .i64 0,.int .i64 0],[],none,some u1,none,false,false,false,none,some 3⟩),
 tL 143 199 u5,
 (150,⟨1,false,8,[.raw .nilFunc],[],none,some .fn,none,false,false,false,none,none⟩),
 tL 155 150 .fn,
 tL 175 180 u4,
 (177,⟨1,false,8,[.raw .nilFunc],[],none,some .fn,none,false,false,false,none,none⟩),
 (178,⟨1,false,8,[.raw .nilFunc],[],none,some .fn,none,false,false,false,none,none⟩),
 (180,⟨2,true,16,[.raw .nilFunc,.raw .nilFunc],[(0,1,false),(1,1,false)],none,some u4,none,false,false,false,none,none⟩),
 (186,⟨1,false,16,[.raw .nilIface],[],none,none,none,false,true,false,none,none⟩),
 tL 194 138 u1,
 (199,⟨4,true,40,[.int .i64 0,.int .i64 0,.str [],.int .u32 0],[(0,1,false),(1,1,false),(2,1,false),(3,1,false)],none,some u5,none,false,false,false,none,none⟩),
 (205,⟨3,true,40,[.nilS,.int .i64 0,.int .i64 0],[(0,1,false),(1,1,false),(2,1,false)],none,some u13,none,false,false,false,none,none⟩),
 tL 212 106 u6,
 (219,⟨2,true,16,[.int .i64 0,.int .i64 0],[],none,some u14,none,false,false,false,none,some 2⟩),
 (236,⟨1,false,8,[.raw .nilFunc],[],none,some .fn,none,false,false,false,none,none⟩),
 tI 247 .u64 8,
 (284,⟨1,false,8,[.raw (.pointer none)],[],none,none,none,false,false,false,none,none⟩),
 (286,⟨4,true,64,[.nilS,.int .i64 0,.nilS,.int .i64 0],[(0,1,false),(1,1,false),(2,1,false),(3,1,false)],none,some u15,none,false,false,false,none,none⟩),
 tL 287 289 u0,
 (289,⟨2,true,24,[.str [],.int .i64 0],[(0,1,false),(1,1,false)],none,some u0,none,false,false,false,none,none⟩),
 tI 296 .i64 8]
theorem o9:(types.all fun p=>gT P p.1 p.2)=true:=by kernel_rfl
def slices_Clone_uint32_uint32.T(ad:LQ):TF P (LW ad):=⟨109,[],slices_Clone_uint32_uint32.sp,slices_Clone_uint32_uint32.sat,slices_Clone_uint32_uint32.enter⟩
def strings_Trim.T(ad:LQ):TF P (LW ad):=⟨112,[],strings_Trim.sp,strings_Trim.sat,strings_Trim.enter⟩
def strconv_Itoa.T(ad:LQ):TF P (LW ad):=⟨223,[],strconv_Itoa.sp,strconv_Itoa.sat,strconv_Itoa.enter⟩
def internal_strconv_FormatUint.T(ad:LQ):TF P (LW ad):=⟨286,[],internal_strconv_FormatUint.sp,internal_strconv_FormatUint.sat,internal_strconv_FormatUint.enter⟩
def name_Mnemonic.T(ad:LQ):TF P (LW ad):=⟨125,[],name_Mnemonic.sp,name_Mnemonic.sat,name_Mnemonic.enter⟩
def stmt_operands.T(ad:LQ):TF P (LW ad):=⟨128,[],stmt_operands.sp,stmt_operands.sat,stmt_operands.enter⟩
def strings_Join.T(ad:LQ):TF P (LW ad):=⟨82,[],strings_Join.sp,strings_Join.sat,strings_Join.enter⟩
def mkF(ad:LQ):=@mkT P (LW ad) types mixed o9 maps qL
def DI(ad:LQ):=@CS P (LW ad) types mixed o9 maps qL
namespace Zbd
def sp:Spec:=ak ⟨[(0,.c (.sl (.int .u32))),(1,.c (.sl (.int .i64)))],[]⟩ ⟨[(0,.c (.row 51 (.int .u32))),(1,Si),(2,Si)],[]⟩ g
noncomputable def T(ad:LQ):=mkF ad 59 [] sp [slices_Clone_uint32_uint32.T ad] t0 (fun n=>tl 12 ⟨[(10,.c (.row 51 (.int .u32))),(11,Si),(37,.c (.sl (.int .i64))),(38,Si),(39,Si)],[]⟩ (fun _=>l12 n) <| tl 3 ⟨[(0,.c (.sl (.int .u32))),(1,.c (.sl (.int .i64))),(7,Si),(14,.c (.sl (.int .i64))),(15,Si),(16,Si)],[]⟩ (fun _=>l3 n) <| tn) t0 64 [] f (fun a b=>1000+a.length+b.length) (by kernel_rfl)
end Zbd
namespace Zca
def sp:Spec:=ak ⟨[(0,Si),(1,Sp 0 0),(2,Sp 1 0)],[(some 1,c0),(some 2,[ki])]⟩ ⟨[(0,SB)],[(none,c0),(none,[ki])]⟩ g
noncomputable def T(ad:LQ):=mkF ad 65 [] sp [] t0 t0 t0 13 [] f (fun a b c d e=>1000+a.toNat+b.length+c.length+d.length+e.toNat) (by kernel_rfl)
end Zca
namespace Zbn
def sp:Spec:=ak ⟨[(0,.c (.sl (.int .i64))),(1,.clo 65 [.ptr 0 0,.ptr 1 0])],[(some 1,c0),(some 2,[ki])]⟩ ⟨[(0,Si)],[(none,c0),(none,[ki])]⟩ g
noncomputable def T(ad:LQ):=mkF ad 113 [65] sp [Zca.T ad] t0 (fun n=>tl 2 ⟨[(0,.c (.sl (.int .i64))),(1,.clo 65 [.ptr 0 0,.ptr 1 0]),(7,Si),(8,Si)],[(none,c0),(none,[ki])]⟩ (fun _=>l2 n) <| tn) t0 19 [] f (fun a b c d e=>1000+a.length+b.length+c.length+d.length+e.toNat) (by kernel_rfl)
end Zbn
namespace Zcb
def sp:Spec:=ak ⟨[(0,.c (.sl (.int .i64))),(1,.clo 65 [.ptr 0 0,.ptr 1 0])],[(some 1,c0),(some 2,[ki])]⟩ ⟨[(0,SB)],[(none,c0),(none,[ki])]⟩ g
noncomputable def T(ad:LQ):=mkF ad 69 [65] sp [Zbn.T ad] t0 t0 t0 9 [] f (fun a b c d e=>1000+a.length+b.length+c.length+d.length+e.toNat) (by kernel_rfl)
end Zcb
namespace Zav
def sp:Spec:=ak ⟨[(0,Sb),(1,SB)],[]⟩ ⟨[(0,SB)],[]⟩ g
noncomputable def T(ad:LQ):=mkF ad 111 [] sp [] (fun n=>tj 4 ⟨[(0,Sb),(1,SB)],[]⟩ (fun _=>j4 n) <| tn) t0 t0 32 [] f (fun a _=>1000+a.toNat) (by kernel_rfl)
end Zav
namespace Zaw
def sp:Spec:=ak ⟨[(0,Ss)],[]⟩ ⟨[(0,SB)],[]⟩ g
noncomputable def T(ad:LQ):=mkF ad 68 [] sp [Zav.T ad,strings_Trim.T ad] t0 (fun n=>tl 4 ⟨[(0,Ss),(14,Si),(15,Si)],[]⟩ (fun _=>l4 n) <| tn) t0 47 [] f (fun a=>1000+a.length) (by kernel_rfl)
end Zaw
namespace Zax
def sp:Spec:=ak ⟨[(0,Sp 0 0)],[(some 0,c0)]⟩ ⟨[(0,SB)],[(none,c0)]⟩ g
noncomputable def T(ad:LQ):=mkF ad 67 [] sp [Zaw.T ad] (fun n=>tj 6 ⟨[(0,Sp 0 0),(5,.c (.sl u0)),(6,Si),(7,Si)],[(none,c0)]⟩ (fun ms=>j6 n (l2 n ms.head!)) <| tn) (fun n=>tl 2 ⟨[(0,Sp 0 0),(5,.c (.sl u0)),(6,Si),(7,Si)],[(none,c0)]⟩ (fun _=>l2 n) <| tn) t0 33 [] f (fun a b c=>1000+a.length+b.length+c.length) (by kernel_rfl)
end Zax
namespace Zcc
def sp:Spec:=ak ⟨[(0,.agg [.str,ki]),(1,Sp 0 0)],[(some 2,[ki])]⟩ ⟨[(0,SB)],[(none,[ki])]⟩ g
noncomputable def T(ad:LQ):=mkF ad 66 [] sp [] t0 t0 t0 19 [] f (fun a b c=>1000+a.length+b.toNat+c.toNat) (by kernel_rfl)
end Zcc
namespace Zbo
def sp:Spec:=ak ⟨[(0,.c (.sl u0)),(1,.clo 66 [.ptr 0 0])],[(some 1,[ki])]⟩ ⟨[(0,Si)],[(none,[ki])]⟩ g
noncomputable def T(ad:LQ):=mkF ad 114 [66] sp [Zcc.T ad] t0 (fun n=>tl 2 ⟨[(0,.c (.sl u0)),(1,.clo 66 [.ptr 0 0]),(7,Si),(8,Si)],[(none,[ki])]⟩ (fun _=>l2 n) <| tn) t0 19 [] f (fun a b=>1000+a.length+b.toNat) (by kernel_rfl)
end Zbo
namespace Zcd
def sp:Spec:=ak ⟨[(0,.c (.sl u0)),(1,.clo 66 [.ptr 0 0])],[(some 1,[ki])]⟩ ⟨[(0,SB)],[(none,[ki])]⟩ g
noncomputable def T(ad:LQ):=mkF ad 70 [66] sp [Zbo.T ad] t0 t0 t0 9 [] f (fun a b=>1000+a.length+b.toNat) (by kernel_rfl)
end Zcd
namespace Zbe
def sp:Spec:=ak ⟨[(0,.agg c0)],[]⟩ ⟨[(0,Si)],[]⟩ g
noncomputable def T(ad:LQ):=mkF ad 29 [] sp [Zbd.T ad,Zcb.T ad,Zax.T ad,Zcd.T ad] t0 t0 t0 54 [] f (fun a b c=>1000+a.length+b.length+c.length) (by kernel_rfl)
end Zbe
namespace Zaq
def sp:Spec:=ak ⟨[(0,.c (.sl (.int .i64))),(1,Si)],[]⟩ ⟨[(0,Si)],[]⟩ g
noncomputable def T(ad:LQ):=mkF ad 84 [] sp [] t0 (fun n=>tl 2 ⟨[(0,.c (.sl (.int .i64))),(1,Si),(7,Si),(8,Si)],[]⟩ (fun _=>l2 n) <| tn) t0 19 [] f (fun a b=>1000+a.length+b.toNat) (by kernel_rfl)
end Zaq
namespace Zay
def sp:Spec:=ak ⟨[(0,.c (.sl (.int .i64))),(1,Si)],[]⟩ ⟨[(0,SB)],[]⟩ g
noncomputable def T(ad:LQ):=mkF ad 40 [] sp [Zaq.T ad] t0 t0 t0 9 [] f (fun a b=>1000+a.length+b.toNat) (by kernel_rfl)
end Zay
namespace Zbj
def sp:Spec:=ak ⟨[(0,Si),(1,Si),(2,Sp 0 0),(3,Sp 1 0)],[(some 2,[ku]),(some 3,[ku])]⟩ ⟨[],[(none,[ku]),(none,[ku])]⟩ g
noncomputable def T(ad:LQ):=mkF ad 140 [] sp [] t0 t0 t0 14 [] f (fun a b c d=>1000+a.toNat+b.toNat+c.toNat+d.toNat) (by kernel_rfl)
end Zbj
namespace Zas
def sp:Spec:=ak ⟨[(0,Si),(1,Si),(2,.clo 140 [.ptr 0 0,.ptr 1 0])],[(some 2,[ku]),(some 3,[ku])]⟩ ⟨[],[(none,[ku]),(none,[ku])]⟩ g
noncomputable def T(ad:LQ):=mkF ad 139 [140] sp [Zbj.T ad] t0 (fun n=>tl 2 ⟨[(0,Si),(1,Si),(2,.clo 140 [.ptr 0 0,.ptr 1 0]),(6,Si)],[(none,[ku]),(none,[ku])]⟩ (fun _=>l2 n) <| tn) t0 38 [] f (fun a b c d=>1000+a.toNat+b.toNat+c.toNat+d.toNat) (by kernel_rfl)
end Zas
namespace Zbk
def sp:Spec:=ak ⟨[(0,Su),(1,Si),(2,Si)],[]⟩ ⟨[(0,Su)],[]⟩ g
noncomputable def T(ad:LQ):=mkF ad 88 [] sp [Zas.T ad] t0 t0 t0 13 [] f (fun a b c=>1000+a.toNat+b.toNat+c.toNat) (by kernel_rfl)
end Zbk
namespace Zaf
def sp:Spec:=ak ⟨[(0,Si),(1,Si),(2,.c (.pp (.int .u32)))],[]⟩ ⟨[(0,Si)],[]⟩ g
noncomputable def T(ad:LQ):=mkF ad 87 [] sp [Zbk.T ad] t0 t0 t0 11 [] f (fun a b c=>1000+a.toNat+b.toNat+c.toNat) (by kernel_rfl)
end Zaf
namespace Zbp
def sp:Spec:=ak ⟨[(0,Si)],[]⟩ ⟨[(0,Si)],[]⟩ g
noncomputable def T(ad:LQ):=mkF ad 141 [] sp [] t0 t0 t0 6 [] f (fun a=>1000+a.toNat) (by kernel_rfl)
end Zbp
namespace Zbi
def sp:Spec:=ak ⟨[(0,Su),(1,Si)],[]⟩ ⟨[(0,Si)],[]⟩ g
noncomputable def T(ad:LQ):=mkF ad 89 [] sp [Zbp.T ad] t0 t0 t0 16 [] f (fun a b=>1000+a.toNat+b.toNat) (by kernel_rfl)
end Zbi
namespace Zah
def sp:Spec:=ak ⟨[(0,Su)],[]⟩ ⟨[(0,.agg c1)],[]⟩ g
noncomputable def T(ad:LQ):=mkF ad 50 [] sp [Zaf.T ad,Zbi.T ad] (fun n=>tj 16 ⟨[(2,Sp 0 0),(6,Sp 1 0)],[(some 0,c1),(some 1,c1)]⟩ (fun _=>j16 n) <| tn) t0 t0 80 [] f (fun a=>1000+a.toNat) (by kernel_rfl)
end Zah
namespace Zba
def sp:Spec:=ak ⟨[(0,Si),(1,Si),(2,Si)],[]⟩ ⟨[(0,SB)],[]⟩ g
noncomputable def T(ad:LQ):=mkF ad 90 [] sp [] t0 t0 t0 15 [] f (fun a b c=>1000+a.toNat+b.toNat+c.toNat) (by kernel_rfl)
end Zba
namespace Zbw
def sp:Spec:=ak ⟨[(0,SB)],[]⟩ ⟨[(0,Su)],[]⟩ g
noncomputable def T(ad:LQ):=mkF ad 143 [] sp [] t0 t0 t0 4 [] f (fun _=>(1000:Nat)) (by kernel_rfl)
end Zbw
namespace Zak
def sp:Spec:=ak ⟨[(0,Si),(1,SB),(2,SB)],[]⟩ ⟨[(0,.agg [ki,ki,ki])],[]⟩ g
noncomputable def T(ad:LQ):=mkF ad 92 [] sp [Zbw.T ad] t0 t0 t0 19 [] f (fun a _ _=>1000+a.toNat) (by kernel_rfl)
end Zak
namespace Zbl
def sp:Spec:=ak ⟨[(0,Si),(1,Si),(2,Sp 0 0),(3,Sp 1 0)],[(some 2,[ku]),(some 3,[ku])]⟩ ⟨[],[(none,[ku]),(none,[ku])]⟩ g
noncomputable def T(ad:LQ):=mkF ad 195 [] sp [] t0 t0 t0 17 [] f (fun a b c d=>1000+a.toNat+b.toNat+c.toNat+d.toNat) (by kernel_rfl)
end Zbl
namespace Zat
def sp:Spec:=ak ⟨[(0,Si),(1,Si),(2,.clo 195 [.ptr 0 0,.ptr 1 0])],[(some 2,[ku]),(some 3,[ku])]⟩ ⟨[],[(none,[ku]),(none,[ku])]⟩ g
noncomputable def T(ad:LQ):=mkF ad 139 [195] sp [Zbl.T ad] t0 (fun n=>tl 2 ⟨[(0,Si),(1,Si),(2,.clo 195 [.ptr 0 0,.ptr 1 0]),(6,Si)],[(none,[ku]),(none,[ku])]⟩ (fun _=>l2 n) <| tn) t0 38 [] f (fun a b c d=>1000+a.toNat+b.toNat+c.toNat+d.toNat) (by kernel_rfl)
end Zat
namespace Zbm
def sp:Spec:=ak ⟨[(0,Su),(1,Si),(2,Si),(3,Su)],[]⟩ ⟨[(0,Su)],[]⟩ g
noncomputable def T(ad:LQ):=mkF ad 142 [] sp [Zat.T ad] t0 t0 t0 14 [] f (fun a b c d=>1000+a.toNat+b.toNat+c.toNat+d.toNat) (by kernel_rfl)
end Zbm
namespace Zad
def sp:Spec:=ak ⟨[(0,.c (.sl u1))],[]⟩ ⟨[(0,Su)],[]⟩ g
noncomputable def T(ad:LQ):=mkF ad 91 [] sp [Zbm.T ad] t0 (fun n=>tl 3 ⟨[(3,Su),(6,.c (.sl u1)),(7,Si),(8,Si)],[]⟩ (fun _=>l3 n) <| tn) t0 23 [] f (fun a=>1000+a.length) (by kernel_rfl)
end Zad
namespace Zao
def sp:Spec:=ak ⟨[(0,.agg c1)],[]⟩ ⟨[(0,Su)],[]⟩ g
noncomputable def T(ad:LQ):=mkF ad 52 [] sp [Zak.T ad,Zad.T ad] (fun n=>tj 14 ⟨[(1,Sp 0 0),(6,Sp 1 0)],[(some 0,c1),(some 1,[ki,ki,ki])]⟩ (fun _=>j14 n) <| tn) t0 t0 97 [] f (fun a b c d e i _=>1000+a.toNat+b.toNat+c.toNat+d.toNat+e.toNat+i.toNat) (by kernel_rfl)
end Zao
namespace Zai
def sp:Spec:=ak ⟨[(0,.agg c1)],[]⟩ ⟨[(0,SB)],[]⟩ g
noncomputable def T(ad:LQ):=mkF ad 51 [] sp [Zba.T ad,Zao.T ad,Zah.T ad] (fun n=>tj 10 ⟨[(1,Sp 0 0)],[(some 0,c1)]⟩ (fun _=>j10 n) <| tn) t0 t0 64 [] f (fun a b c d e i _=>1000+a.toNat+b.toNat+c.toNat+d.toNat+e.toNat+i.toNat) (by kernel_rfl)
end Zai
namespace Zal
def sp:Spec:=ak ⟨[(0,Su)],[]⟩ ⟨[(0,.agg c1),(1,SB)],[]⟩ g
noncomputable def T(ad:LQ):=mkF ad 20 [] sp [Zah.T ad,Zai.T ad,Zao.T ad] t0 t0 t0 18 [] f (fun a=>1000+a.toNat) (by kernel_rfl)
end Zal
namespace Zau
def sp:Spec:=ak ⟨[(0,.agg c0),(1,Si)],[]⟩ ⟨[(0,Si),(1,SB)],[]⟩ g
noncomputable def T(ad:LQ):=mkF ad 42 [] sp [Zay.T ad,Zal.T ad] t0 t0 t0 59 [] f (fun a b c d=>1000+a.length+b.length+c.length+d.toNat) (by kernel_rfl)
end Zau
namespace Zbz
def sp:Spec:=ak ⟨[(0,.agg c0)],[]⟩ ⟨[(0,.c (.row 3 (.int .i64))),(1,Si)],[]⟩ g
noncomputable def T(ad:LQ):TF P (LW ad):=⟨30,[],sp,BU BR (show Sat P (LW ad) 29 Zbe.sp from(Zbe.T ad).sat) (show Sat P (LW ad) 42 Zau.sp from(Zau.T ad).sat),di (by kernel_rfl)⟩
end Zbz
namespace Zbu
def sp:Spec:=ak ⟨[(0,Si)],[]⟩ ⟨[(0,SB)],[]⟩ g
noncomputable def T(ad:LQ):=mkF ad 176 [] sp [] t0 t0 t0 6 [] f (fun a=>1000+a.toNat) (by kernel_rfl)
end Zbu
namespace Zce
def sp:Spec:=ak ⟨[(0,Si),(1,Si)],[]⟩ ⟨[(0,SB)],[]⟩ g
noncomputable def T(ad:LQ):=mkF ad 118 [] sp [Zbu.T ad] t0 t0 t0 17 [] f (fun a b=>1000+a.toNat+b.toNat) (by kernel_rfl)
end Zce
namespace Zbv
def sp:Spec:=ak ⟨[(0,Si)],[]⟩ ⟨[(0,SB)],[]⟩ g
noncomputable def T(ad:LQ):=mkF ad 119 [] sp [] t0 t0 t0 6 [] f (fun a=>1000+a.toNat) (by kernel_rfl)
end Zbv
namespace Zbf
def sp:Spec:=ak ⟨[(0,.c (.sl (.int .i64))),(1,Si)],[]⟩ ⟨[(0,Si),(1,SB)],[]⟩ g
noncomputable def T(ad:LQ):=mkF ad 74 [] sp [Zce.T ad,Zbv.T ad] t0 (fun n=>tl 3 ⟨[(0,.c (.sl (.int .i64))),(1,Si),(6,Si),(7,Si),(8,Si)],[]⟩ (fun _=>l3 n) <| tn) t0 54 [] f (fun a b=>1000+a.length+b.toNat) (by kernel_rfl)
end Zbf
namespace Zaj
def sp:Spec:=ak ⟨[(0,Si)],[]⟩ ⟨[(0,Ss)],[]⟩ g
noncomputable def T(ad:LQ):=mkF ad 75 [] sp [] t0 (fun n=>tl 3 ⟨[(0,Si),(3,.c (.row 5 (.int .u8))),(4,Si)],[]⟩ (fun _=>l3 n) <| tn) t0 20 [] f (fun a=>1000+a.toNat) (by kernel_rfl)
end Zaj
def disasm_number.spq(q:Nat):Spec:=ak ⟨[(0,Si)],[]⟩ ⟨[(0,.c (.row 53 u2))],[]⟩ (aU q).disasm_number
namespace disasm_number
theorem step(q:Nat)(ih:Sat P (LW ad) 39 (disasm_number.spq q)/\True):Sat P (LW ad) 39 (spq (q+1)):=Bj mixed o9 qL 39 (spq (q+1)) [((39,[]),disasm_number.spq q)] (qh ih.1 (di (by kernel_rfl)) si) t0 t0 t0 15 [] (fun n=>f n (aU q)) (fun a=>1000+a.toNat) (by kernel_rfl) (by kernel_rfl)
end disasm_number
theorem gB:∀q,Sat P (LW ad) 39 (disasm_number.spq q)/\True
 |0=>⟨AR fun _=>rfl,trivial⟩
 |q+1=>⟨disasm_number.step q (gB q),trivial⟩
def disasm_number.sp:Spec:=ak ⟨[(0,Si)],[]⟩ ⟨[(0,.c (.row 53 u2))],[]⟩ disasm_number.g
noncomputable def disasm_number.T(ad:LQ):TF P (LW ad):=⟨39,[],disasm_number.sp,C9 (F:=fun q=>(aU q).disasm_number) (fun a=>1000+a.toNat) (fun q=>(gB q).1) (fun _=>by kernel_rfl),di (by kernel_rfl)⟩
namespace Zbc
def sp:Spec:=ak ⟨[(0,Si)],[]⟩ ⟨[(0,.c (.row 53 u2))],[]⟩ g
noncomputable def T(ad:LQ):=mkF ad 41 [] sp [Zaj.T ad] t0 t0 t0 7 [] f (fun a=>1000+a.toNat) (by kernel_rfl)
end Zbc
namespace Zag
def sp:Spec:=ak ⟨[(0,.agg c0),(1,Si)],[]⟩ ⟨[(0,.agg c2)],[]⟩ g
noncomputable def T(ad:LQ):=mkF ad 16 [] sp [disasm_number.T ad,Zay.T ad,Zbc.T ad,Zal.T ad,Zau.T ad] (fun n=>tj 9 ⟨[(4,Sp 0 0),(6,Sp 1 0)],[(some 0,c2),(some 1,c2)]⟩ (fun _=>j9 n) <| tj 23 ⟨[(4,Sp 0 0),(9,Sp 1 0)],[(some 0,c2),(some 1,c2)]⟩ (fun _=>j23 n) <| tn) t0 t0 99 [] f (fun a b c d=>1000+a.length+b.length+c.length+d.toNat) (by kernel_rfl)
end Zag
namespace Zco
def sp:Spec:=ak ⟨[(0,.agg c0)],[]⟩ ⟨[(0,.c (.row 78 u3)),(1,Si)],[]⟩ g
noncomputable def T(ad:LQ):TF P (LW ad):=⟨11,[],sp,BH (show Sat P (LW ad) 29 Zbe.sp from(Zbe.T ad).sat) (show Sat P (LW ad) 30 Zbz.sp from(Zbz.T ad).sat) (show Sat P (LW ad) 74 Zbf.sp from(Zbf.T ad).sat) (show Sat P (LW ad) 75 Zaj.sp from(Zaj.T ad).sat) (show Sat P (LW ad) 16 Zag.sp from(Zag.T ad).sat),di (by kernel_rfl)⟩
end Zco
namespace Zac
def sp:Spec:=ak ⟨[(0,Ss)],[]⟩ ⟨[(0,SB)],[]⟩ g
noncomputable def T(ad:LQ):=mkF ad 123 [] sp [strings_Trim.T ad] (fun n=>tj 9 ⟨[(0,Ss),(24,Si),(25,Si)],[]⟩ (fun ms=>j9 n (l4 n ms.head!)) <| tj 3 ⟨[(0,Ss)],[]⟩ (fun _=>j3 n) <| tn) (fun n=>tl 4 ⟨[(0,Ss),(24,Si),(25,Si)],[]⟩ (fun _=>l4 n) <| tn) t0 84 [] f (fun a=>1000+a.length) (by kernel_rfl)
end Zac
namespace Zbx
def sp:Spec:=ak ⟨[(0,Si)],[]⟩ ⟨[(0,SB)],[]⟩ g
noncomputable def T(ad:LQ):=mkF ad 177 [] sp [] t0 t0 t0 10 [] f (fun a=>1000+a.toNat) (by kernel_rfl)
end Zbx
namespace Zbg
def sp:Spec:=ak ⟨[(0,.agg [ki,ku,.str])],[]⟩ ⟨[(0,Si),(1,SB)],[]⟩ g
noncomputable def T(ad:LQ):=mkF ad 206 [] sp [Zac.T ad] (fun n=>tj 2 ⟨[(1,Sp 0 0),(4,SB)],[(some 0,[ki,ku,.str])]⟩ (fun _=>j2 n) <| tn) t0 t0 38 [] f (fun a b c=>1000+a.toNat+b.toNat+c.length) (by kernel_rfl)
end Zbg
namespace Zbh
def sp:Spec:=ak ⟨[(0,.c (.sl u2))],[]⟩ ⟨[(0,SB)],[]⟩ g
noncomputable def T(ad:LQ):=mkF ad 157 [] sp [Zbg.T ad] t0 (fun n=>tl 3 ⟨[(0,.c (.sl u2)),(3,Si),(8,.c (.sl u2)),(9,Si),(10,Si)],[]⟩ (fun _=>l3 n) <| tn) t0 38 [] f (fun a=>1000+a.length) (by kernel_rfl)
end Zbh
namespace Zaz
def sp:Spec:=ak ⟨[(0,Si)],[]⟩ ⟨[(0,Ss)],[]⟩ g
noncomputable def T(ad:LQ):=mkF ad 178 [] sp [strconv_Itoa.T ad] t0 t0 t0 12 [] f (fun a=>1000+a.toNat) (by kernel_rfl)
end Zaz
namespace Zbb
def sp:Spec:=ak ⟨[(0,.agg c2)],[]⟩ ⟨[(0,SB)],[]⟩ g
noncomputable def T(ad:LQ):=mkF ad 124 [] sp [Zbx.T ad,Zbh.T ad,Zaw.T ad,Zaz.T ad,Zai.T ad] (fun n=>tj 12 ⟨[(3,Sp 0 0)],[(some 0,c1)]⟩ (fun _=>j12 n) <| tj 4 ⟨[(1,Sp 0 0),(3,Sp 1 0)],[(some 0,c2),(some 1,c1)]⟩ (fun _=>j4 n) <| tn) t0 t0 84 [] f (fun a b c d e _ j k=>1000+a.toNat+b.toNat+c.toNat+d.toNat+e.toNat+j.length+k.length) (by kernel_rfl)
end Zbb
namespace Zcg
def sp:Spec:=ak ⟨[(0,Si)],[]⟩ ⟨[(0,Si)],[]⟩ g
noncomputable def T(ad:LQ):=mkF ad 126 [] sp [] t0 t0 t0 9 [] f (fun a=>1000+a.toNat) (by kernel_rfl)
end Zcg
namespace Zch
def sp:Spec:=ak ⟨[(0,Si)],[]⟩ ⟨[(0,SB)],[]⟩ g
noncomputable def T(ad:LQ):=mkF ad 127 [] sp [] t0 t0 t0 9 [] f (fun a=>1000+a.toNat) (by kernel_rfl)
end Zch
namespace Zci
def sp:Spec:=ak ⟨[(0,Sp 0 0)],[(some 0,c2)]⟩ ⟨[(0,Sp 0 2)],[(none,c2)]⟩ g
noncomputable def T(ad:LQ):=mkF ad 181 [] sp [] t0 t0 t0 6 [] f (fun a b c d e _ j k=>1000+a.toNat+b.toNat+c.toNat+d.toNat+e.toNat+j.length+k.length) (by kernel_rfl)
end Zci
namespace Zcj
def sp:Spec:=ak ⟨[(0,Sp 0 0)],[(some 0,c2)]⟩ ⟨[(0,Sp 0 3)],[(none,c2)]⟩ g
noncomputable def T(ad:LQ):=mkF ad 182 [] sp [] t0 t0 t0 6 [] f (fun a b c d e _ j k=>1000+a.toNat+b.toNat+c.toNat+d.toNat+e.toNat+j.length+k.length) (by kernel_rfl)
end Zcj
namespace Zck
def sp:Spec:=ak ⟨[(0,Sp 0 0)],[(some 0,c2)]⟩ ⟨[(0,Sp 0 4)],[(none,c2)]⟩ g
noncomputable def T(ad:LQ):=mkF ad 183 [] sp [] t0 t0 t0 6 [] f (fun a b c d e _ j k=>1000+a.toNat+b.toNat+c.toNat+d.toNat+e.toNat+j.length+k.length) (by kernel_rfl)
end Zck
namespace Zbq
def sp:Spec:=ak ⟨[(0,.agg c2),(1,.c (.pp .fn))],[]⟩ ⟨[(0,Ss)],[]⟩ g
noncomputable def T(ad:LQ):=mkF ad 228 [] sp [Zci.T ad,Zaz.T ad,Zcj.T ad,Zck.T ad] t0 t0 t0 9 [K.atA,K.atB,K.atC] f (fun a b c d e _ j k _=>1000+a.toNat+b.toNat+c.toNat+d.toNat+e.toNat+j.length+k.length) (by kernel_rfl)
end Zbq
namespace Zcf
def sp:Spec:=ak ⟨[(0,.c kq),(1,Si)],[]⟩ ⟨[(0,Ss)],[]⟩ g
noncomputable def T(ad:LQ):=mkF ad 264 [] sp [internal_strconv_FormatUint.T ad] t0 t0 t0 8 [] f (fun a b=>1000+a.toNat+b.toNat) (by kernel_rfl)
end Zcf
namespace Zar
def sp:Spec:=ak ⟨[(0,.agg [.str,ki]),(1,Si)],[]⟩ ⟨[(0,Ss)],[]⟩ g
noncomputable def T(ad:LQ):=mkF ad 265 [] sp [] t0 t0 t0 15 [] f (fun a b c=>1000+a.length+b.toNat+c.toNat) (by kernel_rfl)
end Zar
namespace Zae
def sp:Spec:=ak ⟨[(0,.c (.sl u2))],[]⟩ ⟨[(0,Ss),(1,Si)],[]⟩ g
noncomputable def T(ad:LQ):=mkF ad 232 [] sp [Zbh.T ad,Zbg.T ad,Zcf.T ad,Zar.T ad] (fun n=>tj 23 ⟨[(4,.c (.row 289 u0)),(7,Si),(10,Sp 0 0),(14,.c (.sl u2)),(15,Si),(16,Si)],[(some 2,[.str,ki])]⟩ (fun ms=>j23 n (l5 n ms.head!)) <| tn) (fun n=>tl 5 ⟨[(4,.c (.row 289 u0)),(14,.c (.sl u2)),(15,Si),(16,Si)],[]⟩ (fun _=>l5 n) <| tn) t0 106 [] f (fun a=>1000+a.length) (by kernel_rfl)
end Zae
namespace Zbr
def sp:Spec:=ak ⟨[(0,Ss),(1,Sb)],[]⟩ ⟨[(0,Ss)],[]⟩ g
noncomputable def T(ad:LQ):=mkF ad 166 [] sp [] t0 (fun n=>tl 1 ⟨[(0,Ss),(1,Sb)],[]⟩ (fun _=>l1 n) <| tn) t0 17 [] f (fun a b=>1000+a.length+b.toNat) (by kernel_rfl)
end Zbr
namespace Zbs
def sp:Spec:=ak ⟨[(0,Ss),(1,Ss)],[]⟩ ⟨[(0,Ss)],[]⟩ g
noncomputable def T(ad:LQ):=mkF ad 233 [] sp [Zbr.T ad] (fun n=>tj 5 ⟨[(0,Ss),(1,Ss)],[]⟩ (fun _=>j5 n) <| tn) t0 t0 37 [] f (fun a b=>1000+a.length+b.length) (by kernel_rfl)
end Zbs
namespace Zby
def sp:Spec:=ak ⟨[(0,.agg c2),(1,.c (.pp .str))],[]⟩ ⟨[(0,Ss)],[]⟩ g
noncomputable def T(ad:LQ):=mkF ad 231 [] sp [Zae.T ad,Zbs.T ad] t0 t0 t0 17 [] f (fun a b c d e _ j k l=>1000+a.toNat+b.toNat+c.toNat+d.toNat+e.toNat+j.length+k.length+l.length) (by kernel_rfl)
end Zby
namespace Zcl
def sp:Spec:=ak ⟨[(0,.agg c2)],[]⟩ ⟨[(0,Ss)],[]⟩ g
noncomputable def T(ad:LQ):=mkF ad 186 [] sp [] t0 t0 t0 5 [] f (fun a b c d e _ j k=>1000+a.toNat+b.toNat+c.toNat+d.toNat+e.toNat+j.length+k.length) (by kernel_rfl)
end Zcl
namespace Zab
def sp:Spec:=ak ⟨[(0,Ss),(1,.agg c2)],[]⟩ ⟨[(0,Ss),(1,Si)],[]⟩ g
noncomputable def T(ad:LQ):=mkF ad 81 [] sp [Zac.T ad,Zbb.T ad,Zcg.T ad,name_Mnemonic.T ad,Zch.T ad,stmt_operands.T ad,strings_Join.T ad,Zbq.T ad,Zby.T ad,Zcl.T ad] (fun n=>tj 15 ⟨[(3,Sp 0 0),(6,.c (.row 9 .str)),(7,Ss),(8,.c (.row 9 .str)),(50,.c (.sl u4)),(51,Si),(52,Si)],[(some 0,c2)]⟩ (fun ms=>j15 n (l12 n ms.head!)) <| tj 17 ⟨[(6,.c (.row 9 .str))],[]⟩ (fun _=>j17 n) <| tj 10 ⟨[(3,Sp 0 0),(6,.c (.row 9 .str)),(7,Ss)],[(some 0,c2)]⟩ (fun _=>j10 n) <| tj 6 ⟨[(3,Sp 0 0),(6,.c (.row 9 .str))],[(some 0,c2)]⟩ (fun _=>j6 n) <| tj 3 ⟨[(0,Ss),(3,Sp 0 0)],[(some 1,c2)]⟩ (fun _=>j3 n) <| tn) (fun n=>tl 12 ⟨[(3,Sp 0 0),(6,.c (.row 9 .str)),(7,Ss),(8,.c (.row 9 .str)),(50,.c (.sl u4)),(51,Si),(52,Si)],[(some 0,c2)]⟩ (fun _=>l12 n) <| tn) t0 72 [K.wrA,K.wrB,K.wrC,K.wrE,K.wrQ,K.wrN] f (fun a b c d e i _ k l=>1000+a.length+b.toNat+c.toNat+d.toNat+e.toNat+i.toNat+k.length+l.length) (by kernel_rfl)
end Zab
namespace Zcm
def sp:Spec:=ak ⟨[(0,.agg c3)],[]⟩ ⟨[(0,Ss),(1,Si)],[]⟩ g
noncomputable def T(ad:LQ):=mkF ad 80 [] sp [Zab.T ad] t0 t0 t0 11 [] f (fun a b c d e i _ k l=>1000+a.length+b.toNat+c.toNat+d.toNat+e.toNat+i.toNat+k.length+l.length) (by kernel_rfl)
end Zcm
namespace Zbt
def sp:Spec:=ak ⟨[(0,.c (.sl u3)),(1,.c (.raw (.func (.func 80) #[] #[])))],[]⟩ ⟨[(0,.c (.row 9 .str)),(1,Si),(2,Si)],[]⟩ g
noncomputable def T(ad:LQ):=mkF ad 79 [] sp [Zcm.T ad] t0 (fun n=>tl 5 ⟨[(1,.c (.raw (.func (.func 80) #[] #[]))),(7,.c (.row 9 .str)),(15,.c (.sl u3)),(16,Si),(17,Si)],[]⟩ (fun _=>l5 n) <| tn) t0 39 [] f (fun a=>1000+a.length) (by kernel_rfl)
end Zbt
namespace Zcn
def sp:Spec:=ak ⟨[(0,.c (.sl u3))],[]⟩ ⟨[(0,Ss),(1,Si),(2,Si)],[]⟩ g
noncomputable def T(ad:LQ):=mkF ad 35 [] sp [Zbt.T ad,strings_Join.T ad] t0 t0 t0 20 [] f (fun a=>1000+a.length) (by kernel_rfl)
end Zcn
namespace Zcp
def sp:Spec:=ak ⟨[(0,.agg c0)],[]⟩ ⟨[(0,Ss),(1,Si)],[]⟩ g
noncomputable def T(ad:LQ):=mkF ad 13 [] sp [Zco.T ad,Zcn.T ad] t0 t0 t0 24 [] f (fun a b c=>1000+a.length+b.length+c.length) (by kernel_rfl)
end Zcp
namespace Zam
def sp:Spec:=ak ⟨[],[]⟩ ⟨[(0,SB)],[]⟩ g
noncomputable def T(ad:LQ):=mkF ad 9 [] sp [Zcp.T ad] t0 t0 t0 15 [] f (1000:Nat) (by kernel_rfl)
end Zam
namespace Zap
def sp:Spec:=ak ⟨[(0,.c (.sl (.int .u8))),(1,Si)],[]⟩ ⟨[(0,.c (.row 3 (.int .i64)))],[]⟩ g
noncomputable def T(ad:LQ):=mkF ad 48 [] sp [] (fun n=>tj 4 ⟨[(0,.c (.sl (.int .u8))),(1,Si),(5,.c (.row 3 (.int .i64))),(6,Si)],[]⟩ (fun ms=>j4 n (l3 n ms.head!)) <| tn) (fun n=>tl 3 ⟨[(0,.c (.sl (.int .u8))),(1,Si),(5,.c (.row 3 (.int .i64))),(6,Si)],[]⟩ (fun _=>l3 n) <| tn) t0 30 [] f (fun a b=>1000+a.length+b.toNat) (by kernel_rfl)
end Zap
namespace Zan
def sp:Spec:=ak ⟨[(0,Ss)],[]⟩ ⟨[(0,Ss)],[]⟩ g
noncomputable def T(ad:LQ):=mkF ad 49 [] sp [] t0 (fun n=>tl 4 ⟨[(0,Ss),(3,Ss),(4,Ss),(5,Si)],[]⟩ (fun _=>l4 n) <| tn) t0 39 [] f (fun a=>1000+a.length) (by kernel_rfl)
end Zan
namespace Zaa
def sp:Spec:=ak ⟨[(0,.c (.sl (.int .u32))),(1,.c (.sl (.int .u8))),(2,.c (.sl .str))],[]⟩ ⟨[(0,.agg c4)],[]⟩ g
noncomputable def T(ad:LQ):=mkF ad 19 [] sp [Zap.T ad,Zan.T ad] (fun n=>tj 10 ⟨[(2,.c (.sl .str)),(6,Sp 0 0),(7,Sp 1 0),(8,Si),(10,Si)],[(some 1,c4),(some 2,c4)]⟩ (fun ms=>j10 n (l9 n ms.head!)) <| tj 16 ⟨[(2,.c (.sl .str)),(6,Sp 0 0),(7,Sp 1 0),(8,Si),(10,Si),(11,Ss),(12,Si)],[(some 1,c4),(some 2,c4)]⟩ (fun ms=>j16 n (l9 n ms.head!)) <| tj 15 ⟨[(2,.c (.sl .str)),(6,Sp 0 0),(7,Sp 1 0),(8,Si),(10,Si),(11,Ss),(12,Si)],[(some 1,c4),(some 2,c4)]⟩ (fun ms=>j15 n (l9 n ms.head!)) <| tj 18 ⟨[(6,Sp 0 0),(7,Sp 1 0)],[(some 0,c4),(some 1,c4)]⟩ (fun _=>j18 n) <| tn) (fun n=>tl 13 ⟨[(2,.c (.sl .str)),(6,Sp 0 0),(7,Sp 1 0),(8,Si),(10,Si),(11,Ss),(12,Si)],[(some 1,c4),(some 2,c4)]⟩ (fun ms=>l13 n (l9 n ms.head!)) <| tl 9 ⟨[(2,.c (.sl .str)),(6,Sp 0 0),(7,Sp 1 0),(8,Si),(10,Si)],[(some 1,c4),(some 2,c4)]⟩ (fun _=>l9 n) <| tl 5 ⟨[(2,.c (.sl .str)),(6,Sp 0 0),(7,Sp 1 0),(8,Si),(9,Si)],[(some 1,c4),(some 2,c4)]⟩ (fun _=>l5 n) <| tn) t0 134 [] f (fun a b c=>1000+a.length+b.length+c.length) (by kernel_rfl)
end Zaa
namespace rivetlaw23_DisasmWords
def sp:Spec:=ak ⟨[(0,.agg c5)],[]⟩ ⟨[(0,SB)],[]⟩ g
def Q(ad:LQ)(a_rivetlaw23_shown:Option (Bool×Unit)):Nat->Env sp.r.T:=iZ types maps [((9,[]),ak ⟨[],[]⟩ ⟨[(0,SB)],[]⟩ a_rivetlaw23_shown),(Zaa.T ad).kv,(Zag.T ad).kv,(Zal.T ad).kv] (fun n=>tj 5 ⟨[(3,SB),(4,Sp 0 0),(5,Si)],[(some 1,c0)]⟩ (fun ms=>j5 a_rivetlaw23_shown n (l4 a_rivetlaw23_shown n ms.head!)) <| tj 12 ⟨[(3,SB),(4,Sp 0 0),(5,Si),(6,Sp 1 0),(7,Sp 2 0),(10,SB)],[(some 1,c0),(some 3,c2),(some 4,c1)]⟩ (fun ms=>j12 a_rivetlaw23_shown n (l4 a_rivetlaw23_shown n ms.head!)) <| tj 10 ⟨[(3,SB),(4,Sp 0 0),(5,Si),(6,Sp 1 0),(7,Sp 2 0),(10,SB)],[(some 1,c0),(some 3,c2),(some 4,c1)]⟩ (fun ms=>j10 a_rivetlaw23_shown n (l4 a_rivetlaw23_shown n ms.head!)) <| tn) (fun n=>tl 4 ⟨[(3,SB),(4,Sp 0 0),(5,Si)],[(some 1,c0)]⟩ (fun _=>l4 a_rivetlaw23_shown n) <| tn) t0 139 0 []
theorem q2(ad:LQ)(a_rivetlaw23_shown:Option (Bool×Unit)):(fun(n:Nat)=>sL P 4 sp (Q ad a_rivetlaw23_shown n),fun n=>xE P 4 sp 139 (Q ad a_rivetlaw23_shown n))=(fun n=>sR P 4 sp (Q ad a_rivetlaw23_shown n),fun n=>ap sp.a.all (f a_rivetlaw23_shown n)):=by kernel_rfl
noncomputable def T(ad:LQ):=DI ad 4 [] sp [Zam.T ad,Zaa.T ad,Zag.T ad,Zal.T ad] (fun n=>tj 5 ⟨[(3,SB),(4,Sp 0 0),(5,Si)],[(some 1,c0)]⟩ (fun ms=>j5 Zam.g n (l4 Zam.g n ms.head!)) <| tj 12 ⟨[(3,SB),(4,Sp 0 0),(5,Si),(6,Sp 1 0),(7,Sp 2 0),(10,SB)],[(some 1,c0),(some 3,c2),(some 4,c1)]⟩ (fun ms=>j12 Zam.g n (l4 Zam.g n ms.head!)) <| tj 10 ⟨[(3,SB),(4,Sp 0 0),(5,Si),(6,Sp 1 0),(7,Sp 2 0),(10,SB)],[(some 1,c0),(some 3,c2),(some 4,c1)]⟩ (fun ms=>j10 Zam.g n (l4 Zam.g n ms.head!)) <| tn) (fun n=>tl 4 ⟨[(3,SB),(4,Sp 0 0),(5,Si)],[(some 1,c0)]⟩ (fun _=>l4 Zam.g n) <| tn) t0 139 [] (fun n=>f Zam.g n) (fun a b c=>1000+a.length+b.length+c.length) (by kernel_rfl) (q2 ad Zam.g)
end rivetlaw23_DisasmWords
theorem rivetlaw23_DisasmWords.sat:Sat P (LW ad) 4 rivetlaw23_DisasmWords.sp:=(rivetlaw23_DisasmWords.T ad).sat
end
end Rv
namespace Rv
open Go
theorem w64{x:Int}(h:-9223372036854775808<=x/\x<=9223372036854775807):IntKind.i64.wrap x=x:=IntWalk.i64_in _ h
theorem w8u{x:Int}(h:0<=x/\x<=255):IntKind.u8.wrap x=x:=IntWalk.u8_in _ h
theorem dt{p:Prop}[Decidable p]:(decide p=true)=p:=by simp
theorem df{p:Prop}[Decidable p]:(decide p=false)=¬p:=by simp
theorem Cy(s:Str)(k:Nat):bt s (k:Int)=((s.getD k 0).toNat:Int):=rfl
theorem Bv(b:UInt8):(b.toNat:Int)<256:=by have:=b.toNat_lt;omega
theorem Dq{n:Int}(h:(Lit.int .u32 n).wf=true):0<=n/\n<=4294967295:=by
 simp[Lit.wf,IntKind.min,IntKind.max,IntKind.signed,IntKind.bits] at h;omega
end Rv
namespace Rv
open Go
def isL(b:UInt8):Bool:=decide (65<=b.toNat/\b.toNat<=90\/97<=b.toNat/\b.toNat<=122\/b.toNat=95)
def isD(b:UInt8):Bool:=decide (48<=b.toNat/\b.toNat<=57)
def isW(b:UInt8):Bool:=isL b||isD b
def Dg(b:UInt8):Option Nat:=
 if 48<=b.toNat/\b.toNat<=57 then some (b.toNat-48) else if 97<=b.toNat/\b.toNat<=122 then some (b.toNat-87) else if 65<=b.toNat/\b.toNat<=90 then some (b.toNat-55) else none
def qN(base:Nat):Nat->Str->Option Nat
 |n,[]=>some n
 |n,c::r=>match Dg c with
  |some d=>if d<base then(if n*base+d<4294967296 then qN base (n*base+d) r else none) else none
  |none=>none
def num(s:Str):Option Nat:=
 if([48,120]:Str).isPrefixOf s then(if s.drop 2=[] then none else qN 16 0 (s.drop 2)) else if s=[] then none else qN 10 0 s
abbrev Tok:=Int×Int×Str×Int×Unit
end Rv
namespace Rv
open Go
def shift(j:Int)(t:Tok):Tok:=(t.1,t.2.1+j,t.2.2)
end Rv
namespace Rv
open Go
end Rv
namespace Rv
open Go
theorem Ab:((List.range 12).all fun k=>isW ((([97,98,99,88,89,90,95,48,49,57,82,109]:Str).take (k+1)).drop k).head!&&decide (((([97,98,99,88,89,90,95,48,49,57,82,109]:Str).take (k+1)).drop k).length=1))=true:=by decide +kernel
theorem vD{Q:UInt8->Prop}(s:Str)(hs:s.length<=9223372036854775807)(n:Nat):∀(m i:Nat) (out:Str),i<=s.length->6-i<m->i<=6->out.length=i+1->(∃c r,out=c::r/\Q c)->out.all isW=true ->
  ∃r,Zan.l4 n m s ([97,98,99,88,89,90,95,48,49,57,82,109]:Str) out (i:Int)=some (r,())/\(∃c t,r=c::t/\Q c)/\r.all isW=true/\r.length<=7/\r.length<=s.length+1:=by
 intro m
 induction m with
 |zero=>intro i out _ h;omega
 |succ m ih=>
  intro i out hi hm h6 hl hh ha;simp only[Zan.l4,dt];by_cases h1:i<s.length
  ·rw[if_pos (by omega)];by_cases h2:i<6
   ·rw[if_pos (by omega),if_pos (by omega),if_pos (by omega),Cy];have hb:=Bv (s.getD i 0);generalize s.getD i 0=b at *;have e0:Int.tmod (IntKind.i64.wrap (b.toNat:Int)) 12=((b.toNat % 12:Nat):Int):=by
     rw[w64 (by omega)];have:Int.tmod (b.toNat:Int) 12=(b.toNat:Int) % 12:=EC (by omega);rw[this];omega
    rw[e0];have hk:b.toNat % 12<12:=Nat.mod_lt _ (by omega);generalize b.toNat % 12=k at *;rw[w64 (x:=(k:Int)+1) (by omega),w64 (x:=(i:Int)+1) (by omega),show(k:Int)+1=((k+1:Nat):Int) by omega,show(i:Int)+1=((i+1:Nat):Int) by omega,Ew,Ew];have hf:=El.1 Ab k (by simpa using hk);simp only[DW,D6] at hf;obtain⟨f1,f2⟩:=hf;generalize ((([97,98,99,88,89,90,95,48,49,57,82,109]:Str).take (k+1)).drop k)=w at *;obtain⟨c,rfl⟩:∃c,w=[c]:=by
     match w,f2 with
     |[c],_=>exact⟨c,rfl⟩
    rw[if_pos ⟨by omega,by simp only[Eh,Er];omega⟩,if_pos ⟨by omega,by omega⟩,if_pos (by simp;omega)];refine ih (i+1) (out++[c]) (by omega) (by omega) (by omega) (by simp;omega) ?_ ?_
    ·obtain⟨a,r,rfl,h⟩:=hh;exact⟨a,r++[c],rfl,h⟩
    ·have f1:isW c=true:=f1;rw[List.all_append,ha,EK,f1];rfl
   ·rw[if_neg (by omega)];exact⟨out,rfl,hh,ha,by omega,by omega⟩
  ·rw[if_neg (by omega)];exact⟨out,rfl,hh,ha,by omega,by omega⟩
theorem xc{Q:UInt8->Prop}(s:Str)(hs:s.length<=9223372036854775807)(n m i:Nat)(out:Str)(h1:i<=s.length)(h2:6-i<m)(h3:i<=6)(h4:out.length=i+1)(h5:∃c r,out=c::r/\Q c)(h6:out.all isW=true) :
  ∃r,Zan.l4 n m s ([97,98,99,88,89,90,95,48,49,57,82,109]:Str) out (i:Int)=some (r,())/\(∃c t,r=c::t/\Q c)/\r.all isW=true/\r.length<=7:=by
 obtain⟨r,g1,g2,g3,g4,_⟩:=vD s hs n m i out h1 h2 h3 h4 h5 h6;exact⟨r,g1,g2,g3,g4⟩
def isH(c:UInt8):Prop:=isL c=true/\c≠82/\isD c=false
theorem yf(s:Str)(hs:s.length<=9223372036854775807):∃r,Zan.g s=some (r,())/\(∃c t,r=c::t/\isH c/\(s.length<=6->c≠122))/\r.all isW=true/\r.length<=7:=by
 unfold Zan.g Zan.f;have e1:Int.tmod (s.length:Int) 26=((s.length % 26:Nat):Int):=by
  have:Int.tmod (s.length:Int) 26=(s.length:Int) % 26:=EC (by omega);rw[this];omega
 have hk:s.length % 26<26:=Nat.mod_lt _ (by omega);rw[e1];have e2:IntKind.u8.wrap (97+IntKind.u8.wrap ((s.length % 26:Nat):Int))=((97+s.length % 26:Nat):Int):=by
  rw[w8u (x:=((s.length % 26:Nat):Int)) (by omega),w8u (by omega)];omega
 rw[e2];have hb:bytesOf [((97+s.length % 26:Nat):Int)]=[UInt8.ofNat (97+s.length % 26)]:=rfl;rw[hb];have hn:(UInt8.ofNat (97+s.length % 26)).toNat=97+s.length % 26:=by rw[UInt8.toNat_ofNat',Nat.mod_eq_of_lt (by omega)]
 have hL:isL (UInt8.ofNat (97+s.length % 26))=true:=by unfold isL;rw[hn];simp;omega
 have hne:UInt8.ofNat (97+s.length % 26)≠82:=fun e=>by have:=congrArg UInt8.toNat e;rw[hn] at this;simp at this;omega
 have hD:isD (UInt8.ofNat (97+s.length % 26))=false:=by unfold isD;rw[hn,decide_eq_false_iff_not];omega
 have hz:s.length<=6->UInt8.ofNat (97+s.length % 26)≠122:=fun h6 e=>by have:=congrArg UInt8.toNat e;rw[hn] at this;simp at this;omega
 exact xc (Q:=fun c=>isH c/\(s.length<=6->c≠122)) s hs (1000+s.length) (1000+s.length) 0 _ (by omega) (by omega) (by omega) rfl ⟨_,_,rfl,⟨hL,hne,hD⟩,hz⟩ (by rw[EK,isW,hL];rfl)
theorem Aa(s:Str)(hs:s.length<=9223372036854775807):∃r,Zan.g s=some (r,())/\(∃c t,r=c::t/\isL c=true)/\r.all isW=true/\r.length<=7:=by
 obtain⟨r,h1,⟨c,t,h2,h3⟩,h4⟩:=yf s hs;exact⟨r,h1,⟨c,t,h2,h3.1.1⟩,h4⟩
end Rv
namespace Rv
open Go
abbrev W32:=BitVec 32
theorem ofI(W:W32):BitVec.ofInt 32 (W.toNat:Int)=W:=by simp
theorem De(x:Int):IntKind.u32.wrap x=((BitVec.ofInt 32 x).toNat:Int):=by
 rw[IntKind.wrap_u32,BitVec.toNat_ofInt];omega
theorem Bd(W:W32):IntKind.u32.wrap (W.toNat:Int)=(W.toNat:Int):=by rw[De,ofI]
theorem CV(A B:W32):aY .or .u32 (A.toNat:Int) (B.toNat:Int)=((A ||| B).toNat:Int):=by
 show IntKind.u32.wrap (((BitVec.ofInt 32 (A.toNat:Int) ||| BitVec.ofInt 32 (B.toNat:Int)).toNat:Nat):Int)=_;rw[ofI,ofI,Bd]
theorem Be(A B:W32):aY .and .u32 (A.toNat:Int) (B.toNat:Int)=((A &&& B).toNat:Int):=by
 show IntKind.u32.wrap (((BitVec.ofInt 32 (A.toNat:Int) &&& BitVec.ofInt 32 (B.toNat:Int)).toNat:Nat):Int)=_;rw[ofI,ofI,Bd]
theorem zo(A B:W32):aY .andNot .u32 (A.toNat:Int) (B.toNat:Int)=((A &&& ~~~B).toNat:Int):=by
 show IntKind.u32.wrap (((BitVec.ofInt 32 (A.toNat:Int) &&& ~~~BitVec.ofInt 32 (B.toNat:Int)).toNat:Nat):Int)=_;rw[ofI,ofI,Bd]
theorem sW(A:W32)(b:Nat)(hb:b<=32):IntKind.u32.wrap ((A.toNat:Int)*2 ^ (min ((b:Int)).toNat IntKind.u32.bits))=((A <<< b).toNat:Int):=by
 have e:min ((b:Int)).toNat IntKind.u32.bits=b:=by show min ((b:Int)).toNat 32=b;omega
 rw[e,IntKind.wrap_u32,BitVec.toNat_shiftLeft,Nat.shiftLeft_eq];have:(A.toNat:Int)*2 ^ b=((A.toNat*2 ^ b:Nat):Int):=by rw[Int.natCast_mul,Int.natCast_pow];rfl
 rw[this];generalize A.toNat*2 ^ b=q;omega
theorem Bl(A:W32)(b:Nat)(hb:b<=32):(A.toNat:Int).fdiv (2 ^ (min ((b:Int)).toNat IntKind.u32.bits))=((A >>> b).toNat:Int):=by
 have e:min ((b:Int)).toNat IntKind.u32.bits=b:=by show min ((b:Int)).toNat 32=b;omega
 rw[e,BitVec.toNat_ushiftRight,Nat.shiftRight_eq_div_pow,Int.fdiv_eq_ediv_of_nonneg _ (Int.le_of_lt (Int.pow_pos (by decide))),Int.natCast_ediv,Int.natCast_pow];rfl
def wD(W X:W32)(b p:Nat):W32:=(W &&& ~~~(1#32 <<< b)) ||| (((X >>> p) &&& 1#32) <<< b)
def o8(W X:W32)(a:Nat):Nat->W32
 |0=>W
 |k+1=>wD (o8 W X a k) X (a+k) k
def gz(W:W32)(a:Nat):Nat->W32
 |0=>0
 |k+1=>gz W a k ||| (((W >>> (a+k)) &&& 1#32) <<< k)
theorem Cc(j:Nat):(1#32).getLsbD j=decide (j=0):=by
 rw[BitVec.getLsbD_one];simp
theorem oJ(W:W32){a:Nat}:∀{n:Nat},n<=32->∀{j:Nat},j<32->(gz W a n).getLsbD j=(decide (j<n)&&W.getLsbD (a+j))
 |0,_,j,_=>by simp[gz]
 |n+1,h,j,hj=>by
  rw[gz,BitVec.getLsbD_or,oJ W (by omega) hj,BitVec.getLsbD_shiftLeft,BitVec.getLsbD_and,BitVec.getLsbD_ushiftRight,Cc];by_cases e:j=n;·subst e;simp[hj]
  ·by_cases e2:j<n
   ·simp[e2];omega
   ·have h1:¬j-n=0:=by omega
    have h2:¬j<n+1:=by omega
    simp[e2,h1,h2]
theorem CJ(W:W32)(a:Nat){n:Nat}(hn:n<=32):(gz W a n).toNat<2 ^ n:=by
 refine Nat.lt_pow_two_of_testBit _ fun j hj=>?_
 by_cases h:j<32;·have:=oJ W (a:=a) hn h;show(gz W a n).getLsbD j=false;rw[this];simp;omega
 ·exact BitVec.getLsbD_of_ge _ _ (by omega)
theorem Ck(W X:W32){b p:Nat}(hb:b<32)(hp:p<32):Zbl.g (b:Int) (p:Int) (W.toNat:Int) (X.toNat:Int)=some (((wD W X b p).toNat:Int),(X.toNat:Int),()):=by
 unfold Zbl.g Zbl.f;have e1:(1:Int)=((1#32).toNat:Int):=rfl;rw[if_neg (by omega),if_neg (by omega),if_neg (by omega),Bl X p (by omega),e1,sW (1#32) b (by omega),Be,sW _ b (by omega),zo,CV];rfl
theorem zW(n:Nat)(X W:W32){a c:Nat}(hc:1<=c)(h:a+c<=32):∀(m k:Nat),k<=c->c-k<m->Zat.l2 n m (a:Int) (c:Int) ((a+k:Nat):Int) ((o8 W X a k).toNat:Int) (X.toNat:Int)=some (((o8 W X a c).toNat:Int),(X.toNat:Int),()):=by
 intro m
 induction m with
 |zero=>intro k _ hm;omega
 |succ m ih=>
  intro k hk hm;rw[Zat.l2];simp only[dt];by_cases e:k=c
  ·subst e;by_cases e2:a+k<32
   ·rw[if_pos (by omega),if_neg (by rw[w64 (by omega)];omega)]
   ·rw[if_neg (by omega)]
  ·rw[if_pos (by omega),w64 (by omega),if_pos (by omega),show((a+k:Nat):Int)-(a:Int)=(k:Int) by omega,Ck _ X (by omega) (by omega),DV];dsimp only;rw[w64 (by omega),show((a+k:Nat):Int)+1=((a+(k+1):Nat):Int) by omega];exact ih (k+1) (by omega) (by omega)
theorem Db(W X:W32){a c:Nat}(hc:1<=c)(h:a+c<=32):Zbm.g (W.toNat:Int) (a:Int) (c:Int) (X.toNat:Int)=some (((o8 W X a c).toNat:Int),()):=by
 unfold Zbm.g Zbm.f Zat.g Zat.f;simp only[dt,df];rw[if_pos (by omega),if_pos (by omega),w64 (by omega),if_neg (by omega)];have hmx:mx (a:Int) 0=((a+0:Nat):Int):=by unfold mx;split<;>omega
 rw[hmx];have:=zW (1000+((a:Int)).toNat+((c:Int)).toNat+((W.toNat:Int)).toNat+((X.toNat:Int)).toNat) X W hc h (1000+((a:Int)).toNat+((c:Int)).toNat+((W.toNat:Int)).toNat+((X.toNat:Int)).toNat) 0 (by omega) (by omega);rw[show o8 W X a 0=W from rfl] at this;rw[this,DV]
theorem BO(O W:W32){b p:Nat}(hb:b<32)(hp:p<32):Zbj.g (b:Int) (p:Int) (O.toNat:Int) (W.toNat:Int)=some (((O ||| (((W >>> b) &&& 1#32) <<< p)).toNat:Int),(W.toNat:Int),()):=by
 unfold Zbj.g Zbj.f;have e1:(1:Int)=((1#32).toNat:Int):=rfl;rw[if_neg (by omega),if_neg (by omega),Bl W b (by omega),e1,Be,sW _ p (by omega),CV]
theorem zV(n:Nat)(W:W32){a c:Nat}(hc:1<=c)(h:a+c<=32):∀(m k:Nat),k<=c->c-k<m->Zas.l2 n m (a:Int) (c:Int) ((a+k:Nat):Int) ((gz W a k).toNat:Int) (W.toNat:Int)=some (((gz W a c).toNat:Int),(W.toNat:Int),()):=by
 intro m
 induction m with
 |zero=>intro k _ hm;omega
 |succ m ih=>
  intro k hk hm;rw[Zas.l2];simp only[dt];by_cases e:k=c
  ·subst e;by_cases e2:a+k<32
   ·rw[if_pos (by omega),if_neg (by rw[w64 (by omega)];omega)]
   ·rw[if_neg (by omega)]
  ·rw[if_pos (by omega),w64 (by omega),if_pos (by omega),show((a+k:Nat):Int)-(a:Int)=(k:Int) by omega,BO _ W (by omega) (by omega),DV];dsimp only;rw[w64 (by omega),show((a+k:Nat):Int)+1=((a+(k+1):Nat):Int) by omega];exact ih (k+1) (by omega) (by omega)
theorem CG(W:W32){a c:Nat}(hc:1<=c)(h:a+c<=32):Zbk.g (W.toNat:Int) (a:Int) (c:Int)=some (((gz W a c).toNat:Int),()):=by
 unfold Zbk.g Zbk.f Zas.g Zas.f;simp only[dt,df];rw[if_pos (by omega),if_pos (by omega),w64 (by omega),if_neg (by omega)];have hmx:mx (a:Int) 0=((a+0:Nat):Int):=by unfold mx;split<;>omega
 rw[hmx];have:=zV (1000+((a:Int)).toNat+((c:Int)).toNat+((0:Int)).toNat+((W.toNat:Int)).toNat) W hc h (1000+((a:Int)).toNat+((c:Int)).toNat+((0:Int)).toNat+((W.toNat:Int)).toNat) 0 (by omega) (by omega);rw[show((gz W a 0).toNat:Int)=0 from rfl] at this;rw[this,DV]
end Rv
namespace Rv
open Go
def xk:W32->List (Nat×Nat×Int)->W32
 |W,[]=>W
 |W,(a,n,x)::r=>xk (o8 W (BitVec.ofInt 32 x) a n) r
abbrev fld(f:Nat×Nat×Int):Int×Int×Int×Unit:=((f.1:Int),(f.2.1:Int),f.2.2,())
abbrev Dv:Int×Int×Int×Unit:=((0:Int),((0:Int),((0:Int),())))
theorem Aj(n:Nat)(fs:List (Nat×Nat×Int))(hf:∀f∈fs,1<=f.2.1/\f.1+f.2.1<=32)(hl:fs.length<=1000):∀(m i:Nat) (W:W32),i<=fs.length->fs.length-i<m ->
  Zad.l3 n m (W.toNat:Int) (fs.map fld) ((fs.map fld).length:Int) (i:Int)=some (((xk W (fs.drop i)).toNat:Int),()):=by
 intro m
 induction m with
 |zero=>intro i _ _ h;omega
 |succ m ih=>
  intro i W hi hm;rw[Zad.l3];simp only[dt,Et];by_cases h:i<fs.length
  ·have hd:fs.drop i=fs[i]::fs.drop (i+1):=List.drop_eq_getElem_cons h;have hg:(fs.map fld).getD ((i:Int)).toNat Dv=fld fs[i]:=by
    rw[Ew,List.getD_eq_getElem?_getD,Ef (by simpa using h)];simp
   obtain⟨h1,h2⟩:=hf fs[i] (EI h);rw[if_pos (by omega),if_pos (by omega),if_pos (by decide),if_pos (by decide),if_pos (by decide),hg];have q1:∀x y z:Int,([x,y,z]:List Int).getD ((0:Int)).toNat 0=x:=fun _ _ _=>rfl
   have q2:∀x y z:Int,([x,y,z]:List Int).getD ((1:Int)).toNat 0=y:=fun _ _ _=>rfl
   have q3:∀x y z:Int,([x,y,z]:List Int).getD ((2:Int)).toNat 0=z:=fun _ _ _=>rfl
   rw[q1,q2,q3];dsimp only[fld];rw[De,Db _ _ h1 h2,DV];dsimp only;rw[w64 (by omega),show(i:Int)+1=((i+1:Nat):Int) by omega,hd];have:=ih (i+1) (o8 W (BitVec.ofInt 32 fs[i].2.2) fs[i].1 fs[i].2.1) (by omega) (by omega);rw[Et] at this;exact this
  ·rw[if_neg (by omega),List.drop_eq_nil_of_le (by omega)];rfl
theorem CL(fs:List (Nat×Nat×Int))(hf:∀f∈fs,1<=f.2.1/\f.1+f.2.1<=32)(hl:fs.length<=1000)(l:List (Int×Int×Int×Unit))(e:l=fs.map fld):Zad.g l=some (((xk 0 fs).toNat:Int),()):=by
 subst e;unfold Zad.g Zad.f;have:=Aj (1000+(fs.map fld).length) fs hf hl (1000+(fs.map fld).length) 0 0 (by omega) (by rw[Et];omega);rw[EH] at this;exact this
def hdN(f:Nat)(u v:Bool):Nat:=f*4+(if u then 2 else 0)+(if v then 1 else 0)
theorem gX(f:Nat)(hf:f<4)(u v:Bool):Zak.g (f:Int) u v=some (28,4,(hdN f u v:Int),()):=by
 have:∀f:Nat,f<4->∀u v:Bool,Zak.g (f:Int) u v=some (28,4,(hdN f u v:Int),()):=by decide +kernel
 exact this f hf u v
def iH(k o a b c i:Int)(u:Bool):List (Nat×Nat×Int):=
 if k=1 then[(28,4,(hdN 0 u false:Int)),(24,4,a),(20,4,b),(16,4,o),(0,4,c)] else
 if k=3\/k=4 then[(28,4,(hdN 0 true (decide (k=4)):Int)),(24,4,a)] else
 if k=2 then[(28,4,(hdN 1 u (decide (i<0)):Int)),(24,4,a),(20,4,b),(16,4,o),(0,16,i)] else
 if k=5 then[(28,4,(hdN 2 (decide (2<=o)) (decide (Int.tmod o 2=1)):Int)),(24,4,a),(20,4,b),(0,20,i)] else
 if k=6 then[(28,4,(hdN 3 false u:Int)),(24,4,o),(0,4,c)] else
 [(28,4,(hdN 3 true u:Int)),(24,4,o),(0,24,i)]
theorem vX(k o a b c i:Int)(u:Bool):(∀f∈iH k o a b c i u,1<=f.2.1/\f.1+f.2.1<=32)/\(iH k o a b c i u).length<=1000:=by
 unfold iH;split;·exact⟨by simp,by simp⟩
 ·split
  ·exact⟨by simp,by simp⟩
  ·split
   ·exact⟨by simp,by simp⟩
   ·split
    ·exact⟨by simp,by simp⟩
    ·split
     ·exact⟨by simp,by simp⟩
     ·exact⟨by simp,by simp⟩
def fo(k o a b c i:Int)(u:Bool):W32:=xk 0 (iH k o a b c i u)
theorem jc(k o a b c i:Int)(u:Bool)(l:List (Int×Int×Int×Unit))(e:l=(iH k o a b c i u).map fld):Zad.g l=some (((fo k o a b c i u).toNat:Int),()):=
 CL _ (vX k o a b c i u).1 (vX k o a b c i u).2 l e
theorem oP(k o a b c i:Int)(u:Bool):Zao.g k o a b c i u=some (((fo k o a b c i u).toNat:Int),()):=by
 have J:∀n,k≠1->k≠2->k≠3->k≠4->k≠5->k≠6->Zao.j14 n k o a b c i u 24 4 o=some (((fo k o a b c i u).toNat:Int),()):=fun n h1 h2 h3 h4 h5 h6=>by
  unfold Zao.j14;rw[show(3:Int)=((3:Nat):Int) from rfl,gX 3 (by decide),DV,jc k o a b c i u _ (by unfold iH;simp[h1,h2,h3,h4,h5,h6]),DV]
 unfold Zao.g;generalize 1000+k.toNat+o.toNat+a.toNat+b.toNat+c.toNat+i.toNat=n;unfold Zao.f;simp only[dt];have e0:(0:Int)=((0:Nat):Int):=rfl;by_cases h1:k=1;·rw[if_pos h1];have:=gX 0 (by decide) u false;rw[show((0:Nat):Int)=0 from rfl] at this;rw[this,DV,jc k o a b c i u _ (by unfold iH;simp[h1]),DV]
 ·rw[if_neg h1];have h0:=gX 0 (by decide) true (decide (k=4));rw[show((0:Nat):Int)=0 from rfl] at h0;have g2:=gX 1 (by decide) u (decide (i<0));rw[show((1:Nat):Int)=1 from rfl] at g2;have g5:=gX 2 (by decide) (decide (2<=o)) (decide (Int.tmod o 2=1));rw[show((2:Nat):Int)=2 from rfl] at g5;have g6:=gX 3 (by decide) false u;rw[show((3:Nat):Int)=3 from rfl] at g6;rw[h0,g2,g5,g6];simp only[DV];by_cases h3:k=3
  ·rw[if_pos h3,if_pos h3,jc k o a b c i u _ (by unfold iH;simp[h3]),DV]
  ·rw[if_neg h3];by_cases h4:k=4
   ·rw[if_pos h4,jc k o a b c i u _ (by unfold iH;simp[h4]),DV]
   ·rw[if_neg h4];by_cases h2:k=2
    ·rw[if_pos h2,jc k o a b c i u _ (by unfold iH;simp[h2]),DV]
    ·rw[if_neg h2];by_cases h5:k=5
     ·rw[if_pos h5,jc k o a b c i u _ (by unfold iH;simp[h5]),DV]
     ·rw[if_neg h5];by_cases h6:k=6
      ·rw[if_pos h6,jc k o a b c i u _ (by unfold iH;simp[h6]),DV]
      ·rw[if_neg h6];exact J n h1 h2 h3 h4 h5 h6
abbrev Gn(W:W32)(a n:Nat):Int:=((gz W a n).toNat:Int)
theorem dI(W:W32)(a:Nat){n:Nat}(hn:n<=32):0<=Gn W a n/\Gn W a n<2 ^ n:=by
 have:=CJ W a hn;refine⟨Int.natCast_nonneg _,?_⟩;have h2:((2 ^ n:Nat):Int)=2 ^ n:=by rw[Int.natCast_pow];rfl
 rw[<- h2];exact Int.ofNat_lt.2 this
theorem fB(W:W32)(a n:Nat)(hn:1<=n)(h:a+n<=32):Zaf.g (a:Int) (n:Int) (W.toNat:Int)=some (Gn W a n,()):=by
 unfold Zaf.g Zaf.f;rw[CG W hn h,DV];dsimp only;have:=dI W a (n:=n) (by omega);have h32:(gz W a n).toNat<2 ^ 32:=(gz W a n).isLt;rw[w64 (by omega)]
def sgV(W:W32)(n:Nat):Int:=IntKind.i64.wrap ((IntKind.i32.wrap ((W <<< (32-n)).toNat:Int)).fdiv (2 ^ (32-n)))
theorem rY(W:W32)(n:Nat)(h:1<=n)(h2:n<=32):Zbi.g (W.toNat:Int) (n:Int)=some (sgV W n,()):=by
 unfold Zbi.g Zbi.f Zbp.g Zbp.f;have hk:mn (mx (n:Int) 1) 32=(n:Int):=by unfold mn mx;split<;>split<;>omega
 rw[hk,DV];dsimp only;rw[w64 (by omega),show(32:Int)-(n:Int)=((32-n:Nat):Int) by omega,if_neg (by omega),if_neg (by omega),sW W (32-n) (by omega)];have e:min (((32-n:Nat):Int)).toNat IntKind.i32.bits=32-n:=by show min (((32-n:Nat):Int)).toNat 32=_;omega
 rw[e];rfl
def iO(W:W32):Int×Int×Int×Int×Int×Int×Bool×Unit:=
 if Gn W 30 2=0 then
  (if Gn W 29 1=1/\Gn W 16 4=0 then(3+Gn W 28 1,0,Gn W 24 4,0,0,0,false,()) else(1,Gn W 16 4,Gn W 24 4,Gn W 20 4,Gn W 0 4,0,decide (Gn W 29 1=1),()))
 else if Gn W 30 2=1 then(2,Gn W 16 4,Gn W 24 4,Gn W 20 4,0,Gn W 0 16-Gn W 28 1*65536,decide (Gn W 29 1=1),())
 else if Gn W 30 2=2 then(5,Gn W 29 1*2+Gn W 28 1,Gn W 24 4,Gn W 20 4,0,sgV W 20,false,())
 else if Gn W 29 1=1 then(7,Gn W 24 4,0,0,0,sgV W 24,decide (Gn W 28 1=1),())
 else(6,Gn W 24 4,0,0,Gn W 0 4,0,decide (Gn W 28 1=1),())
theorem oO(W:W32):Zah.g (W.toNat:Int)=some (iO W):=by
 unfold Zah.g Zah.f;have r1:=fB W 29 1 (by decide) (by decide);have r2:=fB W 28 1 (by decide) (by decide);have r3:=fB W 24 4 (by decide) (by decide);have r4:=fB W 20 4 (by decide) (by decide);have r5:=fB W 16 4 (by decide) (by decide);have r6:=fB W 30 2 (by decide) (by decide);have r7:=fB W 0 4 (by decide) (by decide);have r8:=fB W 0 16 (by decide) (by decide);have s1:=rY W 20 (by decide) (by decide);have s2:=rY W 24 (by decide) (by decide);have b1:=dI W 29 (n:=1) (by decide);have b2:=dI W 28 (n:=1) (by decide);have b8:=dI W 0 (n:=16) (by decide);have p16:IntKind.i64.wrap (Gn W 28 1*2 ^ (min (16:Int).toNat IntKind.i64.bits))=Gn W 28 1*65536:=by
  show IntKind.i64.wrap (Gn W 28 1*65536)=_;rw[w64 (by omega)]
 simp only[Int.cast_ofNat_Int] at r1 r2 r3 r4 r5 r6 r7 r8 s1 s2;simp only[r1,r2,r3,r4,r5,r6,r7,r8,s1,s2,DV,dt,Zah.j16,p16];unfold iO;by_cases h1:Gn W 30 2=0
 ·rw[if_pos h1,if_pos h1];by_cases h2:Gn W 29 1=1
  ·rw[if_pos h2];by_cases h3:Gn W 16 4=0
   ·rw[if_pos h3,if_pos ⟨h2,h3⟩,w64 (by omega)]
   ·rw[if_neg h3,if_neg (fun h=>h3 h.2)]
  ·rw[if_neg h2,if_neg (fun h=>h2 h.1)]
 ·rw[if_neg h1,if_neg h1];by_cases h2:Gn W 30 2=1
  ·rw[if_pos h2,if_pos h2,w64 (by omega)]
  ·rw[if_neg h2,if_neg h2];by_cases h3:Gn W 30 2=2
   ·rw[if_pos h3,if_pos h3,w64 (x:=Gn W 29 1*2) (by omega),w64 (by omega)]
   ·rw[if_neg h3,if_neg h3];by_cases h4:Gn W 29 1=1
    ·rw[if_pos h4,if_pos h4]
    ·rw[if_neg h4,if_neg h4]
def rg(x:Int):Prop:=0<=x/\x<16
inductive eu:Int->Int->Int->Int->Int->Bool->Prop
 |reg {o a b c:Int} {u:Bool}:0<o->o<12->rg a->rg b->rg c->(u=true->8<=o/\o<=10)->eu 1 o a b c u
 |mov {a c:Int}:rg a->rg c->eu 1 0 a 0 c false
 |imm {o a b:Int} {u:Bool}:0<o->o<12->rg a->rg b->(u=true->8<=o/\o<=10)->eu 2 o a b 0 u
 |movi {a:Int} {u:Bool}:rg a->eu 2 0 a 0 0 u
 |hi {a:Int}:rg a->eu 3 0 a 0 0 false
 |fl {a:Int}:rg a->eu 4 0 a 0 0 false
 |mem {o a b:Int}:0<=o->o<4->rg a->rg b->eu 5 o a b 0 false
 |br {o c:Int} {u:Bool}:rg o->rg c->eu 6 o 0 0 c u
 |jmp {o:Int} {u:Bool}:rg o->eu 7 o 0 0 0 u
theorem fE(n l h:Int):Zba.g n l h=some (decide (l<=n)&&decide (n<=h),()):=by
 unfold Zba.g Zba.f;by_cases e:l<=n;·rw[if_pos (by simpa using e),decide_eq_true e];rfl
 ·rw[if_neg (by simpa using e),decide_eq_false e];rfl
theorem vQ(W:W32):rg (iO W).2.2.1/\rg (iO W).2.2.2.1/\rg (iO W).2.2.2.2.1:=by
 have z:rg 0:=⟨by decide,by decide⟩
 have a:∀p,rg (Gn W p 4):=fun p=>dI W p (n:=4) (by decide)
 unfold iO;split
 ·split
  ·exact⟨a _,z,z⟩
  ·exact⟨a _,a _,a _⟩
 ·split
  ·exact⟨a _,a _,z⟩
  ·split
   ·exact⟨a _,a _,z⟩
   ·split
    ·exact⟨z,z,z⟩
    ·exact⟨z,z,a _⟩
theorem yn(k o a b c i:Int)(u:Bool):∃r,Zai.g k o a b c i u=some (r,())/\(r=true->(1<=k/\k<=7)/\rg a/\rg b/\rg c):=by
 unfold Zai.g;generalize 1000+k.toNat+o.toNat+a.toNat+b.toNat+c.toNat+i.toNat=n;unfold Zai.f;rw[fE,DV];dsimp only;by_cases hk:1<=k/\k<=7
 case neg=>rw[if_neg (by simp;omega)];exact⟨_,rfl,fun h=>by cases h⟩
 rw[if_pos (by simp[hk]),fE,DV];dsimp only;by_cases ho:0<=o/\o<=15
 case neg=>rw[if_neg (by simp;omega)];exact⟨_,rfl,fun h=>by cases h⟩
 rw[if_pos (by simp[ho]),oP,DV];dsimp only;rw[oO,DV];obtain⟨r1,r2,r3⟩:=vQ (fo k o a b c i u);generalize iO (fo k o a b c i u)=y at *;split;·exact⟨_,rfl,fun h=>by cases h⟩
 ·rename_i he;simp only[Bool.not_eq_true',Bool.not_eq_false,DW,D6] at he;have hg:(1<=k/\k<=7)/\rg a/\rg b/\rg c:=⟨hk,he.2.2.1 ▸ r1,he.2.2.2.1 ▸ r2,he.2.2.2.2.1 ▸ r3⟩
  simp only[dt,df,Zai.j10,fE,DV]
  repeat' split
  all_goals exact⟨_,rfl,fun _=>hg⟩
end Rv
namespace Rv
open Go
def I0P(k o a b c:Int)(u:Bool):Prop:=
 (k=1/\0<o/\o<12/\(u=true->8<=o/\o<=10))\/(k=1/\o=0/\b=0/\u=false)\/(k=2/\0<o/\o<12/\c=0/\(u=true->8<=o/\o<=10))\/(k=2/\o=0/\b=0/\c=0) \/
 (k=3/\o=0/\b=0/\c=0/\u=false)\/(k=4/\o=0/\b=0/\c=0/\u=false)\/(k=5/\0<=o/\o<4/\c=0/\u=false)\/(k=6/\0<=o/\o<16/\a=0/\b=0)\/(k=7/\0<=o/\o<16/\a=0/\b=0/\c=0)
instance (k o a b c:Int) (u:Bool):Decidable (I0P k o a b c u):=by unfold I0P;infer_instance
end Rv
namespace Rv
open Go
def qw(k o i:Int)(u:Bool):Prop:=
 (k=2/\-65536<=i/\i<=65535/\(o=0->u=true->0<=i))\/(k=5/\-524288<=i/\i<=524287)\/(k=7/\-8388608<=i/\i<=8388607)\/(k≠2/\k≠5/\k≠7/\i=0)
instance (k o i:Int) (u:Bool):Decidable (qw k o i u):=by unfold qw;infer_instance
theorem vZ(W:W32){n:Nat}(hn:n<=32):(gz W 0 n).toNat=W.toNat % 2 ^ n:=by
 refine Nat.eq_of_testBit_eq fun j=>?_
 rw[Nat.testBit_mod_two_pow];by_cases hj:j<32;·have:=oJ W (a:=0) hn hj;rw[Nat.zero_add] at this;exact this
 ·have h1:(gz W 0 n).toNat.testBit j=false:=BitVec.getLsbD_of_ge _ _ (by omega);rw[h1,decide_eq_false (by omega),Bool.false_and]
theorem DJ(W:W32):sgV W 20=if Gn W 0 20<524288 then Gn W 0 20 else Gn W 0 20-1048576:=by
 unfold sgV Gn;rw[vZ W (by decide),BitVec.toNat_shiftLeft,Nat.shiftLeft_eq,Int.fdiv_eq_ediv_of_nonneg _ (by decide),IntKind.wrap_i32,IntKind.wrap_i64];have:=W.isLt;generalize W.toNat=q at *;show _=if((q % 1048576:Nat):Int)<524288 then((q % 1048576:Nat):Int) else((q % 1048576:Nat):Int)-1048576
 simp only[Nat.reducePow,Nat.reduceSub,Int.reducePow];split<;>omega
theorem DK(W:W32):sgV W 24=if Gn W 0 24<8388608 then Gn W 0 24 else Gn W 0 24-16777216:=by
 unfold sgV Gn;rw[vZ W (by decide),BitVec.toNat_shiftLeft,Nat.shiftLeft_eq,Int.fdiv_eq_ediv_of_nonneg _ (by decide),IntKind.wrap_i32,IntKind.wrap_i64];have:=W.isLt;generalize W.toNat=q at *;show _=if((q % 16777216:Nat):Int)<8388608 then((q % 16777216:Nat):Int) else((q % 16777216:Nat):Int)-16777216
 simp only[Nat.reducePow,Nat.reduceSub,Int.reducePow];split<;>omega
theorem ym{k o a b c i:Int}{u:Bool}(h:Zai.g k o a b c i u=some (true,())):eu k o a b c u/\qw k o i u:=by
 unfold Zai.g at h;generalize 1000+k.toNat+o.toNat+a.toNat+b.toNat+c.toNat+i.toNat=n at h;unfold Zai.f at h;rw[fE,DV] at h;dsimp only at h;by_cases hk:1<=k/\k<=7
 case neg=>rw[if_neg (by simp;omega)] at h;cases h
 rw[if_pos (by simp[hk]),fE,DV] at h;dsimp only at h;by_cases ho:0<=o/\o<=15
 case neg=>rw[if_neg (by simp;omega)] at h;cases h
 rw[if_pos (by simp[ho]),oP,DV] at h;dsimp only at h;rw[oO,DV] at h;have s20:=DJ (fo k o a b c i u);have s24:=DK (fo k o a b c i u);have r20:=dI (fo k o a b c i u) 0 (n:=20) (by decide);have r24:=dI (fo k o a b c i u) 0 (n:=24) (by decide);have r16:=dI (fo k o a b c i u) 0 (n:=16) (by decide);generalize hW:fo k o a b c i u=W at h s20 s24 r20 r24 r16;have g4:∀p,rg (Gn W p 4):=fun p=>dI W p (n:=4) (by decide)
 have g1:∀p,0<=Gn W p 1/\Gn W p 1<2:=fun p=>dI W p (n:=1) (by decide)
 split at h;·cases h
 ·rename_i he;simp only[Bool.not_eq_true',Bool.not_eq_false,DW,D6,beq_iff_eq,and_true] at he;obtain⟨e1,e2,e3,e4,e5,e6,e7⟩:=he;simp only[dt,df,Zai.j10,fE,DV] at h;unfold iO at e1 e2 e3 e4 e5 e6 e7;split at e1
  ·rename_i f0;rw[if_pos f0] at e2 e3 e4 e5 e6 e7;split at e1
   ·rename_i f1;rw[if_pos f1] at e2 e3 e4 e5 e6 e7;dsimp only at e1 e2 e3 e4 e5 e6 e7;have:=g1 28;subst e2 e4 e5 e7;have hk3:k=3\/k=4:=by omega
    rcases hk3 with rfl|rfl;·exact⟨.hi (e3 ▸ g4 _),.inr (.inr (.inr ⟨by decide,by decide,by decide,e6⟩))⟩
    ·exact⟨.fl (e3 ▸ g4 _),.inr (.inr (.inr ⟨by decide,by decide,by decide,e6⟩))⟩
   ·rename_i f1;rw[if_neg f1] at e2 e3 e4 e5 e6 e7;dsimp only at e1 e2 e3 e4 e5 e6 e7;subst e1;rw[if_pos rfl,if_pos rfl] at h;by_cases ho0:o=0
    ·subst ho0;rw[if_pos rfl] at h;by_cases hb0:b=0
     ·subst hb0;rw[if_pos rfl,if_pos (by decide)] at h;cases u with
      |false=>exact⟨.mov (e3 ▸ g4 _) (e5 ▸ g4 _),.inr (.inr (.inr ⟨by decide,by decide,by decide,e6⟩))⟩
      |true=>rw[if_neg (by decide)] at h;cases h
     ·rw[if_neg hb0] at h;cases h
    ·rw[if_neg ho0] at h;by_cases h11:11<o
     ·rw[if_pos h11] at h;cases h
     ·rw[if_neg h11] at h;refine⟨.reg (by omega) (by omega) (e3 ▸ g4 _) (e4 ▸ g4 _) (e5 ▸ g4 _) fun hu=>?_,.inr (.inr (.inr ⟨by decide,by decide,by decide,e6⟩))⟩;subst hu;simp at h;exact h
  ·rename_i f0;rw[if_neg f0] at e2 e3 e4 e5 e6 e7;split at e1
   ·rename_i f1;rw[if_pos f1] at e2 e3 e4 e5 e6 e7;dsimp only at e1 e2 e3 e4 e5 e6 e7;subst e1 e5;rw[if_neg (by decide),if_pos rfl] at h;by_cases ho0:o=0
    ·subst ho0;rw[if_pos rfl] at h;by_cases hb0:b=0
     ·subst hb0;exact⟨.movi (e3 ▸ g4 _),.inl ⟨rfl,by have:=g1 28;omega,by have:=g1 28;omega,fun _ hu=>by subst hu;simpa using h⟩⟩
     ·rw[if_neg hb0] at h;cases h
    ·rw[if_neg ho0] at h;by_cases h11:11<o
     ·rw[if_pos h11] at h;cases h
     ·rw[if_neg h11] at h;refine⟨.imm (by omega) (by omega) (e3 ▸ g4 _) (e4 ▸ g4 _) fun hu=>?_,.inl ⟨rfl,by have:=g1 28;omega,by have:=g1 28;omega,fun h0=>absurd h0 ho0⟩⟩;subst hu;simp at h;exact h
   ·rename_i f1;rw[if_neg f1] at e2 e3 e4 e5 e6 e7;split at e1
    ·rename_i f2;rw[if_pos f2] at e2 e3 e4 e5 e6 e7;dsimp only at e1 e2 e3 e4 e5 e6 e7;have q1:=g1 29;have q2:=g1 28;subst e1 e5 e7;exact⟨.mem (by omega) (by omega) (e3 ▸ g4 _) (e4 ▸ g4 _),.inr (.inl ⟨rfl,by rw[e6,s20];split<;>omega,by rw[e6,s20];split<;>omega⟩)⟩
    ·rename_i f2;rw[if_neg f2] at e2 e3 e4 e5 e6 e7;split at e1
     ·rename_i f3;rw[if_pos f3] at e2 e3 e4 e5 e6 e7;dsimp only at e1 e2 e3 e4 e5 e6 e7;subst e1 e3 e4 e5;exact⟨.jmp (e2 ▸ g4 _),.inr (.inr (.inl ⟨rfl,by rw[e6,s24];split<;>omega,by rw[e6,s24];split<;>omega⟩))⟩
     ·rename_i f3;rw[if_neg f3] at e2 e3 e4 e5 e6 e7;dsimp only at e1 e2 e3 e4 e5 e6 e7;subst e1 e3 e4;exact⟨.br (e2 ▸ g4 _) (e5 ▸ g4 _),.inr (.inr (.inr ⟨by decide,by decide,by decide,e6⟩))⟩
end Rv
namespace Rv
open Go
theorem CB(x:Int):aY .and .i64 x 15=x % 16:=by
 have e:aY .and .i64 x 15=IntKind.i64.wrap ((BitVec.ofInt 64 x &&& BitVec.ofInt 64 15).toNat:Int):=rfl;have e2:(BitVec.ofInt 64 15).toNat=2 ^ 4-1:=by decide
 rw[e,BitVec.toNat_and,e2,Nat.and_two_pow_sub_one_eq_mod,BitVec.toNat_ofInt,w64 (by omega)];omega
def Dz:Str:=[48,49,50,51,52,53,54,55,56,57,65,66,67,68,69,70]
def nmD(a:Int)(k:Nat):Int:=bt Dz (a.fdiv (2 ^ k) % 16)
def nmR(a:Int):Str:=bytesOf [95,nmD a 12,nmD a 8,nmD a 4,nmD a 0]
theorem kS(n m:Nat)(a:Int)(b:List Int)(k:Nat)(hk:k<=12)(hb:b.length<=100):Zaj.l3 n (m+1) a b (k:Int)=Zaj.l3 n m a (b++[nmD a k]) ((k:Int)-4):=by
 rw[Zaj.l3];have e:min ((k:Int)).toNat IntKind.i64.bits=k:=by
  rw[Ew];exact Nat.min_eq_left (Eg hk (by decide))
 have h16:0<=a.fdiv (2 ^ k) % 16/\a.fdiv (2 ^ k) % 16<16:=⟨Int.emod_nonneg _ (by decide),Int.emod_lt_of_pos _ (by decide)⟩
 rw[if_pos (by simp),if_neg (by omega),e,CB,if_pos ⟨h16.1,h16.2⟩,if_pos (by simp;omega),w64 (by omega)];rfl
theorem CE(a:Int):Zaj.g a=some (nmR a,()):=by
 unfold Zaj.g Zaj.f;obtain⟨m,hm⟩:∃m,1000+a.toNat=m+5:=⟨995+a.toNat,by omega⟩
 rw[hm];rw[show(12:Int)=((12:Nat):Int) from rfl,kS _ (m+4) a _ 12 (by decide) (by decide)];rw[show((12:Nat):Int)-4=((8:Nat):Int) from rfl,kS _ (m+3) a _ 8 (by decide) (by simp)];rw[show((8:Nat):Int)-4=((4:Nat):Int) from rfl,kS _ (m+2) a _ 4 (by decide) (by simp)];rw[show((4:Nat):Int)-4=((0:Nat):Int) from rfl,kS _ (m+1) a _ 0 (by decide) (by simp)];rw[Zaj.l3,if_neg (by decide)];rfl
theorem mE(a:Int):Zbc.g a=some ([((2:Int),0,nmR a,())],()):=by
 unfold Zbc.g Zbc.f;rw[CE,DV]
def fQ(a:Int):List It:=if a<0 then[((1:Int),IntKind.u32.wrap (-a),[],()),((3:Int),0,[],())] else[((1:Int),IntKind.u32.wrap a,[],())]
theorem Aq(a:Int):0<(fQ a).length/\(fQ a).length<=2:=by unfold fQ;split<;>simp
theorem BJ{v:Int}(h:0<=v/\v<=4294967295):fQ v=[((1:Int),v,[],())]:=by
 unfold fQ;rw[if_neg (by omega),IntKind.wrap_u32,show v % 4294967296=v by omega]
theorem qD{a:Int}(h:-9223372036854775808<a/\a<=9223372036854775807):disasm_number.g a=some (fQ a,()):=by
 unfold disasm_number.g fQ;obtain⟨m,hm⟩:∃m,1000+a.toNat=m+2:=⟨998+a.toNat,by omega⟩
 rw[hm];show disasm_number.f (1000+a.toNat) (aU (m+1)) a=_;unfold disasm_number.f;by_cases hn:a<0
 ·rw[if_pos (by simpa using hn),if_pos hn,w64 (by omega)];have e:(aU (m+1)).disasm_number (0-a)=some ([((1:Int),IntKind.u32.wrap (0-a),[],())],()):=by
   show disasm_number.f (1000+(0-a).toNat) (aU m) (0-a)=_;unfold disasm_number.f;rw[if_neg (by simp;omega)]
  rw[e,DV,if_pos (by simp),Int.zero_sub];rfl
 ·rw[if_neg (by simpa using hn),if_neg hn]
theorem um(n:Nat)(a:List Int)(b:Int)(hl:a.length<=9223372036854775806):∀(m i:Nat),i<=a.length->a.length-i<m->∃y,Zaq.l2 n m a b (a.length:Int) (i:Int)=some (y,())/\(0<=y↔b∈a.drop i)
 |0,i,_,h=>by omega
 |m+1,i,hi,h=>by
  rw[Zaq.l2];by_cases hlt:i<a.length
  ·rw[if_pos (by simp;omega),if_pos ⟨by omega,by omega⟩];have hd:a.drop i=a.getD i 0::a.drop (i+1):=by
    rw[List.drop_eq_getElem_cons hlt];simp[List.getD,hlt]
   rw[Ew];by_cases he:b=a.getD i 0;·rw[if_pos (by simpa using he)];exact⟨_,rfl,by rw[hd];simp[he]⟩
   ·rw[if_neg (by simpa using he),w64 (by omega)];obtain⟨y,h1,h2⟩:=um n a b hl m (i+1) (by omega) (by omega);refine⟨y,h1,?_⟩;rw[h2,hd,D8];exact⟨.inr,fun h=>h.resolve_left he⟩
  ·rw[if_neg (by simp;omega)];refine⟨_,rfl,?_⟩;rw[List.drop_eq_nil_of_le (by omega)];simp
theorem tY{a:List Int}(hl:a.length<=9223372036854775806)(b:Int):Zay.g a b=some (decide (b∈a),()):=by
 unfold Zay.g Zay.f Zaq.g Zaq.f;obtain⟨y,h1,h2⟩:=um (1000+a.length+b.toNat) a b hl (1000+a.length+b.toNat) 0 (Nat.zero_le _) (by omega);rw[show(0:Int)=((0:Nat):Int) from rfl,h1,DV];congr 2;rw[EH] at h2;exact decide_eq_decide.2 h2
abbrev Dr:=Int×Int×Int×Int×Int×Int×Bool×Bool×Unit
def fP(v:Int):Dr:=(Zal.g v).getD (0,0,0,0,0,0,false,false,())
theorem iD{v:Int}(h:0<=v/\v<=4294967295):Zal.g v=some (fP v)/\(fP v=(0,0,0,0,0,0,false,false,())\/∃k o a b c i u,fP v=(k,o,a,b,c,i,u,true,())/\eu k o a b c u/\qw k o i u/\v=((fo k o a b c i u).toNat:Int)):=by
 have key:∃r,Zal.g v=some r/\(r=(0,0,0,0,0,0,false,false,())\/∃k o a b c i u,r=(k,o,a,b,c,i,u,true,())/\eu k o a b c u/\qw k o i u/\v=((fo k o a b c i u).toNat:Int)):=by
  obtain⟨W,rfl⟩:∃W:W32,v=(W.toNat:Int):=⟨BitVec.ofInt 32 v,by rw[BitVec.toNat_ofInt];omega⟩
  unfold Zal.g Zal.f;rw[oO,DV];obtain⟨k,o,a,b,c,i,u,z⟩:=iO W;dsimp only;obtain⟨r,hr,_⟩:=yn k o a b c i u;rw[hr,DV];cases r with
  |false=>exact⟨_,rfl,.inl rfl⟩
  |true=>
   dsimp only;rw[if_pos (by decide),oP,DV];obtain⟨g1,g2⟩:=ym hr;dsimp only;by_cases hw:((fo k o a b c i u).toNat:Int)=(W.toNat:Int)
   ·rw[if_neg (by simpa using hw)];exact⟨_,rfl,.inr ⟨k,o,a,b,c,i,u,rfl,g1,g2,hw.symm⟩⟩
   ·rw[if_pos (by simpa using hw)];exact⟨_,rfl,.inl rfl⟩
 obtain⟨r,h1,h2⟩:=key;have e:fP v=r:=by unfold fP;rw[h1];rfl
 exact⟨by rw[e];exact h1,by rw[e];exact h2⟩
def kW(ws ss:List Int)(i:Nat):Int×Bool×Unit:=
 if i<ws.length/\(i:Int) ∉ ss/\(fP (ws.getD i 0)).2.2.2.2.2.2.2.1=true/\(fP (ws.getD i 0)).1=7/\0<=(i:Int)+1+(fP (ws.getD i 0)).2.2.2.2.2.1/\(i:Int)+1+(fP (ws.getD i 0)).2.2.2.2.2.1<=ws.length then(4*((i:Int)+1+(fP (ws.getD i 0)).2.2.2.2.2.1),true,()) else(0,false,())
structure qx (ws ss:List Int):Prop where
 w:ws.length<=100000
 s:ss.length<=100000
 u:∀x∈ws,0<=x/\x<=4294967295
theorem qx.at{ws ss:List Int}(h:qx ws ss){i:Nat}(hi:i<ws.length):0<=ws.getD i 0/\ws.getD i 0<=4294967295:=by
 rw[List.getD_eq_getElem?_getD,Ef hi];exact h.u _ (EI hi)
theorem mr{v:Int}(h:0<=v/\v<=4294967295):-9000000<=(fP v).2.2.2.2.2.1/\(fP v).2.2.2.2.2.1<=9000000:=by
 rcases(iD h).2 with e|⟨k,o,a,b,c,i,u,e,_,hi,_⟩;·rw[e];decide
 ·rw[e];unfold qw at hi;show -9000000<=i/\i<=9000000;omega
theorem zT{ws ss:List Int}(h:qx ws ss)(ys:List (Str×Int×Unit))(i:Nat)(hi:i<=9223372036854775800):Zau.g ws ss ys (i:Int)=some (kW ws ss i):=by
 unfold Zau.g Zau.f kW;have hss:=h.s;have hws:=h.w;rw[if_pos (by simp)];by_cases hlt:i<ws.length
 ·rw[if_pos (by simp;omega),tY (by omega),DV];dsimp only;by_cases hm:(i:Int)∈ss
  ·rw[if_pos (by simpa using hm),if_neg (by intro h;exact h.2.1 hm)]
  ·rw[if_neg (by simpa using hm),if_pos ⟨by omega,by omega⟩,Ew,(iD (h.at hlt)).1,DV];have hsm:=mr (h.at hlt);generalize fP (ws.getD i 0)=r at hsm⊢;obtain⟨k,o,a,b,c,j,u,okk,z⟩:=r;dsimp only at hsm⊢;rw[w64 (x:=(i:Int)+1) (by omega),w64 (x:=(i:Int)+1+j) (by omega),w64 (x:=4*((i:Int)+1+j)) (by omega),w64 (x:=4*(ws.length:Int)) (by omega)];cases okk with
   |false=>rw[if_neg (by decide),if_neg (by simp)]
   |true=>
    rw[if_pos (by decide)];by_cases hk:k=7
    ·rw[if_pos (by simpa using hk)];by_cases h0:4*((i:Int)+1+j)<0
     ·rw[if_neg (by simpa using h0),if_neg (by omega)]
     ·rw[if_pos (by simpa using h0)];by_cases h1:4*(ws.length:Int)<4*((i:Int)+1+j)
      ·rw[if_pos (by simpa using h1),if_neg (by omega)]
      ·rw[if_neg (by simpa using h1),if_pos ⟨hlt,hm,rfl,hk,by omega,by omega⟩]
    ·rw[if_neg (by simpa using hk),if_neg (by intro h;exact hk h.2.2.2.1)]
 ·rw[if_neg (by simp;omega),if_neg (by intro h;exact hlt h.1)]
def stN(k:Int)(e:List It):Sn:=(k,0,0,0,0,false,e,[],())
def nmE(a:Int):List It:=[((2:Int),0,nmR a,())]
def ug(ws ss:List Int)(i:Nat):Sn:=
 if ws.length<=i then stN 0 [] else
 if(i:Int)∈ss then stN 9 (if ws.getD i 0 % 4=0 then nmE (ws.getD i 0) else nmE 0++fQ (ws.getD i 0)++[((4:Int),0,[],())]) else
 let x:=fP (ws.getD i 0)
 if x.2.2.2.2.2.2.2.1=false then stN 9 (fQ (ws.getD i 0)) else
 if x.1=7 then(if(kW ws ss i).2.1=true then(x.1,x.2.1,x.2.2.1,x.2.2.2.1,x.2.2.2.2.1,x.2.2.2.2.2.2.1,nmE (kW ws ss i).1,[],()) else stN 9 (fQ (ws.getD i 0))) else
 (x.1,x.2.1,x.2.2.1,x.2.2.2.1,x.2.2.2.2.1,x.2.2.2.2.2.2.1,(if x.1=2\/x.1=5 then fQ x.2.2.2.2.2.1 else[]),[],())
theorem uf{ws ss:List Int}(h:qx ws ss)(ys:List (Str×Int×Unit))(i:Nat)(hi:i<=9223372036854775800):Zag.g ws ss ys (i:Int)=some (ug ws ss i):=by
 unfold Zag.g Zag.f ug;have hss:=h.s;have hws:=h.w;rw[if_pos (by simp)];by_cases hge:ws.length<=i;·rw[if_pos (by simp;omega),if_pos hge];rfl
 ·have hlt:i<ws.length:=by omega
  have hat:=h.at hlt;rw[if_neg (by simp;omega),if_neg hge,if_pos ⟨by omega,by omega⟩,Ew,w64 (by omega),qD (by omega),DV,tY (by omega),DV];dsimp only;by_cases hm:(i:Int)∈ss
  ·rw[if_pos (by simpa using hm),if_pos hm,mE,DV];by_cases h4:ws.getD i 0 % 4=0
   ·have ht:Int.tmod (ws.getD i 0) 4=0:=by rw[EC hat.1];exact h4
    rw[if_neg (by simpa using ht),if_pos h4];rfl
   ·have ht:¬Int.tmod (ws.getD i 0) 4=0:=by rw[EC hat.1];exact h4
    have hn:=Aq (ws.getD i 0);rw[if_pos (by simpa using ht),if_neg h4,mE,DV,DV];dsimp only;generalize fQ (ws.getD i 0)=z at hn⊢;rw[if_pos (by simp;omega),if_pos (by simp;omega)];rfl
  ·rw[if_neg (by simpa using hm),if_neg hm,if_pos ⟨by omega,by omega⟩,(iD hat).1,DV,zT h ys i hi];have hsm:=mr hat
   generalize fP (ws.getD i 0)=r at hsm⊢;obtain⟨k,o,a,b,c,j,u,okk,z⟩:=r;dsimp only at hsm⊢;cases okk with
   |false=>rw[if_pos (by decide),if_pos rfl];rfl
   |true=>
    rw[if_neg (show ¬((!true)=true) by decide),if_neg (show ¬(true=false) by decide)];by_cases hk:k=7
    ·rw[if_pos (by simpa using hk),if_pos hk,DV];generalize kW ws ss i=q;obtain⟨dst,iz,zz⟩:=q;dsimp only;cases iz with
     |false=>rw[if_pos (by decide),if_neg (by decide)];rfl
     |true=>rw[if_neg (by decide),if_pos rfl,mE,DV];rfl
    ·rw[if_neg (by simpa using hk),if_neg hk];by_cases h2:k=2
     ·rw[if_pos (by simpa using h2),if_pos (by simpa using h2),qD (by omega),DV,if_pos (.inl h2)];rfl
     ·rw[if_neg (by simpa using h2)];by_cases h5:k=5
      ·rw[if_pos (by simpa using h5),qD (by omega),DV,if_pos (.inr h5)];rfl
      ·rw[if_neg (by simpa using h5),if_neg (by omega)];rfl
end Rv
namespace Rv
open Go
theorem yg(n:Int):Zap.g [] n=some ([],()):=by
 unfold Zap.g Zap.f;obtain⟨m,hm⟩:∃m,1000+([]:List Int).length+n.toNat=m+1:=⟨999+n.toNat,by simp;omega⟩
 rw[hm,Zap.l3];split;·rw[if_neg (by simp)]
 ·rfl
section
variable(a:List Str)(w:List Int)(hw:w.length<=40)(ha:∀s∈a,s.length<=9223372036854775807)
include hw ha
theorem Bf{i:Nat}(hi:i<a.length):(a.getD i ([]:Str)).length<=9223372036854775807:=by
 rw[List.getD_eq_getElem?_getD,Ef hi];exact ha _ (EI hi)
theorem rz(n:Nat)(rl9:List Str->Int->Int->List Int->List Int->List (Str×Int×Unit)->List Int->List Int->List (Str×Int×Unit)->Option (List Int×List Int×List (Str×Int×Unit)×Unit))(d e:List Int)(i:List (Str×Int×Unit))(j k:List Int)(z:Str){c:Nat}(hc:c<a.length)(hc8:c<8)
  (H:∀l:List (Str×Int×Unit),l.length<=c+1->∃r,rl9 a (w.length:Int) ((c+1:Nat):Int) d e i j k l=some (j,k,r,())):∀(m x:Nat) (l:List (Str×Int×Unit)),l.length<=c->x<=l.length->l.length-x<m->∃r,Zaa.l13 n rl9 m a (w.length:Int) (c:Int) z (x:Int) d e i j k l=some (j,k,r,())
 |0,x,l,hl,hx,h=>by omega
 |m+1,x,l,hl,hx,h=>by
  rw[Zaa.l13];have hwc:IntKind.i64.wrap ((c:Int)+1)=((c+1:Nat):Int):=w64 (by omega);have ins:∃r,Zaa.j16 n rl9 a (w.length:Int) (c:Int) z (x:Int) d e i j k l=some (j,k,r,()):=by
   unfold Zaa.j16 Zaa.j10;have hlen:=Bf a w hw ha hc;rw[if_pos ⟨by omega,by omega⟩,w64 (x:=(w.length:Int)+1) (by omega),if_neg (by omega),if_pos ⟨by omega,by omega⟩,if_pos (by simp;omega),if_pos ⟨by omega,by omega⟩,if_pos (by simp;omega),if_pos (by simp;omega),hwc];exact H _ (by simp;omega)
  have j15:∃r,Zaa.j15 n rl9 a (w.length:Int) (c:Int) z (x:Int) d e i j k l=some (j,k,r,()):=by
   unfold Zaa.j15;split
   ·rename_i hlt;rw[if_pos ⟨by omega,by simpa using hlt⟩];split
    ·unfold Zaa.j10;rw[hwc];exact H _ (by omega)
    ·exact ins
   ·exact ins
  split
  ·rename_i hlt;have hlt:x<l.length:=by simpa using hlt
   rw[if_pos ⟨by omega,by omega⟩];split;·rw[w64 (by omega)];exact rz n rl9 d e i j k z hc hc8 H m (x+1) l hl (by omega) (by omega)
   ·exact j15
  ·exact j15
theorem nZ(n:Nat)(hn:100<=n)(d e:List Int)(i:List (Str×Int×Unit))(j k:List Int):∀(m c:Nat) (l:List (Str×Int×Unit)),c<=8->8-c<m->l.length<=c->∃r,Zaa.l9 n m a (w.length:Int) (c:Int) d e i j k l=some (j,k,r,())
 |0,c,l,hc,h,hl=>by omega
 |m+1,c,l,hc,h,hl=>by
  rw[Zaa.l9];split
  ·rename_i h1;have h1:c<a.length:=by simpa using h1
   split
   ·rename_i h2;have h2:c<8:=by simp at h2;omega
    rw[if_pos ⟨by omega,by omega⟩];obtain⟨z,hz,_⟩:=Aa (a.getD (c:Int).toNat ([]:Str)) (by rw[Ew];have:=Bf a w hw ha h1;omega);rw[hz,DV];exact rz a w hw ha n _ d e i j k z h1 h2 (fun l hl=>nZ n hn d e i j k m (c+1) l (by omega) (by omega) hl) n 0 l hl (Nat.zero_le _) (by omega)
   ·exact⟨_,rfl⟩
  ·exact⟨_,rfl⟩
end
theorem vE{a:List Int}{c:List Str}(ha:a.length<=9223372036854775807)(hc:∀s∈c,s.length<=9223372036854775807):∃r,Zaa.g a [] c=some (a.take 40,[],r,()):=by
 unfold Zaa.g Zaa.f;have hm:mn (a.length:Int) 40=((min a.length 40:Nat):Int):=by unfold mn;split<;>omega
 have hw:(([]:List Int)++((a.take (((min a.length 40:Nat):Int)).toNat).drop 0))=a.take 40:=by
  rw[Ew,EH,Em,List.take_eq_take_iff];omega
 rw[hm,if_pos ⟨by omega,by omega⟩,if_pos (by simp;omega),hw,yg,DV];generalize hn:1000+a.length+([]:List Int).length+c.length=n;obtain⟨m,rfl⟩:∃m,n=m+1:=⟨n-1,by simp at hn;omega⟩
 rw[Zaa.l5,if_neg (by simp)];exact nZ c (a.take 40) (by simp;omega) hc (m+1) (by simp at hn;omega) [] [] [] (a.take 40) [] (m+1) 0 [] (by omega) (by simp at hn;omega) (DU _)
end Rv
namespace Rv
open Go
theorem Cm:Zam.g=some (true,()):=by decide +kernel
end Rv
namespace Rv
open Go
section
variable(sh:Option (Bool×Unit))(ws:List Int)(hO:qx ws [])(r:List (Str×Int×Unit))(n:Nat)
include hO
theorem nU:∀(m i:Nat),i<=ws.length->ws.length-i<m->rivetlaw23_DisasmWords.l4 sh n m true (i:Int) ws [] r=some (true,())
 |0,i,_,h=>by omega
 |m+1,i,hi,h=>by
  have hw:=hO.w;rw[rivetlaw23_DisasmWords.l4];by_cases hlt:i<ws.length
  ·have hat:=hO.at hlt;have ih:=nU m (i+1) (by omega) (by omega);have step:rivetlaw23_DisasmWords.j5 sh n (rivetlaw23_DisasmWords.l4 sh n m) true (i:Int) ws [] r=some (true,()):=by
    unfold rivetlaw23_DisasmWords.j5;rw[w64 (by omega)];exact ih
   rw[if_pos (by simp;omega),uf hO r i (by omega),DV,if_pos ⟨by omega,by omega⟩,Ew,(iD hat).1,DV];have word:∀(t u v w x z:Int) (A:Bool),rivetlaw23_DisasmWords.j10 sh n (rivetlaw23_DisasmWords.l4 sh n m) true (i:Int) true ws [] r 9 0 0 0 0 false (fQ (ws.getD i 0)) [] t u v w x z A=some (true,()):=by
    intro t u v w x z A;unfold rivetlaw23_DisasmWords.j10 rivetlaw23_DisasmWords.j12;rw[BJ hat,if_pos rfl,if_pos (by decide),if_pos (by simp),if_pos ⟨by decide,by simp⟩,if_pos ⟨by omega,by omega⟩,Ew,if_neg (by simp),if_neg (by decide)];exact step
   have hd:ug ws [] i=(let x:=fP (ws.getD i 0)
     if x.2.2.2.2.2.2.2.1=false then stN 9 (fQ (ws.getD i 0)) else
     if x.1=7 then(if(kW ws [] i).2.1=true then(x.1,x.2.1,x.2.2.1,x.2.2.2.1,x.2.2.2.2.1,x.2.2.2.2.2.2.1,nmE (kW ws [] i).1,[],()) else stN 9 (fQ (ws.getD i 0))) else
     (x.1,x.2.1,x.2.2.1,x.2.2.2.1,x.2.2.2.2.1,x.2.2.2.2.2.2.1,(if x.1=2\/x.1=5 then fQ x.2.2.2.2.2.1 else[]),[],())):=by
    unfold ug;rw[if_neg (by omega),if_neg (by simp)]
   rw[hd];have hsm:=mr hat
   rcases(iD hat).2 with e|⟨k,o,a,b,c,j,u,e,_,_,_⟩;·rw[e];dsimp only;rw[if_neg (by decide),if_pos rfl];exact word _ _ _ _ _ _ _
   ·have hj:kW ws [] i=if k=7/\0<=(i:Int)+1+j/\(i:Int)+1+j<=ws.length then(4*((i:Int)+1+j),true,()) else(0,false,()):=by
     unfold kW;rw[e];simp only[hlt,true_and,List.not_mem_nil,not_false_eq_true]
    rw[e] at hsm⊢;dsimp only at hsm⊢;rw[if_pos (by decide),if_neg (show ¬(true=false) by decide),hj,w64 (x:=(i:Int)+1) (by omega),w64 (x:=(i:Int)+1+j) (by omega)];have good:∀(e:List (Int×Int×Str×Unit)),rivetlaw23_DisasmWords.j10 sh n (rivetlaw23_DisasmWords.l4 sh n m) true (i:Int) false ws [] r k o a b c u e [] k o a b c j u=some (true,()):=by
     intro e;unfold rivetlaw23_DisasmWords.j10 rivetlaw23_DisasmWords.j12;rw[if_neg (by decide),if_pos (by decide),if_pos (by simp),if_pos (by simp),if_pos (by simp),if_pos (by simp),if_pos (by simp),if_neg (by simp)];exact step
    by_cases hk:k=7
    ·rw[if_pos (by simpa using hk),if_pos hk];by_cases h0:(i:Int)+1+j<0
     ·rw[if_neg (by simpa using h0),if_neg (c:=_/\_) (by omega),if_neg (by decide)];exact word _ _ _ _ _ _ _
     ·rw[if_pos (by simpa using h0)];by_cases h1:(ws.length:Int)<(i:Int)+1+j
      ·rw[if_neg (c:=_/\_) (by omega),if_neg (by decide),decide_eq_true h1];exact word _ _ _ _ _ _ _
      ·rw[if_pos (c:=_/\_) ⟨hk,by omega,by omega⟩,if_pos rfl,decide_eq_false h1];exact good _
    ·rw[if_neg (by simpa using hk),if_neg hk];exact good _
  ·rw[if_neg (by simp;omega),if_pos rfl,uf hO r ws.length (by omega),DV];unfold ug;rw[if_pos (DU _)];rfl
end
theorem dwords_wf{a b:List Int}{c:List Str}(h:(a.length<=maxLen/\∀x∈a,(Lit.int .u32 x).wf=true)/\(b.length<=maxLen/\∀x∈b,(Lit.int .u8 x).wf=true)/\(c.length<=maxLen/\∀s∈c,s.length<=140737488351232)/\True):rivetlaw23_DisasmWords.g a b c=some (true,()):=by
 obtain⟨⟨h1,h2⟩,_,⟨h3,h4⟩,_⟩:=h;unfold rivetlaw23_DisasmWords.g rivetlaw23_DisasmWords.f;have hO:qx (a.take 40) []:=⟨by simp;omega,by simp,fun x hx=>Dq (h2 x (List.mem_of_mem_take hx))⟩
 obtain⟨r,hr⟩:=vE (a:=a) (c:=c) h1 fun s hs=>Eg (h4 s hs) (by decide)
 rw[Cm,DV,hr,DV];exact nU _ (a.take 40) hO r _ _ 0 (Nat.zero_le _) (by simp;omega)
end Rv
