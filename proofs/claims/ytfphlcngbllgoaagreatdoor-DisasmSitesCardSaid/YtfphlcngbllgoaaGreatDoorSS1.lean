/- Texts put together. -/
import Derived.Test.YtfphlcngbllgoaaGreatDoorS1
set_option linter.all false
namespace Rv
open Go
set_option maxRecDepth 100000
def K.atA:Fn:=(181,[])
def K.rdA:Fn:=(227,[.cf (181,[])])
def K.wrA:Fn:=(228,[.cf (181,[])])
def K.atB:Fn:=(182,[])
def K.rdB:Fn:=(227,[.cf (182,[])])
def K.wrB:Fn:=(228,[.cf (182,[])])
def K.atC:Fn:=(183,[])
def K.rdC:Fn:=(227,[.cf (183,[])])
def K.wrC:Fn:=(228,[.cf (183,[])])
def K.rdE:Fn:=(229,[.c0 (.cs ([]:Str))])
def K.wrE:Fn:=(231,[.c0 (.cs ([]:Str))])
def K.rdQ:Fn:=(229,[.c0 (.cs ([61]:Str))])
def K.wrQ:Fn:=(231,[.c0 (.cs ([61]:Str))])
def K.rdN:Fn:=(185,[])
def K.wrN:Fn:=(186,[])
abbrev Sy:=Str×Int×Unit
abbrev It:=Int×Int×Str×Unit
abbrev Tk:=Int×Int×Str×Int×Unit
abbrev Sn:=Int×Int×Int×Int×Int×Bool×(List It)×Str×Unit
abbrev Ln:=Str×Sn×Unit
abbrev zI:It:=((0:Int),((0:Int),(([]:Str),())))
abbrev zT:Tk:=((0:Int),((0:Int),(([]:Str),((0:Int),()))))
abbrev zL:Ln:=(([]:Str),(((0:Int),((0:Int),((0:Int),((0:Int),((0:Int),(false,([],(([]:Str),())))))))),()))
abbrev zS:Sy:=(([]:Str),((0:Int),()))
def L.opsR(k o:Int):List (Fn×Fn×Unit):=
 if k=1 then(if o=0 then[(K.rdA,K.wrA,()),(K.rdC,K.wrC,())] else[(K.rdA,K.wrA,()),(K.rdB,K.wrB,()),(K.rdC,K.wrC,())]) else
 if k=2 then(if o=0 then[(K.rdA,K.wrA,()),(K.rdE,K.wrE,())] else[(K.rdA,K.wrA,()),(K.rdB,K.wrB,()),(K.rdE,K.wrE,())]) else
 if k=3\/k=4 then[(K.rdA,K.wrA,())] else
 if k=5 then[(K.rdA,K.wrA,()),(K.rdB,K.wrB,()),(K.rdE,K.wrE,())] else
 if k=6 then[(K.rdC,K.wrC,())] else
 if k=7\/k=9 then[(K.rdE,K.wrE,())] else
 if k=8 then[(K.rdA,K.wrA,()),(K.rdQ,K.wrQ,())] else
 if k=10 then[(K.rdN,K.wrN,())] else[]
namespace Zbg
def l12(n:Nat):Nat->(List Int)->Int->(List Int)->Int->Int->Option ((List Int)×Int×Int×Unit)
 |0,_,_,_,_,_=>none
 |m+1,a,b,c,d,e=>
  if(decide (e<d)) then
  (if 0<=e/\e<(c.length:Int) then
  (if 0<=(c.getD (e).toNat 0)/\(c.getD (e).toNat 0)<(a.length:Int) then
  (if(decide (65535<(a.getD ((c.getD (e).toNat (0:Int))).toNat 0))) then(some ([],0,8,()))
  else
  (if 0<=(c.getD (e).toNat 0)/\(c.getD (e).toNat 0)<(a.length:Int) then
  (if 0<=(c.getD (e).toNat 0)/\(c.getD (e).toNat 0)<(a.length:Int) then
  ((Zbg.l12 n m) (a.set ((c.getD (e).toNat (0:Int))).toNat (aC .or .u32 (IntKind.u32.wrap ((a.getD ((c.getD (e).toNat (0:Int))).toNat 0)*2 ^ (min (16:Int).toNat IntKind.u32.bits))) (IntKind.u32.wrap b))) (IntKind.i64.wrap ((c.getD (e).toNat 0)+1)) c d (IntKind.i64.wrap (e+1))) else none) else none)) else none) else none)
  else(some (a,b,0,()))
def l3(n:Nat):Nat->(List Int)->(List Int)->Int->(List Int)->Int->Int->Option ((List Int)×Int×Int×Unit)
 |0,_,_,_,_,_,_=>none
 |m+1,a,b,c,d,e,i=>
  if(decide (i<e)) then
  (if 0<=i/\i<(d.length:Int) then
  (if(decide ((d.getD (i).toNat 0)<=c))=false then
  (if(decide ((a.length:Int)<=(d.getD (i).toNat 0)))=false then
  (if(decide (65534<(d.getD (i).toNat 0))) then(some ([],0,7,()))
  else
  ((Zbg.l3 n m) a b (d.getD (i).toNat 0) d e (IntKind.i64.wrap (i+1))))
  else(some ([],0,7,())))
  else(some ([],0,7,()))) else none)
  else
  ((L.cloneO a).bind fun y1=>
  Zbg.l12 n n y1.1 0 b (b.length:Int) 0)
def f(n:Nat)(a:List Int)(b:List Int):Option ((List Int)×Int×Int×Unit):=
  Zbg.l3 n n a b (-1) b (b.length:Int) 0
def g(a:List Int)(b:List Int):=f (1000+a.length+b.length) a b
end Zbg
namespace Zej
def f(n:Nat)(a:Int)(b:List Int)(c:List Int)(d:List Sy)(e:Int):Option (Bool×(List Int)×(List Int)×(List Sy)×Int×Unit):=
  if 0<=a/\a<(b.length:Int) then
  (some ((decide (e<(IntKind.i64.wrap (b.getD (a).toNat 0)))),b,c,d,e,())) else none
def g(a:Int)(b:List Int)(c:List Int)(d:List Sy)(e:Int):=f (1000+a.toNat+b.length+c.length+d.length+e.toNat) a b c d e
end Zej
namespace Zck
def l2(n:Nat):Nat->(List Int)->Int->Int->(List Int)->(List Int)->(List Sy)->Int->Option (Int×(List Int)×(List Int)×(List Sy)×Int×Unit)
 |0,_,_,_,_,_,_,_=>none
 |m+1,a,b,c,d,e,i,j=>
  if(decide (c<b)) then
  (if 0<=c/\c<(a.length:Int) then
  ((Zej.g (a.getD (c).toNat 0) d e i j).bind fun y1=>
  if y1.1 then(some (c,y1.2.1,y1.2.2.1,y1.2.2.2.1,y1.2.2.2.2.1,()))
  else
  ((Zck.l2 n m) a b (IntKind.i64.wrap (c+1)) y1.2.1 y1.2.2.1 y1.2.2.2.1 y1.2.2.2.2.1)) else none)
  else(some ((-1),d,e,i,j,()))
def f(n:Nat)(a:List Int)(b:List Int)(c:List Int)(d:List Sy)(e:Int):Option (Int×(List Int)×(List Int)×(List Sy)×Int×Unit):=
  Zck.l2 n n a (a.length:Int) 0 b c d e
def g(a:List Int)(b:List Int)(c:List Int)(d:List Sy)(e:Int):=f (1000+a.length+b.length+c.length+d.length+e.toNat) a b c d e
end Zck
namespace Zdn
def f(n:Nat)(a:List Int)(b:List Int)(c:List Int)(d:List Sy)(e:Int):Option (Bool×(List Int)×(List Int)×(List Sy)×Int×Unit):=
  (Zck.g a b c d e).bind fun y1=>
  some ((decide (0<=y1.1)),y1.2.1,y1.2.2.1,y1.2.2.2.1,y1.2.2.2.2.1,())
def g(a:List Int)(b:List Int)(c:List Int)(d:List Sy)(e:Int):=f (1000+a.length+b.length+c.length+d.length+e.toNat) a b c d e
end Zdn
namespace Zbv
def j4(n:Nat)(a:Int)(b:Bool):Option (Bool×Unit):=
  if(!b) then
  (if(decide (a=95))=false then
  (if(decide (48<=a)) then(some ((decide (a<=57)),()))
  else(some (false,())))
  else(some (true,())))
  else(some (false,()))
def f(n:Nat)(a:Int)(b:Bool):Option (Bool×Unit):=
  if(decide (65<=a)) then
  (if(decide (a<=90)) then
  (if(decide (a<=90)) then(some (true,()))
  else(Zbv.j4 n a b))
  else
  (if(decide (97<=a)) then
  (if(decide (a<=122)) then(some (true,()))
  else(Zbv.j4 n a b))
  else(Zbv.j4 n a b)))
  else
  (if(decide (97<=a)) then
  (if(decide (a<=122)) then(some (true,()))
  else(Zbv.j4 n a b))
  else(Zbv.j4 n a b))
def g(a:Int)(b:Bool):=f (1000+a.toNat) a b
end Zbv
namespace Zao
def l4(n:Nat):Nat->Str->Int->Int->Option (Bool×Unit)
 |0,_,_,_=>none
 |m+1,a,b,c=>
  if(decide (c<b)) then
  (if 0<=c/\c<(a.length:Int) then
  ((Zbv.g (bt a c) (decide (c=(0:Int)))).bind fun y1=>
  if(!y1.1) then(some (false,()))
  else((Zao.l4 n m) a b (IntKind.i64.wrap (c+1)))) else none)
  else
  (if 0<=(0:Int)/\(0:Int)<(a.length:Int) then
  (if(decide ((bt a 0)=82)) then
  (if(decide ((a.length:Int)=(2:Int)))=false then
  (if(decide ((a.length:Int)=(3:Int))) then
  (if 0<=(1:Int)/\(1:Int)<=(a.length:Int) then
  ((L.trimO ((a.take (((a.length:Int)).toNat)).drop (((1:Int)).toNat)) ([48,49,50,51,52,53,54,55,56,57]:Str)).bind fun y2=>
  some ((!(decide (y2.1=([]:Str)))),())) else none)
  else(some (true,())))
  else
  (if 0<=(1:Int)/\(1:Int)<=(a.length:Int) then
  ((L.trimO ((a.take (((a.length:Int)).toNat)).drop (((1:Int)).toNat)) ([48,49,50,51,52,53,54,55,56,57]:Str)).bind fun y3=>
  some ((!(decide (y3.1=([]:Str)))),())) else none))
  else(some (true,()))) else none)
def f(n:Nat)(a:Str):Option (Bool×Unit):=
  if(decide ((a.length:Int)=(0:Int)))=false then
  (if(decide ((12:Int)<(a.length:Int))) then(some (false,()))
  else(Zao.l4 n n a (a.length:Int) 0))
  else(some (false,()))
def g(a:Str):=f (1000+a.length) a
end Zao
namespace Zbh
def j6(n:Nat)(rl2:(List Sy)->Int->Int->(List Int)->(List Int)->(List Sy)->Option (Bool×(List Int)×(List Int)×(List Sy)×Unit))(a:List Sy)(b:Int)(c:Int)(d:List Int)(e:List Int)(i:List Sy):Option (Bool×(List Int)×(List Int)×(List Sy)×Unit):=
  rl2 a b (IntKind.i64.wrap (c+1)) d e i
def l2(n:Nat):Nat->(List Sy)->Int->Int->(List Int)->(List Int)->(List Sy)->Option (Bool×(List Int)×(List Int)×(List Sy)×Unit)
 |0,_,_,_,_,_,_=>none
 |m+1,a,b,c,d,e,i=>
  if(decide (c<b)) then
  (if 0<=c/\c<(a.length:Int) then
  ((Zao.g ((a.getD (c).toNat zS).1)).bind fun y1=>
  if(!y1.1)=false then
  (if(decide (0<c)) then
  (if 0<=(IntKind.i64.wrap (c-1))/\(IntKind.i64.wrap (c-1))<(i.length:Int) then
  (if((Op.bytesLess ((a.getD (c).toNat zS).1) ((i.getD ((IntKind.i64.wrap (c-(1:Int)))).toNat zS).1))||(decide ((a.getD (c).toNat zS).1=(i.getD ((IntKind.i64.wrap (c-(1:Int)))).toNat zS).1))) then(some (false,d,e,i,()))
  else(Zbh.j6 n (Zbh.l2 n m) a b c d e i)) else none)
  else(Zbh.j6 n (Zbh.l2 n m) a b c d e i))
  else(some (false,d,e,i,()))) else none)
  else(some (true,d,e,i,()))
def f(n:Nat)(a:List Int)(b:List Int)(c:List Sy):Option (Bool×(List Int)×(List Int)×(List Sy)×Unit):=
  Zbh.l2 n n c (c.length:Int) 0 a b c
def g(a:List Int)(b:List Int)(c:List Sy):=f (1000+a.length+b.length+c.length) a b c
end Zbh
namespace Zek
def f(n:Nat)(a:Str)(b:Int)(c:Int):Option (Bool×Int×Unit):=
  if(decide (b<0))=false then
  (if(decide (c<b))=false then(some ((decide ((Int.tmod b 4)≠0)),c,()))
  else(some (true,c,())))
  else(some (true,c,()))
def g(a:Str)(b:Int)(c:Int):=f (1000+a.length+b.toNat+c.toNat) a b c
end Zek
namespace Zcl
def l2(n:Nat):Nat->(List Sy)->Int->Int->Int->Option (Int×Int×Unit)
 |0,_,_,_,_=>none
 |m+1,a,b,c,d=>
  if(decide (c<b)) then
  (if 0<=c/\c<(a.length:Int) then
  ((Zek.g ((a.getD (c).toNat zS).1) (((a.getD (c).toNat zS).2).1) d).bind fun y1=>
  if y1.1 then(some (c,y1.2.1,()))
  else
  ((Zcl.l2 n m) a b (IntKind.i64.wrap (c+1)) y1.2.1)) else none)
  else(some ((-1),d,()))
def f(n:Nat)(a:List Sy)(b:Int):Option (Int×Int×Unit):=
  Zcl.l2 n n a (a.length:Int) 0 b
def g(a:List Sy)(b:Int):=f (1000+a.length+b.toNat) a b
end Zcl
namespace Zdo
def f(n:Nat)(a:List Sy)(b:Int):Option (Bool×Int×Unit):=
  (Zcl.g a b).bind fun y1=>
  some ((decide (0<=y1.1)),y1.2.1,())
def g(a:List Sy)(b:Int):=f (1000+a.length+b.toNat) a b
end Zdo
namespace Zcc
def f(n:Nat)(a:List Int)(b:List Int)(c:List Sy):Option (Int×Unit):=
  if(decide ((1024:Int)<(a.length:Int)))=false then
  (if(decide ((64:Int)<(c.length:Int))) then(some (2,()))
  else
  ((Zbg.g a b).bind fun y1=>
  if(decide (y1.2.2.1=7)) then(some (y1.2.2.1,()))
  else
  ((Zdn.g b a b c (IntKind.i64.wrap ((4:Int)*(a.length:Int)))).bind fun y2=>
  if y2.1 then(some (8,()))
  else
  ((Zbh.g y2.2.1 y2.2.2.1 y2.2.2.2.1).bind fun y3=>
  if(!y3.1) then(some (9,()))
  else
  ((Zdo.g y3.2.2.2.1 y2.2.2.2.2.1).bind fun y4=>
  if y4.1 then(some (8,()))
  else(some (0,())))))))
  else(some (2,()))
def g(a:List Int)(b:List Int)(c:List Sy):=f (1000+a.length+b.length+c.length) a b c
end Zcc
namespace Zcm
def l2(n:Nat):Nat->(List Int)->Int->Int->Int->Option (Int×Unit)
 |0,_,_,_,_=>none
 |m+1,a,b,c,d=>
  if(decide (d<c)) then
  (if 0<=d/\d<(a.length:Int) then
  (if(decide (b=(a.getD (d).toNat 0))) then(some (d,()))
  else
  ((Zcm.l2 n m) a b c (IntKind.i64.wrap (d+1)))) else none)
  else(some ((-1),()))
def f(n:Nat)(a:List Int)(b:Int):Option (Int×Unit):=
  Zcm.l2 n n a b (a.length:Int) 0
def g(a:List Int)(b:Int):=f (1000+a.length+b.toNat) a b
end Zcm
namespace Zct
def f(n:Nat)(a:List Int)(b:Int):Option (Bool×Unit):=
  (Zcm.g a b).bind fun y1=>
  some ((decide (0<=y1.1)),())
def g(a:List Int)(b:Int):=f (1000+a.length+b.toNat) a b
end Zct
namespace Zdp
def f(n:Nat)(a:Int):Option (Bool×Unit):=
  some ((decide (a≠a)),())
def g(a:Int):=f (1000+a.toNat) a
end Zdp
namespace Zdq
def f(n:Nat)(a:Int)(b:Int):Option (Bool×Unit):=
  (Zdp.g a).bind fun y1=>
  if y1.1 then
  ((Zdp.g b).bind fun y2=>
  if(!y2.1)=false then(some ((decide (a<b)),()))
  else(some (true,())))
  else(some ((decide (a<b)),()))
def g(a:Int)(b:Int):=f (1000+a.toNat+b.toNat) a b
end Zdq
namespace Zdr
def f(n:Nat)(a:Int):Option (Bool×Unit):=
  some ((decide (a≠a)),())
def g(a:Int):=f (1000+a.toNat) a
end Zdr
namespace Zbn
def l3(n:Nat):Nat->(List Int)->Int->Int->Int->Int->Option (Int×Bool×Unit)
 |0,_,_,_,_,_=>none
 |m+1,a,b,c,d,e=>
  if(decide (d<e)) then
  (if 0<=(IntKind.i64.wrap (((IntKind.u64.wrap (IntKind.i64.wrap (d+e)))).fdiv (2 ^ (min (1:Int).toNat IntKind.u64.bits))))/\(IntKind.i64.wrap (((IntKind.u64.wrap (IntKind.i64.wrap (d+e)))).fdiv (2 ^ (min (1:Int).toNat IntKind.u64.bits))))<(a.length:Int) then
  ((Zdq.g (a.getD ((IntKind.i64.wrap (((IntKind.u64.wrap (IntKind.i64.wrap (d+e)))).fdiv (2 ^ (min (1:Int).toNat IntKind.u64.bits))))).toNat 0) b).bind fun y1=>
  if y1.1 then
  ((Zbn.l3 n m) a b c (IntKind.i64.wrap ((IntKind.i64.wrap (((IntKind.u64.wrap (IntKind.i64.wrap (d+e)))).fdiv (2 ^ (min (1:Int).toNat IntKind.u64.bits))))+1)) e)
  else
  ((Zbn.l3 n m) a b c d (IntKind.i64.wrap (((IntKind.u64.wrap (IntKind.i64.wrap (d+e)))).fdiv (2 ^ (min (1:Int).toNat IntKind.u64.bits)))))) else none)
  else
  (if(decide (d<c)) then
  (if 0<=d/\d<(a.length:Int) then
  (if(decide ((a.getD (d).toNat 0)=b))=false then
  (if 0<=d/\d<(a.length:Int) then
  ((Zdr.g (a.getD (d).toNat (0:Int))).bind fun y2=>
  if y2.1 then
  ((Zdr.g b).bind fun y3=>
  some (d,y3.1,()))
  else(some (d,false,()))) else none)
  else(some (d,true,()))) else none)
  else(some (d,false,())))
def f(n:Nat)(a:List Int)(b:Int):Option (Int×Bool×Unit):=
  Zbn.l3 n n a b (a.length:Int) 0 (a.length:Int)
def g(a:List Int)(b:Int):=f (1000+a.length+b.toNat) a b
end Zbn
namespace Zac
def j9(n:Nat)(rl4:Str->Int->Int->Option (Bool×Unit))(a:Str)(b:Int)(c:Int):Option (Bool×Unit):=
  rl4 a b (IntKind.i64.wrap (c+1))
def l4(n:Nat):Nat->Str->Int->Int->Option (Bool×Unit)
 |0,_,_,_=>none
 |m+1,a,b,c=>
  if(decide (c<b)) then
  (if 0<=c/\c<(a.length:Int) then
  (if(decide ((aC .or .u8 (bt a c) 32)<97))=false then
  (if(decide (122<(aC .or .u8 (bt a c) 32)))=false then
  (if 0<=c/\c<(a.length:Int) then
  (if(decide ((bt a c)<65)) then
  (if 0<=c/\c<(a.length:Int) then
  (if(decide ((bt a c)≠95)) then
  (if 0<=c/\c<(a.length:Int) then
  (if(decide ((bt a c)<48))=false then
  (if 0<=c/\c<(a.length:Int) then
  (if(decide (57<(bt a c))) then(some (false,()))
  else(Zac.j9 n (Zac.l4 n m) a b c)) else none)
  else(some (false,()))) else none)
  else(Zac.j9 n (Zac.l4 n m) a b c)) else none)
  else(Zac.j9 n (Zac.l4 n m) a b c)) else none)
  else
  (if 0<=c/\c<(a.length:Int) then
  (if(decide ((bt a c)≠95)) then
  (if 0<=c/\c<(a.length:Int) then
  (if(decide ((bt a c)<48))=false then
  (if 0<=c/\c<(a.length:Int) then
  (if(decide (57<(bt a c))) then(some (false,()))
  else(Zac.j9 n (Zac.l4 n m) a b c)) else none)
  else(some (false,()))) else none)
  else(Zac.j9 n (Zac.l4 n m) a b c)) else none))
  else
  (if 0<=c/\c<(a.length:Int) then
  (if(decide ((bt a c)≠95)) then
  (if 0<=c/\c<(a.length:Int) then
  (if(decide ((bt a c)<48))=false then
  (if 0<=c/\c<(a.length:Int) then
  (if(decide (57<(bt a c))) then(some (false,()))
  else(Zac.j9 n (Zac.l4 n m) a b c)) else none)
  else(some (false,()))) else none)
  else(Zac.j9 n (Zac.l4 n m) a b c)) else none)) else none)
  else
  (if 0<=(0:Int)/\(0:Int)<(a.length:Int) then
  (if(decide ((bt a 0)=82)) then
  (if(decide ((a.length:Int)=(2:Int)))=false then
  (if(decide ((a.length:Int)=(3:Int))) then
  (if 0<=(1:Int)/\(1:Int)<=(a.length:Int) then
  ((L.trimO ((a.take (((a.length:Int)).toNat)).drop (((1:Int)).toNat)) ([48,49,50,51,52,53,54,55,56,57]:Str)).bind fun y1=>
  some ((!(decide (y1.1=([]:Str)))),())) else none)
  else(some (true,())))
  else
  (if 0<=(1:Int)/\(1:Int)<=(a.length:Int) then
  ((L.trimO ((a.take (((a.length:Int)).toNat)).drop (((1:Int)).toNat)) ([48,49,50,51,52,53,54,55,56,57]:Str)).bind fun y2=>
  some ((!(decide (y2.1=([]:Str)))),())) else none))
  else(some (true,()))) else none)
def j3(n:Nat)(a:Str):Option (Bool×Unit):=
  Zac.l4 n n a (a.length:Int) 0
def f(n:Nat)(a:Str):Option (Bool×Unit):=
  if(decide (a=([]:Str)))=false then
  (if(decide ((12:Int)<(a.length:Int)))=false then
  (if 0<=(0:Int)/\(0:Int)<(a.length:Int) then
  (if(decide (48<=(bt a 0))) then
  (if 0<=(0:Int)/\(0:Int)<(a.length:Int) then
  (if(decide ((bt a 0)<=57)) then(some (false,()))
  else(Zac.j3 n a)) else none)
  else(Zac.j3 n a)) else none)
  else(some (false,())))
  else(some (false,()))
def g(a:Str):=f (1000+a.length) a
end Zac
namespace Zbw
def j2(n:Nat)(a:Bool)(b:Int)(c:Int)(d:Str):Option (Int×Bool×Unit):=
  if(decide (b=1)) then(some (0,(decide (d=([]:Str))),()))
  else
  (if(decide (b=2)) then
  (if(decide (c=0)) then
  ((Zac.g d).bind fun y1=>
  some (0,y1.1,()))
  else(some (0,false,())))
  else
  (if(decide (b=3)) then(some (1,a,()))
  else
  (if(decide (b=4)) then
  (if(decide (b=4)) then(some (2,a,()))
  else(some (0,false,())))
  else
  (if(decide (b=5)) then
  (if(decide (b=5)) then(some (2,a,()))
  else(some (0,false,())))
  else
  (if(decide (b=6)) then(some (2,a,()))
  else(some (0,false,())))))))
def f(n:Nat)(a:Int)(b:Int)(c:Str):Option (Int×Bool×Unit):=
  if(decide (b=0)) then(Zbw.j2 n (decide (c=([]:Str))) a b c)
  else(Zbw.j2 n false a b c)
def g(a:Int)(b:Int)(c:Str):=f (1000+a.toNat+b.toNat+c.length) a b c
end Zbw
namespace Zba
def l3(n:Nat):Nat->(List It)->Int->(List It)->Int->Int->Option (Bool×Unit)
 |0,_,_,_,_,_=>none
 |m+1,a,b,c,d,e=>
  if(decide (e<d)) then
  (if 0<=e/\e<(c.length:Int) then
  ((Zbw.g ((c.getD (e).toNat zI).1) (((c.getD (e).toNat zI).2).1) ((((c.getD (e).toNat zI).2).2).1)).bind fun y1=>
  if(!y1.2.1)=false then
  (if(decide (b<y1.1)) then(some (false,()))
  else
  ((Zba.l3 n m) a (IntKind.i64.wrap (b+(IntKind.i64.wrap ((1:Int)-y1.1)))) c d (IntKind.i64.wrap (e+1))))
  else(some (false,()))) else none)
  else
  (if(decide (b=1)) then(some ((decide ((a.length:Int)<=(64:Int))),()))
  else(some (false,())))
def f(n:Nat)(a:List It):Option (Bool×Unit):=
  Zba.l3 n n a 0 a (a.length:Int) 0
def g(a:List It):=f (1000+a.length) a
end Zba
namespace Zay
def f(n:Nat)(a:Int):Option (Str×Unit):=
  if(decide (a<0))=false then
  (if(decide (16<=a)) then(some (([]:Str),()))
  else
  ((L.itoaO a).bind fun y1=>
  if([82]:Str).length+y1.1.length<=9223372036854775807 then(some ((([82]:Str)++y1.1),())) else none))
  else(some (([]:Str),()))
def g(a:Int):=f (1000+a.toNat) a
end Zay
namespace Zds
def f(n:Nat)(a:Int)(b:Int):Option (Str×Unit):=
  (L.formatUintO a b).bind fun y1=>
  some (y1.1,())
def g(a:Int)(b:Int):=f (1000+a.toNat+b.toNat) a b
end Zds
namespace Zbb
def f(n:Nat)(a:Str)(b:Int)(c:Int):Option (Str×Unit):=
  if(decide (b<c)) then
  (if([40]:Str).length+a.length<=9223372036854775807 then
  (if(([40]:Str)++a).length+([41]:Str).length<=9223372036854775807 then(some (((([40]:Str)++a)++([41]:Str)),())) else none) else none)
  else(some (a,()))
def g(a:Str)(b:Int)(c:Int):=f (1000+a.length+b.toNat+c.toNat) a b c
end Zbb
namespace Zae
def j23(n:Nat)(rl5:(List Sy)->(List It)->Int->Int->Option Sy)(a:List Sy)(b:Int)(c:List It)(d:Int)(e:Int)(i:Str)(j:Int):Option Sy:=
  if 0<=(IntKind.i64.wrap ((a.length:Int)-b))/\(IntKind.i64.wrap ((a.length:Int)-b))<=(a.length:Int) then
  (if((a.take ((IntKind.i64.wrap ((a.length:Int)-b))).toNat).length+([(i,j,())]:List Sy).length)*24<=140737488355328/\0<24/\0<2 then
  (rl5 ((a.take ((IntKind.i64.wrap ((a.length:Int)-b))).toNat)++([(i,j,())]:List Sy)) c d (IntKind.i64.wrap (e+1))) else none) else none
def l5(n:Nat):Nat->(List Sy)->(List It)->Int->Int->Option Sy
 |0,_,_,_,_=>none
 |m+1,a,b,c,d=>
  if(decide (d<c)) then
  (if 0<=d/\d<(b.length:Int) then
  ((Zbw.g ((b.getD (d).toNat zI).1) (((b.getD (d).toNat zI).2).1) ((((b.getD (d).toNat zI).2).2).1)).bind fun y1=>
  if 0<=(IntKind.i64.wrap ((a.length:Int)-y1.1))/\(IntKind.i64.wrap ((a.length:Int)-y1.1))<=(a.length:Int) then
  (if(decide ((b.getD (d).toNat zI).1=1)) then
  ((Zds.g (IntKind.u64.wrap ((b.getD (d).toNat zI).2).1) (10:Int)).bind fun y2=>
  Zae.j23 n (Zae.l5 n m) a y1.1 b c d y2.1 2)
  else
  (if(decide ((b.getD (d).toNat zI).1=2)) then
  (Zae.j23 n (Zae.l5 n m) a y1.1 b c d ((((b.getD (d).toNat zI).2).2).1) 2)
  else
  (if(decide ((b.getD (d).toNat zI).1=3)) then
  (if 0<=(0:Int)/\(0:Int)<(((a.take (((a.length:Int)).toNat)).drop (((IntKind.i64.wrap ((a.length:Int)-y1.1))).toNat)).length:Int) then
  ((Zbb.g ((((a.take (((a.length:Int)).toNat)).drop (((IntKind.i64.wrap ((a.length:Int)-y1.1))).toNat)).getD ((0:Int)).toNat zS).1) (((((a.take (((a.length:Int)).toNat)).drop (((IntKind.i64.wrap ((a.length:Int)-y1.1))).toNat)).getD ((0:Int)).toNat zS).2).1) (2:Int)).bind fun y3=>
  if([45]:Str).length+y3.1.length<=9223372036854775807 then
  (Zae.j23 n (Zae.l5 n m) a y1.1 b c d (([45]:Str)++y3.1) 2) else none) else none)
  else
  (if(decide ((b.getD (d).toNat zI).1=4)) then
  (if 0<=(0:Int)/\(0:Int)<(((a.take (((a.length:Int)).toNat)).drop (((IntKind.i64.wrap ((a.length:Int)-y1.1))).toNat)).length:Int) then
  ((Zbb.g ((((a.take (((a.length:Int)).toNat)).drop (((IntKind.i64.wrap ((a.length:Int)-y1.1))).toNat)).getD ((0:Int)).toNat zS).1) (((((a.take (((a.length:Int)).toNat)).drop (((IntKind.i64.wrap ((a.length:Int)-y1.1))).toNat)).getD ((0:Int)).toNat zS).2).1) (0:Int)).bind fun y4=>
  if y4.1.length+([32,43,32]:Str).length<=9223372036854775807 then
  (if 0<=(1:Int)/\(1:Int)<(((a.take (((a.length:Int)).toNat)).drop (((IntKind.i64.wrap ((a.length:Int)-y1.1))).toNat)).length:Int) then
  ((Zbb.g ((((a.take (((a.length:Int)).toNat)).drop (((IntKind.i64.wrap ((a.length:Int)-y1.1))).toNat)).getD ((1:Int)).toNat zS).1) (((((a.take (((a.length:Int)).toNat)).drop (((IntKind.i64.wrap ((a.length:Int)-y1.1))).toNat)).getD ((1:Int)).toNat zS).2).1) (1:Int)).bind fun y5=>
  if(y4.1++([32,43,32]:Str)).length+y5.1.length<=9223372036854775807 then
  (Zae.j23 n (Zae.l5 n m) a y1.1 b c d ((y4.1++([32,43,32]:Str))++y5.1) 0) else none) else none) else none) else none)
  else
  (if(decide ((b.getD (d).toNat zI).1=5)) then
  (if 0<=(0:Int)/\(0:Int)<(((a.take (((a.length:Int)).toNat)).drop (((IntKind.i64.wrap ((a.length:Int)-y1.1))).toNat)).length:Int) then
  ((Zbb.g ((((a.take (((a.length:Int)).toNat)).drop (((IntKind.i64.wrap ((a.length:Int)-y1.1))).toNat)).getD ((0:Int)).toNat zS).1) (((((a.take (((a.length:Int)).toNat)).drop (((IntKind.i64.wrap ((a.length:Int)-y1.1))).toNat)).getD ((0:Int)).toNat zS).2).1) (0:Int)).bind fun y6=>
  if y6.1.length+([32,45,32]:Str).length<=9223372036854775807 then
  (if 0<=(1:Int)/\(1:Int)<(((a.take (((a.length:Int)).toNat)).drop (((IntKind.i64.wrap ((a.length:Int)-y1.1))).toNat)).length:Int) then
  ((Zbb.g ((((a.take (((a.length:Int)).toNat)).drop (((IntKind.i64.wrap ((a.length:Int)-y1.1))).toNat)).getD ((1:Int)).toNat zS).1) (((((a.take (((a.length:Int)).toNat)).drop (((IntKind.i64.wrap ((a.length:Int)-y1.1))).toNat)).getD ((1:Int)).toNat zS).2).1) (1:Int)).bind fun y7=>
  if(y6.1++([32,45,32]:Str)).length+y7.1.length<=9223372036854775807 then
  (Zae.j23 n (Zae.l5 n m) a y1.1 b c d ((y6.1++([32,45,32]:Str))++y7.1) 0) else none) else none) else none) else none)
  else
  (if(decide ((b.getD (d).toNat zI).1=6)) then
  (if 0<=(0:Int)/\(0:Int)<(((a.take (((a.length:Int)).toNat)).drop (((IntKind.i64.wrap ((a.length:Int)-y1.1))).toNat)).length:Int) then
  ((Zbb.g ((((a.take (((a.length:Int)).toNat)).drop (((IntKind.i64.wrap ((a.length:Int)-y1.1))).toNat)).getD ((0:Int)).toNat zS).1) (((((a.take (((a.length:Int)).toNat)).drop (((IntKind.i64.wrap ((a.length:Int)-y1.1))).toNat)).getD ((0:Int)).toNat zS).2).1) (1:Int)).bind fun y8=>
  if y8.1.length+([32,42,32]:Str).length<=9223372036854775807 then
  (if 0<=(1:Int)/\(1:Int)<(((a.take (((a.length:Int)).toNat)).drop (((IntKind.i64.wrap ((a.length:Int)-y1.1))).toNat)).length:Int) then
  ((Zbb.g ((((a.take (((a.length:Int)).toNat)).drop (((IntKind.i64.wrap ((a.length:Int)-y1.1))).toNat)).getD ((1:Int)).toNat zS).1) (((((a.take (((a.length:Int)).toNat)).drop (((IntKind.i64.wrap ((a.length:Int)-y1.1))).toNat)).getD ((1:Int)).toNat zS).2).1) (2:Int)).bind fun y9=>
  if(y8.1++([32,42,32]:Str)).length+y9.1.length<=9223372036854775807 then
  (Zae.j23 n (Zae.l5 n m) a y1.1 b c d ((y8.1++([32,42,32]:Str))++y9.1) 1) else none) else none) else none) else none)
  else
  (Zae.j23 n (Zae.l5 n m) a y1.1 b c d ([]:Str) 0))))))) else none) else none)
  else
  (if 0<=(0:Int)/\(0:Int)<(a.length:Int) then
  (some ((a.getD ((0:Int)).toNat zS).1,0,())) else none)
def f(n:Nat)(a:List It):Option Sy:=
  (Zba.g a).bind fun y1=>
  if(!y1.1) then(some (([]:Str),23,()))
  else(Zae.l5 n n ([]) a (a.length:Int) 0)
def g(a:List It):=f (1000+a.length) a
end Zae
namespace Zcn
def f(n:Nat)(a:Int):Option (Bool×Unit):=
  if(decide (65<=a)) then
  (if(decide (a<=90))=false then
  (if(decide (97<=a)) then
  (if(decide (a<=122))=false then(some ((decide (a=95)),()))
  else(some (true,())))
  else(some ((decide (a=95)),())))
  else(some (true,())))
  else
  (if(decide (97<=a)) then
  (if(decide (a<=122))=false then(some ((decide (a=95)),()))
  else(some (true,())))
  else(some ((decide (a=95)),())))
def g(a:Int):=f (1000+a.toNat) a
end Zcn
namespace Zcu
def f(n:Nat)(a:Int):Option (Bool×Unit):=
  if(decide (48<=a)) then(some ((decide (a<=57)),()))
  else(some (false,()))
def g(a:Int):=f (1000+a.toNat) a
end Zcu
namespace Zap
def j3(n:Nat)(rl2:Str->Int->Option (Str×Unit))(a:Str)(b:Int):Option (Str×Unit):=
  rl2 a (IntKind.i64.wrap (b+1))
def j4(n:Nat)(a:Str)(b:Int):Option (Str×Unit):=
  if 0<=b/\b<=(a.length:Int) then(some (((a.take ((b).toNat)).drop 0),())) else none
def l2(n:Nat):Nat->Str->Int->Option (Str×Unit)
 |0,_,_=>none
 |m+1,a,b=>
  if(decide (b<(a.length:Int))) then
  (if 0<=b/\b<(a.length:Int) then
  ((Zcn.g (bt a b)).bind fun y1=>
  if y1.1=false then
  (if 0<=b/\b<(a.length:Int) then
  ((Zcu.g (bt a b)).bind fun y2=>
  if y2.1 then(Zap.j3 n (Zap.l2 n m) a b)
  else(Zap.j4 n a b)) else none)
  else(Zap.j3 n (Zap.l2 n m) a b)) else none)
  else(Zap.j4 n a b)
def f(n:Nat)(a:Str):Option (Str×Unit):=
  Zap.l2 n n a 0
def g(a:Str):=f (1000+a.length) a
end Zap
namespace Zal
def f(n:Nat)(a:Int):Option (Int×Unit):=
  some ((aC .or .u8 a 32),())
def g(a:Int):=f (1000+a.toNat) a
end Zal
namespace Zaa
def j55(n:Nat)(rl36:Int->Bool->Str->Int->Int->Bool->Int->(List Int)->Int->Int->Option (Int×(Option Int)×Unit))(a:Int)(b:Bool)(c:Str)(d:Int)(e:Int)(i:Bool)(j:Int)(k:List Int)(l:Int)(o:Int):Option (Int×(Option Int)×Unit):=
  rl36 a b c d e i j k l (IntKind.i64.wrap (o+1))
def j46(n:Nat)(rl36:Int->Bool->Str->Int->Int->Bool->Int->(List Int)->Int->Int->Option (Int×(Option Int)×Unit))(a:Int)(b:Bool)(c:Str)(d:Int)(e:Int)(i:Bool)(j:Int)(k:Int)(l:List Int)(o:Int)(p:Int):Option (Int×(Option Int)×Unit):=
  if(decide ((IntKind.u8.wrap a)<=k)) then(some (0,(some 2),()))
  else
  (if(decide (d<=j)) then(some (e,(some 1),()))
  else
  (if(decide ((IntKind.u64.wrap ((IntKind.u64.wrap (j*(IntKind.u64.wrap a)))+(IntKind.u64.wrap k)))<(IntKind.u64.wrap (j*(IntKind.u64.wrap a)))))=false then
  (if(decide (e<(IntKind.u64.wrap ((IntKind.u64.wrap (j*(IntKind.u64.wrap a)))+(IntKind.u64.wrap k))))) then(some (e,(some 1),()))
  else
  (Zaa.j55 n rl36 a b c d e i (IntKind.u64.wrap ((IntKind.u64.wrap (j*(IntKind.u64.wrap a)))+(IntKind.u64.wrap k))) l o p))
  else(some (e,(some 1),()))))
def l36(n:Nat):Nat->Int->Bool->Str->Int->Int->Bool->Int->(List Int)->Int->Int->Option (Int×(Option Int)×Unit)
 |0,_,_,_,_,_,_,_,_,_,_=>none
 |m+1,a,b,c,d,e,i,j,k,l,o=>
  if(decide (o<l)) then
  (if 0<=o/\o<(k.length:Int) then
  (if(decide ((k.getD (o).toNat 0)=95)) then
  (if b then
  (Zaa.j55 n (Zaa.l36 n m) a b c d e true j k l o)
  else
  (if(decide (48<=(k.getD (o).toNat 0))) then
  (if(decide ((k.getD (o).toNat 0)<=57)) then
  (Zaa.j46 n (Zaa.l36 n m) a b c d e i j (IntKind.u8.wrap ((k.getD (o).toNat 0)-48)) k l o)
  else
  ((Zal.g (k.getD (o).toNat (0:Int))).bind fun y1=>
  if(decide (97<=y1.1)) then
  ((Zal.g (k.getD (o).toNat (0:Int))).bind fun y2=>
  if(decide (y2.1<=122)) then
  ((Zal.g (k.getD (o).toNat (0:Int))).bind fun y3=>
  Zaa.j46 n (Zaa.l36 n m) a b c d e i j (IntKind.u8.wrap ((IntKind.u8.wrap (y3.1-97))+10)) k l o)
  else(some (0,(some 2),())))
  else(some (0,(some 2),()))))
  else
  ((Zal.g (k.getD (o).toNat (0:Int))).bind fun y4=>
  if(decide (97<=y4.1)) then
  ((Zal.g (k.getD (o).toNat (0:Int))).bind fun y5=>
  if(decide (y5.1<=122)) then
  ((Zal.g (k.getD (o).toNat (0:Int))).bind fun y6=>
  Zaa.j46 n (Zaa.l36 n m) a b c d e i j (IntKind.u8.wrap ((IntKind.u8.wrap (y6.1-97))+10)) k l o)
  else(some (0,(some 2),())))
  else(some (0,(some 2),())))))
  else
  (if(decide (48<=(k.getD (o).toNat 0))) then
  (if(decide ((k.getD (o).toNat 0)<=57)) then
  (Zaa.j46 n (Zaa.l36 n m) a b c d e i j (IntKind.u8.wrap ((k.getD (o).toNat 0)-48)) k l o)
  else
  ((Zal.g (k.getD (o).toNat (0:Int))).bind fun y7=>
  if(decide (97<=y7.1)) then
  ((Zal.g (k.getD (o).toNat (0:Int))).bind fun y8=>
  if(decide (y8.1<=122)) then
  ((Zal.g (k.getD (o).toNat (0:Int))).bind fun y9=>
  Zaa.j46 n (Zaa.l36 n m) a b c d e i j (IntKind.u8.wrap ((IntKind.u8.wrap (y9.1-97))+10)) k l o)
  else(some (0,(some 2),())))
  else(some (0,(some 2),()))))
  else
  ((Zal.g (k.getD (o).toNat (0:Int))).bind fun y10=>
  if(decide (97<=y10.1)) then
  ((Zal.g (k.getD (o).toNat (0:Int))).bind fun y11=>
  if(decide (y11.1<=122)) then
  ((Zal.g (k.getD (o).toNat (0:Int))).bind fun y12=>
  Zaa.j46 n (Zaa.l36 n m) a b c d e i j (IntKind.u8.wrap ((IntKind.u8.wrap (y12.1-97))+10)) k l o)
  else(some (0,(some 2),())))
  else(some (0,(some 2),()))))) else none)
  else
  (if i then
  ((L.underscoreO c).bind fun y13=>
  if(!y13.1) then(some (0,(some 2),()))
  else(some (j,none,())))
  else(some (j,none,())))
def j32(n:Nat)(a:Str)(b:Int)(c:Int)(d:Bool)(e:Str)(i:Int):Option (Int×(Option Int)×Unit):=
  if(IntKind.u64.wrap c)<0 then none else
  (Zaa.l36 n n b d e i (IntKind.u64.wrap ((IntKind.u64.wrap ((1:Int)*2 ^ (min (IntKind.u64.wrap c).toNat IntKind.u64.bits)))-1)) false 0 (a.map fun b=>(b.toNat:Int)) ((a.map fun b=>(b.toNat:Int)).length:Int) 0)
def j25(n:Nat)(a:Str)(b:Int)(c:Int)(d:Bool)(e:Str):Option (Int×(Option Int)×Unit):=
  if(decide (b=10)) then
  (Zaa.j32 n a b c d e 1844674407370955162)
  else
  (if(decide (b=16)) then
  (Zaa.j32 n a b c d e 1152921504606846976)
  else
  (if(IntKind.u64.wrap b)=0 then none else
  (Zaa.j32 n a b c d e (IntKind.u64.wrap ((IntKind.u64.wrap (Int.tdiv 18446744073709551615 (IntKind.u64.wrap b)))+1)))))
def j21(n:Nat)(a:Str)(b:Int)(c:Int)(d:Bool)(e:Str):Option (Int×(Option Int)×Unit):=
  if(decide (c=0)) then(Zaa.j25 n a b 64 d e)
  else
  (if(decide (c<0))=false then
  (if(decide (64<c)) then(some (0,(some 4),()))
  else(Zaa.j25 n a b c d e))
  else(some (0,(some 4),())))
def j17(n:Nat)(a:Str)(b:Int)(c:Int)(d:Bool)(e:Str):Option (Int×(Option Int)×Unit):=
  if 0<=(2:Int)/\(2:Int)<=(a.length:Int) then
  (Zaa.j21 n ((a.take (((a.length:Int)).toNat)).drop (((2:Int)).toNat)) b c d e) else none
def j20(n:Nat)(a:Str)(b:Int)(c:Int)(d:Bool)(e:Str):Option (Int×(Option Int)×Unit):=
  if 0<=(2:Int)/\(2:Int)<=(a.length:Int) then
  (Zaa.j21 n ((a.take (((a.length:Int)).toNat)).drop (((2:Int)).toNat)) b c d e) else none
def j11(n:Nat)(a:Str)(b:Int)(c:Int)(d:Bool)(e:Str):Option (Int×(Option Int)×Unit):=
  if 0<=(1:Int)/\(1:Int)<=(a.length:Int) then
  (Zaa.j21 n ((a.take (((a.length:Int)).toNat)).drop (((1:Int)).toNat)) b c d e) else none
def j9(n:Nat)(a:Str)(b:Int)(c:Int)(d:Bool)(e:Str):Option (Int×(Option Int)×Unit):=
  if 0<=(0:Int)/\(0:Int)<(a.length:Int) then
  (if(decide ((bt a 0)=48)) then
  (if(decide ((3:Int)<=(a.length:Int))) then
  (if 0<=(1:Int)/\(1:Int)<(a.length:Int) then
  ((Zal.g (bt a (1:Int))).bind fun y1=>
  if(decide (y1.1=98)) then
  (if 0<=(2:Int)/\(2:Int)<=(a.length:Int) then
  (Zaa.j21 n ((a.take (((a.length:Int)).toNat)).drop (((2:Int)).toNat)) 2 c d e) else none)
  else
  (if(decide ((3:Int)<=(a.length:Int))) then
  (if 0<=(1:Int)/\(1:Int)<(a.length:Int) then
  ((Zal.g (bt a (1:Int))).bind fun y2=>
  if(decide (y2.1=111)) then(Zaa.j17 n a 8 c d e)
  else
  (if(decide ((3:Int)<=(a.length:Int))) then
  (if 0<=(1:Int)/\(1:Int)<(a.length:Int) then
  ((Zal.g (bt a (1:Int))).bind fun y3=>
  if(decide (y3.1=120)) then(Zaa.j20 n a 16 c d e)
  else(Zaa.j11 n a 8 c d e)) else none)
  else(Zaa.j11 n a 8 c d e))) else none)
  else
  (if(decide ((3:Int)<=(a.length:Int))) then
  (if 0<=(1:Int)/\(1:Int)<(a.length:Int) then
  ((Zal.g (bt a (1:Int))).bind fun y4=>
  if(decide (y4.1=120)) then(Zaa.j20 n a 16 c d e)
  else(Zaa.j11 n a 8 c d e)) else none)
  else(Zaa.j11 n a 8 c d e)))) else none)
  else
  (if(decide ((3:Int)<=(a.length:Int))) then
  (if 0<=(1:Int)/\(1:Int)<(a.length:Int) then
  ((Zal.g (bt a (1:Int))).bind fun y5=>
  if(decide (y5.1=111)) then(Zaa.j17 n a 8 c d e)
  else
  (if(decide ((3:Int)<=(a.length:Int))) then
  (if 0<=(1:Int)/\(1:Int)<(a.length:Int) then
  ((Zal.g (bt a (1:Int))).bind fun y6=>
  if(decide (y6.1=120)) then(Zaa.j20 n a 16 c d e)
  else(Zaa.j11 n a 8 c d e)) else none)
  else(Zaa.j11 n a 8 c d e))) else none)
  else
  (if(decide ((3:Int)<=(a.length:Int))) then
  (if 0<=(1:Int)/\(1:Int)<(a.length:Int) then
  ((Zal.g (bt a (1:Int))).bind fun y7=>
  if(decide (y7.1=120)) then(Zaa.j20 n a 16 c d e)
  else(Zaa.j11 n a 8 c d e)) else none)
  else(Zaa.j11 n a 8 c d e))))
  else(Zaa.j21 n a b c d e)) else none
def f(n:Nat)(a:Str)(b:Int)(c:Int):Option (Int×(Option Int)×Unit):=
  if(decide (a=([]:Str))) then(some (0,(some 2),()))
  else
  (if(decide (2<=b)) then
  (if(decide (b<=36)) then
  (Zaa.j21 n a b c (decide (b=0)) a)
  else
  (if(decide (b=0)) then
  (Zaa.j9 n a 10 c (decide (b=0)) a)
  else(some (0,(some 3),()))))
  else
  (if(decide (b=0)) then
  (Zaa.j9 n a 10 c (decide (b=0)) a)
  else(some (0,(some 3),()))))
def g(a:Str)(b:Int)(c:Int):=f (1000+a.length+b.toNat+c.toNat) a b c
end Zaa
namespace Zco
def f(n:Nat)(a:Str)(b:Int)(c:Int):Option (Int×Bool×Unit):=
  (Zaa.g a b c).bind fun y1=>
  if(!y1.2.1.isNone) then
  ((L.toErrorO ([80,97,114,115,101,85,105,110,116]:Str) a b c y1.2.1).bind fun y2=>
  some (y1.1,y2.1,()))
  else(some (y1.1,true,()))
def g(a:Str)(b:Int)(c:Int):=f (1000+a.length+b.toNat+c.toNat) a b c
end Zco
namespace Zbq
def j5(n:Nat)(a:Str)(b:Int):Option (Int×Bool×Unit):=
  (L.containsO a ([95]:Str)).bind fun y1=>
  if y1.1 then(some (0,false,()))
  else
  ((Zco.g a b (32:Int)).bind fun y2=>
  some ((IntKind.u32.wrap y2.1),y2.2.1,()))
def f(n:Nat)(a:Str):Option (Int×Bool×Unit):=
  if(L.cutIs a ([48,120]:Str)) then
  (Zbq.j5 n (L.cutRest a ([48,120]:Str)) 16)
  else(Zbq.j5 n a 10)
def g(a:Str):=f (1000+a.length) a
end Zbq
namespace Zah
def j23(n:Nat)(rg0:Str->(List Tk)->Int->Option ((List Tk)×Int×Unit))(a:Str)(b:List Tk)(c:Int)(d:Int)(e:Int)(i:Str)(j:Int):Option ((List Tk)×Int×Unit):=
  if(b.length+([(d,e,i,j,())]:List Tk).length)*40<=140737488355328/\0<40/\0<4 then
  (rg0 a (b++([(d,e,i,j,())]:List Tk)) (IntKind.i64.wrap (c+(i.length:Int)))) else none
def g0(n:Nat):Nat->Str->(List Tk)->Int->Option ((List Tk)×Int×Unit)
 |0,_,_,_=>none
 |m+1,a,b,c=>
  if(decide ((a.length:Int)<=c))=false then
  (if 0<=c/\c<(a.length:Int) then
  (if(decide ((bt a c)=59)) then(some (b,0,()))
  else
  (if 0<=c/\c<(a.length:Int) then
  (if(decide ((bt a c)=32))=false then
  (if(decide ((bt a c)=9)) then((Zah.g0 n m) a b (IntKind.i64.wrap (c+1)))
  else
  ((Zcn.g (bt a c)).bind fun y1=>
  if y1.1 then
  (if 0<=c/\c<=(a.length:Int) then
  ((Zap.g ((a.take (((a.length:Int)).toNat)).drop ((c).toNat))).bind fun y2=>
  Zah.j23 n (Zah.g0 n m) a b c 1 c y2.1 0) else none)
  else
  ((Zcu.g (bt a c)).bind fun y3=>
  if y3.1 then
  (if 0<=c/\c<=(a.length:Int) then
  ((Zap.g ((a.take (((a.length:Int)).toNat)).drop ((c).toNat))).bind fun y4=>
  (Zbq.g y4.1).bind fun y5=>
  if(!y5.2.1) then(some ([],21,()))
  else
  (Zah.j23 n (Zah.g0 n m) a b c 2 c y4.1 y5.1)) else none)
  else
  (if(decide ((bt a c)=46)) then
  (if(decide ((IntKind.i64.wrap (c+1))<(a.length:Int))) then
  (if 0<=(IntKind.i64.wrap (c+1))/\(IntKind.i64.wrap (c+1))<(a.length:Int) then
  ((Zcn.g (bt a (IntKind.i64.wrap (c+(1:Int))))).bind fun y6=>
  if y6.1 then
  (if 0<=(IntKind.i64.wrap (c+1))/\(IntKind.i64.wrap (c+1))<=(a.length:Int) then
  ((Zap.g ((a.take (((a.length:Int)).toNat)).drop (((IntKind.i64.wrap (c+(1:Int)))).toNat))).bind fun y7=>
  Zah.j23 n (Zah.g0 n m) a b (IntKind.i64.wrap (c+1)) 4 c y7.1 0) else none)
  else
  (if(decide (0<=(L.indexByte ([44,58,43,45,42,40,41,61]:Str) (bt a c)))) then
  (if 0<=(IntKind.i64.wrap (c+1))/\(IntKind.i64.wrap (c+1))<=(a.length:Int) then
  (if 0<=c/\c<=(IntKind.i64.wrap (c+1)) then
  (Zah.j23 n (Zah.g0 n m) a b c 3 c ((a.take (((IntKind.i64.wrap (c+(1:Int)))).toNat)).drop ((c).toNat)) 0) else none) else none)
  else(some ([],20,())))) else none)
  else
  (if(decide (0<=(L.indexByte ([44,58,43,45,42,40,41,61]:Str) (bt a c)))) then
  (if 0<=(IntKind.i64.wrap (c+1))/\(IntKind.i64.wrap (c+1))<=(a.length:Int) then
  (if 0<=c/\c<=(IntKind.i64.wrap (c+1)) then
  (Zah.j23 n (Zah.g0 n m) a b c 3 c ((a.take (((IntKind.i64.wrap (c+(1:Int)))).toNat)).drop ((c).toNat)) 0) else none) else none)
  else(some ([],20,()))))
  else
  (if(decide (0<=(L.indexByte ([44,58,43,45,42,40,41,61]:Str) (bt a c)))) then
  (if 0<=(IntKind.i64.wrap (c+1))/\(IntKind.i64.wrap (c+1))<=(a.length:Int) then
  (if 0<=c/\c<=(IntKind.i64.wrap (c+1)) then
  (Zah.j23 n (Zah.g0 n m) a b c 3 c ((a.take (((IntKind.i64.wrap (c+(1:Int)))).toNat)).drop ((c).toNat)) 0) else none) else none)
  else(some ([],20,())))))))
  else((Zah.g0 n m) a b (IntKind.i64.wrap (c+1)))) else none)) else none)
  else(some (b,0,()))
def f(n:Nat)(a:Str):Option ((List Tk)×Int×Unit):=
  Zah.g0 n n a ([]) 0
def g(a:Str):=f (1000+a.length) a
end Zah
namespace Zaj
def j21(n:Nat)(a:Bool)(b:Int):Option (Int×(Option Int)×Unit):=
  if a then
  (some ((IntKind.i64.wrap (0-(IntKind.i64.wrap b))),none,()))
  else(some ((IntKind.i64.wrap b),none,()))
def j19(n:Nat)(a:Bool)(b:Int)(c:Int):Option (Int×(Option Int)×Unit):=
  if a then
  (if(decide (c<b)) then
  (some ((IntKind.i64.wrap (0-(IntKind.i64.wrap c))),(some 1),()))
  else(Zaj.j21 n a b))
  else(Zaj.j21 n a b)
def j16(n:Nat)(a:Int)(b:Bool)(c:Int):Option (Int×(Option Int)×Unit):=
  if(IntKind.u64.wrap (IntKind.i64.wrap (a-1)))<0 then none else
  (if(!b) then
  (if(decide ((IntKind.u64.wrap ((1:Int)*2 ^ (min (IntKind.u64.wrap (IntKind.i64.wrap (a-(1:Int)))).toNat IntKind.u64.bits)))<=c)) then
  (some ((IntKind.i64.wrap (IntKind.u64.wrap ((IntKind.u64.wrap ((1:Int)*2 ^ (min (IntKind.u64.wrap (IntKind.i64.wrap (a-(1:Int)))).toNat IntKind.u64.bits)))-1))),(some 1),()))
  else
  (Zaj.j19 n b c (IntKind.u64.wrap ((1:Int)*2 ^ (min (IntKind.u64.wrap (IntKind.i64.wrap (a-(1:Int)))).toNat IntKind.u64.bits)))))
  else
  (Zaj.j19 n b c (IntKind.u64.wrap ((1:Int)*2 ^ (min (IntKind.u64.wrap (IntKind.i64.wrap (a-(1:Int)))).toNat IntKind.u64.bits)))))
def j14(n:Nat)(a:Int)(b:Bool)(c:Int):Option (Int×(Option Int)×Unit):=
  if(decide (a=0)) then(Zaj.j16 n 64 b c)
  else(Zaj.j16 n a b c)
def j10(n:Nat)(a:Str)(b:Int)(c:Int)(d:Bool):Option (Int×(Option Int)×Unit):=
  (Zaa.g a b c).bind fun y1=>
  if(!y1.2.1.isNone) then
  (if(!(decide (y1.2.1=(some 1)))) then(some (0,y1.2.1,()))
  else(Zaj.j14 n c d y1.1))
  else(Zaj.j14 n c d y1.1)
def f(n:Nat)(a:Str)(b:Int)(c:Int):Option (Int×(Option Int)×Unit):=
  if(decide (a=([]:Str))) then(some (0,(some 2),()))
  else
  (if 0<=(0:Int)/\(0:Int)<(a.length:Int) then
  (if(decide ((bt a 0)=43)) then
  (if 0<=(1:Int)/\(1:Int)<=(a.length:Int) then
  (Zaj.j10 n ((a.take (((a.length:Int)).toNat)).drop (((1:Int)).toNat)) b c false) else none)
  else
  (if(decide ((bt a 0)=45)) then
  (if 0<=(1:Int)/\(1:Int)<=(a.length:Int) then
  (Zaj.j10 n ((a.take (((a.length:Int)).toNat)).drop (((1:Int)).toNat)) b c true) else none)
  else(Zaj.j10 n a b c false))) else none)
def g(a:Str)(b:Int)(c:Int):=f (1000+a.length+b.toNat+c.toNat) a b c
end Zaj
namespace Zaq
def l10(n:Nat):Nat->Str->Int->(List Int)->Int->Int->Option (Int×(Option Int)×Unit)
 |0,_,_,_,_,_=>none
 |m+1,a,b,c,d,e=>
  if(decide (e<d)) then
  (if 0<=e/\e<(c.length:Int) then
  (if(decide (9<(IntKind.u8.wrap ((c.getD (e).toNat 0)-48)))) then(some (0,(some 2),()))
  else
  ((Zaq.l10 n m) a (IntKind.i64.wrap ((IntKind.i64.wrap (b*10))+(IntKind.i64.wrap (IntKind.u8.wrap ((c.getD (e).toNat 0)-48))))) c d (IntKind.i64.wrap (e+1)))) else none)
  else
  (if 0<=(0:Int)/\(0:Int)<(a.length:Int) then
  (if(decide ((bt a 0)=45)) then(some ((IntKind.i64.wrap (0-b)),none,()))
  else(some (b,none,()))) else none)
def j8(n:Nat)(a:Str)(b:Str):Option (Int×(Option Int)×Unit):=
  Zaq.l10 n n b 0 (a.map fun b=>(b.toNat:Int)) ((a.map fun b=>(b.toNat:Int)).length:Int) 0
def j6(n:Nat)(a:Str)(b:Str):Option (Int×(Option Int)×Unit):=
  if(decide ((a.length:Int)<(1:Int))) then(some (0,(some 2),()))
  else(Zaq.j8 n a b)
def j20(n:Nat)(a:Str):Option (Int×(Option Int)×Unit):=
  (Zaj.g a 10 (0:Int)).bind fun y1=>
  some (y1.1,y1.2.1,())
def f(n:Nat)(a:Str):Option (Int×(Option Int)×Unit):=
  if(decide ((0:Int)<(a.length:Int))) then
  (if(decide ((a.length:Int)<(19:Int))) then
  (if 0<=(0:Int)/\(0:Int)<(a.length:Int) then
  (if(decide ((bt a 0)=45))=false then
  (if 0<=(0:Int)/\(0:Int)<(a.length:Int) then
  (if(decide ((bt a 0)=43)) then
  (if 0<=(1:Int)/\(1:Int)<=(a.length:Int) then
  (Zaq.j6 n ((a.take (((a.length:Int)).toNat)).drop (((1:Int)).toNat)) a) else none)
  else(Zaq.j8 n a a)) else none)
  else
  (if 0<=(1:Int)/\(1:Int)<=(a.length:Int) then
  (Zaq.j6 n ((a.take (((a.length:Int)).toNat)).drop (((1:Int)).toNat)) a) else none)) else none)
  else(Zaq.j20 n a))
  else(Zaq.j20 n a)
def g(a:Str):=f (1000+a.length) a
end Zaq
namespace Zdt
def f(n:Nat)(a:Str):Option (Int×Bool×Unit):=
  (Zaq.g a).bind fun y1=>
  if(!y1.2.1.isNone) then
  ((L.toErrorO ([65,116,111,105]:Str) a 0 0 y1.2.1).bind fun y2=>
  some (y1.1,y2.1,()))
  else(some (y1.1,true,()))
def g(a:Str):=f (1000+a.length) a
end Zdt
namespace Zcd
def f(n:Nat)(a:Str):Option (Int×Bool×Unit):=
  (Zdt.g (L.cutRest a ([82]:Str))).bind fun y2=>
  if(!(L.cutIs a ([82]:Str)))=false then
  (if(!y2.2.1)=false then
  ((Zay.g y2.1).bind fun y3=>
  if(!(decide (y3.1=a))) then(some (0,false,()))
  else(some (y2.1,true,())))
  else(some (0,false,())))
  else(some (0,false,()))
def g(a:Str):=f (1000+a.length) a
end Zcd
namespace Zaz
def f(n:Nat)(a:Int)(b:List Tk)(c:Int)(d:List It)(e:Int):Option ((List Tk)×Int×(List It)×Int×Unit):=
  if(decide (e=0)) then(some (b,c,d,a,()))
  else(some (b,c,d,e,()))
def g(a:Int)(b:List Tk)(c:Int)(d:List It)(e:Int):=f (1000+a.toNat+b.length+c.toNat+d.length+e.toNat) a b c d e
end Zaz
namespace Zbe
def f(n:Nat)(a:List Tk)(b:Int)(c:List It)(d:Int):Option (Int×Int×Str×Int×Bool×(List Tk)×Int×(List It)×Int×Unit):=
  if(decide (d≠0))=false then
  (if(decide (b<0))=false then
  (if(decide ((a.length:Int)<=b)) then(some (0,0,([]:Str),0,false,a,b,c,d,()))
  else
  (if 0<=b/\b<(a.length:Int) then
  (some ((a.getD (b).toNat zT).1,((a.getD (b).toNat zT).2).1,(((a.getD (b).toNat zT).2).2).1,((((a.getD (b).toNat zT).2).2).2).1,true,a,b,c,d,())) else none))
  else(some (0,0,([]:Str),0,false,a,b,c,d,())))
  else(some (0,0,([]:Str),0,false,a,b,c,d,()))
def g(a:List Tk)(b:Int)(c:List It)(d:Int):=f (1000+a.length+b.toNat+c.length+d.toNat) a b c d
end Zbe
namespace Zaf
def j8(n:Nat)(rl3:Bool->(List Str)->Int->Int->(List Tk)->Int->(List It)->Int->Int->Int->Str->Int->Option (Str×Bool×(List Tk)×Int×(List It)×Int×Unit))(a:Bool)(b:List Str)(c:Int)(d:Int)(e:List Tk)(i:Int)(j:List It)(k:Int)(l:Int)(o:Int)(p:Str)(q:Int):Option (Str×Bool×(List Tk)×Int×(List It)×Int×Unit):=
  rl3 a b c (IntKind.i64.wrap (d+1)) e i j k l o p q
def l3(n:Nat):Nat->Bool->(List Str)->Int->Int->(List Tk)->Int->(List It)->Int->Int->Int->Str->Int->Option (Str×Bool×(List Tk)×Int×(List It)×Int×Unit)
 |0,_,_,_,_,_,_,_,_,_,_,_,_=>none
 |m+1,a,b,c,d,e,i,j,k,l,o,p,q=>
  if(decide (d<c)) then
  (if 0<=d/\d<(b.length:Int) then
  (if a then
  (if(decide (l=3)) then
  (if(decide (p=(b.getD (d).toNat ([]:Str)))) then
  (some ((b.getD (d).toNat ([]:Str)),true,e,(IntKind.i64.wrap (i+1)),j,k,()))
  else
  (Zaf.j8 n (Zaf.l3 n m) a b c d e i j k l o p q))
  else
  (Zaf.j8 n (Zaf.l3 n m) a b c d e i j k l o p q))
  else
  (Zaf.j8 n (Zaf.l3 n m) a b c d e i j k l o p q)) else none)
  else(some (([]:Str),false,e,i,j,k,()))
def f(n:Nat)(a:List Str)(b:List Tk)(c:Int)(d:List It)(e:Int):Option (Str×Bool×(List Tk)×Int×(List It)×Int×Unit):=
  (Zbe.g b c d e).bind fun y1=>
  Zaf.l3 n n y1.2.2.2.2.1 a (a.length:Int) 0 y1.2.2.2.2.2.1 y1.2.2.2.2.2.2.1 y1.2.2.2.2.2.2.2.1 y1.2.2.2.2.2.2.2.2.1 y1.1 y1.2.1 y1.2.2.1 y1.2.2.2.1
def g(a:List Str)(b:List Tk)(c:Int)(d:List It)(e:Int):=f (1000+a.length+b.length+c.toNat+d.length+e.toNat) a b c d e
end Zaf
namespace Zas
def f(n:Nat)(a:Int)(b:Int)(c:Str)(d:List Tk)(e:Int)(i:List It)(j:Int):Option ((List Tk)×Int×(List It)×Int×Unit):=
  if(i.length+([(a,b,c,())]:List It).length)*32<=140737488355328/\0<32/\0<3 then
  (some (d,e,(i++([(a,b,c,())]:List It)),j,())) else none
def g(a:Int)(b:Int)(c:Str)(d:List Tk)(e:Int)(i:List It)(j:Int):=f (1000+a.toNat+b.toNat+c.length+d.length+e.toNat+i.length+j.toNat) a b c d e i j
end Zas
structure ay where
 expr_parser_sum:Int->(List Tk)->Int->(List It)->Int->Option ((List Tk)×Int×(List It)×Int×Unit)
 expr_parser_row_c283:(List Str)->(List Tk)->Int->(List It)->Int->Int->Option ((List Tk)×Int×(List It)×Int×Unit×Int×Unit)
 expr_parser_sum_1:Int->(List Tk)->Int->(List It)->Int->Option (Unit×Int×(List Tk)×Int×(List It)×Int×Unit)
 expr_parser_row_c284:(List Str)->(List Tk)->Int->(List It)->Int->Int->Option ((List Tk)×Int×(List It)×Int×Unit×Int×Unit)
 expr_parser_sum_1_1:Int->(List Tk)->Int->(List It)->Int->Option (Unit×Int×(List Tk)×Int×(List It)×Int×Unit)
 expr_parser_factor:Int->(List Tk)->Int->(List It)->Int->Option ((List Tk)×Int×(List It)×Int×Unit)
namespace expr_parser_sum
def f(n:Nat)(R:ay)(a:Int)(b:List Tk)(c:Int)(d:List It)(e:Int):Option ((List Tk)×Int×(List It)×Int×Unit):=
  (R.expr_parser_row_c283 ([([43]:Str),([45]:Str)]:List Str) b c d e a).bind fun y1=>
  some (y1.1,y1.2.1,y1.2.2.1,y1.2.2.2.1,())
def h(R:ay)(a:Int)(b:List Tk)(c:Int)(d:List It)(e:Int):Option ((List Tk)×Int×(List It)×Int×Unit):=f (1000+a.toNat+b.length+c.toNat+d.length+e.toNat) R a b c d e
end expr_parser_sum
namespace expr_parser_row_c283
def l1(n:Nat)(R:ay):Nat->(List Str)->(List Tk)->Int->(List It)->Int->Int->Option ((List Tk)×Int×(List It)×Int×Unit×Int×Unit)
 |0,_,_,_,_,_,_=>none
 |m+1,a,b,c,d,e,i=>
  (Zaf.g a b c d e).bind fun y1=>
  if(!y1.2.1) then
  (some (y1.2.2.1,y1.2.2.2.1,y1.2.2.2.2.1,y1.2.2.2.2.2.1,(),i,()))
  else
  ((R.expr_parser_sum_1 i y1.2.2.1 y1.2.2.2.1 y1.2.2.2.2.1 y1.2.2.2.2.2.1).bind fun y2=>
  (Zas.g ((L.kinds y1.1).1) 0 ([]:Str) y2.2.2.1 y2.2.2.2.1 y2.2.2.2.2.1 y2.2.2.2.2.2.1).bind fun y3=>
  (expr_parser_row_c283.l1 n R m) a y3.1 y3.2.1 y3.2.2.1 y3.2.2.2.1 y2.2.1)
def f(n:Nat)(R:ay)(a:List Str)(b:List Tk)(c:Int)(d:List It)(e:Int)(i:Int):Option ((List Tk)×Int×(List It)×Int×Unit×Int×Unit):=
  (R.expr_parser_sum_1 i b c d e).bind fun y1=>
  expr_parser_row_c283.l1 n R n a y1.2.2.1 y1.2.2.2.1 y1.2.2.2.2.1 y1.2.2.2.2.2.1 y1.2.1
def h(R:ay)(a:List Str)(b:List Tk)(c:Int)(d:List It)(e:Int)(i:Int):Option ((List Tk)×Int×(List It)×Int×Unit×Int×Unit):=f (1000+a.length+b.length+c.toNat+d.length+e.toNat+i.toNat) R a b c d e i
end expr_parser_row_c283
namespace expr_parser_sum_1
def f(n:Nat)(R:ay)(a:Int)(b:List Tk)(c:Int)(d:List It)(e:Int):Option (Unit×Int×(List Tk)×Int×(List It)×Int×Unit):=
  (R.expr_parser_row_c284 ([([42]:Str)]:List Str) b c d e a).bind fun y1=>
  some ((),y1.2.2.2.2.2.1,y1.1,y1.2.1,y1.2.2.1,y1.2.2.2.1,())
def h(R:ay)(a:Int)(b:List Tk)(c:Int)(d:List It)(e:Int):Option (Unit×Int×(List Tk)×Int×(List It)×Int×Unit):=f (1000+a.toNat+b.length+c.toNat+d.length+e.toNat) R a b c d e
end expr_parser_sum_1
namespace expr_parser_row_c284
def l1(n:Nat)(R:ay):Nat->(List Str)->(List Tk)->Int->(List It)->Int->Int->Option ((List Tk)×Int×(List It)×Int×Unit×Int×Unit)
 |0,_,_,_,_,_,_=>none
 |m+1,a,b,c,d,e,i=>
  (Zaf.g a b c d e).bind fun y1=>
  if(!y1.2.1) then
  (some (y1.2.2.1,y1.2.2.2.1,y1.2.2.2.2.1,y1.2.2.2.2.2.1,(),i,()))
  else
  ((R.expr_parser_sum_1_1 i y1.2.2.1 y1.2.2.2.1 y1.2.2.2.2.1 y1.2.2.2.2.2.1).bind fun y2=>
  (Zas.g ((L.kinds y1.1).1) 0 ([]:Str) y2.2.2.1 y2.2.2.2.1 y2.2.2.2.2.1 y2.2.2.2.2.2.1).bind fun y3=>
  (expr_parser_row_c284.l1 n R m) a y3.1 y3.2.1 y3.2.2.1 y3.2.2.2.1 y2.2.1)
def f(n:Nat)(R:ay)(a:List Str)(b:List Tk)(c:Int)(d:List It)(e:Int)(i:Int):Option ((List Tk)×Int×(List It)×Int×Unit×Int×Unit):=
  (R.expr_parser_sum_1_1 i b c d e).bind fun y1=>
  expr_parser_row_c284.l1 n R n a y1.2.2.1 y1.2.2.2.1 y1.2.2.2.2.1 y1.2.2.2.2.2.1 y1.2.1
def h(R:ay)(a:List Str)(b:List Tk)(c:Int)(d:List It)(e:Int)(i:Int):Option ((List Tk)×Int×(List It)×Int×Unit×Int×Unit):=f (1000+a.length+b.length+c.toNat+d.length+e.toNat+i.toNat) R a b c d e i
end expr_parser_row_c284
namespace expr_parser_sum_1_1
def f(n:Nat)(R:ay)(a:Int)(b:List Tk)(c:Int)(d:List It)(e:Int):Option (Unit×Int×(List Tk)×Int×(List It)×Int×Unit):=
  (R.expr_parser_factor a b c d e).bind fun y1=>
  some ((),a,y1.1,y1.2.1,y1.2.2.1,y1.2.2.2.1,())
def h(R:ay)(a:Int)(b:List Tk)(c:Int)(d:List It)(e:Int):Option (Unit×Int×(List Tk)×Int×(List It)×Int×Unit):=f (1000+a.toNat+b.length+c.toNat+d.length+e.toNat) R a b c d e
end expr_parser_sum_1_1
namespace expr_parser_factor
def j19(n:Nat)(R:ay)(a:List Tk)(b:Int)(c:List It)(d:Int):Option ((List Tk)×Int×(List It)×Int×Unit):=
  some (a,(IntKind.i64.wrap (b+1)),c,d,())
def f(n:Nat)(R:ay)(a:Int)(b:List Tk)(c:Int)(d:List It)(e:Int):Option ((List Tk)×Int×(List It)×Int×Unit):=
  if(decide (e≠0)) then(some (b,c,d,e,()))
  else
  (if(decide (8<a)) then
  ((Zaz.g 24 b c d e).bind fun y1=>
  some (y1.1,y1.2.1,y1.2.2.1,y1.2.2.2.1,()))
  else
  ((Zaf.g ([([45]:Str),([40]:Str)]:List Str) b c d e).bind fun y2=>
  if(decide (y2.1=([45]:Str))) then
  ((R.expr_parser_factor (IntKind.i64.wrap (a+1)) y2.2.2.1 y2.2.2.2.1 y2.2.2.2.2.1 y2.2.2.2.2.2.1).bind fun y3=>
  (Zas.g 3 0 ([]:Str) y3.1 y3.2.1 y3.2.2.1 y3.2.2.2.1).bind fun y4=>
  some (y4.1,y4.2.1,y4.2.2.1,y4.2.2.2.1,()))
  else
  (if(decide (y2.1=([40]:Str))) then
  ((R.expr_parser_sum (IntKind.i64.wrap (a+1)) y2.2.2.1 y2.2.2.2.1 y2.2.2.2.2.1 y2.2.2.2.2.2.1).bind fun y5=>
  (Zaf.g ([([41]:Str)]:List Str) y5.1 y5.2.1 y5.2.2.1 y5.2.2.2.1).bind fun y6=>
  if(!y6.2.1) then
  ((Zaz.g 23 y6.2.2.1 y6.2.2.2.1 y6.2.2.2.2.1 y6.2.2.2.2.2.1).bind fun y7=>
  some (y7.1,y7.2.1,y7.2.2.1,y7.2.2.2.1,()))
  else
  (some (y6.2.2.1,y6.2.2.2.1,y6.2.2.2.2.1,y6.2.2.2.2.2.1,())))
  else
  ((Zbe.g y2.2.2.1 y2.2.2.2.1 y2.2.2.2.2.1 y2.2.2.2.2.2.1).bind fun y8=>
  if y8.2.2.2.2.1 then
  (if(decide (y8.1=2)) then
  ((Zas.g 1 y8.2.2.2.1 ([]:Str) y8.2.2.2.2.2.1 y8.2.2.2.2.2.2.1 y8.2.2.2.2.2.2.2.1 y8.2.2.2.2.2.2.2.2.1).bind fun y9=>
  expr_parser_factor.j19 n R y9.1 y9.2.1 y9.2.2.1 y9.2.2.2.1)
  else
  (if y8.2.2.2.2.1 then
  (if(decide (y8.1=1)) then
  ((Zac.g y8.2.2.1).bind fun y10=>
  if y10.1 then
  ((Zas.g 2 0 y8.2.2.1 y8.2.2.2.2.2.1 y8.2.2.2.2.2.2.1 y8.2.2.2.2.2.2.2.1 y8.2.2.2.2.2.2.2.2.1).bind fun y11=>
  expr_parser_factor.j19 n R y11.1 y11.2.1 y11.2.2.1 y11.2.2.2.1)
  else
  ((Zaz.g 23 y8.2.2.2.2.2.1 y8.2.2.2.2.2.2.1 y8.2.2.2.2.2.2.2.1 y8.2.2.2.2.2.2.2.2.1).bind fun y12=>
  expr_parser_factor.j19 n R y12.1 y12.2.1 y12.2.2.1 y12.2.2.2.1))
  else
  ((Zaz.g 23 y8.2.2.2.2.2.1 y8.2.2.2.2.2.2.1 y8.2.2.2.2.2.2.2.1 y8.2.2.2.2.2.2.2.2.1).bind fun y13=>
  expr_parser_factor.j19 n R y13.1 y13.2.1 y13.2.2.1 y13.2.2.2.1))
  else
  ((Zaz.g 23 y8.2.2.2.2.2.1 y8.2.2.2.2.2.2.1 y8.2.2.2.2.2.2.2.1 y8.2.2.2.2.2.2.2.2.1).bind fun y14=>
  expr_parser_factor.j19 n R y14.1 y14.2.1 y14.2.2.1 y14.2.2.2.1)))
  else
  (if y8.2.2.2.2.1 then
  (if(decide (y8.1=1)) then
  ((Zac.g y8.2.2.1).bind fun y15=>
  if y15.1 then
  ((Zas.g 2 0 y8.2.2.1 y8.2.2.2.2.2.1 y8.2.2.2.2.2.2.1 y8.2.2.2.2.2.2.2.1 y8.2.2.2.2.2.2.2.2.1).bind fun y16=>
  expr_parser_factor.j19 n R y16.1 y16.2.1 y16.2.2.1 y16.2.2.2.1)
  else
  ((Zaz.g 23 y8.2.2.2.2.2.1 y8.2.2.2.2.2.2.1 y8.2.2.2.2.2.2.2.1 y8.2.2.2.2.2.2.2.2.1).bind fun y17=>
  expr_parser_factor.j19 n R y17.1 y17.2.1 y17.2.2.1 y17.2.2.2.1))
  else
  ((Zaz.g 23 y8.2.2.2.2.2.1 y8.2.2.2.2.2.2.1 y8.2.2.2.2.2.2.2.1 y8.2.2.2.2.2.2.2.2.1).bind fun y18=>
  expr_parser_factor.j19 n R y18.1 y18.2.1 y18.2.2.1 y18.2.2.2.1))
  else
  ((Zaz.g 23 y8.2.2.2.2.2.1 y8.2.2.2.2.2.2.1 y8.2.2.2.2.2.2.2.1 y8.2.2.2.2.2.2.2.2.1).bind fun y19=>
  expr_parser_factor.j19 n R y19.1 y19.2.1 y19.2.2.1 y19.2.2.2.1))))))
def h(R:ay)(a:Int)(b:List Tk)(c:Int)(d:List It)(e:Int):Option ((List Tk)×Int×(List It)×Int×Unit):=f (1000+a.toNat+b.length+c.toNat+d.length+e.toNat) R a b c d e
end expr_parser_factor
def ah:Nat->ay
 |0=>⟨fun _ _ _ _ _=>none,fun _ _ _ _ _ _=>none,fun _ _ _ _ _=>none,fun _ _ _ _ _ _=>none,fun _ _ _ _ _=>none,fun _ _ _ _ _=>none⟩
 |q+1=>⟨expr_parser_sum.h (ah q),expr_parser_row_c283.h (ah q),expr_parser_sum_1.h (ah q),expr_parser_row_c284.h (ah q),expr_parser_sum_1_1.h (ah q),expr_parser_factor.h (ah q)⟩
def expr_parser_sum.g(a:Int)(b:List Tk)(c:Int)(d:List It)(e:Int):Option ((List Tk)×Int×(List It)×Int×Unit):=(ah (1000+a.toNat+b.length+c.toNat+d.length+e.toNat)).expr_parser_sum a b c d e
def expr_parser_row_c283.g(a:List Str)(b:List Tk)(c:Int)(d:List It)(e:Int)(i:Int):Option ((List Tk)×Int×(List It)×Int×Unit×Int×Unit):=(ah (1000+a.length+b.length+c.toNat+d.length+e.toNat+i.toNat)).expr_parser_row_c283 a b c d e i
def expr_parser_sum_1.g(a:Int)(b:List Tk)(c:Int)(d:List It)(e:Int):Option (Unit×Int×(List Tk)×Int×(List It)×Int×Unit):=(ah (1000+a.toNat+b.length+c.toNat+d.length+e.toNat)).expr_parser_sum_1 a b c d e
def expr_parser_row_c284.g(a:List Str)(b:List Tk)(c:Int)(d:List It)(e:Int)(i:Int):Option ((List Tk)×Int×(List It)×Int×Unit×Int×Unit):=(ah (1000+a.length+b.length+c.toNat+d.length+e.toNat+i.toNat)).expr_parser_row_c284 a b c d e i
def expr_parser_sum_1_1.g(a:Int)(b:List Tk)(c:Int)(d:List It)(e:Int):Option (Unit×Int×(List Tk)×Int×(List It)×Int×Unit):=(ah (1000+a.toNat+b.length+c.toNat+d.length+e.toNat)).expr_parser_sum_1_1 a b c d e
def expr_parser_factor.g(a:Int)(b:List Tk)(c:Int)(d:List It)(e:Int):Option ((List Tk)×Int×(List It)×Int×Unit):=(ah (1000+a.toNat+b.length+c.toNat+d.length+e.toNat)).expr_parser_factor a b c d e
namespace Zau
def j5(n:Nat)(a:List Tk)(b:Int)(c:List It)(d:Int):Option ((List It)×Int×Int×Unit):=
  if(decide (d≠0)) then(some ([],0,d,()))
  else(some (c,b,0,()))
def f(n:Nat)(a:List Tk)(b:Int):Option ((List It)×Int×Int×Unit):=
  (expr_parser_sum.g 0 a b ([]) 0).bind fun y1=>
  if(decide (y1.2.2.2.1=0)) then
  (if(decide (64<(y1.2.2.1.length:Int))) then(Zau.j5 n y1.1 y1.2.1 y1.2.2.1 24)
  else(Zau.j5 n y1.1 y1.2.1 y1.2.2.1 y1.2.2.2.1))
  else(Zau.j5 n y1.1 y1.2.1 y1.2.2.1 y1.2.2.2.1)
def g(a:List Tk)(b:Int):=f (1000+a.length+b.toNat) a b
end Zau
namespace Zel
def f(n:Nat)(a:Str)(b:Int)(c:Str):Option (Bool×Str×Unit):=
  some ((decide (a=c)),c,())
def g(a:Str)(b:Int)(c:Str):=f (1000+a.length+b.toNat+c.length) a b c
end Zel
namespace Zce
def l2(n:Nat):Nat->(List Sy)->Int->Int->Str->Option (Int×Str×Unit)
 |0,_,_,_,_=>none
 |m+1,a,b,c,d=>
  if(decide (c<b)) then
  (if 0<=c/\c<(a.length:Int) then
  ((Zel.g ((a.getD (c).toNat zS).1) (((a.getD (c).toNat zS).2).1) d).bind fun y1=>
  if y1.1 then(some (c,y1.2.1,()))
  else
  ((Zce.l2 n m) a b (IntKind.i64.wrap (c+1)) y1.2.1)) else none)
  else(some ((-1),d,()))
def f(n:Nat)(a:List Sy)(b:Str):Option (Int×Str×Unit):=
  Zce.l2 n n a (a.length:Int) 0 b
def g(a:List Sy)(b:Str):=f (1000+a.length+b.length) a b
end Zce
namespace Zcf
def f(n:Nat)(a:List Sy)(b:Str):Option (Int×Bool×Unit):=
  (Zce.g a b).bind fun y1=>
  if(decide (y1.1<0)) then(some (0,false,()))
  else
  (if 0<=y1.1/\y1.1<(a.length:Int) then
  (some (((a.getD (y1.1).toNat zS).2).1,true,())) else none)
def g(a:List Sy)(b:Str):=f (1000+a.length+b.length) a b
end Zcf
namespace Zbo
def f(n:Nat)(a:List (Int×Int×Unit)):Option (Int×Int×(List (Int×Int×Unit))×Unit):=
  if 0<=(IntKind.i64.wrap ((a.length:Int)-1))/\(IntKind.i64.wrap ((a.length:Int)-1))<(a.length:Int) then
  (if 0<=(IntKind.i64.wrap ((a.length:Int)-1))/\(IntKind.i64.wrap ((a.length:Int)-1))<=(a.length:Int) then
  (some ((a.getD ((IntKind.i64.wrap ((a.length:Int)-(1:Int)))).toNat (0,(0,()))).1,((a.getD ((IntKind.i64.wrap ((a.length:Int)-(1:Int)))).toNat (0,(0,()))).2).1,(a.take ((IntKind.i64.wrap ((a.length:Int)-(1:Int)))).toNat),())) else none) else none
def g(a:List (Int×Int×Unit)):=f (1000+a.length) a
end Zbo
namespace Zde
def f(n:Nat)(a:Int)(b:Int)(c:Int):Option (Int×Int×Unit):=
  some ((IntKind.u32.wrap ((IntKind.u32.wrap c)*a)),(IntKind.i64.wrap (c*b)),())
def g(a:Int)(b:Int)(c:Int):=f (1000+a.toNat+b.toNat+c.toNat) a b c
end Zde
namespace Zem
def f(n:Nat)(a:Int)(b:Int)(c:Int)(d:Int):Option (Int×Int×Unit):=
  some ((IntKind.u32.wrap (a+c)),(IntKind.i64.wrap (b+d)),())
def g(a:Int)(b:Int)(c:Int)(d:Int):=f (1000+a.toNat+b.toNat+c.toNat+d.toNat) a b c d
end Zem
namespace Zai
def j27(n:Nat)(rl5:(List Sy)->(List It)->Int->Int->Int->Int->(List (Int×Int×Unit))->Option (Int×Int×Int×Unit))(a:List Sy)(b:List It)(c:Int)(d:Int)(e:Int)(i:Int)(j:List (Int×Int×Unit))(k:Int)(l:Int):Option (Int×Int×Int×Unit):=
  if(j.length+([(k,l,())]:List (Int×Int×Unit)).length)*16<=140737488355328/\0<16/\0<2 then
  (rl5 a b c (IntKind.i64.wrap (d+1)) e i (j++([(k,l,())]:List (Int×Int×Unit)))) else none
def l5(n:Nat):Nat->(List Sy)->(List It)->Int->Int->Int->Int->(List (Int×Int×Unit))->Option (Int×Int×Int×Unit)
 |0,_,_,_,_,_,_,_=>none
 |m+1,a,b,c,d,e,i,j=>
  if(decide (d<c)) then
  (if 0<=d/\d<(b.length:Int) then
  (if(decide ((b.getD (d).toNat zI).1=2)) then
  ((Zcf.g a ((((b.getD (d).toNat zI).2).2).1)).bind fun y1=>
  if(!y1.2.1) then(some (0,0,25,()))
  else
  (Zai.j27 n (Zai.l5 n m) a b c d e i j (IntKind.u32.wrap y1.1) 1))
  else
  (if(decide ((b.getD (d).toNat zI).1=3)) then
  ((Zbo.g j).bind fun y2=>
  (Zde.g y2.1 y2.2.1 (-1:Int)).bind fun y3=>
  Zai.j27 n (Zai.l5 n m) a b c d e i y2.2.2.1 y3.1 y3.2.1)
  else
  (if(decide ((b.getD (d).toNat zI).1=4)) then
  ((Zbo.g j).bind fun y4=>
  (Zbo.g y4.2.2.1).bind fun y5=>
  (Zem.g y4.1 y4.2.1 y5.1 y5.2.1).bind fun y6=>
  Zai.j27 n (Zai.l5 n m) a b c d e i y5.2.2.1 y6.1 y6.2.1)
  else
  (if(decide ((b.getD (d).toNat zI).1=5)) then
  ((Zbo.g j).bind fun y7=>
  (Zbo.g y7.2.2.1).bind fun y8=>
  (Zde.g y7.1 y7.2.1 (-1:Int)).bind fun y9=>
  (Zem.g y8.1 y8.2.1 y9.1 y9.2.1).bind fun y10=>
  Zai.j27 n (Zai.l5 n m) a b c d e i y8.2.2.1 y10.1 y10.2.1)
  else
  (if(decide ((b.getD (d).toNat zI).1=6)) then
  ((Zbo.g j).bind fun y11=>
  (Zbo.g y11.2.2.1).bind fun y12=>
  if(!(decide (y11.1=y11.1)&&(decide (y11.2.1=0)&&true)))=false then
  (if(!(decide (y12.1=y12.1)&&(decide (y12.2.1=0)&&true))) then(some (0,0,27,()))
  else
  (Zai.j27 n (Zai.l5 n m) a b c d e i y12.2.2.1 (IntKind.u32.wrap (y11.1*y12.1)) 0))
  else(some (0,0,27,())))
  else
  (Zai.j27 n (Zai.l5 n m) a b c d e i j (((b.getD (d).toNat zI).2).1) 0)))))) else none)
  else
  ((Zbo.g j).bind fun y13=>
  some (y13.1,y13.2.1,0,()))
def f(n:Nat)(a:List It)(b:List Sy):Option (Int×Int×Int×Unit):=
  (Zba.g a).bind fun y1=>
  if(!y1.1) then(some (0,0,23,()))
  else(Zai.l5 n n b a (a.length:Int) 0 0 0 ([]))
def g(a:List It)(b:List Sy):=f (1000+a.length+b.length) a b
end Zai
namespace Zar
def j11(n:Nat)(rl7:Int->Int->Int->Int->Int->Option (Int×Int×Unit))(a:Int)(b:Int)(c:Int)(d:Int)(e:Int):Option (Int×Int×Unit):=
  rl7 a b c d (IntKind.i64.wrap (e+1))
def l7(n:Nat):Nat->Int->Int->Int->Int->Int->Option (Int×Int×Unit)
 |0,_,_,_,_,_=>none
 |m+1,a,b,c,d,e=>
  if(decide (e<2)) then
  (if 0<=e/\e<2 then
  (if(decide (a<=([c,d].getD (e).toNat 0))) then
  (if(decide (([c,d].getD (e).toNat 0)<=b)) then(some (([c,d].getD (e).toNat 0),0,()))
  else(Zar.j11 n (Zar.l7 n m) a b c d e))
  else(Zar.j11 n (Zar.l7 n m) a b c d e)) else none)
  else(some (0,28,()))
def f(n:Nat)(a:List It)(b:List Sy)(c:Int)(d:Int):Option (Int×Int×Unit):=
  (Zai.g a b).bind fun y1=>
  if(decide (y1.2.2.1≠0)) then(some (0,y1.2.2.1,()))
  else
  (if(decide (y1.2.1≠0)) then(some (0,27,()))
  else
  (Zar.l7 n n c d (IntKind.i64.wrap (IntKind.i32.wrap y1.1)) (IntKind.i64.wrap y1.1) 0))
def g(a:List It)(b:List Sy)(c:Int)(d:Int):=f (1000+a.length+b.length+c.toNat+d.toNat) a b c d
end Zar
end Rv
namespace Rv
open Go
set_option maxRecDepth 100000
namespace Zdu
def f(n:Nat)(a:Int)(b:Int)(c:Int)(d:Int):Option (Int×Int×Unit):=
  if a<0 then none else
  (if b<0 then none else
  (some ((aC .or .u32 c (IntKind.u32.wrap ((aC .and .u32 ((d).fdiv (2 ^ (min a.toNat IntKind.u32.bits))) 1)*2 ^ (min b.toNat IntKind.u32.bits)))),d,())))
def g(a:Int)(b:Int)(c:Int)(d:Int):=f (1000+a.toNat+b.toNat+c.toNat+d.toNat) a b c d
end Zdu
namespace Zcp
def l2(n:Nat):Nat->Int->Int->Int->Int->Int->Option (Int×Int×Unit)
 |0,_,_,_,_,_=>none
 |m+1,a,b,c,d,e=>
  if(decide (c<32)) then
  (if(decide ((IntKind.i64.wrap (c-a))<b)) then
  ((Zdu.g c (IntKind.i64.wrap (c-a)) d e).bind fun y1=>
  (Zcp.l2 n m) a b (IntKind.i64.wrap (c+1)) y1.1 y1.2.1)
  else(some (d,e,())))
  else(some (d,e,()))
def f(n:Nat)(a:Int)(b:Int)(c:Int)(d:Int):Option (Int×Int×Unit):=
  if(decide (b<1))=false then
  (if(decide (32<=a))=false then
  (if(decide (a<=(IntKind.i64.wrap (0-b)))) then(some (c,d,()))
  else(Zcp.l2 n n a b (mx a 0) c d))
  else(some (c,d,())))
  else(some (c,d,()))
def g(a:Int)(b:Int)(c:Int)(d:Int):=f (1000+a.toNat+b.toNat+c.toNat+d.toNat) a b c d
end Zcp
namespace Zdv
def f(n:Nat)(a:Int)(b:Int)(c:Int):Option (Int×Unit):=
  (Zcp.g b c 0 a).bind fun y1=>
  some (y1.1,())
def g(a:Int)(b:Int)(c:Int):=f (1000+a.toNat+b.toNat+c.toNat) a b c
end Zdv
namespace Zav
def f(n:Nat)(a:Int)(b:Int)(c:Int):Option (Int×Unit):=
  (Zdv.g c a b).bind fun y1=>
  some ((IntKind.i64.wrap y1.1),())
def g(a:Int)(b:Int)(c:Int):=f (1000+a.toNat+b.toNat+c.toNat) a b c
end Zav
namespace Zen
def f(n:Nat)(a:Int):Option (Int×Unit):=
  some ((mn (mx a 1) 32),())
def g(a:Int):=f (1000+a.toNat) a
end Zen
namespace Zdf
def f(n:Nat)(a:Int)(b:Int):Option (Int×Unit):=
  (Zen.g b).bind fun y1=>
  if(IntKind.i64.wrap ((32:Int)-y1.1))<0 then none else
  (if(IntKind.i64.wrap ((32:Int)-y1.1))<0 then none else
  (some ((IntKind.i64.wrap (((IntKind.i32.wrap (IntKind.u32.wrap (a*2 ^ (min (IntKind.i64.wrap ((32:Int)-y1.1)).toNat IntKind.u32.bits))))).fdiv (2 ^ (min (IntKind.i64.wrap ((32:Int)-y1.1)).toNat IntKind.i32.bits)))),())))
def g(a:Int)(b:Int):=f (1000+a.toNat+b.toNat) a b
end Zdf
namespace Zbc
def j16(n:Nat)(a:Int)(b:Int)(c:Int)(d:Int)(e:Int)(i:Int)(j:Bool)(k:Int)(l:Int)(o:Int)(p:Int)(q:Int)(r:Int)(s:Bool):Option (Int×Int×Int×Int×Int×Int×Bool×Unit):=
  some (k,l,o,p,q,r,s,())
def f(n:Nat)(a:Int):Option (Int×Int×Int×Int×Int×Int×Bool×Unit):=
  (Zav.g 29 1 a).bind fun y1=>
  (Zav.g 28 1 a).bind fun y2=>
  (Zav.g 24 4 a).bind fun y3=>
  (Zav.g 20 4 a).bind fun y4=>
  (Zav.g 16 4 a).bind fun y5=>
  (Zav.g 30 2 a).bind fun y6=>
  if(decide (y6.1=0)) then
  ((Zav.g 0 4 a).bind fun y7=>
  if(decide (y1.1=1)) then
  (if(decide (y5.1=0)) then
  ((Zav.g 28 1 a).bind fun y8=>
  Zbc.j16 n 0 0 0 0 0 0 false (IntKind.i64.wrap ((3:Int)+y8.1)) 0 y3.1 0 0 0 false)
  else
  (Zbc.j16 n 0 0 0 0 0 0 false 1 y5.1 y3.1 y4.1 y7.1 0 (decide (y1.1=1))))
  else
  (Zbc.j16 n 0 0 0 0 0 0 false 1 y5.1 y3.1 y4.1 y7.1 0 (decide (y1.1=1))))
  else
  (if(decide (y6.1=1)) then
  ((Zav.g 0 16 a).bind fun y9=>
  (Zav.g 28 1 a).bind fun y10=>
  Zbc.j16 n 0 0 0 0 0 0 false 2 y5.1 y3.1 y4.1 0 (IntKind.i64.wrap (y9.1-(IntKind.i64.wrap (y10.1*2 ^ (min (16:Int).toNat IntKind.i64.bits))))) (decide (y1.1=1)))
  else
  (if(decide (y6.1=2)) then
  ((Zav.g 29 1 a).bind fun y11=>
  (Zav.g 28 1 a).bind fun y12=>
  (Zdf.g a (20:Int)).bind fun y13=>
  Zbc.j16 n 0 0 0 0 0 0 false 5 (IntKind.i64.wrap ((IntKind.i64.wrap (y11.1*2))+y12.1)) y3.1 y4.1 0 y13.1 false)
  else
  ((Zav.g 0 4 a).bind fun y14=>
  if(decide (y1.1=1)) then
  ((Zdf.g a (24:Int)).bind fun y15=>
  Zbc.j16 n 0 0 0 0 0 0 false 7 y3.1 0 0 0 y15.1 (decide (y2.1=1)))
  else
  (Zbc.j16 n 0 0 0 0 0 0 false 6 y3.1 0 0 y14.1 0 (decide (y2.1=1))))))
def g(a:Int):=f (1000+a.toNat) a
end Zbc
namespace Zcv
def f(n:Nat)(a:Int)(b:Int)(c:Int):Option (Bool×Unit):=
  if(decide (b<=a)) then(some ((decide (a<=c)),()))
  else(some (false,()))
def g(a:Int)(b:Int)(c:Int):=f (1000+a.toNat+b.toNat+c.toNat) a b c
end Zcv
namespace Zes
def f(n:Nat)(a:Bool):Option (Int×Unit):=
  if a then(some (1,()))
  else(some (0,()))
def g(a:Bool):=f (1000) a
end Zes
namespace Zbi
def f(n:Nat)(a:Int)(b:Bool)(c:Bool):Option (Int×Int×Int×Unit):=
  (Zes.g b).bind fun y1=>
  (Zes.g c).bind fun y2=>
  some (28,4,(aC .or .i64 (aC .or .i64 (IntKind.i64.wrap (a*2 ^ (min (2:Int).toNat IntKind.i64.bits))) (IntKind.i64.wrap ((IntKind.i64.wrap y1.1)*2 ^ (min (1:Int).toNat IntKind.i64.bits)))) (IntKind.i64.wrap y2.1)),())
def g(a:Int)(b:Bool)(c:Bool):=f (1000+a.toNat) a b c
end Zbi
namespace Zdw
def f(n:Nat)(a:Int)(b:Int)(c:Int)(d:Int):Option (Int×Int×Unit):=
  if a<0 then none else
  (if b<0 then none else
  (if a<0 then none else
  (some ((aC .or .u32 (aC .andNot .u32 c (IntKind.u32.wrap ((1:Int)*2 ^ (min a.toNat IntKind.u32.bits)))) (IntKind.u32.wrap ((aC .and .u32 ((d).fdiv (2 ^ (min b.toNat IntKind.u32.bits))) 1)*2 ^ (min a.toNat IntKind.u32.bits)))),d,()))))
def g(a:Int)(b:Int)(c:Int)(d:Int):=f (1000+a.toNat+b.toNat+c.toNat+d.toNat) a b c d
end Zdw
namespace Zcq
def l2(n:Nat):Nat->Int->Int->Int->Int->Int->Option (Int×Int×Unit)
 |0,_,_,_,_,_=>none
 |m+1,a,b,c,d,e=>
  if(decide (c<32)) then
  (if(decide ((IntKind.i64.wrap (c-a))<b)) then
  ((Zdw.g c (IntKind.i64.wrap (c-a)) d e).bind fun y1=>
  (Zcq.l2 n m) a b (IntKind.i64.wrap (c+1)) y1.1 y1.2.1)
  else(some (d,e,())))
  else(some (d,e,()))
def f(n:Nat)(a:Int)(b:Int)(c:Int)(d:Int):Option (Int×Int×Unit):=
  if(decide (b<1))=false then
  (if(decide (32<=a))=false then
  (if(decide (a<=(IntKind.i64.wrap (0-b)))) then(some (c,d,()))
  else(Zcq.l2 n n a b (mx a 0) c d))
  else(some (c,d,())))
  else(some (c,d,()))
def g(a:Int)(b:Int)(c:Int)(d:Int):=f (1000+a.toNat+b.toNat+c.toNat+d.toNat) a b c d
end Zcq
namespace Zdx
def f(n:Nat)(a:Int)(b:Int)(c:Int)(d:Int):Option (Int×Unit):=
  (Zcq.g b c a d).bind fun y1=>
  some (y1.1,())
def g(a:Int)(b:Int)(c:Int)(d:Int):=f (1000+a.toNat+b.toNat+c.toNat+d.toNat) a b c d
end Zdx
namespace Zat
def l3(n:Nat):Nat->Int->(List (Int×Int×Int×Unit))->Int->Int->Option (Int×Unit)
 |0,_,_,_,_=>none
 |m+1,a,b,c,d=>
  if(decide (d<c)) then
  (if 0<=d/\d<(b.length:Int) then
  (if 0<=(0:Int)/\(0:Int)<(3:Int) then
  (if 0<=(1:Int)/\(1:Int)<(3:Int) then
  (if 0<=(2:Int)/\(2:Int)<(3:Int) then
  ((Zdx.g a ([(b.getD (d).toNat (0,(0,(0,())))).1,((b.getD (d).toNat (0,(0,(0,())))).2).1,(((b.getD (d).toNat (0,(0,(0,())))).2).2).1].getD ((0:Int)).toNat 0) ([(b.getD (d).toNat (0,(0,(0,())))).1,((b.getD (d).toNat (0,(0,(0,())))).2).1,(((b.getD (d).toNat (0,(0,(0,())))).2).2).1].getD ((1:Int)).toNat 0) (IntKind.u32.wrap ([(b.getD (d).toNat (0,(0,(0,())))).1,((b.getD (d).toNat (0,(0,(0,())))).2).1,(((b.getD (d).toNat (0,(0,(0,())))).2).2).1].getD ((2:Int)).toNat 0))).bind fun y1=>
  (Zat.l3 n m) y1.1 b c (IntKind.i64.wrap (d+1))) else none) else none) else none) else none)
  else(some (a,()))
def f(n:Nat)(a:List (Int×Int×Int×Unit)):Option (Int×Unit):=
  Zat.l3 n n 0 a (a.length:Int) 0
def g(a:List (Int×Int×Int×Unit)):=f (1000+a.length) a
end Zat
namespace Zbj
def j14(n:Nat)(a:Int)(b:Int)(c:Int)(d:Int)(e:Int)(i:Int)(j:Bool)(k:Int)(l:Int)(o:Int):Option (Int×Unit):=
  (Zbi.g 3 true j).bind fun y1=>
  (Zat.g ([(y1.1,y1.2.1,y1.2.2.1,()),(k,l,o,()),(0,24,i,())]:List (Int×Int×Int×Unit))).bind fun y2=>
  some (y2.1,())
def f(n:Nat)(a:Int)(b:Int)(c:Int)(d:Int)(e:Int)(i:Int)(j:Bool):Option (Int×Unit):=
  if(decide (a=1)) then
  ((Zbi.g 0 j false).bind fun y1=>
  (Zat.g ([(y1.1,y1.2.1,y1.2.2.1,()),(24,4,c,()),(20,4,d,()),(16,4,b,()),(0,4,e,())]:List (Int×Int×Int×Unit))).bind fun y2=>
  some (y2.1,()))
  else
  (if(decide (a=3)) then
  (if(decide (a=3)) then
  ((Zbi.g 0 true (decide (a=(4:Int)))).bind fun y3=>
  (Zat.g ([(y3.1,y3.2.1,y3.2.2.1,()),(24,4,c,())]:List (Int×Int×Int×Unit))).bind fun y4=>
  some (y4.1,()))
  else
  (if(decide (a=2)) then
  ((Zbi.g 1 j (decide (i<(0:Int)))).bind fun y5=>
  (Zat.g ([(y5.1,y5.2.1,y5.2.2.1,()),(24,4,c,()),(20,4,d,()),(16,4,b,()),(0,16,i,())]:List (Int×Int×Int×Unit))).bind fun y6=>
  some (y6.1,()))
  else
  (if(decide (a=5)) then
  ((Zbi.g 2 (decide (2<=b)) (decide ((Int.tmod b 2)=(1:Int)))).bind fun y7=>
  (Zat.g ([(y7.1,y7.2.1,y7.2.2.1,()),(24,4,c,()),(20,4,d,()),(0,20,i,())]:List (Int×Int×Int×Unit))).bind fun y8=>
  some (y8.1,()))
  else
  (if(decide (a=6)) then
  ((Zbi.g 3 false j).bind fun y9=>
  (Zat.g ([(y9.1,y9.2.1,y9.2.2.1,()),(24,4,b,()),(0,4,e,())]:List (Int×Int×Int×Unit))).bind fun y10=>
  some (y10.1,()))
  else(Zbj.j14 n a b c d e i j 24 4 b)))))
  else
  (if(decide (a=4)) then
  ((Zbi.g 0 true (decide (a=(4:Int)))).bind fun y11=>
  (Zat.g ([(y11.1,y11.2.1,y11.2.2.1,()),(24,4,c,())]:List (Int×Int×Int×Unit))).bind fun y12=>
  some (y12.1,()))
  else
  (if(decide (a=2)) then
  ((Zbi.g 1 j (decide (i<(0:Int)))).bind fun y13=>
  (Zat.g ([(y13.1,y13.2.1,y13.2.2.1,()),(24,4,c,()),(20,4,d,()),(16,4,b,()),(0,16,i,())]:List (Int×Int×Int×Unit))).bind fun y14=>
  some (y14.1,()))
  else
  (if(decide (a=5)) then
  ((Zbi.g 2 (decide (2<=b)) (decide ((Int.tmod b 2)=(1:Int)))).bind fun y15=>
  (Zat.g ([(y15.1,y15.2.1,y15.2.2.1,()),(24,4,c,()),(20,4,d,()),(0,20,i,())]:List (Int×Int×Int×Unit))).bind fun y16=>
  some (y16.1,()))
  else
  (if(decide (a=6)) then
  ((Zbi.g 3 false j).bind fun y17=>
  (Zat.g ([(y17.1,y17.2.1,y17.2.2.1,()),(24,4,b,()),(0,4,e,())]:List (Int×Int×Int×Unit))).bind fun y18=>
  some (y18.1,()))
  else(Zbj.j14 n a b c d e i j 24 4 b))))))
def g(a:Int)(b:Int)(c:Int)(d:Int)(e:Int)(i:Int)(j:Bool):=f (1000+a.toNat+b.toNat+c.toNat+d.toNat+e.toNat+i.toNat) a b c d e i j
end Zbj
namespace Zam
def j10(n:Nat)(a:Int)(b:Int)(c:Int)(d:Int)(e:Int)(i:Int)(j:Bool):Option (Bool×Unit):=
  if(!j)=false then
  ((Zcv.g b 8 (10:Int)).bind fun y1=>
  some (y1.1,()))
  else(some (true,()))
def f(n:Nat)(a:Int)(b:Int)(c:Int)(d:Int)(e:Int)(i:Int)(j:Bool):Option (Bool×Unit):=
  (Zcv.g a 1 (7:Int)).bind fun y1=>
  if(!y1.1)=false then
  ((Zcv.g b 0 (15:Int)).bind fun y2=>
  if(!y2.1)=false then
  ((Zbj.g a b c d e i j).bind fun y3=>
  (Zbc.g y3.1).bind fun y4=>
  if(!(decide (a=y4.1)&&(decide (b=y4.2.1)&&(decide (c=y4.2.2.1)&&(decide (d=y4.2.2.2.1)&&(decide (e=y4.2.2.2.2.1)&&(decide (i=y4.2.2.2.2.2.1)&&((j == y4.2.2.2.2.2.2.1)&&true)))))))) then(some (false,()))
  else
  (if(decide (a=1)) then
  (if(decide (a=1)) then
  (if(decide (b=0)) then
  (if(decide (d=0)) then
  (if(decide (a=2))=false then
  (if(!j) then
  (if(!j)=false then(some ((decide (0<=i)),()))
  else(some (true,())))
  else(some (false,())))
  else
  (if(!j)=false then(some ((decide (0<=i)),()))
  else(some (true,()))))
  else(some (false,())))
  else
  (if(decide (11<b)) then(some (false,()))
  else(Zam.j10 n a b c d e i j)))
  else(some (true,())))
  else
  (if(decide (a=2)) then
  (if(decide (b=0)) then
  (if(decide (d=0)) then
  (if(decide (a=2))=false then
  (if(!j) then
  (if(!j)=false then(some ((decide (0<=i)),()))
  else(some (true,())))
  else(some (false,())))
  else
  (if(!j)=false then(some ((decide (0<=i)),()))
  else(some (true,()))))
  else(some (false,())))
  else
  (if(decide (11<b)) then(some (false,()))
  else(Zam.j10 n a b c d e i j)))
  else(some (true,())))))
  else(some (false,())))
  else(some (false,()))
def g(a:Int)(b:Int)(c:Int)(d:Int)(e:Int)(i:Int)(j:Bool):=f (1000+a.toNat+b.toNat+c.toNat+d.toNat+e.toNat+i.toNat) a b c d e i j
end Zam
namespace Zcg
def f(n:Nat)(a:Int):Option (Int×Int×Int×Int×Int×Int×Bool×Bool×Unit):=
  (Zbc.g a).bind fun y1=>
  (Zam.g y1.1 y1.2.1 y1.2.2.1 y1.2.2.2.1 y1.2.2.2.2.1 y1.2.2.2.2.2.1 y1.2.2.2.2.2.2.1).bind fun y2=>
  if(!y2.1)=false then
  ((Zbj.g y1.1 y1.2.1 y1.2.2.1 y1.2.2.2.1 y1.2.2.2.2.1 y1.2.2.2.2.2.1 y1.2.2.2.2.2.2.1).bind fun y3=>
  if(decide (y3.1≠a)) then(some (0,0,0,0,0,0,false,false,()))
  else
  (some (y1.1,y1.2.1,y1.2.2.1,y1.2.2.2.1,y1.2.2.2.2.1,y1.2.2.2.2.2.1,y1.2.2.2.2.2.2.1,true,())))
  else(some (0,0,0,0,0,0,false,false,()))
def g(a:Int):=f (1000+a.toNat) a
end Zcg
namespace Zdg
def f(n:Nat)(a:Int):Option (Bool×Unit):=
  if(decide (a=2)) then
  (if(decide (a=2)) then(some (true,()))
  else(some (false,())))
  else
  (if(decide (a=5)) then
  (if(decide (a=5)) then(some (true,()))
  else(some (false,())))
  else
  (if(decide (a=7)) then
  (if(decide (a=7)) then(some (true,()))
  else(some (false,())))
  else
  (if(decide (a=8)) then
  (if(decide (a=8)) then(some (true,()))
  else(some (false,())))
  else
  (if(decide (a=9)) then(some (true,()))
  else(some (false,()))))))
def g(a:Int):=f (1000+a.toNat) a
end Zdg
namespace Zak
def j12(n:Nat)(a:Int)(b:Int)(c:Int)(d:Int)(e:Int)(i:Int)(j:Bool):Option (Bool×Unit):=
  (Zam.g a b c d e i j).bind fun y1=>
  some (y1.1,())
def j4(n:Nat)(a:Int)(b:Int)(c:Int)(d:Int)(e:Int)(i:Bool)(j:List It)(k:Str)(l:Int)(o:Int)(p:Int)(q:Int)(r:Int)(s:Int)(t:Bool):Option (Bool×Unit):=
  if(decide (a=0)) then
  (if(decide (a=0)) then
  (some ((decide (l=a)&&(decide (o=0)&&(decide (p=0)&&(decide (q=0)&&(decide (r=0)&&(decide (s=0)&&((t == false)&&true))))))),()))
  else
  (if(decide (a=10)) then
  (if(decide (l=a)&&(decide (o=0)&&(decide (p=0)&&(decide (q=0)&&(decide (r=0)&&(decide (s=0)&&((t == false)&&true))))))) then
  ((Zao.g k).bind fun y1=>
  some (y1.1,()))
  else(some (false,())))
  else
  (if(decide (a=8)) then
  (if(decide (l=a)&&(decide (o=0)&&(decide (p=c)&&(decide (q=0)&&(decide (r=0)&&(decide (s=0)&&((t == false)&&true))))))) then
  ((Zay.g c).bind fun y2=>
  some ((!(decide (y2.1=([]:Str)))),()))
  else(some (false,())))
  else(Zak.j12 n l o p q r s t))))
  else
  (if(decide (a=9)) then
  (some ((decide (l=a)&&(decide (o=0)&&(decide (p=0)&&(decide (q=0)&&(decide (r=0)&&(decide (s=0)&&((t == false)&&true))))))),()))
  else
  (if(decide (a=10)) then
  (if(decide (l=a)&&(decide (o=0)&&(decide (p=0)&&(decide (q=0)&&(decide (r=0)&&(decide (s=0)&&((t == false)&&true))))))) then
  ((Zao.g k).bind fun y3=>
  some (y3.1,()))
  else(some (false,())))
  else
  (if(decide (a=8)) then
  (if(decide (l=a)&&(decide (o=0)&&(decide (p=c)&&(decide (q=0)&&(decide (r=0)&&(decide (s=0)&&((t == false)&&true))))))) then
  ((Zay.g c).bind fun y4=>
  some ((!(decide (y4.1=([]:Str)))),()))
  else(some (false,())))
  else(Zak.j12 n l o p q r s t))))
def f(n:Nat)(a:Int)(b:Int)(c:Int)(d:Int)(e:Int)(i:Bool)(j:List It)(k:Str):Option (Bool×Unit):=
  (Zdg.g a).bind fun y1=>
  if(!(y1.1 == (decide ((0:Int)<(j.length:Int)))))=false then
  ((Zdg.g a).bind fun y2=>
  if y2.1 then
  ((Zba.g j).bind fun y3=>
  if(!y3.1)=false then
  (if(!((decide (a=10)) == (!(decide (k=([]:Str)))))) then(some (false,()))
  else(Zak.j4 n a b c d e i j k a b c d e 0 i))
  else(some (false,())))
  else
  (if(!((decide (a=10)) == (!(decide (k=([]:Str)))))) then(some (false,()))
  else(Zak.j4 n a b c d e i j k a b c d e 0 i)))
  else(some (false,()))
def g(a:Int)(b:Int)(c:Int)(d:Int)(e:Int)(i:Bool)(j:List It)(k:Str):=f (1000+a.toNat+b.toNat+c.toNat+d.toNat+e.toNat+j.length+k.length) a b c d e i j k
end Zak
namespace Zdy
def f(n:Nat)(a:Int):Option (Int×Unit):=
  if(decide (a=2)) then(some (1,()))
  else
  (if(decide (a=6)) then(some (7,()))
  else(some (a,())))
def g(a:Int):=f (1000+a.toNat) a
end Zdy
namespace Zcw
def f(n:Nat)(a:Int):Option (Bool×Unit):=
  if(decide (a=9))=false then(some ((decide (a=10)),()))
  else(some (true,()))
def g(a:Int):=f (1000+a.toNat) a
end Zcw
namespace Zdh
def f(n:Nat)(a:Int)(b:Int)(c:Int)(d:Int)(e:Int)(i:Bool)(j:List It)(k:Str):Option (Unit×Int×Int×Int×Int×Int×Bool×(List It)×Str×Unit):=
  some ((),a,b,c,d,e,i,j,k,())
def g(a:Int)(b:Int)(c:Int)(d:Int)(e:Int)(i:Bool)(j:List It)(k:Str):=f (1000+a.toNat+b.toNat+c.toNat+d.toNat+e.toNat+j.length+k.length) a b c d e i j k
end Zdh
namespace Zdi
def f(n:Nat)(a:Int)(b:Int)(c:Int)(d:Int)(e:Int)(i:Bool)(j:List It)(k:Str):Option (Unit×Int×Int×Int×Int×Int×Bool×(List It)×Str×Unit):=
  some ((),a,b,c,d,e,i,j,k,())
def g(a:Int)(b:Int)(c:Int)(d:Int)(e:Int)(i:Bool)(j:List It)(k:Str):=f (1000+a.toNat+b.toNat+c.toNat+d.toNat+e.toNat+j.length+k.length) a b c d e i j k
end Zdi
namespace Zdj
def f(n:Nat)(a:Int)(b:Int)(c:Int)(d:Int)(e:Int)(i:Bool)(j:List It)(k:Str):Option (Unit×Int×Int×Int×Int×Int×Bool×(List It)×Str×Unit):=
  some ((),a,b,c,d,e,i,j,k,())
def g(a:Int)(b:Int)(c:Int)(d:Int)(e:Int)(i:Bool)(j:List It)(k:Str):=f (1000+a.toNat+b.toNat+c.toNat+d.toNat+e.toNat+j.length+k.length) a b c d e i j k
end Zdj
namespace Zbx
def f(n:Nat)(a:Int)(b:Int)(c:Int)(d:Int)(e:Int)(i:Bool)(j:List It)(k:Str)(l:Fn):Option (Str×Unit):=
  if l=K.atA then((Zdh.g a b c d e i j k).bind fun y1=>
  (Zay.g y1.2.2.2.1).bind fun y2=>
  some (y2.1,()))
  else if l=K.atB then((Zdi.g a b c d e i j k).bind fun y3=>
  (Zay.g y3.2.2.2.2.1).bind fun y4=>
  some (y4.1,()))
  else if l=K.atC then((Zdj.g a b c d e i j k).bind fun y5=>
  (Zay.g y5.2.2.2.2.2.1).bind fun y6=>
  some (y6.1,()))
  else none
def g(a:Int)(b:Int)(c:Int)(d:Int)(e:Int)(i:Bool)(j:List It)(k:Str)(l:Fn):=f (1000+a.toNat+b.toNat+c.toNat+d.toNat+e.toNat+j.length+k.length) a b c d e i j k l
end Zbx
namespace Zch
def l1(n:Nat):Nat->Str->Int->Option (Str×Unit)
 |0,_,_=>none
 |m+1,a,b=>
  if(decide ((0:Int)<(a.length:Int))) then
  (if 0<=(0:Int)/\(0:Int)<(a.length:Int) then
  (if(decide ((bt a 0)=b)) then
  (if 0<=(1:Int)/\(1:Int)<=(a.length:Int) then
  ((Zch.l1 n m) ((a.take (((a.length:Int)).toNat)).drop (((1:Int)).toNat)) b) else none)
  else(some (a,()))) else none)
  else(some (a,()))
def f(n:Nat)(a:Str)(b:Int):Option (Str×Unit):=
  Zch.l1 n n a b
def g(a:Str)(b:Int):=f (1000+a.length+b.toNat) a b
end Zch
namespace Zcx
def j5(n:Nat)(a:Str)(b:Str):Option (Str×Unit):=
  none
def f(n:Nat)(a:Str)(b:Str):Option (Str×Unit):=
  if(decide (a=([]:Str)))=false then
  (if(decide (b=([]:Str))) then(some (a,()))
  else
  (if(decide ((b.length:Int)=(1:Int))) then
  (if 0<=(0:Int)/\(0:Int)<(b.length:Int) then
  (if(decide ((bt b 0)<128)) then
  (if 0<=(0:Int)/\(0:Int)<(b.length:Int) then
  ((Zch.g a (bt b (0:Int))).bind fun y1=>
  some (y1.1,())) else none)
  else(Zcx.j5 n a b)) else none)
  else(Zcx.j5 n a b)))
  else(some (a,()))
def g(a:Str)(b:Str):=f (1000+a.length+b.length) a b
end Zcx
namespace Zdk
def f(n:Nat)(a:Int)(b:Int)(c:Int)(d:Int)(e:Int)(i:Bool)(j:List It)(k:Str)(l:Str):Option (Str×Unit):=
  (Zae.g j).bind fun y1=>
  if l.length+([32]:Str).length<=9223372036854775807 then
  (if(l++([32]:Str)).length+y1.1.length<=9223372036854775807 then
  ((Zcx.g ((l++([32]:Str))++y1.1) ([32]:Str)).bind fun y2=>
  some (y2.1,())) else none) else none
def g(a:Int)(b:Int)(c:Int)(d:Int)(e:Int)(i:Bool)(j:List It)(k:Str)(l:Str):=f (1000+a.toNat+b.toNat+c.toNat+d.toNat+e.toNat+j.length+k.length+l.length) a b c d e i j k l
end Zdk
namespace Zeo
def f(n:Nat)(a:Int)(b:Int)(c:Int)(d:Int)(e:Int)(i:Bool)(j:List It)(k:Str):Option (Str×Unit):=
  some (k,())
def g(a:Int)(b:Int)(c:Int)(d:Int)(e:Int)(i:Bool)(j:List It)(k:Str):=f (1000+a.toNat+b.toNat+c.toNat+d.toNat+e.toNat+j.length+k.length) a b c d e i j k
end Zeo
namespace Zad
def j15(n:Nat)(rl12:(List Str)->Str->(List Str)->(List (Fn×Fn×Unit))->Int->Int->Int->Int->Int->Int->Int->Bool->(List It)->Str->Option Sy)(a:List Str)(b:Str)(c:List Str)(d:List (Fn×Fn×Unit))(e:Int)(i:Int)(j:Int)(k:Int)(l:Int)(o:Int)(p:Int)(q:Bool)(r:List It)(s:Str):Option Sy:=
  rl12 a b c d e (IntKind.i64.wrap (i+1)) j k l o p q r s
def j17(n:Nat)(a:List Str):Option Sy:=
  (L.sjoinO a ([32]:Str)).bind fun y1=>
  some (y1.1,0,())
def l12(n:Nat):Nat->(List Str)->Str->(List Str)->(List (Fn×Fn×Unit))->Int->Int->Int->Int->Int->Int->Int->Bool->(List It)->Str->Option Sy
 |0,_,_,_,_,_,_,_,_,_,_,_,_,_,_=>none
 |m+1,a,b,c,d,e,i,j,k,l,o,p,q,r,s=>
  if(decide (i<e)) then
  (if 0<=i/\i<(d.length:Int) then
  (if((d.getD (i).toNat (((0,[]):Fn),(((0,[]):Fn),()))).2).1=K.wrA then((Zbx.g j k l o p q r s K.atA).bind fun y1=>
  if(c.length+([y1.1]:List Str).length)*16<=140737488355328/\0<16/\0<1 then
  (Zad.j15 n (Zad.l12 n m) a b (c++([y1.1]:List Str)) d e i j k l o p q r s) else none)
  else if((d.getD (i).toNat (((0,[]):Fn),(((0,[]):Fn),()))).2).1=K.wrB then((Zbx.g j k l o p q r s K.atB).bind fun y2=>
  if(c.length+([y2.1]:List Str).length)*16<=140737488355328/\0<16/\0<1 then
  (Zad.j15 n (Zad.l12 n m) a b (c++([y2.1]:List Str)) d e i j k l o p q r s) else none)
  else if((d.getD (i).toNat (((0,[]):Fn),(((0,[]):Fn),()))).2).1=K.wrC then((Zbx.g j k l o p q r s K.atC).bind fun y3=>
  if(c.length+([y3.1]:List Str).length)*16<=140737488355328/\0<16/\0<1 then
  (Zad.j15 n (Zad.l12 n m) a b (c++([y3.1]:List Str)) d e i j k l o p q r s) else none)
  else if((d.getD (i).toNat (((0,[]):Fn),(((0,[]):Fn),()))).2).1=K.wrE then((Zdk.g j k l o p q r s ([]:Str)).bind fun y4=>
  if(c.length+([y4.1]:List Str).length)*16<=140737488355328/\0<16/\0<1 then
  (Zad.j15 n (Zad.l12 n m) a b (c++([y4.1]:List Str)) d e i j k l o p q r s) else none)
  else if((d.getD (i).toNat (((0,[]):Fn),(((0,[]):Fn),()))).2).1=K.wrQ then((Zdk.g j k l o p q r s ([61]:Str)).bind fun y5=>
  if(c.length+([y5.1]:List Str).length)*16<=140737488355328/\0<16/\0<1 then
  (Zad.j15 n (Zad.l12 n m) a b (c++([y5.1]:List Str)) d e i j k l o p q r s) else none)
  else if((d.getD (i).toNat (((0,[]):Fn),(((0,[]):Fn),()))).2).1=K.wrN then((Zeo.g j k l o p q r s).bind fun y6=>
  if(c.length+([y6.1]:List Str).length)*16<=140737488355328/\0<16/\0<1 then
  (Zad.j15 n (Zad.l12 n m) a b (c++([y6.1]:List Str)) d e i j k l o p q r s) else none)
  else none) else none)
  else
  ((L.sjoinO c ([44,32]:Str)).bind fun y7=>
  if(a.length+([b,y7.1]:List Str).length)*16<=140737488355328/\0<16/\0<1 then(Zad.j17 n (a++([b,y7.1]:List Str))) else none)
def j10(n:Nat)(a:List Str)(b:Str)(c:Int)(d:Int)(e:Int)(i:Int)(j:Int)(k:Bool)(l:List It)(o:Str):Option Sy:=
  Zad.l12 n n a b ([]) (L.opsR c d) ((L.opsR c d).length:Int) 0 c d e i j k l o
def j6(n:Nat)(a:List Str)(b:Int)(c:Int)(d:Int)(e:Int)(i:Int)(j:Bool)(k:List It)(l:Str):Option Sy:=
  if(decide (b≠0)) then
  ((Zdy.g b).bind fun y1=>
  (L.mnemO y1.1 c j).bind fun y2=>
  (Zcw.g b).bind fun y3=>
  if y3.1 then
  (if([46]:Str).length+y2.1.length<=9223372036854775807 then(Zad.j10 n a (([46]:Str)++y2.1) b c d e i j k l) else none)
  else(Zad.j10 n a y2.1 b c d e i j k l))
  else(Zad.j17 n a)
def j3(n:Nat)(a:Str)(b:Int)(c:Int)(d:Int)(e:Int)(i:Int)(j:Bool)(k:List It)(l:Str):Option Sy:=
  if(!(decide (a=([]:Str)))) then
  (if a.length+([58]:Str).length<=9223372036854775807 then
  (if(([]:List Str).length+([(a++([58]:Str))]:List Str).length)*16<=140737488355328/\0<16/\0<1 then
  (Zad.j6 n (([]:List Str)++([(a++([58]:Str))]:List Str)) b c d e i j k l) else none) else none)
  else(Zad.j6 n ([]) b c d e i j k l)
def f(n:Nat)(a:Str)(b:Int)(c:Int)(d:Int)(e:Int)(i:Int)(j:Bool)(k:List It)(l:Str):Option Sy:=
  if(!(decide (a=([]:Str)))) then
  ((Zac.g a).bind fun y1=>
  if(!y1.1)=false then
  ((Zak.g b c d e i j k l).bind fun y2=>
  if(!y2.1) then(some (([]:Str),22,()))
  else(Zad.j3 n a b c d e i j k l))
  else(some (([]:Str),22,())))
  else
  ((Zak.g b c d e i j k l).bind fun y3=>
  if(!y3.1) then(some (([]:Str),22,()))
  else(Zad.j3 n a b c d e i j k l))
def g(a:Str)(b:Int)(c:Int)(d:Int)(e:Int)(i:Int)(j:Bool)(k:List It)(l:Str):=f (1000+a.length+b.toNat+c.toNat+d.toNat+e.toNat+i.toNat+k.length+l.length) a b c d e i j k l
end Zad
namespace Zaw
def f(n:Nat)(a:Bool)(b:List Tk)(c:Int)(d:Int):Option ((List Tk)×Int×Int×Unit):=
  if(!a) then
  (if(decide (d=0)) then(some (b,c,22,()))
  else(some (b,c,d,())))
  else(some (b,c,d,()))
def g(a:Bool)(b:List Tk)(c:Int)(d:Int):=f (1000+b.length+c.toNat+d.toNat) a b c d
end Zaw
namespace Zcy
def f(n:Nat)(a:Int)(b:List Tk)(c:Int)(d:Int):Option (Str×(List Tk)×Int×Int×Unit):=
  if(decide (d≠0))=false then
  (if(decide ((b.length:Int)<=c))=false then
  (if 0<=c/\c<(b.length:Int) then
  (if(decide ((b.getD (c).toNat zT).1≠a)) then(some (([]:Str),b,c,d,()))
  else
  (if 0<=c/\c<(b.length:Int) then
  (some ((((b.getD (c).toNat zT).2).2).1,b,c,d,())) else none)) else none)
  else(some (([]:Str),b,c,d,())))
  else(some (([]:Str),b,c,d,()))
def g(a:Int)(b:List Tk)(c:Int)(d:Int):=f (1000+a.toNat+b.length+c.toNat+d.toNat) a b c d
end Zcy
namespace Zbr
def f(n:Nat)(a:Int)(b:List Tk)(c:Int)(d:Int):Option (Str×(List Tk)×Int×Int×Unit):=
  (Zcy.g a b c d).bind fun y1=>
  some (y1.1,y1.2.1,(IntKind.i64.wrap (y1.2.2.1+1)),y1.2.2.2.1,())
def g(a:Int)(b:List Tk)(c:Int)(d:Int):=f (1000+a.toNat+b.length+c.toNat+d.toNat) a b c d
end Zbr
namespace Zdz
def f(n:Nat)(a:List Tk)(b:Int)(c:Int)(d:Int)(e:Int)(i:Int)(j:Int)(k:Int)(l:Bool)(o:List It)(p:Str):Option ((List Tk)×Int×Int×Int×Int×Int×Int×Int×Bool×(List It)×Str×Unit):=
  (Zcy.g 1 a b c).bind fun y1=>
  (Zcd.g y1.1).bind fun y2=>
  if(decide (d=1)) then
  (if(!y2.2.1)=false then
  (if l then
  (if(decide (e=0)) then
  (some (y1.2.1,y1.2.2.1,y1.2.2.2.1,2,e,i,j,k,l,o,p,()))
  else
  (if(decide (d=7)) then
  (if y2.2.1 then
  (some (y1.2.1,y1.2.2.1,y1.2.2.2.1,6,e,i,j,k,l,o,p,()))
  else
  (some (y1.2.1,y1.2.2.1,y1.2.2.2.1,d,e,i,j,k,l,o,p,())))
  else
  (some (y1.2.1,y1.2.2.1,y1.2.2.2.1,d,e,i,j,k,l,o,p,()))))
  else
  (if(decide (d=7)) then
  (if y2.2.1 then
  (some (y1.2.1,y1.2.2.1,y1.2.2.2.1,6,e,i,j,k,l,o,p,()))
  else
  (some (y1.2.1,y1.2.2.1,y1.2.2.2.1,d,e,i,j,k,l,o,p,())))
  else
  (some (y1.2.1,y1.2.2.1,y1.2.2.2.1,d,e,i,j,k,l,o,p,()))))
  else
  (some (y1.2.1,y1.2.2.1,y1.2.2.2.1,2,e,i,j,k,l,o,p,())))
  else
  (if(decide (d=7)) then
  (if y2.2.1 then
  (some (y1.2.1,y1.2.2.1,y1.2.2.2.1,6,e,i,j,k,l,o,p,()))
  else
  (some (y1.2.1,y1.2.2.1,y1.2.2.2.1,d,e,i,j,k,l,o,p,())))
  else
  (some (y1.2.1,y1.2.2.1,y1.2.2.2.1,d,e,i,j,k,l,o,p,())))
def g(a:List Tk)(b:Int)(c:Int)(d:Int)(e:Int)(i:Int)(j:Int)(k:Int)(l:Bool)(o:List It)(p:Str):=f (1000+a.length+b.toNat+c.toNat+d.toNat+e.toNat+i.toNat+j.toNat+k.toNat+o.length+p.length) a b c d e i j k l o p
end Zdz
namespace Zcz
def f(n:Nat)(a:Fn)(b:List Tk)(c:Int)(d:Int)(e:Int)(i:Int)(j:Int)(k:Int)(l:Int)(o:Bool)(p:List It)(q:Str):Option ((List Tk)×Int×Int×Int×Int×Int×Int×Int×Bool×(List It)×Str×Unit):=
  (Zbr.g 1 b c d).bind fun y1=>
  (Zcd.g y1.1).bind fun y2=>
  (Zaw.g y2.2.1 y1.2.1 y1.2.2.1 y1.2.2.2.1).bind fun y3=>
  if a=K.atA then((Zdh.g e i j k l o p q).bind fun y4=>
  some (y3.1,y3.2.1,y3.2.2.1,y4.2.1,y4.2.2.1,y2.1,y4.2.2.2.2.1,y4.2.2.2.2.2.1,y4.2.2.2.2.2.2.1,y4.2.2.2.2.2.2.2.1,y4.2.2.2.2.2.2.2.2.1,()))
  else if a=K.atB then((Zdi.g e i j k l o p q).bind fun y5=>
  some (y3.1,y3.2.1,y3.2.2.1,y5.2.1,y5.2.2.1,y5.2.2.2.1,y2.1,y5.2.2.2.2.2.1,y5.2.2.2.2.2.2.1,y5.2.2.2.2.2.2.2.1,y5.2.2.2.2.2.2.2.2.1,()))
  else if a=K.atC then((Zdj.g e i j k l o p q).bind fun y6=>
  some (y3.1,y3.2.1,y3.2.2.1,y6.2.1,y6.2.2.1,y6.2.2.2.1,y6.2.2.2.2.1,y2.1,y6.2.2.2.2.2.2.1,y6.2.2.2.2.2.2.2.1,y6.2.2.2.2.2.2.2.2.1,()))
  else none
def g(a:Fn)(b:List Tk)(c:Int)(d:Int)(e:Int)(i:Int)(j:Int)(k:Int)(l:Int)(o:Bool)(p:List It)(q:Str):=f (1000+b.length+c.toNat+d.toNat+e.toNat+i.toNat+j.toNat+k.toNat+l.toNat+p.length+q.length) a b c d e i j k l o p q
end Zcz
namespace Zbk
def j2(n:Nat)(a:List Tk)(b:Int)(c:Int)(d:Int)(e:Int)(i:Int)(j:Int)(k:Int)(l:Bool)(o:List It)(p:Str):Option ((List Tk)×Int×Int×Int×Int×Int×Int×Int×Bool×(List It)×Str×Unit):=
  if(decide (c=0)) then
  ((Zau.g a b).bind fun y1=>
  some (a,y1.2.1,y1.2.2.1,d,e,i,j,k,l,y1.1,p,()))
  else(some (a,b,c,d,e,i,j,k,l,o,p,()))
def f(n:Nat)(a:Str)(b:List Tk)(c:Int)(d:Int)(e:Int)(i:Int)(j:Int)(k:Int)(l:Int)(o:Bool)(p:List It)(q:Str):Option ((List Tk)×Int×Int×Int×Int×Int×Int×Int×Bool×(List It)×Str×Unit):=
  if(!(decide (a=([]:Str)))) then
  ((Zbr.g 3 b c d).bind fun y1=>
  (Zaw.g (decide (y1.1=a)) y1.2.1 y1.2.2.1 y1.2.2.2.1).bind fun y2=>
  Zbk.j2 n y2.1 y2.2.1 y2.2.2.1 e i j k l o p q)
  else(Zbk.j2 n b c d e i j k l o p q)
def g(a:Str)(b:List Tk)(c:Int)(d:Int)(e:Int)(i:Int)(j:Int)(k:Int)(l:Int)(o:Bool)(p:List It)(q:Str):=f (1000+a.length+b.length+c.toNat+d.toNat+e.toNat+i.toNat+j.toNat+k.toNat+l.toNat+p.length+q.length) a b c d e i j k l o p q
end Zbk
namespace Zea
def f(n:Nat)(a:List Tk)(b:Int)(c:Int)(d:Int)(e:Int)(i:Int)(j:Int)(k:Int)(l:Bool)(o:List It)(p:Str):Option ((List Tk)×Int×Int×Int×Int×Int×Int×Int×Bool×(List It)×Str×Unit):=
  (Zbr.g 1 a b c).bind fun y1=>
  (Zao.g y1.1).bind fun y2=>
  (Zaw.g y2.1 y1.2.1 y1.2.2.1 y1.2.2.2.1).bind fun y3=>
  some (y3.1,y3.2.1,y3.2.2.1,d,e,i,j,k,l,o,y1.1,())
def g(a:List Tk)(b:Int)(c:Int)(d:Int)(e:Int)(i:Int)(j:Int)(k:Int)(l:Bool)(o:List It)(p:Str):=f (1000+a.length+b.toNat+c.toNat+d.toNat+e.toNat+i.toNat+j.toNat+k.toNat+o.length+p.length) a b c d e i j k l o p
end Zea
namespace Zab
def j20(n:Nat)(rl13:(List Tk)->Str->Int->Int->Int->Int->Int->Int->Int->Int->Int->Bool->(List It)->Str->(List Tk)->Int->Int->Option (Str×Int×Int×Int×Int×Int×Bool×(List It)×Str×Int×Unit))(a:List Tk)(b:Str)(c:Int)(d:Int)(e:Int)(i:Int)(j:Int)(k:Int)(l:Int)(o:Int)(p:Int)(q:Bool)(r:List It)(s:Str)(t:List Tk)(u:Int)(v:Int):Option (Str×Int×Int×Int×Int×Int×Bool×(List It)×Str×Int×Unit):=
  rl13 a b c d e (IntKind.i64.wrap (i+1)) j k l o p q r s t u v
def j19(n:Nat)(rl13:(List Tk)->Str->Int->Int->Int->Int->Int->Int->Int->Int->Int->Bool->(List It)->Str->(List Tk)->Int->Int->Option (Str×Int×Int×Int×Int×Int×Bool×(List It)×Str×Int×Unit))(a:List Tk)(b:Str)(c:Int)(d:Int)(e:Int)(i:Int)(j:Int)(k:Int)(l:Int)(o:Int)(p:Int)(q:Int)(r:Bool)(s:List It)(t:Str)(u:List Tk)(v:Int)(w:Int):Option (Str×Int×Int×Int×Int×Int×Bool×(List It)×Str×Int×Unit):=
  if 0<=e/\e<((L.opsR k c).length:Int) then
  (if((L.opsR k c).getD (e).toNat (((0,[]):Fn),(((0,[]):Fn),()))).1=K.rdA then((Zcz.g K.atA u v w k l o p q r s t).bind fun y2=>
  Zab.j20 n rl13 a b c d i j y2.2.2.2.1 y2.2.2.2.2.1 y2.2.2.2.2.2.1 y2.2.2.2.2.2.2.1 y2.2.2.2.2.2.2.2.1 y2.2.2.2.2.2.2.2.2.1 y2.2.2.2.2.2.2.2.2.2.1 y2.2.2.2.2.2.2.2.2.2.2.1 y2.1 y2.2.1 y2.2.2.1)
  else if((L.opsR k c).getD (e).toNat (((0,[]):Fn),(((0,[]):Fn),()))).1=K.rdB then((Zcz.g K.atB u v w k l o p q r s t).bind fun y3=>
  Zab.j20 n rl13 a b c d i j y3.2.2.2.1 y3.2.2.2.2.1 y3.2.2.2.2.2.1 y3.2.2.2.2.2.2.1 y3.2.2.2.2.2.2.2.1 y3.2.2.2.2.2.2.2.2.1 y3.2.2.2.2.2.2.2.2.2.1 y3.2.2.2.2.2.2.2.2.2.2.1 y3.1 y3.2.1 y3.2.2.1)
  else if((L.opsR k c).getD (e).toNat (((0,[]):Fn),(((0,[]):Fn),()))).1=K.rdC then((Zcz.g K.atC u v w k l o p q r s t).bind fun y4=>
  Zab.j20 n rl13 a b c d i j y4.2.2.2.1 y4.2.2.2.2.1 y4.2.2.2.2.2.1 y4.2.2.2.2.2.2.1 y4.2.2.2.2.2.2.2.1 y4.2.2.2.2.2.2.2.2.1 y4.2.2.2.2.2.2.2.2.2.1 y4.2.2.2.2.2.2.2.2.2.2.1 y4.1 y4.2.1 y4.2.2.1)
  else if((L.opsR k c).getD (e).toNat (((0,[]):Fn),(((0,[]):Fn),()))).1=K.rdE then((Zbk.g ([]:Str) u v w k l o p q r s t).bind fun y5=>
  Zab.j20 n rl13 a b c d i j y5.2.2.2.1 y5.2.2.2.2.1 y5.2.2.2.2.2.1 y5.2.2.2.2.2.2.1 y5.2.2.2.2.2.2.2.1 y5.2.2.2.2.2.2.2.2.1 y5.2.2.2.2.2.2.2.2.2.1 y5.2.2.2.2.2.2.2.2.2.2.1 y5.1 y5.2.1 y5.2.2.1)
  else if((L.opsR k c).getD (e).toNat (((0,[]):Fn),(((0,[]):Fn),()))).1=K.rdQ then((Zbk.g ([61]:Str) u v w k l o p q r s t).bind fun y6=>
  Zab.j20 n rl13 a b c d i j y6.2.2.2.1 y6.2.2.2.2.1 y6.2.2.2.2.2.1 y6.2.2.2.2.2.2.1 y6.2.2.2.2.2.2.2.1 y6.2.2.2.2.2.2.2.2.1 y6.2.2.2.2.2.2.2.2.2.1 y6.2.2.2.2.2.2.2.2.2.2.1 y6.1 y6.2.1 y6.2.2.1)
  else if((L.opsR k c).getD (e).toNat (((0,[]):Fn),(((0,[]):Fn),()))).1=K.rdN then((Zea.g u v w k l o p q r s t).bind fun y7=>
  Zab.j20 n rl13 a b c d i j y7.2.2.2.1 y7.2.2.2.2.1 y7.2.2.2.2.2.1 y7.2.2.2.2.2.2.1 y7.2.2.2.2.2.2.2.1 y7.2.2.2.2.2.2.2.2.1 y7.2.2.2.2.2.2.2.2.2.1 y7.2.2.2.2.2.2.2.2.2.2.1 y7.1 y7.2.1 y7.2.2.1)
  else none) else none
def j17(n:Nat)(rl13:(List Tk)->Str->Int->Int->Int->Int->Int->Int->Int->Int->Int->Bool->(List It)->Str->(List Tk)->Int->Int->Option (Str×Int×Int×Int×Int×Int×Bool×(List It)×Str×Int×Unit))(a:List Tk)(b:Str)(c:Int)(d:Int)(e:Int)(i:Int)(j:Int)(k:Int)(l:Int)(o:Int)(p:Int)(q:Int)(r:Bool)(s:List It)(t:Str)(u:List Tk)(v:Int)(w:Int):Option (Str×Int×Int×Int×Int×Int×Bool×(List It)×Str×Int×Unit):=
  if(decide (e=(IntKind.i64.wrap (d-1)))) then
  ((Zdz.g u v w k l o p q r s t).bind fun y1=>
  Zab.j19 n rl13 a b c d e i j y1.2.2.2.1 y1.2.2.2.2.1 y1.2.2.2.2.2.1 y1.2.2.2.2.2.2.1 y1.2.2.2.2.2.2.2.1 y1.2.2.2.2.2.2.2.2.1 y1.2.2.2.2.2.2.2.2.2.1 y1.2.2.2.2.2.2.2.2.2.2.1 y1.1 y1.2.1 y1.2.2.1)
  else(Zab.j19 n rl13 a b c d e i j k l o p q r s t u v w)
def j22(n:Nat)(a:Str)(b:Int)(c:Int)(d:Int)(e:Int)(i:Int)(j:Bool)(k:List It)(l:Str)(o:List Tk)(p:Int)(q:Int):Option (Str×Int×Int×Int×Int×Int×Bool×(List It)×Str×Int×Unit):=
  if(decide (q≠0)) then
  (some (([]:Str),0,0,0,0,0,false,[],([]:Str),q,()))
  else(some (a,b,c,d,e,i,j,k,l,0,()))
def l13(n:Nat):Nat->(List Tk)->Str->Int->Int->Int->Int->Int->Int->Int->Int->Int->Bool->(List It)->Str->(List Tk)->Int->Int->Option (Str×Int×Int×Int×Int×Int×Bool×(List It)×Str×Int×Unit)
 |0,_,_,_,_,_,_,_,_,_,_,_,_,_,_,_,_,_=>none
 |m+1,a,b,c,d,e,i,j,k,l,o,p,q,r,s,t,u,v=>
  if(decide (i<e)) then
  (if(decide (0<i)) then
  ((Zbr.g 3 t u v).bind fun y1=>
  (Zaw.g (decide (y1.1=([44]:Str))) y1.2.1 y1.2.2.1 y1.2.2.2.1).bind fun y2=>
  Zab.j17 n (Zab.l13 n m) a b c d i e i j k l o p q r s y2.1 y2.2.1 y2.2.2.1)
  else
  (Zab.j17 n (Zab.l13 n m) a b c d i e i j k l o p q r s t u v))
  else
  ((Zaw.g (decide ((a.length:Int)<=u)) t u v).bind fun y3=>
  Zab.j22 n b j k l o p q r s y3.1 y3.2.1 y3.2.2.1)
def j9(n:Nat)(a:List Tk)(b:Str)(c:Int)(d:Int)(e:Bool)(i:Int)(j:Int)(k:Int)(l:Int)(o:Int)(p:Bool)(q:List It)(r:Str)(s:List Tk)(t:Int)(u:Int):Option (Str×Int×Int×Int×Int×Int×Bool×(List It)×Str×Int×Unit):=
  Zab.l13 n n a b d ((L.opsR c d).length:Int) ((L.opsR c d).length:Int) 0 c d 0 0 0 e ([]) ([]:Str) s (IntKind.i64.wrap (t+1)) u
def j5(n:Nat)(a:List Tk)(b:Str)(c:Int)(d:Int)(e:Int)(i:Int)(j:Int)(k:Bool)(l:List It)(o:Str)(p:List Tk)(q:Int)(r:Int):Option (Str×Int×Int×Int×Int×Int×Bool×(List It)×Str×Int×Unit):=
  if(decide (r=0)) then
  (if(decide (q<(a.length:Int))) then
  (if 0<=q/\q<(a.length:Int) then
  ((L.nameOfO ((((a.getD (q).toNat zT).2).2).1)).bind fun y1=>
  if y1.2.2.2.1 then
  ((Zcw.g y1.1).bind fun y2=>
  if((decide ((a.getD (q).toNat zT).1=4)) == y2.1) then
  (if(decide ((a.getD (q).toNat zT).1=4))=false then
  ((Zaw.g (decide ((a.getD (q).toNat zT).1=1)) p q r).bind fun y3=>
  Zab.j9 n a b y1.1 y1.2.1 y1.2.2.1 c d e i j k l o y3.1 y3.2.1 y3.2.2.1)
  else
  ((Zaw.g true p q r).bind fun y4=>
  Zab.j9 n a b y1.1 y1.2.1 y1.2.2.1 c d e i j k l o y4.1 y4.2.1 y4.2.2.1))
  else
  ((Zaw.g false p q r).bind fun y5=>
  Zab.j9 n a b y1.1 y1.2.1 y1.2.2.1 c d e i j k l o y5.1 y5.2.1 y5.2.2.1))
  else
  ((Zaw.g false p q r).bind fun y6=>
  Zab.j9 n a b y1.1 y1.2.1 y1.2.2.1 c d e i j k l o y6.1 y6.2.1 y6.2.2.1)) else none)
  else(Zab.j22 n b c d e i j k l o p q r))
  else(Zab.j22 n b c d e i j k l o p q r)
def f(n:Nat)(a:List Tk):Option (Str×Int×Int×Int×Int×Int×Bool×(List It)×Str×Int×Unit):=
  if(decide ((1:Int)<(a.length:Int))) then
  (if 0<=(0:Int)/\(0:Int)<(a.length:Int) then
  (if(decide ((a.getD ((0:Int)).toNat zT).1=1)) then
  (if 0<=(1:Int)/\(1:Int)<(a.length:Int) then
  (if(decide ((a.getD ((1:Int)).toNat zT).1=3)) then
  (if 0<=(1:Int)/\(1:Int)<(a.length:Int) then
  (if(decide ((((a.getD ((1:Int)).toNat zT).2).2).1=([58]:Str))) then
  (if 0<=(0:Int)/\(0:Int)<(a.length:Int) then
  ((Zac.g ((((a.getD ((0:Int)).toNat zT).2).2).1)).bind fun y1=>
  (Zaw.g y1.1 a 2 0).bind fun y2=>
  Zab.j5 n a ((((a.getD ((0:Int)).toNat zT).2).2).1) 0 0 0 0 0 false ([]) ([]:Str) y2.1 y2.2.1 y2.2.2.1) else none)
  else
  (Zab.j5 n a ([]:Str) 0 0 0 0 0 false ([]) ([]:Str) a 0 0)) else none)
  else
  (Zab.j5 n a ([]:Str) 0 0 0 0 0 false ([]) ([]:Str) a 0 0)) else none)
  else
  (Zab.j5 n a ([]:Str) 0 0 0 0 0 false ([]) ([]:Str) a 0 0)) else none)
  else
  (Zab.j5 n a ([]:Str) 0 0 0 0 0 false ([]) ([]:Str) a 0 0)
def g(a:List Tk):=f (1000+a.length) a
end Zab
namespace Zby
def f(n:Nat)(a:Int)(b:Int)(c:Int)(d:Int)(e:Int)(i:Int)(j:Bool):Option (Int×Int×Unit):=
  (Zam.g a b c d e i j).bind fun y1=>
  if(!y1.1) then(some (0,1,()))
  else
  ((Zbj.g a b c d e i j).bind fun y2=>
  some (y2.1,0,()))
def g(a:Int)(b:Int)(c:Int)(d:Int)(e:Int)(i:Int)(j:Bool):=f (1000+a.toNat+b.toNat+c.toNat+d.toNat+e.toNat+i.toNat) a b c d e i j
end Zby
end Rv
namespace Rv
open Go
set_option maxRecDepth 100000
namespace Zag
def j25(n:Nat)(a:Int)(b:Int)(c:Int)(d:Int)(e:Int)(i:Int)(j:Bool)(k:Int)(l:Int)(o:Int)(p:Int)(q:Int)(r:Int)(s:Bool):Option (Int×Int×Int×Int×Int×Int×Bool×Unit):=
  some (k,l,o,p,q,r,s,())
def j10(n:Nat)(a:Int)(b:Int)(c:Int)(d:Int)(e:Int)(i:Int)(j:Int)(k:Bool)(l:Int)(o:Int)(p:Int)(q:Int)(r:Int)(s:Int)(t:Bool)(u:Int)(v:Int)(w:Int)(x:Int)(z:Int)(A:Int)(B:Bool):Option (Int×Int×Int×Int×Int×Int×Bool×Unit):=
  if(decide (u=1)) then(some (u,v,w,x,(aC .and .i64 i 15),A,B,()))
  else
  (if(decide (a=0)) then
  (if k then
  (Zag.j25 n l o p q r s t u v w x z (aC .and .i64 j 65535) true)
  else
  (Zag.j25 n l o p q r s t u v w x z (IntKind.i64.wrap ((aC .and .i64 j 131071)-65536)) B))
  else
  (Zag.j25 n l o p q r s t u v w x z (IntKind.i64.wrap ((aC .and .i64 j 131071)-65536)) B))
def j9(n:Nat)(a:Int)(b:Int)(c:Int)(d:Int)(e:Int)(i:Int)(j:Int)(k:Bool)(l:Int)(o:Int)(p:Int)(q:Int)(r:Int)(s:Int)(t:Bool)(u:Int)(v:Int)(w:Int)(x:Int)(z:Int)(A:Int)(B:Bool):Option (Int×Int×Int×Int×Int×Int×Bool×Unit):=
  if k then
  (if(decide (8<=a)) then
  (Zag.j10 n a b c d e i j k l o p q r s t u v w x z A (decide (a<=10)))
  else
  (Zag.j10 n a b c d e i j k l o p q r s t u v w x z A false))
  else
  (Zag.j10 n a b c d e i j k l o p q r s t u v w x z A false)
def j7(n:Nat)(a:Int)(b:Int)(c:Int)(d:Int)(e:Int)(i:Int)(j:Int)(k:Bool)(l:Int)(o:Int)(p:Int)(q:Int)(r:Int)(s:Int)(t:Bool)(u:Int)(v:Int)(w:Int)(x:Int)(z:Int)(A:Int)(B:Bool):Option (Int×Int×Int×Int×Int×Int×Bool×Unit):=
  if(decide (a≠0)) then
  (Zag.j9 n a b c d e i j k l o p q r s t u v w (aC .and .i64 e 15) z A B)
  else
  (Zag.j9 n a b c d e i j k l o p q r s t u v w x z A B)
def j19(n:Nat)(a:Int)(b:Int)(c:Int)(d:Int)(e:Int)(i:Int)(j:Bool)(k:Int)(l:Int)(o:Int)(p:Int)(q:Int)(r:Int)(s:Bool)(t:Int)(u:Int)(v:Int)(w:Int)(x:Int)(z:Int)(A:Bool):Option (Int×Int×Int×Int×Int×Int×Bool×Unit):=
  Zag.j25 n k l o p q r s t u v (aC .and .i64 d 15) x (IntKind.i64.wrap ((aC .and .i64 i 1048575)-524288)) A
def f(n:Nat)(a:Int)(b:Int)(c:Int)(d:Int)(e:Int)(i:Int)(j:Bool):Option (Int×Int×Int×Int×Int×Int×Bool×Unit):=
  if(decide ((IntKind.i64.wrap ((1:Int)+(Int.tmod (IntKind.i64.wrap ((Int.tmod a 7)+7)) 7)))=1)) then
  (if(decide ((IntKind.i64.wrap ((1:Int)+(Int.tmod (IntKind.i64.wrap ((Int.tmod a 7)+7)) 7)))=1)) then
  (Zag.j7 n (Int.tmod (IntKind.i64.wrap ((Int.tmod b 12)+12)) 12) a b c d e i j 0 0 0 0 0 0 false (IntKind.i64.wrap ((1:Int)+(Int.tmod (IntKind.i64.wrap ((Int.tmod a 7)+7)) 7))) (Int.tmod (IntKind.i64.wrap ((Int.tmod b 12)+12)) 12) (aC .and .i64 c 15) 0 0 0 false)
  else
  (if(decide ((IntKind.i64.wrap ((1:Int)+(Int.tmod (IntKind.i64.wrap ((Int.tmod a 7)+7)) 7)))=5)) then
  (Zag.j19 n a b c d e i j 0 0 0 0 0 0 false (IntKind.i64.wrap ((1:Int)+(Int.tmod (IntKind.i64.wrap ((Int.tmod a 7)+7)) 7))) (aC .and .i64 b 3) (aC .and .i64 c 15) 0 0 0 false)
  else
  (if(decide ((IntKind.i64.wrap ((1:Int)+(Int.tmod (IntKind.i64.wrap ((Int.tmod a 7)+7)) 7)))=6)) then
  (Zag.j25 n 0 0 0 0 0 0 false (IntKind.i64.wrap ((1:Int)+(Int.tmod (IntKind.i64.wrap ((Int.tmod a 7)+7)) 7))) (aC .and .i64 b 15) 0 0 (aC .and .i64 e 15) 0 j)
  else
  (if(decide ((IntKind.i64.wrap ((1:Int)+(Int.tmod (IntKind.i64.wrap ((Int.tmod a 7)+7)) 7)))=7)) then
  (Zag.j25 n 0 0 0 0 0 0 false (IntKind.i64.wrap ((1:Int)+(Int.tmod (IntKind.i64.wrap ((Int.tmod a 7)+7)) 7))) (aC .and .i64 b 15) 0 0 0 (IntKind.i64.wrap ((aC .and .i64 i 16777215)-8388608)) j)
  else
  (Zag.j25 n 0 0 0 0 0 0 false (IntKind.i64.wrap ((1:Int)+(Int.tmod (IntKind.i64.wrap ((Int.tmod a 7)+7)) 7))) 0 (aC .and .i64 c 15) 0 0 0 false)))))
  else
  (if(decide ((IntKind.i64.wrap ((1:Int)+(Int.tmod (IntKind.i64.wrap ((Int.tmod a 7)+7)) 7)))=2)) then
  (Zag.j7 n (Int.tmod (IntKind.i64.wrap ((Int.tmod b 12)+12)) 12) a b c d e i j 0 0 0 0 0 0 false (IntKind.i64.wrap ((1:Int)+(Int.tmod (IntKind.i64.wrap ((Int.tmod a 7)+7)) 7))) (Int.tmod (IntKind.i64.wrap ((Int.tmod b 12)+12)) 12) (aC .and .i64 c 15) 0 0 0 false)
  else
  (if(decide ((IntKind.i64.wrap ((1:Int)+(Int.tmod (IntKind.i64.wrap ((Int.tmod a 7)+7)) 7)))=5)) then
  (Zag.j19 n a b c d e i j 0 0 0 0 0 0 false (IntKind.i64.wrap ((1:Int)+(Int.tmod (IntKind.i64.wrap ((Int.tmod a 7)+7)) 7))) (aC .and .i64 b 3) (aC .and .i64 c 15) 0 0 0 false)
  else
  (if(decide ((IntKind.i64.wrap ((1:Int)+(Int.tmod (IntKind.i64.wrap ((Int.tmod a 7)+7)) 7)))=6)) then
  (Zag.j25 n 0 0 0 0 0 0 false (IntKind.i64.wrap ((1:Int)+(Int.tmod (IntKind.i64.wrap ((Int.tmod a 7)+7)) 7))) (aC .and .i64 b 15) 0 0 (aC .and .i64 e 15) 0 j)
  else
  (if(decide ((IntKind.i64.wrap ((1:Int)+(Int.tmod (IntKind.i64.wrap ((Int.tmod a 7)+7)) 7)))=7)) then
  (Zag.j25 n 0 0 0 0 0 0 false (IntKind.i64.wrap ((1:Int)+(Int.tmod (IntKind.i64.wrap ((Int.tmod a 7)+7)) 7))) (aC .and .i64 b 15) 0 0 0 (IntKind.i64.wrap ((aC .and .i64 i 16777215)-8388608)) j)
  else
  (Zag.j25 n 0 0 0 0 0 0 false (IntKind.i64.wrap ((1:Int)+(Int.tmod (IntKind.i64.wrap ((Int.tmod a 7)+7)) 7))) 0 (aC .and .i64 c 15) 0 0 0 false)))))
def g(a:Int)(b:Int)(c:Int)(d:Int)(e:Int)(i:Int)(j:Bool):=f (1000+a.toNat+b.toNat+c.toNat+d.toNat+e.toNat+i.toNat) a b c d e i j
end Zag
end Rv
namespace Rv
open Go
set_option maxRecDepth 100000
namespace Zeb
def f(n:Nat)(a:Str)(b:Int)(c:Int)(d:Int)(e:Int)(i:Int)(j:Bool)(k:List It)(l:Str):Option Sy:=
  (Zad.g a b c d e i j k l).bind fun y1=>
  some (y1.1,y1.2.1,())
def g(a:Str)(b:Int)(c:Int)(d:Int)(e:Int)(i:Int)(j:Bool)(k:List It)(l:Str):=f (1000+a.length+b.toNat+c.toNat+d.toNat+e.toNat+i.toNat+k.length+l.length) a b c d e i j k l
end Zeb
namespace Zcr
def l5(n:Nat):Nat->(List Str)->(List Ln)->Int->Int->Option ((List Str)×Int×Int×Unit)
 |0,_,_,_,_=>none
 |m+1,a,b,c,d=>
  if(decide (d<c)) then
  (if 0<=d/\d<(b.length:Int) then
  ((Zeb.g ((b.getD (d).toNat zL).1) ((((b.getD (d).toNat zL).2).1).1) (((((b.getD (d).toNat zL).2).1).2).1) ((((((b.getD (d).toNat zL).2).1).2).2).1) (((((((b.getD (d).toNat zL).2).1).2).2).2).1) ((((((((b.getD (d).toNat zL).2).1).2).2).2).2).1) (((((((((b.getD (d).toNat zL).2).1).2).2).2).2).2).1) ((((((((((b.getD (d).toNat zL).2).1).2).2).2).2).2).2).1) (((((((((((b.getD (d).toNat zL).2).1).2).2).2).2).2).2).2).1)).bind fun y1=>
  if(decide (y1.2.1≠0)) then(some ([],(IntKind.i64.wrap (d+1)),y1.2.1,()))
  else
  (if(a.length+([y1.1]:List Str).length)*16<=140737488355328/\0<16/\0<1 then
  ((Zcr.l5 n m) (a++([y1.1]:List Str)) b c (IntKind.i64.wrap (d+1))) else none)) else none)
  else(some (a,0,0,()))
def f(n:Nat)(a:List Ln):Option ((List Str)×Int×Int×Unit):=
  if(decide ((4096:Int)<(a.length:Int))) then(some ([],0,2,()))
  else
  (Zcr.l5 n n ([]) a (a.length:Int) 0)
def g(a:List Ln):=f (1000+a.length) a
end Zcr
namespace Zdl
def f(n:Nat)(a:List Ln):Option (Str×Int×Int×Unit):=
  (Zcr.g a).bind fun y1=>
  if(decide (y1.2.2.1≠0)) then(some (([]:Str),y1.2.1,y1.2.2.1,()))
  else
  (if(y1.1.length+([([]:Str)]:List Str).length)*16<=140737488355328/\0<16/\0<1 then
  ((L.sjoinO (y1.1++([([]:Str)]:List Str)) ([10]:Str)).bind fun y2=>
  some (y2.1,0,0,())) else none)
def g(a:List Ln):=f (1000+a.length) a
end Zdl
namespace Zec
def f(n:Nat)(a:Str):Option (Str×Int×Int×Int×Int×Int×Bool×(List It)×Str×Int×Unit):=
  (Zah.g a).bind fun y1=>
  if(decide (y1.2.1≠0)) then
  (some (([]:Str),0,0,0,0,0,false,[],([]:Str),y1.2.1,()))
  else
  ((Zab.g y1.1).bind fun y2=>
  some (y2.1,y2.2.1,y2.2.2.1,y2.2.2.2.1,y2.2.2.2.2.1,y2.2.2.2.2.2.1,y2.2.2.2.2.2.2.1,y2.2.2.2.2.2.2.2.1,y2.2.2.2.2.2.2.2.2.1,y2.2.2.2.2.2.2.2.2.2.1,()))
def g(a:Str):=f (1000+a.length) a
end Zec
namespace Zci
def l5(n:Nat):Nat->(List Ln)->(List Str)->Int->Int->Option ((List Ln)×Int×Int×Unit)
 |0,_,_,_,_=>none
 |m+1,a,b,c,d=>
  if(decide (d<c)) then
  (if 0<=d/\d<(b.length:Int) then
  ((Zec.g (b.getD (d).toNat ([]:Str))).bind fun y1=>
  if(decide (y1.2.2.2.2.2.2.2.2.2.1≠0)) then
  (some ([],(IntKind.i64.wrap (d+1)),y1.2.2.2.2.2.2.2.2.2.1,()))
  else
  (if(a.length+([(y1.1,(y1.2.1,y1.2.2.1,y1.2.2.2.1,y1.2.2.2.2.1,y1.2.2.2.2.2.1,y1.2.2.2.2.2.2.1,y1.2.2.2.2.2.2.2.1,y1.2.2.2.2.2.2.2.2.1,()),())]:List Ln).length)*104<=140737488355328/\0<104/\0<9 then
  ((Zci.l5 n m) (a++([(y1.1,(y1.2.1,y1.2.2.1,y1.2.2.2.1,y1.2.2.2.2.1,y1.2.2.2.2.2.1,y1.2.2.2.2.2.2.1,y1.2.2.2.2.2.2.2.1,y1.2.2.2.2.2.2.2.2.1,()),())]:List Ln)) b c (IntKind.i64.wrap (d+1))) else none)) else none)
  else(some (a,0,0,()))
def f(n:Nat)(a:List Str):Option ((List Ln)×Int×Int×Unit):=
  if(decide ((4096:Int)<(a.length:Int))) then(some ([],0,2,()))
  else
  (Zci.l5 n n ([]) a (a.length:Int) 0)
def g(a:List Str):=f (1000+a.length) a
end Zci
namespace Zbz
def j7(n:Nat)(a:List Str):Option ((List Ln)×Int×Int×Unit):=
  (Zci.g a).bind fun y1=>
  some (y1.1,y1.2.1,y1.2.2.1,())
def f(n:Nat)(a:Str):Option ((List Ln)×Int×Int×Unit):=
  if(decide ((262144:Int)<(a.length:Int))) then(some ([],0,2,()))
  else
  ((L.splitO a ([10]:Str)).bind fun y1=>
  if 0<=(IntKind.i64.wrap ((y1.1.length:Int)-1))/\(IntKind.i64.wrap ((y1.1.length:Int)-1))<(y1.1.length:Int) then
  (if(decide ((y1.1.getD ((IntKind.i64.wrap ((y1.1.length:Int)-(1:Int)))).toNat ([]:Str))=([]:Str))) then
  (if 0<=(IntKind.i64.wrap ((y1.1.length:Int)-1))/\(IntKind.i64.wrap ((y1.1.length:Int)-1))<=(y1.1.length:Int) then
  (Zbz.j7 n ((y1.1.take (((IntKind.i64.wrap ((y1.1.length:Int)-(1:Int)))).toNat)).drop 0)) else none)
  else(Zbz.j7 n y1.1)) else none)
def g(a:Str):=f (1000+a.length) a
end Zbz
end Rv
namespace Rv
open Go
set_option maxRecDepth 100000
namespace Zed
def f(n:Nat)(a:Int)(b:Int)(c:Int)(d:Int)(e:Int)(i:Bool)(j:List It)(k:Str):Option (Int×Unit):=
  if(decide (a=0)) then
  (if(decide (a=0)) then(some (0,()))
  else(some (1,())))
  else
  (if(decide (a=10)) then(some (0,()))
  else(some (1,())))
def g(a:Int)(b:Int)(c:Int)(d:Int)(e:Int)(i:Bool)(j:List It)(k:Str):=f (1000+a.toNat+b.toNat+c.toNat+d.toNat+e.toNat+j.length+k.length) a b c d e i j k
end Zed
namespace Zcs
def j7(n:Nat)(a:List Int)(b:List Sy)(c:List (Int×Int×Unit))(d:Int)(e:Int)(i:Str)(j:Int)(k:Int)(l:Int)(o:Int)(p:Int)(q:Bool)(r:List It)(s:Str):Option (Int×(List Int)×(List Sy)×(List (Int×Int×Unit))×Int×Int×Unit):=
  (Zed.g j k l o p q r s).bind fun y1=>
  some (0,a,b,c,(IntKind.i64.wrap (d+(IntKind.i64.wrap ((4:Int)*y1.1)))),e,())
def f(n:Nat)(a:Str)(b:Int)(c:Int)(d:Int)(e:Int)(i:Int)(j:Bool)(k:List It)(l:Str)(o:List Int)(p:List Sy)(q:List (Int×Int×Unit))(r:Int)(s:Int):Option (Int×(List Int)×(List Sy)×(List (Int×Int×Unit))×Int×Int×Unit):=
  if(o.length+([r]:List Int).length)*8<=140737488355328/\0<8/\0<1 then
  (if(!(decide (a=([]:Str)))) then
  ((Zcf.g p a).bind fun y1=>
  if y1.2.1 then(some (26,(o++([r]:List Int)),p,q,r,s,()))
  else
  (if(p.length+([(a,r,())]:List Sy).length)*24<=140737488355328/\0<24/\0<2 then
  (Zcs.j7 n (o++([r]:List Int)) (p++([(a,r,())]:List Sy)) q r s a b c d e i j k l) else none))
  else
  (Zcs.j7 n (o++([r]:List Int)) p q r s a b c d e i j k l)) else none
def g(a:Str)(b:Int)(c:Int)(d:Int)(e:Int)(i:Int)(j:Bool)(k:List It)(l:Str)(o:List Int)(p:List Sy)(q:List (Int×Int×Unit))(r:Int)(s:Int):=f (1000+a.length+b.toNat+c.toNat+d.toNat+e.toNat+i.toNat+k.length+l.length+o.length+p.length+q.length+r.toNat+s.toNat) a b c d e i j k l o p q r s
end Zcs
namespace Zda
def l2(n:Nat):Nat->(List Ln)->Int->Int->(List Int)->(List Sy)->(List (Int×Int×Unit))->Int->Int->Option (Int×Int×(List Int)×(List Sy)×(List (Int×Int×Unit))×Int×Int×Unit)
 |0,_,_,_,_,_,_,_,_=>none
 |m+1,a,b,c,d,e,i,j,k=>
  if(decide (c<b)) then
  (if 0<=c/\c<(a.length:Int) then
  ((Zcs.g ((a.getD (c).toNat zL).1) ((((a.getD (c).toNat zL).2).1).1) (((((a.getD (c).toNat zL).2).1).2).1) ((((((a.getD (c).toNat zL).2).1).2).2).1) (((((((a.getD (c).toNat zL).2).1).2).2).2).1) ((((((((a.getD (c).toNat zL).2).1).2).2).2).2).1) (((((((((a.getD (c).toNat zL).2).1).2).2).2).2).2).1) ((((((((((a.getD (c).toNat zL).2).1).2).2).2).2).2).2).1) (((((((((((a.getD (c).toNat zL).2).1).2).2).2).2).2).2).2).1) d e i j k).bind fun y1=>
  if(decide (y1.1≠0)) then
  (some ((IntKind.i64.wrap (c+1)),y1.1,y1.2.1,y1.2.2.1,y1.2.2.2.1,y1.2.2.2.2.1,y1.2.2.2.2.2.1,()))
  else
  ((Zda.l2 n m) a b (IntKind.i64.wrap (c+1)) y1.2.1 y1.2.2.1 y1.2.2.2.1 y1.2.2.2.2.1 y1.2.2.2.2.2.1)) else none)
  else(some (0,0,d,e,i,j,k,()))
def f(n:Nat)(a:List Ln)(b:List Int)(c:List Sy)(d:List (Int×Int×Unit))(e:Int)(i:Int):Option (Int×Int×(List Int)×(List Sy)×(List (Int×Int×Unit))×Int×Int×Unit):=
  Zda.l2 n n a (a.length:Int) 0 b c d e i
def g(a:List Ln)(b:List Int)(c:List Sy)(d:List (Int×Int×Unit))(e:Int)(i:Int):=f (1000+a.length+b.length+c.length+d.length+e.toNat+i.toNat) a b c d e i
end Zda
namespace Zep
def f(n:Nat)(a:List (Int×Int×Unit)):Option ((List (Int×Int×Unit))×Unit):=
  if some 2=some 2/\(a.length:Int)=(a.length:Int)/\(a.length:Int)=(a.length:Int) then(some (a,())) else none
def g(a:List (Int×Int×Unit)):=f (1000+a.length) a
end Zep
namespace Zbs
def l2(n:Nat):Nat->(List (Int×Int×Unit))->(List (Int×Int×Unit))->Int->Int->Int->Int->Option ((List (Int×Int×Unit))×Int×Unit)
 |0,_,_,_,_,_,_=>none
 |m+1,a,b,c,d,e,i=>
  if(decide (d<c)) then
  (if 0<=d/\d<(b.length:Int) then
  (if(decide ((b.getD (d).toNat (0,(0,()))).1=e)&&(decide (((b.getD (d).toNat (0,(0,()))).2).1=i)&&true)) then(some (a,d,()))
  else
  ((Zbs.l2 n m) a b c (IntKind.i64.wrap (d+1)) e i)) else none)
  else
  ((Zep.g a).bind fun y1=>
  if true=true/\0<([(e,i,())]:List (Int×Int×Unit)).length then
  (if(y1.1.length+([(e,i,())]:List (Int×Int×Unit)).length)*16<=140737488355328/\0<16/\0<2 then
  (some ((y1.1++([(e,i,())]:List (Int×Int×Unit))),(a.length:Int),())) else none) else none)
def f(n:Nat)(a:List (Int×Int×Unit))(b:Int)(c:Int):Option ((List (Int×Int×Unit))×Int×Unit):=
  Zbs.l2 n n a a (a.length:Int) 0 b c
def g(a:List (Int×Int×Unit))(b:Int)(c:Int):=f (1000+a.length+b.toNat+c.toNat) a b c
end Zbs
namespace Zee
def f(n:Nat)(a:Str)(b:Int)(c:Int)(d:Int)(e:Int)(i:Int)(j:Bool)(k:List It)(l:Str)(o:List Int)(p:List Sy)(q:List (Int×Int×Unit))(r:Int)(s:Int):Option (Int×(List Int)×(List Sy)×(List (Int×Int×Unit))×Int×Int×Unit):=
  if(decide (b≠8)) then(some (0,o,p,q,r,s,()))
  else
  ((Zai.g k p).bind fun y1=>
  if(decide (y1.2.2.1≠0)) then(some (y1.2.2.1,o,p,q,r,s,()))
  else
  (if(decide (y1.2.1<0))=false then
  (if(decide (1<y1.2.1)) then(some (27,o,p,q,r,s,()))
  else
  ((Zbs.g q y1.1 y1.2.1).bind fun y2=>
  some (0,o,p,y2.1,r,s,())))
  else(some (27,o,p,q,r,s,()))))
def g(a:Str)(b:Int)(c:Int)(d:Int)(e:Int)(i:Int)(j:Bool)(k:List It)(l:Str)(o:List Int)(p:List Sy)(q:List (Int×Int×Unit))(r:Int)(s:Int):=f (1000+a.length+b.toNat+c.toNat+d.toNat+e.toNat+i.toNat+k.length+l.length+o.length+p.length+q.length+r.toNat+s.toNat) a b c d e i j k l o p q r s
end Zee
namespace Zdb
def l2(n:Nat):Nat->(List Ln)->Int->Int->(List Int)->(List Sy)->(List (Int×Int×Unit))->Int->Int->Option (Int×Int×(List Int)×(List Sy)×(List (Int×Int×Unit))×Int×Int×Unit)
 |0,_,_,_,_,_,_,_,_=>none
 |m+1,a,b,c,d,e,i,j,k=>
  if(decide (c<b)) then
  (if 0<=c/\c<(a.length:Int) then
  ((Zee.g ((a.getD (c).toNat zL).1) ((((a.getD (c).toNat zL).2).1).1) (((((a.getD (c).toNat zL).2).1).2).1) ((((((a.getD (c).toNat zL).2).1).2).2).1) (((((((a.getD (c).toNat zL).2).1).2).2).2).1) ((((((((a.getD (c).toNat zL).2).1).2).2).2).2).1) (((((((((a.getD (c).toNat zL).2).1).2).2).2).2).2).1) ((((((((((a.getD (c).toNat zL).2).1).2).2).2).2).2).2).1) (((((((((((a.getD (c).toNat zL).2).1).2).2).2).2).2).2).2).1) d e i j k).bind fun y1=>
  if(decide (y1.1≠0)) then
  (some ((IntKind.i64.wrap (c+1)),y1.1,y1.2.1,y1.2.2.1,y1.2.2.2.1,y1.2.2.2.2.1,y1.2.2.2.2.2.1,()))
  else
  ((Zdb.l2 n m) a b (IntKind.i64.wrap (c+1)) y1.2.1 y1.2.2.1 y1.2.2.2.1 y1.2.2.2.2.1 y1.2.2.2.2.2.1)) else none)
  else(some (0,0,d,e,i,j,k,()))
def f(n:Nat)(a:List Ln)(b:List Int)(c:List Sy)(d:List (Int×Int×Unit))(e:Int)(i:Int):Option (Int×Int×(List Int)×(List Sy)×(List (Int×Int×Unit))×Int×Int×Unit):=
  Zdb.l2 n n a (a.length:Int) 0 b c d e i
def g(a:List Ln)(b:List Int)(c:List Sy)(d:List (Int×Int×Unit))(e:Int)(i:Int):=f (1000+a.length+b.length+c.length+d.length+e.toNat+i.toNat) a b c d e i
end Zdb
namespace Zbf
def j7(n:Nat)(rl4:(List Ln)->Int->Int->(List Int)->(List Sy)->(List (Int×Int×Unit))->Int->Int->Option ((List Int)×(List Sy)×(List (Int×Int×Unit))×Int×Int×Int×Int×Unit))(a:List Ln)(b:Int)(c:Int)(d:Int)(e:Int)(i:List Int)(j:List Sy)(k:List (Int×Int×Unit))(l:Int)(o:Int):Option ((List Int)×(List Sy)×(List (Int×Int×Unit))×Int×Int×Int×Int×Unit):=
  if(decide (c≠0)) then(some ([],[],[],0,0,b,c,()))
  else(rl4 a d (IntKind.i64.wrap (e+1)) i j k l o)
def l4(n:Nat):Nat->(List Ln)->Int->Int->(List Int)->(List Sy)->(List (Int×Int×Unit))->Int->Int->Option ((List Int)×(List Sy)×(List (Int×Int×Unit))×Int×Int×Int×Int×Unit)
 |0,_,_,_,_,_,_,_,_=>none
 |m+1,a,b,c,d,e,i,j,k=>
  if(decide (c<b)) then
  (if c=0 then
  ((Zda.g a d e i j k).bind fun y1=>
  Zbf.j7 n (Zbf.l4 n m) a y1.1 y1.2.1 b c y1.2.2.1 y1.2.2.2.1 y1.2.2.2.2.1 y1.2.2.2.2.2.1 y1.2.2.2.2.2.2.1)
  else
  (if c=1 then
  ((Zdb.g a d e i j k).bind fun y2=>
  Zbf.j7 n (Zbf.l4 n m) a y2.1 y2.2.1 b c y2.2.2.1 y2.2.2.2.1 y2.2.2.2.2.1 y2.2.2.2.2.2.1 y2.2.2.2.2.2.2.1)
  else none))
  else
  (if(decide (1024<(IntKind.i64.wrap ((IntKind.i64.wrap (Int.tdiv j 4))+(i.length:Int))))) then(some ([],[],[],0,0,0,2,()))
  else
  (some (d,e,i,j,(IntKind.i64.wrap ((IntKind.i64.wrap (Int.tdiv j 4))+(i.length:Int))),0,0,())))
def f(n:Nat)(a:List Ln):Option ((List Int)×(List Sy)×(List (Int×Int×Unit))×Int×Int×Int×Int×Unit):=
  Zbf.l4 n n a 2 0 ([]) ([]) ([]) 0 0
def g(a:List Ln):=f (1000+a.length) a
end Zbf
end Rv
namespace Rv
open Go
set_option maxRecDepth 100000
namespace Zeq
def f(n:Nat)(a:Str)(b:Int)(c:Str):Option (Int×Unit):=
  some ((L.cmpR a c),())
def g(a:Str)(b:Int)(c:Str):=f (1000+a.length+b.toNat+c.length) a b c
end Zeq
namespace Zca
def l3(n:Nat):Nat->(List Sy)->Str->Int->Int->Int->Option (Int×Bool×Unit)
 |0,_,_,_,_,_=>none
 |m+1,a,b,c,d,e=>
  if(decide (d<e)) then
  (if 0<=(IntKind.i64.wrap (((IntKind.u64.wrap (IntKind.i64.wrap (d+e)))).fdiv (2 ^ (min (1:Int).toNat IntKind.u64.bits))))/\(IntKind.i64.wrap (((IntKind.u64.wrap (IntKind.i64.wrap (d+e)))).fdiv (2 ^ (min (1:Int).toNat IntKind.u64.bits))))<(a.length:Int) then
  ((Zeq.g ((a.getD ((IntKind.i64.wrap (((IntKind.u64.wrap (IntKind.i64.wrap (d+e)))).fdiv (2 ^ (min (1:Int).toNat IntKind.u64.bits))))).toNat zS).1) (((a.getD ((IntKind.i64.wrap (((IntKind.u64.wrap (IntKind.i64.wrap (d+e)))).fdiv (2 ^ (min (1:Int).toNat IntKind.u64.bits))))).toNat zS).2).1) b).bind fun y1=>
  if(decide (y1.1<0)) then
  ((Zca.l3 n m) a b c (IntKind.i64.wrap ((IntKind.i64.wrap (((IntKind.u64.wrap (IntKind.i64.wrap (d+e)))).fdiv (2 ^ (min (1:Int).toNat IntKind.u64.bits))))+1)) e)
  else
  ((Zca.l3 n m) a b c d (IntKind.i64.wrap (((IntKind.u64.wrap (IntKind.i64.wrap (d+e)))).fdiv (2 ^ (min (1:Int).toNat IntKind.u64.bits)))))) else none)
  else
  (if(decide (d<c)) then
  (if 0<=d/\d<(a.length:Int) then
  ((Zeq.g ((a.getD (d).toNat zS).1) (((a.getD (d).toNat zS).2).1) b).bind fun y2=>
  some (d,(decide (y2.1=0)),())) else none)
  else(some (d,false,())))
def f(n:Nat)(a:List Sy)(b:Str):Option (Int×Bool×Unit):=
  Zca.l3 n n a b (a.length:Int) 0 (a.length:Int)
def g(a:List Sy)(b:Str):=f (1000+a.length+b.length) a b
end Zca
namespace Zef
def f(n:Nat)(a:Str)(b:List Int)(c:List Sy)(d:List (Int×Int×Unit))(e:Int)(i:Int)(j:List Int)(k:List Int)(l:List Sy):Option (Int×(List Int)×(List Sy)×(List (Int×Int×Unit))×Int×Int×(List Int)×(List Int)×(List Sy)×Unit):=
  (Zcf.g c a).bind fun y1=>
  (Zca.g l a).bind fun y2=>
  (Zao.g a).bind fun y3=>
  if(!y3.1) then(some (9,b,c,d,e,i,j,k,l,()))
  else
  (if(!y1.2.1) then(some (25,b,c,d,e,i,j,k,l,()))
  else
  (if y2.2.1 then(some (26,b,c,d,e,i,j,k,l,()))
  else
  ((L.insertO l y2.1 ([(a,y1.1,())]:List Sy)).bind fun y4=>
  some (0,b,c,d,e,i,j,k,y4.1,()))))
def g(a:Str)(b:List Int)(c:List Sy)(d:List (Int×Int×Unit))(e:Int)(i:Int)(j:List Int)(k:List Int)(l:List Sy):=f (1000+a.length+b.length+c.length+d.length+e.toNat+i.toNat+j.length+k.length+l.length) a b c d e i j k l
end Zef
namespace Zbp
def j3(n:Nat)(a:List Int)(b:List Sy)(c:List (Int×Int×Unit))(d:Int)(e:Int)(i:List Int)(j:List Int)(k:List Sy)(l:Int)(o:Int):Option ((List Int)×(List Sy)×(List (Int×Int×Unit))×Int×Int×(List Int)×(List Int)×(List Sy)×Unit):=
  if(i.length+([l]:List Int).length)*4<=140737488355328/\0<4/\0<1 then(some (a,b,c,d,e,(i++([l]:List Int)),j,k,())) else none
def f(n:Nat)(a:Int)(b:Int)(c:List Int)(d:List Sy)(e:List (Int×Int×Unit))(i:Int)(j:Int)(k:List Int)(l:List Int)(o:List Sy):Option ((List Int)×(List Sy)×(List (Int×Int×Unit))×Int×Int×(List Int)×(List Int)×(List Sy)×Unit):=
  if(decide (b=1)) then
  (if(l.length+([(k.length:Int)]:List Int).length)*8<=140737488355328/\0<8/\0<1 then
  (Zbp.j3 n c d e i j k (l++([(k.length:Int)]:List Int)) o a b) else none)
  else(Zbp.j3 n c d e i j k l o a b)
def g(a:Int)(b:Int)(c:List Int)(d:List Sy)(e:List (Int×Int×Unit))(i:Int)(j:Int)(k:List Int)(l:List Int)(o:List Sy):=f (1000+a.toNat+b.toNat+c.length+d.length+e.length+i.toNat+j.toNat+k.length+l.length+o.length) a b c d e i j k l o
end Zbp
namespace Zeg
def f(n:Nat)(a:Int)(b:Int)(c:Int)(d:Int)(e:Int)(i:Int)(j:Bool)(k:List Int)(l:List Sy)(o:List (Int×Int×Unit))(p:Int)(q:Int)(r:List Int)(s:List Int)(t:List Sy):Option (Int×(List Int)×(List Sy)×(List (Int×Int×Unit))×Int×Int×(List Int)×(List Int)×(List Sy)×Unit):=
  (Zby.g a b c d e i j).bind fun y1=>
  if(decide (y1.2.1=0)) then
  ((Zbp.g y1.1 0 k l o p q r s t).bind fun y2=>
  some (y1.2.1,y2.1,y2.2.1,y2.2.2.1,y2.2.2.2.1,y2.2.2.2.2.1,y2.2.2.2.2.2.1,y2.2.2.2.2.2.2.1,y2.2.2.2.2.2.2.2.1,()))
  else(some (y1.2.1,k,l,o,p,q,r,s,t,()))
def g(a:Int)(b:Int)(c:Int)(d:Int)(e:Int)(i:Int)(j:Bool)(k:List Int)(l:List Sy)(o:List (Int×Int×Unit))(p:Int)(q:Int)(r:List Int)(s:List Int)(t:List Sy):=f (1000+a.toNat+b.toNat+c.toNat+d.toNat+e.toNat+i.toNat+k.length+l.length+o.length+p.toNat+q.toNat+r.length+s.length+t.length) a b c d e i j k l o p q r s t
end Zeg
namespace Zdc
def f(n:Nat)(a:Int)(b:Int)(c:Int)(d:Int)(e:Int)(i:Bool)(j:List It)(k:Str)(l:Int)(o:List Int)(p:List Sy)(q:List (Int×Int×Unit))(r:Int)(s:Int)(t:List Int)(u:List Int)(v:List Sy):Option (Int×Int×Int×Int×Int×Int×Int×Bool×(List It)×Str×Unit×Int×(List Int)×(List Sy)×(List (Int×Int×Unit))×Int×Int×(List Int)×(List Int)×(List Sy)×Unit):=
  (Zai.g j p).bind fun y1=>
  some (y1.1,y1.2.1,a,b,c,d,e,i,j,k,(),y1.2.2.1,o,p,q,r,s,t,u,v,())
def g(a:Int)(b:Int)(c:Int)(d:Int)(e:Int)(i:Bool)(j:List It)(k:Str)(l:Int)(o:List Int)(p:List Sy)(q:List (Int×Int×Unit))(r:Int)(s:Int)(t:List Int)(u:List Int)(v:List Sy):=f (1000+a.toNat+b.toNat+c.toNat+d.toNat+e.toNat+j.length+k.length+l.toNat+o.length+p.length+q.length+r.toNat+s.toNat+t.length+u.length+v.length) a b c d e i j k l o p q r s t u v
end Zdc
namespace Zeh
def f(n:Nat)(a:Int)(b:Int)(c:Int):Option (Int×Int×Unit):=
  if(decide (b≠1)) then(some (0,27,()))
  else
  (if(decide ((Int.tmod (IntKind.i64.wrap (IntKind.i32.wrap (IntKind.u32.wrap ((IntKind.u32.wrap (a-(IntKind.u32.wrap c)))-4)))) 4)≠0))=false then
  (if(decide ((IntKind.i64.wrap (Int.tdiv (IntKind.i64.wrap (IntKind.i32.wrap (IntKind.u32.wrap ((IntKind.u32.wrap (a-(IntKind.u32.wrap c)))-4)))) 4))<(-8388608)))=false then
  (if(decide (8388608<=(IntKind.i64.wrap (Int.tdiv (IntKind.i64.wrap (IntKind.i32.wrap (IntKind.u32.wrap ((IntKind.u32.wrap (a-(IntKind.u32.wrap c)))-4)))) 4)))) then(some (0,28,()))
  else
  (some ((IntKind.i64.wrap (Int.tdiv (IntKind.i64.wrap (IntKind.i32.wrap (IntKind.u32.wrap ((IntKind.u32.wrap (a-(IntKind.u32.wrap c)))-4)))) 4)),0,())))
  else(some (0,28,())))
  else(some (0,28,())))
def g(a:Int)(b:Int)(c:Int):=f (1000+a.toNat+b.toNat+c.toNat) a b c
end Zeh
namespace Zdm
def f(n:Nat)(a:Int)(b:Int)(c:List Int)(d:List Sy)(e:List (Int×Int×Unit))(i:Int)(j:Int)(k:List Int)(l:List Int)(o:List Sy):Option (Int×(List Int)×(List Sy)×(List (Int×Int×Unit))×Int×Int×(List Int)×(List Int)×(List Sy)×Unit):=
  if(decide (b<0))=false then
  (if(decide (1<b)) then(some (27,c,d,e,i,j,k,l,o,()))
  else
  (if(decide (b=1)) then
  (if(decide ((IntKind.i64.wrap ((4:Int)*j))<(IntKind.i64.wrap a))) then(some (28,c,d,e,i,j,k,l,o,()))
  else(some (0,c,d,e,i,j,k,l,o,())))
  else(some (0,c,d,e,i,j,k,l,o,()))))
  else(some (27,c,d,e,i,j,k,l,o,()))
def g(a:Int)(b:Int)(c:List Int)(d:List Sy)(e:List (Int×Int×Unit))(i:Int)(j:Int)(k:List Int)(l:List Int)(o:List Sy):=f (1000+a.toNat+b.toNat+c.length+d.length+e.length+i.toNat+j.toNat+k.length+l.length+o.length) a b c d e i j k l o
end Zdm
namespace Zan
def j32(n:Nat)(a:List Int)(b:List Sy)(c:List (Int×Int×Unit))(d:Int)(e:Int)(i:List Int)(j:List Int)(k:List Sy)(l:Int)(o:Int)(p:Int)(q:Int)(r:Int)(s:Int)(t:Int)(u:Bool):Option (Int×(List Int)×(List Sy)×(List (Int×Int×Unit))×Int×Int×(List Int)×(List Int)×(List Sy)×Unit):=
  if(decide (l≠0)) then(some (l,a,b,c,d,e,i,j,k,()))
  else
  ((Zeg.g o p q r s t u a b c d e i j k).bind fun y1=>
  some (y1.1,y1.2.1,y1.2.2.1,y1.2.2.2.1,y1.2.2.2.2.1,y1.2.2.2.2.2.1,y1.2.2.2.2.2.2.1,y1.2.2.2.2.2.2.2.1,y1.2.2.2.2.2.2.2.2.1,()))
def j12(n:Nat)(a:Int)(b:List Int)(c:List Sy)(d:List (Int×Int×Unit))(e:Int)(i:Int)(j:List Int)(k:List Int)(l:List Sy)(o:Int)(p:Int)(q:Int)(r:Int)(s:Int)(t:Bool)(u:List It)(v:Str)(w:Int)(x:Int)(z:Int)(A:Int)(B:Int)(C:Int)(D:Int)(E:Bool):Option (Int×(List Int)×(List Sy)×(List (Int×Int×Unit))×Int×Int×(List Int)×(List Int)×(List Sy)×Unit):=
  (Zar.g u c a (65535:Int)).bind fun y1=>
  Zan.j32 n b c d e i j k l y1.2.1 x z A B C y1.1 E
def j31(n:Nat)(a:List Int)(b:List Sy)(c:List (Int×Int×Unit))(d:Int)(e:Int)(i:List Int)(j:List Int)(k:List Sy)(l:Int):Option (Int×(List Int)×(List Sy)×(List (Int×Int×Unit))×Int×Int×(List Int)×(List Int)×(List Sy)×Unit):=
  some (l,a,b,c,d,e,i,j,k,())
def j29(n:Nat)(a:List Int)(b:List Sy)(c:List (Int×Int×Unit))(d:Int)(e:Int)(i:List Int)(j:List Int)(k:List Sy)(l:Int)(o:Int)(p:Int):Option (Int×(List Int)×(List Sy)×(List (Int×Int×Unit))×Int×Int×(List Int)×(List Int)×(List Sy)×Unit):=
  if(decide (l=0)) then
  ((Zbp.g o p a b c d e i j k).bind fun y1=>
  Zan.j31 n y1.1 y1.2.1 y1.2.2.1 y1.2.2.2.1 y1.2.2.2.2.1 y1.2.2.2.2.2.1 y1.2.2.2.2.2.2.1 y1.2.2.2.2.2.2.2.1 l)
  else(Zan.j31 n a b c d e i j k l)
def f(n:Nat)(a:Int)(b:Int)(c:Int)(d:Int)(e:Int)(i:Bool)(j:List It)(k:Str)(l:Int)(o:List Int)(p:List Sy)(q:List (Int×Int×Unit))(r:Int)(s:Int)(t:List Int)(u:List Int)(v:List Sy):Option (Int×(List Int)×(List Sy)×(List (Int×Int×Unit))×Int×Int×(List Int)×(List Int)×(List Sy)×Unit):=
  if(decide (a=0)) then(some (0,o,p,q,r,s,t,u,v,()))
  else
  (if(decide (a=10)) then
  ((Zef.g k o p q r s t u v).bind fun y1=>
  some (y1.1,y1.2.1,y1.2.2.1,y1.2.2.2.1,y1.2.2.2.2.1,y1.2.2.2.2.2.1,y1.2.2.2.2.2.2.1,y1.2.2.2.2.2.2.2.1,y1.2.2.2.2.2.2.2.2.1,()))
  else
  (if(decide (a=2)) then
  (if(decide (b=0)) then
  (if i then
  (Zan.j12 n 0 o p q r s t u v a b c d e i j k 0 a b c d e 0 i)
  else
  (Zan.j12 n (-65536) o p q r s t u v a b c d e i j k 0 a b c d e 0 i))
  else
  (Zan.j12 n (-65536) o p q r s t u v a b c d e i j k 0 a b c d e 0 i))
  else
  (if(decide (a=5)) then
  ((Zar.g j p (-524288) (524287:Int)).bind fun y2=>
  Zan.j32 n o p q r s t u v y2.2.1 a b c d e y2.1 i)
  else
  (if(decide (a=7)) then
  ((Zdc.g a b c d e i j k 0 o p q r s t u v).bind fun y3=>
  if(decide (y3.2.2.2.2.2.2.2.2.2.2.2.1=0)) then
  ((Zeh.g y3.1 y3.2.1 l).bind fun y4=>
  Zan.j32 n y3.2.2.2.2.2.2.2.2.2.2.2.2.1 y3.2.2.2.2.2.2.2.2.2.2.2.2.2.1 y3.2.2.2.2.2.2.2.2.2.2.2.2.2.2.1 y3.2.2.2.2.2.2.2.2.2.2.2.2.2.2.2.1 y3.2.2.2.2.2.2.2.2.2.2.2.2.2.2.2.2.1 y3.2.2.2.2.2.2.2.2.2.2.2.2.2.2.2.2.2.1 y3.2.2.2.2.2.2.2.2.2.2.2.2.2.2.2.2.2.2.1 y3.2.2.2.2.2.2.2.2.2.2.2.2.2.2.2.2.2.2.2.1 y4.2.1 a b c d e y4.1 i)
  else
  (Zan.j32 n y3.2.2.2.2.2.2.2.2.2.2.2.2.1 y3.2.2.2.2.2.2.2.2.2.2.2.2.2.1 y3.2.2.2.2.2.2.2.2.2.2.2.2.2.2.1 y3.2.2.2.2.2.2.2.2.2.2.2.2.2.2.2.1 y3.2.2.2.2.2.2.2.2.2.2.2.2.2.2.2.2.1 y3.2.2.2.2.2.2.2.2.2.2.2.2.2.2.2.2.2.1 y3.2.2.2.2.2.2.2.2.2.2.2.2.2.2.2.2.2.2.1 y3.2.2.2.2.2.2.2.2.2.2.2.2.2.2.2.2.2.2.2.1 y3.2.2.2.2.2.2.2.2.2.2.2.1 a b c d e 0 i))
  else
  (if(decide (a=8)) then
  ((Zdc.g a b c d e i j k 0 o p q r s t u v).bind fun y5=>
  if(decide (y5.2.2.2.2.2.2.2.2.2.2.2.1=0)) then
  ((Zbs.g y5.2.2.2.2.2.2.2.2.2.2.2.2.2.2.1 y5.1 y5.2.1).bind fun y6=>
  (Zdm.g y5.1 y5.2.1 y5.2.2.2.2.2.2.2.2.2.2.2.2.1 y5.2.2.2.2.2.2.2.2.2.2.2.2.2.1 y5.2.2.2.2.2.2.2.2.2.2.2.2.2.2.1 y5.2.2.2.2.2.2.2.2.2.2.2.2.2.2.2.1 y5.2.2.2.2.2.2.2.2.2.2.2.2.2.2.2.2.1 y5.2.2.2.2.2.2.2.2.2.2.2.2.2.2.2.2.2.1 y5.2.2.2.2.2.2.2.2.2.2.2.2.2.2.2.2.2.2.1 y5.2.2.2.2.2.2.2.2.2.2.2.2.2.2.2.2.2.2.2.1).bind fun y7=>
  Zan.j32 n y7.2.1 y7.2.2.1 y7.2.2.2.1 y7.2.2.2.2.1 y7.2.2.2.2.2.1 y7.2.2.2.2.2.2.1 y7.2.2.2.2.2.2.2.1 y7.2.2.2.2.2.2.2.2.1 y7.1 5 0 y5.2.2.2.2.1 13 0 (IntKind.i64.wrap (y5.2.2.2.2.2.2.2.2.2.2.2.2.2.2.2.1+(IntKind.i64.wrap ((4:Int)*y6.2.1)))) false)
  else
  (Zan.j32 n y5.2.2.2.2.2.2.2.2.2.2.2.2.1 y5.2.2.2.2.2.2.2.2.2.2.2.2.2.1 y5.2.2.2.2.2.2.2.2.2.2.2.2.2.2.1 y5.2.2.2.2.2.2.2.2.2.2.2.2.2.2.2.1 y5.2.2.2.2.2.2.2.2.2.2.2.2.2.2.2.2.1 y5.2.2.2.2.2.2.2.2.2.2.2.2.2.2.2.2.2.1 y5.2.2.2.2.2.2.2.2.2.2.2.2.2.2.2.2.2.2.1 y5.2.2.2.2.2.2.2.2.2.2.2.2.2.2.2.2.2.2.2.1 y5.2.2.2.2.2.2.2.2.2.2.2.1 a b c d e 0 i))
  else
  (if(decide (a=9)) then
  ((Zdc.g a b c d e i j k 0 o p q r s t u v).bind fun y8=>
  if(decide (y8.2.2.2.2.2.2.2.2.2.2.2.1=0)) then
  ((Zdm.g y8.1 y8.2.1 y8.2.2.2.2.2.2.2.2.2.2.2.2.1 y8.2.2.2.2.2.2.2.2.2.2.2.2.2.1 y8.2.2.2.2.2.2.2.2.2.2.2.2.2.2.1 y8.2.2.2.2.2.2.2.2.2.2.2.2.2.2.2.1 y8.2.2.2.2.2.2.2.2.2.2.2.2.2.2.2.2.1 y8.2.2.2.2.2.2.2.2.2.2.2.2.2.2.2.2.2.1 y8.2.2.2.2.2.2.2.2.2.2.2.2.2.2.2.2.2.2.1 y8.2.2.2.2.2.2.2.2.2.2.2.2.2.2.2.2.2.2.2.1).bind fun y9=>
  Zan.j29 n y9.2.1 y9.2.2.1 y9.2.2.2.1 y9.2.2.2.2.1 y9.2.2.2.2.2.1 y9.2.2.2.2.2.2.1 y9.2.2.2.2.2.2.2.1 y9.2.2.2.2.2.2.2.2.1 y9.1 y8.1 y8.2.1)
  else
  (Zan.j29 n y8.2.2.2.2.2.2.2.2.2.2.2.2.1 y8.2.2.2.2.2.2.2.2.2.2.2.2.2.1 y8.2.2.2.2.2.2.2.2.2.2.2.2.2.2.1 y8.2.2.2.2.2.2.2.2.2.2.2.2.2.2.2.1 y8.2.2.2.2.2.2.2.2.2.2.2.2.2.2.2.2.1 y8.2.2.2.2.2.2.2.2.2.2.2.2.2.2.2.2.2.1 y8.2.2.2.2.2.2.2.2.2.2.2.2.2.2.2.2.2.2.1 y8.2.2.2.2.2.2.2.2.2.2.2.2.2.2.2.2.2.2.2.1 y8.2.2.2.2.2.2.2.2.2.2.2.1 y8.1 y8.2.1))
  else(Zan.j32 n o p q r s t u v 0 a b c d e 0 i)))))))
def g(a:Int)(b:Int)(c:Int)(d:Int)(e:Int)(i:Bool)(j:List It)(k:Str)(l:Int)(o:List Int)(p:List Sy)(q:List (Int×Int×Unit))(r:Int)(s:Int)(t:List Int)(u:List Int)(v:List Sy):=f (1000+a.toNat+b.toNat+c.toNat+d.toNat+e.toNat+j.length+k.length+l.toNat+o.length+p.length+q.length+r.toNat+s.toNat+t.length+u.length+v.length) a b c d e i j k l o p q r s t u v
end Zan
namespace Zbl
def l14(n:Nat):Nat->(List (Int×Int×Unit))->Int->Int->(List Int)->(List Int)->(List Sy)->(List Int)->(List Sy)->(List (Int×Int×Unit))->Int->Int->(List Int)->(List Int)->(List Sy)->Option ((List Int)×(List Int)×(List Sy)×Int×Int×Unit)
 |0,_,_,_,_,_,_,_,_,_,_,_,_,_,_=>none
 |m+1,a,b,c,d,e,i,j,k,l,o,p,q,r,s=>
  if(decide (c<b)) then
  (if 0<=c/\c<(a.length:Int) then
  ((Zbp.g ((a.getD (c).toNat (0,(0,()))).1) (((a.getD (c).toNat (0,(0,()))).2).1) j k l o p q r s).bind fun y1=>
  (Zbl.l14 n m) a b (IntKind.i64.wrap (c+1)) d e i y1.1 y1.2.1 y1.2.2.1 y1.2.2.2.1 y1.2.2.2.2.1 y1.2.2.2.2.2.1 y1.2.2.2.2.2.2.1 y1.2.2.2.2.2.2.2.1) else none)
  else
  (if(decide ((64:Int)<(s.length:Int))) then(some ([],[],[],0,2,()))
  else(some (q,r,s,0,0,())))
def l7(n:Nat):Nat->(List Ln)->Int->Int->(List Int)->(List Int)->(List Sy)->(List Int)->(List Sy)->(List (Int×Int×Unit))->Int->Int->(List Int)->(List Sy)->(List (Int×Int×Unit))->Int->Int->(List Int)->(List Int)->(List Sy)->Option ((List Int)×(List Int)×(List Sy)×Int×Int×Unit)
 |0,_,_,_,_,_,_,_,_,_,_,_,_,_,_,_,_,_,_,_=>none
 |m+1,a,b,c,d,e,i,j,k,l,o,p,q,r,s,t,u,v,w,x=>
  if(decide (c<b)) then
  (if 0<=c/\c<(a.length:Int) then
  (if 0<=c/\c<(j.length:Int) then
  ((Zan.g ((((a.getD (c).toNat zL).2).1).1) (((((a.getD (c).toNat zL).2).1).2).1) ((((((a.getD (c).toNat zL).2).1).2).2).1) (((((((a.getD (c).toNat zL).2).1).2).2).2).1) ((((((((a.getD (c).toNat zL).2).1).2).2).2).2).1) (((((((((a.getD (c).toNat zL).2).1).2).2).2).2).2).1) ((((((((((a.getD (c).toNat zL).2).1).2).2).2).2).2).2).1) (((((((((((a.getD (c).toNat zL).2).1).2).2).2).2).2).2).2).1) (j.getD (c).toNat 0) q r s t u v w x).bind fun y1=>
  if(decide (y1.1≠0)) then
  (some ([],[],[],(IntKind.i64.wrap (c+1)),y1.1,()))
  else
  ((Zbl.l7 n m) a b (IntKind.i64.wrap (c+1)) d e i j k l o p y1.2.1 y1.2.2.1 y1.2.2.2.1 y1.2.2.2.2.1 y1.2.2.2.2.2.1 y1.2.2.2.2.2.2.1 y1.2.2.2.2.2.2.2.1 y1.2.2.2.2.2.2.2.2.1)) else none) else none)
  else
  (Zbl.l14 n n l (l.length:Int) 0 d e i q r s t u v w x)
def f(n:Nat)(a:List Ln):Option ((List Int)×(List Int)×(List Sy)×Int×Int×Unit):=
  (Zbf.g a).bind fun y1=>
  if(decide (y1.2.2.2.2.2.2.1≠0)) then(some ([],[],[],y1.2.2.2.2.2.1,y1.2.2.2.2.2.2.1,()))
  else
  (Zbl.l7 n n a (a.length:Int) 0 ([]) ([]) ([]) y1.1 y1.2.1 y1.2.2.1 y1.2.2.2.1 y1.2.2.2.2.1 y1.1 y1.2.1 y1.2.2.1 y1.2.2.2.1 y1.2.2.2.2.1 ([]) ([]) ([]))
def g(a:List Ln):=f (1000+a.length) a
end Zbl
namespace Zcb
def f(n:Nat)(a:Str):Option ((List Int)×(List Int)×(List Sy)×Int×Int×Unit):=
  (Zbz.g a).bind fun y1=>
  if(decide (y1.2.2.1≠0)) then(some ([],[],[],y1.2.1,y1.2.2.1,()))
  else
  ((Zbl.g y1.1).bind fun y2=>
  some (y2.1,y2.2.1,y2.2.2.1,y2.2.2.2.1,y2.2.2.2.2.1,()))
def g(a:Str):=f (1000+a.length) a
end Zcb
namespace Zbm
def l4(n:Nat):Nat->(List Int)->(List Int)->Int->Option (Bool×Unit)
 |0,_,_,_=>none
 |m+1,a,b,c=>
  if(decide (c<(a.length:Int))) then
  (if 0<=c/\c<(a.length:Int) then
  (if 0<=c/\c<(b.length:Int) then
  (if(decide ((a.getD (c).toNat 0)≠(b.getD (c).toNat 0))) then(some (false,()))
  else
  ((Zbm.l4 n m) a b (IntKind.i64.wrap (c+1)))) else none) else none)
  else(some (true,()))
def f(n:Nat)(a:List Int)(b:List Int):Option (Bool×Unit):=
  if(decide ((a.length:Int)≠(b.length:Int))) then(some (false,()))
  else(Zbm.l4 n n a b 0)
def g(a:List Int)(b:List Int):=f (1000+a.length+b.length) a b
end Zbm
end Rv
namespace Rv
open Go
set_option maxRecDepth 100000
namespace Zcj
def f(n:Nat)(a:List Int)(b:List Int)(c:List Sy)(d:Int):Option (Int×Bool×Unit):=
  if(decide (d<0))=false then
  (if(decide ((a.length:Int)<=d))=false then
  ((Zct.g b d).bind fun y1=>
  if y1.1 then(some (0,false,()))
  else
  (if 0<=d/\d<(a.length:Int) then
  ((Zcg.g (a.getD (d).toNat (0:Int))).bind fun y2=>
  if(!y2.2.2.2.2.2.2.2.1)=false then
  (if(decide (y2.1≠7))=false then
  (if(decide ((IntKind.i64.wrap ((4:Int)*(IntKind.i64.wrap ((IntKind.i64.wrap (d+1))+y2.2.2.2.2.2.1))))<0))=false then
  (if(decide ((IntKind.i64.wrap ((4:Int)*(a.length:Int)))<(IntKind.i64.wrap ((4:Int)*(IntKind.i64.wrap ((IntKind.i64.wrap (d+1))+y2.2.2.2.2.2.1)))))) then(some (0,false,()))
  else
  (some ((IntKind.i64.wrap ((4:Int)*(IntKind.i64.wrap ((IntKind.i64.wrap (d+1))+y2.2.2.2.2.2.1)))),true,())))
  else(some (0,false,())))
  else(some (0,false,())))
  else(some (0,false,()))) else none))
  else(some (0,false,())))
  else(some (0,false,()))
def g(a:List Int)(b:List Int)(c:List Sy)(d:Int):=f (1000+a.length+b.length+c.length+d.toNat) a b c d
end Zcj
namespace Zei
def g(a:List Int)(b:List Int)(c:List Sy):Option ((List Int)×Int×Unit):=L.labelOfO Zcc.g Zcj.g a b c
end Zei
namespace Zbd
def l3(n:Nat):Nat->Int->(List Int)->Int->Option (Str×Unit)
 |0,_,_,_=>none
 |m+1,a,b,c=>
  if(decide (0<=c)) then
  (if c<0 then none else
  (if 0<=(aC .and .i64 ((a).fdiv (2 ^ (min c.toNat IntKind.i64.bits))) 15)/\(aC .and .i64 ((a).fdiv (2 ^ (min c.toNat IntKind.i64.bits))) 15)<(([48,49,50,51,52,53,54,55,56,57,65,66,67,68,69,70]:Str).length:Int) then
  (if(b.length+([(bt ([48,49,50,51,52,53,54,55,56,57,65,66,67,68,69,70]:Str) (aC .and .i64 ((a).fdiv (2 ^ (min c.toNat IntKind.i64.bits))) 15))]:List Int).length)*1<=140737488355328/\0<1/\0<1 then
  ((Zbd.l3 n m) a (b++([(bt ([48,49,50,51,52,53,54,55,56,57,65,66,67,68,69,70]:Str) (aC .and .i64 ((a).fdiv (2 ^ (min c.toNat IntKind.i64.bits))) 15))]:List Int)) (IntKind.i64.wrap (c-4))) else none) else none))
  else(some ((bytesOf b),()))
def f(n:Nat)(a:Int):Option (Str×Unit):=
  Zbd.l3 n n a ([95]:List Int) 12
def g(a:Int):=f (1000+a.toNat) a
end Zbd
structure jH where
 disasm_number:Int->Option ((List It)×Unit)
namespace disasm_number
def f(n:Nat)(R:jH)(a:Int):Option ((List It)×Unit):=
  if(decide (a<0)) then
  ((R.disasm_number (IntKind.i64.wrap (0-a))).bind fun y1=>
  if(y1.1.length+([(3,0,([]:Str),())]:List It).length)*32<=140737488355328/\0<32/\0<3 then
  (some ((y1.1++([(3,0,([]:Str),())]:List It)),())) else none)
  else
  (some (([(1,(IntKind.u32.wrap a),([]:Str),())]:List It),()))
def h(R:jH)(a:Int):Option ((List It)×Unit):=f (1000+a.toNat) R a
end disasm_number
def bH:Nat->jH
 |0=>⟨fun _=>none⟩
 |q+1=>⟨disasm_number.h (bH q)⟩
def disasm_number.g(a:Int):Option ((List It)×Unit):=(bH (1000+a.toNat)).disasm_number a
namespace Zdd
def f(n:Nat)(a:Int):Option ((List It)×Unit):=
  (Zbd.g a).bind fun y1=>
  some (([(2,0,y1.1,())]:List It),())
def g(a:Int):=f (1000+a.toNat) a
end Zdd
namespace Zax
def j9(n:Nat)(a:Int)(b:Int)(c:Int)(d:Int)(e:Int)(i:Bool)(j:List It)(k:Str)(l:Int)(o:Int)(p:Int)(q:Int)(r:Int)(s:Bool)(t:List It)(u:Str):Option Sn:=
  some (l,o,p,q,r,s,t,u,())
def j23(n:Nat)(a:Int)(b:Int)(c:Int)(d:Int)(e:Int)(i:Bool)(j:List It)(k:Str)(l:Int)(o:Int)(p:Int)(q:Int)(r:Int)(s:Bool)(t:List It)(u:Str):Option Sn:=
  some (l,o,p,q,r,s,t,u,())
def f(n:Nat)(a:List Int)(b:List Int)(c:List Sy)(d:Int):Option Sn:=
  if(decide (d<0))=false then
  (if(decide ((a.length:Int)<=d)) then(some (0,0,0,0,0,false,[],([]:Str),()))
  else
  (if 0<=d/\d<(a.length:Int) then
  ((disasm_number.g (IntKind.i64.wrap (a.getD (d).toNat (0:Int)))).bind fun y1=>
  (Zct.g b d).bind fun y2=>
  if y2.1 then
  ((Zdd.g (IntKind.i64.wrap (a.getD (d).toNat (0:Int)))).bind fun y3=>
  if(decide ((Int.tmod (IntKind.i64.wrap (a.getD (d).toNat 0)) 4)≠0)) then
  ((Zdd.g (0:Int)).bind fun y4=>
  (disasm_number.g (IntKind.i64.wrap (a.getD (d).toNat (0:Int)))).bind fun y5=>
  if(y4.1.length+y5.1.length)*32<=140737488355328/\0<32/\0<3 then
  (if((y4.1++y5.1).length+([(4,0,([]:Str),())]:List It).length)*32<=140737488355328/\0<32/\0<3 then
  (Zax.j9 n 0 0 0 0 0 false ([]) ([]:Str) 9 0 0 0 0 false ((y4.1++y5.1)++([(4,0,([]:Str),())]:List It)) ([]:Str)) else none) else none)
  else
  (Zax.j9 n 0 0 0 0 0 false ([]) ([]:Str) 9 0 0 0 0 false y3.1 ([]:Str)))
  else
  (if 0<=d/\d<(a.length:Int) then
  ((Zcg.g (a.getD (d).toNat (0:Int))).bind fun y6=>
  if(!y6.2.2.2.2.2.2.2.1) then(some (9,0,0,0,0,false,y1.1,([]:Str),()))
  else
  (if(decide (y6.1=7)) then
  ((Zcj.g a b c d).bind fun y7=>
  if(!y7.2.1) then(some (9,0,0,0,0,false,y1.1,([]:Str),()))
  else
  ((Zdd.g y7.1).bind fun y8=>
  Zax.j23 n 0 0 0 0 0 false ([]) ([]:Str) y6.1 y6.2.1 y6.2.2.1 y6.2.2.2.1 y6.2.2.2.2.1 y6.2.2.2.2.2.2.1 y8.1 ([]:Str)))
  else
  (if(decide (y6.1=2)) then
  (if(decide (y6.1=2)) then
  ((disasm_number.g y6.2.2.2.2.2.1).bind fun y9=>
  Zax.j23 n 0 0 0 0 0 false ([]) ([]:Str) y6.1 y6.2.1 y6.2.2.1 y6.2.2.2.1 y6.2.2.2.2.1 y6.2.2.2.2.2.2.1 y9.1 ([]:Str))
  else
  (Zax.j23 n 0 0 0 0 0 false ([]) ([]:Str) y6.1 y6.2.1 y6.2.2.1 y6.2.2.2.1 y6.2.2.2.2.1 y6.2.2.2.2.2.2.1 ([]) ([]:Str)))
  else
  (if(decide (y6.1=5)) then
  ((disasm_number.g y6.2.2.2.2.2.1).bind fun y10=>
  Zax.j23 n 0 0 0 0 0 false ([]) ([]:Str) y6.1 y6.2.1 y6.2.2.1 y6.2.2.2.1 y6.2.2.2.2.1 y6.2.2.2.2.2.2.1 y10.1 ([]:Str))
  else
  (Zax.j23 n 0 0 0 0 0 false ([]) ([]:Str) y6.1 y6.2.1 y6.2.2.1 y6.2.2.2.1 y6.2.2.2.2.1 y6.2.2.2.2.2.2.1 ([]) ([]:Str)))))) else none)) else none))
  else(some (0,0,0,0,0,false,[],([]:Str),()))
def g(a:List Int)(b:List Int)(c:List Sy)(d:Int):=f (1000+a.length+b.length+c.length+d.toNat) a b c d
end Zax
namespace Zer
def g(a:List Int)(b:List Int)(c:List Sy):Option ((List Ln)×Int×Unit):=L.linesO Zcc.g Zei.g Zbn.g Zbd.g Zax.g a b c
end Zer
namespace Zbt
def f(n:Nat)(a:List Int)(b:List Int)(c:List Sy):Option Sy:=
  (Zer.g a b c).bind fun y1=>
  if(decide (y1.2.1≠0)) then(some (([]:Str),y1.2.1,()))
  else
  ((Zdl.g y1.1).bind fun y2=>
  some (y2.1,y2.2.2.1,()))
def g(a:List Int)(b:List Int)(c:List Sy):=f (1000+a.length+b.length+c.length) a b c
end Zbt
end Rv
namespace Rv
open Go
set_option maxRecDepth 100000
namespace Zbu
def f(n:Nat):Option (Bool×Unit):=
  (Zbt.g ([1090519045,3892314110]:List Int) ([]) ([])).bind fun y1=>
  if(decide (y1.1=([95,48,48,48,48,58,10,77,79,86,32,82,49,44,32,53,10,66,32,95,48,48,48,48,10]:Str))) then(some ((decide (y1.2.1=0)),()))
  else(some (false,()))
def g:=f (1000)
end Zbu
namespace rivetlaw23_DisasmInstr
def l4(a_rivetlaw23_shown:Option (Bool×Unit))(n:Nat):Nat->Int->Bool->Int->Int->Int->Option (Bool×Unit)
 |0,_,_,_,_,_=>none
 |m+1,a,b,c,d,e=>
  if(decide (e<2)) then
  ((Zbt.g ([a]:List Int) ([]) ([])).bind fun y1=>
  (Zcb.g y1.1).bind fun y2=>
  if(decide (y1.2.1≠0))=false then
  (if(decide (y2.2.2.2.2.1≠0))=false then
  (if(decide (y2.2.2.2.1≠0))=false then
  ((Zbm.g y2.1 ([a]:List Int)).bind fun y3=>
  if(!y3.1)=false then
  (if(decide ((y2.2.1.length:Int)≠(0:Int)))=false then
  (if(decide ((y2.2.2.1.length:Int)≠(0:Int))) then(some (false,()))
  else
  ((rivetlaw23_DisasmInstr.l4 a_rivetlaw23_shown n m) c b c d (IntKind.i64.wrap (e+1))))
  else(some (false,())))
  else(some (false,())))
  else(some (false,())))
  else(some (false,())))
  else(some (false,())))
  else
  (if b then(some ((decide (d=0)),()))
  else(some (false,())))
def f(a_rivetlaw23_shown:Option (Bool×Unit))(n:Nat)(a:Int)(b:Int)(c:Int)(d:Int)(e:Int)(i:Int)(j:Int)(k:Bool):Option (Bool×Unit):=
  (a_rivetlaw23_shown).bind fun y1=>
  (Zag.g b c d e i j k).bind fun y2=>
  (Zby.g y2.1 y2.2.1 y2.2.2.1 y2.2.2.2.1 y2.2.2.2.2.1 y2.2.2.2.2.2.1 y2.2.2.2.2.2.2.1).bind fun y3=>
  rivetlaw23_DisasmInstr.l4 a_rivetlaw23_shown n n a y1.1 y3.1 y3.2.1 0
def g(a:Int)(b:Int)(c:Int)(d:Int)(e:Int)(i:Int)(j:Int)(k:Bool):=f Zbu.g (1000+a.toNat+b.toNat+c.toNat+d.toNat+e.toNat+i.toNat+j.toNat) a b c d e i j k
end rivetlaw23_DisasmInstr
namespace rivetlaw23_DisasmSites
def j13(a_rivetlaw23_shown:Option (Bool×Unit))(n:Nat)(a:Bool)(b:Int)(c:Int)(d:Int)(e:Int)(i:Int)(j:List Int)(k:List Int)(l:List Sy)(o:Int)(p:Int)(q:Int)(r:Int)(s:Int)(t:Bool)(u:List It)(v:Str)(w:List Int)(x:List Int)(z:List Sy):Option (Bool×Unit):=
  if a then
  (if(decide (c=0)) then
  (if(decide (e=0)) then
  (if(decide (d=0)) then
  (if(decide (o=9)) then
  (if(decide ((u.length:Int)=i)) then
  ((Zbm.g w j).bind fun y1=>
  if y1.1 then
  (if(decide ((x.length:Int)=(1:Int))) then
  (if 0<=(0:Int)/\(0:Int)<(x.length:Int) then
  (some ((decide ((x.getD ((0:Int)).toNat 0)=b)),())) else none)
  else(some (false,())))
  else(some (false,())))
  else(some (false,())))
  else(some (false,())))
  else(some (false,())))
  else(some (false,())))
  else(some (false,())))
  else(some (false,()))
def f(a_rivetlaw23_shown:Option (Bool×Unit))(n:Nat)(a:Int)(b:Int)(c:Int):Option (Bool×Unit):=
  (a_rivetlaw23_shown).bind fun y1=>
  if(IntKind.i64.wrap ((1:Int)+(IntKind.i64.wrap (Int.tmod a 32))))=0 then none else
  (if(IntKind.i64.wrap ((IntKind.i64.wrap ((4:Int)*(IntKind.i64.wrap ((1:Int)+(IntKind.i64.wrap (Int.tmod a 32))))))+1))=0 then none else
  (if 0<=(IntKind.i64.wrap ((1:Int)+(IntKind.i64.wrap (Int.tmod a 32))))/\(IntKind.i64.wrap ((1:Int)+(IntKind.i64.wrap (Int.tmod a 32))))=(IntKind.i64.wrap ((1:Int)+(IntKind.i64.wrap (Int.tmod a 32))))/\(4:Int)*(IntKind.i64.wrap ((1:Int)+(IntKind.i64.wrap (Int.tmod a 32))))<=281474976710656/\0<4/\0<1 then
  (if 0<=(Int.tmod (IntKind.i64.wrap b) (IntKind.i64.wrap ((1:Int)+(IntKind.i64.wrap (Int.tmod a 32)))))/\(Int.tmod (IntKind.i64.wrap b) (IntKind.i64.wrap ((1:Int)+(IntKind.i64.wrap (Int.tmod a 32)))))<((List.replicate ((IntKind.i64.wrap ((1:Int)+(IntKind.i64.wrap (Int.tmod a (32:Int)))))).toNat (0:Int)).length:Int) then
  ((Zax.g ((List.replicate ((IntKind.i64.wrap ((1:Int)+(IntKind.i64.wrap (Int.tmod a (32:Int)))))).toNat (0:Int)).set ((Int.tmod (IntKind.i64.wrap b) (IntKind.i64.wrap ((1:Int)+(IntKind.i64.wrap (Int.tmod a (32:Int))))))).toNat (IntKind.u32.wrap (Int.tmod (IntKind.i64.wrap c) (IntKind.i64.wrap ((IntKind.i64.wrap ((4:Int)*(IntKind.i64.wrap ((1:Int)+(IntKind.i64.wrap (Int.tmod a 32))))))+1))))) ([(Int.tmod (IntKind.i64.wrap b) (IntKind.i64.wrap ((1:Int)+(IntKind.i64.wrap (Int.tmod a 32)))))]:List Int) ([]) (Int.tmod (IntKind.i64.wrap b) (IntKind.i64.wrap ((1:Int)+(IntKind.i64.wrap (Int.tmod a (32:Int))))))).bind fun y2=>
  (Zbt.g ((List.replicate ((IntKind.i64.wrap ((1:Int)+(IntKind.i64.wrap (Int.tmod a (32:Int)))))).toNat (0:Int)).set ((Int.tmod (IntKind.i64.wrap b) (IntKind.i64.wrap ((1:Int)+(IntKind.i64.wrap (Int.tmod a (32:Int))))))).toNat (IntKind.u32.wrap (Int.tmod (IntKind.i64.wrap c) (IntKind.i64.wrap ((IntKind.i64.wrap ((4:Int)*(IntKind.i64.wrap ((1:Int)+(IntKind.i64.wrap (Int.tmod a 32))))))+1))))) ([(Int.tmod (IntKind.i64.wrap b) (IntKind.i64.wrap ((1:Int)+(IntKind.i64.wrap (Int.tmod a 32)))))]:List Int) ([])).bind fun y3=>
  (Zcb.g y3.1).bind fun y4=>
  if(decide ((Int.tmod (Int.tmod (IntKind.i64.wrap c) (IntKind.i64.wrap ((IntKind.i64.wrap ((4:Int)*(IntKind.i64.wrap ((1:Int)+(IntKind.i64.wrap (Int.tmod a 32))))))+1))) 4)≠0)) then
  (rivetlaw23_DisasmSites.j13 a_rivetlaw23_shown n y1.1 (Int.tmod (IntKind.i64.wrap b) (IntKind.i64.wrap ((1:Int)+(IntKind.i64.wrap (Int.tmod a 32))))) y3.2.1 y4.2.2.2.1 y4.2.2.2.2.1 3 ((List.replicate ((IntKind.i64.wrap ((1:Int)+(IntKind.i64.wrap (Int.tmod a (32:Int)))))).toNat (0:Int)).set ((Int.tmod (IntKind.i64.wrap b) (IntKind.i64.wrap ((1:Int)+(IntKind.i64.wrap (Int.tmod a (32:Int))))))).toNat (IntKind.u32.wrap (Int.tmod (IntKind.i64.wrap c) (IntKind.i64.wrap ((IntKind.i64.wrap ((4:Int)*(IntKind.i64.wrap ((1:Int)+(IntKind.i64.wrap (Int.tmod a 32))))))+1))))) ([(Int.tmod (IntKind.i64.wrap b) (IntKind.i64.wrap ((1:Int)+(IntKind.i64.wrap (Int.tmod a 32)))))]:List Int) ([]) y2.1 y2.2.1 y2.2.2.1 y2.2.2.2.1 y2.2.2.2.2.1 y2.2.2.2.2.2.1 y2.2.2.2.2.2.2.1 y2.2.2.2.2.2.2.2.1 y4.1 y4.2.1 y4.2.2.1)
  else
  (rivetlaw23_DisasmSites.j13 a_rivetlaw23_shown n y1.1 (Int.tmod (IntKind.i64.wrap b) (IntKind.i64.wrap ((1:Int)+(IntKind.i64.wrap (Int.tmod a 32))))) y3.2.1 y4.2.2.2.1 y4.2.2.2.2.1 1 ((List.replicate ((IntKind.i64.wrap ((1:Int)+(IntKind.i64.wrap (Int.tmod a (32:Int)))))).toNat (0:Int)).set ((Int.tmod (IntKind.i64.wrap b) (IntKind.i64.wrap ((1:Int)+(IntKind.i64.wrap (Int.tmod a (32:Int))))))).toNat (IntKind.u32.wrap (Int.tmod (IntKind.i64.wrap c) (IntKind.i64.wrap ((IntKind.i64.wrap ((4:Int)*(IntKind.i64.wrap ((1:Int)+(IntKind.i64.wrap (Int.tmod a 32))))))+1))))) ([(Int.tmod (IntKind.i64.wrap b) (IntKind.i64.wrap ((1:Int)+(IntKind.i64.wrap (Int.tmod a 32)))))]:List Int) ([]) y2.1 y2.2.1 y2.2.2.1 y2.2.2.2.1 y2.2.2.2.2.1 y2.2.2.2.2.2.1 y2.2.2.2.2.2.2.1 y2.2.2.2.2.2.2.2.1 y4.1 y4.2.1 y4.2.2.1)) else none) else none))
def g(a:Int)(b:Int)(c:Int):=f Zbu.g (1000+a.toNat+b.toNat+c.toNat) a b c
end rivetlaw23_DisasmSites
end Rv
