/- Texts put together. -/
import Derived.Test.YtfhnodllolpjgaaGreatDoorE1
import Derived.Test.YtfhnodllolpjgaaGreatDoorA1
import Derived.Test.YtfhnodllolpjgaaGreatDoorE6
import Derived.IntWalk
set_option linter.all false
namespace Rv
open Go
set_option maxRecDepth 100000
namespace Zet
def f(n:Nat)(a:Int)(b:Int)(c:Int)(d:Int)(e:Int)(i:Bool)(j:List It)(k:Str):Option (Int×Unit):=
  if(decide (a=(0:Int))) then
  (if(decide (a=(0:Int))) then(some ((0:Int),()))
  else(some ((1:Int),())))
  else
  (if(decide (a=(10:Int))) then(some ((0:Int),()))
  else(some ((1:Int),())))
def g(a:Int)(b:Int)(c:Int)(d:Int)(e:Int)(i:Bool)(j:List It)(k:Str):Option (Int×Unit):=f (1000+a.toNat+b.toNat+c.toNat+d.toNat+e.toNat+j.length+k.length) a b c d e i j k
end Zet
namespace Zdq
def j7(n:Nat)(a:List Int)(b:List (Str×Int×Unit))(c:List (Int×Int×Unit))(d:Int)(e:Int)(i:Str)(j:Int)(k:Int)(l:Int)(o:Int)(p:Int)(q:Bool)(r:List It)(s:Str):Option (Int×(List Int)×(List (Str×Int×Unit))×(List (Int×Int×Unit))×Int×Int×Unit):=
  (Zet.g j k l o p q r s).bind fun y1=>
  some ((0:Int),a,b,c,(IntKind.i64.wrap (d+(IntKind.i64.wrap ((4:Int)*y1.1)))),e,())
def f(n:Nat)(a:Str)(b:Int)(c:Int)(d:Int)(e:Int)(i:Int)(j:Bool)(k:List It)(l:Str)(o:List Int)(p:List (Str×Int×Unit))(q:List (Int×Int×Unit))(r:Int)(s:Int):Option (Int×(List Int)×(List (Str×Int×Unit))×(List (Int×Int×Unit))×Int×Int×Unit):=
  if(o.length+([r]:List Int).length)*8<=140737488355328/\0<8/\0<1 then
  (if(!(decide (a=([]:Str)))) then
  ((Zcw.g p a).bind fun y1=>
  if y1.2.1 then(some ((26:Int),(o++([r]:List Int)),p,q,r,s,()))
  else
  (if(p.length+([(a,r,())]:List (Str×Int×Unit)).length)*24<=140737488355328/\0<24/\0<2 then
  (Zdq.j7 n (o++([r]:List Int)) (p++([(a,r,())]:List (Str×Int×Unit))) q r s a b c d e i j k l) else none))
  else
  (Zdq.j7 n (o++([r]:List Int)) p q r s a b c d e i j k l)) else none
def g(a:Str)(b:Int)(c:Int)(d:Int)(e:Int)(i:Int)(j:Bool)(k:List It)(l:Str)(o:List Int)(p:List (Str×Int×Unit))(q:List (Int×Int×Unit))(r:Int)(s:Int):Option (Int×(List Int)×(List (Str×Int×Unit))×(List (Int×Int×Unit))×Int×Int×Unit):=f (1000+a.length+b.toNat+c.toNat+d.toNat+e.toNat+i.toNat+k.length+l.length+o.length+p.length+q.length+r.toNat+s.toNat) a b c d e i j k l o p q r s
end Zdq
namespace Zdw
def l2(n:Nat):Nat->(List Ln)->Int->Int->(List Int)->(List (Str×Int×Unit))->(List (Int×Int×Unit))->Int->Int->Option (Int×Int×(List Int)×(List (Str×Int×Unit))×(List (Int×Int×Unit))×Int×Int×Unit)
 |0,_,_,_,_,_,_,_,_=>none
 |m+1,a,b,c,d,e,i,j,k=>
  if(decide (c<b)) then
  (if 0<=c/\c<(a.length:Int) then
  ((Zdq.g ((a.getD (c).toNat zL).1) ((((a.getD (c).toNat zL).2).1).1) (((((a.getD (c).toNat zL).2).1).2).1) ((((((a.getD (c).toNat zL).2).1).2).2).1) (((((((a.getD (c).toNat zL).2).1).2).2).2).1) ((((((((a.getD (c).toNat zL).2).1).2).2).2).2).1) (((((((((a.getD (c).toNat zL).2).1).2).2).2).2).2).1) ((((((((((a.getD (c).toNat zL).2).1).2).2).2).2).2).2).1) (((((((((((a.getD (c).toNat zL).2).1).2).2).2).2).2).2).2).1) d e i j k).bind fun y1=>
  if(decide (y1.1≠(0:Int))) then
  (some ((IntKind.i64.wrap (c+(1:Int))),y1.1,y1.2.1,y1.2.2.1,y1.2.2.2.1,y1.2.2.2.2.1,y1.2.2.2.2.2.1,()))
  else
  ((Zdw.l2 n m) a b (IntKind.i64.wrap (c+(1:Int))) y1.2.1 y1.2.2.1 y1.2.2.2.1 y1.2.2.2.2.1 y1.2.2.2.2.2.1)) else none)
  else(some ((0:Int),(0:Int),d,e,i,j,k,()))
def f(n:Nat)(a:List Ln)(b:List Int)(c:List (Str×Int×Unit))(d:List (Int×Int×Unit))(e:Int)(i:Int):Option (Int×Int×(List Int)×(List (Str×Int×Unit))×(List (Int×Int×Unit))×Int×Int×Unit):=
  Zdw.l2 n n a (a.length:Int) (0:Int) b c d e i
def g(a:List Ln)(b:List Int)(c:List (Str×Int×Unit))(d:List (Int×Int×Unit))(e:Int)(i:Int):Option (Int×Int×(List Int)×(List (Str×Int×Unit))×(List (Int×Int×Unit))×Int×Int×Unit):=f (1000+a.length+b.length+c.length+d.length+e.toNat+i.toNat) a b c d e i
end Zdw
namespace Zff
def f(n:Nat)(a:List (Int×Int×Unit)):Option ((List (Int×Int×Unit))×Unit):=
  if some 2=some 2/\(a.length:Int)=(a.length:Int)/\(a.length:Int)=(a.length:Int) then(some (a,())) else none
def g(a:List (Int×Int×Unit)):Option ((List (Int×Int×Unit))×Unit):=f (1000+a.length) a
end Zff
namespace Zco
def l2(n:Nat):Nat->(List (Int×Int×Unit))->(List (Int×Int×Unit))->Int->Int->Int->Int->Option ((List (Int×Int×Unit))×Int×Unit)
 |0,_,_,_,_,_,_=>none
 |m+1,a,b,c,d,e,i=>
  if(decide (d<c)) then
  (if 0<=d/\d<(b.length:Int) then
  (if(decide ((b.getD (d).toNat ((0:Int),((0:Int),()))).1=e)&&(decide (((b.getD (d).toNat ((0:Int),((0:Int),()))).2).1=i)&&true)) then(some (a,d,()))
  else
  ((Zco.l2 n m) a b c (IntKind.i64.wrap (d+(1:Int))) e i)) else none)
  else
  ((Zff.g a).bind fun y1=>
  if true=true/\0<([(e,i,())]:List (Int×Int×Unit)).length then
  (if(y1.1.length+([(e,i,())]:List (Int×Int×Unit)).length)*16<=140737488355328/\0<16/\0<2 then
  (some ((y1.1++([(e,i,())]:List (Int×Int×Unit))),(a.length:Int),())) else none) else none)
def f(n:Nat)(a:List (Int×Int×Unit))(b:Int)(c:Int):Option ((List (Int×Int×Unit))×Int×Unit):=
  Zco.l2 n n a a (a.length:Int) (0:Int) b c
def g(a:List (Int×Int×Unit))(b:Int)(c:Int):Option ((List (Int×Int×Unit))×Int×Unit):=f (1000+a.length+b.toNat+c.toNat) a b c
end Zco
namespace Zeu
def f(n:Nat)(a:Str)(b:Int)(c:Int)(d:Int)(e:Int)(i:Int)(j:Bool)(k:List It)(l:Str)(o:List Int)(p:List (Str×Int×Unit))(q:List (Int×Int×Unit))(r:Int)(s:Int):Option (Int×(List Int)×(List (Str×Int×Unit))×(List (Int×Int×Unit))×Int×Int×Unit):=
  if(decide (b≠(8:Int))) then(some ((0:Int),o,p,q,r,s,()))
  else
  ((Zam.g k p).bind fun y1=>
  if(decide (y1.2.2.1≠(0:Int))) then(some (y1.2.2.1,o,p,q,r,s,()))
  else
  (if(decide (y1.2.1<(0:Int)))=false then
  (if(decide ((1:Int)<y1.2.1)) then(some ((27:Int),o,p,q,r,s,()))
  else
  ((Zco.g q y1.1 y1.2.1).bind fun y2=>
  some ((0:Int),o,p,y2.1,r,s,())))
  else(some ((27:Int),o,p,q,r,s,()))))
def g(a:Str)(b:Int)(c:Int)(d:Int)(e:Int)(i:Int)(j:Bool)(k:List It)(l:Str)(o:List Int)(p:List (Str×Int×Unit))(q:List (Int×Int×Unit))(r:Int)(s:Int):Option (Int×(List Int)×(List (Str×Int×Unit))×(List (Int×Int×Unit))×Int×Int×Unit):=f (1000+a.length+b.toNat+c.toNat+d.toNat+e.toNat+i.toNat+k.length+l.length+o.length+p.length+q.length+r.toNat+s.toNat) a b c d e i j k l o p q r s
end Zeu
namespace Zdx
def l2(n:Nat):Nat->(List Ln)->Int->Int->(List Int)->(List (Str×Int×Unit))->(List (Int×Int×Unit))->Int->Int->Option (Int×Int×(List Int)×(List (Str×Int×Unit))×(List (Int×Int×Unit))×Int×Int×Unit)
 |0,_,_,_,_,_,_,_,_=>none
 |m+1,a,b,c,d,e,i,j,k=>
  if(decide (c<b)) then
  (if 0<=c/\c<(a.length:Int) then
  ((Zeu.g ((a.getD (c).toNat zL).1) ((((a.getD (c).toNat zL).2).1).1) (((((a.getD (c).toNat zL).2).1).2).1) ((((((a.getD (c).toNat zL).2).1).2).2).1) (((((((a.getD (c).toNat zL).2).1).2).2).2).1) ((((((((a.getD (c).toNat zL).2).1).2).2).2).2).1) (((((((((a.getD (c).toNat zL).2).1).2).2).2).2).2).1) ((((((((((a.getD (c).toNat zL).2).1).2).2).2).2).2).2).1) (((((((((((a.getD (c).toNat zL).2).1).2).2).2).2).2).2).2).1) d e i j k).bind fun y1=>
  if(decide (y1.1≠(0:Int))) then
  (some ((IntKind.i64.wrap (c+(1:Int))),y1.1,y1.2.1,y1.2.2.1,y1.2.2.2.1,y1.2.2.2.2.1,y1.2.2.2.2.2.1,()))
  else
  ((Zdx.l2 n m) a b (IntKind.i64.wrap (c+(1:Int))) y1.2.1 y1.2.2.1 y1.2.2.2.1 y1.2.2.2.2.1 y1.2.2.2.2.2.1)) else none)
  else(some ((0:Int),(0:Int),d,e,i,j,k,()))
def f(n:Nat)(a:List Ln)(b:List Int)(c:List (Str×Int×Unit))(d:List (Int×Int×Unit))(e:Int)(i:Int):Option (Int×Int×(List Int)×(List (Str×Int×Unit))×(List (Int×Int×Unit))×Int×Int×Unit):=
  Zdx.l2 n n a (a.length:Int) (0:Int) b c d e i
def g(a:List Ln)(b:List Int)(c:List (Str×Int×Unit))(d:List (Int×Int×Unit))(e:Int)(i:Int):Option (Int×Int×(List Int)×(List (Str×Int×Unit))×(List (Int×Int×Unit))×Int×Int×Unit):=f (1000+a.length+b.length+c.length+d.length+e.toNat+i.toNat) a b c d e i
end Zdx
namespace Zbv
def j7(n:Nat)(rl4:(List Ln)->Int->Int->(List Int)->(List (Str×Int×Unit))->(List (Int×Int×Unit))->Int->Int->Option ((List Int)×(List (Str×Int×Unit))×(List (Int×Int×Unit))×Int×Int×Int×Int×Unit))(a:List Ln)(b:Int)(c:Int)(d:Int)(e:Int)(i:List Int)(j:List (Str×Int×Unit))(k:List (Int×Int×Unit))(l:Int)(o:Int):Option ((List Int)×(List (Str×Int×Unit))×(List (Int×Int×Unit))×Int×Int×Int×Int×Unit):=
  if(decide (c≠(0:Int))) then(some ([],[],[],0,0,b,c,()))
  else(rl4 a d (IntKind.i64.wrap (e+(1:Int))) i j k l o)
def l4(n:Nat):Nat->(List Ln)->Int->Int->(List Int)->(List (Str×Int×Unit))->(List (Int×Int×Unit))->Int->Int->Option ((List Int)×(List (Str×Int×Unit))×(List (Int×Int×Unit))×Int×Int×Int×Int×Unit)
 |0,_,_,_,_,_,_,_,_=>none
 |m+1,a,b,c,d,e,i,j,k=>
  if(decide (c<b)) then
  (if c=(0:Int) then
  ((Zdw.g a d e i j k).bind fun y1=>
  Zbv.j7 n (Zbv.l4 n m) a y1.1 y1.2.1 b c y1.2.2.1 y1.2.2.2.1 y1.2.2.2.2.1 y1.2.2.2.2.2.1 y1.2.2.2.2.2.2.1)
  else
  (if c=(1:Int) then
  ((Zdx.g a d e i j k).bind fun y2=>
  Zbv.j7 n (Zbv.l4 n m) a y2.1 y2.2.1 b c y2.2.2.1 y2.2.2.2.1 y2.2.2.2.2.1 y2.2.2.2.2.2.1 y2.2.2.2.2.2.2.1)
  else none))
  else
  (if(decide ((1024:Int)<(IntKind.i64.wrap ((IntKind.i64.wrap (Int.tdiv j (4:Int)))+(i.length:Int))))) then(some ([],[],[],0,0,(0:Int),(2:Int),()))
  else
  (some (d,e,i,j,(IntKind.i64.wrap ((IntKind.i64.wrap (Int.tdiv j (4:Int)))+(i.length:Int))),(0:Int),(0:Int),())))
def f(n:Nat)(a:List Ln):Option ((List Int)×(List (Str×Int×Unit))×(List (Int×Int×Unit))×Int×Int×Int×Int×Unit):=
  Zbv.l4 n n a (2:Int) (0:Int) ([]) ([]) ([]) 0 0
def g(a:List Ln):Option ((List Int)×(List (Str×Int×Unit))×(List (Int×Int×Unit))×Int×Int×Int×Int×Unit):=f (1000+a.length) a
end Zbv
namespace Zev
def f(n:Nat)(a:Int)(b:Int)(c:Int)(d:Int)(e:Int)(i:Bool)(j:List It)(k:Str):Option (Int×Unit):=
  if(decide (a=(0:Int)))=false then
  (if(decide (a=(10:Int))) then(some ((0:Int),()))
  else(some ((1:Int),())))
  else(some ((0:Int),()))
def g(a:Int)(b:Int)(c:Int)(d:Int)(e:Int)(i:Bool)(j:List It)(k:Str):Option (Int×Unit):=f (1000+a.toNat+b.toNat+c.toNat+d.toNat+e.toNat+j.length+k.length) a b c d e i j k
end Zev
namespace Zcp
def l2(n:Nat):Nat->(List (Int×Int×Unit))->Int->Int->Int->Option ((List (Int×Int×Unit))×Int×Unit)
 |0,_,_,_,_=>none
 |m+1,a,b,c,d=>
  if(decide (b<(a.length:Int))) then
  (if 0<=b/\b<(a.length:Int) then
  (if(decide ((a.getD (b).toNat ((0:Int),((0:Int),()))).1=c)&&(decide (((a.getD (b).toNat ((0:Int),((0:Int),()))).2).1=d)&&true)) then(some (a,b,()))
  else
  ((Zcp.l2 n m) a (IntKind.i64.wrap (b+(1:Int))) c d)) else none)
  else
  (if(([]:List (Int×Int×Unit)).length+a.length)*16<=140737488355328/\0<16/\0<2 then
  (if((([]:List (Int×Int×Unit))++a).length+([(c,d,())]:List (Int×Int×Unit)).length)*16<=140737488355328/\0<16/\0<2 then
  (some (((([]:List (Int×Int×Unit))++a)++([(c,d,())]:List (Int×Int×Unit))),(a.length:Int),())) else none) else none)
def f(n:Nat)(a:List (Int×Int×Unit))(b:Int)(c:Int):Option ((List (Int×Int×Unit))×Int×Unit):=
  Zcp.l2 n n a (0:Int) b c
def g(a:List (Int×Int×Unit))(b:Int)(c:Int):Option ((List (Int×Int×Unit))×Int×Unit):=f (1000+a.length+b.toNat+c.toNat) a b c
end Zcp
namespace Zah
def j11(n:Nat)(rl3:(List Ln)->Int->(List Int)->(List (Str×Int×Unit))->(List (Int×Int×Unit))->Int->Int->(List Int)->(List (Str×Int×Unit))->(List (Int×Int×Unit))->Int->Int->Option ((List Int)×(List (Str×Int×Unit))×(List (Int×Int×Unit))×Int×Int×Int×Int×Unit))(a:List Ln)(b:Int)(c:List Int)(d:List (Str×Int×Unit))(e:List (Int×Int×Unit))(i:Int)(j:Int)(k:List Int)(l:List (Str×Int×Unit))(o:List (Int×Int×Unit))(p:Int)(q:Int):Option ((List Int)×(List (Str×Int×Unit))×(List (Int×Int×Unit))×Int×Int×Int×Int×Unit):=
  if 0<=b/\b<(a.length:Int) then
  ((Zev.g ((((a.getD (b).toNat zL).2).1).1) (((((a.getD (b).toNat zL).2).1).2).1) ((((((a.getD (b).toNat zL).2).1).2).2).1) (((((((a.getD (b).toNat zL).2).1).2).2).2).1) ((((((((a.getD (b).toNat zL).2).1).2).2).2).2).1) (((((((((a.getD (b).toNat zL).2).1).2).2).2).2).2).1) ((((((((((a.getD (b).toNat zL).2).1).2).2).2).2).2).2).1) (((((((((((a.getD (b).toNat zL).2).1).2).2).2).2).2).2).2).1)).bind fun y1=>
  rl3 a (IntKind.i64.wrap (b+(1:Int))) c d e i j k l o (IntKind.i64.wrap (p+(IntKind.i64.wrap ((4:Int)*y1.1)))) q) else none
def j14(n:Nat)(iT:(List Ln)->Int->(List Int)->(List (Str×Int×Unit))->(List (Int×Int×Unit))->Int->Int->(List Int)->(List (Str×Int×Unit))->(List (Int×Int×Unit))->Int->Int->Option ((List Int)×(List (Str×Int×Unit))×(List (Int×Int×Unit))×Int×Int×Int×Int×Unit))(a:List Ln)(b:Int)(c:List Int)(d:List (Str×Int×Unit))(e:List (Int×Int×Unit))(i:Int)(j:Int)(k:List Int)(l:List (Str×Int×Unit))(o:List (Int×Int×Unit))(p:Int)(q:Int):Option ((List Int)×(List (Str×Int×Unit))×(List (Int×Int×Unit))×Int×Int×Int×Int×Unit):=
  iT a (IntKind.i64.wrap (b+(1:Int))) c d e i j k l o p q
def j19(n:Nat)(iT:(List Ln)->Int->(List Int)->(List (Str×Int×Unit))->(List (Int×Int×Unit))->Int->Int->(List Int)->(List (Str×Int×Unit))->(List (Int×Int×Unit))->Int->Int->Option ((List Int)×(List (Str×Int×Unit))×(List (Int×Int×Unit))×Int×Int×Int×Int×Unit))(a:List Ln)(b:Int)(c:Int)(d:List Int)(e:List (Str×Int×Unit))(i:List (Int×Int×Unit))(j:Int)(k:Int)(l:List Int)(o:List (Str×Int×Unit))(p:List (Int×Int×Unit))(q:Int)(r:Int)(s:Int)(t:Int):Option ((List Int)×(List (Str×Int×Unit))×(List (Int×Int×Unit))×Int×Int×Int×Int×Unit):=
  if(decide (c≠(0:Int))) then
  (some ([],[],[],0,0,(IntKind.i64.wrap (b+(1:Int))),c,()))
  else
  ((Zcp.g p s t).bind fun y1=>
  Zah.j14 n iT a b d e i j k l o y1.1 q r)
def l13(n:Nat):Nat->(List Ln)->Int->(List Int)->(List (Str×Int×Unit))->(List (Int×Int×Unit))->Int->Int->(List Int)->(List (Str×Int×Unit))->(List (Int×Int×Unit))->Int->Int->Option ((List Int)×(List (Str×Int×Unit))×(List (Int×Int×Unit))×Int×Int×Int×Int×Unit)
 |0,_,_,_,_,_,_,_,_,_,_,_,_=>none
 |m+1,a,b,c,d,e,i,j,k,l,o,p,q=>
  if(decide (b<(a.length:Int))) then
  (if 0<=b/\b<(a.length:Int) then
  (if(decide ((((a.getD (b).toNat zL).2).1).1≠(8:Int))) then
  (Zah.j14 n (Zah.l13 n m) a b c d e i j k l o p q)
  else
  (if 0<=b/\b<(a.length:Int) then
  ((Zal.g ((((((((((a.getD (b).toNat zL).2).1).2).2).2).2).2).2).1) l).bind fun y1=>
  if(decide (y1.2.2.1=(0:Int))) then
  (if(decide (y1.2.1≠(0:Int))) then
  (if(decide (y1.2.1≠(1:Int))) then
  (Zah.j19 n (Zah.l13 n m) a b (27:Int) c d e i j k l o p q y1.1 y1.2.1)
  else
  (Zah.j19 n (Zah.l13 n m) a b y1.2.2.1 c d e i j k l o p q y1.1 y1.2.1))
  else
  (Zah.j19 n (Zah.l13 n m) a b y1.2.2.1 c d e i j k l o p q y1.1 y1.2.1))
  else
  (Zah.j19 n (Zah.l13 n m) a b y1.2.2.1 c d e i j k l o p q y1.1 y1.2.1)) else none)) else none)
  else
  (if(decide ((1024:Int)<(IntKind.i64.wrap ((IntKind.i64.wrap (Int.tdiv p (4:Int)))+(o.length:Int))))) then(some ([],[],[],0,0,(0:Int),(2:Int),()))
  else
  (some (k,l,o,p,(IntKind.i64.wrap ((IntKind.i64.wrap (Int.tdiv p (4:Int)))+(o.length:Int))),(0:Int),(0:Int),())))
def l3(n:Nat):Nat->(List Ln)->Int->(List Int)->(List (Str×Int×Unit))->(List (Int×Int×Unit))->Int->Int->(List Int)->(List (Str×Int×Unit))->(List (Int×Int×Unit))->Int->Int->Option ((List Int)×(List (Str×Int×Unit))×(List (Int×Int×Unit))×Int×Int×Int×Int×Unit)
 |0,_,_,_,_,_,_,_,_,_,_,_,_=>none
 |m+1,a,b,c,d,e,i,j,k,l,o,p,q=>
  if(decide (b<(a.length:Int))) then
  (if(k.length+([p]:List Int).length)*8<=140737488355328/\0<8/\0<1 then
  (if 0<=b/\b<(a.length:Int) then
  (if(!(decide ((a.getD (b).toNat zL).1=([]:Str)))) then
  (if 0<=b/\b<(a.length:Int) then
  ((Zbl.g l ((a.getD (b).toNat zL).1)).bind fun y1=>
  if y1.2.1 then
  (some ([],[],[],0,0,(IntKind.i64.wrap (b+(1:Int))),(26:Int),()))
  else
  (if 0<=b/\b<(a.length:Int) then
  (if(l.length+([((a.getD (b).toNat zL).1,p,())]:List (Str×Int×Unit)).length)*24<=140737488355328/\0<24/\0<2 then
  (Zah.j11 n (Zah.l3 n m) a b c d e i j (k++([p]:List Int)) (l++([((a.getD (b).toNat zL).1,p,())]:List (Str×Int×Unit))) o p q) else none) else none)) else none)
  else
  (Zah.j11 n (Zah.l3 n m) a b c d e i j (k++([p]:List Int)) l o p q)) else none) else none)
  else(Zah.l13 n n a (0:Int) c d e i j k l o p q)
def f(n:Nat)(a:List Ln):Option ((List Int)×(List (Str×Int×Unit))×(List (Int×Int×Unit))×Int×Int×Int×Int×Unit):=
  Zah.l3 n n a (0:Int) ([]) ([]) ([]) 0 0 ([]) ([]) ([]) 0 0
def g(a:List Ln):Option ((List Int)×(List (Str×Int×Unit))×(List (Int×Int×Unit))×Int×Int×Int×Int×Unit):=f (1000+a.length) a
end Zah
namespace Zab
def j12(n:Nat)(rl4:(List Ln)->(List Ln)->(List (Str×Int×Unit))->Int->Option ((List Ln)×Unit))(a:List Ln)(b:List Ln)(c:List (Str×Int×Unit))(d:Int)(e:Str)(i:Int)(j:Int)(k:Int)(l:Int)(o:Int)(p:Bool)(q:List It)(r:Str):Option ((List Ln)×Unit):=
  if(b.length+([(e,(i,j,k,l,o,p,q,r,()),())]:List Ln).length)*104<=140737488355328/\0<104/\0<9 then
  (rl4 a (b++([(e,(i,j,k,l,o,p,q,r,()),())]:List Ln)) c (IntKind.i64.wrap (d+(1:Int)))) else none
def j10(n:Nat)(rl4:(List Ln)->(List Ln)->(List (Str×Int×Unit))->Int->Option ((List Ln)×Unit))(a:List Ln)(b:List Ln)(c:List (Str×Int×Unit))(d:Int)(e:Str)(i:Int)(j:Int)(k:Int)(l:Int)(o:Int)(p:Bool)(q:List It)(r:Str):Option ((List Ln)×Unit):=
  if(!(decide (e=([]:Str)))) then
  (if(c.length+([(e,0,())]:List (Str×Int×Unit)).length)*24<=140737488355328/\0<24/\0<2 then
  (Zab.j12 n rl4 a b (c++([(e,0,())]:List (Str×Int×Unit))) d e i j k l o p q r) else none)
  else(Zab.j12 n rl4 a b c d e i j k l o p q r)
def j31(n:Nat)(rl14:(List Ln)->(List (Str×Int×Unit))->Int->Option ((List Ln)×Unit))(BD:(List Ln)->(List (Str×Int×Unit))->Int->Int->Int->Int->Int->Int->Int->Bool->(List It)->Str->Option ((List Ln)×Unit))(a:List Ln)(b:List (Str×Int×Unit))(c:Int)(d:Int)(e:Int)(i:Int)(j:Int)(k:Int)(l:Int)(o:Bool)(p:List It)(q:Str):Option ((List Ln)×Unit):=
  BD a b c (IntKind.i64.wrap (d+(1:Int))) e i j k l o p q
def j36(n:Nat)(rl14:(List Ln)->(List (Str×Int×Unit))->Int->Option ((List Ln)×Unit))(a:List Ln)(b:List (Str×Int×Unit))(c:Int)(d:Int)(e:Int)(i:Int)(j:Int)(k:Int)(l:Bool)(o:List It)(p:Str):Option ((List Ln)×Unit):=
  if 0<=c/\c<(a.length:Int) then
  (rl14 (a.set (c).toNat ((a.getD (c).toNat zL).1,(d,e,i,j,k,l,o,p,()),())) b (IntKind.i64.wrap (c+(1:Int)))) else none
def l30(n:Nat)(rl14:(List Ln)->(List (Str×Int×Unit))->Int->Option ((List Ln)×Unit)):Nat->(List Ln)->(List (Str×Int×Unit))->Int->Int->Int->Int->Int->Int->Int->Bool->(List It)->Str->Option ((List Ln)×Unit)
 |0,_,_,_,_,_,_,_,_,_,_,_,_=>none
 |m+1,a,b,c,d,e,i,j,k,l,o,p,q=>
  if(decide (d<(b.length:Int))) then
  (if 0<=d/\d<(b.length:Int) then
  (if 0<=(0:Int)/\(0:Int)<(((b.getD (d).toNat (([]:Str),((0:Int),()))).1).length:Int) then
  (if(decide ((bt ((b.getD (d).toNat (([]:Str),((0:Int),()))).1) (0:Int))≠(95:Int))) then
  (if(decide (q=([]:Str))) then
  (if 0<=d/\d<(b.length:Int) then
  (Zab.j31 n rl14 (Zab.l30 n rl14 m) a b c d e i j k l o p ((b.getD (d).toNat (([]:Str),((0:Int),()))).1)) else none)
  else
  (Zab.j31 n rl14 (Zab.l30 n rl14 m) a b c d e i j k l o p q))
  else
  (Zab.j31 n rl14 (Zab.l30 n rl14 m) a b c d e i j k l o p q)) else none) else none)
  else
  (if(decide (q=([]:Str))) then
  (Zab.j36 n rl14 a b c 0 0 0 0 0 false ([]) ([]:Str))
  else(Zab.j36 n rl14 a b c e i j k l o p q))
def j27(n:Nat)(rl14:(List Ln)->(List (Str×Int×Unit))->Int->Option ((List Ln)×Unit))(a:List Ln)(b:List (Str×Int×Unit))(c:Int)(d:Int)(e:Int)(i:Int)(j:Int)(k:Int)(l:Bool)(o:List It)(p:Str):Option ((List Ln)×Unit):=
  if(decide (d=(10:Int))) then
  (Zab.l30 n rl14 n a b c (0:Int) d e i j k l o ([]:Str))
  else(Zab.j36 n rl14 a b c d e i j k l o p)
def j26(n:Nat)(rl14:(List Ln)->(List (Str×Int×Unit))->Int->Option ((List Ln)×Unit))(a:List Ln)(b:List (Str×Int×Unit))(c:Int)(d:List It)(e:Int)(i:Int)(j:Int)(k:Int)(l:Int)(o:Bool)(p:List It)(q:Str):Option ((List Ln)×Unit):=
  Zab.j27 n rl14 a b c e i j k l o d q
def j24(n:Nat)(rl14:(List Ln)->(List (Str×Int×Unit))->Int->Option ((List Ln)×Unit))(a:List Ln)(b:List (Str×Int×Unit))(c:Int)(d:List It)(e:Bool)(i:Int)(j:Int)(k:Int)(l:Int)(o:Int)(p:Bool)(q:List It)(r:Str):Option ((List Ln)×Unit):=
  if e then
  (if(decide ((0:Int)<(b.length:Int))) then
  (if(b.length:Int)=0 then none else
  (if 0<=(Int.tmod (d.length:Int) (b.length:Int))/\(Int.tmod (d.length:Int) (b.length:Int))<(b.length:Int) then
  (Zab.j26 n rl14 a b c ([((2:Int),0,(b.getD ((Int.tmod (d.length:Int) (b.length:Int))).toNat (([]:Str),((0:Int),()))).1,())]:List It) i j k l o p q r) else none))
  else(Zab.j26 n rl14 a b c d i j k l o p q r))
  else(Zab.j26 n rl14 a b c d i j k l o p q r)
def l20(n:Nat)(rl14:(List Ln)->(List (Str×Int×Unit))->Int->Option ((List Ln)×Unit)):Nat->(List Ln)->(List (Str×Int×Unit))->Int->(List It)->Int->Int->Int->Int->Int->Int->Bool->(List It)->Str->Option ((List Ln)×Unit)
 |0,_,_,_,_,_,_,_,_,_,_,_,_,_=>none
 |m+1,a,b,c,d,e,i,j,k,l,o,p,q,r=>
  if(decide (e<(d.length:Int))) then
  (if 0<=e/\e<(d.length:Int) then
  (if 0<=e/\e<(d.length:Int) then
  ((Zab.l20 n rl14 m) a b c (d.set (e).toNat ((d.getD (e).toNat zI).1,(Int.tmod (((d.getD (e).toNat zI).2).1) (50:Int)),(((d.getD (e).toNat zI).2).2).1,())) (IntKind.i64.wrap (e+(1:Int))) i j k l o p q r) else none) else none)
  else
  (if(decide (i=(7:Int)))=false then
  (if(decide (i=(8:Int)))=false then
  (if(decide (i=(9:Int))) then
  (Zab.j24 n rl14 a b c d (decide ((Int.tmod (d.length:Int) (2:Int))=(0:Int))) i j k l o p q r)
  else(Zab.j24 n rl14 a b c d false i j k l o p q r))
  else(Zab.j24 n rl14 a b c d true i j k l o p q r))
  else(Zab.j24 n rl14 a b c d true i j k l o p q r))
def l14(n:Nat):Nat->(List Ln)->(List (Str×Int×Unit))->Int->Option ((List Ln)×Unit)
 |0,_,_,_=>none
 |m+1,a,b,c=>
  if(decide (c<(a.length:Int))) then
  (if 0<=c/\c<(a.length:Int) then
  (if(decide ((0:Int)<(((((((((((a.getD (c).toNat zL).2).1).2).2).2).2).2).2).1).length:Int))) then
  ((Zbe.g ((((((((((a.getD (c).toNat zL).2).1).2).2).2).2).2).2).1) b).bind fun y1=>
  Zab.l20 n (Zab.l14 n m) n a b c y1.1 (0:Int) ((((a.getD (c).toNat zL).2).1).1) (((((a.getD (c).toNat zL).2).1).2).1) ((((((a.getD (c).toNat zL).2).1).2).2).1) (((((((a.getD (c).toNat zL).2).1).2).2).2).1) ((((((((a.getD (c).toNat zL).2).1).2).2).2).2).1) (((((((((a.getD (c).toNat zL).2).1).2).2).2).2).2).1) ((((((((((a.getD (c).toNat zL).2).1).2).2).2).2).2).2).1) (((((((((((a.getD (c).toNat zL).2).1).2).2).2).2).2).2).2).1))
  else
  (Zab.j27 n (Zab.l14 n m) a b c ((((a.getD (c).toNat zL).2).1).1) (((((a.getD (c).toNat zL).2).1).2).1) ((((((a.getD (c).toNat zL).2).1).2).2).1) (((((((a.getD (c).toNat zL).2).1).2).2).2).1) ((((((((a.getD (c).toNat zL).2).1).2).2).2).2).1) (((((((((a.getD (c).toNat zL).2).1).2).2).2).2).2).1) ((((((((((a.getD (c).toNat zL).2).1).2).2).2).2).2).2).1) (((((((((((a.getD (c).toNat zL).2).1).2).2).2).2).2).2).2).1))) else none)
  else(some (a,()))
def j13(n:Nat)(a:List Ln)(b:List (Str×Int×Unit)):Option ((List Ln)×Unit):=
  Zab.l14 n n a b (0:Int)
def l4(n:Nat):Nat->(List Ln)->(List Ln)->(List (Str×Int×Unit))->Int->Option ((List Ln)×Unit)
 |0,_,_,_,_=>none
 |m+1,a,b,c,d=>
  if(decide (d<(a.length:Int))) then
  (if(decide (d<(20:Int))) then
  (if 0<=d/\d<(a.length:Int) then
  ((Zbl.g c ((a.getD (d).toNat zL).1)).bind fun y1=>
  if y1.2.1 then
  (Zab.j10 n (Zab.l4 n m) a b c d ([]:Str) ((((a.getD (d).toNat zL).2).1).1) (((((a.getD (d).toNat zL).2).1).2).1) ((((((a.getD (d).toNat zL).2).1).2).2).1) (((((((a.getD (d).toNat zL).2).1).2).2).2).1) ((((((((a.getD (d).toNat zL).2).1).2).2).2).2).1) (((((((((a.getD (d).toNat zL).2).1).2).2).2).2).2).1) ((((((((((a.getD (d).toNat zL).2).1).2).2).2).2).2).2).1) (((((((((((a.getD (d).toNat zL).2).1).2).2).2).2).2).2).2).1))
  else
  (Zab.j10 n (Zab.l4 n m) a b c d ((a.getD (d).toNat zL).1) ((((a.getD (d).toNat zL).2).1).1) (((((a.getD (d).toNat zL).2).1).2).1) ((((((a.getD (d).toNat zL).2).1).2).2).1) (((((((a.getD (d).toNat zL).2).1).2).2).2).1) ((((((((a.getD (d).toNat zL).2).1).2).2).2).2).1) (((((((((a.getD (d).toNat zL).2).1).2).2).2).2).2).1) ((((((((((a.getD (d).toNat zL).2).1).2).2).2).2).2).2).1) (((((((((((a.getD (d).toNat zL).2).1).2).2).2).2).2).2).2).1))) else none)
  else(Zab.j13 n b c))
  else(Zab.j13 n b c)
def f(n:Nat)(a:List Ln):Option ((List Ln)×Unit):=
  Zab.l4 n n a ([]:List Ln) ([]:List (Str×Int×Unit)) (0:Int)
def g(a:List Ln):Option ((List Ln)×Unit):=f (1000+a.length) a
end Zab
namespace Zdd
def l4(n:Nat):Nat->(List Int)->(List Int)->Int->Option (Bool×Unit)
 |0,_,_,_=>none
 |m+1,a,b,c=>
  if(decide (c<(a.length:Int))) then
  (if 0<=c/\c<(a.length:Int) then
  (if 0<=c/\c<(b.length:Int) then
  (if(decide ((a.getD (c).toNat (0:Int))≠(b.getD (c).toNat (0:Int)))) then(some (false,()))
  else
  ((Zdd.l4 n m) a b (IntKind.i64.wrap (c+(1:Int))))) else none) else none)
  else(some (true,()))
def f(n:Nat)(a:List Int)(b:List Int):Option (Bool×Unit):=
  if(decide ((a.length:Int)≠(b.length:Int))) then(some (false,()))
  else(Zdd.l4 n n a b (0:Int))
def g(a:List Int)(b:List Int):Option (Bool×Unit):=f (1000+a.length+b.length) a b
end Zdd
end Rv
namespace Rv
open Go
set_option maxRecDepth 100000
namespace Zfg
def f(n:Nat)(a:Str)(b:Int)(c:Str):Option (Int×Unit):=
  some ((L.cmpR a c),())
def g(a:Str)(b:Int)(c:Str):Option (Int×Unit):=f (1000+a.length+b.toNat+c.length) a b c
end Zfg
namespace Zct
def l3(n:Nat):Nat->(List (Str×Int×Unit))->Str->Int->Int->Int->Option (Int×Bool×Unit)
 |0,_,_,_,_,_=>none
 |m+1,a,b,c,d,e=>
  if(decide (d<e)) then
  (if 0<=(IntKind.i64.wrap (((IntKind.u64.wrap (IntKind.i64.wrap (d+e)))).fdiv (2 ^ (min (1:Int).toNat IntKind.u64.bits))))/\(IntKind.i64.wrap (((IntKind.u64.wrap (IntKind.i64.wrap (d+e)))).fdiv (2 ^ (min (1:Int).toNat IntKind.u64.bits))))<(a.length:Int) then
  ((Zfg.g ((a.getD ((IntKind.i64.wrap (((IntKind.u64.wrap (IntKind.i64.wrap (d+e)))).fdiv (2 ^ (min (1:Int).toNat IntKind.u64.bits))))).toNat (([]:Str),((0:Int),()))).1) (((a.getD ((IntKind.i64.wrap (((IntKind.u64.wrap (IntKind.i64.wrap (d+e)))).fdiv (2 ^ (min (1:Int).toNat IntKind.u64.bits))))).toNat (([]:Str),((0:Int),()))).2).1) b).bind fun y1=>
  if(decide (y1.1<(0:Int))) then
  ((Zct.l3 n m) a b c (IntKind.i64.wrap ((IntKind.i64.wrap (((IntKind.u64.wrap (IntKind.i64.wrap (d+e)))).fdiv (2 ^ (min (1:Int).toNat IntKind.u64.bits))))+(1:Int))) e)
  else
  ((Zct.l3 n m) a b c d (IntKind.i64.wrap (((IntKind.u64.wrap (IntKind.i64.wrap (d+e)))).fdiv (2 ^ (min (1:Int).toNat IntKind.u64.bits)))))) else none)
  else
  (if(decide (d<c)) then
  (if 0<=d/\d<(a.length:Int) then
  ((Zfg.g ((a.getD (d).toNat (([]:Str),((0:Int),()))).1) (((a.getD (d).toNat (([]:Str),((0:Int),()))).2).1) b).bind fun y2=>
  some (d,(decide (y2.1=(0:Int))),())) else none)
  else(some (d,false,())))
def f(n:Nat)(a:List (Str×Int×Unit))(b:Str):Option (Int×Bool×Unit):=
  Zct.l3 n n a b (a.length:Int) (0:Int) (a.length:Int)
def g(a:List (Str×Int×Unit))(b:Str):Option (Int×Bool×Unit):=f (1000+a.length+b.length) a b
end Zct
namespace Zew
def f(n:Nat)(a:Str)(b:List Int)(c:List (Str×Int×Unit))(d:List (Int×Int×Unit))(e:Int)(i:Int)(j:List Int)(k:List Int)(l:List (Str×Int×Unit)):Option (Int×(List Int)×(List (Str×Int×Unit))×(List (Int×Int×Unit))×Int×Int×(List Int)×(List Int)×(List (Str×Int×Unit))×Unit):=
  (Zcw.g c a).bind fun y1=>
  (Zct.g l a).bind fun y2=>
  (Zbg.g a).bind fun y3=>
  if(!y3.1) then(some ((9:Int),b,c,d,e,i,j,k,l,()))
  else
  (if(!y1.2.1) then(some ((25:Int),b,c,d,e,i,j,k,l,()))
  else
  (if y2.2.1 then(some ((26:Int),b,c,d,e,i,j,k,l,()))
  else
  ((L.insertO l y2.1 ([(a,y1.1,())]:List (Str×Int×Unit))).bind fun y4=>
  some ((0:Int),b,c,d,e,i,j,k,y4.1,()))))
def g(a:Str)(b:List Int)(c:List (Str×Int×Unit))(d:List (Int×Int×Unit))(e:Int)(i:Int)(j:List Int)(k:List Int)(l:List (Str×Int×Unit)):Option (Int×(List Int)×(List (Str×Int×Unit))×(List (Int×Int×Unit))×Int×Int×(List Int)×(List Int)×(List (Str×Int×Unit))×Unit):=f (1000+a.length+b.length+c.length+d.length+e.toNat+i.toNat+j.length+k.length+l.length) a b c d e i j k l
end Zew
namespace Zcf
def j3(n:Nat)(a:List Int)(b:List (Str×Int×Unit))(c:List (Int×Int×Unit))(d:Int)(e:Int)(i:List Int)(j:List Int)(k:List (Str×Int×Unit))(l:Int)(o:Int):Option ((List Int)×(List (Str×Int×Unit))×(List (Int×Int×Unit))×Int×Int×(List Int)×(List Int)×(List (Str×Int×Unit))×Unit):=
  if(i.length+([l]:List Int).length)*4<=140737488355328/\0<4/\0<1 then(some (a,b,c,d,e,(i++([l]:List Int)),j,k,())) else none
def f(n:Nat)(a:Int)(b:Int)(c:List Int)(d:List (Str×Int×Unit))(e:List (Int×Int×Unit))(i:Int)(j:Int)(k:List Int)(l:List Int)(o:List (Str×Int×Unit)):Option ((List Int)×(List (Str×Int×Unit))×(List (Int×Int×Unit))×Int×Int×(List Int)×(List Int)×(List (Str×Int×Unit))×Unit):=
  if(decide (b=(1:Int))) then
  (if(l.length+([(k.length:Int)]:List Int).length)*8<=140737488355328/\0<8/\0<1 then
  (Zcf.j3 n c d e i j k (l++([(k.length:Int)]:List Int)) o a b) else none)
  else(Zcf.j3 n c d e i j k l o a b)
def g(a:Int)(b:Int)(c:List Int)(d:List (Str×Int×Unit))(e:List (Int×Int×Unit))(i:Int)(j:Int)(k:List Int)(l:List Int)(o:List (Str×Int×Unit)):Option ((List Int)×(List (Str×Int×Unit))×(List (Int×Int×Unit))×Int×Int×(List Int)×(List Int)×(List (Str×Int×Unit))×Unit):=f (1000+a.toNat+b.toNat+c.length+d.length+e.length+i.toNat+j.toNat+k.length+l.length+o.length) a b c d e i j k l o
end Zcf
namespace Zex
def f(n:Nat)(a:Int)(b:Int)(c:Int)(d:Int)(e:Int)(i:Int)(j:Bool)(k:List Int)(l:List (Str×Int×Unit))(o:List (Int×Int×Unit))(p:Int)(q:Int)(r:List Int)(s:List Int)(t:List (Str×Int×Unit)):Option (Int×(List Int)×(List (Str×Int×Unit))×(List (Int×Int×Unit))×Int×Int×(List Int)×(List Int)×(List (Str×Int×Unit))×Unit):=
  (Zdv.g a b c d e i j).bind fun y1=>
  if(decide (y1.2.1=(0:Int))) then
  ((Zcf.g y1.1 0 k l o p q r s t).bind fun y2=>
  some (y1.2.1,y2.1,y2.2.1,y2.2.2.1,y2.2.2.2.1,y2.2.2.2.2.1,y2.2.2.2.2.2.1,y2.2.2.2.2.2.2.1,y2.2.2.2.2.2.2.2.1,()))
  else(some (y1.2.1,k,l,o,p,q,r,s,t,()))
def g(a:Int)(b:Int)(c:Int)(d:Int)(e:Int)(i:Int)(j:Bool)(k:List Int)(l:List (Str×Int×Unit))(o:List (Int×Int×Unit))(p:Int)(q:Int)(r:List Int)(s:List Int)(t:List (Str×Int×Unit)):Option (Int×(List Int)×(List (Str×Int×Unit))×(List (Int×Int×Unit))×Int×Int×(List Int)×(List Int)×(List (Str×Int×Unit))×Unit):=f (1000+a.toNat+b.toNat+c.toNat+d.toNat+e.toNat+i.toNat+k.length+l.length+o.length+p.toNat+q.toNat+r.length+s.length+t.length) a b c d e i j k l o p q r s t
end Zex
namespace Zdy
def f(n:Nat)(a:Int)(b:Int)(c:Int)(d:Int)(e:Int)(i:Bool)(j:List It)(k:Str)(l:Int)(o:List Int)(p:List (Str×Int×Unit))(q:List (Int×Int×Unit))(r:Int)(s:Int)(t:List Int)(u:List Int)(v:List (Str×Int×Unit)):Option (Int×Int×Int×Int×Int×Int×Int×Bool×(List It)×Str×Unit×Int×(List Int)×(List (Str×Int×Unit))×(List (Int×Int×Unit))×Int×Int×(List Int)×(List Int)×(List (Str×Int×Unit))×Unit):=
  (Zam.g j p).bind fun y1=>
  some (y1.1,y1.2.1,a,b,c,d,e,i,j,k,(),y1.2.2.1,o,p,q,r,s,t,u,v,())
def g(a:Int)(b:Int)(c:Int)(d:Int)(e:Int)(i:Bool)(j:List It)(k:Str)(l:Int)(o:List Int)(p:List (Str×Int×Unit))(q:List (Int×Int×Unit))(r:Int)(s:Int)(t:List Int)(u:List Int)(v:List (Str×Int×Unit)):Option (Int×Int×Int×Int×Int×Int×Int×Bool×(List It)×Str×Unit×Int×(List Int)×(List (Str×Int×Unit))×(List (Int×Int×Unit))×Int×Int×(List Int)×(List Int)×(List (Str×Int×Unit))×Unit):=f (1000+a.toNat+b.toNat+c.toNat+d.toNat+e.toNat+j.length+k.length+l.toNat+o.length+p.length+q.length+r.toNat+s.toNat+t.length+u.length+v.length) a b c d e i j k l o p q r s t u v
end Zdy
namespace Zey
def f(n:Nat)(a:Int)(b:Int)(c:Int):Option (Int×Int×Unit):=
  if(decide (b≠(1:Int))) then(some ((0:Int),(27:Int),()))
  else
  (if(decide ((Int.tmod (IntKind.i64.wrap (IntKind.i32.wrap (IntKind.u32.wrap ((IntKind.u32.wrap (a-(IntKind.u32.wrap c)))-(4:Int))))) (4:Int))≠(0:Int)))=false then
  (if(decide ((IntKind.i64.wrap (Int.tdiv (IntKind.i64.wrap (IntKind.i32.wrap (IntKind.u32.wrap ((IntKind.u32.wrap (a-(IntKind.u32.wrap c)))-(4:Int))))) (4:Int)))<(-8388608:Int)))=false then
  (if(decide ((8388608:Int)<=(IntKind.i64.wrap (Int.tdiv (IntKind.i64.wrap (IntKind.i32.wrap (IntKind.u32.wrap ((IntKind.u32.wrap (a-(IntKind.u32.wrap c)))-(4:Int))))) (4:Int))))) then(some ((0:Int),(28:Int),()))
  else
  (some ((IntKind.i64.wrap (Int.tdiv (IntKind.i64.wrap (IntKind.i32.wrap (IntKind.u32.wrap ((IntKind.u32.wrap (a-(IntKind.u32.wrap c)))-(4:Int))))) (4:Int))),(0:Int),())))
  else(some ((0:Int),(28:Int),())))
  else(some ((0:Int),(28:Int),())))
def g(a:Int)(b:Int)(c:Int):Option (Int×Int×Unit):=f (1000+a.toNat+b.toNat+c.toNat) a b c
end Zey
namespace Zee
def f(n:Nat)(a:Int)(b:Int)(c:List Int)(d:List (Str×Int×Unit))(e:List (Int×Int×Unit))(i:Int)(j:Int)(k:List Int)(l:List Int)(o:List (Str×Int×Unit)):Option (Int×(List Int)×(List (Str×Int×Unit))×(List (Int×Int×Unit))×Int×Int×(List Int)×(List Int)×(List (Str×Int×Unit))×Unit):=
  if(decide (b<(0:Int)))=false then
  (if(decide ((1:Int)<b)) then(some ((27:Int),c,d,e,i,j,k,l,o,()))
  else
  (if(decide (b=(1:Int))) then
  (if(decide ((IntKind.i64.wrap ((4:Int)*j))<(IntKind.i64.wrap a))) then(some ((28:Int),c,d,e,i,j,k,l,o,()))
  else(some ((0:Int),c,d,e,i,j,k,l,o,())))
  else(some ((0:Int),c,d,e,i,j,k,l,o,()))))
  else(some ((27:Int),c,d,e,i,j,k,l,o,()))
def g(a:Int)(b:Int)(c:List Int)(d:List (Str×Int×Unit))(e:List (Int×Int×Unit))(i:Int)(j:Int)(k:List Int)(l:List Int)(o:List (Str×Int×Unit)):Option (Int×(List Int)×(List (Str×Int×Unit))×(List (Int×Int×Unit))×Int×Int×(List Int)×(List Int)×(List (Str×Int×Unit))×Unit):=f (1000+a.toNat+b.toNat+c.length+d.length+e.length+i.toNat+j.toNat+k.length+l.length+o.length) a b c d e i j k l o
end Zee
namespace Zau
def j32(n:Nat)(a:List Int)(b:List (Str×Int×Unit))(c:List (Int×Int×Unit))(d:Int)(e:Int)(i:List Int)(j:List Int)(k:List (Str×Int×Unit))(l:Int)(o:Int)(p:Int)(q:Int)(r:Int)(s:Int)(t:Int)(u:Bool):Option (Int×(List Int)×(List (Str×Int×Unit))×(List (Int×Int×Unit))×Int×Int×(List Int)×(List Int)×(List (Str×Int×Unit))×Unit):=
  if(decide (l≠(0:Int))) then(some (l,a,b,c,d,e,i,j,k,()))
  else
  ((Zex.g o p q r s t u a b c d e i j k).bind fun y1=>
  some (y1.1,y1.2.1,y1.2.2.1,y1.2.2.2.1,y1.2.2.2.2.1,y1.2.2.2.2.2.1,y1.2.2.2.2.2.2.1,y1.2.2.2.2.2.2.2.1,y1.2.2.2.2.2.2.2.2.1,()))
def j12(n:Nat)(a:Int)(b:List Int)(c:List (Str×Int×Unit))(d:List (Int×Int×Unit))(e:Int)(i:Int)(j:List Int)(k:List Int)(l:List (Str×Int×Unit))(o:Int)(p:Int)(q:Int)(r:Int)(s:Int)(t:Bool)(u:List It)(v:Str)(w:Int)(x:Int)(z:Int)(A:Int)(B:Int)(C:Int)(D:Int)(E:Bool):Option (Int×(List Int)×(List (Str×Int×Unit))×(List (Int×Int×Unit))×Int×Int×(List Int)×(List Int)×(List (Str×Int×Unit))×Unit):=
  (Zax.g u c a (65535:Int)).bind fun y1=>
  Zau.j32 n b c d e i j k l y1.2.1 x z A B C y1.1 E
def j31(n:Nat)(a:List Int)(b:List (Str×Int×Unit))(c:List (Int×Int×Unit))(d:Int)(e:Int)(i:List Int)(j:List Int)(k:List (Str×Int×Unit))(l:Int):Option (Int×(List Int)×(List (Str×Int×Unit))×(List (Int×Int×Unit))×Int×Int×(List Int)×(List Int)×(List (Str×Int×Unit))×Unit):=
  some (l,a,b,c,d,e,i,j,k,())
def j29(n:Nat)(a:List Int)(b:List (Str×Int×Unit))(c:List (Int×Int×Unit))(d:Int)(e:Int)(i:List Int)(j:List Int)(k:List (Str×Int×Unit))(l:Int)(o:Int)(p:Int):Option (Int×(List Int)×(List (Str×Int×Unit))×(List (Int×Int×Unit))×Int×Int×(List Int)×(List Int)×(List (Str×Int×Unit))×Unit):=
  if(decide (l=(0:Int))) then
  ((Zcf.g o p a b c d e i j k).bind fun y1=>
  Zau.j31 n y1.1 y1.2.1 y1.2.2.1 y1.2.2.2.1 y1.2.2.2.2.1 y1.2.2.2.2.2.1 y1.2.2.2.2.2.2.1 y1.2.2.2.2.2.2.2.1 l)
  else(Zau.j31 n a b c d e i j k l)
def f(n:Nat)(a:Int)(b:Int)(c:Int)(d:Int)(e:Int)(i:Bool)(j:List It)(k:Str)(l:Int)(o:List Int)(p:List (Str×Int×Unit))(q:List (Int×Int×Unit))(r:Int)(s:Int)(t:List Int)(u:List Int)(v:List (Str×Int×Unit)):Option (Int×(List Int)×(List (Str×Int×Unit))×(List (Int×Int×Unit))×Int×Int×(List Int)×(List Int)×(List (Str×Int×Unit))×Unit):=
  if(decide (a=(0:Int))) then(some ((0:Int),o,p,q,r,s,t,u,v,()))
  else
  (if(decide (a=(10:Int))) then
  ((Zew.g k o p q r s t u v).bind fun y1=>
  some (y1.1,y1.2.1,y1.2.2.1,y1.2.2.2.1,y1.2.2.2.2.1,y1.2.2.2.2.2.1,y1.2.2.2.2.2.2.1,y1.2.2.2.2.2.2.2.1,y1.2.2.2.2.2.2.2.2.1,()))
  else
  (if(decide (a=(2:Int))) then
  (if(decide (b=(0:Int))) then
  (if i then
  (Zau.j12 n (0:Int) o p q r s t u v a b c d e i j k 0 a b c d e 0 i)
  else
  (Zau.j12 n (-65536:Int) o p q r s t u v a b c d e i j k 0 a b c d e 0 i))
  else
  (Zau.j12 n (-65536:Int) o p q r s t u v a b c d e i j k 0 a b c d e 0 i))
  else
  (if(decide (a=(5:Int))) then
  ((Zax.g j p (-524288:Int) (524287:Int)).bind fun y2=>
  Zau.j32 n o p q r s t u v y2.2.1 a b c d e y2.1 i)
  else
  (if(decide (a=(7:Int))) then
  ((Zdy.g a b c d e i j k 0 o p q r s t u v).bind fun y3=>
  if(decide (y3.2.2.2.2.2.2.2.2.2.2.2.1=(0:Int))) then
  ((Zey.g y3.1 y3.2.1 l).bind fun y4=>
  Zau.j32 n y3.2.2.2.2.2.2.2.2.2.2.2.2.1 y3.2.2.2.2.2.2.2.2.2.2.2.2.2.1 y3.2.2.2.2.2.2.2.2.2.2.2.2.2.2.1 y3.2.2.2.2.2.2.2.2.2.2.2.2.2.2.2.1 y3.2.2.2.2.2.2.2.2.2.2.2.2.2.2.2.2.1 y3.2.2.2.2.2.2.2.2.2.2.2.2.2.2.2.2.2.1 y3.2.2.2.2.2.2.2.2.2.2.2.2.2.2.2.2.2.2.1 y3.2.2.2.2.2.2.2.2.2.2.2.2.2.2.2.2.2.2.2.1 y4.2.1 a b c d e y4.1 i)
  else
  (Zau.j32 n y3.2.2.2.2.2.2.2.2.2.2.2.2.1 y3.2.2.2.2.2.2.2.2.2.2.2.2.2.1 y3.2.2.2.2.2.2.2.2.2.2.2.2.2.2.1 y3.2.2.2.2.2.2.2.2.2.2.2.2.2.2.2.1 y3.2.2.2.2.2.2.2.2.2.2.2.2.2.2.2.2.1 y3.2.2.2.2.2.2.2.2.2.2.2.2.2.2.2.2.2.1 y3.2.2.2.2.2.2.2.2.2.2.2.2.2.2.2.2.2.2.1 y3.2.2.2.2.2.2.2.2.2.2.2.2.2.2.2.2.2.2.2.1 y3.2.2.2.2.2.2.2.2.2.2.2.1 a b c d e 0 i))
  else
  (if(decide (a=(8:Int))) then
  ((Zdy.g a b c d e i j k 0 o p q r s t u v).bind fun y5=>
  if(decide (y5.2.2.2.2.2.2.2.2.2.2.2.1=(0:Int))) then
  ((Zco.g y5.2.2.2.2.2.2.2.2.2.2.2.2.2.2.1 y5.1 y5.2.1).bind fun y6=>
  (Zee.g y5.1 y5.2.1 y5.2.2.2.2.2.2.2.2.2.2.2.2.1 y5.2.2.2.2.2.2.2.2.2.2.2.2.2.1 y5.2.2.2.2.2.2.2.2.2.2.2.2.2.2.1 y5.2.2.2.2.2.2.2.2.2.2.2.2.2.2.2.1 y5.2.2.2.2.2.2.2.2.2.2.2.2.2.2.2.2.1 y5.2.2.2.2.2.2.2.2.2.2.2.2.2.2.2.2.2.1 y5.2.2.2.2.2.2.2.2.2.2.2.2.2.2.2.2.2.2.1 y5.2.2.2.2.2.2.2.2.2.2.2.2.2.2.2.2.2.2.2.1).bind fun y7=>
  Zau.j32 n y7.2.1 y7.2.2.1 y7.2.2.2.1 y7.2.2.2.2.1 y7.2.2.2.2.2.1 y7.2.2.2.2.2.2.1 y7.2.2.2.2.2.2.2.1 y7.2.2.2.2.2.2.2.2.1 y7.1 (5:Int) (0:Int) y5.2.2.2.2.1 (13:Int) 0 (IntKind.i64.wrap (y5.2.2.2.2.2.2.2.2.2.2.2.2.2.2.2.1+(IntKind.i64.wrap ((4:Int)*y6.2.1)))) false)
  else
  (Zau.j32 n y5.2.2.2.2.2.2.2.2.2.2.2.2.1 y5.2.2.2.2.2.2.2.2.2.2.2.2.2.1 y5.2.2.2.2.2.2.2.2.2.2.2.2.2.2.1 y5.2.2.2.2.2.2.2.2.2.2.2.2.2.2.2.1 y5.2.2.2.2.2.2.2.2.2.2.2.2.2.2.2.2.1 y5.2.2.2.2.2.2.2.2.2.2.2.2.2.2.2.2.2.1 y5.2.2.2.2.2.2.2.2.2.2.2.2.2.2.2.2.2.2.1 y5.2.2.2.2.2.2.2.2.2.2.2.2.2.2.2.2.2.2.2.1 y5.2.2.2.2.2.2.2.2.2.2.2.1 a b c d e 0 i))
  else
  (if(decide (a=(9:Int))) then
  ((Zdy.g a b c d e i j k 0 o p q r s t u v).bind fun y8=>
  if(decide (y8.2.2.2.2.2.2.2.2.2.2.2.1=(0:Int))) then
  ((Zee.g y8.1 y8.2.1 y8.2.2.2.2.2.2.2.2.2.2.2.2.1 y8.2.2.2.2.2.2.2.2.2.2.2.2.2.1 y8.2.2.2.2.2.2.2.2.2.2.2.2.2.2.1 y8.2.2.2.2.2.2.2.2.2.2.2.2.2.2.2.1 y8.2.2.2.2.2.2.2.2.2.2.2.2.2.2.2.2.1 y8.2.2.2.2.2.2.2.2.2.2.2.2.2.2.2.2.2.1 y8.2.2.2.2.2.2.2.2.2.2.2.2.2.2.2.2.2.2.1 y8.2.2.2.2.2.2.2.2.2.2.2.2.2.2.2.2.2.2.2.1).bind fun y9=>
  Zau.j29 n y9.2.1 y9.2.2.1 y9.2.2.2.1 y9.2.2.2.2.1 y9.2.2.2.2.2.1 y9.2.2.2.2.2.2.1 y9.2.2.2.2.2.2.2.1 y9.2.2.2.2.2.2.2.2.1 y9.1 y8.1 y8.2.1)
  else
  (Zau.j29 n y8.2.2.2.2.2.2.2.2.2.2.2.2.1 y8.2.2.2.2.2.2.2.2.2.2.2.2.2.1 y8.2.2.2.2.2.2.2.2.2.2.2.2.2.2.1 y8.2.2.2.2.2.2.2.2.2.2.2.2.2.2.2.1 y8.2.2.2.2.2.2.2.2.2.2.2.2.2.2.2.2.1 y8.2.2.2.2.2.2.2.2.2.2.2.2.2.2.2.2.2.1 y8.2.2.2.2.2.2.2.2.2.2.2.2.2.2.2.2.2.2.1 y8.2.2.2.2.2.2.2.2.2.2.2.2.2.2.2.2.2.2.2.1 y8.2.2.2.2.2.2.2.2.2.2.2.1 y8.1 y8.2.1))
  else(Zau.j32 n o p q r s t u v 0 a b c d e 0 i)))))))
def g(a:Int)(b:Int)(c:Int)(d:Int)(e:Int)(i:Bool)(j:List It)(k:Str)(l:Int)(o:List Int)(p:List (Str×Int×Unit))(q:List (Int×Int×Unit))(r:Int)(s:Int)(t:List Int)(u:List Int)(v:List (Str×Int×Unit)):Option (Int×(List Int)×(List (Str×Int×Unit))×(List (Int×Int×Unit))×Int×Int×(List Int)×(List Int)×(List (Str×Int×Unit))×Unit):=f (1000+a.toNat+b.toNat+c.toNat+d.toNat+e.toNat+j.length+k.length+l.toNat+o.length+p.length+q.length+r.toNat+s.toNat+t.length+u.length+v.length) a b c d e i j k l o p q r s t u v
end Zau
namespace Zbi
def l14(n:Nat):Nat->(List (Int×Int×Unit))->Int->Int->(List Int)->(List Int)->(List (Str×Int×Unit))->(List Int)->(List (Str×Int×Unit))->(List (Int×Int×Unit))->Int->Int->(List Int)->(List Int)->(List (Str×Int×Unit))->Option ((List Int)×(List Int)×(List (Str×Int×Unit))×Int×Int×Unit)
 |0,_,_,_,_,_,_,_,_,_,_,_,_,_,_=>none
 |m+1,a,b,c,d,e,i,j,k,l,o,p,q,r,s=>
  if(decide (c<b)) then
  (if 0<=c/\c<(a.length:Int) then
  ((Zcf.g ((a.getD (c).toNat ((0:Int),((0:Int),()))).1) (((a.getD (c).toNat ((0:Int),((0:Int),()))).2).1) j k l o p q r s).bind fun y1=>
  (Zbi.l14 n m) a b (IntKind.i64.wrap (c+(1:Int))) d e i y1.1 y1.2.1 y1.2.2.1 y1.2.2.2.1 y1.2.2.2.2.1 y1.2.2.2.2.2.1 y1.2.2.2.2.2.2.1 y1.2.2.2.2.2.2.2.1) else none)
  else
  (if(decide ((64:Int)<(s.length:Int))) then(some ([],[],[],(0:Int),(2:Int),()))
  else(some (q,r,s,(0:Int),(0:Int),())))
def l7(n:Nat):Nat->(List Ln)->Int->Int->(List Int)->(List Int)->(List (Str×Int×Unit))->(List Int)->(List (Str×Int×Unit))->(List (Int×Int×Unit))->Int->Int->(List Int)->(List (Str×Int×Unit))->(List (Int×Int×Unit))->Int->Int->(List Int)->(List Int)->(List (Str×Int×Unit))->Option ((List Int)×(List Int)×(List (Str×Int×Unit))×Int×Int×Unit)
 |0,_,_,_,_,_,_,_,_,_,_,_,_,_,_,_,_,_,_,_=>none
 |m+1,a,b,c,d,e,i,j,k,l,o,p,q,r,s,t,u,v,w,x=>
  if(decide (c<b)) then
  (if 0<=c/\c<(a.length:Int) then
  (if 0<=c/\c<(j.length:Int) then
  ((Zau.g ((((a.getD (c).toNat zL).2).1).1) (((((a.getD (c).toNat zL).2).1).2).1) ((((((a.getD (c).toNat zL).2).1).2).2).1) (((((((a.getD (c).toNat zL).2).1).2).2).2).1) ((((((((a.getD (c).toNat zL).2).1).2).2).2).2).1) (((((((((a.getD (c).toNat zL).2).1).2).2).2).2).2).1) ((((((((((a.getD (c).toNat zL).2).1).2).2).2).2).2).2).1) (((((((((((a.getD (c).toNat zL).2).1).2).2).2).2).2).2).2).1) (j.getD (c).toNat (0:Int)) q r s t u v w x).bind fun y1=>
  if(decide (y1.1≠(0:Int))) then
  (some ([],[],[],(IntKind.i64.wrap (c+(1:Int))),y1.1,()))
  else
  ((Zbi.l7 n m) a b (IntKind.i64.wrap (c+(1:Int))) d e i j k l o p y1.2.1 y1.2.2.1 y1.2.2.2.1 y1.2.2.2.2.1 y1.2.2.2.2.2.1 y1.2.2.2.2.2.2.1 y1.2.2.2.2.2.2.2.1 y1.2.2.2.2.2.2.2.2.1)) else none) else none)
  else
  (Zbi.l14 n n l (l.length:Int) (0:Int) d e i q r s t u v w x)
def f(n:Nat)(a:List Ln):Option ((List Int)×(List Int)×(List (Str×Int×Unit))×Int×Int×Unit):=
  (Zbv.g a).bind fun y1=>
  if(decide (y1.2.2.2.2.2.2.1≠(0:Int))) then(some ([],[],[],y1.2.2.2.2.2.1,y1.2.2.2.2.2.2.1,()))
  else
  (Zbi.l7 n n a (a.length:Int) (0:Int) ([]) ([]) ([]) y1.1 y1.2.1 y1.2.2.1 y1.2.2.2.1 y1.2.2.2.2.1 y1.1 y1.2.1 y1.2.2.1 y1.2.2.2.1 y1.2.2.2.2.1 ([]) ([]) ([]))
def g(a:List Ln):Option ((List Int)×(List Int)×(List (Str×Int×Unit))×Int×Int×Unit):=f (1000+a.length) a
end Zbi
namespace Zde
def f(n:Nat)(a:Str):Option ((List Int)×(List Int)×(List (Str×Int×Unit))×Int×Int×Unit):=
  (Zdb.g a).bind fun y1=>
  if(decide (y1.2.2.1≠(0:Int))) then(some ([],[],[],y1.2.1,y1.2.2.1,()))
  else
  ((Zbi.g y1.1).bind fun y2=>
  some (y2.1,y2.2.1,y2.2.2.1,y2.2.2.2.1,y2.2.2.2.2.1,()))
def g(a:Str):Option ((List Int)×(List Int)×(List (Str×Int×Unit))×Int×Int×Unit):=f (1000+a.length) a
end Zde
namespace Zcq
def l4(n:Nat):Nat->(List Int)->(List Int)->Int->Option (Bool×Unit)
 |0,_,_,_=>none
 |m+1,a,b,c=>
  if(decide (c<(a.length:Int))) then
  (if 0<=c/\c<(a.length:Int) then
  (if 0<=c/\c<(b.length:Int) then
  (if(decide ((a.getD (c).toNat (0:Int))≠(b.getD (c).toNat (0:Int)))) then(some (false,()))
  else
  ((Zcq.l4 n m) a b (IntKind.i64.wrap (c+(1:Int))))) else none) else none)
  else(some (true,()))
def f(n:Nat)(a:List Int)(b:List Int):Option (Bool×Unit):=
  if(decide ((a.length:Int)≠(b.length:Int))) then(some (false,()))
  else(Zcq.l4 n n a b (0:Int))
def g(a:List Int)(b:List Int):Option (Bool×Unit):=f (1000+a.length+b.length) a b
end Zcq
namespace Zdf
def j3(n:Nat)(a:Int)(b:Int)(c:Int):Option (Int×Unit):=
  if(decide (c=(1:Int))) then
  (if(decide ((IntKind.i64.wrap ((4:Int)*a))<(IntKind.i64.wrap b))) then(some ((28:Int),()))
  else(some ((0:Int),())))
  else(some ((0:Int),()))
def f(n:Nat)(a:Int)(b:Int)(c:Int):Option (Int×Unit):=
  if(decide (b≠(0:Int))) then
  (if(decide (b≠(1:Int))) then(some ((27:Int),()))
  else(Zdf.j3 n c a b))
  else(Zdf.j3 n c a b)
def g(a:Int)(b:Int)(c:Int):Option (Int×Unit):=f (1000+a.toNat+b.toNat+c.toNat) a b c
end Zdf
namespace Zaq
def j30(n:Nat)(a:Int)(b:Int)(c:Int)(d:Int)(e:Int)(i:Int)(j:Int)(k:Bool):Option (Int×Bool×Int×Unit):=
  if(decide (a≠(0:Int))) then(some ((0:Int),false,a,()))
  else
  ((Zdp.g b c d e i j k).bind fun y1=>
  some (y1.1,false,y1.2.1,()))
def j8(n:Nat)(a:Int)(b:Int)(c:Int)(d:Int)(e:Int)(i:Int)(j:Bool)(k:List It)(l:Str)(o:List Int)(p:List (Str×Int×Unit))(q:List (Int×Int×Unit))(r:Int)(s:Int)(t:Int)(u:Int)(v:Int)(w:Int)(x:Int)(z:Int)(A:Bool):Option (Int×Bool×Int×Unit):=
  (Zbs.g k p a (65535:Int)).bind fun y1=>
  Zaq.j30 n y1.2.1 t u v w x y1.1 A
def j19(n:Nat)(a:Int)(b:Int)(c:Int)(d:Int)(e:Int)(i:Int)(j:Int)(k:Int)(l:Bool):Option (Int×Bool×Int×Unit):=
  Zaq.j30 n a c d e i j (IntKind.i64.wrap (Int.tdiv b (4:Int))) l
def j17(n:Nat)(a:Int)(b:Int)(c:Int)(d:Int)(e:Int)(i:Int)(j:Int)(k:Int)(l:Bool):Option (Int×Bool×Int×Unit):=
  if(decide (a=(0:Int))) then
  (if(decide ((Int.tmod b (4:Int))≠(0:Int)))=false then
  ((Zcn.g (IntKind.i64.wrap (Int.tdiv b (4:Int))) (24:Int)).bind fun y1=>
  if(!y1.1) then(Zaq.j19 n (28:Int) b c d e i j k l)
  else(Zaq.j19 n a b c d e i j k l))
  else(Zaq.j19 n (28:Int) b c d e i j k l))
  else(Zaq.j19 n a b c d e i j k l)
def j29(n:Nat)(a:Int)(b:Int)(c:Int):Option (Int×Bool×Int×Unit):=
  some (b,(decide (c=(1:Int))),a,())
def f(n:Nat)(a:Int)(b:Int)(c:Int)(d:Int)(e:Int)(i:Bool)(j:List It)(k:Str)(l:Int)(o:List Int)(p:List (Str×Int×Unit))(q:List (Int×Int×Unit))(r:Int)(s:Int):Option (Int×Bool×Int×Unit):=
  (Zfj.g a b c d e i j k).bind fun y1=>
  if(decide (a=(2:Int))) then
  (if(decide (b=(0:Int))) then
  (if i then
  (Zaq.j8 n (0:Int) a b c d e i j k o p q r s y1.1 y1.2.1 y1.2.2.1 y1.2.2.2.1 y1.2.2.2.2.1 y1.2.2.2.2.2.1 y1.2.2.2.2.2.2.1)
  else
  (Zaq.j8 n (-65536:Int) a b c d e i j k o p q r s y1.1 y1.2.1 y1.2.2.1 y1.2.2.2.1 y1.2.2.2.2.1 y1.2.2.2.2.2.1 y1.2.2.2.2.2.2.1))
  else
  (Zaq.j8 n (-65536:Int) a b c d e i j k o p q r s y1.1 y1.2.1 y1.2.2.1 y1.2.2.2.1 y1.2.2.2.2.1 y1.2.2.2.2.2.1 y1.2.2.2.2.2.2.1))
  else
  (if(decide (a=(5:Int))) then
  ((Zbs.g j p (-524288:Int) (524287:Int)).bind fun y2=>
  Zaq.j30 n y2.2.1 y1.1 y1.2.1 y1.2.2.1 y1.2.2.2.1 y1.2.2.2.2.1 y2.1 y1.2.2.2.2.2.2.1)
  else
  (if(decide (a=(7:Int))) then
  ((Zal.g j p).bind fun y3=>
  (Zer.g (IntKind.u32.wrap ((IntKind.u32.wrap (y3.1-(IntKind.u32.wrap l)))-(4:Int))) (32:Int)).bind fun y4=>
  if(decide (y3.2.2.1=(0:Int))) then
  (if(decide (y3.2.1≠(1:Int))) then
  (Zaq.j17 n (27:Int) y4.1 y1.1 y1.2.1 y1.2.2.1 y1.2.2.2.1 y1.2.2.2.2.1 y1.2.2.2.2.2.1 y1.2.2.2.2.2.2.1)
  else
  (Zaq.j17 n y3.2.2.1 y4.1 y1.1 y1.2.1 y1.2.2.1 y1.2.2.2.1 y1.2.2.2.2.1 y1.2.2.2.2.2.1 y1.2.2.2.2.2.2.1))
  else
  (Zaq.j17 n y3.2.2.1 y4.1 y1.1 y1.2.1 y1.2.2.1 y1.2.2.2.1 y1.2.2.2.2.1 y1.2.2.2.2.2.1 y1.2.2.2.2.2.2.1))
  else
  (if(decide (a=(8:Int))) then
  ((Zal.g j p).bind fun y5=>
  (Zcp.g q y5.1 y5.2.1).bind fun y6=>
  (Zdf.g y5.1 y5.2.1 s).bind fun y7=>
  Zaq.j30 n y7.1 (5:Int) (0:Int) c (13:Int) 0 (IntKind.i64.wrap (r+(IntKind.i64.wrap ((4:Int)*y6.2.1)))) false)
  else
  (if(decide (a=(9:Int))) then
  ((Zal.g j p).bind fun y8=>
  if(decide (y8.2.2.1=(0:Int))) then
  ((Zdf.g y8.1 y8.2.1 s).bind fun y9=>
  Zaq.j29 n y9.1 y8.1 y8.2.1)
  else(Zaq.j29 n y8.2.2.1 y8.1 y8.2.1))
  else
  (Zaq.j30 n (0:Int) y1.1 y1.2.1 y1.2.2.1 y1.2.2.2.1 y1.2.2.2.2.1 y1.2.2.2.2.2.1 y1.2.2.2.2.2.2.1)))))
def g(a:Int)(b:Int)(c:Int)(d:Int)(e:Int)(i:Bool)(j:List It)(k:Str)(l:Int)(o:List Int)(p:List (Str×Int×Unit))(q:List (Int×Int×Unit))(r:Int)(s:Int):Option (Int×Bool×Int×Unit):=f (1000+a.toNat+b.toNat+c.toNat+d.toNat+e.toNat+j.length+k.length+l.toNat+o.length+p.length+q.length+r.toNat+s.toNat) a b c d e i j k l o p q r s
end Zaq
namespace Zad
def j7(n:Nat)(rl6:(List Ln)->Int->(List Int)->(List Int)->(List (Str×Int×Unit))->(List Int)->(List (Str×Int×Unit))->(List (Int×Int×Unit))->Int->Int->(List Int)->(List Int)->(List (Str×Int×Unit))->Option ((List Int)×(List Int)×(List (Str×Int×Unit))×Int×Int×Unit))(a:List Ln)(b:Int)(c:List Int)(d:List Int)(e:List (Str×Int×Unit))(i:List Int)(j:List (Str×Int×Unit))(k:List (Int×Int×Unit))(l:Int)(o:Int)(p:List Int)(q:List Int)(r:List (Str×Int×Unit)):Option ((List Int)×(List Int)×(List (Str×Int×Unit))×Int×Int×Unit):=
  rl6 a (IntKind.i64.wrap (b+(1:Int))) c d e i j k l o p q r
def j21(n:Nat)(rl6:(List Ln)->Int->(List Int)->(List Int)->(List (Str×Int×Unit))->(List Int)->(List (Str×Int×Unit))->(List (Int×Int×Unit))->Int->Int->(List Int)->(List Int)->(List (Str×Int×Unit))->Option ((List Int)×(List Int)×(List (Str×Int×Unit))×Int×Int×Unit))(a:List Ln)(b:Int)(c:Int)(d:Int)(e:List Int)(i:List Int)(j:List (Str×Int×Unit))(k:List Int)(l:List (Str×Int×Unit))(o:List (Int×Int×Unit))(p:Int)(q:Int)(r:List Int)(s:List Int)(t:List (Str×Int×Unit))(u:Int)(v:Int)(w:Int)(x:Int)(z:Int)(A:Bool)(B:List It)(C:Str):Option ((List Int)×(List Int)×(List (Str×Int×Unit))×Int×Int×Unit):=
  if 0<=d/\d<=(t.length:Int) then
  (if(([(C,c,())]:List (Str×Int×Unit)).length+((t.take (((t.length:Int)).toNat)).drop ((d).toNat)).length)*24<=140737488355328/\0<24/\0<2 then
  (if 0<=d/\d<=(t.length:Int) then
  (if(([]:List (Str×Int×Unit)).length+(t.take (d).toNat).length)*24<=140737488355328/\0<24/\0<2 then
  (if((([]:List (Str×Int×Unit))++(t.take (d).toNat)).length+(([(C,c,())]:List (Str×Int×Unit))++((t.take (((t.length:Int)).toNat)).drop ((d).toNat))).length)*24<=140737488355328/\0<24/\0<2 then
  (Zad.j7 n rl6 a b e i j k l o p q r s ((([]:List (Str×Int×Unit))++(t.take (d).toNat))++(([(C,c,())]:List (Str×Int×Unit))++((t.take (((t.length:Int)).toNat)).drop ((d).toNat))))) else none) else none) else none) else none) else none
def j19(n:Nat)(rl6:(List Ln)->Int->(List Int)->(List Int)->(List (Str×Int×Unit))->(List Int)->(List (Str×Int×Unit))->(List (Int×Int×Unit))->Int->Int->(List Int)->(List Int)->(List (Str×Int×Unit))->Option ((List Int)×(List Int)×(List (Str×Int×Unit))×Int×Int×Unit))(a:List Ln)(b:Int)(c:Int)(d:Int)(e:List Int)(i:List Int)(j:List (Str×Int×Unit))(k:List Int)(l:List (Str×Int×Unit))(o:List (Int×Int×Unit))(p:Int)(q:Int)(r:List Int)(s:List Int)(t:List (Str×Int×Unit))(u:Int)(v:Int)(w:Int)(x:Int)(z:Int)(A:Bool)(B:List It)(C:Str):Option ((List Int)×(List Int)×(List (Str×Int×Unit))×Int×Int×Unit):=
  if(decide (d<(t.length:Int))) then
  (if 0<=d/\d<(t.length:Int) then
  (if(decide ((t.getD (d).toNat (([]:Str),((0:Int),()))).1=C)) then
  (some ([],[],[],(IntKind.i64.wrap (b+(1:Int))),(26:Int),()))
  else
  (Zad.j21 n rl6 a b c d e i j k l o p q r s t u v w x z A B C)) else none)
  else
  (Zad.j21 n rl6 a b c d e i j k l o p q r s t u v w x z A B C)
def l17(n:Nat)(rl6:(List Ln)->Int->(List Int)->(List Int)->(List (Str×Int×Unit))->(List Int)->(List (Str×Int×Unit))->(List (Int×Int×Unit))->Int->Int->(List Int)->(List Int)->(List (Str×Int×Unit))->Option ((List Int)×(List Int)×(List (Str×Int×Unit))×Int×Int×Unit)):Nat->(List Ln)->Int->Int->Int->(List Int)->(List Int)->(List (Str×Int×Unit))->(List Int)->(List (Str×Int×Unit))->(List (Int×Int×Unit))->Int->Int->(List Int)->(List Int)->(List (Str×Int×Unit))->Int->Int->Int->Int->Int->Bool->(List It)->Str->Option ((List Int)×(List Int)×(List (Str×Int×Unit))×Int×Int×Unit)
 |0,_,_,_,_,_,_,_,_,_,_,_,_,_,_,_,_,_,_,_,_,_,_,_=>none
 |m+1,a,b,c,d,e,i,j,k,l,o,p,q,r,s,t,u,v,w,x,z,A,B,C=>
  if(decide (d<(t.length:Int))) then
  (if 0<=d/\d<(t.length:Int) then
  (if(Op.bytesLess ((t.getD (d).toNat (([]:Str),((0:Int),()))).1) C) then
  ((Zad.l17 n rl6 m) a b c (IntKind.i64.wrap (d+(1:Int))) e i j k l o p q r s t u v w x z A B C)
  else
  (Zad.j19 n rl6 a b c d e i j k l o p q r s t u v w x z A B C)) else none)
  else
  (Zad.j19 n rl6 a b c d e i j k l o p q r s t u v w x z A B C)
def j28(n:Nat)(rl6:(List Ln)->Int->(List Int)->(List Int)->(List (Str×Int×Unit))->(List Int)->(List (Str×Int×Unit))->(List (Int×Int×Unit))->Int->Int->(List Int)->(List Int)->(List (Str×Int×Unit))->Option ((List Int)×(List Int)×(List (Str×Int×Unit))×Int×Int×Unit))(a:List Ln)(b:Int)(c:Int)(d:List Int)(e:List Int)(i:List (Str×Int×Unit))(j:List Int)(k:List (Str×Int×Unit))(l:List (Int×Int×Unit))(o:Int)(p:Int)(q:List Int)(r:List Int)(s:List (Str×Int×Unit)):Option ((List Int)×(List Int)×(List (Str×Int×Unit))×Int×Int×Unit):=
  if(q.length+([c]:List Int).length)*4<=140737488355328/\0<4/\0<1 then
  (Zad.j7 n rl6 a b d e i j k l o p (q++([c]:List Int)) r s) else none
def j34(n:Nat)(BD:Int->(List Int)->(List Int)->(List (Str×Int×Unit))->(List Int)->(List (Str×Int×Unit))->(List (Int×Int×Unit))->Int->Int->(List Int)->(List Int)->(List (Str×Int×Unit))->Option ((List Int)×(List Int)×(List (Str×Int×Unit))×Int×Int×Unit))(a:Int)(b:List Int)(c:List Int)(d:List (Str×Int×Unit))(e:List Int)(i:List (Str×Int×Unit))(j:List (Int×Int×Unit))(k:Int)(l:Int)(o:List Int)(p:List Int)(q:List (Str×Int×Unit)):Option ((List Int)×(List Int)×(List (Str×Int×Unit))×Int×Int×Unit):=
  if 0<=a/\a<(j.length:Int) then
  (if(o.length+([(j.getD (a).toNat ((0:Int),((0:Int),()))).1]:List Int).length)*4<=140737488355328/\0<4/\0<1 then
  (BD (IntKind.i64.wrap (a+(1:Int))) b c d e i j k l (o++([(j.getD (a).toNat ((0:Int),((0:Int),()))).1]:List Int)) p q) else none) else none
def l30(n:Nat):Nat->Int->(List Int)->(List Int)->(List (Str×Int×Unit))->(List Int)->(List (Str×Int×Unit))->(List (Int×Int×Unit))->Int->Int->(List Int)->(List Int)->(List (Str×Int×Unit))->Option ((List Int)×(List Int)×(List (Str×Int×Unit))×Int×Int×Unit)
 |0,_,_,_,_,_,_,_,_,_,_,_,_=>none
 |m+1,a,b,c,d,e,i,j,k,l,o,p,q=>
  if(decide (a<(j.length:Int))) then
  (if 0<=a/\a<(j.length:Int) then
  (if(decide (((j.getD (a).toNat ((0:Int),((0:Int),()))).2).1=(1:Int))) then
  (if(p.length+([(o.length:Int)]:List Int).length)*8<=140737488355328/\0<8/\0<1 then
  (Zad.j34 n (Zad.l30 n m) a b c d e i j k l o (p++([(o.length:Int)]:List Int)) q) else none)
  else
  (Zad.j34 n (Zad.l30 n m) a b c d e i j k l o p q)) else none)
  else
  (if(decide ((64:Int)<(q.length:Int))) then(some ([],[],[],(0:Int),(2:Int),()))
  else(some (o,p,q,(0:Int),(0:Int),())))
def l6(n:Nat):Nat->(List Ln)->Int->(List Int)->(List Int)->(List (Str×Int×Unit))->(List Int)->(List (Str×Int×Unit))->(List (Int×Int×Unit))->Int->Int->(List Int)->(List Int)->(List (Str×Int×Unit))->Option ((List Int)×(List Int)×(List (Str×Int×Unit))×Int×Int×Unit)
 |0,_,_,_,_,_,_,_,_,_,_,_,_,_=>none
 |m+1,a,b,c,d,e,i,j,k,l,o,p,q,r=>
  if(decide (b<(a.length:Int))) then
  (if 0<=b/\b<(a.length:Int) then
  (if(decide ((((a.getD (b).toNat zL).2).1).1=(0:Int))) then
  (Zad.j7 n (Zad.l6 n m) a b c d e i j k l o p q r)
  else
  (if(decide ((((a.getD (b).toNat zL).2).1).1=(10:Int))) then
  ((Zbl.g j (((((((((((a.getD (b).toNat zL).2).1).2).2).2).2).2).2).2).1)).bind fun y1=>
  (Zaz.g (((((((((((a.getD (b).toNat zL).2).1).2).2).2).2).2).2).2).1)).bind fun y2=>
  if(!y2.1) then
  (some ([],[],[],(IntKind.i64.wrap (b+(1:Int))),(9:Int),()))
  else
  (if(!y1.2.1) then
  (some ([],[],[],(IntKind.i64.wrap (b+(1:Int))),(25:Int),()))
  else
  (Zad.l17 n (Zad.l6 n m) n a b y1.1 (0:Int) c d e i j k l o p q r ((((a.getD (b).toNat zL).2).1).1) (((((a.getD (b).toNat zL).2).1).2).1) ((((((a.getD (b).toNat zL).2).1).2).2).1) (((((((a.getD (b).toNat zL).2).1).2).2).2).1) ((((((((a.getD (b).toNat zL).2).1).2).2).2).2).1) (((((((((a.getD (b).toNat zL).2).1).2).2).2).2).2).1) ((((((((((a.getD (b).toNat zL).2).1).2).2).2).2).2).2).1) (((((((((((a.getD (b).toNat zL).2).1).2).2).2).2).2).2).2).1))))
  else
  (if 0<=b/\b<(i.length:Int) then
  ((Zaq.g ((((a.getD (b).toNat zL).2).1).1) (((((a.getD (b).toNat zL).2).1).2).1) ((((((a.getD (b).toNat zL).2).1).2).2).1) (((((((a.getD (b).toNat zL).2).1).2).2).2).1) ((((((((a.getD (b).toNat zL).2).1).2).2).2).2).1) (((((((((a.getD (b).toNat zL).2).1).2).2).2).2).2).1) ((((((((((a.getD (b).toNat zL).2).1).2).2).2).2).2).2).1) (((((((((((a.getD (b).toNat zL).2).1).2).2).2).2).2).2).2).1) (i.getD (b).toNat (0:Int)) i j k l o).bind fun y3=>
  if(decide (y3.2.2.1≠(0:Int))) then
  (some ([],[],[],(IntKind.i64.wrap (b+(1:Int))),y3.2.2.1,()))
  else
  (if y3.2.1 then
  (if(q.length+([(p.length:Int)]:List Int).length)*8<=140737488355328/\0<8/\0<1 then
  (Zad.j28 n (Zad.l6 n m) a b y3.1 c d e i j k l o p (q++([(p.length:Int)]:List Int)) r) else none)
  else
  (Zad.j28 n (Zad.l6 n m) a b y3.1 c d e i j k l o p q r))) else none))) else none)
  else(Zad.l30 n n (0:Int) c d e i j k l o p q r)
def f(n:Nat)(a:List Ln):Option ((List Int)×(List Int)×(List (Str×Int×Unit))×Int×Int×Unit):=
  (Zah.g a).bind fun y1=>
  if(decide (y1.2.2.2.2.2.2.1≠(0:Int))) then(some ([],[],[],y1.2.2.2.2.2.1,y1.2.2.2.2.2.2.1,()))
  else
  (Zad.l6 n n a (0:Int) ([]) ([]) ([]) y1.1 y1.2.1 y1.2.2.1 y1.2.2.2.1 y1.2.2.2.2.1 ([]) ([]) ([]))
def g(a:List Ln):Option ((List Int)×(List Int)×(List (Str×Int×Unit))×Int×Int×Unit):=f (1000+a.length) a
end Zad
namespace Zef
def f(n:Nat)(a:Str):Option ((List Int)×(List Int)×(List (Str×Int×Unit))×Int×Int×Unit):=
  (Zdc.g a).bind fun y1=>
  if(decide (y1.2.2.1≠(0:Int))) then(some ([],[],[],y1.2.1,y1.2.2.1,()))
  else
  ((Zad.g y1.1).bind fun y2=>
  some (y2.1,y2.2.1,y2.2.2.1,y2.2.2.2.1,y2.2.2.2.2.1,()))
def g(a:Str):Option ((List Int)×(List Int)×(List (Str×Int×Unit))×Int×Int×Unit):=f (1000+a.length) a
end Zef
namespace Zcg
def l4(n:Nat):Nat->Int->(List Int)->(List Int)->(List (Str×Int×Unit))->(List Int)->(List Int)->(List (Str×Int×Unit))->Option (Bool×Unit)
 |0,_,_,_,_,_,_,_=>none
 |m+1,a,b,c,d,e,i,j=>
  if(decide (a<(d.length:Int))) then
  (if 0<=a/\a<(d.length:Int) then
  (if 0<=a/\a<(j.length:Int) then
  (if(!(decide ((d.getD (a).toNat (([]:Str),((0:Int),()))).1=(j.getD (a).toNat (([]:Str),((0:Int),()))).1)&&(decide (((d.getD (a).toNat (([]:Str),((0:Int),()))).2).1=((j.getD (a).toNat (([]:Str),((0:Int),()))).2).1)&&true))) then(some (false,()))
  else
  ((Zcg.l4 n m) (IntKind.i64.wrap (a+(1:Int))) b c d e i j)) else none) else none)
  else(some (true,()))
def f(n:Nat)(a:List Int)(b:List Int)(c:List (Str×Int×Unit))(d:List Int)(e:List Int)(i:List (Str×Int×Unit)):Option (Bool×Unit):=
  (Zcq.g a d).bind fun y1=>
  if(!y1.1)=false then
  ((Zdd.g b e).bind fun y2=>
  if(!y2.1)=false then
  (if(decide ((c.length:Int)≠(i.length:Int))) then(some (false,()))
  else(Zcg.l4 n n (0:Int) a b c d e i))
  else(some (false,())))
  else(some (false,()))
def g(a:List Int)(b:List Int)(c:List (Str×Int×Unit))(d:List Int)(e:List Int)(i:List (Str×Int×Unit)):Option (Bool×Unit):=f (1000+a.length+b.length+c.length+d.length+e.length+i.length) a b c d e i
end Zcg
end Rv
namespace Rv
open Go
set_option maxRecDepth 100000
namespace Zez
def f(n:Nat):Option (Bool×Unit):=
  (Zde.g ([97,58,32,77,79,86,32,82,49,44,32,53,10,66,32,97,10]:Str)).bind fun y1=>
  (Zcq.g y1.1 ([(1090519045:Int),(3892314110:Int)]:List Int)).bind fun y2=>
  if y2.1 then
  (if(decide (y1.2.2.2.1=(0:Int))) then(some ((decide (y1.2.2.2.2.1=(0:Int))),()))
  else(some (false,())))
  else(some (false,()))
def g:Option (Bool×Unit):=f (1000)
end Zez
namespace Zdz
def f(n:Nat)(a:Str):Option (Str×Unit):=
  if 0<=(mn (a.length:Int) (500:Int))/\(mn (a.length:Int) (500:Int))<=(a.length:Int) then
  (some (((a.take (((mn (a.length:Int) (500:Int))).toNat)).drop 0),())) else none
def g(a:Str):Option (Str×Unit):=f (1000+a.length) a
end Zdz
namespace Zbb
def j15(n:Nat)(rl3:(List Ln)->(List Ln)->Int->Option ((List Ln)×Unit))(a:List Ln)(b:List Ln)(c:Int)(d:List It)(e:Str)(i:Int)(j:Int)(k:Int)(l:Int)(o:Int)(p:Bool)(q:List It)(r:Str):Option ((List Ln)×Unit):=
  if(b.length+([(e,(i,j,k,l,o,p,d,r,()),())]:List Ln).length)*104<=140737488355328/\0<104/\0<9 then
  (rl3 a (b++([(e,(i,j,k,l,o,p,d,r,()),())]:List Ln)) (IntKind.i64.wrap (c+(1:Int)))) else none
def l10(n:Nat)(rl3:(List Ln)->(List Ln)->Int->Option ((List Ln)×Unit)):Nat->(List Ln)->(List Ln)->Int->(List It)->Int->Str->Int->Int->Int->Int->Int->Bool->(List It)->Str->Option ((List Ln)×Unit)
 |0,_,_,_,_,_,_,_,_,_,_,_,_,_,_=>none
 |m+1,a,b,c,d,e,i,j,k,l,o,p,q,r,s=>
  if(decide (e<(r.length:Int))) then
  (if(decide (e<(20:Int))) then
  (if 0<=e/\e<(r.length:Int) then
  (if 0<=(mn (((((r.getD (e).toNat zI).2).2).1).length:Int) (20:Int))/\(mn (((((r.getD (e).toNat zI).2).2).1).length:Int) (20:Int))<=(((((r.getD (e).toNat zI).2).2).1).length:Int) then
  (if(d.length+([((r.getD (e).toNat zI).1,((r.getD (e).toNat zI).2).1,((((((r.getD (e).toNat zI).2).2).1).take (((mn (((((r.getD (e).toNat zI).2).2).1).length:Int) (20:Int))).toNat)).drop 0),())]:List It).length)*32<=140737488355328/\0<32/\0<3 then
  ((Zbb.l10 n rl3 m) a b c (d++([((r.getD (e).toNat zI).1,((r.getD (e).toNat zI).2).1,((((((r.getD (e).toNat zI).2).2).1).take (((mn (((((r.getD (e).toNat zI).2).2).1).length:Int) (20:Int))).toNat)).drop 0),())]:List It)) (IntKind.i64.wrap (e+(1:Int))) i j k l o p q r s) else none) else none) else none)
  else(Zbb.j15 n rl3 a b c d i j k l o p q r s))
  else(Zbb.j15 n rl3 a b c d i j k l o p q r s)
def l3(n:Nat):Nat->(List Ln)->(List Ln)->Int->Option ((List Ln)×Unit)
 |0,_,_,_=>none
 |m+1,a,b,c=>
  if(decide (c<(a.length:Int))) then
  (if(decide (c<(20:Int))) then
  (if 0<=c/\c<(a.length:Int) then
  (if 0<=(mn (((a.getD (c).toNat zL).1).length:Int) (20:Int))/\(mn (((a.getD (c).toNat zL).1).length:Int) (20:Int))<=(((a.getD (c).toNat zL).1).length:Int) then
  (if 0<=(mn ((((((((((((a.getD (c).toNat zL).2).1).2).2).2).2).2).2).2).1).length:Int) (20:Int))/\(mn ((((((((((((a.getD (c).toNat zL).2).1).2).2).2).2).2).2).2).1).length:Int) (20:Int))<=((((((((((((a.getD (c).toNat zL).2).1).2).2).2).2).2).2).2).1).length:Int) then
  (Zbb.l10 n (Zbb.l3 n m) n a b c ([]:List It) (0:Int) ((((a.getD (c).toNat zL).1).take (((mn (((a.getD (c).toNat zL).1).length:Int) (20:Int))).toNat)).drop 0) ((((a.getD (c).toNat zL).2).1).1) (((((a.getD (c).toNat zL).2).1).2).1) ((((((a.getD (c).toNat zL).2).1).2).2).1) (((((((a.getD (c).toNat zL).2).1).2).2).2).1) ((((((((a.getD (c).toNat zL).2).1).2).2).2).2).1) (((((((((a.getD (c).toNat zL).2).1).2).2).2).2).2).1) ((((((((((a.getD (c).toNat zL).2).1).2).2).2).2).2).2).1) (((((((((((((a.getD (c).toNat zL).2).1).2).2).2).2).2).2).2).1).take (((mn ((((((((((((a.getD (c).toNat zL).2).1).2).2).2).2).2).2).2).1).length:Int) (20:Int))).toNat)).drop 0)) else none) else none) else none)
  else(some (b,())))
  else(some (b,()))
def f(n:Nat)(a:List Ln):Option ((List Ln)×Unit):=
  Zbb.l3 n n a ([]:List Ln) (0:Int)
def g(a:List Ln):Option ((List Ln)×Unit):=f (1000+a.length) a
end Zbb
namespace rivetlaw21_AsmAll
def f(a_rivetlaw21_shown:Option (Bool×Unit))(n:Nat)(a:Str)(b:List Ln):Option (Bool×Unit):=
  (a_rivetlaw21_shown).bind fun y1=>
  (Zdz.g a).bind fun y2=>
  (Zde.g y2.1).bind fun y3=>
  (Zdz.g a).bind fun y4=>
  (Zef.g y4.1).bind fun y5=>
  (Zbb.g b).bind fun y6=>
  (Zbi.g y6.1).bind fun y7=>
  (Zbb.g b).bind fun y8=>
  (Zad.g y8.1).bind fun y9=>
  (Zbn.g b).bind fun y10=>
  (Zab.g y10.1).bind fun y11=>
  (Zbi.g y11.1).bind fun y12=>
  (Zad.g y11.1).bind fun y13=>
  if y1.1 then
  ((Zcg.g y3.1 y3.2.1 y3.2.2.1 y5.1 y5.2.1 y5.2.2.1).bind fun y14=>
  if y14.1 then
  (if(decide (y3.2.2.2.1=y5.2.2.2.1)) then
  (if(decide (y3.2.2.2.2.1=y5.2.2.2.2.1)) then
  ((Zcg.g y7.1 y7.2.1 y7.2.2.1 y9.1 y9.2.1 y9.2.2.1).bind fun y15=>
  if y15.1 then
  (if(decide (y7.2.2.2.1=y9.2.2.2.1)) then
  (if(decide (y7.2.2.2.2.1=y9.2.2.2.2.1)) then
  ((Zcg.g y12.1 y12.2.1 y12.2.2.1 y13.1 y13.2.1 y13.2.2.1).bind fun y16=>
  if y16.1 then
  (if(decide (y12.2.2.2.1=y13.2.2.2.1)) then(some ((decide (y12.2.2.2.2.1=y13.2.2.2.2.1)),()))
  else(some (false,())))
  else(some (false,())))
  else(some (false,())))
  else(some (false,())))
  else(some (false,())))
  else(some (false,())))
  else(some (false,())))
  else(some (false,())))
  else(some (false,()))
def g(a:Str)(b:List Ln):Option (Bool×Unit):=f Zez.g (1000+a.length+b.length) a b
end rivetlaw21_AsmAll
end Rv
namespace Rv
open Go Go.Proofs
noncomputable section
set_option maxRecDepth 100000
set_option maxHeartbeats 2000000
variable{ad:LQ}
abbrev u0:Ty:=.pair (.int .i64) (.pair (.int .i64) (.pair .str (.pair (.int .u32) .nil)))
abbrev u1:Ty:=.pair (.int .i64) (.pair (.int .u32) (.pair .str .nil))
abbrev u2:Ty:=.pair .str (.pair (.pair (.int .i64) (.pair (.int .i64) (.pair (.int .i64) (.pair (.int .i64) (.pair (.int .i64) (.pair .bool (.pair (.sl (.pair (.int .i64) (.pair (.int .u32) (.pair .str .nil)))) (.pair .str .nil)))))))) .nil)
abbrev u3:Ty:=.pair .str (.pair (.int .i64) .nil)
abbrev u4:Ty:=.pair (.int .u32) (.pair (.int .i64) .nil)
abbrev u5:Ty:=.pair (.int .i64) (.pair (.int .i64) (.pair (.int .i64) .nil))
abbrev u6:Ty:=.pair (.sl (.int .u32)) (.pair (.sl (.int .i64)) (.pair (.sl (.pair .str (.pair (.int .i64) .nil))) .nil))
abbrev u7:Ty:=.pair (.int .i64) (.pair (.int .i64) (.pair (.int .i64) (.pair (.int .i64) (.pair (.int .i64) (.pair .bool (.pair (.sl (.pair (.int .i64) (.pair (.int .u32) (.pair .str .nil)))) (.pair .str .nil)))))))
abbrev u8:Ty:=.pair (.sl (.int .i64)) (.pair (.sl (.pair .str (.pair (.int .i64) .nil))) (.pair (.sl (.pair (.int .u32) (.pair (.int .i64) .nil))) (.pair (.int .i64) (.pair (.int .i64) .nil))))
abbrev u9:Ty:=.pair (.pair (.sl (.int .i64)) (.pair (.sl (.pair .str (.pair (.int .i64) .nil))) (.pair (.sl (.pair (.int .u32) (.pair (.int .i64) .nil))) (.pair (.int .i64) (.pair (.int .i64) .nil))))) (.pair (.pair (.sl (.int .u32)) (.pair (.sl (.int .i64)) (.pair (.sl (.pair .str (.pair (.int .i64) .nil))) .nil))) .nil)
abbrev u10:Ty:=.pair (.int .i64) (.pair (.int .i64) (.pair (.int .i64) (.pair (.int .i64) (.pair (.int .i64) (.pair (.int .i64) (.pair .bool .nil))))))
abbrev u11:Ty:=.pair .fn (.pair .fn .nil)
abbrev u12:Ty:=.pair (.sl (.pair (.int .i64) (.pair (.int .i64) (.pair .str (.pair (.int .u32) .nil))))) (.pair (.int .i64) (.pair (.int .i64) .nil))
abbrev u13:Ty:=.pair (.int .i64) (.pair (.int .i64) .nil)
abbrev u14:Ty:=.pair (.sl (.pair (.int .i64) (.pair (.int .i64) (.pair .str (.pair (.int .u32) .nil))))) (.pair (.int .i64) (.pair (.sl (.pair (.int .i64) (.pair (.int .u32) (.pair .str .nil)))) (.pair (.int .i64) .nil)))
abbrev c0:List CD:=[ki,ki,ki,ki,ki,.bool,.sl u1,.str]
abbrev c1:List CD:=[.sl u0,ki,.row 44 u1,ki]
abbrev c2:List CD:=[.str,ki,ki,ki,ki,ki,.bool,.sl u1,.str]
abbrev c3:List CD:=[.row 3 (.int .i64),.row 75 u3,.sl u4,ki,ki]
abbrev c4:List CD:=[.sl (.int .i64),.sl u3,.sl u4,ki,ki,.row 42 (.int .u32),.row 3 (.int .i64),.row 75 u3]
abbrev c5:List CD:=[ki,ki,ki,ki,ki,ki,.bool]
abbrev c6:List CD:=[.row 42 (.int .u32),.row 3 (.int .i64),.row 75 u3]
abbrev c7:List CD:=[.sl (.int .i64),.sl u3,.sl u4,ki,ki]
abbrev c8:List CD:=[.sl (.int .u32),.sl (.int .i64),.sl u3]
def types:List (TypeId×TI):=[
 tI 2 .i64 8,
 tI 3 .i64 8,
 tB 4 1,
 tI 5 .u8 1,
 tS 9 16,
 tI 21 .i32 4,
 tL 22 41 u2,
 tL 24 42 (.int .u32),
 tL 25 3 (.int .i64),
 tL 26 75 u3,
 (28,⟨3,true,72,[.nilS,.nilS,.nilS],[(0,1,false),(1,1,false),(2,1,false)],none,some u6,none,false,false,false,none,none⟩),
 tI 29 .i64 8,
 tL 37 44 u1,
 (39,⟨8,true,88,[.int .i64 0,.int .i64 0,.int .i64 0,.int .i64 0,.int .i64 0,.bool false,.nilS,.str []],[(0,1,false),(1,1,false),(2,1,false),(3,1,false),(4,1,false),(5,1,false),(6,1,false),(7,1,false)],none,some u7,none,false,false,false,none,none⟩),
 (41,⟨9,true,104,[.str [],.int .i64 0,.int .i64 0,.int .i64 0,.int .i64 0,.int .i64 0,.bool false,.nilS,.str []],[(0,1,false),(1,8,true)],none,some u2,none,false,false,false,none,none⟩),
 tI 42 .u32 4,
 (44,⟨3,true,32,[.int .i64 0,.int .u32 0,.str []],[(0,1,false),(1,1,false),(2,1,false)],none,some u1,none,false,false,false,none,none⟩),
 tL 53 5 (.int .u8),
 tL 60 70 u4,
 (62,⟨5,true,88,[.nilS,.nilS,.nilS,.int .i64 0,.int .i64 0],[(0,1,false),(1,1,false),(2,1,false),(3,1,false),(4,1,false)],none,some u8,none,false,false,false,none,none⟩),
 (65,⟨1,false,8,[.raw (.pointer none)],[],none,none,none,false,false,false,none,none⟩),
 (67,⟨8,true,160,[.nilS,.nilS,.nilS,.int .i64 0,.int .i64 0,.nilS,.nilS,.nilS],[(0,5,true),(5,3,true)],none,some u9,none,false,false,false,none,none⟩),
 (70,⟨2,true,16,[.int .u32 0,.int .i64 0],[(0,1,false),(1,1,false)],none,some u4,none,false,false,false,some u4,none⟩),
 (75,⟨2,true,24,[.str [],.int .i64 0],[(0,1,false),(1,1,false)],none,some u3,none,false,false,false,some u3,none⟩),
 tL 81 9 .str,
 tL 106 167 u0,
 (112,⟨1,false,8,[.raw .nilFunc],[],none,some .fn,none,false,false,false,none,none⟩),
 tL 117 112 .fn,
 (121,⟨7,true,56,[.int .i64 0,.int .i64 0,.int .i64 0,.int .i64 0,.int .i64 0,.int .i64 0,.bool false],[(0,1,false),(1,1,false),(2,1,false),(3,1,false),(4,1,false),(5,1,false),(6,1,false)],none,some u10,none,false,false,false,some u10,none⟩),
 tL 142 147 u11,
 (144,⟨1,false,8,[.raw .nilFunc],[],none,some .fn,none,false,false,false,none,none⟩),
 (147,⟨2,true,16,[.raw .nilFunc,.raw .nilFunc],[(0,1,false),(1,1,false)],none,some u11,none,false,false,false,none,none⟩),
 (153,⟨1,false,16,[.raw .nilIface],[],none,none,none,false,true,false,none,none⟩),
 tI 158 .u64 8,
 (167,⟨4,true,40,[.int .i64 0,.int .i64 0,.str [],.int .u32 0],[(0,1,false),(1,1,false),(2,1,false),(3,1,false)],none,some u0,none,false,false,false,none,none⟩),
 (173,⟨3,true,40,[.nilS,.int .i64 0,.int .i64 0],[(0,1,false),(1,1,false),(2,1,false)],none,some u12,none,false,false,false,none,none⟩),
 tL 177 70 u4,
 (185,⟨2,true,16,[.int .i64 0,.int .i64 0],[],none,some u13,none,false,false,false,none,some 2⟩),
 (192,⟨3,true,40,[.nilS,.int .i64 0,.int .i64 0],[(0,1,false),(1,1,false),(2,1,false)],none,some u12,none,false,false,false,none,none⟩),
 (203,⟨1,false,8,[.raw .nilFunc],[],none,some .fn,none,false,false,false,none,none⟩),
 tI 229 .u64 8,
 (243,⟨3,true,24,[.int .i64 0,.int .i64 0,.int .i64 0],[],none,some u5,none,false,false,false,none,some 3⟩),
 (253,⟨1,false,8,[.raw (.pointer none)],[],none,none,none,false,false,false,none,none⟩),
 (255,⟨4,true,64,[.nilS,.int .i64 0,.nilS,.int .i64 0],[(0,1,false),(1,1,false),(2,1,false),(3,1,false)],none,some u14,none,false,false,false,none,none⟩),
 (263,⟨3,true,40,[.nilS,.int .i64 0,.int .i64 0],[(0,1,false),(1,1,false),(2,1,false)],none,some u12,none,false,false,false,none,none⟩),
 tL 266 243 u5,
 tI 273 .i64 8]
theorem fD:(types.all fun p=>kw P p.1 p.2)=true:=by kernel_rfl
def internal_strconv_underscoreOK.T(ad:LQ):TF P (LW ad):=⟨242,[],internal_strconv_underscoreOK.sp,internal_strconv_underscoreOK.sat,internal_strconv_underscoreOK.enter⟩
def strconv_toError.T(ad:LQ):TF P (LW ad):=⟨218,[],strconv_toError.sp,strconv_toError.sat,strconv_toError.enter⟩
def strings_CutPrefix.T(ad:LQ):TF P (LW ad):=⟨181,[],strings_CutPrefix.sp,strings_CutPrefix.sat,strings_CutPrefix.enter⟩
def strings_Contains.T(ad:LQ):TF P (LW ad):=⟨182,[],strings_Contains.sp,strings_Contains.sat,strings_Contains.enter⟩
def strings_IndexByte.T(ad:LQ):TF P (LW ad):=⟨138,[],strings_IndexByte.sp,strings_IndexByte.sat,strings_IndexByte.enter⟩
def strings_Trim.T(ad:LQ):TF P (LW ad):=⟨106,[],strings_Trim.sp,strings_Trim.sat,strings_Trim.enter⟩
def strconv_Itoa.T(ad:LQ):TF P (LW ad):=⟨187,[],strconv_Itoa.sp,strconv_Itoa.sat,strconv_Itoa.enter⟩
def name_Of.T(ad:LQ):TF P (LW ad):=⟨140,[],name_Of.sp,name_Of.sat,name_Of.enter⟩
def stmt_operands.T(ad:LQ):TF P (LW ad):=⟨97,[],stmt_operands.sp,stmt_operands.sat,stmt_operands.enter⟩
def strings_Split.T(ad:LQ):TF P (LW ad):=⟨36,[],strings_Split.sp,strings_Split.sat,strings_Split.enter⟩
def strings_Compare.T(ad:LQ):TF P (LW ad):=⟨125,[],strings_Compare.sp,strings_Compare.sat,strings_Compare.enter⟩
def slices_Insert_api_Sym_api_Sym.T(ad:LQ):TF P (LW ad):=⟨126,[],slices_Insert_api_Sym_api_Sym.sp,slices_Insert_api_Sym_api_Sym.sat,slices_Insert_api_Sym_api_Sym.enter⟩
def mkF(ad:LQ):=@mkT P (LW ad) types mixed fD maps gG
def Pk(ad:LQ):=@NZ P (LW ad) types mixed fD maps gG
namespace Zdg
def sp:Spec:=ah ⟨[(0,Sb)],[]⟩ ⟨[(0,SB)],[]⟩ g
noncomputable def T(ad:LQ):=mkF ad 134 [] sp [] t0 t0 t0 21 [] f (fun a=>1000+a.toNat) (by kernel_rfl)
end Zdg
namespace Zdr
def sp:Spec:=ah ⟨[(0,Sb)],[]⟩ ⟨[(0,SB)],[]⟩ g
noncomputable def T(ad:LQ):=mkF ad 136 [] sp [] t0 t0 t0 9 [] f (fun a=>1000+a.toNat) (by kernel_rfl)
end Zdr
namespace Zav
def sp:Spec:=ah ⟨[(0,Ss)],[]⟩ ⟨[(0,Ss)],[]⟩ g
noncomputable def T(ad:LQ):=mkF ad 135 [] sp [Zdg.T ad,Zdr.T ad] (fun n=>tj 3 ⟨[(0,Ss),(3,Si)],[]⟩ (fun ms=>j3 n (l2 n ms.head!)) <| tj 4 ⟨[(0,Ss),(3,Si)],[]⟩ (fun _=>j4 n) <| tn) (fun n=>tl 2 ⟨[(0,Ss),(3,Si)],[]⟩ (fun _=>l2 n) <| tn) t0 25 [] f (fun a=>1000+a.length) (by kernel_rfl)
end Zav
namespace Zat
def sp:Spec:=ah ⟨[(0,Sb)],[]⟩ ⟨[(0,Sb)],[]⟩ g
noncomputable def T(ad:LQ):=mkF ad 241 [] sp [] t0 t0 t0 5 [] f (fun a=>1000+a.toNat) (by kernel_rfl)
end Zat
namespace Zaa
def sp:Spec:=ah ⟨[(0,Ss),(1,Si),(2,Si)],[]⟩ ⟨[(0,.c kq),(1,.c (.ifo 273 .i64))],[]⟩ g
noncomputable def T(ad:LQ):=mkF ad 217 [] sp [Zat.T ad,internal_strconv_underscoreOK.T ad] (fun n=>tj 55 ⟨[(1,Si),(8,SB),(9,Ss),(10,.c kq),(11,.c kq),(12,SB),(13,.c kq),(99,.c (.sl (.int .u8))),(100,Si),(101,Si)],[]⟩ (fun ms=>j55 n (l36 n ms.head!)) <| tj 46 ⟨[(1,Si),(8,SB),(9,Ss),(10,.c kq),(11,.c kq),(12,SB),(13,.c kq),(16,Sb),(99,.c (.sl (.int .u8))),(100,Si),(101,Si)],[]⟩ (fun ms=>j46 n (l36 n ms.head!)) <| tj 32 ⟨[(0,Ss),(1,Si),(2,Si),(8,SB),(9,Ss),(10,.c kq)],[]⟩ (fun _=>j32 n) <| tj 25 ⟨[(0,Ss),(1,Si),(2,Si),(8,SB),(9,Ss)],[]⟩ (fun _=>j25 n) <| tj 21 ⟨[(0,Ss),(1,Si),(2,Si),(8,SB),(9,Ss)],[]⟩ (fun _=>j21 n) <| tj 17 ⟨[(0,Ss),(1,Si),(2,Si),(8,SB),(9,Ss)],[]⟩ (fun _=>j17 n) <| tj 20 ⟨[(0,Ss),(1,Si),(2,Si),(8,SB),(9,Ss)],[]⟩ (fun _=>j20 n) <| tj 11 ⟨[(0,Ss),(1,Si),(2,Si),(8,SB),(9,Ss)],[]⟩ (fun _=>j11 n) <| tj 9 ⟨[(0,Ss),(1,Si),(2,Si),(8,SB),(9,Ss)],[]⟩ (fun _=>j9 n) <| tn) (fun n=>tl 36 ⟨[(1,Si),(8,SB),(9,Ss),(10,.c kq),(11,.c kq),(12,SB),(13,.c kq),(99,.c (.sl (.int .u8))),(100,Si),(101,Si)],[]⟩ (fun _=>l36 n) <| tn) t0 172 [] f (fun a b c=>1000+a.length+b.toNat+c.toNat) (by kernel_rfl)
end Zaa
namespace Zdh
def sp:Spec:=ah ⟨[(0,Ss),(1,Si),(2,Si)],[]⟩ ⟨[(0,.c kq),(1,Se)],[]⟩ g
noncomputable def T(ad:LQ):=mkF ad 183 [] sp [Zaa.T ad,strconv_toError.T ad] t0 t0 t0 26 [] f (fun a b c=>1000+a.length+b.toNat+c.toNat) (by kernel_rfl)
end Zdh
namespace Zch
def sp:Spec:=ah ⟨[(0,Ss)],[]⟩ ⟨[(0,Su),(1,SB)],[]⟩ g
noncomputable def T(ad:LQ):=mkF ad 137 [] sp [strings_CutPrefix.T ad,strings_Contains.T ad,Zdh.T ad] (fun n=>tj 5 ⟨[(0,Ss),(4,Si)],[]⟩ (fun _=>j5 n) <| tn) t0 t0 28 [] f (fun a=>1000+a.length) (by kernel_rfl)
end Zch
namespace Zao
def sp:Spec:=ah ⟨[(0,Ss)],[]⟩ ⟨[(0,.c (.row 167 u0)),(1,Si)],[]⟩ g
noncomputable def T(ad:LQ):=mkF ad 90 [] sp [Zdg.T ad,Zav.T ad,Zdr.T ad,Zch.T ad,strings_IndexByte.T ad] (fun n=>tj 23 ⟨[(0,Ss),(4,.c (.row 167 u0)),(5,Si),(6,Sp 0 0)],[(some 3,[ki,ki,.str,ku])]⟩ (fun ms=>j23 n (g0 n ms.head!)) <| tn) t0 (fun n=>tl 0 ⟨[(0,Ss),(4,.c (.row 167 u0)),(5,Si)],[]⟩ (fun _=>g0 n) <| tn) 108 [] f (fun a=>1000+a.length) (by kernel_rfl)
end Zao
namespace Zaf
def sp:Spec:=ah ⟨[(0,Ss)],[]⟩ ⟨[(0,SB)],[]⟩ g
noncomputable def T(ad:LQ):=mkF ad 92 [] sp [strings_Trim.T ad] (fun n=>tj 9 ⟨[(0,Ss),(24,Si),(25,Si)],[]⟩ (fun ms=>j9 n (l4 n ms.head!)) <| tj 3 ⟨[(0,Ss)],[]⟩ (fun _=>j3 n) <| tn) (fun n=>tl 4 ⟨[(0,Ss),(24,Si),(25,Si)],[]⟩ (fun _=>l4 n) <| tn) t0 84 [] f (fun a=>1000+a.length) (by kernel_rfl)
end Zaf
namespace Zbf
def sp:Spec:=ah ⟨[(0,Sp 0 0),(1,SB)],[(some 0,[.sl u0,ki,ki])]⟩ ⟨[],[(none,[.sl u0,ki,ki])]⟩ g
noncomputable def T(ad:LQ):=mkF ad 139 [] sp [] t0 t0 t0 16 [] f (fun _ b c d=>1000+b.length+c.toNat+d.toNat) (by kernel_rfl)
end Zbf
namespace Zek
def sp:Spec:=ah ⟨[(0,Si)],[]⟩ ⟨[(0,SB)],[]⟩ g
noncomputable def T(ad:LQ):=mkF ad 96 [] sp [] t0 t0 t0 9 [] f (fun a=>1000+a.toNat) (by kernel_rfl)
end Zek
namespace Zds
def sp:Spec:=ah ⟨[(0,Sp 0 0),(1,Si)],[(some 0,[.sl u0,ki,ki])]⟩ ⟨[(0,Ss)],[(none,[.sl u0,ki,ki])]⟩ g
noncomputable def T(ad:LQ):=mkF ad 185 [] sp [] t0 t0 t0 48 [] f (fun a b c d=>1000+a.toNat+b.length+c.toNat+d.toNat) (by kernel_rfl)
end Zds
namespace Zck
def sp:Spec:=ah ⟨[(0,Sp 0 0),(1,Si)],[(some 0,[.sl u0,ki,ki])]⟩ ⟨[(0,Ss)],[(none,[.sl u0,ki,ki])]⟩ g
noncomputable def T(ad:LQ):=mkF ad 141 [] sp [Zds.T ad] t0 t0 t0 17 [] f (fun a b c d=>1000+a.toNat+b.length+c.toNat+d.toNat) (by kernel_rfl)
end Zck
namespace Zar
def sp:Spec:=ah ⟨[(0,Ss),(1,Si),(2,Si)],[]⟩ ⟨[(0,Si),(1,.c (.ifo 273 .i64))],[]⟩ g
noncomputable def T(ad:LQ):=mkF ad 266 [] sp [Zaa.T ad] (fun n=>tj 21 ⟨[(8,SB),(9,.c kq)],[]⟩ (fun _=>j21 n) <| tj 19 ⟨[(8,SB),(9,.c kq),(10,.c kq)],[]⟩ (fun _=>j19 n) <| tj 16 ⟨[(2,Si),(8,SB),(9,.c kq)],[]⟩ (fun _=>j16 n) <| tj 14 ⟨[(2,Si),(8,SB),(9,.c kq)],[]⟩ (fun _=>j14 n) <| tj 10 ⟨[(0,Ss),(1,Si),(2,Si),(8,SB)],[]⟩ (fun _=>j10 n) <| tn) t0 t0 73 [] f (fun a b c=>1000+a.length+b.toNat+c.toNat) (by kernel_rfl)
end Zar
namespace Zaw
def sp:Spec:=ah ⟨[(0,Ss)],[]⟩ ⟨[(0,Si),(1,.c (.ifo 273 .i64))],[]⟩ g
noncomputable def T(ad:LQ):=mkF ad 247 [] sp [Zar.T ad] (fun n=>tj 8 ⟨[(0,Ss),(5,Ss)],[]⟩ (fun _=>j8 n) <| tj 6 ⟨[(0,Ss),(5,Ss)],[]⟩ (fun _=>j6 n) <| tj 20 ⟨[(0,Ss)],[]⟩ (fun _=>j20 n) <| tn) (fun n=>tl 10 ⟨[(5,Ss),(6,Si),(47,.c (.sl (.int .u8))),(48,Si),(49,Si)],[]⟩ (fun _=>l10 n) <| tn) t0 77 [] f (fun a=>1000+a.length) (by kernel_rfl)
end Zaw
namespace Zeg
def sp:Spec:=ah ⟨[(0,Ss)],[]⟩ ⟨[(0,Si),(1,Se)],[]⟩ g
noncomputable def T(ad:LQ):=mkF ad 220 [] sp [Zaw.T ad,strconv_toError.T ad] t0 t0 t0 18 [] f (fun a=>1000+a.length) (by kernel_rfl)
end Zeg
namespace Zdi
def sp:Spec:=ah ⟨[(0,Si)],[]⟩ ⟨[(0,Ss)],[]⟩ g
noncomputable def T(ad:LQ):=mkF ad 144 [] sp [strconv_Itoa.T ad] t0 t0 t0 12 [] f (fun a=>1000+a.toNat) (by kernel_rfl)
end Zdi
namespace Zcu
def sp:Spec:=ah ⟨[(0,Ss)],[]⟩ ⟨[(0,Si),(1,SB)],[]⟩ g
noncomputable def T(ad:LQ):=mkF ad 186 [] sp [strings_CutPrefix.T ad,Zeg.T ad,Zdi.T ad] t0 t0 t0 31 [] f (fun a=>1000+a.length) (by kernel_rfl)
end Zcu
namespace Zel
def sp:Spec:=ah ⟨[(0,Sp 0 0),(1,Sp 1 0)],[(some 0,[.sl u0,ki,ki]),(some 1,c0)]⟩ ⟨[],[(none,[.sl u0,ki,ki]),(none,c0)]⟩ g
noncomputable def T(ad:LQ):=mkF ad 142 [] sp [Zds.T ad,Zcu.T ad] t0 t0 t0 50 [] f (fun a b c d e i j k _ o p=>1000+a.length+b.toNat+c.toNat+d.toNat+e.toNat+i.toNat+j.toNat+k.toNat+o.length+p.length) (by kernel_rfl)
end Zel
namespace Zfk
def sp:Spec:=ah ⟨[(0,Sp 0 0)],[(some 0,c0)]⟩ ⟨[(0,Sp 0 2)],[(none,c0)]⟩ g
noncomputable def T(ad:LQ):=mkF ad 148 [] sp [] t0 t0 t0 6 [] f (fun a b c d e _ j k=>1000+a.toNat+b.toNat+c.toNat+d.toNat+e.toNat+j.length+k.length) (by kernel_rfl)
end Zfk
namespace Zfl
def sp:Spec:=ah ⟨[(0,Sp 0 0)],[(some 0,c0)]⟩ ⟨[(0,Sp 0 3)],[(none,c0)]⟩ g
noncomputable def T(ad:LQ):=mkF ad 149 [] sp [] t0 t0 t0 6 [] f (fun a b c d e _ j k=>1000+a.toNat+b.toNat+c.toNat+d.toNat+e.toNat+j.length+k.length) (by kernel_rfl)
end Zfl
namespace Zfm
def sp:Spec:=ah ⟨[(0,Sp 0 0)],[(some 0,c0)]⟩ ⟨[(0,Sp 0 4)],[(none,c0)]⟩ g
noncomputable def T(ad:LQ):=mkF ad 150 [] sp [] t0 t0 t0 6 [] f (fun a b c d e _ j k=>1000+a.toNat+b.toNat+c.toNat+d.toNat+e.toNat+j.length+k.length) (by kernel_rfl)
end Zfm
namespace Zdt
def sp:Spec:=ah ⟨[(0,Sp 0 0),(1,Sp 1 0),(2,.c (.pp .fn))],[(some 0,[.sl u0,ki,ki]),(some 1,c0)]⟩ ⟨[],[(none,[.sl u0,ki,ki]),(none,c0)]⟩ g
noncomputable def T(ad:LQ):=mkF ad 193 [] sp [Zck.T ad,Zcu.T ad,Zbf.T ad,Zfk.T ad,Zfl.T ad,Zfm.T ad] t0 t0 t0 21 [K.atA,K.atB,K.atC] f (fun _ b c d e i j k l _ p q=>1000+b.length+c.toNat+d.toNat+e.toNat+i.toNat+j.toNat+k.toNat+l.toNat+p.length+q.length) (by kernel_rfl)
end Zdt
namespace Zbj
def sp:Spec:=ah ⟨[(0,Sp 0 0),(1,Si)],[(some 0,c1)]⟩ ⟨[],[(none,c1)]⟩ g
noncomputable def T(ad:LQ):=mkF ad 275 [] sp [] t0 t0 t0 13 [] f (fun a b c d e=>1000+a.toNat+b.length+c.toNat+d.length+e.toNat) (by kernel_rfl)
end Zbj
namespace Zbr
def sp:Spec:=ah ⟨[(0,Sp 0 0)],[(some 0,c1)]⟩ ⟨[(0,.agg [ki,ki,.str,ku]),(1,SB)],[(none,c1)]⟩ g
noncomputable def T(ad:LQ):=mkF ad 276 [] sp [] t0 t0 t0 39 [] f (fun a b c d=>1000+a.length+b.toNat+c.length+d.toNat) (by kernel_rfl)
end Zbr
namespace Zas
def sp:Spec:=ah ⟨[(0,Sp 0 0),(1,.c (.sl .str))],[(some 0,c1)]⟩ ⟨[(0,Ss),(1,SB)],[(none,c1)]⟩ g
noncomputable def T(ad:LQ):=mkF ad 273 [] sp [Zbr.T ad] (fun n=>tj 8 ⟨[(0,Sp 0 0),(6,Sp 1 0),(7,SB),(15,.c (.sl .str)),(16,Si),(17,Si)],[(none,c1),(some 1,[ki,ki,.str,ku])]⟩ (fun ms=>j8 n (l3 n ms.head!)) <| tn) (fun n=>tl 3 ⟨[(0,Sp 0 0),(6,Sp 1 0),(7,SB),(15,.c (.sl .str)),(16,Si),(17,Si)],[(none,c1),(some 1,[ki,ki,.str,ku])]⟩ (fun _=>l3 n) <| tn) t0 42 [] f (fun a b c d e=>1000+a.length+b.length+c.toNat+d.length+e.toNat) (by kernel_rfl)
end Zas
namespace Zbk
def sp:Spec:=ah ⟨[(0,Sp 0 0),(1,.agg [ki,ku,.str])],[(some 0,c1)]⟩ ⟨[],[(none,c1)]⟩ g
noncomputable def T(ad:LQ):=mkF ad 274 [] sp [] t0 t0 t0 14 [] f (fun a b c d e i j=>1000+a.toNat+b.toNat+c.length+d.length+e.toNat+i.length+j.toNat) (by kernel_rfl)
end Zbk
def expr_parser_sum.spq(q:Nat):Spec:=ah ⟨[(0,Sp 0 0),(1,Si)],[(some 0,c1)]⟩ ⟨[],[(none,c1)]⟩ (af q).expr_parser_sum
def expr_parser_row_c256.spq(q:Nat):Spec:=ah ⟨[(0,Sp 0 0),(1,.clo 256 [.ptr 1 0,.ptr 2 0]),(2,.c (.sl .str))],[(some 0,c1),(some 1,[.ptr 0 0]),(some 2,[ki])]⟩ ⟨[],[(none,c1),(none,[.ptr 0 0]),(none,[ki])]⟩ (af q).expr_parser_row_c256
def expr_parser_sum_1.spq(q:Nat):Spec:=ah ⟨[(0,Sp 0 0),(1,Sp 1 0)],[(some 0,[.ptr 2 0]),(some 1,[ki]),(some 2,c1)]⟩ ⟨[],[(none,[.ptr 2 0]),(none,[ki]),(none,c1)]⟩ (af q).expr_parser_sum_1
def expr_parser_row_c257.spq(q:Nat):Spec:=ah ⟨[(0,Sp 0 0),(1,.clo 257 [.ptr 1 0,.ptr 2 0]),(2,.c (.sl .str))],[(some 0,c1),(some 1,[.ptr 0 0]),(some 2,[ki])]⟩ ⟨[],[(none,c1),(none,[.ptr 0 0]),(none,[ki])]⟩ (af q).expr_parser_row_c257
def expr_parser_sum_1_1.spq(q:Nat):Spec:=ah ⟨[(0,Sp 0 0),(1,Sp 1 0)],[(some 0,[.ptr 2 0]),(some 1,[ki]),(some 2,c1)]⟩ ⟨[],[(none,[.ptr 2 0]),(none,[ki]),(none,c1)]⟩ (af q).expr_parser_sum_1_1
def expr_parser_factor.spq(q:Nat):Spec:=ah ⟨[(0,Sp 0 0),(1,Si)],[(some 0,c1)]⟩ ⟨[],[(none,c1)]⟩ (af q).expr_parser_factor
namespace expr_parser_sum
theorem step(q:Nat)(ih:Sat P (LW ad) 229 (expr_parser_sum.spq q)/\Sat P (LW ad) 255 (expr_parser_row_c256.spq q)/\Sat P (LW ad) 256 (expr_parser_sum_1.spq q)/\Sat P (LW ad) 255 (expr_parser_row_c257.spq q)/\Sat P (LW ad) 257 (expr_parser_sum_1_1.spq q)/\Sat P (LW ad) 258 (expr_parser_factor.spq q)/\True):Sat P (LW ad) 229 (spq (q+1)):=kV mixed fD gG 229 (spq (q+1)) [((255,[256]),expr_parser_row_c256.spq q)] (dm ih.2.1 (aO (by kernel_rfl)) eU) t0 t0 t0 8 [] (fun n=>f n (af q)) (fun a b c d e=>1000+a.toNat+b.length+c.toNat+d.length+e.toNat) (by kernel_rfl) (by kernel_rfl)
end expr_parser_sum
namespace expr_parser_row_c256
theorem step(q:Nat)(ih:Sat P (LW ad) 229 (expr_parser_sum.spq q)/\Sat P (LW ad) 255 (expr_parser_row_c256.spq q)/\Sat P (LW ad) 256 (expr_parser_sum_1.spq q)/\Sat P (LW ad) 255 (expr_parser_row_c257.spq q)/\Sat P (LW ad) 257 (expr_parser_sum_1_1.spq q)/\Sat P (LW ad) 258 (expr_parser_factor.spq q)/\True):Sat P (LW ad) 255 (spq (q+1)):=kV mixed fD gG 255 (spq (q+1)) [((256,[]),expr_parser_sum_1.spq q),(Zas.T ad).kv,(Zbk.T ad).kv] (dm ih.2.2.1 (aO (by kernel_rfl)) (ek (Zas.T ad) (ek (Zbk.T ad) eU))) t0 (fun n=>tl 1 ⟨[(0,Sp 0 0),(1,.clo 256 [.ptr 1 0,.ptr 2 0]),(2,.c (.sl .str))],[(none,c1),(none,[.ptr 0 0]),(none,[ki])]⟩ (fun _=>l1 n (af q)) <| tn) t0 26 [] (fun n=>f n (af q)) (fun a b c d e i=>1000+a.length+b.length+c.toNat+d.length+e.toNat+i.toNat) (by kernel_rfl) (by kernel_rfl)
end expr_parser_row_c256
namespace expr_parser_sum_1
theorem step(q:Nat)(ih:Sat P (LW ad) 229 (expr_parser_sum.spq q)/\Sat P (LW ad) 255 (expr_parser_row_c256.spq q)/\Sat P (LW ad) 256 (expr_parser_sum_1.spq q)/\Sat P (LW ad) 255 (expr_parser_row_c257.spq q)/\Sat P (LW ad) 257 (expr_parser_sum_1_1.spq q)/\Sat P (LW ad) 258 (expr_parser_factor.spq q)/\True):Sat P (LW ad) 256 (spq (q+1)):=kV mixed fD gG 256 (spq (q+1)) [((255,[257]),expr_parser_row_c257.spq q)] (dm ih.2.2.2.1 (aO (by kernel_rfl)) eU) t0 t0 t0 6 [] (fun n=>f n (af q)) (fun a b c d e=>1000+a.toNat+b.length+c.toNat+d.length+e.toNat) (by kernel_rfl) (by kernel_rfl)
end expr_parser_sum_1
namespace expr_parser_row_c257
theorem step(q:Nat)(ih:Sat P (LW ad) 229 (expr_parser_sum.spq q)/\Sat P (LW ad) 255 (expr_parser_row_c256.spq q)/\Sat P (LW ad) 256 (expr_parser_sum_1.spq q)/\Sat P (LW ad) 255 (expr_parser_row_c257.spq q)/\Sat P (LW ad) 257 (expr_parser_sum_1_1.spq q)/\Sat P (LW ad) 258 (expr_parser_factor.spq q)/\True):Sat P (LW ad) 255 (spq (q+1)):=kV mixed fD gG 255 (spq (q+1)) [((257,[]),expr_parser_sum_1_1.spq q),(Zas.T ad).kv,(Zbk.T ad).kv] (dm ih.2.2.2.2.1 (aO (by kernel_rfl)) (ek (Zas.T ad) (ek (Zbk.T ad) eU))) t0 (fun n=>tl 1 ⟨[(0,Sp 0 0),(1,.clo 257 [.ptr 1 0,.ptr 2 0]),(2,.c (.sl .str))],[(none,c1),(none,[.ptr 0 0]),(none,[ki])]⟩ (fun _=>l1 n (af q)) <| tn) t0 26 [] (fun n=>f n (af q)) (fun a b c d e i=>1000+a.length+b.length+c.toNat+d.length+e.toNat+i.toNat) (by kernel_rfl) (by kernel_rfl)
end expr_parser_row_c257
namespace expr_parser_sum_1_1
theorem step(q:Nat)(ih:Sat P (LW ad) 229 (expr_parser_sum.spq q)/\Sat P (LW ad) 255 (expr_parser_row_c256.spq q)/\Sat P (LW ad) 256 (expr_parser_sum_1.spq q)/\Sat P (LW ad) 255 (expr_parser_row_c257.spq q)/\Sat P (LW ad) 257 (expr_parser_sum_1_1.spq q)/\Sat P (LW ad) 258 (expr_parser_factor.spq q)/\True):Sat P (LW ad) 257 (spq (q+1)):=kV mixed fD gG 257 (spq (q+1)) [((258,[]),expr_parser_factor.spq q)] (dm ih.2.2.2.2.2.1 (aO (by kernel_rfl)) eU) t0 t0 t0 5 [] (fun n=>f n (af q)) (fun a b c d e=>1000+a.toNat+b.length+c.toNat+d.length+e.toNat) (by kernel_rfl) (by kernel_rfl)
end expr_parser_sum_1_1
namespace expr_parser_factor
theorem step(q:Nat)(ih:Sat P (LW ad) 229 (expr_parser_sum.spq q)/\Sat P (LW ad) 255 (expr_parser_row_c256.spq q)/\Sat P (LW ad) 256 (expr_parser_sum_1.spq q)/\Sat P (LW ad) 255 (expr_parser_row_c257.spq q)/\Sat P (LW ad) 257 (expr_parser_sum_1_1.spq q)/\Sat P (LW ad) 258 (expr_parser_factor.spq q)/\True):Sat P (LW ad) 258 (spq (q+1)):=kV mixed fD gG 258 (spq (q+1)) [(Zbj.T ad).kv,(Zas.T ad).kv,((258,[]),expr_parser_factor.spq q),(Zbk.T ad).kv,((229,[]),expr_parser_sum.spq q),(Zbr.T ad).kv,(Zaf.T ad).kv] (ek (Zbj.T ad) (ek (Zas.T ad) (dm ih.2.2.2.2.2.1 (aO (by kernel_rfl)) (ek (Zbk.T ad) (dm ih.1 (aO (by kernel_rfl)) (ek (Zbr.T ad) (ek (Zaf.T ad) eU))))))) (fun n=>tj 19 ⟨[(0,Sp 0 0)],[(none,c1)]⟩ (fun _=>j19 n (af q)) <| tn) t0 t0 94 [] (fun n=>f n (af q)) (fun a b c d e=>1000+a.toNat+b.length+c.toNat+d.length+e.toNat) (by kernel_rfl) (by kernel_rfl)
end expr_parser_factor
theorem aJ:∀q,Sat P (LW ad) 229 (expr_parser_sum.spq q)/\Sat P (LW ad) 255 (expr_parser_row_c256.spq q)/\Sat P (LW ad) 256 (expr_parser_sum_1.spq q)/\Sat P (LW ad) 255 (expr_parser_row_c257.spq q)/\Sat P (LW ad) 257 (expr_parser_sum_1_1.spq q)/\Sat P (LW ad) 258 (expr_parser_factor.spq q)/\True
 |0=>⟨gW fun _=>rfl,gW fun _=>rfl,gW fun _=>rfl,gW fun _=>rfl,gW fun _=>rfl,gW fun _=>rfl,trivial⟩
 |q+1=>⟨expr_parser_sum.step q (aJ q),expr_parser_row_c256.step q (aJ q),expr_parser_sum_1.step q (aJ q),expr_parser_row_c257.step q (aJ q),expr_parser_sum_1_1.step q (aJ q),expr_parser_factor.step q (aJ q),trivial⟩
def expr_parser_sum.sp:Spec:=ah ⟨[(0,Sp 0 0),(1,Si)],[(some 0,c1)]⟩ ⟨[],[(none,c1)]⟩ expr_parser_sum.g
noncomputable def expr_parser_sum.T(ad:LQ):TF P (LW ad):=⟨229,[],expr_parser_sum.sp,jV (F:=fun q=>(af q).expr_parser_sum) (fun a b c d e=>1000+a.toNat+b.length+c.toNat+d.length+e.toNat) (fun q=>(aJ q).1) (fun _=>by kernel_rfl),aO (by kernel_rfl)⟩
def expr_parser_row_c256.sp:Spec:=ah ⟨[(0,Sp 0 0),(1,.clo 256 [.ptr 1 0,.ptr 2 0]),(2,.c (.sl .str))],[(some 0,c1),(some 1,[.ptr 0 0]),(some 2,[ki])]⟩ ⟨[],[(none,c1),(none,[.ptr 0 0]),(none,[ki])]⟩ expr_parser_row_c256.g
noncomputable def expr_parser_row_c256.T(ad:LQ):TF P (LW ad):=⟨255,[256],expr_parser_row_c256.sp,jV (F:=fun q=>(af q).expr_parser_row_c256) (fun a b c d e i=>1000+a.length+b.length+c.toNat+d.length+e.toNat+i.toNat) (fun q=>(aJ q).2.1) (fun _=>by kernel_rfl),aO (by kernel_rfl)⟩
def expr_parser_sum_1.sp:Spec:=ah ⟨[(0,Sp 0 0),(1,Sp 1 0)],[(some 0,[.ptr 2 0]),(some 1,[ki]),(some 2,c1)]⟩ ⟨[],[(none,[.ptr 2 0]),(none,[ki]),(none,c1)]⟩ expr_parser_sum_1.g
noncomputable def expr_parser_sum_1.T(ad:LQ):TF P (LW ad):=⟨256,[],expr_parser_sum_1.sp,jV (F:=fun q=>(af q).expr_parser_sum_1) (fun a b c d e=>1000+a.toNat+b.length+c.toNat+d.length+e.toNat) (fun q=>(aJ q).2.2.1) (fun _=>by kernel_rfl),aO (by kernel_rfl)⟩
def expr_parser_row_c257.sp:Spec:=ah ⟨[(0,Sp 0 0),(1,.clo 257 [.ptr 1 0,.ptr 2 0]),(2,.c (.sl .str))],[(some 0,c1),(some 1,[.ptr 0 0]),(some 2,[ki])]⟩ ⟨[],[(none,c1),(none,[.ptr 0 0]),(none,[ki])]⟩ expr_parser_row_c257.g
noncomputable def expr_parser_row_c257.T(ad:LQ):TF P (LW ad):=⟨255,[257],expr_parser_row_c257.sp,jV (F:=fun q=>(af q).expr_parser_row_c257) (fun a b c d e i=>1000+a.length+b.length+c.toNat+d.length+e.toNat+i.toNat) (fun q=>(aJ q).2.2.2.1) (fun _=>by kernel_rfl),aO (by kernel_rfl)⟩
def expr_parser_sum_1_1.sp:Spec:=ah ⟨[(0,Sp 0 0),(1,Sp 1 0)],[(some 0,[.ptr 2 0]),(some 1,[ki]),(some 2,c1)]⟩ ⟨[],[(none,[.ptr 2 0]),(none,[ki]),(none,c1)]⟩ expr_parser_sum_1_1.g
noncomputable def expr_parser_sum_1_1.T(ad:LQ):TF P (LW ad):=⟨257,[],expr_parser_sum_1_1.sp,jV (F:=fun q=>(af q).expr_parser_sum_1_1) (fun a b c d e=>1000+a.toNat+b.length+c.toNat+d.length+e.toNat) (fun q=>(aJ q).2.2.2.2.1) (fun _=>by kernel_rfl),aO (by kernel_rfl)⟩
def expr_parser_factor.sp:Spec:=ah ⟨[(0,Sp 0 0),(1,Si)],[(some 0,c1)]⟩ ⟨[],[(none,c1)]⟩ expr_parser_factor.g
noncomputable def expr_parser_factor.T(ad:LQ):TF P (LW ad):=⟨258,[],expr_parser_factor.sp,jV (F:=fun q=>(af q).expr_parser_factor) (fun a b c d e=>1000+a.toNat+b.length+c.toNat+d.length+e.toNat) (fun q=>(aJ q).2.2.2.2.2.1) (fun _=>by kernel_rfl),aO (by kernel_rfl)⟩
namespace Zci
def sp:Spec:=ah ⟨[(0,.c (.sl u0)),(1,Si)],[]⟩ ⟨[(0,.c (.row 44 u1)),(1,Si),(2,Si)],[]⟩ g
noncomputable def T(ad:LQ):=mkF ad 196 [] sp [expr_parser_sum.T ad] (fun n=>tj 5 ⟨[(7,Sp 0 0)],[(some 0,c1)]⟩ (fun _=>j5 n) <| tn) t0 t0 47 [] f (fun a b=>1000+a.length+b.toNat) (by kernel_rfl)
end Zci
namespace Zby
def sp:Spec:=ah ⟨[(0,Sp 0 0),(1,Sp 1 0),(2,.c (.pp .str))],[(some 0,[.sl u0,ki,ki]),(some 1,c0)]⟩ ⟨[],[(none,[.sl u0,ki,ki]),(none,c0)]⟩ g
noncomputable def T(ad:LQ):=mkF ad 195 [] sp [Zck.T ad,Zbf.T ad,Zci.T ad] (fun n=>tj 2 ⟨[(0,Sp 0 0),(1,Sp 1 0)],[(none,[.sl u0,ki,ki]),(none,c0)]⟩ (fun _=>j2 n) <| tn) t0 t0 40 [] f (fun a b c d e i j k l _ p q=>1000+a.length+b.length+c.toNat+d.toNat+e.toNat+i.toNat+j.toNat+k.toNat+l.toNat+p.length+q.length) (by kernel_rfl)
end Zby
namespace Zcs
def sp:Spec:=ah ⟨[(0,Sb),(1,SB)],[]⟩ ⟨[(0,SB)],[]⟩ g
noncomputable def T(ad:LQ):=mkF ad 105 [] sp [] (fun n=>tj 4 ⟨[(0,Sb),(1,SB)],[]⟩ (fun _=>j4 n) <| tn) t0 t0 32 [] f (fun a _=>1000+a.toNat) (by kernel_rfl)
end Zcs
namespace Zbg
def sp:Spec:=ah ⟨[(0,Ss)],[]⟩ ⟨[(0,SB)],[]⟩ g
noncomputable def T(ad:LQ):=mkF ad 55 [] sp [Zcs.T ad,strings_Trim.T ad] t0 (fun n=>tl 4 ⟨[(0,Ss),(14,Si),(15,Si)],[]⟩ (fun _=>l4 n) <| tn) t0 47 [] f (fun a=>1000+a.length) (by kernel_rfl)
end Zbg
namespace Zem
def sp:Spec:=ah ⟨[(0,Sp 0 0),(1,Sp 1 0)],[(some 0,[.sl u0,ki,ki]),(some 1,c0)]⟩ ⟨[],[(none,[.sl u0,ki,ki]),(none,c0)]⟩ g
noncomputable def T(ad:LQ):=mkF ad 152 [] sp [Zck.T ad,Zbg.T ad,Zbf.T ad] t0 t0 t0 16 [] f (fun a b c d e i j k _ o p=>1000+a.length+b.toNat+c.toNat+d.toNat+e.toNat+i.toNat+j.toNat+k.toNat+o.length+p.length) (by kernel_rfl)
end Zem
namespace Zac
def sp:Spec:=ah ⟨[(0,.c (.sl u0))],[]⟩ ⟨[(0,Ss),(1,.agg c0),(2,Si)],[]⟩ g
noncomputable def T(ad:LQ):=mkF ad 91 [] sp [Zaf.T ad,Zbf.T ad,name_Of.T ad,Zek.T ad,stmt_operands.T ad,Zck.T ad,Zel.T ad,Zdt.T ad,Zby.T ad,Zem.T ad] (fun n=>tj 20 ⟨[(0,.c (.sl u0)),(2,Ss),(3,Sp 0 0),(5,Sp 1 0),(8,Si),(11,Si),(116,Si),(117,Si)],[(some 2,c0),(some 3,[.sl u0,ki,ki])]⟩ (fun ms=>j20 n (l13 n ms.head!)) <| tj 19 ⟨[(0,.c (.sl u0)),(2,Ss),(3,Sp 0 0),(5,Sp 1 0),(8,Si),(11,Si),(12,Si),(116,Si),(117,Si)],[(some 2,c0),(some 3,[.sl u0,ki,ki])]⟩ (fun ms=>j19 n (l13 n ms.head!)) <| tj 17 ⟨[(0,.c (.sl u0)),(2,Ss),(3,Sp 0 0),(5,Sp 1 0),(8,Si),(11,Si),(12,Si),(116,Si),(117,Si)],[(some 2,c0),(some 3,[.sl u0,ki,ki])]⟩ (fun ms=>j17 n (l13 n ms.head!)) <| tj 22 ⟨[(2,Ss),(3,Sp 0 0),(5,Sp 1 0)],[(some 1,c0),(some 2,[.sl u0,ki,ki])]⟩ (fun _=>j22 n) <| tj 9 ⟨[(0,.c (.sl u0)),(2,Ss),(3,Sp 0 0),(5,Sp 1 0),(7,Si),(8,Si),(9,SB)],[(some 2,c0),(some 3,[.sl u0,ki,ki])]⟩ (fun _=>j9 n) <| tj 5 ⟨[(0,.c (.sl u0)),(2,Ss),(3,Sp 0 0),(5,Sp 1 0)],[(some 2,c0),(some 3,[.sl u0,ki,ki])]⟩ (fun _=>j5 n) <| tn) (fun n=>tl 13 ⟨[(0,.c (.sl u0)),(2,Ss),(3,Sp 0 0),(5,Sp 1 0),(8,Si),(11,Si),(116,Si),(117,Si)],[(some 2,c0),(some 3,[.sl u0,ki,ki])]⟩ (fun _=>l13 n) <| tn) t0 165 [K.rdA,K.rdB,K.rdC,K.rdE,K.rdQ,K.rdN] f (fun a=>1000+a.length) (by kernel_rfl)
end Zac
namespace Zes
def sp:Spec:=ah ⟨[(0,Ss)],[]⟩ ⟨[(0,.agg c2),(1,Si)],[]⟩ g
noncomputable def T(ad:LQ):=mkF ad 38 [] sp [Zao.T ad,Zac.T ad] t0 t0 t0 27 [] f (fun a=>1000+a.length) (by kernel_rfl)
end Zes
namespace Zda
def sp:Spec:=ah ⟨[(0,.c (.sl .str)),(1,.c (.raw (.func (.func 38) #[] #[])))],[]⟩ ⟨[(0,.c (.row 41 u2)),(1,Si),(2,Si)],[]⟩ g
noncomputable def T(ad:LQ):=mkF ad 37 [] sp [Zes.T ad] t0 (fun n=>tl 5 ⟨[(1,.c (.raw (.func (.func 38) #[] #[]))),(7,.c (.row 41 u2)),(15,.c (.sl .str)),(16,Si),(17,Si)],[]⟩ (fun _=>l5 n) <| tn) t0 39 [] f (fun a=>1000+a.length) (by kernel_rfl)
end Zda
namespace Zdb
def sp:Spec:=ah ⟨[(0,Ss)],[]⟩ ⟨[(0,.c (.row 41 u2)),(1,Si),(2,Si)],[]⟩ g
noncomputable def T(ad:LQ):=mkF ad 17 [] sp [strings_Split.T ad,Zda.T ad] (fun n=>tj 7 ⟨[(5,.c (.sl .str))],[]⟩ (fun _=>j7 n) <| tn) t0 t0 28 [] f (fun a=>1000+a.length) (by kernel_rfl)
end Zdb
namespace Zfa
def sp:Spec:=ah ⟨[(0,.agg [.str,ki]),(1,Sp 0 0)],[(some 2,[.str])]⟩ ⟨[(0,SB)],[(none,[.str])]⟩ g
noncomputable def T(ad:LQ):=mkF ad 117 [] sp [] t0 t0 t0 8 [] f (fun a b c=>1000+a.length+b.toNat+c.length) (by kernel_rfl)
end Zfa
namespace Zcv
def sp:Spec:=ah ⟨[(0,.c (.sl u3)),(1,.clo 117 [.ptr 0 0])],[(some 1,[.str])]⟩ ⟨[(0,Si)],[(none,[.str])]⟩ g
noncomputable def T(ad:LQ):=mkF ad 108 [117] sp [Zfa.T ad] t0 (fun n=>tl 2 ⟨[(0,.c (.sl u3)),(1,.clo 117 [.ptr 0 0]),(7,Si),(8,Si)],[(none,[.str])]⟩ (fun _=>l2 n) <| tn) t0 19 [] f (fun a b=>1000+a.length+b.length) (by kernel_rfl)
end Zcv
namespace Zcw
def sp:Spec:=ah ⟨[(0,.c (.sl u3)),(1,Ss)],[]⟩ ⟨[(0,Si),(1,SB)],[]⟩ g
noncomputable def T(ad:LQ):=mkF ad 62 [] sp [Zcv.T ad] t0 t0 t0 17 [] f (fun a b=>1000+a.length+b.length) (by kernel_rfl)
end Zcw
namespace Zet
def sp:Spec:=ah ⟨[(0,.agg c0)],[]⟩ ⟨[(0,Si)],[]⟩ g
noncomputable def T(ad:LQ):=mkF ad 63 [] sp [] t0 t0 t0 8 [] f (fun a b c d e _ j k=>1000+a.toNat+b.toNat+c.toNat+d.toNat+e.toNat+j.length+k.length) (by kernel_rfl)
end Zet
namespace Zdq
def sp:Spec:=ah ⟨[(0,.agg c2),(1,Sp 0 0)],[(some 9,c3)]⟩ ⟨[(0,Si)],[(none,c3)]⟩ g
noncomputable def T(ad:LQ):=mkF ad 61 [] sp [Zcw.T ad,Zet.T ad] (fun n=>tj 7 ⟨[(1,Sp 0 0),(2,Sp 1 0)],[(none,c3),(some 1,c2)]⟩ (fun _=>j7 n) <| tn) t0 t0 43 [] f (fun a b c d e i _ k l o p q r s=>1000+a.length+b.toNat+c.toNat+d.toNat+e.toNat+i.toNat+k.length+l.length+o.length+p.length+q.length+r.toNat+s.toNat) (by kernel_rfl)
end Zdq
namespace Zdw
def sp:Spec:=ah ⟨[(0,.c (.sl u2)),(1,.clo 61 [.ptr 0 0])],[(some 1,c3)]⟩ ⟨[(0,Si),(1,Si)],[(none,c3)]⟩ g
noncomputable def T(ad:LQ):=mkF ad 67 [61] sp [Zdq.T ad] t0 (fun n=>tl 2 ⟨[(1,.clo 61 [.ptr 0 0]),(9,.c (.sl u2)),(10,Si),(11,Si)],[(none,c3)]⟩ (fun _=>l2 n) <| tn) t0 25 [] f (fun a b c d e i=>1000+a.length+b.length+c.length+d.length+e.toNat+i.toNat) (by kernel_rfl)
end Zdw
namespace Zdj
def sp:Spec:=ah ⟨[(0,.agg [ki,ku,.str])],[]⟩ ⟨[(0,Si),(1,SB)],[]⟩ g
noncomputable def T(ad:LQ):=mkF ad 170 [] sp [Zaf.T ad] (fun n=>tj 2 ⟨[(1,Sp 0 0),(4,SB)],[(some 0,[ki,ku,.str])]⟩ (fun _=>j2 n) <| tn) t0 t0 38 [] f (fun a b c=>1000+a.toNat+b.toNat+c.length) (by kernel_rfl)
end Zdj
namespace Zcr
def sp:Spec:=ah ⟨[(0,.c (.sl u1))],[]⟩ ⟨[(0,SB)],[]⟩ g
noncomputable def T(ad:LQ):=mkF ad 118 [] sp [Zdj.T ad] t0 (fun n=>tl 3 ⟨[(0,.c (.sl u1)),(3,Si),(8,.c (.sl u1)),(9,Si),(10,Si)],[]⟩ (fun _=>l3 n) <| tn) t0 38 [] f (fun a=>1000+a.length) (by kernel_rfl)
end Zcr
namespace Zcc
def sp:Spec:=ah ⟨[(0,Sp 0 0)],[(some 0,[.row 70 u4])]⟩ ⟨[(0,.agg [ku,ki])],[(none,[.row 70 u4])]⟩ g
noncomputable def T(ad:LQ):=mkF ad 120 [] sp [] t0 t0 t0 24 [] f (fun a=>1000+a.length) (by kernel_rfl)
end Zcc
namespace Zea
def sp:Spec:=ah ⟨[(0,.agg [ku,ki]),(1,Si)],[]⟩ ⟨[(0,.agg [ku,ki])],[]⟩ g
noncomputable def T(ad:LQ):=mkF ad 119 [] sp [] t0 t0 t0 15 [] f (fun a b c=>1000+a.toNat+b.toNat+c.toNat) (by kernel_rfl)
end Zea
namespace Zfb
def sp:Spec:=ah ⟨[(0,.agg [ku,ki]),(1,.agg [ku,ki])],[]⟩ ⟨[(0,.agg [ku,ki])],[]⟩ g
noncomputable def T(ad:LQ):=mkF ad 121 [] sp [] t0 t0 t0 16 [] f (fun a b c d=>1000+a.toNat+b.toNat+c.toNat+d.toNat) (by kernel_rfl)
end Zfb
namespace Zam
def sp:Spec:=ah ⟨[(0,.c (.sl u1)),(1,.c (.sl u3))],[]⟩ ⟨[(0,.agg [ku,ki]),(1,Si)],[]⟩ g
noncomputable def T(ad:LQ):=mkF ad 65 [] sp [Zcr.T ad,Zcw.T ad,Zcc.T ad,Zea.T ad,Zfb.T ad] (fun n=>tj 27 ⟨[(1,.c (.sl u3)),(4,Sp 0 0),(6,Sp 1 0),(9,Sp 2 0),(20,.c (.sl u1)),(21,Si),(22,Si)],[(some 1,[ku,ki]),(some 2,[.row 70 u4]),(some 3,[ku,ki])]⟩ (fun ms=>j27 n (l5 n ms.head!)) <| tn) (fun n=>tl 5 ⟨[(1,.c (.sl u3)),(4,Sp 0 0),(6,Sp 1 0),(20,.c (.sl u1)),(21,Si),(22,Si)],[(some 1,[ku,ki]),(some 2,[.row 70 u4])]⟩ (fun _=>l5 n) <| tn) t0 92 [] f (fun a b=>1000+a.length+b.length) (by kernel_rfl)
end Zam
namespace Zff
def sp:Spec:=ah ⟨[(0,.c (.sl u4))],[]⟩ ⟨[(0,.c (.slc u4))],[]⟩ g
noncomputable def T(ad:LQ):=mkF ad 122 [] sp [] t0 t0 t0 9 [] f (fun a=>1000+a.length) (by kernel_rfl)
end Zff
namespace Zco
def sp:Spec:=ah ⟨[(0,.c (.sl u4)),(1,.agg [ku,ki])],[]⟩ ⟨[(0,.c (.sl u4)),(1,Si)],[]⟩ g
noncomputable def T(ad:LQ):=mkF ad 66 [] sp [Zff.T ad] t0 (fun n=>tl 2 ⟨[(0,.c (.sl u4)),(3,Sp 0 0),(8,.c (.sl u4)),(9,Si),(10,Si)],[(some 1,[ku,ki])]⟩ (fun _=>l2 n) <| tn) t0 28 [] f (fun a b c=>1000+a.length+b.toNat+c.toNat) (by kernel_rfl)
end Zco
namespace Zeu
def sp:Spec:=ah ⟨[(0,.agg c2),(1,Sp 0 0)],[(some 9,c3)]⟩ ⟨[(0,Si)],[(none,c3)]⟩ g
noncomputable def T(ad:LQ):=mkF ad 64 [] sp [Zam.T ad,Zco.T ad] t0 t0 t0 40 [] f (fun a b c d e i _ k l o p q r s=>1000+a.length+b.toNat+c.toNat+d.toNat+e.toNat+i.toNat+k.length+l.length+o.length+p.length+q.length+r.toNat+s.toNat) (by kernel_rfl)
end Zeu
namespace Zdx
def sp:Spec:=ah ⟨[(0,.c (.sl u2)),(1,.clo 64 [.ptr 0 0])],[(some 1,c3)]⟩ ⟨[(0,Si),(1,Si)],[(none,c3)]⟩ g
noncomputable def T(ad:LQ):=mkF ad 67 [64] sp [Zeu.T ad] t0 (fun n=>tl 2 ⟨[(1,.clo 64 [.ptr 0 0]),(9,.c (.sl u2)),(10,Si),(11,Si)],[(none,c3)]⟩ (fun _=>l2 n) <| tn) t0 25 [] f (fun a b c d e i=>1000+a.length+b.length+c.length+d.length+e.toNat+i.toNat) (by kernel_rfl)
end Zdx
namespace Zbv
def sp:Spec:=ah ⟨[(0,.c (.sl u2))],[]⟩ ⟨[(0,.agg c3),(1,Si),(2,Si)],[]⟩ g
noncomputable def T(ad:LQ):=mkF ad 25 [] sp [Zdw.T ad,Zdx.T ad] (fun n=>tj 7 ⟨[(0,.c (.sl u2)),(2,Sp 0 0),(3,Si),(4,Si),(13,.c (.clr 0 [61,64])),(14,Si),(15,Si)],[(some 1,c3)]⟩ (fun ms=>j7 n (l4 n ms.head!)) <| tn) (fun n=>tl 4 ⟨[(0,.c (.sl u2)),(2,Sp 0 0),(13,.c (.clr 0 [61,64])),(14,Si),(15,Si)],[(some 1,c3)]⟩ (fun _=>l4 n) <| tn) t0 44 [] f (fun a=>1000+a.length) (by kernel_rfl)
end Zbv
namespace Zfg
def sp:Spec:=ah ⟨[(0,.agg [.str,ki]),(1,Ss)],[]⟩ ⟨[(0,Si)],[]⟩ g
noncomputable def T(ad:LQ):=mkF ad 124 [] sp [strings_Compare.T ad] t0 t0 t0 9 [] f (fun a b c=>1000+a.length+b.toNat+c.length) (by kernel_rfl)
end Zfg
namespace Zct
def sp:Spec:=ah ⟨[(0,.c (.sl u3)),(1,Ss),(2,.c (.raw (.func (.func 124) #[] #[])))],[]⟩ ⟨[(0,Si),(1,SB)],[]⟩ g
noncomputable def T(ad:LQ):=mkF ad 123 [] sp [Zfg.T ad] t0 (fun n=>tl 3 ⟨[(0,.c (.sl u3)),(1,Ss),(2,.c (.raw (.func (.func 124) #[] #[]))),(8,Si),(9,Si),(10,Si)],[]⟩ (fun _=>l3 n) <| tn) t0 49 [] f (fun a b=>1000+a.length+b.length) (by kernel_rfl)
end Zct
namespace Zew
def sp:Spec:=ah ⟨[(0,Sp 0 0),(1,Ss)],[(some 0,c4)]⟩ ⟨[(0,Si)],[(none,c4)]⟩ g
noncomputable def T(ad:LQ):=mkF ad 69 [] sp [Zcw.T ad,Zct.T ad,Zbg.T ad,slices_Insert_api_Sym_api_Sym.T ad] t0 t0 t0 53 [] f (fun a b c d e i j k l=>1000+a.length+b.length+c.length+d.length+e.toNat+i.toNat+j.length+k.length+l.length) (by kernel_rfl)
end Zew
namespace Zax
def sp:Spec:=ah ⟨[(0,.c (.sl u1)),(1,.c (.sl u3)),(2,Si),(3,Si)],[]⟩ ⟨[(0,Si),(1,Si)],[]⟩ g
noncomputable def T(ad:LQ):=mkF ad 70 [] sp [Zam.T ad] (fun n=>tj 11 ⟨[(2,Si),(3,Si),(35,.agg [ki,ki]),(36,Si)],[]⟩ (fun ms=>j11 n (l7 n ms.head!)) <| tn) (fun n=>tl 7 ⟨[(2,Si),(3,Si),(35,.agg [ki,ki]),(36,Si)],[]⟩ (fun _=>l7 n) <| tn) t0 49 [] f (fun a b c d=>1000+a.length+b.length+c.toNat+d.toNat) (by kernel_rfl)
end Zax
namespace Zdu
def sp:Spec:=ah ⟨[(0,Si),(1,Si),(2,Si)],[]⟩ ⟨[(0,SB)],[]⟩ g
noncomputable def T(ad:LQ):=mkF ad 188 [] sp [] t0 t0 t0 15 [] f (fun a b c=>1000+a.toNat+b.toNat+c.toNat) (by kernel_rfl)
end Zdu
namespace Zfi
def sp:Spec:=ah ⟨[(0,SB)],[]⟩ ⟨[(0,Su)],[]⟩ g
noncomputable def T(ad:LQ):=mkF ad 238 [] sp [] t0 t0 t0 4 [] f (fun _=>(1000:Nat)) (by kernel_rfl)
end Zfi
namespace Zbz
def sp:Spec:=ah ⟨[(0,Si),(1,SB),(2,SB)],[]⟩ ⟨[(0,.agg [ki,ki,ki])],[]⟩ g
noncomputable def T(ad:LQ):=mkF ad 211 [] sp [Zfi.T ad] t0 t0 t0 19 [] f (fun a _ _=>1000+a.toNat) (by kernel_rfl)
end Zbz
namespace Zen
def sp:Spec:=ah ⟨[(0,Si),(1,Si),(2,Sp 0 0),(3,Sp 1 0)],[(some 2,[ku]),(some 3,[ku])]⟩ ⟨[],[(none,[ku]),(none,[ku])]⟩ g
noncomputable def T(ad:LQ):=mkF ad 263 [] sp [] t0 t0 t0 17 [] f (fun a b c d=>1000+a.toNat+b.toNat+c.toNat+d.toNat) (by kernel_rfl)
end Zen
namespace Zdn
def sp:Spec:=ah ⟨[(0,Si),(1,Si),(2,.clo 263 [.ptr 0 0,.ptr 1 0])],[(some 2,[ku]),(some 3,[ku])]⟩ ⟨[],[(none,[ku]),(none,[ku])]⟩ g
noncomputable def T(ad:LQ):=mkF ad 249 [263] sp [Zen.T ad] t0 (fun n=>tl 2 ⟨[(0,Si),(1,Si),(2,.clo 263 [.ptr 0 0,.ptr 1 0]),(6,Si)],[(none,[ku]),(none,[ku])]⟩ (fun _=>l2 n) <| tn) t0 38 [] f (fun a b c d=>1000+a.toNat+b.toNat+c.toNat+d.toNat) (by kernel_rfl)
end Zdn
namespace Zeo
def sp:Spec:=ah ⟨[(0,Su),(1,Si),(2,Si),(3,Su)],[]⟩ ⟨[(0,Su)],[]⟩ g
noncomputable def T(ad:LQ):=mkF ad 237 [] sp [Zdn.T ad] t0 t0 t0 14 [] f (fun a b c d=>1000+a.toNat+b.toNat+c.toNat+d.toNat) (by kernel_rfl)
end Zeo
namespace Zbc
def sp:Spec:=ah ⟨[(0,.c (.sl u5))],[]⟩ ⟨[(0,Su)],[]⟩ g
noncomputable def T(ad:LQ):=mkF ad 210 [] sp [Zeo.T ad] t0 (fun n=>tl 3 ⟨[(3,Su),(6,.c (.sl u5)),(7,Si),(8,Si)],[]⟩ (fun _=>l3 n) <| tn) t0 23 [] f (fun a=>1000+a.length) (by kernel_rfl)
end Zbc
namespace Zcl
def sp:Spec:=ah ⟨[(0,.agg c5)],[]⟩ ⟨[(0,Su)],[]⟩ g
noncomputable def T(ad:LQ):=mkF ad 174 [] sp [Zbz.T ad,Zbc.T ad] (fun n=>tj 14 ⟨[(1,Sp 0 0),(6,Sp 1 0)],[(some 0,c5),(some 1,[ki,ki,ki])]⟩ (fun _=>j14 n) <| tn) t0 t0 97 [] f (fun a b c d e i _=>1000+a.toNat+b.toNat+c.toNat+d.toNat+e.toNat+i.toNat) (by kernel_rfl)
end Zcl
namespace Zep
def sp:Spec:=ah ⟨[(0,Si),(1,Si),(2,Sp 0 0),(3,Sp 1 0)],[(some 2,[ku]),(some 3,[ku])]⟩ ⟨[],[(none,[ku]),(none,[ku])]⟩ g
noncomputable def T(ad:LQ):=mkF ad 250 [] sp [] t0 t0 t0 14 [] f (fun a b c d=>1000+a.toNat+b.toNat+c.toNat+d.toNat) (by kernel_rfl)
end Zep
namespace Zdo
def sp:Spec:=ah ⟨[(0,Si),(1,Si),(2,.clo 250 [.ptr 0 0,.ptr 1 0])],[(some 2,[ku]),(some 3,[ku])]⟩ ⟨[],[(none,[ku]),(none,[ku])]⟩ g
noncomputable def T(ad:LQ):=mkF ad 249 [250] sp [Zep.T ad] t0 (fun n=>tl 2 ⟨[(0,Si),(1,Si),(2,.clo 250 [.ptr 0 0,.ptr 1 0]),(6,Si)],[(none,[ku]),(none,[ku])]⟩ (fun _=>l2 n) <| tn) t0 38 [] f (fun a b c d=>1000+a.toNat+b.toNat+c.toNat+d.toNat) (by kernel_rfl)
end Zdo
namespace Zeq
def sp:Spec:=ah ⟨[(0,Su),(1,Si),(2,Si)],[]⟩ ⟨[(0,Su)],[]⟩ g
noncomputable def T(ad:LQ):=mkF ad 223 [] sp [Zdo.T ad] t0 t0 t0 13 [] f (fun a b c=>1000+a.toNat+b.toNat+c.toNat) (by kernel_rfl)
end Zeq
namespace Zbh
def sp:Spec:=ah ⟨[(0,Si),(1,Si),(2,.c (.pp (.int .u32)))],[]⟩ ⟨[(0,Si)],[]⟩ g
noncomputable def T(ad:LQ):=mkF ad 222 [] sp [Zeq.T ad] t0 t0 t0 11 [] f (fun a b c=>1000+a.toNat+b.toNat+c.toNat) (by kernel_rfl)
end Zbh
namespace Zfe
def sp:Spec:=ah ⟨[(0,Si)],[]⟩ ⟨[(0,Si)],[]⟩ g
noncomputable def T(ad:LQ):=mkF ad 251 [] sp [] t0 t0 t0 6 [] f (fun a=>1000+a.toNat) (by kernel_rfl)
end Zfe
namespace Zec
def sp:Spec:=ah ⟨[(0,Su),(1,Si)],[]⟩ ⟨[(0,Si)],[]⟩ g
noncomputable def T(ad:LQ):=mkF ad 224 [] sp [Zfe.T ad] t0 t0 t0 16 [] f (fun a b=>1000+a.toNat+b.toNat) (by kernel_rfl)
end Zec
namespace Zca
def sp:Spec:=ah ⟨[(0,Su)],[]⟩ ⟨[(0,.agg c5)],[]⟩ g
noncomputable def T(ad:LQ):=mkF ad 189 [] sp [Zbh.T ad,Zec.T ad] (fun n=>tj 16 ⟨[(2,Sp 0 0),(6,Sp 1 0)],[(some 0,c5),(some 1,c5)]⟩ (fun _=>j16 n) <| tn) t0 t0 80 [] f (fun a=>1000+a.toNat) (by kernel_rfl)
end Zca
namespace Zbm
def sp:Spec:=ah ⟨[(0,.agg c5)],[]⟩ ⟨[(0,SB)],[]⟩ g
noncomputable def T(ad:LQ):=mkF ad 145 [] sp [Zdu.T ad,Zcl.T ad,Zca.T ad] (fun n=>tj 10 ⟨[(1,Sp 0 0)],[(some 0,c5)]⟩ (fun _=>j10 n) <| tn) t0 t0 64 [] f (fun a b c d e i _=>1000+a.toNat+b.toNat+c.toNat+d.toNat+e.toNat+i.toNat) (by kernel_rfl)
end Zbm
namespace Zdv
def sp:Spec:=ah ⟨[(0,.agg c5)],[]⟩ ⟨[(0,Su),(1,Si)],[]⟩ g
noncomputable def T(ad:LQ):=mkF ad 127 [] sp [Zbm.T ad,Zcl.T ad] t0 t0 t0 9 [] f (fun a b c d e i _=>1000+a.toNat+b.toNat+c.toNat+d.toNat+e.toNat+i.toNat) (by kernel_rfl)
end Zdv
namespace Zcf
def sp:Spec:=ah ⟨[(0,Sp 0 0),(1,.agg [ku,ki])],[(some 0,c4)]⟩ ⟨[],[(none,c4)]⟩ g
noncomputable def T(ad:LQ):=mkF ad 27 [] sp [] (fun n=>tj 3 ⟨[(0,Sp 0 0),(3,Sp 1 0)],[(none,c4),(some 1,[ku,ki])]⟩ (fun _=>j3 n) <| tn) t0 t0 37 [] f (fun a b c d e i j k l o=>1000+a.toNat+b.toNat+c.length+d.length+e.length+i.toNat+j.toNat+k.length+l.length+o.length) (by kernel_rfl)
end Zcf
namespace Zex
def sp:Spec:=ah ⟨[(0,Sp 0 0),(1,.agg c5)],[(some 0,c4)]⟩ ⟨[(0,Si)],[(none,c4)]⟩ g
noncomputable def T(ad:LQ):=mkF ad 73 [] sp [Zdv.T ad,Zcf.T ad] t0 t0 t0 19 [] f (fun a b c d e i _ k l o p q r s t=>1000+a.toNat+b.toNat+c.toNat+d.toNat+e.toNat+i.toNat+k.length+l.length+o.length+p.toNat+q.toNat+r.length+s.length+t.length) (by kernel_rfl)
end Zex
namespace Zdy
def sp:Spec:=ah ⟨[(0,Sp 0 0),(1,Sp 1 0),(2,Sp 2 0)],[(some 0,c0),(some 1,[.ptr 3 0]),(some 2,[ki]),(some 11,c4)]⟩ ⟨[(0,.agg [ku,ki])],[(none,c0),(none,[.ptr 3 0]),(none,[ki]),(none,c4)]⟩ g
noncomputable def T(ad:LQ):=mkF ad 68 [] sp [Zam.T ad] t0 t0 t0 16 [] f (fun a b c d e _ j k l o p q r s t u v=>1000+a.toNat+b.toNat+c.toNat+d.toNat+e.toNat+j.length+k.length+l.toNat+o.length+p.length+q.length+r.toNat+s.toNat+t.length+u.length+v.length) (by kernel_rfl)
end Zdy
namespace Zey
def sp:Spec:=ah ⟨[(0,.agg [ku,ki]),(1,Si)],[]⟩ ⟨[(0,Si),(1,Si)],[]⟩ g
noncomputable def T(ad:LQ):=mkF ad 71 [] sp [] t0 t0 t0 35 [] f (fun a b c=>1000+a.toNat+b.toNat+c.toNat) (by kernel_rfl)
end Zey
namespace Zee
def sp:Spec:=ah ⟨[(0,Sp 0 0),(1,.agg [ku,ki])],[(some 0,c4)]⟩ ⟨[(0,Si)],[(none,c4)]⟩ g
noncomputable def T(ad:LQ):=mkF ad 72 [] sp [] t0 t0 t0 30 [] f (fun a b c d e i j k l o=>1000+a.toNat+b.toNat+c.length+d.length+e.length+i.toNat+j.toNat+k.length+l.length+o.length) (by kernel_rfl)
end Zee
namespace Zau
def sp:Spec:=ah ⟨[(0,Sp 0 0),(1,.agg c0),(2,Si)],[(some 0,c4)]⟩ ⟨[(0,Si)],[(none,c4)]⟩ g
noncomputable def T(ad:LQ):=mkF ad 26 [] sp [Zew.T ad,Zax.T ad,Zex.T ad,Zdy.T ad,Zey.T ad,Zco.T ad,Zee.T ad,Zcf.T ad] (fun n=>tj 32 ⟨[(3,Sp 1 0),(6,Sp 2 0),(7,Sp 3 0)],[(none,c4),(some 0,[.ptr 0 0]),(some 1,[ki]),(some 2,c5)]⟩ (fun _=>j32 n) <| tj 12 ⟨[(3,Sp 1 0),(4,Sp 2 0),(6,Sp 3 0),(7,Sp 4 0),(9,Si)],[(none,c4),(some 0,[.ptr 0 0]),(some 1,c0),(some 2,[ki]),(some 3,c5)]⟩ (fun _=>j12 n) <| tj 31 ⟨[(6,Sp 1 0)],[(none,c4),(some 0,[ki])]⟩ (fun _=>j31 n) <| tj 29 ⟨[(3,Sp 1 0),(6,Sp 2 0),(14,Sp 3 0)],[(none,c4),(some 0,[.ptr 0 0]),(some 1,[ki]),(some 2,[ku,ki])]⟩ (fun _=>j29 n) <| tn) t0 t0 139 [] f (fun a b c d e _ j k l o p q r s t u v=>1000+a.toNat+b.toNat+c.toNat+d.toNat+e.toNat+j.length+k.length+l.toNat+o.length+p.length+q.length+r.toNat+s.toNat+t.length+u.length+v.length) (by kernel_rfl)
end Zau
namespace Zbi
def sp:Spec:=ah ⟨[(0,.c (.sl u2))],[]⟩ ⟨[(0,.agg c6),(1,Si),(2,Si)],[]⟩ g
noncomputable def T(ad:LQ):=mkF ad 11 [] sp [Zbv.T ad,Zau.T ad,Zcf.T ad] t0 (fun n=>tl 14 ⟨[(2,Sp 0 0),(6,Sp 1 0),(53,.c (.sl u4)),(54,Si),(55,Si)],[(some 0,c6),(some 1,c4)]⟩ (fun _=>l14 n) <| tl 7 ⟨[(2,Sp 0 0),(5,Sp 1 0),(6,Sp 2 0),(7,.clo 1000026 [.ptr 2 0]),(29,.c (.sl u2)),(30,Si),(31,Si)],[(some 0,c6),(some 1,c7),(some 2,c4)]⟩ (fun _=>l7 n) <| tn) t0 75 [] f (fun a=>1000+a.length) (by kernel_rfl)
end Zbi
namespace Zde
def sp:Spec:=ah ⟨[(0,Ss)],[]⟩ ⟨[(0,.agg c6),(1,Si),(2,Si)],[]⟩ g
noncomputable def T(ad:LQ):=mkF ad 8 [] sp [Zdb.T ad,Zbi.T ad] t0 t0 t0 22 [] f (fun a=>1000+a.length) (by kernel_rfl)
end Zde
namespace Zcq
def sp:Spec:=ah ⟨[(0,.c (.sl (.int .u32))),(1,.c (.sl (.int .u32)))],[]⟩ ⟨[(0,SB)],[]⟩ g
noncomputable def T(ad:LQ):=mkF ad 23 [] sp [] t0 (fun n=>tl 4 ⟨[(0,.c (.sl (.int .u32))),(1,.c (.sl (.int .u32))),(5,Si)],[]⟩ (fun _=>l4 n) <| tn) t0 26 [] f (fun a b=>1000+a.length+b.length) (by kernel_rfl)
end Zcq
namespace Zez
def sp:Spec:=ah ⟨[],[]⟩ ⟨[(0,SB)],[]⟩ g
noncomputable def T(ad:LQ):=mkF ad 7 [] sp [Zde.T ad,Zcq.T ad] t0 t0 t0 21 [] f (1000:Nat) (by kernel_rfl)
end Zez
namespace Zdz
def sp:Spec:=ah ⟨[(0,Ss)],[]⟩ ⟨[(0,Ss)],[]⟩ g
noncomputable def T(ad:LQ):=mkF ad 9 [] sp [] t0 t0 t0 8 [] f (fun a=>1000+a.length) (by kernel_rfl)
end Zdz
namespace Zcb
def sp:Spec:=ah ⟨[(0,Ss)],[]⟩ ⟨[(0,.c (.row 9 .str))],[]⟩ g
noncomputable def T(ad:LQ):=mkF ad 58 [] sp [] (fun n=>tj 5 ⟨[(0,Ss),(3,.c (.row 9 .str)),(4,Si),(5,Si)],[]⟩ (fun ms=>j5 n (l4 n ms.head!)) <| tn) (fun n=>tl 4 ⟨[(0,Ss),(3,.c (.row 9 .str)),(4,Si),(5,Si)],[]⟩ (fun _=>l4 n) <| tn) t0 37 [] f (fun a=>1000+a.length) (by kernel_rfl)
end Zcb
namespace Zdk
def sp:Spec:=ah ⟨[(0,Sb)],[]⟩ ⟨[(0,SB)],[]⟩ g
noncomputable def T(ad:LQ):=mkF ad 109 [] sp [] t0 t0 t0 21 [] f (fun a=>1000+a.toNat) (by kernel_rfl)
end Zdk
namespace Zcx
def sp:Spec:=ah ⟨[(0,Sb)],[]⟩ ⟨[(0,SB)],[]⟩ g
noncomputable def T(ad:LQ):=mkF ad 111 [] sp [] t0 t0 t0 9 [] f (fun a=>1000+a.toNat) (by kernel_rfl)
end Zcx
namespace Zbo
def sp:Spec:=ah ⟨[(0,Ss)],[]⟩ ⟨[(0,Si)],[]⟩ g
noncomputable def T(ad:LQ):=mkF ad 110 [] sp [Zdk.T ad,Zcx.T ad] (fun n=>tj 3 ⟨[(0,Ss),(3,Si)],[]⟩ (fun ms=>j3 n (l2 n ms.head!)) <| tn) (fun n=>tl 2 ⟨[(0,Ss),(3,Si)],[]⟩ (fun _=>l2 n) <| tn) t0 23 [] f (fun a=>1000+a.length) (by kernel_rfl)
end Zbo
namespace Zfc
def sp:Spec:=ah ⟨[(0,Sb)],[]⟩ ⟨[(0,Si),(1,SB)],[]⟩ g
noncomputable def T(ad:LQ):=mkF ad 163 [] sp [Zcx.T ad] t0 t0 t0 32 [] f (fun a=>1000+a.toNat) (by kernel_rfl)
end Zfc
namespace Zbp
def sp:Spec:=ah ⟨[(0,Ss)],[]⟩ ⟨[(0,Su),(1,SB)],[]⟩ g
noncomputable def T(ad:LQ):=mkF ad 112 [] sp [Zfc.T ad] (fun n=>tj 6 ⟨[(0,Ss),(4,Si),(5,Si)],[]⟩ (fun _=>j6 n) <| tn) (fun n=>tl 8 ⟨[(0,Ss),(4,Si),(6,Si),(7,Si)],[]⟩ (fun _=>l8 n) <| tn) t0 53 [] f (fun a=>1000+a.length) (by kernel_rfl)
end Zbp
namespace Zdl
def sp:Spec:=ah ⟨[(0,Sb)],[]⟩ ⟨[(0,SB)],[]⟩ g
noncomputable def T(ad:LQ):=mkF ad 113 [] sp [] t0 (fun n=>tl 3 ⟨[(0,Sb),(3,Ss),(4,Si)],[]⟩ (fun _=>l3 n) <| tn) t0 16 [] f (fun a=>1000+a.toNat) (by kernel_rfl)
end Zdl
namespace Zai
def sp:Spec:=ah ⟨[(0,Ss)],[]⟩ ⟨[(0,.c (.row 167 u0)),(1,Si)],[]⟩ g
noncomputable def T(ad:LQ):=mkF ad 59 [] sp [Zdk.T ad,Zbo.T ad,Zcx.T ad,Zbp.T ad,Zdl.T ad] (fun n=>tj 26 ⟨[(0,Ss),(4,.c (.row 167 u0)),(5,Si),(7,Sp 0 0)],[(some 3,[ki,ki,.str,ku])]⟩ (fun ms=>j26 n (l3 n ms.head!)) <| tj 25 ⟨[(0,Ss),(4,.c (.row 167 u0)),(5,Si),(7,Sp 0 0)],[(some 3,[ki,ki,.str,ku])]⟩ (fun ms=>j25 n (l3 n ms.head!)) <| tn) (fun n=>tl 3 ⟨[(0,Ss),(4,.c (.row 167 u0)),(5,Si)],[]⟩ (fun _=>l3 n) <| tn) t0 126 [] f (fun a=>1000+a.length) (by kernel_rfl)
end Zai
namespace Zeb
def sp:Spec:=ah ⟨[(0,Sb)],[]⟩ ⟨[(0,SB)],[]⟩ g
noncomputable def T(ad:LQ):=mkF ad 77 [] sp [] t0 t0 t0 17 [] f (fun a=>1000+a.toNat) (by kernel_rfl)
end Zeb
namespace Zdm
def sp:Spec:=ah ⟨[(0,Sb)],[]⟩ ⟨[(0,SB)],[]⟩ g
noncomputable def T(ad:LQ):=mkF ad 79 [] sp [] t0 t0 t0 9 [] f (fun a=>1000+a.toNat) (by kernel_rfl)
end Zdm
namespace Zeh
def sp:Spec:=ah ⟨[(0,Ss)],[]⟩ ⟨[(0,SB)],[]⟩ g
noncomputable def T(ad:LQ):=mkF ad 78 [] sp [Zdm.T ad] t0 t0 t0 29 [] f (fun a=>1000+a.length) (by kernel_rfl)
end Zeh
namespace Zaz
def sp:Spec:=ah ⟨[(0,Ss)],[]⟩ ⟨[(0,SB)],[]⟩ g
noncomputable def T(ad:LQ):=mkF ad 30 [] sp [Zeb.T ad,Zeh.T ad,Zdm.T ad] (fun n=>tj 5 ⟨[(0,Ss),(3,Si)],[]⟩ (fun ms=>j5 n (l4 n ms.head!)) <| tn) (fun n=>tl 4 ⟨[(0,Ss),(3,Si)],[]⟩ (fun _=>l4 n) <| tn) t0 46 [] f (fun a=>1000+a.length) (by kernel_rfl)
end Zaz
namespace Zbw
def sp:Spec:=ah ⟨[(0,Ss)],[]⟩ ⟨[(0,SB)],[]⟩ g
noncomputable def T(ad:LQ):=mkF ad 114 [] sp [Zaz.T ad] (fun n=>tj 3 ⟨[(0,Ss)],[]⟩ (fun _=>j3 n) <| tn) t0 t0 17 [] f (fun a=>1000+a.length) (by kernel_rfl)
end Zbw
namespace Zfh
def sp:Spec:=ah ⟨[(0,Ss),(1,Si)],[]⟩ ⟨[(0,Ss)],[]⟩ g
noncomputable def T(ad:LQ):=mkF ad 205 [] sp [] t0 t0 t0 12 [] f (fun a b=>1000+a.length+b.toNat) (by kernel_rfl)
end Zfh
namespace Zag
def sp:Spec:=ah ⟨[(0,Si),(1,Si),(2,SB)],[]⟩ ⟨[(0,Ss)],[]⟩ g
noncomputable def T(ad:LQ):=mkF ad 164 [] sp [Zfh.T ad] (fun n=>tj 6 ⟨[(1,Si),(7,Ss),(8,Ss)],[]⟩ (fun _=>j6 n) <| tj 23 ⟨[(0,Si),(1,Si)],[]⟩ (fun _=>j23 n) <| tj 21 ⟨[(0,Si),(1,Si)],[]⟩ (fun _=>j21 n) <| tj 17 ⟨[(0,Si),(1,Si),(2,SB)],[]⟩ (fun _=>j17 n) <| tj 15 ⟨[(0,Si),(1,Si),(2,SB)],[]⟩ (fun _=>j15 n) <| tj 13 ⟨[(0,Si),(1,Si),(2,SB)],[]⟩ (fun _=>j13 n) <| tj 11 ⟨[(0,Si),(1,Si),(2,SB)],[]⟩ (fun _=>j11 n) <| tj 9 ⟨[(0,Si),(1,Si),(2,SB)],[]⟩ (fun _=>j9 n) <| tn) t0 t0 119 [] f (fun a b _=>1000+a.toNat+b.toNat) (by kernel_rfl)
end Zag
namespace Zba
def sp:Spec:=ah ⟨[(0,Ss)],[]⟩ ⟨[(0,Si),(1,Si),(2,SB),(3,SB)],[]⟩ g
noncomputable def T(ad:LQ):=mkF ad 115 [] sp [Zag.T ad] t0 (fun n=>tl 7 ⟨[(0,Ss),(6,Si),(7,Si)],[]⟩ (fun ms=>l7 n (l4 n ms.head!)) <| tl 4 ⟨[(0,Ss),(6,Si)],[]⟩ (fun _=>l4 n) <| tn) t0 32 [] f (fun a=>1000+a.length) (by kernel_rfl)
end Zba
namespace Zcd
def sp:Spec:=ah ⟨[(0,Sp 0 0),(1,Si)],[(some 0,[.sl u0,ki,ki])]⟩ ⟨[(0,Ss)],[(none,[.sl u0,ki,ki])]⟩ g
noncomputable def T(ad:LQ):=mkF ad 169 [] sp [] t0 t0 t0 48 [] f (fun a b c d=>1000+a.toNat+b.length+c.toNat+d.toNat) (by kernel_rfl)
end Zcd
namespace Zfd
def sp:Spec:=ah ⟨[(0,Si)],[]⟩ ⟨[(0,Ss)],[]⟩ g
noncomputable def T(ad:LQ):=mkF ad 234 [] sp [] t0 t0 t0 24 [] f (fun a=>1000+a.toNat) (by kernel_rfl)
end Zfd
namespace Zcj
def sp:Spec:=ah ⟨[(0,Ss)],[]⟩ ⟨[(0,Si),(1,SB)],[]⟩ g
noncomputable def T(ad:LQ):=mkF ad 206 [] sp [Zfd.T ad] t0 (fun n=>tl 2 ⟨[(0,Ss),(4,Si)],[]⟩ (fun _=>l2 n) <| tn) t0 14 [] f (fun a=>1000+a.length) (by kernel_rfl)
end Zcj
namespace Zbd
def sp:Spec:=ah ⟨[(0,Sp 0 0)],[(some 0,[.sl u0,ki,ki])]⟩ ⟨[(0,Si)],[(none,[.sl u0,ki,ki])]⟩ g
noncomputable def T(ad:LQ):=mkF ad 165 [] sp [Zcd.T ad,Zcj.T ad] (fun n=>tj 4 ⟨[(0,Sp 0 0),(3,Si)],[(none,[.sl u0,ki,ki])]⟩ (fun _=>j4 n) <| tn) t0 t0 31 [] f (fun a b c=>1000+a.length+b.toNat+c.toNat) (by kernel_rfl)
end Zbd
namespace Zbt
def sp:Spec:=ah ⟨[(0,Sp 0 0),(1,Ss)],[(some 0,[.sl u0,ki,ki])]⟩ ⟨[],[(none,[.sl u0,ki,ki])]⟩ g
noncomputable def T(ad:LQ):=mkF ad 166 [] sp [Zcd.T ad] (fun n=>tj 2 ⟨[(0,Sp 0 0)],[(none,[.sl u0,ki,ki])]⟩ (fun _=>j2 n) <| tn) t0 t0 25 [] f (fun a b c d=>1000+a.length+b.length+c.toNat+d.toNat) (by kernel_rfl)
end Zbt
namespace Zbq
def sp:Spec:=ah ⟨[(0,Sp 0 0),(1,Ss)],[(some 0,[.sl u0,ki,ki])]⟩ ⟨[(0,SB)],[(none,[.sl u0,ki,ki])]⟩ g
noncomputable def T(ad:LQ):=mkF ad 262 [] sp [] t0 t0 t0 58 [] f (fun a b c d=>1000+a.length+b.length+c.toNat+d.toNat) (by kernel_rfl)
end Zbq
def rivetref15_parser_sum.spq(q:Nat):Spec:=ah ⟨[(0,Sp 0 0),(1,Si)],[(some 0,[.sl u0,ki,ki])]⟩ ⟨[(0,.c (.row 44 u1))],[(none,[.sl u0,ki,ki])]⟩ (au q).rivetref15_parser_sum
def rivetref15_parser_term.spq(q:Nat):Spec:=ah ⟨[(0,Sp 0 0),(1,Si)],[(some 0,[.sl u0,ki,ki])]⟩ ⟨[(0,.c (.row 44 u1))],[(none,[.sl u0,ki,ki])]⟩ (au q).rivetref15_parser_term
def rivetref15_parser_factor.spq(q:Nat):Spec:=ah ⟨[(0,Sp 0 0),(1,Si)],[(some 0,[.sl u0,ki,ki])]⟩ ⟨[(0,.c (.row 44 u1))],[(none,[.sl u0,ki,ki])]⟩ (au q).rivetref15_parser_factor
namespace rivetref15_parser_sum
theorem step(q:Nat)(ih:Sat P (LW ad) 235 (rivetref15_parser_sum.spq q)/\Sat P (LW ad) 261 (rivetref15_parser_term.spq q)/\Sat P (LW ad) 277 (rivetref15_parser_factor.spq q)/\True):Sat P (LW ad) 235 (spq (q+1)):=kV mixed fD gG 235 (spq (q+1)) [((261,[]),rivetref15_parser_term.spq q),(Zbq.T ad).kv] (dm ih.2.1 (aO (by kernel_rfl)) (ek (Zbq.T ad) eU)) (fun n=>tj 8 ⟨[(0,Sp 0 0),(1,Si),(5,.c (.row 44 u1)),(6,Si)],[(none,[.sl u0,ki,ki])]⟩ (fun ms=>j8 n (au q) (l2 n (au q) ms.head!)) <| tn) (fun n=>tl 2 ⟨[(0,Sp 0 0),(1,Si),(5,.c (.row 44 u1))],[(none,[.sl u0,ki,ki])]⟩ (fun _=>l2 n (au q)) <| tn) t0 32 [] (fun n=>f n (au q)) (fun a b c d=>1000+a.toNat+b.length+c.toNat+d.toNat) (by kernel_rfl) (by kernel_rfl)
end rivetref15_parser_sum
namespace rivetref15_parser_term
theorem step(q:Nat)(ih:Sat P (LW ad) 235 (rivetref15_parser_sum.spq q)/\Sat P (LW ad) 261 (rivetref15_parser_term.spq q)/\Sat P (LW ad) 277 (rivetref15_parser_factor.spq q)/\True):Sat P (LW ad) 261 (spq (q+1)):=kV mixed fD gG 261 (spq (q+1)) [((277,[]),rivetref15_parser_factor.spq q),(Zbq.T ad).kv] (dm ih.2.2.1 (aO (by kernel_rfl)) (ek (Zbq.T ad) eU)) t0 (fun n=>tl 2 ⟨[(0,Sp 0 0),(1,Si),(5,.c (.row 44 u1))],[(none,[.sl u0,ki,ki])]⟩ (fun _=>l2 n (au q)) <| tn) t0 27 [] (fun n=>f n (au q)) (fun a b c d=>1000+a.toNat+b.length+c.toNat+d.toNat) (by kernel_rfl) (by kernel_rfl)
end rivetref15_parser_term
namespace rivetref15_parser_factor
theorem step(q:Nat)(ih:Sat P (LW ad) 235 (rivetref15_parser_sum.spq q)/\Sat P (LW ad) 261 (rivetref15_parser_term.spq q)/\Sat P (LW ad) 277 (rivetref15_parser_factor.spq q)/\True):Sat P (LW ad) 277 (spq (q+1)):=kV mixed fD gG 277 (spq (q+1)) [(Zbq.T ad).kv,((277,[]),rivetref15_parser_factor.spq q),((235,[]),rivetref15_parser_sum.spq q),(Zbw.T ad).kv] (ek (Zbq.T ad) (dm ih.2.2.1 (aO (by kernel_rfl)) (dm ih.1 (aO (by kernel_rfl)) (ek (Zbw.T ad) eU)))) (fun n=>tj 20 ⟨[(0,Sp 0 0)],[(none,[.sl u0,ki,ki])]⟩ (fun _=>j20 n (au q)) <| tn) t0 t0 100 [] (fun n=>f n (au q)) (fun a b c d=>1000+a.toNat+b.length+c.toNat+d.toNat) (by kernel_rfl) (by kernel_rfl)
end rivetref15_parser_factor
theorem bf:∀q,Sat P (LW ad) 235 (rivetref15_parser_sum.spq q)/\Sat P (LW ad) 261 (rivetref15_parser_term.spq q)/\Sat P (LW ad) 277 (rivetref15_parser_factor.spq q)/\True
 |0=>⟨gW fun _=>rfl,gW fun _=>rfl,gW fun _=>rfl,trivial⟩
 |q+1=>⟨rivetref15_parser_sum.step q (bf q),rivetref15_parser_term.step q (bf q),rivetref15_parser_factor.step q (bf q),trivial⟩
def rivetref15_parser_sum.sp:Spec:=ah ⟨[(0,Sp 0 0),(1,Si)],[(some 0,[.sl u0,ki,ki])]⟩ ⟨[(0,.c (.row 44 u1))],[(none,[.sl u0,ki,ki])]⟩ rivetref15_parser_sum.g
noncomputable def rivetref15_parser_sum.T(ad:LQ):TF P (LW ad):=⟨235,[],rivetref15_parser_sum.sp,jV (F:=fun q=>(au q).rivetref15_parser_sum) (fun a b c d=>1000+a.toNat+b.length+c.toNat+d.toNat) (fun q=>(bf q).1) (fun _=>by kernel_rfl),aO (by kernel_rfl)⟩
def rivetref15_parser_term.sp:Spec:=ah ⟨[(0,Sp 0 0),(1,Si)],[(some 0,[.sl u0,ki,ki])]⟩ ⟨[(0,.c (.row 44 u1))],[(none,[.sl u0,ki,ki])]⟩ rivetref15_parser_term.g
noncomputable def rivetref15_parser_term.T(ad:LQ):TF P (LW ad):=⟨261,[],rivetref15_parser_term.sp,jV (F:=fun q=>(au q).rivetref15_parser_term) (fun a b c d=>1000+a.toNat+b.length+c.toNat+d.toNat) (fun q=>(bf q).2.1) (fun _=>by kernel_rfl),aO (by kernel_rfl)⟩
def rivetref15_parser_factor.sp:Spec:=ah ⟨[(0,Sp 0 0),(1,Si)],[(some 0,[.sl u0,ki,ki])]⟩ ⟨[(0,.c (.row 44 u1))],[(none,[.sl u0,ki,ki])]⟩ rivetref15_parser_factor.g
noncomputable def rivetref15_parser_factor.T(ad:LQ):TF P (LW ad):=⟨277,[],rivetref15_parser_factor.sp,jV (F:=fun q=>(au q).rivetref15_parser_factor) (fun a b c d=>1000+a.toNat+b.length+c.toNat+d.toNat) (fun q=>(bf q).2.2.1) (fun _=>by kernel_rfl),aO (by kernel_rfl)⟩
namespace Zei
def sp:Spec:=ah ⟨[(0,.c (.sl u0)),(1,Si)],[]⟩ ⟨[(0,.c (.row 44 u1)),(1,Si),(2,Si)],[]⟩ g
noncomputable def T(ad:LQ):=mkF ad 207 [] sp [rivetref15_parser_sum.T ad] t0 t0 t0 32 [] f (fun a b=>1000+a.length+b.toNat) (by kernel_rfl)
end Zei
namespace Zce
def sp:Spec:=ah ⟨[(0,Sp 0 0)],[(some 0,[.sl u0,ki,ki])]⟩ ⟨[(0,.c (.row 44 u1))],[(none,[.sl u0,ki,ki])]⟩ g
noncomputable def T(ad:LQ):=mkF ad 167 [] sp [Zei.T ad] t0 t0 t0 33 [] f (fun a b c=>1000+a.length+b.toNat+c.toNat) (by kernel_rfl)
end Zce
namespace Zcm
def sp:Spec:=ah ⟨[(0,Sp 0 0),(1,.agg c0),(2,Si),(3,Si)],[(some 0,[.sl u0,ki,ki])]⟩ ⟨[(0,.agg c0)],[(none,[.sl u0,ki,ki])]⟩ g
noncomputable def T(ad:LQ):=mkF ad 168 [] sp [Zcd.T ad,Zcj.T ad,Zbd.T ad,Zce.T ad] (fun n=>tj 7 ⟨[(5,Sp 1 0),(8,Sp 2 0)],[(none,[.sl u0,ki,ki]),(some 0,c0),(some 1,c0)]⟩ (fun _=>j7 n) <| tn) t0 t0 29 [] f (fun a b c d e _ j k l o p q r=>1000+a.toNat+b.toNat+c.toNat+d.toNat+e.toNat+j.length+k.length+l.toNat+o.toNat+p.length+q.toNat+r.toNat) (by kernel_rfl)
end Zcm
namespace Zaj
def sp:Spec:=ah ⟨[(0,Sp 0 0),(1,.agg c0)],[(some 0,[.sl u0,ki,ki])]⟩ ⟨[(0,.agg c0)],[(none,[.sl u0,ki,ki])]⟩ g
noncomputable def T(ad:LQ):=mkF ad 116 [] sp [Zbd.T ad,Zbt.T ad,Zce.T ad,Zcm.T ad,Zcd.T ad,Zaz.T ad] (fun n=>tj 16 ⟨[(0,Sp 0 0),(3,Sp 1 0),(4,Sp 2 0)],[(none,[.sl u0,ki,ki]),(some 1,c0),(some 2,c0)]⟩ (fun _=>j16 n) <| tj 12 ⟨[(0,Sp 0 0),(3,Sp 1 0),(4,Sp 2 0)],[(none,[.sl u0,ki,ki]),(some 1,c0),(some 2,c0)]⟩ (fun _=>j12 n) <| tj 35 ⟨[(3,Sp 1 0),(4,Sp 2 0)],[(none,[.sl u0,ki,ki]),(some 0,c0),(some 1,c0)]⟩ (fun _=>j35 n) <| tj 22 ⟨[(0,Sp 0 0),(3,Sp 1 0),(4,Sp 2 0)],[(none,[.sl u0,ki,ki]),(some 1,c0),(some 2,c0)]⟩ (fun _=>j22 n) <| tj 30 ⟨[(0,Sp 0 0),(3,Sp 1 0),(4,Sp 2 0)],[(none,[.sl u0,ki,ki]),(some 1,c0),(some 2,c0)]⟩ (fun _=>j30 n) <| tj 5 ⟨[(0,Sp 0 0),(3,Sp 1 0),(4,Sp 2 0)],[(none,[.sl u0,ki,ki]),(some 1,c0),(some 2,c0)]⟩ (fun _=>j5 n) <| tj 3 ⟨[(0,Sp 0 0),(3,Sp 1 0),(4,Sp 2 0)],[(none,[.sl u0,ki,ki]),(some 1,c0),(some 2,c0)]⟩ (fun _=>j3 n) <| tn) t0 t0 105 [] f (fun a b c d e _ j k l o p=>1000+a.toNat+b.toNat+c.toNat+d.toNat+e.toNat+j.length+k.length+l.length+o.toNat+p.toNat) (by kernel_rfl)
end Zaj
namespace Zap
def sp:Spec:=ah ⟨[(0,.c (.sl u0))],[]⟩ ⟨[(0,Ss),(1,.agg c0),(2,Si)],[]⟩ g
noncomputable def T(ad:LQ):=mkF ad 60 [] sp [Zbw.T ad,Zba.T ad,Zaj.T ad] (fun n=>tj 19 ⟨[(3,Sp 0 0),(5,Sp 1 0),(6,Ss),(13,Sp 2 0)],[(some 0,c0),(some 1,[.sl u0,ki,ki]),(some 3,c0)]⟩ (fun _=>j19 n) <| tj 15 ⟨[(0,.c (.sl u0)),(3,Sp 0 0),(5,Sp 1 0),(6,Ss),(8,Si),(9,Si),(10,SB)],[(some 1,c0),(some 2,[.sl u0,ki,ki])]⟩ (fun _=>j15 n) <| tj 13 ⟨[(0,.c (.sl u0)),(3,Sp 0 0),(5,Sp 1 0),(6,Ss),(7,Sp 2 0),(8,Si),(9,Si),(10,SB),(11,SB),(12,SB)],[(some 1,c0),(some 2,[.sl u0,ki,ki]),(some 4,[ki,ki,.str,ku])]⟩ (fun _=>j13 n) <| tj 8 ⟨[(0,.c (.sl u0)),(3,Sp 0 0),(5,Sp 1 0),(6,Ss)],[(some 1,c0),(some 2,[.sl u0,ki,ki])]⟩ (fun _=>j8 n) <| tn) t0 t0 144 [] f (fun a=>1000+a.length) (by kernel_rfl)
end Zap
namespace Zdc
def sp:Spec:=ah ⟨[(0,Ss)],[]⟩ ⟨[(0,.c (.row 41 u2)),(1,Si),(2,Si)],[]⟩ g
noncomputable def T(ad:LQ):=mkF ad 24 [] sp [Zcb.T ad,Zai.T ad,Zap.T ad] t0 (fun n=>tl 8 ⟨[(5,.c (.row 9 .str)),(6,.c (.row 41 u2)),(7,Si)],[]⟩ (fun _=>l8 n) <| tn) t0 59 [] f (fun a=>1000+a.length) (by kernel_rfl)
end Zdc
namespace Zbl
def sp:Spec:=ah ⟨[(0,.c (.sl u3)),(1,Ss)],[]⟩ ⟨[(0,Si),(1,SB)],[]⟩ g
noncomputable def T(ad:LQ):=mkF ad 29 [] sp [] t0 (fun n=>tl 2 ⟨[(0,.c (.sl u3)),(1,Ss),(6,Si)],[]⟩ (fun _=>l2 n) <| tn) t0 25 [] f (fun a b=>1000+a.length+b.length) (by kernel_rfl)
end Zbl
namespace Zev
def sp:Spec:=ah ⟨[(0,.agg c0)],[]⟩ ⟨[(0,Si)],[]⟩ g
noncomputable def T(ad:LQ):=mkF ad 74 [] sp [] t0 t0 t0 11 [] f (fun a b c d e _ j k=>1000+a.toNat+b.toNat+c.toNat+d.toNat+e.toNat+j.length+k.length) (by kernel_rfl)
end Zev
namespace Zej
def sp:Spec:=ah ⟨[(0,.agg [ki,ku,.str])],[]⟩ ⟨[(0,Si)],[]⟩ g
noncomputable def T(ad:LQ):=mkF ad 175 [] sp [Zbw.T ad] t0 t0 t0 39 [] f (fun a b c=>1000+a.toNat+b.toNat+c.length) (by kernel_rfl)
end Zej
namespace Zcy
def sp:Spec:=ah ⟨[(0,.c (.sl u1))],[]⟩ ⟨[(0,SB)],[]⟩ g
noncomputable def T(ad:LQ):=mkF ad 128 [] sp [Zej.T ad] t0 (fun n=>tl 3 ⟨[(0,.c (.sl u1)),(3,Si),(4,Si)],[]⟩ (fun _=>l3 n) <| tn) t0 35 [] f (fun a=>1000+a.length) (by kernel_rfl)
end Zcy
namespace Zal
def sp:Spec:=ah ⟨[(0,.c (.sl u1)),(1,.c (.sl u3))],[]⟩ ⟨[(0,.agg [ku,ki]),(1,Si)],[]⟩ g
noncomputable def T(ad:LQ):=mkF ad 75 [] sp [Zcy.T ad,Zbl.T ad] (fun n=>tj 29 ⟨[(0,.c (.sl u1)),(1,.c (.sl u3)),(4,Sp 0 0),(6,.c (.row 70 u4)),(7,Si),(8,Si),(9,Sp 1 0)],[(some 2,[ku,ki]),(some 6,[ku,ki])]⟩ (fun ms=>j29 n (l5 n ms.head!)) <| tn) (fun n=>tl 5 ⟨[(0,.c (.sl u1)),(1,.c (.sl u3)),(4,Sp 0 0),(6,.c (.row 70 u4)),(7,Si)],[(some 2,[ku,ki])]⟩ (fun _=>l5 n) <| tn) t0 173 [] f (fun a b=>1000+a.length+b.length) (by kernel_rfl)
end Zal
namespace Zcp
def sp:Spec:=ah ⟨[(0,.c (.sl u4)),(1,.agg [ku,ki])],[]⟩ ⟨[(0,.c (.sl u4)),(1,Si)],[]⟩ g
noncomputable def T(ad:LQ):=mkF ad 76 [] sp [] t0 (fun n=>tl 2 ⟨[(0,.c (.sl u4)),(3,Sp 0 0),(6,Si)],[(some 1,[ku,ki])]⟩ (fun _=>l2 n) <| tn) t0 29 [] f (fun a b c=>1000+a.length+b.toNat+c.toNat) (by kernel_rfl)
end Zcp
namespace Zah
def sp:Spec:=ah ⟨[(0,.c (.sl u2))],[]⟩ ⟨[(0,.agg c3),(1,Si),(2,Si)],[]⟩ g
noncomputable def T(ad:LQ):=mkF ad 28 [] sp [Zbl.T ad,Zev.T ad,Zal.T ad,Zcp.T ad] (fun n=>tj 11 ⟨[(0,.c (.sl u2)),(2,Sp 0 0),(5,Sp 1 0),(6,Si)],[(some 1,c3),(some 2,c3)]⟩ (fun ms=>j11 n (l3 n ms.head!)) <| tj 14 ⟨[(0,.c (.sl u2)),(2,Sp 0 0),(5,Sp 1 0),(9,Si)],[(some 1,c3),(some 2,c3)]⟩ (fun ms=>j14 n (l13 n ms.head!)) <| tj 19 ⟨[(0,.c (.sl u2)),(2,Sp 0 0),(5,Sp 1 0),(9,Si),(10,Sp 2 0),(11,Si)],[(some 1,c3),(some 2,c3),(some 4,[ku,ki])]⟩ (fun ms=>j19 n (l13 n ms.head!)) <| tn) (fun n=>tl 13 ⟨[(0,.c (.sl u2)),(2,Sp 0 0),(5,Sp 1 0),(9,Si)],[(some 1,c3),(some 2,c3)]⟩ (fun _=>l13 n) <| tl 3 ⟨[(0,.c (.sl u2)),(2,Sp 0 0),(5,Sp 1 0),(6,Si)],[(some 1,c3),(some 2,c3)]⟩ (fun _=>l3 n) <| tn) t0 135 [] f (fun a=>1000+a.length) (by kernel_rfl)
end Zah
namespace Zfj
def sp:Spec:=ah ⟨[(0,.agg c0)],[]⟩ ⟨[(0,.agg c5)],[]⟩ g
noncomputable def T(ad:LQ):=mkF ad 80 [] sp [] t0 t0 t0 16 [] f (fun a b c d e _ j k=>1000+a.toNat+b.toNat+c.toNat+d.toNat+e.toNat+j.length+k.length) (by kernel_rfl)
end Zfj
namespace Zbs
def sp:Spec:=ah ⟨[(0,.c (.sl u1)),(1,.c (.sl u3)),(2,Si),(3,Si)],[]⟩ ⟨[(0,Si),(1,Si)],[]⟩ g
noncomputable def T(ad:LQ):=mkF ad 81 [] sp [Zal.T ad] (fun n=>tj 12 ⟨[(2,Si),(3,Si),(12,Si)],[]⟩ (fun _=>j12 n) <| tj 10 ⟨[(2,Si),(3,Si),(12,Si),(13,Si)],[]⟩ (fun _=>j10 n) <| tn) t0 t0 52 [] f (fun a b c d=>1000+a.length+b.length+c.toNat+d.toNat) (by kernel_rfl)
end Zbs
namespace Zcz
def sp:Spec:=ah ⟨[(0,Si)],[]⟩ ⟨[(0,SB)],[]⟩ g
noncomputable def T(ad:LQ):=mkF ad 176 [] sp [] t0 t0 t0 9 [] f (fun a=>1000+a.toNat) (by kernel_rfl)
end Zcz
namespace Zcn
def sp:Spec:=ah ⟨[(0,Si),(1,Si)],[]⟩ ⟨[(0,SB)],[]⟩ g
noncomputable def T(ad:LQ):=mkF ad 83 [] sp [] t0 t0 t0 21 [] f (fun a b=>1000+a.toNat+b.toNat) (by kernel_rfl)
end Zcn
namespace Zak
def sp:Spec:=ah ⟨[(0,.agg c5)],[]⟩ ⟨[(0,SB)],[]⟩ g
noncomputable def T(ad:LQ):=mkF ad 129 [] sp [Zcz.T ad,Zcn.T ad] (fun n=>tj 22 ⟨[(1,Sp 0 0),(3,Sp 1 0),(5,SB)],[(some 0,c5),(some 1,c5)]⟩ (fun _=>j22 n) <| tj 21 ⟨[(1,Sp 0 0),(3,Sp 1 0)],[(some 0,c5),(some 1,c5)]⟩ (fun _=>j21 n) <| tj 15 ⟨[(1,Sp 0 0),(3,Sp 1 0)],[(some 0,c5),(some 1,c5)]⟩ (fun _=>j15 n) <| tj 13 ⟨[(1,Sp 0 0),(3,Sp 1 0),(4,SB)],[(some 0,c5),(some 1,c5)]⟩ (fun _=>j13 n) <| tj 8 ⟨[(1,Sp 0 0),(3,Sp 1 0),(4,SB)],[(some 0,c5),(some 1,c5)]⟩ (fun _=>j8 n) <| tj 25 ⟨[(1,Sp 0 0),(3,Sp 1 0)],[(some 0,c5),(some 1,c5)]⟩ (fun _=>j25 n) <| tj 26 ⟨[(1,Sp 0 0),(3,Sp 1 0),(36,Si)],[(some 0,c5),(some 1,c5)]⟩ (fun _=>j26 n) <| tj 23 ⟨[(1,Sp 0 0),(3,Sp 1 0),(36,Si)],[(some 0,c5),(some 1,c5)]⟩ (fun _=>j23 n) <| tj 5 ⟨[(1,Sp 0 0),(3,Sp 1 0),(4,SB)],[(some 0,c5),(some 1,c5)]⟩ (fun _=>j5 n) <| tn) t0 t0 186 [] f (fun a b c d e i _=>1000+a.toNat+b.toNat+c.toNat+d.toNat+e.toNat+i.toNat) (by kernel_rfl)
end Zak
namespace Zed
def sp:Spec:=ah ⟨[(0,SB)],[]⟩ ⟨[(0,Su)],[]⟩ g
noncomputable def T(ad:LQ):=mkF ad 130 [] sp [] t0 t0 t0 4 [] f (fun _=>(1000:Nat)) (by kernel_rfl)
end Zed
namespace Zdp
def sp:Spec:=ah ⟨[(0,.agg c5)],[]⟩ ⟨[(0,Su),(1,Si)],[]⟩ g
noncomputable def T(ad:LQ):=mkF ad 85 [] sp [Zak.T ad,Zed.T ad] t0 t0 t0 122 [] f (fun a b c d e i _=>1000+a.toNat+b.toNat+c.toNat+d.toNat+e.toNat+i.toNat) (by kernel_rfl)
end Zdp
namespace Zer
def sp:Spec:=ah ⟨[(0,Su),(1,Si)],[]⟩ ⟨[(0,Si)],[]⟩ g
noncomputable def T(ad:LQ):=mkF ad 82 [] sp [] t0 t0 t0 25 [] f (fun a b=>1000+a.toNat+b.toNat) (by kernel_rfl)
end Zer
namespace Zdf
def sp:Spec:=ah ⟨[(0,.agg [ku,ki]),(1,Si)],[]⟩ ⟨[(0,Si)],[]⟩ g
noncomputable def T(ad:LQ):=mkF ad 84 [] sp [] (fun n=>tj 3 ⟨[(1,Si),(2,Sp 0 0)],[(some 1,[ku,ki])]⟩ (fun _=>j3 n) <| tn) t0 t0 24 [] f (fun a b c=>1000+a.toNat+b.toNat+c.toNat) (by kernel_rfl)
end Zdf
namespace Zaq
def sp:Spec:=ah ⟨[(0,.agg c0),(1,Si),(2,.agg c7)],[]⟩ ⟨[(0,Su),(1,SB),(2,Si)],[]⟩ g
noncomputable def T(ad:LQ):=mkF ad 31 [] sp [Zfj.T ad,Zbs.T ad,Zdp.T ad,Zal.T ad,Zer.T ad,Zcn.T ad,Zcp.T ad,Zdf.T ad] (fun n=>tj 30 ⟨[(9,Sp 0 0),(10,Si)],[(some 0,c5)]⟩ (fun _=>j30 n) <| tj 8 ⟨[(3,Sp 0 0),(5,Sp 1 0),(9,Sp 2 0),(11,Si)],[(some 0,c0),(some 1,c7),(some 2,c5)]⟩ (fun _=>j8 n) <| tj 19 ⟨[(9,Sp 0 0),(10,Si),(14,Si)],[(some 0,c5)]⟩ (fun _=>j19 n) <| tj 17 ⟨[(9,Sp 0 0),(10,Si),(14,Si)],[(some 0,c5)]⟩ (fun _=>j17 n) <| tj 29 ⟨[(19,Sp 0 0),(20,Si)],[(some 0,[ku,ki])]⟩ (fun _=>j29 n) <| tn) t0 t0 159 [] f (fun a b c d e _ j k l o p q r s=>1000+a.toNat+b.toNat+c.toNat+d.toNat+e.toNat+j.length+k.length+l.toNat+o.length+p.length+q.length+r.toNat+s.toNat) (by kernel_rfl)
end Zaq
namespace Zad
def sp:Spec:=ah ⟨[(0,.c (.sl u2))],[]⟩ ⟨[(0,.agg c6),(1,Si),(2,Si)],[]⟩ g
noncomputable def T(ad:LQ):=mkF ad 13 [] sp [Zah.T ad,Zbl.T ad,Zaz.T ad,Zaq.T ad] (fun n=>tj 7 ⟨[(0,.c (.sl u2)),(2,Sp 0 0),(5,Sp 1 0),(8,Sp 2 0),(9,Si)],[(some 1,c6),(some 2,c3),(some 3,c6)]⟩ (fun ms=>j7 n (l6 n ms.head!)) <| tj 21 ⟨[(0,.c (.sl u2)),(2,Sp 0 0),(5,Sp 1 0),(8,Sp 2 0),(9,Si),(10,Sp 3 0),(11,Si),(13,Si)],[(some 1,c6),(some 2,c3),(some 3,c6),(some 5,c0)]⟩ (fun ms=>j21 n (l6 n ms.head!)) <| tj 19 ⟨[(0,.c (.sl u2)),(2,Sp 0 0),(5,Sp 1 0),(8,Sp 2 0),(9,Si),(10,Sp 3 0),(11,Si),(13,Si)],[(some 1,c6),(some 2,c3),(some 3,c6),(some 5,c0)]⟩ (fun ms=>j19 n (l6 n ms.head!)) <| tj 28 ⟨[(0,.c (.sl u2)),(2,Sp 0 0),(5,Sp 1 0),(8,Sp 2 0),(9,Si),(15,Su)],[(some 1,c6),(some 2,c3),(some 3,c6)]⟩ (fun ms=>j28 n (l6 n ms.head!)) <| tj 34 ⟨[(2,Sp 0 0),(5,Sp 1 0),(8,Sp 2 0),(18,Si)],[(some 0,c6),(some 1,c3),(some 2,c6)]⟩ (fun ms=>j34 n (l30 n ms.head!)) <| tn) (fun n=>tl 17 ⟨[(0,.c (.sl u2)),(2,Sp 0 0),(5,Sp 1 0),(8,Sp 2 0),(9,Si),(10,Sp 3 0),(11,Si),(13,Si)],[(some 1,c6),(some 2,c3),(some 3,c6),(some 5,c0)]⟩ (fun ms=>l17 n (l6 n ms.head!)) <| tl 30 ⟨[(2,Sp 0 0),(5,Sp 1 0),(8,Sp 2 0),(18,Si)],[(some 0,c6),(some 1,c3),(some 2,c6)]⟩ (fun _=>l30 n) <| tl 6 ⟨[(0,.c (.sl u2)),(2,Sp 0 0),(5,Sp 1 0),(8,Sp 2 0),(9,Si)],[(some 1,c6),(some 2,c3),(some 3,c6)]⟩ (fun _=>l6 n) <| tn) t0 196 [] f (fun a=>1000+a.length) (by kernel_rfl)
end Zad
namespace Zef
def sp:Spec:=ah ⟨[(0,Ss)],[]⟩ ⟨[(0,.agg c6),(1,Si),(2,Si)],[]⟩ g
noncomputable def T(ad:LQ):=mkF ad 10 [] sp [Zdc.T ad,Zad.T ad] t0 t0 t0 24 [] f (fun a=>1000+a.length) (by kernel_rfl)
end Zef
namespace Zbb
def sp:Spec:=ah ⟨[(0,.c (.sl u2))],[]⟩ ⟨[(0,.c (.row 41 u2))],[]⟩ g
noncomputable def T(ad:LQ):=mkF ad 12 [] sp [] (fun n=>tj 15 ⟨[(0,.c (.sl u2)),(3,.c (.row 41 u2)),(4,Si),(5,Sp 0 0),(6,.c (.row 44 u1))],[(some 3,c2)]⟩ (fun ms=>j15 n (l3 n ms.head!)) <| tn) (fun n=>tl 10 ⟨[(0,.c (.sl u2)),(3,.c (.row 41 u2)),(4,Si),(5,Sp 0 0),(6,.c (.row 44 u1)),(7,Si)],[(some 3,c2)]⟩ (fun ms=>l10 n (l3 n ms.head!)) <| tl 3 ⟨[(0,.c (.sl u2)),(3,.c (.row 41 u2)),(4,Si)],[]⟩ (fun _=>l3 n) <| tn) t0 82 [] f (fun a=>1000+a.length) (by kernel_rfl)
end Zbb
namespace Zay
def sp:Spec:=ah ⟨[(0,Ss)],[]⟩ ⟨[(0,Ss)],[]⟩ g
noncomputable def T(ad:LQ):=mkF ad 88 [] sp [] t0 (fun n=>tl 4 ⟨[(0,Ss),(3,Ss),(4,Ss),(5,Si)],[]⟩ (fun _=>l4 n) <| tn) t0 39 [] f (fun a=>1000+a.length) (by kernel_rfl)
end Zay
namespace Zbx
def sp:Spec:=ah ⟨[(0,Ss)],[]⟩ ⟨[(0,Ss)],[]⟩ g
noncomputable def T(ad:LQ):=mkF ad 34 [] sp [Zay.T ad] t0 t0 t0 17 [] f (fun a=>1000+a.length) (by kernel_rfl)
end Zbx
namespace Zae
def sp:Spec:=ah ⟨[(0,.c (.sl u1))],[]⟩ ⟨[(0,.c (.row 44 u1))],[]⟩ g
noncomputable def T(ad:LQ):=mkF ad 86 [] sp [Zbx.T ad] (fun n=>tj 18 ⟨[(0,.c (.sl u1)),(3,.c (.row 44 u1)),(4,Si),(5,Si),(6,Sp 0 0)],[(some 4,[ki,ku,.str])]⟩ (fun ms=>j18 n (l4 n ms.head!)) <| tj 9 ⟨[(0,.c (.sl u1)),(3,.c (.row 44 u1)),(4,Si),(5,Si),(6,Sp 0 0)],[(some 4,[ki,ku,.str])]⟩ (fun ms=>j9 n (l4 n ms.head!)) <| tj 19 ⟨[(3,.c (.row 44 u1)),(4,Si)],[]⟩ (fun _=>j19 n) <| tn) (fun n=>tl 21 ⟨[(3,.c (.row 44 u1)),(4,Si)],[]⟩ (fun _=>l21 n) <| tl 4 ⟨[(0,.c (.sl u1)),(3,.c (.row 44 u1)),(4,Si),(5,Si)],[]⟩ (fun _=>l4 n) <| tn) t0 97 [] f (fun a=>1000+a.length) (by kernel_rfl)
end Zae
namespace Zan
def sp:Spec:=ah ⟨[(0,.agg c5)],[]⟩ ⟨[(0,.agg c5)],[]⟩ g
noncomputable def T(ad:LQ):=mkF ad 87 [] sp [] (fun n=>tj 25 ⟨[(2,Sp 0 0),(3,Sp 1 0)],[(some 0,c5),(some 1,c5)]⟩ (fun _=>j25 n) <| tj 10 ⟨[(1,Sp 0 0),(2,Sp 1 0),(3,Sp 2 0),(4,Si)],[(some 0,c5),(some 1,c5),(some 2,c5)]⟩ (fun _=>j10 n) <| tj 9 ⟨[(1,Sp 0 0),(2,Sp 1 0),(3,Sp 2 0),(4,Si)],[(some 0,c5),(some 1,c5),(some 2,c5)]⟩ (fun _=>j9 n) <| tj 7 ⟨[(1,Sp 0 0),(2,Sp 1 0),(3,Sp 2 0),(4,Si)],[(some 0,c5),(some 1,c5),(some 2,c5)]⟩ (fun _=>j7 n) <| tj 19 ⟨[(1,Sp 0 0),(2,Sp 1 0),(3,Sp 2 0)],[(some 0,c5),(some 1,c5),(some 2,c5)]⟩ (fun _=>j19 n) <| tn) t0 t0 111 [] f (fun a b c d e i _=>1000+a.toNat+b.toNat+c.toNat+d.toNat+e.toNat+i.toNat) (by kernel_rfl)
end Zan
namespace Zbu
def sp:Spec:=ah ⟨[(0,.agg c0)],[]⟩ ⟨[(0,.agg c0)],[]⟩ g
noncomputable def T(ad:LQ):=mkF ad 33 [] sp [Zae.T ad,Zan.T ad,Zay.T ad] (fun n=>tj 8 ⟨[(2,Sp 0 0),(6,Sp 1 0)],[(some 0,c0),(some 1,c0)]⟩ (fun _=>j8 n) <| tj 9 ⟨[(1,Sp 0 0),(2,Sp 1 0),(3,Si),(4,.c (.row 44 u1))],[(some 0,c0),(some 1,c0)]⟩ (fun _=>j9 n) <| tn) t0 t0 88 [] f (fun a b c d e _ j k=>1000+a.toNat+b.toNat+c.toNat+d.toNat+e.toNat+j.length+k.length) (by kernel_rfl)
end Zbu
namespace Zbn
def sp:Spec:=ah ⟨[(0,.c (.sl u2))],[]⟩ ⟨[(0,.c (.row 41 u2))],[]⟩ g
noncomputable def T(ad:LQ):=mkF ad 15 [] sp [Zbu.T ad,Zbx.T ad] (fun n=>tj 8 ⟨[(0,.c (.sl u2)),(3,.c (.row 41 u2)),(4,Si),(5,Sp 0 0)],[(some 3,c2)]⟩ (fun ms=>j8 n (l3 n ms.head!)) <| tn) (fun n=>tl 3 ⟨[(0,.c (.sl u2)),(3,.c (.row 41 u2)),(4,Si)],[]⟩ (fun _=>l3 n) <| tn) t0 51 [] f (fun a=>1000+a.length) (by kernel_rfl)
end Zbn
namespace Zbe
def sp:Spec:=ah ⟨[(0,.c (.sl u1)),(1,.c (.sl u3))],[]⟩ ⟨[(0,.c (.row 44 u1))],[]⟩ g
noncomputable def T(ad:LQ):=mkF ad 32 [] sp [Zae.T ad] (fun n=>tj 4 ⟨[(1,.c (.sl u3)),(5,.c (.row 44 u1)),(6,Si)],[]⟩ (fun ms=>j4 n (l3 n ms.head!)) <| tn) (fun n=>tl 3 ⟨[(1,.c (.sl u3)),(5,.c (.row 44 u1)),(6,Si)],[]⟩ (fun _=>l3 n) <| tn) t0 55 [] f (fun a b=>1000+a.length+b.length) (by kernel_rfl)
end Zbe
namespace Zab
def sp:Spec:=ah ⟨[(0,.c (.sl u2))],[]⟩ ⟨[(0,.c (.row 41 u2))],[]⟩ g
noncomputable def T(ad:LQ):=mkF ad 14 [] sp [Zbl.T ad,Zbe.T ad] (fun n=>tj 12 ⟨[(0,.c (.sl u2)),(3,.c (.row 41 u2)),(4,.c (.row 75 u3)),(5,Si),(6,Sp 0 0)],[(some 4,c2)]⟩ (fun ms=>j12 n (l4 n ms.head!)) <| tj 10 ⟨[(0,.c (.sl u2)),(3,.c (.row 41 u2)),(4,.c (.row 75 u3)),(5,Si),(6,Sp 0 0)],[(some 4,c2)]⟩ (fun ms=>j10 n (l4 n ms.head!)) <| tj 31 ⟨[(3,.c (.row 41 u2)),(4,.c (.row 75 u3)),(9,Si),(10,Sp 0 0),(14,Si)],[(some 3,c0)]⟩ (fun ms=>j31 n (l14 n ms.tail.head!) (l30 n (l14 n ms.tail.head!) ms.head!)) <| tj 36 ⟨[(3,.c (.row 41 u2)),(4,.c (.row 75 u3)),(9,Si),(10,Sp 0 0)],[(some 3,c0)]⟩ (fun ms=>j36 n (l14 n ms.head!)) <| tj 27 ⟨[(3,.c (.row 41 u2)),(4,.c (.row 75 u3)),(9,Si),(10,Sp 0 0)],[(some 3,c0)]⟩ (fun ms=>j27 n (l14 n ms.head!)) <| tj 26 ⟨[(3,.c (.row 41 u2)),(4,.c (.row 75 u3)),(9,Si),(10,Sp 0 0),(11,.c (.row 44 u1))],[(some 3,c0)]⟩ (fun ms=>j26 n (l14 n ms.head!)) <| tj 24 ⟨[(3,.c (.row 41 u2)),(4,.c (.row 75 u3)),(9,Si),(10,Sp 0 0),(11,.c (.row 44 u1)),(13,SB)],[(some 3,c0)]⟩ (fun ms=>j24 n (l14 n ms.head!)) <| tj 13 ⟨[(3,.c (.row 41 u2)),(4,.c (.row 75 u3))],[]⟩ (fun _=>j13 n) <| tn) (fun n=>tl 30 ⟨[(3,.c (.row 41 u2)),(4,.c (.row 75 u3)),(9,Si),(10,Sp 0 0),(14,Si)],[(some 3,c0)]⟩ (fun ms=>l30 n (l14 n ms.head!)) <| tl 20 ⟨[(3,.c (.row 41 u2)),(4,.c (.row 75 u3)),(9,Si),(10,Sp 0 0),(11,.c (.row 44 u1)),(12,Si)],[(some 3,c0)]⟩ (fun ms=>l20 n (l14 n ms.head!)) <| tl 14 ⟨[(3,.c (.row 41 u2)),(4,.c (.row 75 u3)),(9,Si)],[]⟩ (fun _=>l14 n) <| tl 4 ⟨[(0,.c (.sl u2)),(3,.c (.row 41 u2)),(4,.c (.row 75 u3)),(5,Si)],[]⟩ (fun _=>l4 n) <| tn) t0 164 [] f (fun a=>1000+a.length) (by kernel_rfl)
end Zab
namespace Zdd
def sp:Spec:=ah ⟨[(0,.c (.sl (.int .i64))),(1,.c (.sl (.int .i64)))],[]⟩ ⟨[(0,SB)],[]⟩ g
noncomputable def T(ad:LQ):=mkF ad 35 [] sp [] t0 (fun n=>tl 4 ⟨[(0,.c (.sl (.int .i64))),(1,.c (.sl (.int .i64))),(5,Si)],[]⟩ (fun _=>l4 n) <| tn) t0 26 [] f (fun a b=>1000+a.length+b.length) (by kernel_rfl)
end Zdd
namespace Zcg
def sp:Spec:=ah ⟨[(0,.agg c8),(1,.agg c8)],[]⟩ ⟨[(0,SB)],[]⟩ g
noncomputable def T(ad:LQ):=mkF ad 16 [] sp [Zcq.T ad,Zdd.T ad] t0 (fun n=>tl 4 ⟨[(2,Sp 0 0),(3,Sp 1 0),(5,Si)],[(some 0,c8),(some 1,c8)]⟩ (fun _=>l4 n) <| tn) t0 47 [] f (fun a b c d e i=>1000+a.length+b.length+c.length+d.length+e.length+i.length) (by kernel_rfl)
end Zcg
namespace rivetlaw21_AsmAll
def sp:Spec:=ah ⟨[(0,Ss),(1,.c (.sl u2))],[]⟩ ⟨[(0,SB)],[]⟩ g
def Q(ad:LQ)(a_rivetlaw21_shown:Option (Bool×Unit)):Nat->Env sp.r.T:=mP types maps [((7,[]),ah ⟨[],[]⟩ ⟨[(0,SB)],[]⟩ a_rivetlaw21_shown),(Zdz.T ad).kv,(Zde.T ad).kv,(Zef.T ad).kv,(Zbb.T ad).kv,(Zbi.T ad).kv,(Zad.T ad).kv,(Zbn.T ad).kv,(Zab.T ad).kv,(Zcg.T ad).kv] t0 t0 t0 115 0 []
theorem q2(ad:LQ)(a_rivetlaw21_shown:Option (Bool×Unit)):(fun(n:Nat)=>sL P 3 sp (Q ad a_rivetlaw21_shown n),fun n=>FM P 3 sp 115 (Q ad a_rivetlaw21_shown n))=(fun n=>sR P 3 sp (Q ad a_rivetlaw21_shown n),fun n=>ap sp.a.all (f a_rivetlaw21_shown n)):=by kernel_rfl
noncomputable def T(ad:LQ):=Pk ad 3 [] sp [Zez.T ad,Zdz.T ad,Zde.T ad,Zef.T ad,Zbb.T ad,Zbi.T ad,Zad.T ad,Zbn.T ad,Zab.T ad,Zcg.T ad] t0 t0 t0 115 [] (fun n=>f Zez.g n) (fun a b=>1000+a.length+b.length) (by kernel_rfl) (q2 ad Zez.g)
end rivetlaw21_AsmAll
theorem rivetlaw21_AsmAll.sat:Sat P (LW ad) 3 rivetlaw21_AsmAll.sp:=(rivetlaw21_AsmAll.T ad).sat
end
end Rv
namespace Rv
open Go
theorem w64{x:Int}(h:-9223372036854775808<=x/\x<=9223372036854775807):IntKind.i64.wrap x=x:=IntWalk.i64_in _ h
theorem OA{x:Int}(h:0<=x/\x<=4294967295):IntKind.u32.wrap x=x:=IntWalk.u32_in _ h
theorem w8u{x:Int}(h:0<=x/\x<=255):IntKind.u8.wrap x=x:=IntWalk.u8_in _ h
theorem yz{x:Int}(h:0<=x/\x<=18446744073709551615):IntKind.u64.wrap x=x:=IntWalk.u64_in _ h
theorem dt{p:Prop}[Decidable p]:(decide p=true)=p:=by simp
theorem df{p:Prop}[Decidable p]:(decide p=false)=¬p:=by simp
theorem gY(s:Str)(k:Nat):bt s (k:Int)=((s.getD k 0).toNat:Int):=rfl
theorem xO(b:UInt8):(b.toNat:Int)<256:=by have:=b.toNat_lt;omega
theorem bB{s:Str}{k:Nat}(h:k<s.length):s.drop k=s.getD k 0::s.drop (k+1):=by
 rw[P6 h];congr 1;simp[List.getD,h]
theorem dD(b:UInt8)(n:Nat)(hn:n<256):((b.toNat:Int)=(n:Int))=(b=UInt8.ofNat n):=by
 apply propext;constructor;·intro h;apply UInt8.toNat_inj.1;rw[UInt8.toNat_ofNat',Nat.mod_eq_of_lt hn];omega
 ·intro h;rw[h,UInt8.toNat_ofNat',Nat.mod_eq_of_lt hn]
theorem F6{n:Int}(h:(Lit.int .u32 n).wf=true):0<=n/\n<=4294967295:=by
 simp[Lit.wf,IntKind.min,IntKind.max,IntKind.signed,IntKind.bits] at h;omega
theorem xJ{n:Nat}(h:n<=maxLen):n<=9223372036854775807:=by unfold maxLen at h;omega
end Rv
