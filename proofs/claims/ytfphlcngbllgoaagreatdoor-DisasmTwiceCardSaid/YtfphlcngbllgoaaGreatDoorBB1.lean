/- Texts put together. -/
import Derived.Test.YtfphlcngbllgoaaGreatDoorB1
set_option linter.all false
open _root_ renaming Int→I,List→J,Option→U,Unit→X,Nat→F,Bool→G
open Decidable renaming decide→O
open Go.IntKind renaming i64→S,u64→H,u32→M
open Option renaming some→W,none→Y
open Bool renaming false→Z,true→N
namespace Rv
open Go
set_option maxRecDepth 100000
def K.atA:Fn:=(181,[])
def K.rdA:Fn:=(227,[.cf (181,[])])
def K.wrA:Fn:=(228,[.cf (181,[])])
def K.atB:Fn:=(182,[])
def K.rdB:Fn:=(227,[.cf (182,[])])
def K.wrB:Fn:=(228,[.cf (182,[])])
def K.atC:Fn:=(183,[])
def K.rdC:Fn:=(227,[.cf (183,[])])
def K.wrC:Fn:=(228,[.cf (183,[])])
def K.rdE:Fn:=(229,[.c0 (.cs ([]:Str))])
def K.wrE:Fn:=(231,[.c0 (.cs ([]:Str))])
def K.rdQ:Fn:=(229,[.c0 (.cs ([61]:Str))])
def K.wrQ:Fn:=(231,[.c0 (.cs ([61]:Str))])
def K.rdN:Fn:=(185,[])
def K.wrN:Fn:=(186,[])
abbrev Sy:=Str×I×X
abbrev It:=I×I×Str×X
abbrev Tk:=I×I×Str×I×X
abbrev Sn:=I×I×I×I×I×G×(J It)×Str×X
abbrev Ln:=Str×Sn×X
abbrev zI:It:=((0:I),((0:I),(([]:Str),())))
abbrev zT:Tk:=((0:I),((0:I),(([]:Str),((0:I),()))))
abbrev zL:Ln:=(([]:Str),(((0:I),((0:I),((0:I),((0:I),((0:I),(Z,([],(([]:Str),())))))))),()))
abbrev zS:Sy:=(([]:Str),((0:I),()))
def L.opsR(k o:I):J (Fn×Fn×X):=
 if k=1 then(if o=0 then[(K.rdA,K.wrA,()),(K.rdC,K.wrC,())] else[(K.rdA,K.wrA,()),(K.rdB,K.wrB,()),(K.rdC,K.wrC,())]) else
 if k=2 then(if o=0 then[(K.rdA,K.wrA,()),(K.rdE,K.wrE,())] else[(K.rdA,K.wrA,()),(K.rdB,K.wrB,()),(K.rdE,K.wrE,())]) else
 if k=3\/k=4 then[(K.rdA,K.wrA,())] else
 if k=5 then[(K.rdA,K.wrA,()),(K.rdB,K.wrB,()),(K.rdE,K.wrE,())] else
 if k=6 then[(K.rdC,K.wrC,())] else
 if k=7\/k=9 then[(K.rdE,K.wrE,())] else
 if k=8 then[(K.rdA,K.wrA,()),(K.rdQ,K.wrQ,())] else
 if k=10 then[(K.rdN,K.wrN,())] else[]
namespace Zba
def l12(n:F):F->(J I)->I->(J I)->I->I->U ((J I)×I×I×X)
 |0,_,_,_,_,_=>Y
 |m+1,a,b,c,d,e=>
  if(O (e<d)) then
  (if 0<=e/\e<(c.length:I) then
  (if 0<=(c.getD (e).toNat 0)/\(c.getD (e).toNat 0)<(a.length:I) then
  (if(O (65535<(a.getD ((c.getD (e).toNat (0:I))).toNat 0))) then(W ([],0,8,()))
  else
  (if 0<=(c.getD (e).toNat 0)/\(c.getD (e).toNat 0)<(a.length:I) then
  (if 0<=(c.getD (e).toNat 0)/\(c.getD (e).toNat 0)<(a.length:I) then
  ((Zba.l12 n m) (a.set ((c.getD (e).toNat (0:I))).toNat (bn .or .u32 (M.wrap ((a.getD ((c.getD (e).toNat (0:I))).toNat 0)*2 ^ (min (16:I).toNat M.bits))) (M.wrap b))) (S.wrap ((c.getD (e).toNat 0)+1)) c d (S.wrap (e+1))) else Y) else Y)) else Y) else Y)
  else(W (a,b,0,()))
def l3(n:F):F->(J I)->(J I)->I->(J I)->I->I->U ((J I)×I×I×X)
 |0,_,_,_,_,_,_=>Y
 |m+1,a,b,c,d,e,i=>
  if(O (i<e)) then
  (if 0<=i/\i<(d.length:I) then
  (if(O ((d.getD (i).toNat 0)<=c))=Z then
  (if(O ((a.length:I)<=(d.getD (i).toNat 0)))=Z then
  (if(O (65534<(d.getD (i).toNat 0))) then(W ([],0,7,()))
  else
  ((Zba.l3 n m) a b (d.getD (i).toNat 0) d e (S.wrap (i+1))))
  else(W ([],0,7,())))
  else(W ([],0,7,()))) else Y)
  else
  ((L.cloneO a).bind λy1=>
  Zba.l12 n n y1.1 0 b (b.length:I) 0)
def f(n:F)(a:J I)(b:J I):U ((J I)×I×I×X):=
  Zba.l3 n n a b (-1) b (b.length:I) 0
def g(a:J I)(b:J I):=f (1000+a.length+b.length) a b
end Zba
namespace Zev
def f(n:F)(a:I)(b:J I)(c:J I)(d:J Sy)(e:I):U (G×(J I)×(J I)×(J Sy)×I×X):=
  if 0<=a/\a<(b.length:I) then
  (W ((O (e<(S.wrap (b.getD (a).toNat 0)))),b,c,d,e,())) else Y
def g(a:I)(b:J I)(c:J I)(d:J Sy)(e:I):=f (1000+a.toNat+b.length+c.length+d.length+e.toNat) a b c d e
end Zev
namespace Zcq
def l2(n:F):F->(J I)->I->I->(J I)->(J I)->(J Sy)->I->U (I×(J I)×(J I)×(J Sy)×I×X)
 |0,_,_,_,_,_,_,_=>Y
 |m+1,a,b,c,d,e,i,j=>
  if(O (c<b)) then
  (if 0<=c/\c<(a.length:I) then
  ((Zev.g (a.getD (c).toNat 0) d e i j).bind λy1=>
  if y1.1 then(W (c,y1.2.1,y1.2.2.1,y1.2.2.2.1,y1.2.2.2.2.1,()))
  else
  ((Zcq.l2 n m) a b (S.wrap (c+1)) y1.2.1 y1.2.2.1 y1.2.2.2.1 y1.2.2.2.2.1)) else Y)
  else(W ((-1),d,e,i,j,()))
def f(n:F)(a:J I)(b:J I)(c:J I)(d:J Sy)(e:I):U (I×(J I)×(J I)×(J Sy)×I×X):=
  Zcq.l2 n n a (a.length:I) 0 b c d e
def g(a:J I)(b:J I)(c:J I)(d:J Sy)(e:I):=f (1000+a.length+b.length+c.length+d.length+e.toNat) a b c d e
end Zcq
namespace Zdx
def f(n:F)(a:J I)(b:J I)(c:J I)(d:J Sy)(e:I):U (G×(J I)×(J I)×(J Sy)×I×X):=
  (Zcq.g a b c d e).bind λy1=>
  W ((O (0<=y1.1)),y1.2.1,y1.2.2.1,y1.2.2.2.1,y1.2.2.2.2.1,())
def g(a:J I)(b:J I)(c:J I)(d:J Sy)(e:I):=f (1000+a.length+b.length+c.length+d.length+e.toNat) a b c d e
end Zdx
namespace Zby
def j4(n:F)(a:I)(b:G):U (G×X):=
  if(!b) then
  (if(O (a=95))=Z then
  (if(O (48<=a)) then(W ((O (a<=57)),()))
  else(W (Z,())))
  else(W (N,())))
  else(W (Z,()))
def f(n:F)(a:I)(b:G):U (G×X):=
  if(O (65<=a)) then
  (if(O (a<=90)) then
  (if(O (a<=90)) then(W (N,()))
  else(Zby.j4 n a b))
  else
  (if(O (97<=a)) then
  (if(O (a<=122)) then(W (N,()))
  else(Zby.j4 n a b))
  else(Zby.j4 n a b)))
  else
  (if(O (97<=a)) then
  (if(O (a<=122)) then(W (N,()))
  else(Zby.j4 n a b))
  else(Zby.j4 n a b))
def g(a:I)(b:G):=f (1000+a.toNat) a b
end Zby
namespace Zak
def l4(n:F):F->Str->I->I->U (G×X)
 |0,_,_,_=>Y
 |m+1,a,b,c=>
  if(O (c<b)) then
  (if 0<=c/\c<(a.length:I) then
  ((Zby.g (bt a c) (O (c=(0:I)))).bind λy1=>
  if(!y1.1) then(W (Z,()))
  else((Zak.l4 n m) a b (S.wrap (c+1)))) else Y)
  else
  (if 0<=(0:I)/\(0:I)<(a.length:I) then
  (if(O ((bt a 0)=82)) then
  (if(O ((a.length:I)=(2:I)))=Z then
  (if(O ((a.length:I)=(3:I))) then
  (if 0<=(1:I)/\(1:I)<=(a.length:I) then
  ((L.trimO ((a.take (((a.length:I)).toNat)).drop (((1:I)).toNat)) ([48,49,50,51,52,53,54,55,56,57]:Str)).bind λy2=>
  W ((!(O (y2.1=([]:Str)))),())) else Y)
  else(W (N,())))
  else
  (if 0<=(1:I)/\(1:I)<=(a.length:I) then
  ((L.trimO ((a.take (((a.length:I)).toNat)).drop (((1:I)).toNat)) ([48,49,50,51,52,53,54,55,56,57]:Str)).bind λy3=>
  W ((!(O (y3.1=([]:Str)))),())) else Y))
  else(W (N,()))) else Y)
def f(n:F)(a:Str):U (G×X):=
  if(O ((a.length:I)=(0:I)))=Z then
  (if(O ((12:I)<(a.length:I))) then(W (Z,()))
  else(Zak.l4 n n a (a.length:I) 0))
  else(W (Z,()))
def g(a:Str):=f (1000+a.length) a
end Zak
namespace Zbi
def j6(n:F)(rl2:(J Sy)->I->I->(J I)->(J I)->(J Sy)->U (G×(J I)×(J I)×(J Sy)×X))(a:J Sy)(b:I)(c:I)(d:J I)(e:J I)(i:J Sy):U (G×(J I)×(J I)×(J Sy)×X):=
  rl2 a b (S.wrap (c+1)) d e i
def l2(n:F):F->(J Sy)->I->I->(J I)->(J I)->(J Sy)->U (G×(J I)×(J I)×(J Sy)×X)
 |0,_,_,_,_,_,_=>Y
 |m+1,a,b,c,d,e,i=>
  if(O (c<b)) then
  (if 0<=c/\c<(a.length:I) then
  ((Zak.g ((a.getD (c).toNat zS).1)).bind λy1=>
  if(!y1.1)=Z then
  (if(O (0<c)) then
  (if 0<=(S.wrap (c-1))/\(S.wrap (c-1))<(i.length:I) then
  (if((Op.bytesLess ((a.getD (c).toNat zS).1) ((i.getD ((S.wrap (c-(1:I)))).toNat zS).1))||(O ((a.getD (c).toNat zS).1=(i.getD ((S.wrap (c-(1:I)))).toNat zS).1))) then(W (Z,d,e,i,()))
  else(Zbi.j6 n (Zbi.l2 n m) a b c d e i)) else Y)
  else(Zbi.j6 n (Zbi.l2 n m) a b c d e i))
  else(W (Z,d,e,i,()))) else Y)
  else(W (N,d,e,i,()))
def f(n:F)(a:J I)(b:J I)(c:J Sy):U (G×(J I)×(J I)×(J Sy)×X):=
  Zbi.l2 n n c (c.length:I) 0 a b c
def g(a:J I)(b:J I)(c:J Sy):=f (1000+a.length+b.length+c.length) a b c
end Zbi
namespace Zew
def f(n:F)(a:Str)(b:I)(c:I):U (G×I×X):=
  if(O (b<0))=Z then
  (if(O (c<b))=Z then(W ((O ((Int.tmod b 4)≠0)),c,()))
  else(W (N,c,())))
  else(W (N,c,()))
def g(a:Str)(b:I)(c:I):=f (1000+a.length+b.toNat+c.toNat) a b c
end Zew
namespace Zcr
def l2(n:F):F->(J Sy)->I->I->I->U (I×I×X)
 |0,_,_,_,_=>Y
 |m+1,a,b,c,d=>
  if(O (c<b)) then
  (if 0<=c/\c<(a.length:I) then
  ((Zew.g ((a.getD (c).toNat zS).1) (((a.getD (c).toNat zS).2).1) d).bind λy1=>
  if y1.1 then(W (c,y1.2.1,()))
  else
  ((Zcr.l2 n m) a b (S.wrap (c+1)) y1.2.1)) else Y)
  else(W ((-1),d,()))
def f(n:F)(a:J Sy)(b:I):U (I×I×X):=
  Zcr.l2 n n a (a.length:I) 0 b
def g(a:J Sy)(b:I):=f (1000+a.length+b.toNat) a b
end Zcr
namespace Zdy
def f(n:F)(a:J Sy)(b:I):U (G×I×X):=
  (Zcr.g a b).bind λy1=>
  W ((O (0<=y1.1)),y1.2.1,())
def g(a:J Sy)(b:I):=f (1000+a.length+b.toNat) a b
end Zdy
namespace Zbt
def f(n:F)(a:J I)(b:J I)(c:J Sy):U (I×X):=
  if(O ((1024:I)<(a.length:I)))=Z then
  (if(O ((64:I)<(c.length:I))) then(W (2,()))
  else
  ((Zba.g a b).bind λy1=>
  if(O (y1.2.2.1=7)) then(W (y1.2.2.1,()))
  else
  ((Zdx.g b a b c (S.wrap ((4:I)*(a.length:I)))).bind λy2=>
  if y2.1 then(W (8,()))
  else
  ((Zbi.g y2.2.1 y2.2.2.1 y2.2.2.2.1).bind λy3=>
  if(!y3.1) then(W (9,()))
  else
  ((Zdy.g y3.2.2.2.1 y2.2.2.2.2.1).bind λy4=>
  if y4.1 then(W (8,()))
  else(W (0,())))))))
  else(W (2,()))
def g(a:J I)(b:J I)(c:J Sy):=f (1000+a.length+b.length+c.length) a b c
end Zbt
namespace Zcs
def l2(n:F):F->(J I)->I->I->I->U (I×X)
 |0,_,_,_,_=>Y
 |m+1,a,b,c,d=>
  if(O (d<c)) then
  (if 0<=d/\d<(a.length:I) then
  (if(O (b=(a.getD (d).toNat 0))) then(W (d,()))
  else
  ((Zcs.l2 n m) a b c (S.wrap (d+1)))) else Y)
  else(W ((-1),()))
def f(n:F)(a:J I)(b:I):U (I×X):=
  Zcs.l2 n n a b (a.length:I) 0
def g(a:J I)(b:I):=f (1000+a.length+b.toNat) a b
end Zcs
namespace Zcz
def f(n:F)(a:J I)(b:I):U (G×X):=
  (Zcs.g a b).bind λy1=>
  W ((O (0<=y1.1)),())
def g(a:J I)(b:I):=f (1000+a.length+b.toNat) a b
end Zcz
namespace Zdz
def f(n:F)(a:I):U (G×X):=
  W ((O (a≠a)),())
def g(a:I):=f (1000+a.toNat) a
end Zdz
namespace Zea
def f(n:F)(a:I)(b:I):U (G×X):=
  (Zdz.g a).bind λy1=>
  if y1.1 then
  ((Zdz.g b).bind λy2=>
  if(!y2.1)=Z then(W ((O (a<b)),()))
  else(W (N,())))
  else(W ((O (a<b)),()))
def g(a:I)(b:I):=f (1000+a.toNat+b.toNat) a b
end Zea
namespace Zeb
def f(n:F)(a:I):U (G×X):=
  W ((O (a≠a)),())
def g(a:I):=f (1000+a.toNat) a
end Zeb
namespace Zbo
def l3(n:F):F->(J I)->I->I->I->I->U (I×G×X)
 |0,_,_,_,_,_=>Y
 |m+1,a,b,c,d,e=>
  if(O (d<e)) then
  (if 0<=(S.wrap (((H.wrap (S.wrap (d+e)))).fdiv (2 ^ (min (1:I).toNat H.bits))))/\(S.wrap (((H.wrap (S.wrap (d+e)))).fdiv (2 ^ (min (1:I).toNat H.bits))))<(a.length:I) then
  ((Zea.g (a.getD ((S.wrap (((H.wrap (S.wrap (d+e)))).fdiv (2 ^ (min (1:I).toNat H.bits))))).toNat 0) b).bind λy1=>
  if y1.1 then
  ((Zbo.l3 n m) a b c (S.wrap ((S.wrap (((H.wrap (S.wrap (d+e)))).fdiv (2 ^ (min (1:I).toNat H.bits))))+1)) e)
  else
  ((Zbo.l3 n m) a b c d (S.wrap (((H.wrap (S.wrap (d+e)))).fdiv (2 ^ (min (1:I).toNat H.bits)))))) else Y)
  else
  (if(O (d<c)) then
  (if 0<=d/\d<(a.length:I) then
  (if(O ((a.getD (d).toNat 0)=b))=Z then
  (if 0<=d/\d<(a.length:I) then
  ((Zeb.g (a.getD (d).toNat (0:I))).bind λy2=>
  if y2.1 then
  ((Zeb.g b).bind λy3=>
  W (d,y3.1,()))
  else(W (d,Z,()))) else Y)
  else(W (d,N,()))) else Y)
  else(W (d,Z,())))
def f(n:F)(a:J I)(b:I):U (I×G×X):=
  Zbo.l3 n n a b (a.length:I) 0 (a.length:I)
def g(a:J I)(b:I):=f (1000+a.length+b.toNat) a b
end Zbo
namespace Zac
def j9(n:F)(rl4:Str->I->I->U (G×X))(a:Str)(b:I)(c:I):U (G×X):=
  rl4 a b (S.wrap (c+1))
def l4(n:F):F->Str->I->I->U (G×X)
 |0,_,_,_=>Y
 |m+1,a,b,c=>
  if(O (c<b)) then
  (if 0<=c/\c<(a.length:I) then
  (if(O ((bn .or .u8 (bt a c) 32)<97))=Z then
  (if(O (122<(bn .or .u8 (bt a c) 32)))=Z then
  (if 0<=c/\c<(a.length:I) then
  (if(O ((bt a c)<65)) then
  (if 0<=c/\c<(a.length:I) then
  (if(O ((bt a c)≠95)) then
  (if 0<=c/\c<(a.length:I) then
  (if(O ((bt a c)<48))=Z then
  (if 0<=c/\c<(a.length:I) then
  (if(O (57<(bt a c))) then(W (Z,()))
  else(Zac.j9 n (Zac.l4 n m) a b c)) else Y)
  else(W (Z,()))) else Y)
  else(Zac.j9 n (Zac.l4 n m) a b c)) else Y)
  else(Zac.j9 n (Zac.l4 n m) a b c)) else Y)
  else
  (if 0<=c/\c<(a.length:I) then
  (if(O ((bt a c)≠95)) then
  (if 0<=c/\c<(a.length:I) then
  (if(O ((bt a c)<48))=Z then
  (if 0<=c/\c<(a.length:I) then
  (if(O (57<(bt a c))) then(W (Z,()))
  else(Zac.j9 n (Zac.l4 n m) a b c)) else Y)
  else(W (Z,()))) else Y)
  else(Zac.j9 n (Zac.l4 n m) a b c)) else Y))
  else
  (if 0<=c/\c<(a.length:I) then
  (if(O ((bt a c)≠95)) then
  (if 0<=c/\c<(a.length:I) then
  (if(O ((bt a c)<48))=Z then
  (if 0<=c/\c<(a.length:I) then
  (if(O (57<(bt a c))) then(W (Z,()))
  else(Zac.j9 n (Zac.l4 n m) a b c)) else Y)
  else(W (Z,()))) else Y)
  else(Zac.j9 n (Zac.l4 n m) a b c)) else Y)) else Y)
  else
  (if 0<=(0:I)/\(0:I)<(a.length:I) then
  (if(O ((bt a 0)=82)) then
  (if(O ((a.length:I)=(2:I)))=Z then
  (if(O ((a.length:I)=(3:I))) then
  (if 0<=(1:I)/\(1:I)<=(a.length:I) then
  ((L.trimO ((a.take (((a.length:I)).toNat)).drop (((1:I)).toNat)) ([48,49,50,51,52,53,54,55,56,57]:Str)).bind λy1=>
  W ((!(O (y1.1=([]:Str)))),())) else Y)
  else(W (N,())))
  else
  (if 0<=(1:I)/\(1:I)<=(a.length:I) then
  ((L.trimO ((a.take (((a.length:I)).toNat)).drop (((1:I)).toNat)) ([48,49,50,51,52,53,54,55,56,57]:Str)).bind λy2=>
  W ((!(O (y2.1=([]:Str)))),())) else Y))
  else(W (N,()))) else Y)
def j3(n:F)(a:Str):U (G×X):=
  Zac.l4 n n a (a.length:I) 0
def f(n:F)(a:Str):U (G×X):=
  if(O (a=([]:Str)))=Z then
  (if(O ((12:I)<(a.length:I)))=Z then
  (if 0<=(0:I)/\(0:I)<(a.length:I) then
  (if(O (48<=(bt a 0))) then
  (if 0<=(0:I)/\(0:I)<(a.length:I) then
  (if(O ((bt a 0)<=57)) then(W (Z,()))
  else(Zac.j3 n a)) else Y)
  else(Zac.j3 n a)) else Y)
  else(W (Z,())))
  else(W (Z,()))
def g(a:Str):=f (1000+a.length) a
end Zac
namespace Zbz
def j2(n:F)(a:G)(b:I)(c:I)(d:Str):U (I×G×X):=
  if(O (b=1)) then(W (0,(O (d=([]:Str))),()))
  else
  (if(O (b=2)) then
  (if(O (c=0)) then
  ((Zac.g d).bind λy1=>
  W (0,y1.1,()))
  else(W (0,Z,())))
  else
  (if(O (b=3)) then(W (1,a,()))
  else
  (if(O (b=4)) then
  (if(O (b=4)) then(W (2,a,()))
  else(W (0,Z,())))
  else
  (if(O (b=5)) then
  (if(O (b=5)) then(W (2,a,()))
  else(W (0,Z,())))
  else
  (if(O (b=6)) then(W (2,a,()))
  else(W (0,Z,())))))))
def f(n:F)(a:I)(b:I)(c:Str):U (I×G×X):=
  if(O (b=0)) then(Zbz.j2 n (O (c=([]:Str))) a b c)
  else(Zbz.j2 n Z a b c)
def g(a:I)(b:I)(c:Str):=f (1000+a.toNat+b.toNat+c.length) a b c
end Zbz
namespace Zbb
def l3(n:F):F->(J It)->I->(J It)->I->I->U (G×X)
 |0,_,_,_,_,_=>Y
 |m+1,a,b,c,d,e=>
  if(O (e<d)) then
  (if 0<=e/\e<(c.length:I) then
  ((Zbz.g ((c.getD (e).toNat zI).1) (((c.getD (e).toNat zI).2).1) ((((c.getD (e).toNat zI).2).2).1)).bind λy1=>
  if(!y1.2.1)=Z then
  (if(O (b<y1.1)) then(W (Z,()))
  else
  ((Zbb.l3 n m) a (S.wrap (b+(S.wrap ((1:I)-y1.1)))) c d (S.wrap (e+1))))
  else(W (Z,()))) else Y)
  else
  (if(O (b=1)) then(W ((O ((a.length:I)<=(64:I))),()))
  else(W (Z,())))
def f(n:F)(a:J It):U (G×X):=
  Zbb.l3 n n a 0 a (a.length:I) 0
def g(a:J It):=f (1000+a.length) a
end Zbb
namespace Zay
def f(n:F)(a:I):U (Str×X):=
  if(O (a<0))=Z then
  (if(O (16<=a)) then(W (([]:Str),()))
  else
  ((L.itoaO a).bind λy1=>
  if([82]:Str).length+y1.1.length<=9223372036854775807 then(W ((([82]:Str)++y1.1),())) else Y))
  else(W (([]:Str),()))
def g(a:I):=f (1000+a.toNat) a
end Zay
namespace Zec
def f(n:F)(a:I)(b:I):U (Str×X):=
  (L.formatUintO a b).bind λy1=>
  W (y1.1,())
def g(a:I)(b:I):=f (1000+a.toNat+b.toNat) a b
end Zec
namespace Zbc
def f(n:F)(a:Str)(b:I)(c:I):U (Str×X):=
  if(O (b<c)) then
  (if([40]:Str).length+a.length<=9223372036854775807 then
  (if(([40]:Str)++a).length+([41]:Str).length<=9223372036854775807 then(W (((([40]:Str)++a)++([41]:Str)),())) else Y) else Y)
  else(W (a,()))
def g(a:Str)(b:I)(c:I):=f (1000+a.length+b.toNat+c.toNat) a b c
end Zbc
namespace Zaf
def j23(n:F)(rl5:(J Sy)->(J It)->I->I->U Sy)(a:J Sy)(b:I)(c:J It)(d:I)(e:I)(i:Str)(j:I):U Sy:=
  if 0<=(S.wrap ((a.length:I)-b))/\(S.wrap ((a.length:I)-b))<=(a.length:I) then
  (if((a.take ((S.wrap ((a.length:I)-b))).toNat).length+([(i,j,())]:J Sy).length)*24<=140737488355328/\0<24/\0<2 then
  (rl5 ((a.take ((S.wrap ((a.length:I)-b))).toNat)++([(i,j,())]:J Sy)) c d (S.wrap (e+1))) else Y) else Y
def l5(n:F):F->(J Sy)->(J It)->I->I->U Sy
 |0,_,_,_,_=>Y
 |m+1,a,b,c,d=>
  if(O (d<c)) then
  (if 0<=d/\d<(b.length:I) then
  ((Zbz.g ((b.getD (d).toNat zI).1) (((b.getD (d).toNat zI).2).1) ((((b.getD (d).toNat zI).2).2).1)).bind λy1=>
  if 0<=(S.wrap ((a.length:I)-y1.1))/\(S.wrap ((a.length:I)-y1.1))<=(a.length:I) then
  (if(O ((b.getD (d).toNat zI).1=1)) then
  ((Zec.g (H.wrap ((b.getD (d).toNat zI).2).1) (10:I)).bind λy2=>
  Zaf.j23 n (Zaf.l5 n m) a y1.1 b c d y2.1 2)
  else
  (if(O ((b.getD (d).toNat zI).1=2)) then
  (Zaf.j23 n (Zaf.l5 n m) a y1.1 b c d ((((b.getD (d).toNat zI).2).2).1) 2)
  else
  (if(O ((b.getD (d).toNat zI).1=3)) then
  (if 0<=(0:I)/\(0:I)<(((a.take (((a.length:I)).toNat)).drop (((S.wrap ((a.length:I)-y1.1))).toNat)).length:I) then
  ((Zbc.g ((((a.take (((a.length:I)).toNat)).drop (((S.wrap ((a.length:I)-y1.1))).toNat)).getD ((0:I)).toNat zS).1) (((((a.take (((a.length:I)).toNat)).drop (((S.wrap ((a.length:I)-y1.1))).toNat)).getD ((0:I)).toNat zS).2).1) (2:I)).bind λy3=>
  if([45]:Str).length+y3.1.length<=9223372036854775807 then
  (Zaf.j23 n (Zaf.l5 n m) a y1.1 b c d (([45]:Str)++y3.1) 2) else Y) else Y)
  else
  (if(O ((b.getD (d).toNat zI).1=4)) then
  (if 0<=(0:I)/\(0:I)<(((a.take (((a.length:I)).toNat)).drop (((S.wrap ((a.length:I)-y1.1))).toNat)).length:I) then
  ((Zbc.g ((((a.take (((a.length:I)).toNat)).drop (((S.wrap ((a.length:I)-y1.1))).toNat)).getD ((0:I)).toNat zS).1) (((((a.take (((a.length:I)).toNat)).drop (((S.wrap ((a.length:I)-y1.1))).toNat)).getD ((0:I)).toNat zS).2).1) (0:I)).bind λy4=>
  if y4.1.length+([32,43,32]:Str).length<=9223372036854775807 then
  (if 0<=(1:I)/\(1:I)<(((a.take (((a.length:I)).toNat)).drop (((S.wrap ((a.length:I)-y1.1))).toNat)).length:I) then
  ((Zbc.g ((((a.take (((a.length:I)).toNat)).drop (((S.wrap ((a.length:I)-y1.1))).toNat)).getD ((1:I)).toNat zS).1) (((((a.take (((a.length:I)).toNat)).drop (((S.wrap ((a.length:I)-y1.1))).toNat)).getD ((1:I)).toNat zS).2).1) (1:I)).bind λy5=>
  if(y4.1++([32,43,32]:Str)).length+y5.1.length<=9223372036854775807 then
  (Zaf.j23 n (Zaf.l5 n m) a y1.1 b c d ((y4.1++([32,43,32]:Str))++y5.1) 0) else Y) else Y) else Y) else Y)
  else
  (if(O ((b.getD (d).toNat zI).1=5)) then
  (if 0<=(0:I)/\(0:I)<(((a.take (((a.length:I)).toNat)).drop (((S.wrap ((a.length:I)-y1.1))).toNat)).length:I) then
  ((Zbc.g ((((a.take (((a.length:I)).toNat)).drop (((S.wrap ((a.length:I)-y1.1))).toNat)).getD ((0:I)).toNat zS).1) (((((a.take (((a.length:I)).toNat)).drop (((S.wrap ((a.length:I)-y1.1))).toNat)).getD ((0:I)).toNat zS).2).1) (0:I)).bind λy6=>
  if y6.1.length+([32,45,32]:Str).length<=9223372036854775807 then
  (if 0<=(1:I)/\(1:I)<(((a.take (((a.length:I)).toNat)).drop (((S.wrap ((a.length:I)-y1.1))).toNat)).length:I) then
  ((Zbc.g ((((a.take (((a.length:I)).toNat)).drop (((S.wrap ((a.length:I)-y1.1))).toNat)).getD ((1:I)).toNat zS).1) (((((a.take (((a.length:I)).toNat)).drop (((S.wrap ((a.length:I)-y1.1))).toNat)).getD ((1:I)).toNat zS).2).1) (1:I)).bind λy7=>
  if(y6.1++([32,45,32]:Str)).length+y7.1.length<=9223372036854775807 then
  (Zaf.j23 n (Zaf.l5 n m) a y1.1 b c d ((y6.1++([32,45,32]:Str))++y7.1) 0) else Y) else Y) else Y) else Y)
  else
  (if(O ((b.getD (d).toNat zI).1=6)) then
  (if 0<=(0:I)/\(0:I)<(((a.take (((a.length:I)).toNat)).drop (((S.wrap ((a.length:I)-y1.1))).toNat)).length:I) then
  ((Zbc.g ((((a.take (((a.length:I)).toNat)).drop (((S.wrap ((a.length:I)-y1.1))).toNat)).getD ((0:I)).toNat zS).1) (((((a.take (((a.length:I)).toNat)).drop (((S.wrap ((a.length:I)-y1.1))).toNat)).getD ((0:I)).toNat zS).2).1) (1:I)).bind λy8=>
  if y8.1.length+([32,42,32]:Str).length<=9223372036854775807 then
  (if 0<=(1:I)/\(1:I)<(((a.take (((a.length:I)).toNat)).drop (((S.wrap ((a.length:I)-y1.1))).toNat)).length:I) then
  ((Zbc.g ((((a.take (((a.length:I)).toNat)).drop (((S.wrap ((a.length:I)-y1.1))).toNat)).getD ((1:I)).toNat zS).1) (((((a.take (((a.length:I)).toNat)).drop (((S.wrap ((a.length:I)-y1.1))).toNat)).getD ((1:I)).toNat zS).2).1) (2:I)).bind λy9=>
  if(y8.1++([32,42,32]:Str)).length+y9.1.length<=9223372036854775807 then
  (Zaf.j23 n (Zaf.l5 n m) a y1.1 b c d ((y8.1++([32,42,32]:Str))++y9.1) 1) else Y) else Y) else Y) else Y)
  else
  (Zaf.j23 n (Zaf.l5 n m) a y1.1 b c d ([]:Str) 0))))))) else Y) else Y)
  else
  (if 0<=(0:I)/\(0:I)<(a.length:I) then
  (W ((a.getD ((0:I)).toNat zS).1,0,())) else Y)
def f(n:F)(a:J It):U Sy:=
  (Zbb.g a).bind λy1=>
  if(!y1.1) then(W (([]:Str),23,()))
  else(Zaf.l5 n n ([]) a (a.length:I) 0)
def g(a:J It):=f (1000+a.length) a
end Zaf
namespace Zca
def l4(n:F):F->Str->Str->Str->I->U (Str×X)
 |0,_,_,_,_=>Y
 |m+1,a,b,c,d=>
  if(O (d<(a.length:I))) then
  (if(O (d<6)) then
  (if 0<=d/\d<(a.length:I) then
  (if 0<=d/\d<(a.length:I) then
  (if 0<=(S.wrap ((Int.tmod (S.wrap (bt a d)) 12)+1))/\(S.wrap ((Int.tmod (S.wrap (bt a d)) 12)+1))<=(b.length:I) then
  (if 0<=(Int.tmod (S.wrap (bt a d)) 12)/\(Int.tmod (S.wrap (bt a d)) 12)<=(S.wrap ((Int.tmod (S.wrap (bt a d)) 12)+1)) then
  (if c.length+((b.take (((S.wrap ((Int.tmod (S.wrap (bt a d)) 12)+(1:I)))).toNat)).drop (((Int.tmod (S.wrap (bt a d)) (12:I))).toNat)).length<=9223372036854775807 then
  ((Zca.l4 n m) a b (c++((b.take (((S.wrap ((Int.tmod (S.wrap (bt a d)) 12)+(1:I)))).toNat)).drop (((Int.tmod (S.wrap (bt a d)) (12:I))).toNat))) (S.wrap (d+1))) else Y) else Y) else Y) else Y) else Y)
  else(W (c,())))
  else(W (c,()))
def f(n:F)(a:Str):U (Str×X):=
  Zca.l4 n n a ([97,98,99,88,89,90,95,48,49,57,82,109]:Str) (bytesOf ([(IntKind.u8.wrap ((97:I)+(IntKind.u8.wrap (Int.tmod (a.length:I) 26))))]:J I)) 0
def g(a:Str):=f (1000+a.length) a
end Zca
namespace Zct
def f(n:F)(a:I):U (G×X):=
  if(O (65<=a)) then
  (if(O (a<=90))=Z then
  (if(O (97<=a)) then
  (if(O (a<=122))=Z then(W ((O (a=95)),()))
  else(W (N,())))
  else(W ((O (a=95)),())))
  else(W (N,())))
  else
  (if(O (97<=a)) then
  (if(O (a<=122))=Z then(W ((O (a=95)),()))
  else(W (N,())))
  else(W ((O (a=95)),())))
def g(a:I):=f (1000+a.toNat) a
end Zct
namespace Zda
def f(n:F)(a:I):U (G×X):=
  if(O (48<=a)) then(W ((O (a<=57)),()))
  else(W (Z,()))
def g(a:I):=f (1000+a.toNat) a
end Zda
namespace Zap
def j3(n:F)(rl2:Str->I->U (Str×X))(a:Str)(b:I):U (Str×X):=
  rl2 a (S.wrap (b+1))
def j4(n:F)(a:Str)(b:I):U (Str×X):=
  if 0<=b/\b<=(a.length:I) then(W (((a.take ((b).toNat)).drop 0),())) else Y
def l2(n:F):F->Str->I->U (Str×X)
 |0,_,_=>Y
 |m+1,a,b=>
  if(O (b<(a.length:I))) then
  (if 0<=b/\b<(a.length:I) then
  ((Zct.g (bt a b)).bind λy1=>
  if y1.1=Z then
  (if 0<=b/\b<(a.length:I) then
  ((Zda.g (bt a b)).bind λy2=>
  if y2.1 then(Zap.j3 n (Zap.l2 n m) a b)
  else(Zap.j4 n a b)) else Y)
  else(Zap.j3 n (Zap.l2 n m) a b)) else Y)
  else(Zap.j4 n a b)
def f(n:F)(a:Str):U (Str×X):=
  Zap.l2 n n a 0
def g(a:Str):=f (1000+a.length) a
end Zap
namespace Zam
def f(n:F)(a:I):U (I×X):=
  W ((bn .or .u8 a 32),())
def g(a:I):=f (1000+a.toNat) a
end Zam
namespace Zaa
def j55(n:F)(rl36:I->G->Str->I->I->G->I->(J I)->I->I->U (I×(U I)×X))(a:I)(b:G)(c:Str)(d:I)(e:I)(i:G)(j:I)(k:J I)(l:I)(o:I):U (I×(U I)×X):=
  rl36 a b c d e i j k l (S.wrap (o+1))
def j46(n:F)(rl36:I->G->Str->I->I->G->I->(J I)->I->I->U (I×(U I)×X))(a:I)(b:G)(c:Str)(d:I)(e:I)(i:G)(j:I)(k:I)(l:J I)(o:I)(p:I):U (I×(U I)×X):=
  if(O ((IntKind.u8.wrap a)<=k)) then(W (0,(W 2),()))
  else
  (if(O (d<=j)) then(W (e,(W 1),()))
  else
  (if(O ((H.wrap ((H.wrap (j*(H.wrap a)))+(H.wrap k)))<(H.wrap (j*(H.wrap a)))))=Z then
  (if(O (e<(H.wrap ((H.wrap (j*(H.wrap a)))+(H.wrap k))))) then(W (e,(W 1),()))
  else
  (Zaa.j55 n rl36 a b c d e i (H.wrap ((H.wrap (j*(H.wrap a)))+(H.wrap k))) l o p))
  else(W (e,(W 1),()))))
def l36(n:F):F->I->G->Str->I->I->G->I->(J I)->I->I->U (I×(U I)×X)
 |0,_,_,_,_,_,_,_,_,_,_=>Y
 |m+1,a,b,c,d,e,i,j,k,l,o=>
  if(O (o<l)) then
  (if 0<=o/\o<(k.length:I) then
  (if(O ((k.getD (o).toNat 0)=95)) then
  (if b then
  (Zaa.j55 n (Zaa.l36 n m) a b c d e N j k l o)
  else
  (if(O (48<=(k.getD (o).toNat 0))) then
  (if(O ((k.getD (o).toNat 0)<=57)) then
  (Zaa.j46 n (Zaa.l36 n m) a b c d e i j (IntKind.u8.wrap ((k.getD (o).toNat 0)-48)) k l o)
  else
  ((Zam.g (k.getD (o).toNat (0:I))).bind λy1=>
  if(O (97<=y1.1)) then
  ((Zam.g (k.getD (o).toNat (0:I))).bind λy2=>
  if(O (y2.1<=122)) then
  ((Zam.g (k.getD (o).toNat (0:I))).bind λy3=>
  Zaa.j46 n (Zaa.l36 n m) a b c d e i j (IntKind.u8.wrap ((IntKind.u8.wrap (y3.1-97))+10)) k l o)
  else(W (0,(W 2),())))
  else(W (0,(W 2),()))))
  else
  ((Zam.g (k.getD (o).toNat (0:I))).bind λy4=>
  if(O (97<=y4.1)) then
  ((Zam.g (k.getD (o).toNat (0:I))).bind λy5=>
  if(O (y5.1<=122)) then
  ((Zam.g (k.getD (o).toNat (0:I))).bind λy6=>
  Zaa.j46 n (Zaa.l36 n m) a b c d e i j (IntKind.u8.wrap ((IntKind.u8.wrap (y6.1-97))+10)) k l o)
  else(W (0,(W 2),())))
  else(W (0,(W 2),())))))
  else
  (if(O (48<=(k.getD (o).toNat 0))) then
  (if(O ((k.getD (o).toNat 0)<=57)) then
  (Zaa.j46 n (Zaa.l36 n m) a b c d e i j (IntKind.u8.wrap ((k.getD (o).toNat 0)-48)) k l o)
  else
  ((Zam.g (k.getD (o).toNat (0:I))).bind λy7=>
  if(O (97<=y7.1)) then
  ((Zam.g (k.getD (o).toNat (0:I))).bind λy8=>
  if(O (y8.1<=122)) then
  ((Zam.g (k.getD (o).toNat (0:I))).bind λy9=>
  Zaa.j46 n (Zaa.l36 n m) a b c d e i j (IntKind.u8.wrap ((IntKind.u8.wrap (y9.1-97))+10)) k l o)
  else(W (0,(W 2),())))
  else(W (0,(W 2),()))))
  else
  ((Zam.g (k.getD (o).toNat (0:I))).bind λy10=>
  if(O (97<=y10.1)) then
  ((Zam.g (k.getD (o).toNat (0:I))).bind λy11=>
  if(O (y11.1<=122)) then
  ((Zam.g (k.getD (o).toNat (0:I))).bind λy12=>
  Zaa.j46 n (Zaa.l36 n m) a b c d e i j (IntKind.u8.wrap ((IntKind.u8.wrap (y12.1-97))+10)) k l o)
  else(W (0,(W 2),())))
  else(W (0,(W 2),()))))) else Y)
  else
  (if i then
  ((L.underscoreO c).bind λy13=>
  if(!y13.1) then(W (0,(W 2),()))
  else(W (j,Y,())))
  else(W (j,Y,())))
def j32(n:F)(a:Str)(b:I)(c:I)(d:G)(e:Str)(i:I):U (I×(U I)×X):=
  if(H.wrap c)<0 then Y else
  (Zaa.l36 n n b d e i (H.wrap ((H.wrap ((1:I)*2 ^ (min (H.wrap c).toNat H.bits)))-1)) Z 0 (a.map λb=>(b.toNat:I)) ((a.map λb=>(b.toNat:I)).length:I) 0)
def j25(n:F)(a:Str)(b:I)(c:I)(d:G)(e:Str):U (I×(U I)×X):=
  if(O (b=10)) then
  (Zaa.j32 n a b c d e 1844674407370955162)
  else
  (if(O (b=16)) then
  (Zaa.j32 n a b c d e 1152921504606846976)
  else
  (if(H.wrap b)=0 then Y else
  (Zaa.j32 n a b c d e (H.wrap ((H.wrap (Int.tdiv 18446744073709551615 (H.wrap b)))+1)))))
def j21(n:F)(a:Str)(b:I)(c:I)(d:G)(e:Str):U (I×(U I)×X):=
  if(O (c=0)) then(Zaa.j25 n a b 64 d e)
  else
  (if(O (c<0))=Z then
  (if(O (64<c)) then(W (0,(W 4),()))
  else(Zaa.j25 n a b c d e))
  else(W (0,(W 4),())))
def j17(n:F)(a:Str)(b:I)(c:I)(d:G)(e:Str):U (I×(U I)×X):=
  if 0<=(2:I)/\(2:I)<=(a.length:I) then
  (Zaa.j21 n ((a.take (((a.length:I)).toNat)).drop (((2:I)).toNat)) b c d e) else Y
def j20(n:F)(a:Str)(b:I)(c:I)(d:G)(e:Str):U (I×(U I)×X):=
  if 0<=(2:I)/\(2:I)<=(a.length:I) then
  (Zaa.j21 n ((a.take (((a.length:I)).toNat)).drop (((2:I)).toNat)) b c d e) else Y
def j11(n:F)(a:Str)(b:I)(c:I)(d:G)(e:Str):U (I×(U I)×X):=
  if 0<=(1:I)/\(1:I)<=(a.length:I) then
  (Zaa.j21 n ((a.take (((a.length:I)).toNat)).drop (((1:I)).toNat)) b c d e) else Y
def j9(n:F)(a:Str)(b:I)(c:I)(d:G)(e:Str):U (I×(U I)×X):=
  if 0<=(0:I)/\(0:I)<(a.length:I) then
  (if(O ((bt a 0)=48)) then
  (if(O ((3:I)<=(a.length:I))) then
  (if 0<=(1:I)/\(1:I)<(a.length:I) then
  ((Zam.g (bt a (1:I))).bind λy1=>
  if(O (y1.1=98)) then
  (if 0<=(2:I)/\(2:I)<=(a.length:I) then
  (Zaa.j21 n ((a.take (((a.length:I)).toNat)).drop (((2:I)).toNat)) 2 c d e) else Y)
  else
  (if(O ((3:I)<=(a.length:I))) then
  (if 0<=(1:I)/\(1:I)<(a.length:I) then
  ((Zam.g (bt a (1:I))).bind λy2=>
  if(O (y2.1=111)) then(Zaa.j17 n a 8 c d e)
  else
  (if(O ((3:I)<=(a.length:I))) then
  (if 0<=(1:I)/\(1:I)<(a.length:I) then
  ((Zam.g (bt a (1:I))).bind λy3=>
  if(O (y3.1=120)) then(Zaa.j20 n a 16 c d e)
  else(Zaa.j11 n a 8 c d e)) else Y)
  else(Zaa.j11 n a 8 c d e))) else Y)
  else
  (if(O ((3:I)<=(a.length:I))) then
  (if 0<=(1:I)/\(1:I)<(a.length:I) then
  ((Zam.g (bt a (1:I))).bind λy4=>
  if(O (y4.1=120)) then(Zaa.j20 n a 16 c d e)
  else(Zaa.j11 n a 8 c d e)) else Y)
  else(Zaa.j11 n a 8 c d e)))) else Y)
  else
  (if(O ((3:I)<=(a.length:I))) then
  (if 0<=(1:I)/\(1:I)<(a.length:I) then
  ((Zam.g (bt a (1:I))).bind λy5=>
  if(O (y5.1=111)) then(Zaa.j17 n a 8 c d e)
  else
  (if(O ((3:I)<=(a.length:I))) then
  (if 0<=(1:I)/\(1:I)<(a.length:I) then
  ((Zam.g (bt a (1:I))).bind λy6=>
  if(O (y6.1=120)) then(Zaa.j20 n a 16 c d e)
  else(Zaa.j11 n a 8 c d e)) else Y)
  else(Zaa.j11 n a 8 c d e))) else Y)
  else
  (if(O ((3:I)<=(a.length:I))) then
  (if 0<=(1:I)/\(1:I)<(a.length:I) then
  ((Zam.g (bt a (1:I))).bind λy7=>
  if(O (y7.1=120)) then(Zaa.j20 n a 16 c d e)
  else(Zaa.j11 n a 8 c d e)) else Y)
  else(Zaa.j11 n a 8 c d e))))
  else(Zaa.j21 n a b c d e)) else Y
def f(n:F)(a:Str)(b:I)(c:I):U (I×(U I)×X):=
  if(O (a=([]:Str))) then(W (0,(W 2),()))
  else
  (if(O (2<=b)) then
  (if(O (b<=36)) then
  (Zaa.j21 n a b c (O (b=0)) a)
  else
  (if(O (b=0)) then
  (Zaa.j9 n a 10 c (O (b=0)) a)
  else(W (0,(W 3),()))))
  else
  (if(O (b=0)) then
  (Zaa.j9 n a 10 c (O (b=0)) a)
  else(W (0,(W 3),()))))
def g(a:Str)(b:I)(c:I):=f (1000+a.length+b.toNat+c.toNat) a b c
end Zaa
namespace Zcu
def f(n:F)(a:Str)(b:I)(c:I):U (I×G×X):=
  (Zaa.g a b c).bind λy1=>
  if(!y1.2.1.isNone) then
  ((L.toErrorO ([80,97,114,115,101,85,105,110,116]:Str) a b c y1.2.1).bind λy2=>
  W (y1.1,y2.1,()))
  else(W (y1.1,N,()))
def g(a:Str)(b:I)(c:I):=f (1000+a.length+b.toNat+c.toNat) a b c
end Zcu
namespace Zbu
def j5(n:F)(a:Str)(b:I):U (I×G×X):=
  (L.containsO a ([95]:Str)).bind λy1=>
  if y1.1 then(W (0,Z,()))
  else
  ((Zcu.g a b (32:I)).bind λy2=>
  W ((M.wrap y2.1),y2.2.1,()))
def f(n:F)(a:Str):U (I×G×X):=
  if(L.cutIs a ([48,120]:Str)) then
  (Zbu.j5 n (L.cutRest a ([48,120]:Str)) 16)
  else(Zbu.j5 n a 10)
def g(a:Str):=f (1000+a.length) a
end Zbu
namespace Zah
def j23(n:F)(rg0:Str->(J Tk)->I->U ((J Tk)×I×X))(a:Str)(b:J Tk)(c:I)(d:I)(e:I)(i:Str)(j:I):U ((J Tk)×I×X):=
  if(b.length+([(d,e,i,j,())]:J Tk).length)*40<=140737488355328/\0<40/\0<4 then
  (rg0 a (b++([(d,e,i,j,())]:J Tk)) (S.wrap (c+(i.length:I)))) else Y
def g0(n:F):F->Str->(J Tk)->I->U ((J Tk)×I×X)
 |0,_,_,_=>Y
 |m+1,a,b,c=>
  if(O ((a.length:I)<=c))=Z then
  (if 0<=c/\c<(a.length:I) then
  (if(O ((bt a c)=59)) then(W (b,0,()))
  else
  (if 0<=c/\c<(a.length:I) then
  (if(O ((bt a c)=32))=Z then
  (if(O ((bt a c)=9)) then((Zah.g0 n m) a b (S.wrap (c+1)))
  else
  ((Zct.g (bt a c)).bind λy1=>
  if y1.1 then
  (if 0<=c/\c<=(a.length:I) then
  ((Zap.g ((a.take (((a.length:I)).toNat)).drop ((c).toNat))).bind λy2=>
  Zah.j23 n (Zah.g0 n m) a b c 1 c y2.1 0) else Y)
  else
  ((Zda.g (bt a c)).bind λy3=>
  if y3.1 then
  (if 0<=c/\c<=(a.length:I) then
  ((Zap.g ((a.take (((a.length:I)).toNat)).drop ((c).toNat))).bind λy4=>
  (Zbu.g y4.1).bind λy5=>
  if(!y5.2.1) then(W ([],21,()))
  else
  (Zah.j23 n (Zah.g0 n m) a b c 2 c y4.1 y5.1)) else Y)
  else
  (if(O ((bt a c)=46)) then
  (if(O ((S.wrap (c+1))<(a.length:I))) then
  (if 0<=(S.wrap (c+1))/\(S.wrap (c+1))<(a.length:I) then
  ((Zct.g (bt a (S.wrap (c+(1:I))))).bind λy6=>
  if y6.1 then
  (if 0<=(S.wrap (c+1))/\(S.wrap (c+1))<=(a.length:I) then
  ((Zap.g ((a.take (((a.length:I)).toNat)).drop (((S.wrap (c+(1:I)))).toNat))).bind λy7=>
  Zah.j23 n (Zah.g0 n m) a b (S.wrap (c+1)) 4 c y7.1 0) else Y)
  else
  (if(O (0<=(L.indexByte ([44,58,43,45,42,40,41,61]:Str) (bt a c)))) then
  (if 0<=(S.wrap (c+1))/\(S.wrap (c+1))<=(a.length:I) then
  (if 0<=c/\c<=(S.wrap (c+1)) then
  (Zah.j23 n (Zah.g0 n m) a b c 3 c ((a.take (((S.wrap (c+(1:I)))).toNat)).drop ((c).toNat)) 0) else Y) else Y)
  else(W ([],20,())))) else Y)
  else
  (if(O (0<=(L.indexByte ([44,58,43,45,42,40,41,61]:Str) (bt a c)))) then
  (if 0<=(S.wrap (c+1))/\(S.wrap (c+1))<=(a.length:I) then
  (if 0<=c/\c<=(S.wrap (c+1)) then
  (Zah.j23 n (Zah.g0 n m) a b c 3 c ((a.take (((S.wrap (c+(1:I)))).toNat)).drop ((c).toNat)) 0) else Y) else Y)
  else(W ([],20,()))))
  else
  (if(O (0<=(L.indexByte ([44,58,43,45,42,40,41,61]:Str) (bt a c)))) then
  (if 0<=(S.wrap (c+1))/\(S.wrap (c+1))<=(a.length:I) then
  (if 0<=c/\c<=(S.wrap (c+1)) then
  (Zah.j23 n (Zah.g0 n m) a b c 3 c ((a.take (((S.wrap (c+(1:I)))).toNat)).drop ((c).toNat)) 0) else Y) else Y)
  else(W ([],20,())))))))
  else((Zah.g0 n m) a b (S.wrap (c+1)))) else Y)) else Y)
  else(W (b,0,()))
def f(n:F)(a:Str):U ((J Tk)×I×X):=
  Zah.g0 n n a ([]) 0
def g(a:Str):=f (1000+a.length) a
end Zah
namespace Zaj
def j21(n:F)(a:G)(b:I):U (I×(U I)×X):=
  if a then
  (W ((S.wrap (0-(S.wrap b))),Y,()))
  else(W ((S.wrap b),Y,()))
def j19(n:F)(a:G)(b:I)(c:I):U (I×(U I)×X):=
  if a then
  (if(O (c<b)) then
  (W ((S.wrap (0-(S.wrap c))),(W 1),()))
  else(Zaj.j21 n a b))
  else(Zaj.j21 n a b)
def j16(n:F)(a:I)(b:G)(c:I):U (I×(U I)×X):=
  if(H.wrap (S.wrap (a-1)))<0 then Y else
  (if(!b) then
  (if(O ((H.wrap ((1:I)*2 ^ (min (H.wrap (S.wrap (a-(1:I)))).toNat H.bits)))<=c)) then
  (W ((S.wrap (H.wrap ((H.wrap ((1:I)*2 ^ (min (H.wrap (S.wrap (a-(1:I)))).toNat H.bits)))-1))),(W 1),()))
  else
  (Zaj.j19 n b c (H.wrap ((1:I)*2 ^ (min (H.wrap (S.wrap (a-(1:I)))).toNat H.bits)))))
  else
  (Zaj.j19 n b c (H.wrap ((1:I)*2 ^ (min (H.wrap (S.wrap (a-(1:I)))).toNat H.bits)))))
def j14(n:F)(a:I)(b:G)(c:I):U (I×(U I)×X):=
  if(O (a=0)) then(Zaj.j16 n 64 b c)
  else(Zaj.j16 n a b c)
def j10(n:F)(a:Str)(b:I)(c:I)(d:G):U (I×(U I)×X):=
  (Zaa.g a b c).bind λy1=>
  if(!y1.2.1.isNone) then
  (if(!(O (y1.2.1=(W 1)))) then(W (0,y1.2.1,()))
  else(Zaj.j14 n c d y1.1))
  else(Zaj.j14 n c d y1.1)
def f(n:F)(a:Str)(b:I)(c:I):U (I×(U I)×X):=
  if(O (a=([]:Str))) then(W (0,(W 2),()))
  else
  (if 0<=(0:I)/\(0:I)<(a.length:I) then
  (if(O ((bt a 0)=43)) then
  (if 0<=(1:I)/\(1:I)<=(a.length:I) then
  (Zaj.j10 n ((a.take (((a.length:I)).toNat)).drop (((1:I)).toNat)) b c Z) else Y)
  else
  (if(O ((bt a 0)=45)) then
  (if 0<=(1:I)/\(1:I)<=(a.length:I) then
  (Zaj.j10 n ((a.take (((a.length:I)).toNat)).drop (((1:I)).toNat)) b c N) else Y)
  else(Zaj.j10 n a b c Z))) else Y)
def g(a:Str)(b:I)(c:I):=f (1000+a.length+b.toNat+c.toNat) a b c
end Zaj
namespace Zaq
def l10(n:F):F->Str->I->(J I)->I->I->U (I×(U I)×X)
 |0,_,_,_,_,_=>Y
 |m+1,a,b,c,d,e=>
  if(O (e<d)) then
  (if 0<=e/\e<(c.length:I) then
  (if(O (9<(IntKind.u8.wrap ((c.getD (e).toNat 0)-48)))) then(W (0,(W 2),()))
  else
  ((Zaq.l10 n m) a (S.wrap ((S.wrap (b*10))+(S.wrap (IntKind.u8.wrap ((c.getD (e).toNat 0)-48))))) c d (S.wrap (e+1)))) else Y)
  else
  (if 0<=(0:I)/\(0:I)<(a.length:I) then
  (if(O ((bt a 0)=45)) then(W ((S.wrap (0-b)),Y,()))
  else(W (b,Y,()))) else Y)
def j8(n:F)(a:Str)(b:Str):U (I×(U I)×X):=
  Zaq.l10 n n b 0 (a.map λb=>(b.toNat:I)) ((a.map λb=>(b.toNat:I)).length:I) 0
def j6(n:F)(a:Str)(b:Str):U (I×(U I)×X):=
  if(O ((a.length:I)<(1:I))) then(W (0,(W 2),()))
  else(Zaq.j8 n a b)
def j20(n:F)(a:Str):U (I×(U I)×X):=
  (Zaj.g a 10 (0:I)).bind λy1=>
  W (y1.1,y1.2.1,())
def f(n:F)(a:Str):U (I×(U I)×X):=
  if(O ((0:I)<(a.length:I))) then
  (if(O ((a.length:I)<(19:I))) then
  (if 0<=(0:I)/\(0:I)<(a.length:I) then
  (if(O ((bt a 0)=45))=Z then
  (if 0<=(0:I)/\(0:I)<(a.length:I) then
  (if(O ((bt a 0)=43)) then
  (if 0<=(1:I)/\(1:I)<=(a.length:I) then
  (Zaq.j6 n ((a.take (((a.length:I)).toNat)).drop (((1:I)).toNat)) a) else Y)
  else(Zaq.j8 n a a)) else Y)
  else
  (if 0<=(1:I)/\(1:I)<=(a.length:I) then
  (Zaq.j6 n ((a.take (((a.length:I)).toNat)).drop (((1:I)).toNat)) a) else Y)) else Y)
  else(Zaq.j20 n a))
  else(Zaq.j20 n a)
def g(a:Str):=f (1000+a.length) a
end Zaq
namespace Zed
def f(n:F)(a:Str):U (I×G×X):=
  (Zaq.g a).bind λy1=>
  if(!y1.2.1.isNone) then
  ((L.toErrorO ([65,116,111,105]:Str) a 0 0 y1.2.1).bind λy2=>
  W (y1.1,y2.1,()))
  else(W (y1.1,N,()))
def g(a:Str):=f (1000+a.length) a
end Zed
namespace Zce
def f(n:F)(a:Str):U (I×G×X):=
  (Zed.g (L.cutRest a ([82]:Str))).bind λy2=>
  if(!(L.cutIs a ([82]:Str)))=Z then
  (if(!y2.2.1)=Z then
  ((Zay.g y2.1).bind λy3=>
  if(!(O (y3.1=a))) then(W (0,Z,()))
  else(W (y2.1,N,())))
  else(W (0,Z,())))
  else(W (0,Z,()))
def g(a:Str):=f (1000+a.length) a
end Zce
namespace Zaz
def f(n:F)(a:I)(b:J Tk)(c:I)(d:J It)(e:I):U ((J Tk)×I×(J It)×I×X):=
  if(O (e=0)) then(W (b,c,d,a,()))
  else(W (b,c,d,e,()))
def g(a:I)(b:J Tk)(c:I)(d:J It)(e:I):=f (1000+a.toNat+b.length+c.toNat+d.length+e.toNat) a b c d e
end Zaz
namespace Zbf
def f(n:F)(a:J Tk)(b:I)(c:J It)(d:I):U (I×I×Str×I×G×(J Tk)×I×(J It)×I×X):=
  if(O (d≠0))=Z then
  (if(O (b<0))=Z then
  (if(O ((a.length:I)<=b)) then(W (0,0,([]:Str),0,Z,a,b,c,d,()))
  else
  (if 0<=b/\b<(a.length:I) then
  (W ((a.getD (b).toNat zT).1,((a.getD (b).toNat zT).2).1,(((a.getD (b).toNat zT).2).2).1,((((a.getD (b).toNat zT).2).2).2).1,N,a,b,c,d,())) else Y))
  else(W (0,0,([]:Str),0,Z,a,b,c,d,())))
  else(W (0,0,([]:Str),0,Z,a,b,c,d,()))
def g(a:J Tk)(b:I)(c:J It)(d:I):=f (1000+a.length+b.toNat+c.length+d.toNat) a b c d
end Zbf
namespace Zag
def j8(n:F)(rl3:G->(J Str)->I->I->(J Tk)->I->(J It)->I->I->I->Str->I->U (Str×G×(J Tk)×I×(J It)×I×X))(a:G)(b:J Str)(c:I)(d:I)(e:J Tk)(i:I)(j:J It)(k:I)(l:I)(o:I)(p:Str)(q:I):U (Str×G×(J Tk)×I×(J It)×I×X):=
  rl3 a b c (S.wrap (d+1)) e i j k l o p q
def l3(n:F):F->G->(J Str)->I->I->(J Tk)->I->(J It)->I->I->I->Str->I->U (Str×G×(J Tk)×I×(J It)×I×X)
 |0,_,_,_,_,_,_,_,_,_,_,_,_=>Y
 |m+1,a,b,c,d,e,i,j,k,l,o,p,q=>
  if(O (d<c)) then
  (if 0<=d/\d<(b.length:I) then
  (if a then
  (if(O (l=3)) then
  (if(O (p=(b.getD (d).toNat ([]:Str)))) then
  (W ((b.getD (d).toNat ([]:Str)),N,e,(S.wrap (i+1)),j,k,()))
  else
  (Zag.j8 n (Zag.l3 n m) a b c d e i j k l o p q))
  else
  (Zag.j8 n (Zag.l3 n m) a b c d e i j k l o p q))
  else
  (Zag.j8 n (Zag.l3 n m) a b c d e i j k l o p q)) else Y)
  else(W (([]:Str),Z,e,i,j,k,()))
def f(n:F)(a:J Str)(b:J Tk)(c:I)(d:J It)(e:I):U (Str×G×(J Tk)×I×(J It)×I×X):=
  (Zbf.g b c d e).bind λy1=>
  Zag.l3 n n y1.2.2.2.2.1 a (a.length:I) 0 y1.2.2.2.2.2.1 y1.2.2.2.2.2.2.1 y1.2.2.2.2.2.2.2.1 y1.2.2.2.2.2.2.2.2.1 y1.1 y1.2.1 y1.2.2.1 y1.2.2.2.1
def g(a:J Str)(b:J Tk)(c:I)(d:J It)(e:I):=f (1000+a.length+b.length+c.toNat+d.length+e.toNat) a b c d e
end Zag
namespace Zas
def f(n:F)(a:I)(b:I)(c:Str)(d:J Tk)(e:I)(i:J It)(j:I):U ((J Tk)×I×(J It)×I×X):=
  if(i.length+([(a,b,c,())]:J It).length)*32<=140737488355328/\0<32/\0<3 then
  (W (d,e,(i++([(a,b,c,())]:J It)),j,())) else Y
def g(a:I)(b:I)(c:Str)(d:J Tk)(e:I)(i:J It)(j:I):=f (1000+a.toNat+b.toNat+c.length+d.length+e.toNat+i.length+j.toNat) a b c d e i j
end Zas
structure ay where
 expr_parser_sum:I->(J Tk)->I->(J It)->I->U ((J Tk)×I×(J It)×I×X)
 expr_parser_row_c283:(J Str)->(J Tk)->I->(J It)->I->I->U ((J Tk)×I×(J It)×I×X×I×X)
 expr_parser_sum_1:I->(J Tk)->I->(J It)->I->U (X×I×(J Tk)×I×(J It)×I×X)
 expr_parser_row_c284:(J Str)->(J Tk)->I->(J It)->I->I->U ((J Tk)×I×(J It)×I×X×I×X)
 expr_parser_sum_1_1:I->(J Tk)->I->(J It)->I->U (X×I×(J Tk)×I×(J It)×I×X)
 expr_parser_factor:I->(J Tk)->I->(J It)->I->U ((J Tk)×I×(J It)×I×X)
namespace expr_parser_sum
def f(n:F)(R:ay)(a:I)(b:J Tk)(c:I)(d:J It)(e:I):U ((J Tk)×I×(J It)×I×X):=
  (R.expr_parser_row_c283 ([([43]:Str),([45]:Str)]:J Str) b c d e a).bind λy1=>
  W (y1.1,y1.2.1,y1.2.2.1,y1.2.2.2.1,())
def h(R:ay)(a:I)(b:J Tk)(c:I)(d:J It)(e:I):U ((J Tk)×I×(J It)×I×X):=f (1000+a.toNat+b.length+c.toNat+d.length+e.toNat) R a b c d e
end expr_parser_sum
namespace expr_parser_row_c283
def l1(n:F)(R:ay):F->(J Str)->(J Tk)->I->(J It)->I->I->U ((J Tk)×I×(J It)×I×X×I×X)
 |0,_,_,_,_,_,_=>Y
 |m+1,a,b,c,d,e,i=>
  (Zag.g a b c d e).bind λy1=>
  if(!y1.2.1) then
  (W (y1.2.2.1,y1.2.2.2.1,y1.2.2.2.2.1,y1.2.2.2.2.2.1,(),i,()))
  else
  ((R.expr_parser_sum_1 i y1.2.2.1 y1.2.2.2.1 y1.2.2.2.2.1 y1.2.2.2.2.2.1).bind λy2=>
  (Zas.g ((L.kinds y1.1).1) 0 ([]:Str) y2.2.2.1 y2.2.2.2.1 y2.2.2.2.2.1 y2.2.2.2.2.2.1).bind λy3=>
  (expr_parser_row_c283.l1 n R m) a y3.1 y3.2.1 y3.2.2.1 y3.2.2.2.1 y2.2.1)
def f(n:F)(R:ay)(a:J Str)(b:J Tk)(c:I)(d:J It)(e:I)(i:I):U ((J Tk)×I×(J It)×I×X×I×X):=
  (R.expr_parser_sum_1 i b c d e).bind λy1=>
  expr_parser_row_c283.l1 n R n a y1.2.2.1 y1.2.2.2.1 y1.2.2.2.2.1 y1.2.2.2.2.2.1 y1.2.1
def h(R:ay)(a:J Str)(b:J Tk)(c:I)(d:J It)(e:I)(i:I):U ((J Tk)×I×(J It)×I×X×I×X):=f (1000+a.length+b.length+c.toNat+d.length+e.toNat+i.toNat) R a b c d e i
end expr_parser_row_c283
namespace expr_parser_sum_1
def f(n:F)(R:ay)(a:I)(b:J Tk)(c:I)(d:J It)(e:I):U (X×I×(J Tk)×I×(J It)×I×X):=
  (R.expr_parser_row_c284 ([([42]:Str)]:J Str) b c d e a).bind λy1=>
  W ((),y1.2.2.2.2.2.1,y1.1,y1.2.1,y1.2.2.1,y1.2.2.2.1,())
def h(R:ay)(a:I)(b:J Tk)(c:I)(d:J It)(e:I):U (X×I×(J Tk)×I×(J It)×I×X):=f (1000+a.toNat+b.length+c.toNat+d.length+e.toNat) R a b c d e
end expr_parser_sum_1
namespace expr_parser_row_c284
def l1(n:F)(R:ay):F->(J Str)->(J Tk)->I->(J It)->I->I->U ((J Tk)×I×(J It)×I×X×I×X)
 |0,_,_,_,_,_,_=>Y
 |m+1,a,b,c,d,e,i=>
  (Zag.g a b c d e).bind λy1=>
  if(!y1.2.1) then
  (W (y1.2.2.1,y1.2.2.2.1,y1.2.2.2.2.1,y1.2.2.2.2.2.1,(),i,()))
  else
  ((R.expr_parser_sum_1_1 i y1.2.2.1 y1.2.2.2.1 y1.2.2.2.2.1 y1.2.2.2.2.2.1).bind λy2=>
  (Zas.g ((L.kinds y1.1).1) 0 ([]:Str) y2.2.2.1 y2.2.2.2.1 y2.2.2.2.2.1 y2.2.2.2.2.2.1).bind λy3=>
  (expr_parser_row_c284.l1 n R m) a y3.1 y3.2.1 y3.2.2.1 y3.2.2.2.1 y2.2.1)
def f(n:F)(R:ay)(a:J Str)(b:J Tk)(c:I)(d:J It)(e:I)(i:I):U ((J Tk)×I×(J It)×I×X×I×X):=
  (R.expr_parser_sum_1_1 i b c d e).bind λy1=>
  expr_parser_row_c284.l1 n R n a y1.2.2.1 y1.2.2.2.1 y1.2.2.2.2.1 y1.2.2.2.2.2.1 y1.2.1
def h(R:ay)(a:J Str)(b:J Tk)(c:I)(d:J It)(e:I)(i:I):U ((J Tk)×I×(J It)×I×X×I×X):=f (1000+a.length+b.length+c.toNat+d.length+e.toNat+i.toNat) R a b c d e i
end expr_parser_row_c284
namespace expr_parser_sum_1_1
def f(n:F)(R:ay)(a:I)(b:J Tk)(c:I)(d:J It)(e:I):U (X×I×(J Tk)×I×(J It)×I×X):=
  (R.expr_parser_factor a b c d e).bind λy1=>
  W ((),a,y1.1,y1.2.1,y1.2.2.1,y1.2.2.2.1,())
def h(R:ay)(a:I)(b:J Tk)(c:I)(d:J It)(e:I):U (X×I×(J Tk)×I×(J It)×I×X):=f (1000+a.toNat+b.length+c.toNat+d.length+e.toNat) R a b c d e
end expr_parser_sum_1_1
namespace expr_parser_factor
def j19(n:F)(R:ay)(a:J Tk)(b:I)(c:J It)(d:I):U ((J Tk)×I×(J It)×I×X):=
  W (a,(S.wrap (b+1)),c,d,())
def f(n:F)(R:ay)(a:I)(b:J Tk)(c:I)(d:J It)(e:I):U ((J Tk)×I×(J It)×I×X):=
  if(O (e≠0)) then(W (b,c,d,e,()))
  else
  (if(O (8<a)) then
  ((Zaz.g 24 b c d e).bind λy1=>
  W (y1.1,y1.2.1,y1.2.2.1,y1.2.2.2.1,()))
  else
  ((Zag.g ([([45]:Str),([40]:Str)]:J Str) b c d e).bind λy2=>
  if(O (y2.1=([45]:Str))) then
  ((R.expr_parser_factor (S.wrap (a+1)) y2.2.2.1 y2.2.2.2.1 y2.2.2.2.2.1 y2.2.2.2.2.2.1).bind λy3=>
  (Zas.g 3 0 ([]:Str) y3.1 y3.2.1 y3.2.2.1 y3.2.2.2.1).bind λy4=>
  W (y4.1,y4.2.1,y4.2.2.1,y4.2.2.2.1,()))
  else
  (if(O (y2.1=([40]:Str))) then
  ((R.expr_parser_sum (S.wrap (a+1)) y2.2.2.1 y2.2.2.2.1 y2.2.2.2.2.1 y2.2.2.2.2.2.1).bind λy5=>
  (Zag.g ([([41]:Str)]:J Str) y5.1 y5.2.1 y5.2.2.1 y5.2.2.2.1).bind λy6=>
  if(!y6.2.1) then
  ((Zaz.g 23 y6.2.2.1 y6.2.2.2.1 y6.2.2.2.2.1 y6.2.2.2.2.2.1).bind λy7=>
  W (y7.1,y7.2.1,y7.2.2.1,y7.2.2.2.1,()))
  else
  (W (y6.2.2.1,y6.2.2.2.1,y6.2.2.2.2.1,y6.2.2.2.2.2.1,())))
  else
  ((Zbf.g y2.2.2.1 y2.2.2.2.1 y2.2.2.2.2.1 y2.2.2.2.2.2.1).bind λy8=>
  if y8.2.2.2.2.1 then
  (if(O (y8.1=2)) then
  ((Zas.g 1 y8.2.2.2.1 ([]:Str) y8.2.2.2.2.2.1 y8.2.2.2.2.2.2.1 y8.2.2.2.2.2.2.2.1 y8.2.2.2.2.2.2.2.2.1).bind λy9=>
  expr_parser_factor.j19 n R y9.1 y9.2.1 y9.2.2.1 y9.2.2.2.1)
  else
  (if y8.2.2.2.2.1 then
  (if(O (y8.1=1)) then
  ((Zac.g y8.2.2.1).bind λy10=>
  if y10.1 then
  ((Zas.g 2 0 y8.2.2.1 y8.2.2.2.2.2.1 y8.2.2.2.2.2.2.1 y8.2.2.2.2.2.2.2.1 y8.2.2.2.2.2.2.2.2.1).bind λy11=>
  expr_parser_factor.j19 n R y11.1 y11.2.1 y11.2.2.1 y11.2.2.2.1)
  else
  ((Zaz.g 23 y8.2.2.2.2.2.1 y8.2.2.2.2.2.2.1 y8.2.2.2.2.2.2.2.1 y8.2.2.2.2.2.2.2.2.1).bind λy12=>
  expr_parser_factor.j19 n R y12.1 y12.2.1 y12.2.2.1 y12.2.2.2.1))
  else
  ((Zaz.g 23 y8.2.2.2.2.2.1 y8.2.2.2.2.2.2.1 y8.2.2.2.2.2.2.2.1 y8.2.2.2.2.2.2.2.2.1).bind λy13=>
  expr_parser_factor.j19 n R y13.1 y13.2.1 y13.2.2.1 y13.2.2.2.1))
  else
  ((Zaz.g 23 y8.2.2.2.2.2.1 y8.2.2.2.2.2.2.1 y8.2.2.2.2.2.2.2.1 y8.2.2.2.2.2.2.2.2.1).bind λy14=>
  expr_parser_factor.j19 n R y14.1 y14.2.1 y14.2.2.1 y14.2.2.2.1)))
  else
  (if y8.2.2.2.2.1 then
  (if(O (y8.1=1)) then
  ((Zac.g y8.2.2.1).bind λy15=>
  if y15.1 then
  ((Zas.g 2 0 y8.2.2.1 y8.2.2.2.2.2.1 y8.2.2.2.2.2.2.1 y8.2.2.2.2.2.2.2.1 y8.2.2.2.2.2.2.2.2.1).bind λy16=>
  expr_parser_factor.j19 n R y16.1 y16.2.1 y16.2.2.1 y16.2.2.2.1)
  else
  ((Zaz.g 23 y8.2.2.2.2.2.1 y8.2.2.2.2.2.2.1 y8.2.2.2.2.2.2.2.1 y8.2.2.2.2.2.2.2.2.1).bind λy17=>
  expr_parser_factor.j19 n R y17.1 y17.2.1 y17.2.2.1 y17.2.2.2.1))
  else
  ((Zaz.g 23 y8.2.2.2.2.2.1 y8.2.2.2.2.2.2.1 y8.2.2.2.2.2.2.2.1 y8.2.2.2.2.2.2.2.2.1).bind λy18=>
  expr_parser_factor.j19 n R y18.1 y18.2.1 y18.2.2.1 y18.2.2.2.1))
  else
  ((Zaz.g 23 y8.2.2.2.2.2.1 y8.2.2.2.2.2.2.1 y8.2.2.2.2.2.2.2.1 y8.2.2.2.2.2.2.2.2.1).bind λy19=>
  expr_parser_factor.j19 n R y19.1 y19.2.1 y19.2.2.1 y19.2.2.2.1))))))
def h(R:ay)(a:I)(b:J Tk)(c:I)(d:J It)(e:I):U ((J Tk)×I×(J It)×I×X):=f (1000+a.toNat+b.length+c.toNat+d.length+e.toNat) R a b c d e
end expr_parser_factor
def ah:F->ay
 |0=>⟨λ_ _ _ _ _=>Y,λ_ _ _ _ _ _=>Y,λ_ _ _ _ _=>Y,λ_ _ _ _ _ _=>Y,λ_ _ _ _ _=>Y,λ_ _ _ _ _=>Y⟩
 |q+1=>⟨expr_parser_sum.h (ah q),expr_parser_row_c283.h (ah q),expr_parser_sum_1.h (ah q),expr_parser_row_c284.h (ah q),expr_parser_sum_1_1.h (ah q),expr_parser_factor.h (ah q)⟩
def expr_parser_sum.g(a:I)(b:J Tk)(c:I)(d:J It)(e:I):U ((J Tk)×I×(J It)×I×X):=(ah (1000+a.toNat+b.length+c.toNat+d.length+e.toNat)).expr_parser_sum a b c d e
def expr_parser_row_c283.g(a:J Str)(b:J Tk)(c:I)(d:J It)(e:I)(i:I):U ((J Tk)×I×(J It)×I×X×I×X):=(ah (1000+a.length+b.length+c.toNat+d.length+e.toNat+i.toNat)).expr_parser_row_c283 a b c d e i
def expr_parser_sum_1.g(a:I)(b:J Tk)(c:I)(d:J It)(e:I):U (X×I×(J Tk)×I×(J It)×I×X):=(ah (1000+a.toNat+b.length+c.toNat+d.length+e.toNat)).expr_parser_sum_1 a b c d e
def expr_parser_row_c284.g(a:J Str)(b:J Tk)(c:I)(d:J It)(e:I)(i:I):U ((J Tk)×I×(J It)×I×X×I×X):=(ah (1000+a.length+b.length+c.toNat+d.length+e.toNat+i.toNat)).expr_parser_row_c284 a b c d e i
def expr_parser_sum_1_1.g(a:I)(b:J Tk)(c:I)(d:J It)(e:I):U (X×I×(J Tk)×I×(J It)×I×X):=(ah (1000+a.toNat+b.length+c.toNat+d.length+e.toNat)).expr_parser_sum_1_1 a b c d e
def expr_parser_factor.g(a:I)(b:J Tk)(c:I)(d:J It)(e:I):U ((J Tk)×I×(J It)×I×X):=(ah (1000+a.toNat+b.length+c.toNat+d.length+e.toNat)).expr_parser_factor a b c d e
namespace Zau
def j5(n:F)(a:J Tk)(b:I)(c:J It)(d:I):U ((J It)×I×I×X):=
  if(O (d≠0)) then(W ([],0,d,()))
  else(W (c,b,0,()))
def f(n:F)(a:J Tk)(b:I):U ((J It)×I×I×X):=
  (expr_parser_sum.g 0 a b ([]) 0).bind λy1=>
  if(O (y1.2.2.2.1=0)) then
  (if(O (64<(y1.2.2.1.length:I))) then(Zau.j5 n y1.1 y1.2.1 y1.2.2.1 24)
  else(Zau.j5 n y1.1 y1.2.1 y1.2.2.1 y1.2.2.2.1))
  else(Zau.j5 n y1.1 y1.2.1 y1.2.2.1 y1.2.2.2.1)
def g(a:J Tk)(b:I):=f (1000+a.length+b.toNat) a b
end Zau
namespace Zex
def f(n:F)(a:Str)(b:I)(c:Str):U (G×Str×X):=
  W ((O (a=c)),c,())
def g(a:Str)(b:I)(c:Str):=f (1000+a.length+b.toNat+c.length) a b c
end Zex
namespace Zcf
def l2(n:F):F->(J Sy)->I->I->Str->U (I×Str×X)
 |0,_,_,_,_=>Y
 |m+1,a,b,c,d=>
  if(O (c<b)) then
  (if 0<=c/\c<(a.length:I) then
  ((Zex.g ((a.getD (c).toNat zS).1) (((a.getD (c).toNat zS).2).1) d).bind λy1=>
  if y1.1 then(W (c,y1.2.1,()))
  else
  ((Zcf.l2 n m) a b (S.wrap (c+1)) y1.2.1)) else Y)
  else(W ((-1),d,()))
def f(n:F)(a:J Sy)(b:Str):U (I×Str×X):=
  Zcf.l2 n n a (a.length:I) 0 b
def g(a:J Sy)(b:Str):=f (1000+a.length+b.length) a b
end Zcf
namespace Zcg
def f(n:F)(a:J Sy)(b:Str):U (I×G×X):=
  (Zcf.g a b).bind λy1=>
  if(O (y1.1<0)) then(W (0,Z,()))
  else
  (if 0<=y1.1/\y1.1<(a.length:I) then
  (W (((a.getD (y1.1).toNat zS).2).1,N,())) else Y)
def g(a:J Sy)(b:Str):=f (1000+a.length+b.length) a b
end Zcg
namespace Zbp
def f(n:F)(a:J (I×I×X)):U (I×I×(J (I×I×X))×X):=
  if 0<=(S.wrap ((a.length:I)-1))/\(S.wrap ((a.length:I)-1))<(a.length:I) then
  (if 0<=(S.wrap ((a.length:I)-1))/\(S.wrap ((a.length:I)-1))<=(a.length:I) then
  (W ((a.getD ((S.wrap ((a.length:I)-(1:I)))).toNat (0,(0,()))).1,((a.getD ((S.wrap ((a.length:I)-(1:I)))).toNat (0,(0,()))).2).1,(a.take ((S.wrap ((a.length:I)-(1:I)))).toNat),())) else Y) else Y
def g(a:J (I×I×X)):=f (1000+a.length) a
end Zbp
namespace Zdn
def f(n:F)(a:I)(b:I)(c:I):U (I×I×X):=
  W ((M.wrap ((M.wrap c)*a)),(S.wrap (c*b)),())
def g(a:I)(b:I)(c:I):=f (1000+a.toNat+b.toNat+c.toNat) a b c
end Zdn
namespace Zey
def f(n:F)(a:I)(b:I)(c:I)(d:I):U (I×I×X):=
  W ((M.wrap (a+c)),(S.wrap (b+d)),())
def g(a:I)(b:I)(c:I)(d:I):=f (1000+a.toNat+b.toNat+c.toNat+d.toNat) a b c d
end Zey
namespace Zai
def j27(n:F)(rl5:(J Sy)->(J It)->I->I->I->I->(J (I×I×X))->U (I×I×I×X))(a:J Sy)(b:J It)(c:I)(d:I)(e:I)(i:I)(j:J (I×I×X))(k:I)(l:I):U (I×I×I×X):=
  if(j.length+([(k,l,())]:J (I×I×X)).length)*16<=140737488355328/\0<16/\0<2 then
  (rl5 a b c (S.wrap (d+1)) e i (j++([(k,l,())]:J (I×I×X)))) else Y
def l5(n:F):F->(J Sy)->(J It)->I->I->I->I->(J (I×I×X))->U (I×I×I×X)
 |0,_,_,_,_,_,_,_=>Y
 |m+1,a,b,c,d,e,i,j=>
  if(O (d<c)) then
  (if 0<=d/\d<(b.length:I) then
  (if(O ((b.getD (d).toNat zI).1=2)) then
  ((Zcg.g a ((((b.getD (d).toNat zI).2).2).1)).bind λy1=>
  if(!y1.2.1) then(W (0,0,25,()))
  else
  (Zai.j27 n (Zai.l5 n m) a b c d e i j (M.wrap y1.1) 1))
  else
  (if(O ((b.getD (d).toNat zI).1=3)) then
  ((Zbp.g j).bind λy2=>
  (Zdn.g y2.1 y2.2.1 (-1:I)).bind λy3=>
  Zai.j27 n (Zai.l5 n m) a b c d e i y2.2.2.1 y3.1 y3.2.1)
  else
  (if(O ((b.getD (d).toNat zI).1=4)) then
  ((Zbp.g j).bind λy4=>
  (Zbp.g y4.2.2.1).bind λy5=>
  (Zey.g y4.1 y4.2.1 y5.1 y5.2.1).bind λy6=>
  Zai.j27 n (Zai.l5 n m) a b c d e i y5.2.2.1 y6.1 y6.2.1)
  else
  (if(O ((b.getD (d).toNat zI).1=5)) then
  ((Zbp.g j).bind λy7=>
  (Zbp.g y7.2.2.1).bind λy8=>
  (Zdn.g y7.1 y7.2.1 (-1:I)).bind λy9=>
  (Zey.g y8.1 y8.2.1 y9.1 y9.2.1).bind λy10=>
  Zai.j27 n (Zai.l5 n m) a b c d e i y8.2.2.1 y10.1 y10.2.1)
  else
  (if(O ((b.getD (d).toNat zI).1=6)) then
  ((Zbp.g j).bind λy11=>
  (Zbp.g y11.2.2.1).bind λy12=>
  if(!(O (y11.1=y11.1)&&(O (y11.2.1=0)&&N)))=Z then
  (if(!(O (y12.1=y12.1)&&(O (y12.2.1=0)&&N))) then(W (0,0,27,()))
  else
  (Zai.j27 n (Zai.l5 n m) a b c d e i y12.2.2.1 (M.wrap (y11.1*y12.1)) 0))
  else(W (0,0,27,())))
  else
  (Zai.j27 n (Zai.l5 n m) a b c d e i j (((b.getD (d).toNat zI).2).1) 0)))))) else Y)
  else
  ((Zbp.g j).bind λy13=>
  W (y13.1,y13.2.1,0,()))
def f(n:F)(a:J It)(b:J Sy):U (I×I×I×X):=
  (Zbb.g a).bind λy1=>
  if(!y1.1) then(W (0,0,23,()))
  else(Zai.l5 n n b a (a.length:I) 0 0 0 ([]))
def g(a:J It)(b:J Sy):=f (1000+a.length+b.length) a b
end Zai
namespace Zar
def j11(n:F)(rl7:I->I->I->I->I->U (I×I×X))(a:I)(b:I)(c:I)(d:I)(e:I):U (I×I×X):=
  rl7 a b c d (S.wrap (e+1))
def l7(n:F):F->I->I->I->I->I->U (I×I×X)
 |0,_,_,_,_,_=>Y
 |m+1,a,b,c,d,e=>
  if(O (e<2)) then
  (if 0<=e/\e<2 then
  (if(O (a<=([c,d].getD (e).toNat 0))) then
  (if(O (([c,d].getD (e).toNat 0)<=b)) then(W (([c,d].getD (e).toNat 0),0,()))
  else(Zar.j11 n (Zar.l7 n m) a b c d e))
  else(Zar.j11 n (Zar.l7 n m) a b c d e)) else Y)
  else(W (0,28,()))
def f(n:F)(a:J It)(b:J Sy)(c:I)(d:I):U (I×I×X):=
  (Zai.g a b).bind λy1=>
  if(O (y1.2.2.1≠0)) then(W (0,y1.2.2.1,()))
  else
  (if(O (y1.2.1≠0)) then(W (0,27,()))
  else
  (Zar.l7 n n c d (S.wrap (IntKind.i32.wrap y1.1)) (S.wrap y1.1) 0))
def g(a:J It)(b:J Sy)(c:I)(d:I):=f (1000+a.length+b.length+c.toNat+d.toNat) a b c d
end Zar
namespace Zbq
def l3(n:F):F->(J I)->(J I)->I->I->U ((J I)×X)
 |0,_,_,_,_=>Y
 |m+1,a,b,c,d=>
  if(O (d<c)) then
  (if 0<=d/\d<(b.length:I) then
  (if(a.length+([(IntKind.u8.wrap (b.getD (d).toNat 0)),(IntKind.u8.wrap (((b.getD (d).toNat (0:I))).fdiv (2 ^ (min (8:I).toNat M.bits)))),(IntKind.u8.wrap (((b.getD (d).toNat (0:I))).fdiv (2 ^ (min (16:I).toNat M.bits)))),(IntKind.u8.wrap (((b.getD (d).toNat (0:I))).fdiv (2 ^ (min (24:I).toNat M.bits))))]:J I).length)*1<=140737488355328/\0<1/\0<1 then
  ((Zbq.l3 n m) (a++([(IntKind.u8.wrap (b.getD (d).toNat 0)),(IntKind.u8.wrap (((b.getD (d).toNat (0:I))).fdiv (2 ^ (min (8:I).toNat M.bits)))),(IntKind.u8.wrap (((b.getD (d).toNat (0:I))).fdiv (2 ^ (min (16:I).toNat M.bits)))),(IntKind.u8.wrap (((b.getD (d).toNat (0:I))).fdiv (2 ^ (min (24:I).toNat M.bits))))]:J I)) b c (S.wrap (d+1))) else Y) else Y)
  else(W (a,()))
def f(n:F)(a:J I):U ((J I)×X):=
  Zbq.l3 n n ([]) a (a.length:I) 0
def g(a:J I):=f (1000+a.length) a
end Zbq
namespace Zez
def g(a:Str):U ((J I)×I×X):=L.putNameO Zak.g a
end Zez
namespace Zbv
def l10(n:F):F->(J I)->(J Sy)->I->I->U ((J I)×I×X)
 |0,_,_,_,_=>Y
 |m+1,a,b,c,d=>
  if(O (d<c)) then
  (if 0<=d/\d<(b.length:I) then
  ((Zez.g ((b.getD (d).toNat zS).1)).bind λy1=>
  if(O (y1.2.1≠0)) then(W ([],y1.2.1,()))
  else
  (if(a.length+y1.1.length)*1<=140737488355328/\0<1/\0<1 then
  ((Zbq.g ([(M.wrap ((b.getD (d).toNat zS).2).1)]:J I)).bind λy2=>
  if((a++y1.1).length+y2.1.length)*1<=140737488355328/\0<1/\0<1 then
  ((Zbv.l10 n m) ((a++y1.1)++y2.1) b c (S.wrap (d+1))) else Y) else Y)) else Y)
  else
  (if W 1=W 1/\(a.length:I)=(a.length:I)/\(a.length:I)=(a.length:I) then(W (a,0,())) else Y)
def f(n:F)(a:J I)(b:J I)(c:J Sy):U ((J I)×I×X):=
  (Zbt.g a b c).bind λy1=>
  if(O (y1.1≠0)) then(W ([],y1.1,()))
  else
  ((Zba.g a b).bind λy2=>
  if(O (y2.2.2.1≠0)) then(W ([],y2.2.2.1,()))
  else
  ((Zbq.g ([894847314,(M.wrap (y2.1.length:I)),(M.wrap y2.2.1),(M.wrap (c.length:I))]:J I)).bind λy3=>
  (Zbq.g y2.1).bind λy4=>
  if(y3.1.length+y4.1.length)*1<=140737488355328/\0<1/\0<1 then
  (Zbv.l10 n n (y3.1++y4.1) c (c.length:I) 0) else Y))
def g(a:J I)(b:J I)(c:J Sy):=f (1000+a.length+b.length+c.length) a b c
end Zbv
namespace Zch
def l4(n:F):F->(J I)->(J I)->I->I->U (G×X)
 |0,_,_,_,_=>Y
 |m+1,a,b,c,d=>
  if(O (d<c)) then
  (if 0<=d/\d<(a.length:I) then
  (if 0<=d/\d<(b.length:I) then
  (if(O ((a.getD (d).toNat 0)≠(b.getD (d).toNat 0))) then(W (Z,()))
  else
  ((Zch.l4 n m) a b c (S.wrap (d+1)))) else Y) else Y)
  else(W (N,()))
def f(n:F)(a:J I)(b:J I):U (G×X):=
  if(O ((a.length:I)≠(b.length:I))) then(W (Z,()))
  else
  (Zch.l4 n n a b (a.length:I) 0)
def g(a:J I)(b:J I):=f (1000+a.length+b.length) a b
end Zch
namespace Zci
def l4(n:F):F->(J I)->(J I)->I->I->U (G×X)
 |0,_,_,_,_=>Y
 |m+1,a,b,c,d=>
  if(O (d<c)) then
  (if 0<=d/\d<(a.length:I) then
  (if 0<=d/\d<(b.length:I) then
  (if(O ((a.getD (d).toNat 0)≠(b.getD (d).toNat 0))) then(W (Z,()))
  else
  ((Zci.l4 n m) a b c (S.wrap (d+1)))) else Y) else Y)
  else(W (N,()))
def f(n:F)(a:J I)(b:J I):U (G×X):=
  if(O ((a.length:I)≠(b.length:I))) then(W (Z,()))
  else
  (Zci.l4 n n a b (a.length:I) 0)
def g(a:J I)(b:J I):=f (1000+a.length+b.length) a b
end Zci
namespace Zcj
def l4(n:F):F->(J Sy)->(J Sy)->I->I->U (G×X)
 |0,_,_,_,_=>Y
 |m+1,a,b,c,d=>
  if(O (d<c)) then
  (if 0<=d/\d<(a.length:I) then
  (if 0<=d/\d<(b.length:I) then
  (if(!(O ((a.getD (d).toNat zS).1=(b.getD (d).toNat zS).1)&&(O (((a.getD (d).toNat zS).2).1=((b.getD (d).toNat zS).2).1)&&N))) then(W (Z,()))
  else
  ((Zcj.l4 n m) a b c (S.wrap (d+1)))) else Y) else Y)
  else(W (N,()))
def f(n:F)(a:J Sy)(b:J Sy):U (G×X):=
  if(O ((a.length:I)≠(b.length:I))) then(W (Z,()))
  else
  (Zcj.l4 n n a b (a.length:I) 0)
def g(a:J Sy)(b:J Sy):=f (1000+a.length+b.length) a b
end Zcj
namespace Zdo
def f(n:F)(a:J I)(b:J I)(c:J Sy)(d:J I)(e:J I)(i:J Sy):U (G×X):=
  (Zch.g a d).bind λy1=>
  if y1.1 then
  ((Zci.g b e).bind λy2=>
  if y2.1 then
  ((Zcj.g c i).bind λy3=>
  W (y3.1,()))
  else(W (Z,())))
  else(W (Z,()))
def g(a:J I)(b:J I)(c:J Sy)(d:J I)(e:J I)(i:J Sy):=f (1000+a.length+b.length+c.length+d.length+e.length+i.length) a b c d e i
end Zdo
namespace Zck
def l4(n:F):F->(J It)->(J It)->I->U (G×X)
 |0,_,_,_=>Y
 |m+1,a,b,c=>
  if(O (c<(a.length:I))) then
  (if 0<=c/\c<(a.length:I) then
  (if 0<=c/\c<(b.length:I) then
  (if(!(O ((a.getD (c).toNat zI).1=(b.getD (c).toNat zI).1)&&(O (((a.getD (c).toNat zI).2).1=((b.getD (c).toNat zI).2).1)&&(O ((((a.getD (c).toNat zI).2).2).1=(((b.getD (c).toNat zI).2).2).1)&&N)))) then(W (Z,()))
  else
  ((Zck.l4 n m) a b (S.wrap (c+1)))) else Y) else Y)
  else(W (N,()))
def f(n:F)(a:J It)(b:J It):U (G×X):=
  if(O ((a.length:I)≠(b.length:I))) then(W (Z,()))
  else(Zck.l4 n n a b 0)
def g(a:J It)(b:J It):=f (1000+a.length+b.length) a b
end Zck
end Rv
namespace Rv
open Go
set_option maxRecDepth 100000
namespace Zee
def f(n:F)(a:I)(b:I)(c:I)(d:I):U (I×I×X):=
  if a<0 then Y else
  (if b<0 then Y else
  (W ((bn .or .u32 c (M.wrap ((bn .and .u32 ((d).fdiv (2 ^ (min a.toNat M.bits))) 1)*2 ^ (min b.toNat M.bits)))),d,())))
def g(a:I)(b:I)(c:I)(d:I):=f (1000+a.toNat+b.toNat+c.toNat+d.toNat) a b c d
end Zee
namespace Zcv
def l2(n:F):F->I->I->I->I->I->U (I×I×X)
 |0,_,_,_,_,_=>Y
 |m+1,a,b,c,d,e=>
  if(O (c<32)) then
  (if(O ((S.wrap (c-a))<b)) then
  ((Zee.g c (S.wrap (c-a)) d e).bind λy1=>
  (Zcv.l2 n m) a b (S.wrap (c+1)) y1.1 y1.2.1)
  else(W (d,e,())))
  else(W (d,e,()))
def f(n:F)(a:I)(b:I)(c:I)(d:I):U (I×I×X):=
  if(O (b<1))=Z then
  (if(O (32<=a))=Z then
  (if(O (a<=(S.wrap (0-b)))) then(W (c,d,()))
  else(Zcv.l2 n n a b (mx a 0) c d))
  else(W (c,d,())))
  else(W (c,d,()))
def g(a:I)(b:I)(c:I)(d:I):=f (1000+a.toNat+b.toNat+c.toNat+d.toNat) a b c d
end Zcv
namespace Zef
def f(n:F)(a:I)(b:I)(c:I):U (I×X):=
  (Zcv.g b c 0 a).bind λy1=>
  W (y1.1,())
def g(a:I)(b:I)(c:I):=f (1000+a.toNat+b.toNat+c.toNat) a b c
end Zef
namespace Zav
def f(n:F)(a:I)(b:I)(c:I):U (I×X):=
  (Zef.g c a b).bind λy1=>
  W ((S.wrap y1.1),())
def g(a:I)(b:I)(c:I):=f (1000+a.toNat+b.toNat+c.toNat) a b c
end Zav
namespace Zfa
def f(n:F)(a:I):U (I×X):=
  W ((mn (mx a 1) 32),())
def g(a:I):=f (1000+a.toNat) a
end Zfa
namespace Zdp
def f(n:F)(a:I)(b:I):U (I×X):=
  (Zfa.g b).bind λy1=>
  if(S.wrap ((32:I)-y1.1))<0 then Y else
  (if(S.wrap ((32:I)-y1.1))<0 then Y else
  (W ((S.wrap (((IntKind.i32.wrap (M.wrap (a*2 ^ (min (S.wrap ((32:I)-y1.1)).toNat M.bits))))).fdiv (2 ^ (min (S.wrap ((32:I)-y1.1)).toNat IntKind.i32.bits)))),())))
def g(a:I)(b:I):=f (1000+a.toNat+b.toNat) a b
end Zdp
namespace Zbd
def j16(n:F)(a:I)(b:I)(c:I)(d:I)(e:I)(i:I)(j:G)(k:I)(l:I)(o:I)(p:I)(q:I)(r:I)(s:G):U (I×I×I×I×I×I×G×X):=
  W (k,l,o,p,q,r,s,())
def f(n:F)(a:I):U (I×I×I×I×I×I×G×X):=
  (Zav.g 29 1 a).bind λy1=>
  (Zav.g 28 1 a).bind λy2=>
  (Zav.g 24 4 a).bind λy3=>
  (Zav.g 20 4 a).bind λy4=>
  (Zav.g 16 4 a).bind λy5=>
  (Zav.g 30 2 a).bind λy6=>
  if(O (y6.1=0)) then
  ((Zav.g 0 4 a).bind λy7=>
  if(O (y1.1=1)) then
  (if(O (y5.1=0)) then
  ((Zav.g 28 1 a).bind λy8=>
  Zbd.j16 n 0 0 0 0 0 0 Z (S.wrap ((3:I)+y8.1)) 0 y3.1 0 0 0 Z)
  else
  (Zbd.j16 n 0 0 0 0 0 0 Z 1 y5.1 y3.1 y4.1 y7.1 0 (O (y1.1=1))))
  else
  (Zbd.j16 n 0 0 0 0 0 0 Z 1 y5.1 y3.1 y4.1 y7.1 0 (O (y1.1=1))))
  else
  (if(O (y6.1=1)) then
  ((Zav.g 0 16 a).bind λy9=>
  (Zav.g 28 1 a).bind λy10=>
  Zbd.j16 n 0 0 0 0 0 0 Z 2 y5.1 y3.1 y4.1 0 (S.wrap (y9.1-(S.wrap (y10.1*2 ^ (min (16:I).toNat S.bits))))) (O (y1.1=1)))
  else
  (if(O (y6.1=2)) then
  ((Zav.g 29 1 a).bind λy11=>
  (Zav.g 28 1 a).bind λy12=>
  (Zdp.g a (20:I)).bind λy13=>
  Zbd.j16 n 0 0 0 0 0 0 Z 5 (S.wrap ((S.wrap (y11.1*2))+y12.1)) y3.1 y4.1 0 y13.1 Z)
  else
  ((Zav.g 0 4 a).bind λy14=>
  if(O (y1.1=1)) then
  ((Zdp.g a (24:I)).bind λy15=>
  Zbd.j16 n 0 0 0 0 0 0 Z 7 y3.1 0 0 0 y15.1 (O (y2.1=1)))
  else
  (Zbd.j16 n 0 0 0 0 0 0 Z 6 y3.1 0 0 y14.1 0 (O (y2.1=1))))))
def g(a:I):=f (1000+a.toNat) a
end Zbd
namespace Zdb
def f(n:F)(a:I)(b:I)(c:I):U (G×X):=
  if(O (b<=a)) then(W ((O (a<=c)),()))
  else(W (Z,()))
def g(a:I)(b:I)(c:I):=f (1000+a.toNat+b.toNat+c.toNat) a b c
end Zdb
namespace Zfe
def f(n:F)(a:G):U (I×X):=
  if a then(W (1,()))
  else(W (0,()))
def g(a:G):=f (1000) a
end Zfe
namespace Zbj
def f(n:F)(a:I)(b:G)(c:G):U (I×I×I×X):=
  (Zfe.g b).bind λy1=>
  (Zfe.g c).bind λy2=>
  W (28,4,(bn .or .i64 (bn .or .i64 (S.wrap (a*2 ^ (min (2:I).toNat S.bits))) (S.wrap ((S.wrap y1.1)*2 ^ (min (1:I).toNat S.bits)))) (S.wrap y2.1)),())
def g(a:I)(b:G)(c:G):=f (1000+a.toNat) a b c
end Zbj
namespace Zeg
def f(n:F)(a:I)(b:I)(c:I)(d:I):U (I×I×X):=
  if a<0 then Y else
  (if b<0 then Y else
  (if a<0 then Y else
  (W ((bn .or .u32 (bn .andNot .u32 c (M.wrap ((1:I)*2 ^ (min a.toNat M.bits)))) (M.wrap ((bn .and .u32 ((d).fdiv (2 ^ (min b.toNat M.bits))) 1)*2 ^ (min a.toNat M.bits)))),d,()))))
def g(a:I)(b:I)(c:I)(d:I):=f (1000+a.toNat+b.toNat+c.toNat+d.toNat) a b c d
end Zeg
namespace Zcw
def l2(n:F):F->I->I->I->I->I->U (I×I×X)
 |0,_,_,_,_,_=>Y
 |m+1,a,b,c,d,e=>
  if(O (c<32)) then
  (if(O ((S.wrap (c-a))<b)) then
  ((Zeg.g c (S.wrap (c-a)) d e).bind λy1=>
  (Zcw.l2 n m) a b (S.wrap (c+1)) y1.1 y1.2.1)
  else(W (d,e,())))
  else(W (d,e,()))
def f(n:F)(a:I)(b:I)(c:I)(d:I):U (I×I×X):=
  if(O (b<1))=Z then
  (if(O (32<=a))=Z then
  (if(O (a<=(S.wrap (0-b)))) then(W (c,d,()))
  else(Zcw.l2 n n a b (mx a 0) c d))
  else(W (c,d,())))
  else(W (c,d,()))
def g(a:I)(b:I)(c:I)(d:I):=f (1000+a.toNat+b.toNat+c.toNat+d.toNat) a b c d
end Zcw
namespace Zeh
def f(n:F)(a:I)(b:I)(c:I)(d:I):U (I×X):=
  (Zcw.g b c a d).bind λy1=>
  W (y1.1,())
def g(a:I)(b:I)(c:I)(d:I):=f (1000+a.toNat+b.toNat+c.toNat+d.toNat) a b c d
end Zeh
namespace Zat
def l3(n:F):F->I->(J (I×I×I×X))->I->I->U (I×X)
 |0,_,_,_,_=>Y
 |m+1,a,b,c,d=>
  if(O (d<c)) then
  (if 0<=d/\d<(b.length:I) then
  (if 0<=(0:I)/\(0:I)<(3:I) then
  (if 0<=(1:I)/\(1:I)<(3:I) then
  (if 0<=(2:I)/\(2:I)<(3:I) then
  ((Zeh.g a ([(b.getD (d).toNat (0,(0,(0,())))).1,((b.getD (d).toNat (0,(0,(0,())))).2).1,(((b.getD (d).toNat (0,(0,(0,())))).2).2).1].getD ((0:I)).toNat 0) ([(b.getD (d).toNat (0,(0,(0,())))).1,((b.getD (d).toNat (0,(0,(0,())))).2).1,(((b.getD (d).toNat (0,(0,(0,())))).2).2).1].getD ((1:I)).toNat 0) (M.wrap ([(b.getD (d).toNat (0,(0,(0,())))).1,((b.getD (d).toNat (0,(0,(0,())))).2).1,(((b.getD (d).toNat (0,(0,(0,())))).2).2).1].getD ((2:I)).toNat 0))).bind λy1=>
  (Zat.l3 n m) y1.1 b c (S.wrap (d+1))) else Y) else Y) else Y) else Y)
  else(W (a,()))
def f(n:F)(a:J (I×I×I×X)):U (I×X):=
  Zat.l3 n n 0 a (a.length:I) 0
def g(a:J (I×I×I×X)):=f (1000+a.length) a
end Zat
namespace Zbk
def j14(n:F)(a:I)(b:I)(c:I)(d:I)(e:I)(i:I)(j:G)(k:I)(l:I)(o:I):U (I×X):=
  (Zbj.g 3 N j).bind λy1=>
  (Zat.g ([(y1.1,y1.2.1,y1.2.2.1,()),(k,l,o,()),(0,24,i,())]:J (I×I×I×X))).bind λy2=>
  W (y2.1,())
def f(n:F)(a:I)(b:I)(c:I)(d:I)(e:I)(i:I)(j:G):U (I×X):=
  if(O (a=1)) then
  ((Zbj.g 0 j Z).bind λy1=>
  (Zat.g ([(y1.1,y1.2.1,y1.2.2.1,()),(24,4,c,()),(20,4,d,()),(16,4,b,()),(0,4,e,())]:J (I×I×I×X))).bind λy2=>
  W (y2.1,()))
  else
  (if(O (a=3)) then
  (if(O (a=3)) then
  ((Zbj.g 0 N (O (a=(4:I)))).bind λy3=>
  (Zat.g ([(y3.1,y3.2.1,y3.2.2.1,()),(24,4,c,())]:J (I×I×I×X))).bind λy4=>
  W (y4.1,()))
  else
  (if(O (a=2)) then
  ((Zbj.g 1 j (O (i<(0:I)))).bind λy5=>
  (Zat.g ([(y5.1,y5.2.1,y5.2.2.1,()),(24,4,c,()),(20,4,d,()),(16,4,b,()),(0,16,i,())]:J (I×I×I×X))).bind λy6=>
  W (y6.1,()))
  else
  (if(O (a=5)) then
  ((Zbj.g 2 (O (2<=b)) (O ((Int.tmod b 2)=(1:I)))).bind λy7=>
  (Zat.g ([(y7.1,y7.2.1,y7.2.2.1,()),(24,4,c,()),(20,4,d,()),(0,20,i,())]:J (I×I×I×X))).bind λy8=>
  W (y8.1,()))
  else
  (if(O (a=6)) then
  ((Zbj.g 3 Z j).bind λy9=>
  (Zat.g ([(y9.1,y9.2.1,y9.2.2.1,()),(24,4,b,()),(0,4,e,())]:J (I×I×I×X))).bind λy10=>
  W (y10.1,()))
  else(Zbk.j14 n a b c d e i j 24 4 b)))))
  else
  (if(O (a=4)) then
  ((Zbj.g 0 N (O (a=(4:I)))).bind λy11=>
  (Zat.g ([(y11.1,y11.2.1,y11.2.2.1,()),(24,4,c,())]:J (I×I×I×X))).bind λy12=>
  W (y12.1,()))
  else
  (if(O (a=2)) then
  ((Zbj.g 1 j (O (i<(0:I)))).bind λy13=>
  (Zat.g ([(y13.1,y13.2.1,y13.2.2.1,()),(24,4,c,()),(20,4,d,()),(16,4,b,()),(0,16,i,())]:J (I×I×I×X))).bind λy14=>
  W (y14.1,()))
  else
  (if(O (a=5)) then
  ((Zbj.g 2 (O (2<=b)) (O ((Int.tmod b 2)=(1:I)))).bind λy15=>
  (Zat.g ([(y15.1,y15.2.1,y15.2.2.1,()),(24,4,c,()),(20,4,d,()),(0,20,i,())]:J (I×I×I×X))).bind λy16=>
  W (y16.1,()))
  else
  (if(O (a=6)) then
  ((Zbj.g 3 Z j).bind λy17=>
  (Zat.g ([(y17.1,y17.2.1,y17.2.2.1,()),(24,4,b,()),(0,4,e,())]:J (I×I×I×X))).bind λy18=>
  W (y18.1,()))
  else(Zbk.j14 n a b c d e i j 24 4 b))))))
def g(a:I)(b:I)(c:I)(d:I)(e:I)(i:I)(j:G):=f (1000+a.toNat+b.toNat+c.toNat+d.toNat+e.toNat+i.toNat) a b c d e i j
end Zbk
namespace Zan
def j10(n:F)(a:I)(b:I)(c:I)(d:I)(e:I)(i:I)(j:G):U (G×X):=
  if(!j)=Z then
  ((Zdb.g b 8 (10:I)).bind λy1=>
  W (y1.1,()))
  else(W (N,()))
def f(n:F)(a:I)(b:I)(c:I)(d:I)(e:I)(i:I)(j:G):U (G×X):=
  (Zdb.g a 1 (7:I)).bind λy1=>
  if(!y1.1)=Z then
  ((Zdb.g b 0 (15:I)).bind λy2=>
  if(!y2.1)=Z then
  ((Zbk.g a b c d e i j).bind λy3=>
  (Zbd.g y3.1).bind λy4=>
  if(!(O (a=y4.1)&&(O (b=y4.2.1)&&(O (c=y4.2.2.1)&&(O (d=y4.2.2.2.1)&&(O (e=y4.2.2.2.2.1)&&(O (i=y4.2.2.2.2.2.1)&&((j == y4.2.2.2.2.2.2.1)&&N)))))))) then(W (Z,()))
  else
  (if(O (a=1)) then
  (if(O (a=1)) then
  (if(O (b=0)) then
  (if(O (d=0)) then
  (if(O (a=2))=Z then
  (if(!j) then
  (if(!j)=Z then(W ((O (0<=i)),()))
  else(W (N,())))
  else(W (Z,())))
  else
  (if(!j)=Z then(W ((O (0<=i)),()))
  else(W (N,()))))
  else(W (Z,())))
  else
  (if(O (11<b)) then(W (Z,()))
  else(Zan.j10 n a b c d e i j)))
  else(W (N,())))
  else
  (if(O (a=2)) then
  (if(O (b=0)) then
  (if(O (d=0)) then
  (if(O (a=2))=Z then
  (if(!j) then
  (if(!j)=Z then(W ((O (0<=i)),()))
  else(W (N,())))
  else(W (Z,())))
  else
  (if(!j)=Z then(W ((O (0<=i)),()))
  else(W (N,()))))
  else(W (Z,())))
  else
  (if(O (11<b)) then(W (Z,()))
  else(Zan.j10 n a b c d e i j)))
  else(W (N,())))))
  else(W (Z,())))
  else(W (Z,()))
def g(a:I)(b:I)(c:I)(d:I)(e:I)(i:I)(j:G):=f (1000+a.toNat+b.toNat+c.toNat+d.toNat+e.toNat+i.toNat) a b c d e i j
end Zan
namespace Zcl
def f(n:F)(a:I):U (I×I×I×I×I×I×G×G×X):=
  (Zbd.g a).bind λy1=>
  (Zan.g y1.1 y1.2.1 y1.2.2.1 y1.2.2.2.1 y1.2.2.2.2.1 y1.2.2.2.2.2.1 y1.2.2.2.2.2.2.1).bind λy2=>
  if(!y2.1)=Z then
  ((Zbk.g y1.1 y1.2.1 y1.2.2.1 y1.2.2.2.1 y1.2.2.2.2.1 y1.2.2.2.2.2.1 y1.2.2.2.2.2.2.1).bind λy3=>
  if(O (y3.1≠a)) then(W (0,0,0,0,0,0,Z,Z,()))
  else
  (W (y1.1,y1.2.1,y1.2.2.1,y1.2.2.2.1,y1.2.2.2.2.1,y1.2.2.2.2.2.1,y1.2.2.2.2.2.2.1,N,())))
  else(W (0,0,0,0,0,0,Z,Z,()))
def g(a:I):=f (1000+a.toNat) a
end Zcl
namespace Zdq
def f(n:F)(a:I):U (G×X):=
  if(O (a=2)) then
  (if(O (a=2)) then(W (N,()))
  else(W (Z,())))
  else
  (if(O (a=5)) then
  (if(O (a=5)) then(W (N,()))
  else(W (Z,())))
  else
  (if(O (a=7)) then
  (if(O (a=7)) then(W (N,()))
  else(W (Z,())))
  else
  (if(O (a=8)) then
  (if(O (a=8)) then(W (N,()))
  else(W (Z,())))
  else
  (if(O (a=9)) then(W (N,()))
  else(W (Z,()))))))
def g(a:I):=f (1000+a.toNat) a
end Zdq
namespace Zal
def j12(n:F)(a:I)(b:I)(c:I)(d:I)(e:I)(i:I)(j:G):U (G×X):=
  (Zan.g a b c d e i j).bind λy1=>
  W (y1.1,())
def j4(n:F)(a:I)(b:I)(c:I)(d:I)(e:I)(i:G)(j:J It)(k:Str)(l:I)(o:I)(p:I)(q:I)(r:I)(s:I)(t:G):U (G×X):=
  if(O (a=0)) then
  (if(O (a=0)) then
  (W ((O (l=a)&&(O (o=0)&&(O (p=0)&&(O (q=0)&&(O (r=0)&&(O (s=0)&&((t == Z)&&N))))))),()))
  else
  (if(O (a=10)) then
  (if(O (l=a)&&(O (o=0)&&(O (p=0)&&(O (q=0)&&(O (r=0)&&(O (s=0)&&((t == Z)&&N))))))) then
  ((Zak.g k).bind λy1=>
  W (y1.1,()))
  else(W (Z,())))
  else
  (if(O (a=8)) then
  (if(O (l=a)&&(O (o=0)&&(O (p=c)&&(O (q=0)&&(O (r=0)&&(O (s=0)&&((t == Z)&&N))))))) then
  ((Zay.g c).bind λy2=>
  W ((!(O (y2.1=([]:Str)))),()))
  else(W (Z,())))
  else(Zal.j12 n l o p q r s t))))
  else
  (if(O (a=9)) then
  (W ((O (l=a)&&(O (o=0)&&(O (p=0)&&(O (q=0)&&(O (r=0)&&(O (s=0)&&((t == Z)&&N))))))),()))
  else
  (if(O (a=10)) then
  (if(O (l=a)&&(O (o=0)&&(O (p=0)&&(O (q=0)&&(O (r=0)&&(O (s=0)&&((t == Z)&&N))))))) then
  ((Zak.g k).bind λy3=>
  W (y3.1,()))
  else(W (Z,())))
  else
  (if(O (a=8)) then
  (if(O (l=a)&&(O (o=0)&&(O (p=c)&&(O (q=0)&&(O (r=0)&&(O (s=0)&&((t == Z)&&N))))))) then
  ((Zay.g c).bind λy4=>
  W ((!(O (y4.1=([]:Str)))),()))
  else(W (Z,())))
  else(Zal.j12 n l o p q r s t))))
def f(n:F)(a:I)(b:I)(c:I)(d:I)(e:I)(i:G)(j:J It)(k:Str):U (G×X):=
  (Zdq.g a).bind λy1=>
  if(!(y1.1 == (O ((0:I)<(j.length:I)))))=Z then
  ((Zdq.g a).bind λy2=>
  if y2.1 then
  ((Zbb.g j).bind λy3=>
  if(!y3.1)=Z then
  (if(!((O (a=10)) == (!(O (k=([]:Str)))))) then(W (Z,()))
  else(Zal.j4 n a b c d e i j k a b c d e 0 i))
  else(W (Z,())))
  else
  (if(!((O (a=10)) == (!(O (k=([]:Str)))))) then(W (Z,()))
  else(Zal.j4 n a b c d e i j k a b c d e 0 i)))
  else(W (Z,()))
def g(a:I)(b:I)(c:I)(d:I)(e:I)(i:G)(j:J It)(k:Str):=f (1000+a.toNat+b.toNat+c.toNat+d.toNat+e.toNat+j.length+k.length) a b c d e i j k
end Zal
namespace Zei
def f(n:F)(a:I):U (I×X):=
  if(O (a=2)) then(W (1,()))
  else
  (if(O (a=6)) then(W (7,()))
  else(W (a,())))
def g(a:I):=f (1000+a.toNat) a
end Zei
namespace Zdc
def f(n:F)(a:I):U (G×X):=
  if(O (a=9))=Z then(W ((O (a=10)),()))
  else(W (N,()))
def g(a:I):=f (1000+a.toNat) a
end Zdc
namespace Zdr
def f(n:F)(a:I)(b:I)(c:I)(d:I)(e:I)(i:G)(j:J It)(k:Str):U (X×I×I×I×I×I×G×(J It)×Str×X):=
  W ((),a,b,c,d,e,i,j,k,())
def g(a:I)(b:I)(c:I)(d:I)(e:I)(i:G)(j:J It)(k:Str):=f (1000+a.toNat+b.toNat+c.toNat+d.toNat+e.toNat+j.length+k.length) a b c d e i j k
end Zdr
namespace Zds
def f(n:F)(a:I)(b:I)(c:I)(d:I)(e:I)(i:G)(j:J It)(k:Str):U (X×I×I×I×I×I×G×(J It)×Str×X):=
  W ((),a,b,c,d,e,i,j,k,())
def g(a:I)(b:I)(c:I)(d:I)(e:I)(i:G)(j:J It)(k:Str):=f (1000+a.toNat+b.toNat+c.toNat+d.toNat+e.toNat+j.length+k.length) a b c d e i j k
end Zds
namespace Zdt
def f(n:F)(a:I)(b:I)(c:I)(d:I)(e:I)(i:G)(j:J It)(k:Str):U (X×I×I×I×I×I×G×(J It)×Str×X):=
  W ((),a,b,c,d,e,i,j,k,())
def g(a:I)(b:I)(c:I)(d:I)(e:I)(i:G)(j:J It)(k:Str):=f (1000+a.toNat+b.toNat+c.toNat+d.toNat+e.toNat+j.length+k.length) a b c d e i j k
end Zdt
namespace Zcb
def f(n:F)(a:I)(b:I)(c:I)(d:I)(e:I)(i:G)(j:J It)(k:Str)(l:Fn):U (Str×X):=
  if l=K.atA then((Zdr.g a b c d e i j k).bind λy1=>
  (Zay.g y1.2.2.2.1).bind λy2=>
  W (y2.1,()))
  else if l=K.atB then((Zds.g a b c d e i j k).bind λy3=>
  (Zay.g y3.2.2.2.2.1).bind λy4=>
  W (y4.1,()))
  else if l=K.atC then((Zdt.g a b c d e i j k).bind λy5=>
  (Zay.g y5.2.2.2.2.2.1).bind λy6=>
  W (y6.1,()))
  else Y
def g(a:I)(b:I)(c:I)(d:I)(e:I)(i:G)(j:J It)(k:Str)(l:Fn):=f (1000+a.toNat+b.toNat+c.toNat+d.toNat+e.toNat+j.length+k.length) a b c d e i j k l
end Zcb
namespace Zcm
def l1(n:F):F->Str->I->U (Str×X)
 |0,_,_=>Y
 |m+1,a,b=>
  if(O ((0:I)<(a.length:I))) then
  (if 0<=(0:I)/\(0:I)<(a.length:I) then
  (if(O ((bt a 0)=b)) then
  (if 0<=(1:I)/\(1:I)<=(a.length:I) then
  ((Zcm.l1 n m) ((a.take (((a.length:I)).toNat)).drop (((1:I)).toNat)) b) else Y)
  else(W (a,()))) else Y)
  else(W (a,()))
def f(n:F)(a:Str)(b:I):U (Str×X):=
  Zcm.l1 n n a b
def g(a:Str)(b:I):=f (1000+a.length+b.toNat) a b
end Zcm
namespace Zdd
def j5(n:F)(a:Str)(b:Str):U (Str×X):=
  Y
def f(n:F)(a:Str)(b:Str):U (Str×X):=
  if(O (a=([]:Str)))=Z then
  (if(O (b=([]:Str))) then(W (a,()))
  else
  (if(O ((b.length:I)=(1:I))) then
  (if 0<=(0:I)/\(0:I)<(b.length:I) then
  (if(O ((bt b 0)<128)) then
  (if 0<=(0:I)/\(0:I)<(b.length:I) then
  ((Zcm.g a (bt b (0:I))).bind λy1=>
  W (y1.1,())) else Y)
  else(Zdd.j5 n a b)) else Y)
  else(Zdd.j5 n a b)))
  else(W (a,()))
def g(a:Str)(b:Str):=f (1000+a.length+b.length) a b
end Zdd
namespace Zdu
def f(n:F)(a:I)(b:I)(c:I)(d:I)(e:I)(i:G)(j:J It)(k:Str)(l:Str):U (Str×X):=
  (Zaf.g j).bind λy1=>
  if l.length+([32]:Str).length<=9223372036854775807 then
  (if(l++([32]:Str)).length+y1.1.length<=9223372036854775807 then
  ((Zdd.g ((l++([32]:Str))++y1.1) ([32]:Str)).bind λy2=>
  W (y2.1,())) else Y) else Y
def g(a:I)(b:I)(c:I)(d:I)(e:I)(i:G)(j:J It)(k:Str)(l:Str):=f (1000+a.toNat+b.toNat+c.toNat+d.toNat+e.toNat+j.length+k.length+l.length) a b c d e i j k l
end Zdu
namespace Zfb
def f(n:F)(a:I)(b:I)(c:I)(d:I)(e:I)(i:G)(j:J It)(k:Str):U (Str×X):=
  W (k,())
def g(a:I)(b:I)(c:I)(d:I)(e:I)(i:G)(j:J It)(k:Str):=f (1000+a.toNat+b.toNat+c.toNat+d.toNat+e.toNat+j.length+k.length) a b c d e i j k
end Zfb
namespace Zad
def j15(n:F)(rl12:(J Str)->Str->(J Str)->(J (Fn×Fn×X))->I->I->I->I->I->I->I->G->(J It)->Str->U Sy)(a:J Str)(b:Str)(c:J Str)(d:J (Fn×Fn×X))(e:I)(i:I)(j:I)(k:I)(l:I)(o:I)(p:I)(q:G)(r:J It)(s:Str):U Sy:=
  rl12 a b c d e (S.wrap (i+1)) j k l o p q r s
def j17(n:F)(a:J Str):U Sy:=
  (L.sjoinO a ([32]:Str)).bind λy1=>
  W (y1.1,0,())
def l12(n:F):F->(J Str)->Str->(J Str)->(J (Fn×Fn×X))->I->I->I->I->I->I->I->G->(J It)->Str->U Sy
 |0,_,_,_,_,_,_,_,_,_,_,_,_,_,_=>Y
 |m+1,a,b,c,d,e,i,j,k,l,o,p,q,r,s=>
  if(O (i<e)) then
  (if 0<=i/\i<(d.length:I) then
  (if((d.getD (i).toNat (((0,[]):Fn),(((0,[]):Fn),()))).2).1=K.wrA then((Zcb.g j k l o p q r s K.atA).bind λy1=>
  if(c.length+([y1.1]:J Str).length)*16<=140737488355328/\0<16/\0<1 then
  (Zad.j15 n (Zad.l12 n m) a b (c++([y1.1]:J Str)) d e i j k l o p q r s) else Y)
  else if((d.getD (i).toNat (((0,[]):Fn),(((0,[]):Fn),()))).2).1=K.wrB then((Zcb.g j k l o p q r s K.atB).bind λy2=>
  if(c.length+([y2.1]:J Str).length)*16<=140737488355328/\0<16/\0<1 then
  (Zad.j15 n (Zad.l12 n m) a b (c++([y2.1]:J Str)) d e i j k l o p q r s) else Y)
  else if((d.getD (i).toNat (((0,[]):Fn),(((0,[]):Fn),()))).2).1=K.wrC then((Zcb.g j k l o p q r s K.atC).bind λy3=>
  if(c.length+([y3.1]:J Str).length)*16<=140737488355328/\0<16/\0<1 then
  (Zad.j15 n (Zad.l12 n m) a b (c++([y3.1]:J Str)) d e i j k l o p q r s) else Y)
  else if((d.getD (i).toNat (((0,[]):Fn),(((0,[]):Fn),()))).2).1=K.wrE then((Zdu.g j k l o p q r s ([]:Str)).bind λy4=>
  if(c.length+([y4.1]:J Str).length)*16<=140737488355328/\0<16/\0<1 then
  (Zad.j15 n (Zad.l12 n m) a b (c++([y4.1]:J Str)) d e i j k l o p q r s) else Y)
  else if((d.getD (i).toNat (((0,[]):Fn),(((0,[]):Fn),()))).2).1=K.wrQ then((Zdu.g j k l o p q r s ([61]:Str)).bind λy5=>
  if(c.length+([y5.1]:J Str).length)*16<=140737488355328/\0<16/\0<1 then
  (Zad.j15 n (Zad.l12 n m) a b (c++([y5.1]:J Str)) d e i j k l o p q r s) else Y)
  else if((d.getD (i).toNat (((0,[]):Fn),(((0,[]):Fn),()))).2).1=K.wrN then((Zfb.g j k l o p q r s).bind λy6=>
  if(c.length+([y6.1]:J Str).length)*16<=140737488355328/\0<16/\0<1 then
  (Zad.j15 n (Zad.l12 n m) a b (c++([y6.1]:J Str)) d e i j k l o p q r s) else Y)
  else Y) else Y)
  else
  ((L.sjoinO c ([44,32]:Str)).bind λy7=>
  if(a.length+([b,y7.1]:J Str).length)*16<=140737488355328/\0<16/\0<1 then(Zad.j17 n (a++([b,y7.1]:J Str))) else Y)
def j10(n:F)(a:J Str)(b:Str)(c:I)(d:I)(e:I)(i:I)(j:I)(k:G)(l:J It)(o:Str):U Sy:=
  Zad.l12 n n a b ([]) (L.opsR c d) ((L.opsR c d).length:I) 0 c d e i j k l o
def j6(n:F)(a:J Str)(b:I)(c:I)(d:I)(e:I)(i:I)(j:G)(k:J It)(l:Str):U Sy:=
  if(O (b≠0)) then
  ((Zei.g b).bind λy1=>
  (L.mnemO y1.1 c j).bind λy2=>
  (Zdc.g b).bind λy3=>
  if y3.1 then
  (if([46]:Str).length+y2.1.length<=9223372036854775807 then(Zad.j10 n a (([46]:Str)++y2.1) b c d e i j k l) else Y)
  else(Zad.j10 n a y2.1 b c d e i j k l))
  else(Zad.j17 n a)
def j3(n:F)(a:Str)(b:I)(c:I)(d:I)(e:I)(i:I)(j:G)(k:J It)(l:Str):U Sy:=
  if(!(O (a=([]:Str)))) then
  (if a.length+([58]:Str).length<=9223372036854775807 then
  (if(([]:J Str).length+([(a++([58]:Str))]:J Str).length)*16<=140737488355328/\0<16/\0<1 then
  (Zad.j6 n (([]:J Str)++([(a++([58]:Str))]:J Str)) b c d e i j k l) else Y) else Y)
  else(Zad.j6 n ([]) b c d e i j k l)
def f(n:F)(a:Str)(b:I)(c:I)(d:I)(e:I)(i:I)(j:G)(k:J It)(l:Str):U Sy:=
  if(!(O (a=([]:Str)))) then
  ((Zac.g a).bind λy1=>
  if(!y1.1)=Z then
  ((Zal.g b c d e i j k l).bind λy2=>
  if(!y2.1) then(W (([]:Str),22,()))
  else(Zad.j3 n a b c d e i j k l))
  else(W (([]:Str),22,())))
  else
  ((Zal.g b c d e i j k l).bind λy3=>
  if(!y3.1) then(W (([]:Str),22,()))
  else(Zad.j3 n a b c d e i j k l))
def g(a:Str)(b:I)(c:I)(d:I)(e:I)(i:I)(j:G)(k:J It)(l:Str):=f (1000+a.length+b.toNat+c.toNat+d.toNat+e.toNat+i.toNat+k.length+l.length) a b c d e i j k l
end Zad
namespace Zaw
def f(n:F)(a:G)(b:J Tk)(c:I)(d:I):U ((J Tk)×I×I×X):=
  if(!a) then
  (if(O (d=0)) then(W (b,c,22,()))
  else(W (b,c,d,())))
  else(W (b,c,d,()))
def g(a:G)(b:J Tk)(c:I)(d:I):=f (1000+b.length+c.toNat+d.toNat) a b c d
end Zaw
namespace Zde
def f(n:F)(a:I)(b:J Tk)(c:I)(d:I):U (Str×(J Tk)×I×I×X):=
  if(O (d≠0))=Z then
  (if(O ((b.length:I)<=c))=Z then
  (if 0<=c/\c<(b.length:I) then
  (if(O ((b.getD (c).toNat zT).1≠a)) then(W (([]:Str),b,c,d,()))
  else
  (if 0<=c/\c<(b.length:I) then
  (W ((((b.getD (c).toNat zT).2).2).1,b,c,d,())) else Y)) else Y)
  else(W (([]:Str),b,c,d,())))
  else(W (([]:Str),b,c,d,()))
def g(a:I)(b:J Tk)(c:I)(d:I):=f (1000+a.toNat+b.length+c.toNat+d.toNat) a b c d
end Zde
namespace Zbw
def f(n:F)(a:I)(b:J Tk)(c:I)(d:I):U (Str×(J Tk)×I×I×X):=
  (Zde.g a b c d).bind λy1=>
  W (y1.1,y1.2.1,(S.wrap (y1.2.2.1+1)),y1.2.2.2.1,())
def g(a:I)(b:J Tk)(c:I)(d:I):=f (1000+a.toNat+b.length+c.toNat+d.toNat) a b c d
end Zbw
namespace Zej
def f(n:F)(a:J Tk)(b:I)(c:I)(d:I)(e:I)(i:I)(j:I)(k:I)(l:G)(o:J It)(p:Str):U ((J Tk)×I×I×I×I×I×I×I×G×(J It)×Str×X):=
  (Zde.g 1 a b c).bind λy1=>
  (Zce.g y1.1).bind λy2=>
  if(O (d=1)) then
  (if(!y2.2.1)=Z then
  (if l then
  (if(O (e=0)) then
  (W (y1.2.1,y1.2.2.1,y1.2.2.2.1,2,e,i,j,k,l,o,p,()))
  else
  (if(O (d=7)) then
  (if y2.2.1 then
  (W (y1.2.1,y1.2.2.1,y1.2.2.2.1,6,e,i,j,k,l,o,p,()))
  else
  (W (y1.2.1,y1.2.2.1,y1.2.2.2.1,d,e,i,j,k,l,o,p,())))
  else
  (W (y1.2.1,y1.2.2.1,y1.2.2.2.1,d,e,i,j,k,l,o,p,()))))
  else
  (if(O (d=7)) then
  (if y2.2.1 then
  (W (y1.2.1,y1.2.2.1,y1.2.2.2.1,6,e,i,j,k,l,o,p,()))
  else
  (W (y1.2.1,y1.2.2.1,y1.2.2.2.1,d,e,i,j,k,l,o,p,())))
  else
  (W (y1.2.1,y1.2.2.1,y1.2.2.2.1,d,e,i,j,k,l,o,p,()))))
  else
  (W (y1.2.1,y1.2.2.1,y1.2.2.2.1,2,e,i,j,k,l,o,p,())))
  else
  (if(O (d=7)) then
  (if y2.2.1 then
  (W (y1.2.1,y1.2.2.1,y1.2.2.2.1,6,e,i,j,k,l,o,p,()))
  else
  (W (y1.2.1,y1.2.2.1,y1.2.2.2.1,d,e,i,j,k,l,o,p,())))
  else
  (W (y1.2.1,y1.2.2.1,y1.2.2.2.1,d,e,i,j,k,l,o,p,())))
def g(a:J Tk)(b:I)(c:I)(d:I)(e:I)(i:I)(j:I)(k:I)(l:G)(o:J It)(p:Str):=f (1000+a.length+b.toNat+c.toNat+d.toNat+e.toNat+i.toNat+j.toNat+k.toNat+o.length+p.length) a b c d e i j k l o p
end Zej
namespace Zdf
def f(n:F)(a:Fn)(b:J Tk)(c:I)(d:I)(e:I)(i:I)(j:I)(k:I)(l:I)(o:G)(p:J It)(q:Str):U ((J Tk)×I×I×I×I×I×I×I×G×(J It)×Str×X):=
  (Zbw.g 1 b c d).bind λy1=>
  (Zce.g y1.1).bind λy2=>
  (Zaw.g y2.2.1 y1.2.1 y1.2.2.1 y1.2.2.2.1).bind λy3=>
  if a=K.atA then((Zdr.g e i j k l o p q).bind λy4=>
  W (y3.1,y3.2.1,y3.2.2.1,y4.2.1,y4.2.2.1,y2.1,y4.2.2.2.2.1,y4.2.2.2.2.2.1,y4.2.2.2.2.2.2.1,y4.2.2.2.2.2.2.2.1,y4.2.2.2.2.2.2.2.2.1,()))
  else if a=K.atB then((Zds.g e i j k l o p q).bind λy5=>
  W (y3.1,y3.2.1,y3.2.2.1,y5.2.1,y5.2.2.1,y5.2.2.2.1,y2.1,y5.2.2.2.2.2.1,y5.2.2.2.2.2.2.1,y5.2.2.2.2.2.2.2.1,y5.2.2.2.2.2.2.2.2.1,()))
  else if a=K.atC then((Zdt.g e i j k l o p q).bind λy6=>
  W (y3.1,y3.2.1,y3.2.2.1,y6.2.1,y6.2.2.1,y6.2.2.2.1,y6.2.2.2.2.1,y2.1,y6.2.2.2.2.2.2.1,y6.2.2.2.2.2.2.2.1,y6.2.2.2.2.2.2.2.2.1,()))
  else Y
def g(a:Fn)(b:J Tk)(c:I)(d:I)(e:I)(i:I)(j:I)(k:I)(l:I)(o:G)(p:J It)(q:Str):=f (1000+b.length+c.toNat+d.toNat+e.toNat+i.toNat+j.toNat+k.toNat+l.toNat+p.length+q.length) a b c d e i j k l o p q
end Zdf
namespace Zbl
def j2(n:F)(a:J Tk)(b:I)(c:I)(d:I)(e:I)(i:I)(j:I)(k:I)(l:G)(o:J It)(p:Str):U ((J Tk)×I×I×I×I×I×I×I×G×(J It)×Str×X):=
  if(O (c=0)) then
  ((Zau.g a b).bind λy1=>
  W (a,y1.2.1,y1.2.2.1,d,e,i,j,k,l,y1.1,p,()))
  else(W (a,b,c,d,e,i,j,k,l,o,p,()))
def f(n:F)(a:Str)(b:J Tk)(c:I)(d:I)(e:I)(i:I)(j:I)(k:I)(l:I)(o:G)(p:J It)(q:Str):U ((J Tk)×I×I×I×I×I×I×I×G×(J It)×Str×X):=
  if(!(O (a=([]:Str)))) then
  ((Zbw.g 3 b c d).bind λy1=>
  (Zaw.g (O (y1.1=a)) y1.2.1 y1.2.2.1 y1.2.2.2.1).bind λy2=>
  Zbl.j2 n y2.1 y2.2.1 y2.2.2.1 e i j k l o p q)
  else(Zbl.j2 n b c d e i j k l o p q)
def g(a:Str)(b:J Tk)(c:I)(d:I)(e:I)(i:I)(j:I)(k:I)(l:I)(o:G)(p:J It)(q:Str):=f (1000+a.length+b.length+c.toNat+d.toNat+e.toNat+i.toNat+j.toNat+k.toNat+l.toNat+p.length+q.length) a b c d e i j k l o p q
end Zbl
namespace Zek
def f(n:F)(a:J Tk)(b:I)(c:I)(d:I)(e:I)(i:I)(j:I)(k:I)(l:G)(o:J It)(p:Str):U ((J Tk)×I×I×I×I×I×I×I×G×(J It)×Str×X):=
  (Zbw.g 1 a b c).bind λy1=>
  (Zak.g y1.1).bind λy2=>
  (Zaw.g y2.1 y1.2.1 y1.2.2.1 y1.2.2.2.1).bind λy3=>
  W (y3.1,y3.2.1,y3.2.2.1,d,e,i,j,k,l,o,y1.1,())
def g(a:J Tk)(b:I)(c:I)(d:I)(e:I)(i:I)(j:I)(k:I)(l:G)(o:J It)(p:Str):=f (1000+a.length+b.toNat+c.toNat+d.toNat+e.toNat+i.toNat+j.toNat+k.toNat+o.length+p.length) a b c d e i j k l o p
end Zek
namespace Zab
def j20(n:F)(rl13:(J Tk)->Str->I->I->I->I->I->I->I->I->I->G->(J It)->Str->(J Tk)->I->I->U (Str×I×I×I×I×I×G×(J It)×Str×I×X))(a:J Tk)(b:Str)(c:I)(d:I)(e:I)(i:I)(j:I)(k:I)(l:I)(o:I)(p:I)(q:G)(r:J It)(s:Str)(t:J Tk)(u:I)(v:I):U (Str×I×I×I×I×I×G×(J It)×Str×I×X):=
  rl13 a b c d e (S.wrap (i+1)) j k l o p q r s t u v
def j19(n:F)(rl13:(J Tk)->Str->I->I->I->I->I->I->I->I->I->G->(J It)->Str->(J Tk)->I->I->U (Str×I×I×I×I×I×G×(J It)×Str×I×X))(a:J Tk)(b:Str)(c:I)(d:I)(e:I)(i:I)(j:I)(k:I)(l:I)(o:I)(p:I)(q:I)(r:G)(s:J It)(t:Str)(u:J Tk)(v:I)(w:I):U (Str×I×I×I×I×I×G×(J It)×Str×I×X):=
  if 0<=e/\e<((L.opsR k c).length:I) then
  (if((L.opsR k c).getD (e).toNat (((0,[]):Fn),(((0,[]):Fn),()))).1=K.rdA then((Zdf.g K.atA u v w k l o p q r s t).bind λy2=>
  Zab.j20 n rl13 a b c d i j y2.2.2.2.1 y2.2.2.2.2.1 y2.2.2.2.2.2.1 y2.2.2.2.2.2.2.1 y2.2.2.2.2.2.2.2.1 y2.2.2.2.2.2.2.2.2.1 y2.2.2.2.2.2.2.2.2.2.1 y2.2.2.2.2.2.2.2.2.2.2.1 y2.1 y2.2.1 y2.2.2.1)
  else if((L.opsR k c).getD (e).toNat (((0,[]):Fn),(((0,[]):Fn),()))).1=K.rdB then((Zdf.g K.atB u v w k l o p q r s t).bind λy3=>
  Zab.j20 n rl13 a b c d i j y3.2.2.2.1 y3.2.2.2.2.1 y3.2.2.2.2.2.1 y3.2.2.2.2.2.2.1 y3.2.2.2.2.2.2.2.1 y3.2.2.2.2.2.2.2.2.1 y3.2.2.2.2.2.2.2.2.2.1 y3.2.2.2.2.2.2.2.2.2.2.1 y3.1 y3.2.1 y3.2.2.1)
  else if((L.opsR k c).getD (e).toNat (((0,[]):Fn),(((0,[]):Fn),()))).1=K.rdC then((Zdf.g K.atC u v w k l o p q r s t).bind λy4=>
  Zab.j20 n rl13 a b c d i j y4.2.2.2.1 y4.2.2.2.2.1 y4.2.2.2.2.2.1 y4.2.2.2.2.2.2.1 y4.2.2.2.2.2.2.2.1 y4.2.2.2.2.2.2.2.2.1 y4.2.2.2.2.2.2.2.2.2.1 y4.2.2.2.2.2.2.2.2.2.2.1 y4.1 y4.2.1 y4.2.2.1)
  else if((L.opsR k c).getD (e).toNat (((0,[]):Fn),(((0,[]):Fn),()))).1=K.rdE then((Zbl.g ([]:Str) u v w k l o p q r s t).bind λy5=>
  Zab.j20 n rl13 a b c d i j y5.2.2.2.1 y5.2.2.2.2.1 y5.2.2.2.2.2.1 y5.2.2.2.2.2.2.1 y5.2.2.2.2.2.2.2.1 y5.2.2.2.2.2.2.2.2.1 y5.2.2.2.2.2.2.2.2.2.1 y5.2.2.2.2.2.2.2.2.2.2.1 y5.1 y5.2.1 y5.2.2.1)
  else if((L.opsR k c).getD (e).toNat (((0,[]):Fn),(((0,[]):Fn),()))).1=K.rdQ then((Zbl.g ([61]:Str) u v w k l o p q r s t).bind λy6=>
  Zab.j20 n rl13 a b c d i j y6.2.2.2.1 y6.2.2.2.2.1 y6.2.2.2.2.2.1 y6.2.2.2.2.2.2.1 y6.2.2.2.2.2.2.2.1 y6.2.2.2.2.2.2.2.2.1 y6.2.2.2.2.2.2.2.2.2.1 y6.2.2.2.2.2.2.2.2.2.2.1 y6.1 y6.2.1 y6.2.2.1)
  else if((L.opsR k c).getD (e).toNat (((0,[]):Fn),(((0,[]):Fn),()))).1=K.rdN then((Zek.g u v w k l o p q r s t).bind λy7=>
  Zab.j20 n rl13 a b c d i j y7.2.2.2.1 y7.2.2.2.2.1 y7.2.2.2.2.2.1 y7.2.2.2.2.2.2.1 y7.2.2.2.2.2.2.2.1 y7.2.2.2.2.2.2.2.2.1 y7.2.2.2.2.2.2.2.2.2.1 y7.2.2.2.2.2.2.2.2.2.2.1 y7.1 y7.2.1 y7.2.2.1)
  else Y) else Y
def j17(n:F)(rl13:(J Tk)->Str->I->I->I->I->I->I->I->I->I->G->(J It)->Str->(J Tk)->I->I->U (Str×I×I×I×I×I×G×(J It)×Str×I×X))(a:J Tk)(b:Str)(c:I)(d:I)(e:I)(i:I)(j:I)(k:I)(l:I)(o:I)(p:I)(q:I)(r:G)(s:J It)(t:Str)(u:J Tk)(v:I)(w:I):U (Str×I×I×I×I×I×G×(J It)×Str×I×X):=
  if(O (e=(S.wrap (d-1)))) then
  ((Zej.g u v w k l o p q r s t).bind λy1=>
  Zab.j19 n rl13 a b c d e i j y1.2.2.2.1 y1.2.2.2.2.1 y1.2.2.2.2.2.1 y1.2.2.2.2.2.2.1 y1.2.2.2.2.2.2.2.1 y1.2.2.2.2.2.2.2.2.1 y1.2.2.2.2.2.2.2.2.2.1 y1.2.2.2.2.2.2.2.2.2.2.1 y1.1 y1.2.1 y1.2.2.1)
  else(Zab.j19 n rl13 a b c d e i j k l o p q r s t u v w)
def j22(n:F)(a:Str)(b:I)(c:I)(d:I)(e:I)(i:I)(j:G)(k:J It)(l:Str)(o:J Tk)(p:I)(q:I):U (Str×I×I×I×I×I×G×(J It)×Str×I×X):=
  if(O (q≠0)) then
  (W (([]:Str),0,0,0,0,0,Z,[],([]:Str),q,()))
  else(W (a,b,c,d,e,i,j,k,l,0,()))
def l13(n:F):F->(J Tk)->Str->I->I->I->I->I->I->I->I->I->G->(J It)->Str->(J Tk)->I->I->U (Str×I×I×I×I×I×G×(J It)×Str×I×X)
 |0,_,_,_,_,_,_,_,_,_,_,_,_,_,_,_,_,_=>Y
 |m+1,a,b,c,d,e,i,j,k,l,o,p,q,r,s,t,u,v=>
  if(O (i<e)) then
  (if(O (0<i)) then
  ((Zbw.g 3 t u v).bind λy1=>
  (Zaw.g (O (y1.1=([44]:Str))) y1.2.1 y1.2.2.1 y1.2.2.2.1).bind λy2=>
  Zab.j17 n (Zab.l13 n m) a b c d i e i j k l o p q r s y2.1 y2.2.1 y2.2.2.1)
  else
  (Zab.j17 n (Zab.l13 n m) a b c d i e i j k l o p q r s t u v))
  else
  ((Zaw.g (O ((a.length:I)<=u)) t u v).bind λy3=>
  Zab.j22 n b j k l o p q r s y3.1 y3.2.1 y3.2.2.1)
def j9(n:F)(a:J Tk)(b:Str)(c:I)(d:I)(e:G)(i:I)(j:I)(k:I)(l:I)(o:I)(p:G)(q:J It)(r:Str)(s:J Tk)(t:I)(u:I):U (Str×I×I×I×I×I×G×(J It)×Str×I×X):=
  Zab.l13 n n a b d ((L.opsR c d).length:I) ((L.opsR c d).length:I) 0 c d 0 0 0 e ([]) ([]:Str) s (S.wrap (t+1)) u
def j5(n:F)(a:J Tk)(b:Str)(c:I)(d:I)(e:I)(i:I)(j:I)(k:G)(l:J It)(o:Str)(p:J Tk)(q:I)(r:I):U (Str×I×I×I×I×I×G×(J It)×Str×I×X):=
  if(O (r=0)) then
  (if(O (q<(a.length:I))) then
  (if 0<=q/\q<(a.length:I) then
  ((L.nameOfO ((((a.getD (q).toNat zT).2).2).1)).bind λy1=>
  if y1.2.2.2.1 then
  ((Zdc.g y1.1).bind λy2=>
  if((O ((a.getD (q).toNat zT).1=4)) == y2.1) then
  (if(O ((a.getD (q).toNat zT).1=4))=Z then
  ((Zaw.g (O ((a.getD (q).toNat zT).1=1)) p q r).bind λy3=>
  Zab.j9 n a b y1.1 y1.2.1 y1.2.2.1 c d e i j k l o y3.1 y3.2.1 y3.2.2.1)
  else
  ((Zaw.g N p q r).bind λy4=>
  Zab.j9 n a b y1.1 y1.2.1 y1.2.2.1 c d e i j k l o y4.1 y4.2.1 y4.2.2.1))
  else
  ((Zaw.g Z p q r).bind λy5=>
  Zab.j9 n a b y1.1 y1.2.1 y1.2.2.1 c d e i j k l o y5.1 y5.2.1 y5.2.2.1))
  else
  ((Zaw.g Z p q r).bind λy6=>
  Zab.j9 n a b y1.1 y1.2.1 y1.2.2.1 c d e i j k l o y6.1 y6.2.1 y6.2.2.1)) else Y)
  else(Zab.j22 n b c d e i j k l o p q r))
  else(Zab.j22 n b c d e i j k l o p q r)
def f(n:F)(a:J Tk):U (Str×I×I×I×I×I×G×(J It)×Str×I×X):=
  if(O ((1:I)<(a.length:I))) then
  (if 0<=(0:I)/\(0:I)<(a.length:I) then
  (if(O ((a.getD ((0:I)).toNat zT).1=1)) then
  (if 0<=(1:I)/\(1:I)<(a.length:I) then
  (if(O ((a.getD ((1:I)).toNat zT).1=3)) then
  (if 0<=(1:I)/\(1:I)<(a.length:I) then
  (if(O ((((a.getD ((1:I)).toNat zT).2).2).1=([58]:Str))) then
  (if 0<=(0:I)/\(0:I)<(a.length:I) then
  ((Zac.g ((((a.getD ((0:I)).toNat zT).2).2).1)).bind λy1=>
  (Zaw.g y1.1 a 2 0).bind λy2=>
  Zab.j5 n a ((((a.getD ((0:I)).toNat zT).2).2).1) 0 0 0 0 0 Z ([]) ([]:Str) y2.1 y2.2.1 y2.2.2.1) else Y)
  else
  (Zab.j5 n a ([]:Str) 0 0 0 0 0 Z ([]) ([]:Str) a 0 0)) else Y)
  else
  (Zab.j5 n a ([]:Str) 0 0 0 0 0 Z ([]) ([]:Str) a 0 0)) else Y)
  else
  (Zab.j5 n a ([]:Str) 0 0 0 0 0 Z ([]) ([]:Str) a 0 0)) else Y)
  else
  (Zab.j5 n a ([]:Str) 0 0 0 0 0 Z ([]) ([]:Str) a 0 0)
def g(a:J Tk):=f (1000+a.length) a
end Zab
namespace Zdg
def f(n:F)(a:I)(b:I)(c:I)(d:I)(e:I)(i:I)(j:G):U (I×I×X):=
  (Zan.g a b c d e i j).bind λy1=>
  if(!y1.1) then(W (0,1,()))
  else
  ((Zbk.g a b c d e i j).bind λy2=>
  W (y2.1,0,()))
def g(a:I)(b:I)(c:I)(d:I)(e:I)(i:I)(j:G):=f (1000+a.toNat+b.toNat+c.toNat+d.toNat+e.toNat+i.toNat) a b c d e i j
end Zdg
end Rv
namespace Rv
open Go
set_option maxRecDepth 100000
namespace Zel
def f(n:F)(a:I)(b:I)(c:I)(d:I)(e:I)(i:G)(j:J It)(k:Str):U (I×I×I×I×I×I×G×X):=
  W (a,b,c,d,e,0,i,())
def g(a:I)(b:I)(c:I)(d:I)(e:I)(i:G)(j:J It)(k:Str):=f (1000+a.toNat+b.toNat+c.toNat+d.toNat+e.toNat+j.length+k.length) a b c d e i j k
end Zel
namespace Zem
def f(n:F)(a:I)(b:I)(c:I)(d:I)(e:I)(i:G)(j:J It)(k:Str)(l:I)(o:I)(p:I)(q:I)(r:I)(s:G)(t:J It)(u:Str):U (G×X):=
  (Zel.g a b c d e i j k).bind λy1=>
  (Zel.g l o p q r s t u).bind λy2=>
  if(O (y1.1=y2.1)&&(O (y1.2.1=y2.2.1)&&(O (y1.2.2.1=y2.2.2.1)&&(O (y1.2.2.2.1=y2.2.2.2.1)&&(O (y1.2.2.2.2.1=y2.2.2.2.2.1)&&(O (y1.2.2.2.2.2.1=y2.2.2.2.2.2.1)&&((y1.2.2.2.2.2.2.1 == y2.2.2.2.2.2.2.1)&&N))))))) then
  ((Zck.g j t).bind λy3=>
  if y3.1 then(W ((O (k=u)),()))
  else(W (Z,())))
  else(W (Z,()))
def g(a:I)(b:I)(c:I)(d:I)(e:I)(i:G)(j:J It)(k:Str)(l:I)(o:I)(p:I)(q:I)(r:I)(s:G)(t:J It)(u:Str):=f (1000+a.toNat+b.toNat+c.toNat+d.toNat+e.toNat+j.length+k.length+l.toNat+o.toNat+p.toNat+q.toNat+r.toNat+t.length+u.length) a b c d e i j k l o p q r s t u
end Zem
end Rv
namespace Rv
open Go
set_option maxRecDepth 100000
namespace Zen
def f(n:F)(a:Str)(b:I)(c:I)(d:I)(e:I)(i:I)(j:G)(k:J It)(l:Str):U Sy:=
  (Zad.g a b c d e i j k l).bind λy1=>
  W (y1.1,y1.2.1,())
def g(a:Str)(b:I)(c:I)(d:I)(e:I)(i:I)(j:G)(k:J It)(l:Str):=f (1000+a.length+b.toNat+c.toNat+d.toNat+e.toNat+i.toNat+k.length+l.length) a b c d e i j k l
end Zen
namespace Zcx
def l5(n:F):F->(J Str)->(J Ln)->I->I->U ((J Str)×I×I×X)
 |0,_,_,_,_=>Y
 |m+1,a,b,c,d=>
  if(O (d<c)) then
  (if 0<=d/\d<(b.length:I) then
  ((Zen.g ((b.getD (d).toNat zL).1) ((((b.getD (d).toNat zL).2).1).1) (((((b.getD (d).toNat zL).2).1).2).1) ((((((b.getD (d).toNat zL).2).1).2).2).1) (((((((b.getD (d).toNat zL).2).1).2).2).2).1) ((((((((b.getD (d).toNat zL).2).1).2).2).2).2).1) (((((((((b.getD (d).toNat zL).2).1).2).2).2).2).2).1) ((((((((((b.getD (d).toNat zL).2).1).2).2).2).2).2).2).1) (((((((((((b.getD (d).toNat zL).2).1).2).2).2).2).2).2).2).1)).bind λy1=>
  if(O (y1.2.1≠0)) then(W ([],(S.wrap (d+1)),y1.2.1,()))
  else
  (if(a.length+([y1.1]:J Str).length)*16<=140737488355328/\0<16/\0<1 then
  ((Zcx.l5 n m) (a++([y1.1]:J Str)) b c (S.wrap (d+1))) else Y)) else Y)
  else(W (a,0,0,()))
def f(n:F)(a:J Ln):U ((J Str)×I×I×X):=
  if(O ((4096:I)<(a.length:I))) then(W ([],0,2,()))
  else
  (Zcx.l5 n n ([]) a (a.length:I) 0)
def g(a:J Ln):=f (1000+a.length) a
end Zcx
namespace Zdv
def f(n:F)(a:J Ln):U (Str×I×I×X):=
  (Zcx.g a).bind λy1=>
  if(O (y1.2.2.1≠0)) then(W (([]:Str),y1.2.1,y1.2.2.1,()))
  else
  (if(y1.1.length+([([]:Str)]:J Str).length)*16<=140737488355328/\0<16/\0<1 then
  ((L.sjoinO (y1.1++([([]:Str)]:J Str)) ([10]:Str)).bind λy2=>
  W (y2.1,0,0,())) else Y)
def g(a:J Ln):=f (1000+a.length) a
end Zdv
namespace Zeo
def f(n:F)(a:Str):U (Str×I×I×I×I×I×G×(J It)×Str×I×X):=
  (Zah.g a).bind λy1=>
  if(O (y1.2.1≠0)) then
  (W (([]:Str),0,0,0,0,0,Z,[],([]:Str),y1.2.1,()))
  else
  ((Zab.g y1.1).bind λy2=>
  W (y2.1,y2.2.1,y2.2.2.1,y2.2.2.2.1,y2.2.2.2.2.1,y2.2.2.2.2.2.1,y2.2.2.2.2.2.2.1,y2.2.2.2.2.2.2.2.1,y2.2.2.2.2.2.2.2.2.1,y2.2.2.2.2.2.2.2.2.2.1,()))
def g(a:Str):=f (1000+a.length) a
end Zeo
namespace Zcn
def l5(n:F):F->(J Ln)->(J Str)->I->I->U ((J Ln)×I×I×X)
 |0,_,_,_,_=>Y
 |m+1,a,b,c,d=>
  if(O (d<c)) then
  (if 0<=d/\d<(b.length:I) then
  ((Zeo.g (b.getD (d).toNat ([]:Str))).bind λy1=>
  if(O (y1.2.2.2.2.2.2.2.2.2.1≠0)) then
  (W ([],(S.wrap (d+1)),y1.2.2.2.2.2.2.2.2.2.1,()))
  else
  (if(a.length+([(y1.1,(y1.2.1,y1.2.2.1,y1.2.2.2.1,y1.2.2.2.2.1,y1.2.2.2.2.2.1,y1.2.2.2.2.2.2.1,y1.2.2.2.2.2.2.2.1,y1.2.2.2.2.2.2.2.2.1,()),())]:J Ln).length)*104<=140737488355328/\0<104/\0<9 then
  ((Zcn.l5 n m) (a++([(y1.1,(y1.2.1,y1.2.2.1,y1.2.2.2.1,y1.2.2.2.2.1,y1.2.2.2.2.2.1,y1.2.2.2.2.2.2.1,y1.2.2.2.2.2.2.2.1,y1.2.2.2.2.2.2.2.2.1,()),())]:J Ln)) b c (S.wrap (d+1))) else Y)) else Y)
  else(W (a,0,0,()))
def f(n:F)(a:J Str):U ((J Ln)×I×I×X):=
  if(O ((4096:I)<(a.length:I))) then(W ([],0,2,()))
  else
  (Zcn.l5 n n ([]) a (a.length:I) 0)
def g(a:J Str):=f (1000+a.length) a
end Zcn
namespace Zbm
def j7(n:F)(a:J Str):U ((J Ln)×I×I×X):=
  (Zcn.g a).bind λy1=>
  W (y1.1,y1.2.1,y1.2.2.1,())
def f(n:F)(a:Str):U ((J Ln)×I×I×X):=
  if(O ((262144:I)<(a.length:I))) then(W ([],0,2,()))
  else
  ((L.splitO a ([10]:Str)).bind λy1=>
  if 0<=(S.wrap ((y1.1.length:I)-1))/\(S.wrap ((y1.1.length:I)-1))<(y1.1.length:I) then
  (if(O ((y1.1.getD ((S.wrap ((y1.1.length:I)-(1:I)))).toNat ([]:Str))=([]:Str))) then
  (if 0<=(S.wrap ((y1.1.length:I)-1))/\(S.wrap ((y1.1.length:I)-1))<=(y1.1.length:I) then
  (Zbm.j7 n ((y1.1.take (((S.wrap ((y1.1.length:I)-(1:I)))).toNat)).drop 0)) else Y)
  else(Zbm.j7 n y1.1)) else Y)
def g(a:Str):=f (1000+a.length) a
end Zbm
namespace Zcc
def l4(n:F):F->(J Ln)->(J Ln)->I->U (G×X)
 |0,_,_,_=>Y
 |m+1,a,b,c=>
  if(O (c<(a.length:I))) then
  (if 0<=c/\c<(a.length:I) then
  (if 0<=c/\c<(b.length:I) then
  ((Zem.g ((((a.getD (c).toNat zL).2).1).1) (((((a.getD (c).toNat zL).2).1).2).1) ((((((a.getD (c).toNat zL).2).1).2).2).1) (((((((a.getD (c).toNat zL).2).1).2).2).2).1) ((((((((a.getD (c).toNat zL).2).1).2).2).2).2).1) (((((((((a.getD (c).toNat zL).2).1).2).2).2).2).2).1) ((((((((((a.getD (c).toNat zL).2).1).2).2).2).2).2).2).1) (((((((((((a.getD (c).toNat zL).2).1).2).2).2).2).2).2).2).1) ((((b.getD (c).toNat zL).2).1).1) (((((b.getD (c).toNat zL).2).1).2).1) ((((((b.getD (c).toNat zL).2).1).2).2).1) (((((((b.getD (c).toNat zL).2).1).2).2).2).1) ((((((((b.getD (c).toNat zL).2).1).2).2).2).2).1) (((((((((b.getD (c).toNat zL).2).1).2).2).2).2).2).1) ((((((((((b.getD (c).toNat zL).2).1).2).2).2).2).2).2).1) (((((((((((b.getD (c).toNat zL).2).1).2).2).2).2).2).2).2).1)).bind λy1=>
  if(!y1.1)=Z then
  (if 0<=c/\c<(a.length:I) then
  (if 0<=c/\c<(b.length:I) then
  (if(!(O ((a.getD (c).toNat zL).1=(b.getD (c).toNat zL).1))) then(W (Z,()))
  else
  ((Zcc.l4 n m) a b (S.wrap (c+1)))) else Y) else Y)
  else(W (Z,()))) else Y) else Y)
  else(W (N,()))
def f(n:F)(a:J Ln)(b:J Ln):U (G×X):=
  if(O ((a.length:I)≠(b.length:I))) then(W (Z,()))
  else(Zcc.l4 n n a b 0)
def g(a:J Ln)(b:J Ln):=f (1000+a.length+b.length) a b
end Zcc
end Rv
namespace Rv
open Go
set_option maxRecDepth 100000
namespace Zbn
def j4(n:F)(rl3:(J I)->I->(J I)->I->U ((J I)×X))(a:J I)(b:I)(c:J I)(d:I):U ((J I)×X):=
  rl3 a b c (S.wrap (d+1))
def l3(n:F):F->(J I)->I->(J I)->I->U ((J I)×X)
 |0,_,_,_,_=>Y
 |m+1,a,b,c,d=>
  if(O (d<b)) then
  (if(O (d<(a.length:I))) then
  (if 0<=d/\d<(a.length:I) then
  (if(O ((bn .and .u8 (a.getD (d).toNat 0) 1)=1)) then
  (if(c.length+([d]:J I).length)*8<=140737488355328/\0<8/\0<1 then
  (Zbn.j4 n (Zbn.l3 n m) a b (c++([d]:J I)) d) else Y)
  else(Zbn.j4 n (Zbn.l3 n m) a b c d)) else Y)
  else(W (c,())))
  else(W (c,()))
def f(n:F)(a:J I)(b:I):U ((J I)×X):=
  Zbn.l3 n n a b ([]:J I) 0
def g(a:J I)(b:I):=f (1000+a.length+b.toNat) a b
end Zbn
namespace Zep
def f(n:F)(a:I)(b:I)(c:I)(d:I)(e:I)(i:G)(j:J It)(k:Str):U (I×X):=
  if(O (a=0)) then
  (if(O (a=0)) then(W (0,()))
  else(W (1,())))
  else
  (if(O (a=10)) then(W (0,()))
  else(W (1,())))
def g(a:I)(b:I)(c:I)(d:I)(e:I)(i:G)(j:J It)(k:Str):=f (1000+a.toNat+b.toNat+c.toNat+d.toNat+e.toNat+j.length+k.length) a b c d e i j k
end Zep
namespace Zcy
def j7(n:F)(a:J I)(b:J Sy)(c:J (I×I×X))(d:I)(e:I)(i:Str)(j:I)(k:I)(l:I)(o:I)(p:I)(q:G)(r:J It)(s:Str):U (I×(J I)×(J Sy)×(J (I×I×X))×I×I×X):=
  (Zep.g j k l o p q r s).bind λy1=>
  W (0,a,b,c,(S.wrap (d+(S.wrap ((4:I)*y1.1)))),e,())
def f(n:F)(a:Str)(b:I)(c:I)(d:I)(e:I)(i:I)(j:G)(k:J It)(l:Str)(o:J I)(p:J Sy)(q:J (I×I×X))(r:I)(s:I):U (I×(J I)×(J Sy)×(J (I×I×X))×I×I×X):=
  if(o.length+([r]:J I).length)*8<=140737488355328/\0<8/\0<1 then
  (if(!(O (a=([]:Str)))) then
  ((Zcg.g p a).bind λy1=>
  if y1.2.1 then(W (26,(o++([r]:J I)),p,q,r,s,()))
  else
  (if(p.length+([(a,r,())]:J Sy).length)*24<=140737488355328/\0<24/\0<2 then
  (Zcy.j7 n (o++([r]:J I)) (p++([(a,r,())]:J Sy)) q r s a b c d e i j k l) else Y))
  else
  (Zcy.j7 n (o++([r]:J I)) p q r s a b c d e i j k l)) else Y
def g(a:Str)(b:I)(c:I)(d:I)(e:I)(i:I)(j:G)(k:J It)(l:Str)(o:J I)(p:J Sy)(q:J (I×I×X))(r:I)(s:I):=f (1000+a.length+b.toNat+c.toNat+d.toNat+e.toNat+i.toNat+k.length+l.length+o.length+p.length+q.length+r.toNat+s.toNat) a b c d e i j k l o p q r s
end Zcy
namespace Zdh
def l2(n:F):F->(J Ln)->I->I->(J I)->(J Sy)->(J (I×I×X))->I->I->U (I×I×(J I)×(J Sy)×(J (I×I×X))×I×I×X)
 |0,_,_,_,_,_,_,_,_=>Y
 |m+1,a,b,c,d,e,i,j,k=>
  if(O (c<b)) then
  (if 0<=c/\c<(a.length:I) then
  ((Zcy.g ((a.getD (c).toNat zL).1) ((((a.getD (c).toNat zL).2).1).1) (((((a.getD (c).toNat zL).2).1).2).1) ((((((a.getD (c).toNat zL).2).1).2).2).1) (((((((a.getD (c).toNat zL).2).1).2).2).2).1) ((((((((a.getD (c).toNat zL).2).1).2).2).2).2).1) (((((((((a.getD (c).toNat zL).2).1).2).2).2).2).2).1) ((((((((((a.getD (c).toNat zL).2).1).2).2).2).2).2).2).1) (((((((((((a.getD (c).toNat zL).2).1).2).2).2).2).2).2).2).1) d e i j k).bind λy1=>
  if(O (y1.1≠0)) then
  (W ((S.wrap (c+1)),y1.1,y1.2.1,y1.2.2.1,y1.2.2.2.1,y1.2.2.2.2.1,y1.2.2.2.2.2.1,()))
  else
  ((Zdh.l2 n m) a b (S.wrap (c+1)) y1.2.1 y1.2.2.1 y1.2.2.2.1 y1.2.2.2.2.1 y1.2.2.2.2.2.1)) else Y)
  else(W (0,0,d,e,i,j,k,()))
def f(n:F)(a:J Ln)(b:J I)(c:J Sy)(d:J (I×I×X))(e:I)(i:I):U (I×I×(J I)×(J Sy)×(J (I×I×X))×I×I×X):=
  Zdh.l2 n n a (a.length:I) 0 b c d e i
def g(a:J Ln)(b:J I)(c:J Sy)(d:J (I×I×X))(e:I)(i:I):=f (1000+a.length+b.length+c.length+d.length+e.toNat+i.toNat) a b c d e i
end Zdh
namespace Zfc
def f(n:F)(a:J (I×I×X)):U ((J (I×I×X))×X):=
  if W 2=W 2/\(a.length:I)=(a.length:I)/\(a.length:I)=(a.length:I) then(W (a,())) else Y
def g(a:J (I×I×X)):=f (1000+a.length) a
end Zfc
namespace Zbx
def l2(n:F):F->(J (I×I×X))->(J (I×I×X))->I->I->I->I->U ((J (I×I×X))×I×X)
 |0,_,_,_,_,_,_=>Y
 |m+1,a,b,c,d,e,i=>
  if(O (d<c)) then
  (if 0<=d/\d<(b.length:I) then
  (if(O ((b.getD (d).toNat (0,(0,()))).1=e)&&(O (((b.getD (d).toNat (0,(0,()))).2).1=i)&&N)) then(W (a,d,()))
  else
  ((Zbx.l2 n m) a b c (S.wrap (d+1)) e i)) else Y)
  else
  ((Zfc.g a).bind λy1=>
  if N=N/\0<([(e,i,())]:J (I×I×X)).length then
  (if(y1.1.length+([(e,i,())]:J (I×I×X)).length)*16<=140737488355328/\0<16/\0<2 then
  (W ((y1.1++([(e,i,())]:J (I×I×X))),(a.length:I),())) else Y) else Y)
def f(n:F)(a:J (I×I×X))(b:I)(c:I):U ((J (I×I×X))×I×X):=
  Zbx.l2 n n a a (a.length:I) 0 b c
def g(a:J (I×I×X))(b:I)(c:I):=f (1000+a.length+b.toNat+c.toNat) a b c
end Zbx
namespace Zeq
def f(n:F)(a:Str)(b:I)(c:I)(d:I)(e:I)(i:I)(j:G)(k:J It)(l:Str)(o:J I)(p:J Sy)(q:J (I×I×X))(r:I)(s:I):U (I×(J I)×(J Sy)×(J (I×I×X))×I×I×X):=
  if(O (b≠8)) then(W (0,o,p,q,r,s,()))
  else
  ((Zai.g k p).bind λy1=>
  if(O (y1.2.2.1≠0)) then(W (y1.2.2.1,o,p,q,r,s,()))
  else
  (if(O (y1.2.1<0))=Z then
  (if(O (1<y1.2.1)) then(W (27,o,p,q,r,s,()))
  else
  ((Zbx.g q y1.1 y1.2.1).bind λy2=>
  W (0,o,p,y2.1,r,s,())))
  else(W (27,o,p,q,r,s,()))))
def g(a:Str)(b:I)(c:I)(d:I)(e:I)(i:I)(j:G)(k:J It)(l:Str)(o:J I)(p:J Sy)(q:J (I×I×X))(r:I)(s:I):=f (1000+a.length+b.toNat+c.toNat+d.toNat+e.toNat+i.toNat+k.length+l.length+o.length+p.length+q.length+r.toNat+s.toNat) a b c d e i j k l o p q r s
end Zeq
namespace Zdi
def l2(n:F):F->(J Ln)->I->I->(J I)->(J Sy)->(J (I×I×X))->I->I->U (I×I×(J I)×(J Sy)×(J (I×I×X))×I×I×X)
 |0,_,_,_,_,_,_,_,_=>Y
 |m+1,a,b,c,d,e,i,j,k=>
  if(O (c<b)) then
  (if 0<=c/\c<(a.length:I) then
  ((Zeq.g ((a.getD (c).toNat zL).1) ((((a.getD (c).toNat zL).2).1).1) (((((a.getD (c).toNat zL).2).1).2).1) ((((((a.getD (c).toNat zL).2).1).2).2).1) (((((((a.getD (c).toNat zL).2).1).2).2).2).1) ((((((((a.getD (c).toNat zL).2).1).2).2).2).2).1) (((((((((a.getD (c).toNat zL).2).1).2).2).2).2).2).1) ((((((((((a.getD (c).toNat zL).2).1).2).2).2).2).2).2).1) (((((((((((a.getD (c).toNat zL).2).1).2).2).2).2).2).2).2).1) d e i j k).bind λy1=>
  if(O (y1.1≠0)) then
  (W ((S.wrap (c+1)),y1.1,y1.2.1,y1.2.2.1,y1.2.2.2.1,y1.2.2.2.2.1,y1.2.2.2.2.2.1,()))
  else
  ((Zdi.l2 n m) a b (S.wrap (c+1)) y1.2.1 y1.2.2.1 y1.2.2.2.1 y1.2.2.2.2.1 y1.2.2.2.2.2.1)) else Y)
  else(W (0,0,d,e,i,j,k,()))
def f(n:F)(a:J Ln)(b:J I)(c:J Sy)(d:J (I×I×X))(e:I)(i:I):U (I×I×(J I)×(J Sy)×(J (I×I×X))×I×I×X):=
  Zdi.l2 n n a (a.length:I) 0 b c d e i
def g(a:J Ln)(b:J I)(c:J Sy)(d:J (I×I×X))(e:I)(i:I):=f (1000+a.length+b.length+c.length+d.length+e.toNat+i.toNat) a b c d e i
end Zdi
namespace Zbg
def j7(n:F)(rl4:(J Ln)->I->I->(J I)->(J Sy)->(J (I×I×X))->I->I->U ((J I)×(J Sy)×(J (I×I×X))×I×I×I×I×X))(a:J Ln)(b:I)(c:I)(d:I)(e:I)(i:J I)(j:J Sy)(k:J (I×I×X))(l:I)(o:I):U ((J I)×(J Sy)×(J (I×I×X))×I×I×I×I×X):=
  if(O (c≠0)) then(W ([],[],[],0,0,b,c,()))
  else(rl4 a d (S.wrap (e+1)) i j k l o)
def l4(n:F):F->(J Ln)->I->I->(J I)->(J Sy)->(J (I×I×X))->I->I->U ((J I)×(J Sy)×(J (I×I×X))×I×I×I×I×X)
 |0,_,_,_,_,_,_,_,_=>Y
 |m+1,a,b,c,d,e,i,j,k=>
  if(O (c<b)) then
  (if c=0 then
  ((Zdh.g a d e i j k).bind λy1=>
  Zbg.j7 n (Zbg.l4 n m) a y1.1 y1.2.1 b c y1.2.2.1 y1.2.2.2.1 y1.2.2.2.2.1 y1.2.2.2.2.2.1 y1.2.2.2.2.2.2.1)
  else
  (if c=1 then
  ((Zdi.g a d e i j k).bind λy2=>
  Zbg.j7 n (Zbg.l4 n m) a y2.1 y2.2.1 b c y2.2.2.1 y2.2.2.2.1 y2.2.2.2.2.1 y2.2.2.2.2.2.1 y2.2.2.2.2.2.2.1)
  else Y))
  else
  (if(O (1024<(S.wrap ((S.wrap (Int.tdiv j 4))+(i.length:I))))) then(W ([],[],[],0,0,0,2,()))
  else
  (W (d,e,i,j,(S.wrap ((S.wrap (Int.tdiv j 4))+(i.length:I))),0,0,())))
def f(n:F)(a:J Ln):U ((J I)×(J Sy)×(J (I×I×X))×I×I×I×I×X):=
  Zbg.l4 n n a 2 0 ([]) ([]) ([]) 0 0
def g(a:J Ln):=f (1000+a.length) a
end Zbg
end Rv
namespace Rv
open Go
set_option maxRecDepth 100000
namespace Zae
def j10(n:F)(rl9:(J Str)->I->I->(J I)->(J I)->(J Sy)->(J I)->(J I)->(J Sy)->U ((J I)×(J I)×(J Sy)×X))(a:J Str)(b:I)(c:I)(d:J I)(e:J I)(i:J Sy)(j:J I)(k:J I)(l:J Sy):U ((J I)×(J I)×(J Sy)×X):=
  rl9 a b (S.wrap (c+1)) d e i j k l
def j16(n:F)(rl9:(J Str)->I->I->(J I)->(J I)->(J Sy)->(J I)->(J I)->(J Sy)->U ((J I)×(J I)×(J Sy)×X))(a:J Str)(b:I)(c:I)(d:Str)(e:I)(i:J I)(j:J I)(k:J Sy)(l:J I)(o:J I)(p:J Sy):U ((J I)×(J I)×(J Sy)×X):=
  if 0<=c/\c<(a.length:I) then
  (if(S.wrap (b+1))=0 then Y else
  (if 0<=e/\e<=(p.length:I) then
  (if(([(d,(S.wrap ((4:I)*(Int.tmod (S.wrap (((a.getD (c).toNat ([]:Str)).length:I)+c)) (S.wrap (b+1))))),())]:J Sy).length+((p.take (((p.length:I)).toNat)).drop ((e).toNat)).length)*24<=140737488355328/\0<24/\0<2 then
  (if 0<=e/\e<=(p.length:I) then
  (if(([]:J Sy).length+(p.take (e).toNat).length)*24<=140737488355328/\0<24/\0<2 then
  (if((([]:J Sy)++(p.take (e).toNat)).length+(([(d,(S.wrap ((4:I)*(Int.tmod (S.wrap (((a.getD (c).toNat ([]:Str)).length:I)+c)) (S.wrap (b+1))))),())]:J Sy)++((p.take (((p.length:I)).toNat)).drop ((e).toNat))).length)*24<=140737488355328/\0<24/\0<2 then
  (Zae.j10 n rl9 a b c i j k l o ((([]:J Sy)++(p.take (e).toNat))++(([(d,(S.wrap ((4:I)*(Int.tmod (S.wrap (((a.getD (c).toNat ([]:Str)).length:I)+c)) (S.wrap (b+1))))),())]:J Sy)++((p.take (((p.length:I)).toNat)).drop ((e).toNat))))) else Y) else Y) else Y) else Y) else Y)) else Y
def j15(n:F)(rl9:(J Str)->I->I->(J I)->(J I)->(J Sy)->(J I)->(J I)->(J Sy)->U ((J I)×(J I)×(J Sy)×X))(a:J Str)(b:I)(c:I)(d:Str)(e:I)(i:J I)(j:J I)(k:J Sy)(l:J I)(o:J I)(p:J Sy):U ((J I)×(J I)×(J Sy)×X):=
  if(O (e<(p.length:I))) then
  (if 0<=e/\e<(p.length:I) then
  (if(O ((p.getD (e).toNat zS).1=d)) then(Zae.j10 n rl9 a b c i j k l o p)
  else(Zae.j16 n rl9 a b c d e i j k l o p)) else Y)
  else(Zae.j16 n rl9 a b c d e i j k l o p)
def l13(n:F)(rl9:(J Str)->I->I->(J I)->(J I)->(J Sy)->(J I)->(J I)->(J Sy)->U ((J I)×(J I)×(J Sy)×X)):F->(J Str)->I->I->Str->I->(J I)->(J I)->(J Sy)->(J I)->(J I)->(J Sy)->U ((J I)×(J I)×(J Sy)×X)
 |0,_,_,_,_,_,_,_,_,_,_,_=>Y
 |m+1,a,b,c,d,e,i,j,k,l,o,p=>
  if(O (e<(p.length:I))) then
  (if 0<=e/\e<(p.length:I) then
  (if(Op.bytesLess ((p.getD (e).toNat zS).1) d) then
  ((Zae.l13 n rl9 m) a b c d (S.wrap (e+1)) i j k l o p)
  else(Zae.j15 n rl9 a b c d e i j k l o p)) else Y)
  else(Zae.j15 n rl9 a b c d e i j k l o p)
def j18(n:F)(a:J I)(b:J I)(c:J Sy)(d:J I)(e:J I)(i:J Sy):U ((J I)×(J I)×(J Sy)×X):=
  W (d,e,i,())
def l9(n:F):F->(J Str)->I->I->(J I)->(J I)->(J Sy)->(J I)->(J I)->(J Sy)->U ((J I)×(J I)×(J Sy)×X)
 |0,_,_,_,_,_,_,_,_,_=>Y
 |m+1,a,b,c,d,e,i,j,k,l=>
  if(O (c<(a.length:I))) then
  (if(O (c<8)) then
  (if 0<=c/\c<(a.length:I) then
  ((Zca.g (a.getD (c).toNat ([]:Str))).bind λy1=>
  Zae.l13 n (Zae.l9 n m) n a b c y1.1 0 d e i j k l) else Y)
  else(Zae.j18 n d e i j k l))
  else(Zae.j18 n d e i j k l)
def l5(n:F):F->(J Str)->I->I->(J I)->(J I)->(J Sy)->(J I)->(J I)->(J Sy)->U ((J I)×(J I)×(J Sy)×X)
 |0,_,_,_,_,_,_,_,_,_=>Y
 |m+1,a,b,c,d,e,i,j,k,l=>
  if(O (c<(k.length:I))) then
  (if 0<=c/\c<(k.length:I) then
  (if 0<=c/\c<(k.length:I) then
  (if 0<=(k.getD (c).toNat 0)/\(k.getD (c).toNat 0)<(j.length:I) then
  (if(M.wrap (S.wrap ((S.wrap ((4:I)*b))+1)))=0 then Y else
  (if 0<=(k.getD (c).toNat 0)/\(k.getD (c).toNat 0)<(j.length:I) then
  ((Zae.l5 n m) a b (S.wrap (c+1)) d e i (j.set ((k.getD (c).toNat (0:I))).toNat (Int.tmod (j.getD ((k.getD (c).toNat (0:I))).toNat 0) (M.wrap (S.wrap ((S.wrap ((4:I)*b))+1))))) k l) else Y)) else Y) else Y) else Y)
  else(Zae.l9 n n a b 0 d e i j k l)
def f(n:F)(a:J I)(b:J I)(c:J Str):U ((J I)×(J I)×(J Sy)×X):=
  if 0<=(mn (a.length:I) 40)/\(mn (a.length:I) 40)<=(a.length:I) then
  (if(([]:J I).length+((a.take (((mn (a.length:I) (40:I))).toNat)).drop 0).length)*4<=140737488355328/\0<4/\0<1 then
  ((Zbn.g b ((([]:J I)++((a.take (((mn (a.length:I) (40:I))).toNat)).drop 0)).length:I)).bind λy1=>
  Zae.l5 n n c ((([]:J I)++((a.take (((mn (a.length:I) (40:I))).toNat)).drop 0)).length:I) 0 ([]) ([]) ([]) (([]:J I)++((a.take (((mn (a.length:I) (40:I))).toNat)).drop 0)) y1.1 ([])) else Y) else Y
def g(a:J I)(b:J I)(c:J Str):=f (1000+a.length+b.length+c.length) a b c
end Zae
namespace Zfd
def f(n:F)(a:Str)(b:I)(c:Str):U (I×X):=
  W ((L.cmpR a c),())
def g(a:Str)(b:I)(c:Str):=f (1000+a.length+b.toNat+c.length) a b c
end Zfd
namespace Zcd
def l3(n:F):F->(J Sy)->Str->I->I->I->U (I×G×X)
 |0,_,_,_,_,_=>Y
 |m+1,a,b,c,d,e=>
  if(O (d<e)) then
  (if 0<=(S.wrap (((H.wrap (S.wrap (d+e)))).fdiv (2 ^ (min (1:I).toNat H.bits))))/\(S.wrap (((H.wrap (S.wrap (d+e)))).fdiv (2 ^ (min (1:I).toNat H.bits))))<(a.length:I) then
  ((Zfd.g ((a.getD ((S.wrap (((H.wrap (S.wrap (d+e)))).fdiv (2 ^ (min (1:I).toNat H.bits))))).toNat zS).1) (((a.getD ((S.wrap (((H.wrap (S.wrap (d+e)))).fdiv (2 ^ (min (1:I).toNat H.bits))))).toNat zS).2).1) b).bind λy1=>
  if(O (y1.1<0)) then
  ((Zcd.l3 n m) a b c (S.wrap ((S.wrap (((H.wrap (S.wrap (d+e)))).fdiv (2 ^ (min (1:I).toNat H.bits))))+1)) e)
  else
  ((Zcd.l3 n m) a b c d (S.wrap (((H.wrap (S.wrap (d+e)))).fdiv (2 ^ (min (1:I).toNat H.bits)))))) else Y)
  else
  (if(O (d<c)) then
  (if 0<=d/\d<(a.length:I) then
  ((Zfd.g ((a.getD (d).toNat zS).1) (((a.getD (d).toNat zS).2).1) b).bind λy2=>
  W (d,(O (y2.1=0)),())) else Y)
  else(W (d,Z,())))
def f(n:F)(a:J Sy)(b:Str):U (I×G×X):=
  Zcd.l3 n n a b (a.length:I) 0 (a.length:I)
def g(a:J Sy)(b:Str):=f (1000+a.length+b.length) a b
end Zcd
namespace Zer
def f(n:F)(a:Str)(b:J I)(c:J Sy)(d:J (I×I×X))(e:I)(i:I)(j:J I)(k:J I)(l:J Sy):U (I×(J I)×(J Sy)×(J (I×I×X))×I×I×(J I)×(J I)×(J Sy)×X):=
  (Zcg.g c a).bind λy1=>
  (Zcd.g l a).bind λy2=>
  (Zak.g a).bind λy3=>
  if(!y3.1) then(W (9,b,c,d,e,i,j,k,l,()))
  else
  (if(!y1.2.1) then(W (25,b,c,d,e,i,j,k,l,()))
  else
  (if y2.2.1 then(W (26,b,c,d,e,i,j,k,l,()))
  else
  ((L.insertO l y2.1 ([(a,y1.1,())]:J Sy)).bind λy4=>
  W (0,b,c,d,e,i,j,k,y4.1,()))))
def g(a:Str)(b:J I)(c:J Sy)(d:J (I×I×X))(e:I)(i:I)(j:J I)(k:J I)(l:J Sy):=f (1000+a.length+b.length+c.length+d.length+e.toNat+i.toNat+j.length+k.length+l.length) a b c d e i j k l
end Zer
namespace Zbr
def j3(n:F)(a:J I)(b:J Sy)(c:J (I×I×X))(d:I)(e:I)(i:J I)(j:J I)(k:J Sy)(l:I)(o:I):U ((J I)×(J Sy)×(J (I×I×X))×I×I×(J I)×(J I)×(J Sy)×X):=
  if(i.length+([l]:J I).length)*4<=140737488355328/\0<4/\0<1 then(W (a,b,c,d,e,(i++([l]:J I)),j,k,())) else Y
def f(n:F)(a:I)(b:I)(c:J I)(d:J Sy)(e:J (I×I×X))(i:I)(j:I)(k:J I)(l:J I)(o:J Sy):U ((J I)×(J Sy)×(J (I×I×X))×I×I×(J I)×(J I)×(J Sy)×X):=
  if(O (b=1)) then
  (if(l.length+([(k.length:I)]:J I).length)*8<=140737488355328/\0<8/\0<1 then
  (Zbr.j3 n c d e i j k (l++([(k.length:I)]:J I)) o a b) else Y)
  else(Zbr.j3 n c d e i j k l o a b)
def g(a:I)(b:I)(c:J I)(d:J Sy)(e:J (I×I×X))(i:I)(j:I)(k:J I)(l:J I)(o:J Sy):=f (1000+a.toNat+b.toNat+c.length+d.length+e.length+i.toNat+j.toNat+k.length+l.length+o.length) a b c d e i j k l o
end Zbr
namespace Zes
def f(n:F)(a:I)(b:I)(c:I)(d:I)(e:I)(i:I)(j:G)(k:J I)(l:J Sy)(o:J (I×I×X))(p:I)(q:I)(r:J I)(s:J I)(t:J Sy):U (I×(J I)×(J Sy)×(J (I×I×X))×I×I×(J I)×(J I)×(J Sy)×X):=
  (Zdg.g a b c d e i j).bind λy1=>
  if(O (y1.2.1=0)) then
  ((Zbr.g y1.1 0 k l o p q r s t).bind λy2=>
  W (y1.2.1,y2.1,y2.2.1,y2.2.2.1,y2.2.2.2.1,y2.2.2.2.2.1,y2.2.2.2.2.2.1,y2.2.2.2.2.2.2.1,y2.2.2.2.2.2.2.2.1,()))
  else(W (y1.2.1,k,l,o,p,q,r,s,t,()))
def g(a:I)(b:I)(c:I)(d:I)(e:I)(i:I)(j:G)(k:J I)(l:J Sy)(o:J (I×I×X))(p:I)(q:I)(r:J I)(s:J I)(t:J Sy):=f (1000+a.toNat+b.toNat+c.toNat+d.toNat+e.toNat+i.toNat+k.length+l.length+o.length+p.toNat+q.toNat+r.length+s.length+t.length) a b c d e i j k l o p q r s t
end Zes
namespace Zdj
def f(n:F)(a:I)(b:I)(c:I)(d:I)(e:I)(i:G)(j:J It)(k:Str)(l:I)(o:J I)(p:J Sy)(q:J (I×I×X))(r:I)(s:I)(t:J I)(u:J I)(v:J Sy):U (I×I×I×I×I×I×I×G×(J It)×Str×X×I×(J I)×(J Sy)×(J (I×I×X))×I×I×(J I)×(J I)×(J Sy)×X):=
  (Zai.g j p).bind λy1=>
  W (y1.1,y1.2.1,a,b,c,d,e,i,j,k,(),y1.2.2.1,o,p,q,r,s,t,u,v,())
def g(a:I)(b:I)(c:I)(d:I)(e:I)(i:G)(j:J It)(k:Str)(l:I)(o:J I)(p:J Sy)(q:J (I×I×X))(r:I)(s:I)(t:J I)(u:J I)(v:J Sy):=f (1000+a.toNat+b.toNat+c.toNat+d.toNat+e.toNat+j.length+k.length+l.toNat+o.length+p.length+q.length+r.toNat+s.toNat+t.length+u.length+v.length) a b c d e i j k l o p q r s t u v
end Zdj
namespace Zet
def f(n:F)(a:I)(b:I)(c:I):U (I×I×X):=
  if(O (b≠1)) then(W (0,27,()))
  else
  (if(O ((Int.tmod (S.wrap (IntKind.i32.wrap (M.wrap ((M.wrap (a-(M.wrap c)))-4)))) 4)≠0))=Z then
  (if(O ((S.wrap (Int.tdiv (S.wrap (IntKind.i32.wrap (M.wrap ((M.wrap (a-(M.wrap c)))-4)))) 4))<(-8388608)))=Z then
  (if(O (8388608<=(S.wrap (Int.tdiv (S.wrap (IntKind.i32.wrap (M.wrap ((M.wrap (a-(M.wrap c)))-4)))) 4)))) then(W (0,28,()))
  else
  (W ((S.wrap (Int.tdiv (S.wrap (IntKind.i32.wrap (M.wrap ((M.wrap (a-(M.wrap c)))-4)))) 4)),0,())))
  else(W (0,28,())))
  else(W (0,28,())))
def g(a:I)(b:I)(c:I):=f (1000+a.toNat+b.toNat+c.toNat) a b c
end Zet
namespace Zdw
def f(n:F)(a:I)(b:I)(c:J I)(d:J Sy)(e:J (I×I×X))(i:I)(j:I)(k:J I)(l:J I)(o:J Sy):U (I×(J I)×(J Sy)×(J (I×I×X))×I×I×(J I)×(J I)×(J Sy)×X):=
  if(O (b<0))=Z then
  (if(O (1<b)) then(W (27,c,d,e,i,j,k,l,o,()))
  else
  (if(O (b=1)) then
  (if(O ((S.wrap ((4:I)*j))<(S.wrap a))) then(W (28,c,d,e,i,j,k,l,o,()))
  else(W (0,c,d,e,i,j,k,l,o,())))
  else(W (0,c,d,e,i,j,k,l,o,()))))
  else(W (27,c,d,e,i,j,k,l,o,()))
def g(a:I)(b:I)(c:J I)(d:J Sy)(e:J (I×I×X))(i:I)(j:I)(k:J I)(l:J I)(o:J Sy):=f (1000+a.toNat+b.toNat+c.length+d.length+e.length+i.toNat+j.toNat+k.length+l.length+o.length) a b c d e i j k l o
end Zdw
namespace Zao
def j32(n:F)(a:J I)(b:J Sy)(c:J (I×I×X))(d:I)(e:I)(i:J I)(j:J I)(k:J Sy)(l:I)(o:I)(p:I)(q:I)(r:I)(s:I)(t:I)(u:G):U (I×(J I)×(J Sy)×(J (I×I×X))×I×I×(J I)×(J I)×(J Sy)×X):=
  if(O (l≠0)) then(W (l,a,b,c,d,e,i,j,k,()))
  else
  ((Zes.g o p q r s t u a b c d e i j k).bind λy1=>
  W (y1.1,y1.2.1,y1.2.2.1,y1.2.2.2.1,y1.2.2.2.2.1,y1.2.2.2.2.2.1,y1.2.2.2.2.2.2.1,y1.2.2.2.2.2.2.2.1,y1.2.2.2.2.2.2.2.2.1,()))
def j12(n:F)(a:I)(b:J I)(c:J Sy)(d:J (I×I×X))(e:I)(i:I)(j:J I)(k:J I)(l:J Sy)(o:I)(p:I)(q:I)(r:I)(s:I)(t:G)(u:J It)(v:Str)(w:I)(x:I)(z:I)(A:I)(B:I)(C:I)(D:I)(E:G):U (I×(J I)×(J Sy)×(J (I×I×X))×I×I×(J I)×(J I)×(J Sy)×X):=
  (Zar.g u c a (65535:I)).bind λy1=>
  Zao.j32 n b c d e i j k l y1.2.1 x z A B C y1.1 E
def j31(n:F)(a:J I)(b:J Sy)(c:J (I×I×X))(d:I)(e:I)(i:J I)(j:J I)(k:J Sy)(l:I):U (I×(J I)×(J Sy)×(J (I×I×X))×I×I×(J I)×(J I)×(J Sy)×X):=
  W (l,a,b,c,d,e,i,j,k,())
def j29(n:F)(a:J I)(b:J Sy)(c:J (I×I×X))(d:I)(e:I)(i:J I)(j:J I)(k:J Sy)(l:I)(o:I)(p:I):U (I×(J I)×(J Sy)×(J (I×I×X))×I×I×(J I)×(J I)×(J Sy)×X):=
  if(O (l=0)) then
  ((Zbr.g o p a b c d e i j k).bind λy1=>
  Zao.j31 n y1.1 y1.2.1 y1.2.2.1 y1.2.2.2.1 y1.2.2.2.2.1 y1.2.2.2.2.2.1 y1.2.2.2.2.2.2.1 y1.2.2.2.2.2.2.2.1 l)
  else(Zao.j31 n a b c d e i j k l)
def f(n:F)(a:I)(b:I)(c:I)(d:I)(e:I)(i:G)(j:J It)(k:Str)(l:I)(o:J I)(p:J Sy)(q:J (I×I×X))(r:I)(s:I)(t:J I)(u:J I)(v:J Sy):U (I×(J I)×(J Sy)×(J (I×I×X))×I×I×(J I)×(J I)×(J Sy)×X):=
  if(O (a=0)) then(W (0,o,p,q,r,s,t,u,v,()))
  else
  (if(O (a=10)) then
  ((Zer.g k o p q r s t u v).bind λy1=>
  W (y1.1,y1.2.1,y1.2.2.1,y1.2.2.2.1,y1.2.2.2.2.1,y1.2.2.2.2.2.1,y1.2.2.2.2.2.2.1,y1.2.2.2.2.2.2.2.1,y1.2.2.2.2.2.2.2.2.1,()))
  else
  (if(O (a=2)) then
  (if(O (b=0)) then
  (if i then
  (Zao.j12 n 0 o p q r s t u v a b c d e i j k 0 a b c d e 0 i)
  else
  (Zao.j12 n (-65536) o p q r s t u v a b c d e i j k 0 a b c d e 0 i))
  else
  (Zao.j12 n (-65536) o p q r s t u v a b c d e i j k 0 a b c d e 0 i))
  else
  (if(O (a=5)) then
  ((Zar.g j p (-524288) (524287:I)).bind λy2=>
  Zao.j32 n o p q r s t u v y2.2.1 a b c d e y2.1 i)
  else
  (if(O (a=7)) then
  ((Zdj.g a b c d e i j k 0 o p q r s t u v).bind λy3=>
  if(O (y3.2.2.2.2.2.2.2.2.2.2.2.1=0)) then
  ((Zet.g y3.1 y3.2.1 l).bind λy4=>
  Zao.j32 n y3.2.2.2.2.2.2.2.2.2.2.2.2.1 y3.2.2.2.2.2.2.2.2.2.2.2.2.2.1 y3.2.2.2.2.2.2.2.2.2.2.2.2.2.2.1 y3.2.2.2.2.2.2.2.2.2.2.2.2.2.2.2.1 y3.2.2.2.2.2.2.2.2.2.2.2.2.2.2.2.2.1 y3.2.2.2.2.2.2.2.2.2.2.2.2.2.2.2.2.2.1 y3.2.2.2.2.2.2.2.2.2.2.2.2.2.2.2.2.2.2.1 y3.2.2.2.2.2.2.2.2.2.2.2.2.2.2.2.2.2.2.2.1 y4.2.1 a b c d e y4.1 i)
  else
  (Zao.j32 n y3.2.2.2.2.2.2.2.2.2.2.2.2.1 y3.2.2.2.2.2.2.2.2.2.2.2.2.2.1 y3.2.2.2.2.2.2.2.2.2.2.2.2.2.2.1 y3.2.2.2.2.2.2.2.2.2.2.2.2.2.2.2.1 y3.2.2.2.2.2.2.2.2.2.2.2.2.2.2.2.2.1 y3.2.2.2.2.2.2.2.2.2.2.2.2.2.2.2.2.2.1 y3.2.2.2.2.2.2.2.2.2.2.2.2.2.2.2.2.2.2.1 y3.2.2.2.2.2.2.2.2.2.2.2.2.2.2.2.2.2.2.2.1 y3.2.2.2.2.2.2.2.2.2.2.2.1 a b c d e 0 i))
  else
  (if(O (a=8)) then
  ((Zdj.g a b c d e i j k 0 o p q r s t u v).bind λy5=>
  if(O (y5.2.2.2.2.2.2.2.2.2.2.2.1=0)) then
  ((Zbx.g y5.2.2.2.2.2.2.2.2.2.2.2.2.2.2.1 y5.1 y5.2.1).bind λy6=>
  (Zdw.g y5.1 y5.2.1 y5.2.2.2.2.2.2.2.2.2.2.2.2.1 y5.2.2.2.2.2.2.2.2.2.2.2.2.2.1 y5.2.2.2.2.2.2.2.2.2.2.2.2.2.2.1 y5.2.2.2.2.2.2.2.2.2.2.2.2.2.2.2.1 y5.2.2.2.2.2.2.2.2.2.2.2.2.2.2.2.2.1 y5.2.2.2.2.2.2.2.2.2.2.2.2.2.2.2.2.2.1 y5.2.2.2.2.2.2.2.2.2.2.2.2.2.2.2.2.2.2.1 y5.2.2.2.2.2.2.2.2.2.2.2.2.2.2.2.2.2.2.2.1).bind λy7=>
  Zao.j32 n y7.2.1 y7.2.2.1 y7.2.2.2.1 y7.2.2.2.2.1 y7.2.2.2.2.2.1 y7.2.2.2.2.2.2.1 y7.2.2.2.2.2.2.2.1 y7.2.2.2.2.2.2.2.2.1 y7.1 5 0 y5.2.2.2.2.1 13 0 (S.wrap (y5.2.2.2.2.2.2.2.2.2.2.2.2.2.2.2.1+(S.wrap ((4:I)*y6.2.1)))) Z)
  else
  (Zao.j32 n y5.2.2.2.2.2.2.2.2.2.2.2.2.1 y5.2.2.2.2.2.2.2.2.2.2.2.2.2.1 y5.2.2.2.2.2.2.2.2.2.2.2.2.2.2.1 y5.2.2.2.2.2.2.2.2.2.2.2.2.2.2.2.1 y5.2.2.2.2.2.2.2.2.2.2.2.2.2.2.2.2.1 y5.2.2.2.2.2.2.2.2.2.2.2.2.2.2.2.2.2.1 y5.2.2.2.2.2.2.2.2.2.2.2.2.2.2.2.2.2.2.1 y5.2.2.2.2.2.2.2.2.2.2.2.2.2.2.2.2.2.2.2.1 y5.2.2.2.2.2.2.2.2.2.2.2.1 a b c d e 0 i))
  else
  (if(O (a=9)) then
  ((Zdj.g a b c d e i j k 0 o p q r s t u v).bind λy8=>
  if(O (y8.2.2.2.2.2.2.2.2.2.2.2.1=0)) then
  ((Zdw.g y8.1 y8.2.1 y8.2.2.2.2.2.2.2.2.2.2.2.2.1 y8.2.2.2.2.2.2.2.2.2.2.2.2.2.1 y8.2.2.2.2.2.2.2.2.2.2.2.2.2.2.1 y8.2.2.2.2.2.2.2.2.2.2.2.2.2.2.2.1 y8.2.2.2.2.2.2.2.2.2.2.2.2.2.2.2.2.1 y8.2.2.2.2.2.2.2.2.2.2.2.2.2.2.2.2.2.1 y8.2.2.2.2.2.2.2.2.2.2.2.2.2.2.2.2.2.2.1 y8.2.2.2.2.2.2.2.2.2.2.2.2.2.2.2.2.2.2.2.1).bind λy9=>
  Zao.j29 n y9.2.1 y9.2.2.1 y9.2.2.2.1 y9.2.2.2.2.1 y9.2.2.2.2.2.1 y9.2.2.2.2.2.2.1 y9.2.2.2.2.2.2.2.1 y9.2.2.2.2.2.2.2.2.1 y9.1 y8.1 y8.2.1)
  else
  (Zao.j29 n y8.2.2.2.2.2.2.2.2.2.2.2.2.1 y8.2.2.2.2.2.2.2.2.2.2.2.2.2.1 y8.2.2.2.2.2.2.2.2.2.2.2.2.2.2.1 y8.2.2.2.2.2.2.2.2.2.2.2.2.2.2.2.1 y8.2.2.2.2.2.2.2.2.2.2.2.2.2.2.2.2.1 y8.2.2.2.2.2.2.2.2.2.2.2.2.2.2.2.2.2.1 y8.2.2.2.2.2.2.2.2.2.2.2.2.2.2.2.2.2.2.1 y8.2.2.2.2.2.2.2.2.2.2.2.2.2.2.2.2.2.2.2.1 y8.2.2.2.2.2.2.2.2.2.2.2.1 y8.1 y8.2.1))
  else(Zao.j32 n o p q r s t u v 0 a b c d e 0 i)))))))
def g(a:I)(b:I)(c:I)(d:I)(e:I)(i:G)(j:J It)(k:Str)(l:I)(o:J I)(p:J Sy)(q:J (I×I×X))(r:I)(s:I)(t:J I)(u:J I)(v:J Sy):=f (1000+a.toNat+b.toNat+c.toNat+d.toNat+e.toNat+j.length+k.length+l.toNat+o.length+p.length+q.length+r.toNat+s.toNat+t.length+u.length+v.length) a b c d e i j k l o p q r s t u v
end Zao
namespace Zax
def l14(n:F):F->(J (I×I×X))->I->I->(J I)->(J I)->(J Sy)->(J I)->(J Sy)->(J (I×I×X))->I->I->(J I)->(J I)->(J Sy)->U ((J I)×(J I)×(J Sy)×I×I×X)
 |0,_,_,_,_,_,_,_,_,_,_,_,_,_,_=>Y
 |m+1,a,b,c,d,e,i,j,k,l,o,p,q,r,s=>
  if(O (c<b)) then
  (if 0<=c/\c<(a.length:I) then
  ((Zbr.g ((a.getD (c).toNat (0,(0,()))).1) (((a.getD (c).toNat (0,(0,()))).2).1) j k l o p q r s).bind λy1=>
  (Zax.l14 n m) a b (S.wrap (c+1)) d e i y1.1 y1.2.1 y1.2.2.1 y1.2.2.2.1 y1.2.2.2.2.1 y1.2.2.2.2.2.1 y1.2.2.2.2.2.2.1 y1.2.2.2.2.2.2.2.1) else Y)
  else
  (if(O ((64:I)<(s.length:I))) then(W ([],[],[],0,2,()))
  else(W (q,r,s,0,0,())))
def l7(n:F):F->(J Ln)->I->I->(J I)->(J I)->(J Sy)->(J I)->(J Sy)->(J (I×I×X))->I->I->(J I)->(J Sy)->(J (I×I×X))->I->I->(J I)->(J I)->(J Sy)->U ((J I)×(J I)×(J Sy)×I×I×X)
 |0,_,_,_,_,_,_,_,_,_,_,_,_,_,_,_,_,_,_,_=>Y
 |m+1,a,b,c,d,e,i,j,k,l,o,p,q,r,s,t,u,v,w,x=>
  if(O (c<b)) then
  (if 0<=c/\c<(a.length:I) then
  (if 0<=c/\c<(j.length:I) then
  ((Zao.g ((((a.getD (c).toNat zL).2).1).1) (((((a.getD (c).toNat zL).2).1).2).1) ((((((a.getD (c).toNat zL).2).1).2).2).1) (((((((a.getD (c).toNat zL).2).1).2).2).2).1) ((((((((a.getD (c).toNat zL).2).1).2).2).2).2).1) (((((((((a.getD (c).toNat zL).2).1).2).2).2).2).2).1) ((((((((((a.getD (c).toNat zL).2).1).2).2).2).2).2).2).1) (((((((((((a.getD (c).toNat zL).2).1).2).2).2).2).2).2).2).1) (j.getD (c).toNat 0) q r s t u v w x).bind λy1=>
  if(O (y1.1≠0)) then
  (W ([],[],[],(S.wrap (c+1)),y1.1,()))
  else
  ((Zax.l7 n m) a b (S.wrap (c+1)) d e i j k l o p y1.2.1 y1.2.2.1 y1.2.2.2.1 y1.2.2.2.2.1 y1.2.2.2.2.2.1 y1.2.2.2.2.2.2.1 y1.2.2.2.2.2.2.2.1 y1.2.2.2.2.2.2.2.2.1)) else Y) else Y)
  else
  (Zax.l14 n n l (l.length:I) 0 d e i q r s t u v w x)
def f(n:F)(a:J Ln):U ((J I)×(J I)×(J Sy)×I×I×X):=
  (Zbg.g a).bind λy1=>
  if(O (y1.2.2.2.2.2.2.1≠0)) then(W ([],[],[],y1.2.2.2.2.2.1,y1.2.2.2.2.2.2.1,()))
  else
  (Zax.l7 n n a (a.length:I) 0 ([]) ([]) ([]) y1.1 y1.2.1 y1.2.2.1 y1.2.2.2.1 y1.2.2.2.2.1 y1.1 y1.2.1 y1.2.2.1 y1.2.2.2.1 y1.2.2.2.2.1 ([]) ([]) ([]))
def g(a:J Ln):=f (1000+a.length) a
end Zax
namespace Zdk
def f(n:F)(a:Str):U ((J I)×(J I)×(J Sy)×I×I×X):=
  (Zbm.g a).bind λy1=>
  if(O (y1.2.2.1≠0)) then(W ([],[],[],y1.2.1,y1.2.2.1,()))
  else
  ((Zax.g y1.1).bind λy2=>
  W (y2.1,y2.2.1,y2.2.2.1,y2.2.2.2.1,y2.2.2.2.2.1,()))
def g(a:Str):=f (1000+a.length) a
end Zdk
end Rv
namespace Rv
open Go
set_option maxRecDepth 100000
namespace Zco
def f(n:F)(a:J I)(b:J I)(c:J Sy)(d:I):U (I×G×X):=
  if(O (d<0))=Z then
  (if(O ((a.length:I)<=d))=Z then
  ((Zcz.g b d).bind λy1=>
  if y1.1 then(W (0,Z,()))
  else
  (if 0<=d/\d<(a.length:I) then
  ((Zcl.g (a.getD (d).toNat (0:I))).bind λy2=>
  if(!y2.2.2.2.2.2.2.2.1)=Z then
  (if(O (y2.1≠7))=Z then
  (if(O ((S.wrap ((4:I)*(S.wrap ((S.wrap (d+1))+y2.2.2.2.2.2.1))))<0))=Z then
  (if(O ((S.wrap ((4:I)*(a.length:I)))<(S.wrap ((4:I)*(S.wrap ((S.wrap (d+1))+y2.2.2.2.2.2.1)))))) then(W (0,Z,()))
  else
  (W ((S.wrap ((4:I)*(S.wrap ((S.wrap (d+1))+y2.2.2.2.2.2.1)))),N,())))
  else(W (0,Z,())))
  else(W (0,Z,())))
  else(W (0,Z,()))) else Y))
  else(W (0,Z,())))
  else(W (0,Z,()))
def g(a:J I)(b:J I)(c:J Sy)(d:I):=f (1000+a.length+b.length+c.length+d.toNat) a b c d
end Zco
namespace Zeu
def g(a:J I)(b:J I)(c:J Sy):U ((J I)×I×X):=L.labelOfO Zbt.g Zco.g a b c
end Zeu
namespace Zbe
def l3(n:F):F->I->(J I)->I->U (Str×X)
 |0,_,_,_=>Y
 |m+1,a,b,c=>
  if(O (0<=c)) then
  (if c<0 then Y else
  (if 0<=(bn .and .i64 ((a).fdiv (2 ^ (min c.toNat S.bits))) 15)/\(bn .and .i64 ((a).fdiv (2 ^ (min c.toNat S.bits))) 15)<(([48,49,50,51,52,53,54,55,56,57,65,66,67,68,69,70]:Str).length:I) then
  (if(b.length+([(bt ([48,49,50,51,52,53,54,55,56,57,65,66,67,68,69,70]:Str) (bn .and .i64 ((a).fdiv (2 ^ (min c.toNat S.bits))) 15))]:J I).length)*1<=140737488355328/\0<1/\0<1 then
  ((Zbe.l3 n m) a (b++([(bt ([48,49,50,51,52,53,54,55,56,57,65,66,67,68,69,70]:Str) (bn .and .i64 ((a).fdiv (2 ^ (min c.toNat S.bits))) 15))]:J I)) (S.wrap (c-4))) else Y) else Y))
  else(W ((bytesOf b),()))
def f(n:F)(a:I):U (Str×X):=
  Zbe.l3 n n a ([95]:J I) 12
def g(a:I):=f (1000+a.toNat) a
end Zbe
structure jH where
 disasm_number:I->U ((J It)×X)
namespace disasm_number
def f(n:F)(R:jH)(a:I):U ((J It)×X):=
  if(O (a<0)) then
  ((R.disasm_number (S.wrap (0-a))).bind λy1=>
  if(y1.1.length+([(3,0,([]:Str),())]:J It).length)*32<=140737488355328/\0<32/\0<3 then
  (W ((y1.1++([(3,0,([]:Str),())]:J It)),())) else Y)
  else
  (W (([(1,(M.wrap a),([]:Str),())]:J It),()))
def h(R:jH)(a:I):U ((J It)×X):=f (1000+a.toNat) R a
end disasm_number
def bI:F->jH
 |0=>⟨λ_=>Y⟩
 |q+1=>⟨disasm_number.h (bI q)⟩
def disasm_number.g(a:I):U ((J It)×X):=(bI (1000+a.toNat)).disasm_number a
namespace Zdl
def f(n:F)(a:I):U ((J It)×X):=
  (Zbe.g a).bind λy1=>
  W (([(2,0,y1.1,())]:J It),())
def g(a:I):=f (1000+a.toNat) a
end Zdl
namespace Zbh
def j9(n:F)(a:I)(b:I)(c:I)(d:I)(e:I)(i:G)(j:J It)(k:Str)(l:I)(o:I)(p:I)(q:I)(r:I)(s:G)(t:J It)(u:Str):U Sn:=
  W (l,o,p,q,r,s,t,u,())
def j23(n:F)(a:I)(b:I)(c:I)(d:I)(e:I)(i:G)(j:J It)(k:Str)(l:I)(o:I)(p:I)(q:I)(r:I)(s:G)(t:J It)(u:Str):U Sn:=
  W (l,o,p,q,r,s,t,u,())
def f(n:F)(a:J I)(b:J I)(c:J Sy)(d:I):U Sn:=
  if(O (d<0))=Z then
  (if(O ((a.length:I)<=d)) then(W (0,0,0,0,0,Z,[],([]:Str),()))
  else
  (if 0<=d/\d<(a.length:I) then
  ((disasm_number.g (S.wrap (a.getD (d).toNat (0:I)))).bind λy1=>
  (Zcz.g b d).bind λy2=>
  if y2.1 then
  ((Zdl.g (S.wrap (a.getD (d).toNat (0:I)))).bind λy3=>
  if(O ((Int.tmod (S.wrap (a.getD (d).toNat 0)) 4)≠0)) then
  ((Zdl.g (0:I)).bind λy4=>
  (disasm_number.g (S.wrap (a.getD (d).toNat (0:I)))).bind λy5=>
  if(y4.1.length+y5.1.length)*32<=140737488355328/\0<32/\0<3 then
  (if((y4.1++y5.1).length+([(4,0,([]:Str),())]:J It).length)*32<=140737488355328/\0<32/\0<3 then
  (Zbh.j9 n 0 0 0 0 0 Z ([]) ([]:Str) 9 0 0 0 0 Z ((y4.1++y5.1)++([(4,0,([]:Str),())]:J It)) ([]:Str)) else Y) else Y)
  else
  (Zbh.j9 n 0 0 0 0 0 Z ([]) ([]:Str) 9 0 0 0 0 Z y3.1 ([]:Str)))
  else
  (if 0<=d/\d<(a.length:I) then
  ((Zcl.g (a.getD (d).toNat (0:I))).bind λy6=>
  if(!y6.2.2.2.2.2.2.2.1) then(W (9,0,0,0,0,Z,y1.1,([]:Str),()))
  else
  (if(O (y6.1=7)) then
  ((Zco.g a b c d).bind λy7=>
  if(!y7.2.1) then(W (9,0,0,0,0,Z,y1.1,([]:Str),()))
  else
  ((Zdl.g y7.1).bind λy8=>
  Zbh.j23 n 0 0 0 0 0 Z ([]) ([]:Str) y6.1 y6.2.1 y6.2.2.1 y6.2.2.2.1 y6.2.2.2.2.1 y6.2.2.2.2.2.2.1 y8.1 ([]:Str)))
  else
  (if(O (y6.1=2)) then
  (if(O (y6.1=2)) then
  ((disasm_number.g y6.2.2.2.2.2.1).bind λy9=>
  Zbh.j23 n 0 0 0 0 0 Z ([]) ([]:Str) y6.1 y6.2.1 y6.2.2.1 y6.2.2.2.1 y6.2.2.2.2.1 y6.2.2.2.2.2.2.1 y9.1 ([]:Str))
  else
  (Zbh.j23 n 0 0 0 0 0 Z ([]) ([]:Str) y6.1 y6.2.1 y6.2.2.1 y6.2.2.2.1 y6.2.2.2.2.1 y6.2.2.2.2.2.2.1 ([]) ([]:Str)))
  else
  (if(O (y6.1=5)) then
  ((disasm_number.g y6.2.2.2.2.2.1).bind λy10=>
  Zbh.j23 n 0 0 0 0 0 Z ([]) ([]:Str) y6.1 y6.2.1 y6.2.2.1 y6.2.2.2.1 y6.2.2.2.2.1 y6.2.2.2.2.2.2.1 y10.1 ([]:Str))
  else
  (Zbh.j23 n 0 0 0 0 0 Z ([]) ([]:Str) y6.1 y6.2.1 y6.2.2.1 y6.2.2.2.1 y6.2.2.2.2.1 y6.2.2.2.2.2.2.1 ([]) ([]:Str)))))) else Y)) else Y))
  else(W (0,0,0,0,0,Z,[],([]:Str),()))
def g(a:J I)(b:J I)(c:J Sy)(d:I):=f (1000+a.length+b.length+c.length+d.toNat) a b c d
end Zbh
namespace Zdm
def g(a:J I)(b:J I)(c:J Sy):U ((J Ln)×I×X):=L.linesO Zbt.g Zeu.g Zbo.g Zbe.g Zbh.g a b c
end Zdm
namespace Zbs
def f(n:F)(a:J I)(b:J I)(c:J Sy):U Sy:=
  (Zdm.g a b c).bind λy1=>
  if(O (y1.2.1≠0)) then(W (([]:Str),y1.2.1,()))
  else
  ((Zdv.g y1.1).bind λy2=>
  W (y2.1,y2.2.2.1,()))
def g(a:J I)(b:J I)(c:J Sy):=f (1000+a.length+b.length+c.length) a b c
end Zbs
end Rv
namespace Rv
open Go
set_option maxRecDepth 100000
namespace Zcp
def f(n:F):U (G×X):=
  (Zbs.g ([1090519045,3892314110]:J I) ([]) ([])).bind λy1=>
  if(O (y1.1=([95,48,48,48,48,58,10,77,79,86,32,82,49,44,32,53,10,66,32,95,48,48,48,48,10]:Str))) then(W ((O (y1.2.1=0)),()))
  else(W (Z,()))
def g:=f (1000)
end Zcp
namespace rivetlaw23_DisasmBack
def f(a_rivetlaw23_shown:U (G×X))(n:F)(a:J I)(b:J I)(c:J Str):U (G×X):=
  (a_rivetlaw23_shown).bind λy1=>
  (Zae.g a b c).bind λy2=>
  (Zbs.g y2.1 y2.2.1 y2.2.2.1).bind λy3=>
  (Zdk.g y3.1).bind λy4=>
  (Zbv.g y2.1 y2.2.1 y2.2.2.1).bind λy5=>
  (Zbv.g y4.1 y4.2.1 y4.2.2.1).bind λy6=>
  if y1.1 then
  (if(O (y3.2.1=0)) then
  (if(O (y4.2.2.2.2.1=0)) then
  (if(O (y4.2.2.2.1=0)) then
  (if(O (y5.2.1=0)) then
  (if(O (y6.2.1=0)) then
  ((Zdo.g y4.1 y4.2.1 y4.2.2.1 y2.1 y2.2.1 y2.2.2.1).bind λy7=>
  if y7.1 then(W ((O ((bytesOf y5.1)=(bytesOf y6.1))),()))
  else(W (Z,())))
  else(W (Z,())))
  else(W (Z,())))
  else(W (Z,())))
  else(W (Z,())))
  else(W (Z,())))
  else(W (Z,()))
def g(a:J I)(b:J I)(c:J Str):=f Zcp.g (1000+a.length+b.length+c.length) a b c
end rivetlaw23_DisasmBack
namespace rivetlaw23_DisasmTwice
def f(a_rivetlaw23_shown:U (G×X))(n:F)(a:J I)(b:J I)(c:J Str):U (G×X):=
  (a_rivetlaw23_shown).bind λy1=>
  (Zae.g a b c).bind λy2=>
  (Zdm.g y2.1 y2.2.1 y2.2.2.1).bind λy3=>
  (Zbs.g y2.1 y2.2.1 y2.2.2.1).bind λy4=>
  (Zbm.g y4.1).bind λy5=>
  (Zax.g y3.1).bind λy6=>
  (Zbs.g y6.1 y6.2.1 y6.2.2.1).bind λy7=>
  if y1.1 then
  (if(O (y3.2.1=0)) then
  (if(O (y4.2.1=0)) then
  (if(O (y5.2.2.1=0)) then
  (if(O (y6.2.2.2.2.1=0)) then
  (if(O (y7.2.1=0)) then
  ((Zcc.g y3.1 y5.1).bind λy8=>
  if y8.1 then(W ((O (y4.1=y7.1)),()))
  else(W (Z,())))
  else(W (Z,())))
  else(W (Z,())))
  else(W (Z,())))
  else(W (Z,())))
  else(W (Z,())))
  else(W (Z,()))
def g(a:J I)(b:J I)(c:J Str):=f Zcp.g (1000+a.length+b.length+c.length) a b c
end rivetlaw23_DisasmTwice
end Rv
