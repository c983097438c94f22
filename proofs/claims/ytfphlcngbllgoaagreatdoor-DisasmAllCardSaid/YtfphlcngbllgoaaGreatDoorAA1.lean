/- Texts put together. -/
import Derived.Test.YtfphlcngbllgoaaGreatDoorA1
set_option linter.all false
open _root_ renaming Int→I,List→S,Option→W,Unit→Y,Bool→F,Nat→G
open Decidable renaming decide→J
open Go.IntKind renaming i64→O,u32→Z,u64→H
open Option renaming some→U,none→D
open Bool renaming false→X,true→M
namespace Rv
open Go
set_option maxRecDepth 100000
def K.atA:Fn:=(181,[])
def K.rdA:Fn:=(227,[.cf (181,[])])
def K.wrA:Fn:=(228,[.cf (181,[])])
def K.atB:Fn:=(182,[])
def K.rdB:Fn:=(227,[.cf (182,[])])
def K.wrB:Fn:=(228,[.cf (182,[])])
def K.atC:Fn:=(183,[])
def K.rdC:Fn:=(227,[.cf (183,[])])
def K.wrC:Fn:=(228,[.cf (183,[])])
def K.rdE:Fn:=(229,[.c0 (.cs ([]:Str))])
def K.wrE:Fn:=(231,[.c0 (.cs ([]:Str))])
def K.rdQ:Fn:=(229,[.c0 (.cs ([61]:Str))])
def K.wrQ:Fn:=(231,[.c0 (.cs ([61]:Str))])
def K.rdN:Fn:=(185,[])
def K.wrN:Fn:=(186,[])
abbrev Sy:=Str×I×Y
abbrev It:=I×I×Str×Y
abbrev Tk:=I×I×Str×I×Y
abbrev Sn:=I×I×I×I×I×F×(S It)×Str×Y
abbrev Ln:=Str×Sn×Y
abbrev zI:It:=((0:I),((0:I),(([]:Str),())))
abbrev zT:Tk:=((0:I),((0:I),(([]:Str),((0:I),()))))
abbrev zL:Ln:=(([]:Str),(((0:I),((0:I),((0:I),((0:I),((0:I),(X,([],(([]:Str),())))))))),()))
abbrev zS:Sy:=(([]:Str),((0:I),()))
def L.opsR(k o:I):S (Fn×Fn×Y):=
 if k=1 then(if o=0 then[(K.rdA,K.wrA,()),(K.rdC,K.wrC,())] else[(K.rdA,K.wrA,()),(K.rdB,K.wrB,()),(K.rdC,K.wrC,())]) else
 if k=2 then(if o=0 then[(K.rdA,K.wrA,()),(K.rdE,K.wrE,())] else[(K.rdA,K.wrA,()),(K.rdB,K.wrB,()),(K.rdE,K.wrE,())]) else
 if k=3\/k=4 then[(K.rdA,K.wrA,())] else
 if k=5 then[(K.rdA,K.wrA,()),(K.rdB,K.wrB,()),(K.rdE,K.wrE,())] else
 if k=6 then[(K.rdC,K.wrC,())] else
 if k=7\/k=9 then[(K.rdE,K.wrE,())] else
 if k=8 then[(K.rdA,K.wrA,()),(K.rdQ,K.wrQ,())] else
 if k=10 then[(K.rdN,K.wrN,())] else[]
namespace Zar
def l12(n:G):G->(S I)->I->(S I)->I->I->W ((S I)×I×I×Y)
 |0,_,_,_,_,_=>D
 |m+1,a,b,c,d,e=>
  if(J (e<d)) then
  (if 0<=e/\e<(c.length:I) then
  (if 0<=(c.getD (e).toNat 0)/\(c.getD (e).toNat 0)<(a.length:I) then
  (if(J (65535<(a.getD ((c.getD (e).toNat (0:I))).toNat 0))) then(U ([],0,8,()))
  else
  (if 0<=(c.getD (e).toNat 0)/\(c.getD (e).toNat 0)<(a.length:I) then
  (if 0<=(c.getD (e).toNat 0)/\(c.getD (e).toNat 0)<(a.length:I) then
  ((Zar.l12 n m) (a.set ((c.getD (e).toNat (0:I))).toNat (ai .or .u32 (Z.wrap ((a.getD ((c.getD (e).toNat (0:I))).toNat 0)*2 ^ (min (16:I).toNat Z.bits))) (Z.wrap b))) (O.wrap ((c.getD (e).toNat 0)+1)) c d (O.wrap (e+1))) else D) else D)) else D) else D)
  else(U (a,b,0,()))
def l3(n:G):G->(S I)->(S I)->I->(S I)->I->I->W ((S I)×I×I×Y)
 |0,_,_,_,_,_,_=>D
 |m+1,a,b,c,d,e,i=>
  if(J (i<e)) then
  (if 0<=i/\i<(d.length:I) then
  (if(J ((d.getD (i).toNat 0)<=c))=X then
  (if(J ((a.length:I)<=(d.getD (i).toNat 0)))=X then
  (if(J (65534<(d.getD (i).toNat 0))) then(U ([],0,7,()))
  else
  ((Zar.l3 n m) a b (d.getD (i).toNat 0) d e (O.wrap (i+1))))
  else(U ([],0,7,())))
  else(U ([],0,7,()))) else D)
  else
  ((L.cloneO a).bind λy1=>
  Zar.l12 n n y1.1 0 b (b.length:I) 0)
def f(n:G)(a:S I)(b:S I):W ((S I)×I×I×Y):=
  Zar.l3 n n a b (-1) b (b.length:I) 0
def g(a:S I)(b:S I):=f (1000+a.length+b.length) a b
end Zar
namespace Zdj
def f(n:G)(a:I)(b:S I)(c:S I)(d:S Sy)(e:I):W (F×(S I)×(S I)×(S Sy)×I×Y):=
  if 0<=a/\a<(b.length:I) then
  (U ((J (e<(O.wrap (b.getD (a).toNat 0)))),b,c,d,e,())) else D
def g(a:I)(b:S I)(c:S I)(d:S Sy)(e:I):=f (1000+a.toNat+b.length+c.length+d.length+e.toNat) a b c d e
end Zdj
namespace Zbl
def l2(n:G):G->(S I)->I->I->(S I)->(S I)->(S Sy)->I->W (I×(S I)×(S I)×(S Sy)×I×Y)
 |0,_,_,_,_,_,_,_=>D
 |m+1,a,b,c,d,e,i,j=>
  if(J (c<b)) then
  (if 0<=c/\c<(a.length:I) then
  ((Zdj.g (a.getD (c).toNat 0) d e i j).bind λy1=>
  if y1.1 then(U (c,y1.2.1,y1.2.2.1,y1.2.2.2.1,y1.2.2.2.2.1,()))
  else
  ((Zbl.l2 n m) a b (O.wrap (c+1)) y1.2.1 y1.2.2.1 y1.2.2.2.1 y1.2.2.2.2.1)) else D)
  else(U ((-1),d,e,i,j,()))
def f(n:G)(a:S I)(b:S I)(c:S I)(d:S Sy)(e:I):W (I×(S I)×(S I)×(S Sy)×I×Y):=
  Zbl.l2 n n a (a.length:I) 0 b c d e
def g(a:S I)(b:S I)(c:S I)(d:S Sy)(e:I):=f (1000+a.length+b.length+c.length+d.length+e.toNat) a b c d e
end Zbl
namespace Zco
def f(n:G)(a:S I)(b:S I)(c:S I)(d:S Sy)(e:I):W (F×(S I)×(S I)×(S Sy)×I×Y):=
  (Zbl.g a b c d e).bind λy1=>
  U ((J (0<=y1.1)),y1.2.1,y1.2.2.1,y1.2.2.2.1,y1.2.2.2.2.1,())
def g(a:S I)(b:S I)(c:S I)(d:S Sy)(e:I):=f (1000+a.length+b.length+c.length+d.length+e.toNat) a b c d e
end Zco
namespace Zbu
def j4(n:G)(a:I)(b:F):W (F×Y):=
  if(!b) then
  (if(J (a=95))=X then
  (if(J (48<=a)) then(U ((J (a<=57)),()))
  else(U (X,())))
  else(U (M,())))
  else(U (X,()))
def f(n:G)(a:I)(b:F):W (F×Y):=
  if(J (65<=a)) then
  (if(J (a<=90)) then
  (if(J (a<=90)) then(U (M,()))
  else(Zbu.j4 n a b))
  else
  (if(J (97<=a)) then
  (if(J (a<=122)) then(U (M,()))
  else(Zbu.j4 n a b))
  else(Zbu.j4 n a b)))
  else
  (if(J (97<=a)) then
  (if(J (a<=122)) then(U (M,()))
  else(Zbu.j4 n a b))
  else(Zbu.j4 n a b))
def g(a:I)(b:F):=f (1000+a.toNat) a b
end Zbu
namespace Zav
def l4(n:G):G->Str->I->I->W (F×Y)
 |0,_,_,_=>D
 |m+1,a,b,c=>
  if(J (c<b)) then
  (if 0<=c/\c<(a.length:I) then
  ((Zbu.g (bt a c) (J (c=(0:I)))).bind λy1=>
  if(!y1.1) then(U (X,()))
  else((Zav.l4 n m) a b (O.wrap (c+1)))) else D)
  else
  (if 0<=(0:I)/\(0:I)<(a.length:I) then
  (if(J ((bt a 0)=82)) then
  (if(J ((a.length:I)=(2:I)))=X then
  (if(J ((a.length:I)=(3:I))) then
  (if 0<=(1:I)/\(1:I)<=(a.length:I) then
  ((L.trimO ((a.take (((a.length:I)).toNat)).drop (((1:I)).toNat)) ([48,49,50,51,52,53,54,55,56,57]:Str)).bind λy2=>
  U ((!(J (y2.1=([]:Str)))),())) else D)
  else(U (M,())))
  else
  (if 0<=(1:I)/\(1:I)<=(a.length:I) then
  ((L.trimO ((a.take (((a.length:I)).toNat)).drop (((1:I)).toNat)) ([48,49,50,51,52,53,54,55,56,57]:Str)).bind λy3=>
  U ((!(J (y3.1=([]:Str)))),())) else D))
  else(U (M,()))) else D)
def f(n:G)(a:Str):W (F×Y):=
  if(J ((a.length:I)=(0:I)))=X then
  (if(J ((12:I)<(a.length:I))) then(U (X,()))
  else(Zav.l4 n n a (a.length:I) 0))
  else(U (X,()))
def g(a:Str):=f (1000+a.length) a
end Zav
namespace Zaq
def j6(n:G)(rl2:(S Sy)->I->I->(S I)->(S I)->(S Sy)->W (F×(S I)×(S I)×(S Sy)×Y))(a:S Sy)(b:I)(c:I)(d:S I)(e:S I)(i:S Sy):W (F×(S I)×(S I)×(S Sy)×Y):=
  rl2 a b (O.wrap (c+1)) d e i
def l2(n:G):G->(S Sy)->I->I->(S I)->(S I)->(S Sy)->W (F×(S I)×(S I)×(S Sy)×Y)
 |0,_,_,_,_,_,_=>D
 |m+1,a,b,c,d,e,i=>
  if(J (c<b)) then
  (if 0<=c/\c<(a.length:I) then
  ((Zav.g ((a.getD (c).toNat zS).1)).bind λy1=>
  if(!y1.1)=X then
  (if(J (0<c)) then
  (if 0<=(O.wrap (c-1))/\(O.wrap (c-1))<(i.length:I) then
  (if((Op.bytesLess ((a.getD (c).toNat zS).1) ((i.getD ((O.wrap (c-(1:I)))).toNat zS).1))||(J ((a.getD (c).toNat zS).1=(i.getD ((O.wrap (c-(1:I)))).toNat zS).1))) then(U (X,d,e,i,()))
  else(Zaq.j6 n (Zaq.l2 n m) a b c d e i)) else D)
  else(Zaq.j6 n (Zaq.l2 n m) a b c d e i))
  else(U (X,d,e,i,()))) else D)
  else(U (M,d,e,i,()))
def f(n:G)(a:S I)(b:S I)(c:S Sy):W (F×(S I)×(S I)×(S Sy)×Y):=
  Zaq.l2 n n c (c.length:I) 0 a b c
def g(a:S I)(b:S I)(c:S Sy):=f (1000+a.length+b.length+c.length) a b c
end Zaq
namespace Zcz
def f(n:G)(a:Str)(b:I)(c:I):W (F×I×Y):=
  if(J (b<0))=X then
  (if(J (c<b))=X then(U ((J ((Int.tmod b 4)≠0)),c,()))
  else(U (M,c,())))
  else(U (M,c,()))
def g(a:Str)(b:I)(c:I):=f (1000+a.length+b.toNat+c.toNat) a b c
end Zcz
namespace Zbm
def l2(n:G):G->(S Sy)->I->I->I->W (I×I×Y)
 |0,_,_,_,_=>D
 |m+1,a,b,c,d=>
  if(J (c<b)) then
  (if 0<=c/\c<(a.length:I) then
  ((Zcz.g ((a.getD (c).toNat zS).1) (((a.getD (c).toNat zS).2).1) d).bind λy1=>
  if y1.1 then(U (c,y1.2.1,()))
  else
  ((Zbm.l2 n m) a b (O.wrap (c+1)) y1.2.1)) else D)
  else(U ((-1),d,()))
def f(n:G)(a:S Sy)(b:I):W (I×I×Y):=
  Zbm.l2 n n a (a.length:I) 0 b
def g(a:S Sy)(b:I):=f (1000+a.length+b.toNat) a b
end Zbm
namespace Zcp
def f(n:G)(a:S Sy)(b:I):W (F×I×Y):=
  (Zbm.g a b).bind λy1=>
  U ((J (0<=y1.1)),y1.2.1,())
def g(a:S Sy)(b:I):=f (1000+a.length+b.toNat) a b
end Zcp
namespace Zbn
def f(n:G)(a:S I)(b:S I)(c:S Sy):W (I×Y):=
  if(J ((1024:I)<(a.length:I)))=X then
  (if(J ((64:I)<(c.length:I))) then(U (2,()))
  else
  ((Zar.g a b).bind λy1=>
  if(J (y1.2.2.1=7)) then(U (y1.2.2.1,()))
  else
  ((Zco.g b a b c (O.wrap ((4:I)*(a.length:I)))).bind λy2=>
  if y2.1 then(U (8,()))
  else
  ((Zaq.g y2.2.1 y2.2.2.1 y2.2.2.2.1).bind λy3=>
  if(!y3.1) then(U (9,()))
  else
  ((Zcp.g y3.2.2.2.1 y2.2.2.2.2.1).bind λy4=>
  if y4.1 then(U (8,()))
  else(U (0,())))))))
  else(U (2,()))
def g(a:S I)(b:S I)(c:S Sy):=f (1000+a.length+b.length+c.length) a b c
end Zbn
namespace Zcq
def l2(n:G):G->(S I)->I->I->I->W (I×Y)
 |0,_,_,_,_=>D
 |m+1,a,b,c,d=>
  if(J (d<c)) then
  (if 0<=d/\d<(a.length:I) then
  (if(J (b=(a.getD (d).toNat 0))) then(U (d,()))
  else
  ((Zcq.l2 n m) a b c (O.wrap (d+1)))) else D)
  else(U ((-1),()))
def f(n:G)(a:S I)(b:I):W (I×Y):=
  Zcq.l2 n n a b (a.length:I) 0
def g(a:S I)(b:I):=f (1000+a.length+b.toNat) a b
end Zcq
namespace Zda
def f(n:G)(a:S I)(b:I):W (F×Y):=
  (Zcq.g a b).bind λy1=>
  U ((J (0<=y1.1)),())
def g(a:S I)(b:I):=f (1000+a.length+b.toNat) a b
end Zda
namespace Zdp
def f(n:G)(a:I):W (F×Y):=
  U ((J (a≠a)),())
def g(a:I):=f (1000+a.toNat) a
end Zdp
namespace Zdq
def f(n:G)(a:I)(b:I):W (F×Y):=
  (Zdp.g a).bind λy1=>
  if y1.1 then
  ((Zdp.g b).bind λy2=>
  if(!y2.1)=X then(U ((J (a<b)),()))
  else(U (M,())))
  else(U ((J (a<b)),()))
def g(a:I)(b:I):=f (1000+a.toNat+b.toNat) a b
end Zdq
namespace Zdr
def f(n:G)(a:I):W (F×Y):=
  U ((J (a≠a)),())
def g(a:I):=f (1000+a.toNat) a
end Zdr
namespace Zbo
def l3(n:G):G->(S I)->I->I->I->I->W (I×F×Y)
 |0,_,_,_,_,_=>D
 |m+1,a,b,c,d,e=>
  if(J (d<e)) then
  (if 0<=(O.wrap (((H.wrap (O.wrap (d+e)))).fdiv (2 ^ (min (1:I).toNat H.bits))))/\(O.wrap (((H.wrap (O.wrap (d+e)))).fdiv (2 ^ (min (1:I).toNat H.bits))))<(a.length:I) then
  ((Zdq.g (a.getD ((O.wrap (((H.wrap (O.wrap (d+e)))).fdiv (2 ^ (min (1:I).toNat H.bits))))).toNat 0) b).bind λy1=>
  if y1.1 then
  ((Zbo.l3 n m) a b c (O.wrap ((O.wrap (((H.wrap (O.wrap (d+e)))).fdiv (2 ^ (min (1:I).toNat H.bits))))+1)) e)
  else
  ((Zbo.l3 n m) a b c d (O.wrap (((H.wrap (O.wrap (d+e)))).fdiv (2 ^ (min (1:I).toNat H.bits)))))) else D)
  else
  (if(J (d<c)) then
  (if 0<=d/\d<(a.length:I) then
  (if(J ((a.getD (d).toNat 0)=b))=X then
  (if 0<=d/\d<(a.length:I) then
  ((Zdr.g (a.getD (d).toNat (0:I))).bind λy2=>
  if y2.1 then
  ((Zdr.g b).bind λy3=>
  U (d,y3.1,()))
  else(U (d,X,()))) else D)
  else(U (d,M,()))) else D)
  else(U (d,X,())))
def f(n:G)(a:S I)(b:I):W (I×F×Y):=
  Zbo.l3 n n a b (a.length:I) 0 (a.length:I)
def g(a:S I)(b:I):=f (1000+a.length+b.toNat) a b
end Zbo
namespace Zag
def j9(n:G)(rl4:Str->I->I->W (F×Y))(a:Str)(b:I)(c:I):W (F×Y):=
  rl4 a b (O.wrap (c+1))
def l4(n:G):G->Str->I->I->W (F×Y)
 |0,_,_,_=>D
 |m+1,a,b,c=>
  if(J (c<b)) then
  (if 0<=c/\c<(a.length:I) then
  (if(J ((ai .or .u8 (bt a c) 32)<97))=X then
  (if(J (122<(ai .or .u8 (bt a c) 32)))=X then
  (if 0<=c/\c<(a.length:I) then
  (if(J ((bt a c)<65)) then
  (if 0<=c/\c<(a.length:I) then
  (if(J ((bt a c)≠95)) then
  (if 0<=c/\c<(a.length:I) then
  (if(J ((bt a c)<48))=X then
  (if 0<=c/\c<(a.length:I) then
  (if(J (57<(bt a c))) then(U (X,()))
  else(Zag.j9 n (Zag.l4 n m) a b c)) else D)
  else(U (X,()))) else D)
  else(Zag.j9 n (Zag.l4 n m) a b c)) else D)
  else(Zag.j9 n (Zag.l4 n m) a b c)) else D)
  else
  (if 0<=c/\c<(a.length:I) then
  (if(J ((bt a c)≠95)) then
  (if 0<=c/\c<(a.length:I) then
  (if(J ((bt a c)<48))=X then
  (if 0<=c/\c<(a.length:I) then
  (if(J (57<(bt a c))) then(U (X,()))
  else(Zag.j9 n (Zag.l4 n m) a b c)) else D)
  else(U (X,()))) else D)
  else(Zag.j9 n (Zag.l4 n m) a b c)) else D))
  else
  (if 0<=c/\c<(a.length:I) then
  (if(J ((bt a c)≠95)) then
  (if 0<=c/\c<(a.length:I) then
  (if(J ((bt a c)<48))=X then
  (if 0<=c/\c<(a.length:I) then
  (if(J (57<(bt a c))) then(U (X,()))
  else(Zag.j9 n (Zag.l4 n m) a b c)) else D)
  else(U (X,()))) else D)
  else(Zag.j9 n (Zag.l4 n m) a b c)) else D)) else D)
  else
  (if 0<=(0:I)/\(0:I)<(a.length:I) then
  (if(J ((bt a 0)=82)) then
  (if(J ((a.length:I)=(2:I)))=X then
  (if(J ((a.length:I)=(3:I))) then
  (if 0<=(1:I)/\(1:I)<=(a.length:I) then
  ((L.trimO ((a.take (((a.length:I)).toNat)).drop (((1:I)).toNat)) ([48,49,50,51,52,53,54,55,56,57]:Str)).bind λy1=>
  U ((!(J (y1.1=([]:Str)))),())) else D)
  else(U (M,())))
  else
  (if 0<=(1:I)/\(1:I)<=(a.length:I) then
  ((L.trimO ((a.take (((a.length:I)).toNat)).drop (((1:I)).toNat)) ([48,49,50,51,52,53,54,55,56,57]:Str)).bind λy2=>
  U ((!(J (y2.1=([]:Str)))),())) else D))
  else(U (M,()))) else D)
def j3(n:G)(a:Str):W (F×Y):=
  Zag.l4 n n a (a.length:I) 0
def f(n:G)(a:Str):W (F×Y):=
  if(J (a=([]:Str)))=X then
  (if(J ((12:I)<(a.length:I)))=X then
  (if 0<=(0:I)/\(0:I)<(a.length:I) then
  (if(J (48<=(bt a 0))) then
  (if 0<=(0:I)/\(0:I)<(a.length:I) then
  (if(J ((bt a 0)<=57)) then(U (X,()))
  else(Zag.j3 n a)) else D)
  else(Zag.j3 n a)) else D)
  else(U (X,())))
  else(U (X,()))
def g(a:Str):=f (1000+a.length) a
end Zag
namespace Zbv
def j2(n:G)(a:F)(b:I)(c:I)(d:Str):W (I×F×Y):=
  if(J (b=1)) then(U (0,(J (d=([]:Str))),()))
  else
  (if(J (b=2)) then
  (if(J (c=0)) then
  ((Zag.g d).bind λy1=>
  U (0,y1.1,()))
  else(U (0,X,())))
  else
  (if(J (b=3)) then(U (1,a,()))
  else
  (if(J (b=4)) then
  (if(J (b=4)) then(U (2,a,()))
  else(U (0,X,())))
  else
  (if(J (b=5)) then
  (if(J (b=5)) then(U (2,a,()))
  else(U (0,X,())))
  else
  (if(J (b=6)) then(U (2,a,()))
  else(U (0,X,())))))))
def f(n:G)(a:I)(b:I)(c:Str):W (I×F×Y):=
  if(J (b=0)) then(Zbv.j2 n (J (c=([]:Str))) a b c)
  else(Zbv.j2 n X a b c)
def g(a:I)(b:I)(c:Str):=f (1000+a.toNat+b.toNat+c.length) a b c
end Zbv
namespace Zbg
def l3(n:G):G->(S It)->I->(S It)->I->I->W (F×Y)
 |0,_,_,_,_,_=>D
 |m+1,a,b,c,d,e=>
  if(J (e<d)) then
  (if 0<=e/\e<(c.length:I) then
  ((Zbv.g ((c.getD (e).toNat zI).1) (((c.getD (e).toNat zI).2).1) ((((c.getD (e).toNat zI).2).2).1)).bind λy1=>
  if(!y1.2.1)=X then
  (if(J (b<y1.1)) then(U (X,()))
  else
  ((Zbg.l3 n m) a (O.wrap (b+(O.wrap ((1:I)-y1.1)))) c d (O.wrap (e+1))))
  else(U (X,()))) else D)
  else
  (if(J (b=1)) then(U ((J ((a.length:I)<=(64:I))),()))
  else(U (X,())))
def f(n:G)(a:S It):W (F×Y):=
  Zbg.l3 n n a 0 a (a.length:I) 0
def g(a:S It):=f (1000+a.length) a
end Zbg
namespace Zay
def f(n:G)(a:I):W (Str×Y):=
  if(J (a<0))=X then
  (if(J (16<=a)) then(U (([]:Str),()))
  else
  ((L.itoaO a).bind λy1=>
  if([82]:Str).length+y1.1.length<=9223372036854775807 then(U ((([82]:Str)++y1.1),())) else D))
  else(U (([]:Str),()))
def g(a:I):=f (1000+a.toNat) a
end Zay
namespace Zds
def f(n:G)(a:I)(b:I):W (Str×Y):=
  (L.formatUintO a b).bind λy1=>
  U (y1.1,())
def g(a:I)(b:I):=f (1000+a.toNat+b.toNat) a b
end Zds
namespace Zaz
def f(n:G)(a:Str)(b:I)(c:I):W (Str×Y):=
  if(J (b<c)) then
  (if([40]:Str).length+a.length<=9223372036854775807 then
  (if(([40]:Str)++a).length+([41]:Str).length<=9223372036854775807 then(U (((([40]:Str)++a)++([41]:Str)),())) else D) else D)
  else(U (a,()))
def g(a:Str)(b:I)(c:I):=f (1000+a.length+b.toNat+c.toNat) a b c
end Zaz
namespace Zai
def j23(n:G)(rl5:(S Sy)->(S It)->I->I->W Sy)(a:S Sy)(b:I)(c:S It)(d:I)(e:I)(i:Str)(j:I):W Sy:=
  if 0<=(O.wrap ((a.length:I)-b))/\(O.wrap ((a.length:I)-b))<=(a.length:I) then
  (if((a.take ((O.wrap ((a.length:I)-b))).toNat).length+([(i,j,())]:S Sy).length)*24<=140737488355328/\0<24/\0<2 then
  (rl5 ((a.take ((O.wrap ((a.length:I)-b))).toNat)++([(i,j,())]:S Sy)) c d (O.wrap (e+1))) else D) else D
def l5(n:G):G->(S Sy)->(S It)->I->I->W Sy
 |0,_,_,_,_=>D
 |m+1,a,b,c,d=>
  if(J (d<c)) then
  (if 0<=d/\d<(b.length:I) then
  ((Zbv.g ((b.getD (d).toNat zI).1) (((b.getD (d).toNat zI).2).1) ((((b.getD (d).toNat zI).2).2).1)).bind λy1=>
  if 0<=(O.wrap ((a.length:I)-y1.1))/\(O.wrap ((a.length:I)-y1.1))<=(a.length:I) then
  (if(J ((b.getD (d).toNat zI).1=1)) then
  ((Zds.g (H.wrap ((b.getD (d).toNat zI).2).1) (10:I)).bind λy2=>
  Zai.j23 n (Zai.l5 n m) a y1.1 b c d y2.1 2)
  else
  (if(J ((b.getD (d).toNat zI).1=2)) then
  (Zai.j23 n (Zai.l5 n m) a y1.1 b c d ((((b.getD (d).toNat zI).2).2).1) 2)
  else
  (if(J ((b.getD (d).toNat zI).1=3)) then
  (if 0<=(0:I)/\(0:I)<(((a.take (((a.length:I)).toNat)).drop (((O.wrap ((a.length:I)-y1.1))).toNat)).length:I) then
  ((Zaz.g ((((a.take (((a.length:I)).toNat)).drop (((O.wrap ((a.length:I)-y1.1))).toNat)).getD ((0:I)).toNat zS).1) (((((a.take (((a.length:I)).toNat)).drop (((O.wrap ((a.length:I)-y1.1))).toNat)).getD ((0:I)).toNat zS).2).1) (2:I)).bind λy3=>
  if([45]:Str).length+y3.1.length<=9223372036854775807 then
  (Zai.j23 n (Zai.l5 n m) a y1.1 b c d (([45]:Str)++y3.1) 2) else D) else D)
  else
  (if(J ((b.getD (d).toNat zI).1=4)) then
  (if 0<=(0:I)/\(0:I)<(((a.take (((a.length:I)).toNat)).drop (((O.wrap ((a.length:I)-y1.1))).toNat)).length:I) then
  ((Zaz.g ((((a.take (((a.length:I)).toNat)).drop (((O.wrap ((a.length:I)-y1.1))).toNat)).getD ((0:I)).toNat zS).1) (((((a.take (((a.length:I)).toNat)).drop (((O.wrap ((a.length:I)-y1.1))).toNat)).getD ((0:I)).toNat zS).2).1) (0:I)).bind λy4=>
  if y4.1.length+([32,43,32]:Str).length<=9223372036854775807 then
  (if 0<=(1:I)/\(1:I)<(((a.take (((a.length:I)).toNat)).drop (((O.wrap ((a.length:I)-y1.1))).toNat)).length:I) then
  ((Zaz.g ((((a.take (((a.length:I)).toNat)).drop (((O.wrap ((a.length:I)-y1.1))).toNat)).getD ((1:I)).toNat zS).1) (((((a.take (((a.length:I)).toNat)).drop (((O.wrap ((a.length:I)-y1.1))).toNat)).getD ((1:I)).toNat zS).2).1) (1:I)).bind λy5=>
  if(y4.1++([32,43,32]:Str)).length+y5.1.length<=9223372036854775807 then
  (Zai.j23 n (Zai.l5 n m) a y1.1 b c d ((y4.1++([32,43,32]:Str))++y5.1) 0) else D) else D) else D) else D)
  else
  (if(J ((b.getD (d).toNat zI).1=5)) then
  (if 0<=(0:I)/\(0:I)<(((a.take (((a.length:I)).toNat)).drop (((O.wrap ((a.length:I)-y1.1))).toNat)).length:I) then
  ((Zaz.g ((((a.take (((a.length:I)).toNat)).drop (((O.wrap ((a.length:I)-y1.1))).toNat)).getD ((0:I)).toNat zS).1) (((((a.take (((a.length:I)).toNat)).drop (((O.wrap ((a.length:I)-y1.1))).toNat)).getD ((0:I)).toNat zS).2).1) (0:I)).bind λy6=>
  if y6.1.length+([32,45,32]:Str).length<=9223372036854775807 then
  (if 0<=(1:I)/\(1:I)<(((a.take (((a.length:I)).toNat)).drop (((O.wrap ((a.length:I)-y1.1))).toNat)).length:I) then
  ((Zaz.g ((((a.take (((a.length:I)).toNat)).drop (((O.wrap ((a.length:I)-y1.1))).toNat)).getD ((1:I)).toNat zS).1) (((((a.take (((a.length:I)).toNat)).drop (((O.wrap ((a.length:I)-y1.1))).toNat)).getD ((1:I)).toNat zS).2).1) (1:I)).bind λy7=>
  if(y6.1++([32,45,32]:Str)).length+y7.1.length<=9223372036854775807 then
  (Zai.j23 n (Zai.l5 n m) a y1.1 b c d ((y6.1++([32,45,32]:Str))++y7.1) 0) else D) else D) else D) else D)
  else
  (if(J ((b.getD (d).toNat zI).1=6)) then
  (if 0<=(0:I)/\(0:I)<(((a.take (((a.length:I)).toNat)).drop (((O.wrap ((a.length:I)-y1.1))).toNat)).length:I) then
  ((Zaz.g ((((a.take (((a.length:I)).toNat)).drop (((O.wrap ((a.length:I)-y1.1))).toNat)).getD ((0:I)).toNat zS).1) (((((a.take (((a.length:I)).toNat)).drop (((O.wrap ((a.length:I)-y1.1))).toNat)).getD ((0:I)).toNat zS).2).1) (1:I)).bind λy8=>
  if y8.1.length+([32,42,32]:Str).length<=9223372036854775807 then
  (if 0<=(1:I)/\(1:I)<(((a.take (((a.length:I)).toNat)).drop (((O.wrap ((a.length:I)-y1.1))).toNat)).length:I) then
  ((Zaz.g ((((a.take (((a.length:I)).toNat)).drop (((O.wrap ((a.length:I)-y1.1))).toNat)).getD ((1:I)).toNat zS).1) (((((a.take (((a.length:I)).toNat)).drop (((O.wrap ((a.length:I)-y1.1))).toNat)).getD ((1:I)).toNat zS).2).1) (2:I)).bind λy9=>
  if(y8.1++([32,42,32]:Str)).length+y9.1.length<=9223372036854775807 then
  (Zai.j23 n (Zai.l5 n m) a y1.1 b c d ((y8.1++([32,42,32]:Str))++y9.1) 1) else D) else D) else D) else D)
  else
  (Zai.j23 n (Zai.l5 n m) a y1.1 b c d ([]:Str) 0))))))) else D) else D)
  else
  (if 0<=(0:I)/\(0:I)<(a.length:I) then
  (U ((a.getD ((0:I)).toNat zS).1,0,())) else D)
def f(n:G)(a:S It):W Sy:=
  (Zbg.g a).bind λy1=>
  if(!y1.1) then(U (([]:Str),23,()))
  else(Zai.l5 n n ([]) a (a.length:I) 0)
def g(a:S It):=f (1000+a.length) a
end Zai
namespace Zas
def f(n:G)(a:I):W (I×Y):=
  U ((ai .or .u8 a 32),())
def g(a:I):=f (1000+a.toNat) a
end Zas
namespace Zad
def j55(n:G)(rl36:I->F->Str->I->I->F->I->(S I)->I->I->W (I×(W I)×Y))(a:I)(b:F)(c:Str)(d:I)(e:I)(i:F)(j:I)(k:S I)(l:I)(o:I):W (I×(W I)×Y):=
  rl36 a b c d e i j k l (O.wrap (o+1))
def j46(n:G)(rl36:I->F->Str->I->I->F->I->(S I)->I->I->W (I×(W I)×Y))(a:I)(b:F)(c:Str)(d:I)(e:I)(i:F)(j:I)(k:I)(l:S I)(o:I)(p:I):W (I×(W I)×Y):=
  if(J ((IntKind.u8.wrap a)<=k)) then(U (0,(U 2),()))
  else
  (if(J (d<=j)) then(U (e,(U 1),()))
  else
  (if(J ((H.wrap ((H.wrap (j*(H.wrap a)))+(H.wrap k)))<(H.wrap (j*(H.wrap a)))))=X then
  (if(J (e<(H.wrap ((H.wrap (j*(H.wrap a)))+(H.wrap k))))) then(U (e,(U 1),()))
  else
  (Zad.j55 n rl36 a b c d e i (H.wrap ((H.wrap (j*(H.wrap a)))+(H.wrap k))) l o p))
  else(U (e,(U 1),()))))
def l36(n:G):G->I->F->Str->I->I->F->I->(S I)->I->I->W (I×(W I)×Y)
 |0,_,_,_,_,_,_,_,_,_,_=>D
 |m+1,a,b,c,d,e,i,j,k,l,o=>
  if(J (o<l)) then
  (if 0<=o/\o<(k.length:I) then
  (if(J ((k.getD (o).toNat 0)=95)) then
  (if b then
  (Zad.j55 n (Zad.l36 n m) a b c d e M j k l o)
  else
  (if(J (48<=(k.getD (o).toNat 0))) then
  (if(J ((k.getD (o).toNat 0)<=57)) then
  (Zad.j46 n (Zad.l36 n m) a b c d e i j (IntKind.u8.wrap ((k.getD (o).toNat 0)-48)) k l o)
  else
  ((Zas.g (k.getD (o).toNat (0:I))).bind λy1=>
  if(J (97<=y1.1)) then
  ((Zas.g (k.getD (o).toNat (0:I))).bind λy2=>
  if(J (y2.1<=122)) then
  ((Zas.g (k.getD (o).toNat (0:I))).bind λy3=>
  Zad.j46 n (Zad.l36 n m) a b c d e i j (IntKind.u8.wrap ((IntKind.u8.wrap (y3.1-97))+10)) k l o)
  else(U (0,(U 2),())))
  else(U (0,(U 2),()))))
  else
  ((Zas.g (k.getD (o).toNat (0:I))).bind λy4=>
  if(J (97<=y4.1)) then
  ((Zas.g (k.getD (o).toNat (0:I))).bind λy5=>
  if(J (y5.1<=122)) then
  ((Zas.g (k.getD (o).toNat (0:I))).bind λy6=>
  Zad.j46 n (Zad.l36 n m) a b c d e i j (IntKind.u8.wrap ((IntKind.u8.wrap (y6.1-97))+10)) k l o)
  else(U (0,(U 2),())))
  else(U (0,(U 2),())))))
  else
  (if(J (48<=(k.getD (o).toNat 0))) then
  (if(J ((k.getD (o).toNat 0)<=57)) then
  (Zad.j46 n (Zad.l36 n m) a b c d e i j (IntKind.u8.wrap ((k.getD (o).toNat 0)-48)) k l o)
  else
  ((Zas.g (k.getD (o).toNat (0:I))).bind λy7=>
  if(J (97<=y7.1)) then
  ((Zas.g (k.getD (o).toNat (0:I))).bind λy8=>
  if(J (y8.1<=122)) then
  ((Zas.g (k.getD (o).toNat (0:I))).bind λy9=>
  Zad.j46 n (Zad.l36 n m) a b c d e i j (IntKind.u8.wrap ((IntKind.u8.wrap (y9.1-97))+10)) k l o)
  else(U (0,(U 2),())))
  else(U (0,(U 2),()))))
  else
  ((Zas.g (k.getD (o).toNat (0:I))).bind λy10=>
  if(J (97<=y10.1)) then
  ((Zas.g (k.getD (o).toNat (0:I))).bind λy11=>
  if(J (y11.1<=122)) then
  ((Zas.g (k.getD (o).toNat (0:I))).bind λy12=>
  Zad.j46 n (Zad.l36 n m) a b c d e i j (IntKind.u8.wrap ((IntKind.u8.wrap (y12.1-97))+10)) k l o)
  else(U (0,(U 2),())))
  else(U (0,(U 2),()))))) else D)
  else
  (if i then
  ((L.underscoreO c).bind λy13=>
  if(!y13.1) then(U (0,(U 2),()))
  else(U (j,D,())))
  else(U (j,D,())))
def j32(n:G)(a:Str)(b:I)(c:I)(d:F)(e:Str)(i:I):W (I×(W I)×Y):=
  if(H.wrap c)<0 then D else
  (Zad.l36 n n b d e i (H.wrap ((H.wrap ((1:I)*2 ^ (min (H.wrap c).toNat H.bits)))-1)) X 0 (a.map λb=>(b.toNat:I)) ((a.map λb=>(b.toNat:I)).length:I) 0)
def j25(n:G)(a:Str)(b:I)(c:I)(d:F)(e:Str):W (I×(W I)×Y):=
  if(J (b=10)) then
  (Zad.j32 n a b c d e 1844674407370955162)
  else
  (if(J (b=16)) then
  (Zad.j32 n a b c d e 1152921504606846976)
  else
  (if(H.wrap b)=0 then D else
  (Zad.j32 n a b c d e (H.wrap ((H.wrap (Int.tdiv 18446744073709551615 (H.wrap b)))+1)))))
def j21(n:G)(a:Str)(b:I)(c:I)(d:F)(e:Str):W (I×(W I)×Y):=
  if(J (c=0)) then(Zad.j25 n a b 64 d e)
  else
  (if(J (c<0))=X then
  (if(J (64<c)) then(U (0,(U 4),()))
  else(Zad.j25 n a b c d e))
  else(U (0,(U 4),())))
def j17(n:G)(a:Str)(b:I)(c:I)(d:F)(e:Str):W (I×(W I)×Y):=
  if 0<=(2:I)/\(2:I)<=(a.length:I) then
  (Zad.j21 n ((a.take (((a.length:I)).toNat)).drop (((2:I)).toNat)) b c d e) else D
def j20(n:G)(a:Str)(b:I)(c:I)(d:F)(e:Str):W (I×(W I)×Y):=
  if 0<=(2:I)/\(2:I)<=(a.length:I) then
  (Zad.j21 n ((a.take (((a.length:I)).toNat)).drop (((2:I)).toNat)) b c d e) else D
def j11(n:G)(a:Str)(b:I)(c:I)(d:F)(e:Str):W (I×(W I)×Y):=
  if 0<=(1:I)/\(1:I)<=(a.length:I) then
  (Zad.j21 n ((a.take (((a.length:I)).toNat)).drop (((1:I)).toNat)) b c d e) else D
def j9(n:G)(a:Str)(b:I)(c:I)(d:F)(e:Str):W (I×(W I)×Y):=
  if 0<=(0:I)/\(0:I)<(a.length:I) then
  (if(J ((bt a 0)=48)) then
  (if(J ((3:I)<=(a.length:I))) then
  (if 0<=(1:I)/\(1:I)<(a.length:I) then
  ((Zas.g (bt a (1:I))).bind λy1=>
  if(J (y1.1=98)) then
  (if 0<=(2:I)/\(2:I)<=(a.length:I) then
  (Zad.j21 n ((a.take (((a.length:I)).toNat)).drop (((2:I)).toNat)) 2 c d e) else D)
  else
  (if(J ((3:I)<=(a.length:I))) then
  (if 0<=(1:I)/\(1:I)<(a.length:I) then
  ((Zas.g (bt a (1:I))).bind λy2=>
  if(J (y2.1=111)) then(Zad.j17 n a 8 c d e)
  else
  (if(J ((3:I)<=(a.length:I))) then
  (if 0<=(1:I)/\(1:I)<(a.length:I) then
  ((Zas.g (bt a (1:I))).bind λy3=>
  if(J (y3.1=120)) then(Zad.j20 n a 16 c d e)
  else(Zad.j11 n a 8 c d e)) else D)
  else(Zad.j11 n a 8 c d e))) else D)
  else
  (if(J ((3:I)<=(a.length:I))) then
  (if 0<=(1:I)/\(1:I)<(a.length:I) then
  ((Zas.g (bt a (1:I))).bind λy4=>
  if(J (y4.1=120)) then(Zad.j20 n a 16 c d e)
  else(Zad.j11 n a 8 c d e)) else D)
  else(Zad.j11 n a 8 c d e)))) else D)
  else
  (if(J ((3:I)<=(a.length:I))) then
  (if 0<=(1:I)/\(1:I)<(a.length:I) then
  ((Zas.g (bt a (1:I))).bind λy5=>
  if(J (y5.1=111)) then(Zad.j17 n a 8 c d e)
  else
  (if(J ((3:I)<=(a.length:I))) then
  (if 0<=(1:I)/\(1:I)<(a.length:I) then
  ((Zas.g (bt a (1:I))).bind λy6=>
  if(J (y6.1=120)) then(Zad.j20 n a 16 c d e)
  else(Zad.j11 n a 8 c d e)) else D)
  else(Zad.j11 n a 8 c d e))) else D)
  else
  (if(J ((3:I)<=(a.length:I))) then
  (if 0<=(1:I)/\(1:I)<(a.length:I) then
  ((Zas.g (bt a (1:I))).bind λy7=>
  if(J (y7.1=120)) then(Zad.j20 n a 16 c d e)
  else(Zad.j11 n a 8 c d e)) else D)
  else(Zad.j11 n a 8 c d e))))
  else(Zad.j21 n a b c d e)) else D
def f(n:G)(a:Str)(b:I)(c:I):W (I×(W I)×Y):=
  if(J (a=([]:Str))) then(U (0,(U 2),()))
  else
  (if(J (2<=b)) then
  (if(J (b<=36)) then
  (Zad.j21 n a b c (J (b=0)) a)
  else
  (if(J (b=0)) then
  (Zad.j9 n a 10 c (J (b=0)) a)
  else(U (0,(U 3),()))))
  else
  (if(J (b=0)) then
  (Zad.j9 n a 10 c (J (b=0)) a)
  else(U (0,(U 3),()))))
def g(a:Str)(b:I)(c:I):=f (1000+a.length+b.toNat+c.toNat) a b c
end Zad
namespace Zbh
def j21(n:G)(a:F)(b:I):W (I×(W I)×Y):=
  if a then
  (U ((O.wrap (0-(O.wrap b))),D,()))
  else(U ((O.wrap b),D,()))
def j19(n:G)(a:F)(b:I)(c:I):W (I×(W I)×Y):=
  if a then
  (if(J (c<b)) then
  (U ((O.wrap (0-(O.wrap c))),(U 1),()))
  else(Zbh.j21 n a b))
  else(Zbh.j21 n a b)
def j16(n:G)(a:I)(b:F)(c:I):W (I×(W I)×Y):=
  if(H.wrap (O.wrap (a-1)))<0 then D else
  (if(!b) then
  (if(J ((H.wrap ((1:I)*2 ^ (min (H.wrap (O.wrap (a-(1:I)))).toNat H.bits)))<=c)) then
  (U ((O.wrap (H.wrap ((H.wrap ((1:I)*2 ^ (min (H.wrap (O.wrap (a-(1:I)))).toNat H.bits)))-1))),(U 1),()))
  else
  (Zbh.j19 n b c (H.wrap ((1:I)*2 ^ (min (H.wrap (O.wrap (a-(1:I)))).toNat H.bits)))))
  else
  (Zbh.j19 n b c (H.wrap ((1:I)*2 ^ (min (H.wrap (O.wrap (a-(1:I)))).toNat H.bits)))))
def j14(n:G)(a:I)(b:F)(c:I):W (I×(W I)×Y):=
  if(J (a=0)) then(Zbh.j16 n 64 b c)
  else(Zbh.j16 n a b c)
def j10(n:G)(a:Str)(b:I)(c:I)(d:F):W (I×(W I)×Y):=
  (Zad.g a b c).bind λy1=>
  if(!y1.2.1.isNone) then
  (if(!(J (y1.2.1=(U 1)))) then(U (0,y1.2.1,()))
  else(Zbh.j14 n c d y1.1))
  else(Zbh.j14 n c d y1.1)
def f(n:G)(a:Str)(b:I)(c:I):W (I×(W I)×Y):=
  if(J (a=([]:Str))) then(U (0,(U 2),()))
  else
  (if 0<=(0:I)/\(0:I)<(a.length:I) then
  (if(J ((bt a 0)=43)) then
  (if 0<=(1:I)/\(1:I)<=(a.length:I) then
  (Zbh.j10 n ((a.take (((a.length:I)).toNat)).drop (((1:I)).toNat)) b c X) else D)
  else
  (if(J ((bt a 0)=45)) then
  (if 0<=(1:I)/\(1:I)<=(a.length:I) then
  (Zbh.j10 n ((a.take (((a.length:I)).toNat)).drop (((1:I)).toNat)) b c M) else D)
  else(Zbh.j10 n a b c X))) else D)
def g(a:Str)(b:I)(c:I):=f (1000+a.length+b.toNat+c.toNat) a b c
end Zbh
namespace Zbw
def l10(n:G):G->Str->I->(S I)->I->I->W (I×(W I)×Y)
 |0,_,_,_,_,_=>D
 |m+1,a,b,c,d,e=>
  if(J (e<d)) then
  (if 0<=e/\e<(c.length:I) then
  (if(J (9<(IntKind.u8.wrap ((c.getD (e).toNat 0)-48)))) then(U (0,(U 2),()))
  else
  ((Zbw.l10 n m) a (O.wrap ((O.wrap (b*10))+(O.wrap (IntKind.u8.wrap ((c.getD (e).toNat 0)-48))))) c d (O.wrap (e+1)))) else D)
  else
  (if 0<=(0:I)/\(0:I)<(a.length:I) then
  (if(J ((bt a 0)=45)) then(U ((O.wrap (0-b)),D,()))
  else(U (b,D,()))) else D)
def j8(n:G)(a:Str)(b:Str):W (I×(W I)×Y):=
  Zbw.l10 n n b 0 (a.map λb=>(b.toNat:I)) ((a.map λb=>(b.toNat:I)).length:I) 0
def j6(n:G)(a:Str)(b:Str):W (I×(W I)×Y):=
  if(J ((a.length:I)<(1:I))) then(U (0,(U 2),()))
  else(Zbw.j8 n a b)
def j20(n:G)(a:Str):W (I×(W I)×Y):=
  (Zbh.g a 10 (0:I)).bind λy1=>
  U (y1.1,y1.2.1,())
def f(n:G)(a:Str):W (I×(W I)×Y):=
  if(J ((0:I)<(a.length:I))) then
  (if(J ((a.length:I)<(19:I))) then
  (if 0<=(0:I)/\(0:I)<(a.length:I) then
  (if(J ((bt a 0)=45))=X then
  (if 0<=(0:I)/\(0:I)<(a.length:I) then
  (if(J ((bt a 0)=43)) then
  (if 0<=(1:I)/\(1:I)<=(a.length:I) then
  (Zbw.j6 n ((a.take (((a.length:I)).toNat)).drop (((1:I)).toNat)) a) else D)
  else(Zbw.j8 n a a)) else D)
  else
  (if 0<=(1:I)/\(1:I)<=(a.length:I) then
  (Zbw.j6 n ((a.take (((a.length:I)).toNat)).drop (((1:I)).toNat)) a) else D)) else D)
  else(Zbw.j20 n a))
  else(Zbw.j20 n a)
def g(a:Str):=f (1000+a.length) a
end Zbw
namespace Zem
def f(n:G)(a:Str):W (I×F×Y):=
  (Zbw.g a).bind λy1=>
  if(!y1.2.1.isNone) then
  ((L.toErrorO ([65,116,111,105]:Str) a 0 0 y1.2.1).bind λy2=>
  U (y1.1,y2.1,()))
  else(U (y1.1,M,()))
def g(a:Str):=f (1000+a.length) a
end Zem
namespace Zen
def f(n:G)(a:Str):W (I×F×Y):=
  (Zem.g (L.cutRest a ([82]:Str))).bind λy2=>
  if(!(L.cutIs a ([82]:Str)))=X then
  (if(!y2.2.1)=X then
  ((Zay.g y2.1).bind λy3=>
  if(!(J (y3.1=a))) then(U (0,X,()))
  else(U (y2.1,M,())))
  else(U (0,X,())))
  else(U (0,X,()))
def g(a:Str):=f (1000+a.length) a
end Zen
namespace Zbx
def f(n:G)(a:I)(b:S Tk)(c:I)(d:S It)(e:I):W ((S Tk)×I×(S It)×I×Y):=
  if(J (e=0)) then(U (b,c,d,a,()))
  else(U (b,c,d,e,()))
def g(a:I)(b:S Tk)(c:I)(d:S It)(e:I):=f (1000+a.toNat+b.length+c.toNat+d.length+e.toNat) a b c d e
end Zbx
namespace Zdt
def f(n:G)(a:S Tk)(b:I)(c:S It)(d:I):W (I×I×Str×I×F×(S Tk)×I×(S It)×I×Y):=
  if(J (d≠0))=X then
  (if(J (b<0))=X then
  (if(J ((a.length:I)<=b)) then(U (0,0,([]:Str),0,X,a,b,c,d,()))
  else
  (if 0<=b/\b<(a.length:I) then
  (U ((a.getD (b).toNat zT).1,((a.getD (b).toNat zT).2).1,(((a.getD (b).toNat zT).2).2).1,((((a.getD (b).toNat zT).2).2).2).1,M,a,b,c,d,())) else D))
  else(U (0,0,([]:Str),0,X,a,b,c,d,())))
  else(U (0,0,([]:Str),0,X,a,b,c,d,()))
def g(a:S Tk)(b:I)(c:S It)(d:I):=f (1000+a.length+b.toNat+c.length+d.toNat) a b c d
end Zdt
namespace Zaw
def j8(n:G)(rl3:F->(S Str)->I->I->(S Tk)->I->(S It)->I->I->I->Str->I->W (Str×F×(S Tk)×I×(S It)×I×Y))(a:F)(b:S Str)(c:I)(d:I)(e:S Tk)(i:I)(j:S It)(k:I)(l:I)(o:I)(p:Str)(q:I):W (Str×F×(S Tk)×I×(S It)×I×Y):=
  rl3 a b c (O.wrap (d+1)) e i j k l o p q
def l3(n:G):G->F->(S Str)->I->I->(S Tk)->I->(S It)->I->I->I->Str->I->W (Str×F×(S Tk)×I×(S It)×I×Y)
 |0,_,_,_,_,_,_,_,_,_,_,_,_=>D
 |m+1,a,b,c,d,e,i,j,k,l,o,p,q=>
  if(J (d<c)) then
  (if 0<=d/\d<(b.length:I) then
  (if a then
  (if(J (l=3)) then
  (if(J (p=(b.getD (d).toNat ([]:Str)))) then
  (U ((b.getD (d).toNat ([]:Str)),M,e,(O.wrap (i+1)),j,k,()))
  else
  (Zaw.j8 n (Zaw.l3 n m) a b c d e i j k l o p q))
  else
  (Zaw.j8 n (Zaw.l3 n m) a b c d e i j k l o p q))
  else
  (Zaw.j8 n (Zaw.l3 n m) a b c d e i j k l o p q)) else D)
  else(U (([]:Str),X,e,i,j,k,()))
def f(n:G)(a:S Str)(b:S Tk)(c:I)(d:S It)(e:I):W (Str×F×(S Tk)×I×(S It)×I×Y):=
  (Zdt.g b c d e).bind λy1=>
  Zaw.l3 n n y1.2.2.2.2.1 a (a.length:I) 0 y1.2.2.2.2.2.1 y1.2.2.2.2.2.2.1 y1.2.2.2.2.2.2.2.1 y1.2.2.2.2.2.2.2.2.1 y1.1 y1.2.1 y1.2.2.1 y1.2.2.2.1
def g(a:S Str)(b:S Tk)(c:I)(d:S It)(e:I):=f (1000+a.length+b.length+c.toNat+d.length+e.toNat) a b c d e
end Zaw
namespace Zbp
def f(n:G)(a:I)(b:I)(c:Str)(d:S Tk)(e:I)(i:S It)(j:I):W ((S Tk)×I×(S It)×I×Y):=
  if(i.length+([(a,b,c,())]:S It).length)*32<=140737488355328/\0<32/\0<3 then
  (U (d,e,(i++([(a,b,c,())]:S It)),j,())) else D
def g(a:I)(b:I)(c:Str)(d:S Tk)(e:I)(i:S It)(j:I):=f (1000+a.toNat+b.toNat+c.length+d.length+e.toNat+i.length+j.toNat) a b c d e i j
end Zbp
structure az where
 expr_parser_sum:I->(S Tk)->I->(S It)->I->W ((S Tk)×I×(S It)×I×Y)
 expr_parser_row_c283:(S Str)->(S Tk)->I->(S It)->I->I->W ((S Tk)×I×(S It)×I×Y×I×Y)
 expr_parser_sum_1:I->(S Tk)->I->(S It)->I->W (Y×I×(S Tk)×I×(S It)×I×Y)
 expr_parser_row_c284:(S Str)->(S Tk)->I->(S It)->I->I->W ((S Tk)×I×(S It)×I×Y×I×Y)
 expr_parser_sum_1_1:I->(S Tk)->I->(S It)->I->W (Y×I×(S Tk)×I×(S It)×I×Y)
 expr_parser_factor:I->(S Tk)->I->(S It)->I->W ((S Tk)×I×(S It)×I×Y)
namespace expr_parser_sum
def f(n:G)(R:az)(a:I)(b:S Tk)(c:I)(d:S It)(e:I):W ((S Tk)×I×(S It)×I×Y):=
  (R.expr_parser_row_c283 ([([43]:Str),([45]:Str)]:S Str) b c d e a).bind λy1=>
  U (y1.1,y1.2.1,y1.2.2.1,y1.2.2.2.1,())
def h(R:az)(a:I)(b:S Tk)(c:I)(d:S It)(e:I):W ((S Tk)×I×(S It)×I×Y):=f (1000+a.toNat+b.length+c.toNat+d.length+e.toNat) R a b c d e
end expr_parser_sum
namespace expr_parser_row_c283
def l1(n:G)(R:az):G->(S Str)->(S Tk)->I->(S It)->I->I->W ((S Tk)×I×(S It)×I×Y×I×Y)
 |0,_,_,_,_,_,_=>D
 |m+1,a,b,c,d,e,i=>
  (Zaw.g a b c d e).bind λy1=>
  if(!y1.2.1) then
  (U (y1.2.2.1,y1.2.2.2.1,y1.2.2.2.2.1,y1.2.2.2.2.2.1,(),i,()))
  else
  ((R.expr_parser_sum_1 i y1.2.2.1 y1.2.2.2.1 y1.2.2.2.2.1 y1.2.2.2.2.2.1).bind λy2=>
  (Zbp.g ((L.kinds y1.1).1) 0 ([]:Str) y2.2.2.1 y2.2.2.2.1 y2.2.2.2.2.1 y2.2.2.2.2.2.1).bind λy3=>
  (expr_parser_row_c283.l1 n R m) a y3.1 y3.2.1 y3.2.2.1 y3.2.2.2.1 y2.2.1)
def f(n:G)(R:az)(a:S Str)(b:S Tk)(c:I)(d:S It)(e:I)(i:I):W ((S Tk)×I×(S It)×I×Y×I×Y):=
  (R.expr_parser_sum_1 i b c d e).bind λy1=>
  expr_parser_row_c283.l1 n R n a y1.2.2.1 y1.2.2.2.1 y1.2.2.2.2.1 y1.2.2.2.2.2.1 y1.2.1
def h(R:az)(a:S Str)(b:S Tk)(c:I)(d:S It)(e:I)(i:I):W ((S Tk)×I×(S It)×I×Y×I×Y):=f (1000+a.length+b.length+c.toNat+d.length+e.toNat+i.toNat) R a b c d e i
end expr_parser_row_c283
namespace expr_parser_sum_1
def f(n:G)(R:az)(a:I)(b:S Tk)(c:I)(d:S It)(e:I):W (Y×I×(S Tk)×I×(S It)×I×Y):=
  (R.expr_parser_row_c284 ([([42]:Str)]:S Str) b c d e a).bind λy1=>
  U ((),y1.2.2.2.2.2.1,y1.1,y1.2.1,y1.2.2.1,y1.2.2.2.1,())
def h(R:az)(a:I)(b:S Tk)(c:I)(d:S It)(e:I):W (Y×I×(S Tk)×I×(S It)×I×Y):=f (1000+a.toNat+b.length+c.toNat+d.length+e.toNat) R a b c d e
end expr_parser_sum_1
namespace expr_parser_row_c284
def l1(n:G)(R:az):G->(S Str)->(S Tk)->I->(S It)->I->I->W ((S Tk)×I×(S It)×I×Y×I×Y)
 |0,_,_,_,_,_,_=>D
 |m+1,a,b,c,d,e,i=>
  (Zaw.g a b c d e).bind λy1=>
  if(!y1.2.1) then
  (U (y1.2.2.1,y1.2.2.2.1,y1.2.2.2.2.1,y1.2.2.2.2.2.1,(),i,()))
  else
  ((R.expr_parser_sum_1_1 i y1.2.2.1 y1.2.2.2.1 y1.2.2.2.2.1 y1.2.2.2.2.2.1).bind λy2=>
  (Zbp.g ((L.kinds y1.1).1) 0 ([]:Str) y2.2.2.1 y2.2.2.2.1 y2.2.2.2.2.1 y2.2.2.2.2.2.1).bind λy3=>
  (expr_parser_row_c284.l1 n R m) a y3.1 y3.2.1 y3.2.2.1 y3.2.2.2.1 y2.2.1)
def f(n:G)(R:az)(a:S Str)(b:S Tk)(c:I)(d:S It)(e:I)(i:I):W ((S Tk)×I×(S It)×I×Y×I×Y):=
  (R.expr_parser_sum_1_1 i b c d e).bind λy1=>
  expr_parser_row_c284.l1 n R n a y1.2.2.1 y1.2.2.2.1 y1.2.2.2.2.1 y1.2.2.2.2.2.1 y1.2.1
def h(R:az)(a:S Str)(b:S Tk)(c:I)(d:S It)(e:I)(i:I):W ((S Tk)×I×(S It)×I×Y×I×Y):=f (1000+a.length+b.length+c.toNat+d.length+e.toNat+i.toNat) R a b c d e i
end expr_parser_row_c284
namespace expr_parser_sum_1_1
def f(n:G)(R:az)(a:I)(b:S Tk)(c:I)(d:S It)(e:I):W (Y×I×(S Tk)×I×(S It)×I×Y):=
  (R.expr_parser_factor a b c d e).bind λy1=>
  U ((),a,y1.1,y1.2.1,y1.2.2.1,y1.2.2.2.1,())
def h(R:az)(a:I)(b:S Tk)(c:I)(d:S It)(e:I):W (Y×I×(S Tk)×I×(S It)×I×Y):=f (1000+a.toNat+b.length+c.toNat+d.length+e.toNat) R a b c d e
end expr_parser_sum_1_1
namespace expr_parser_factor
def j19(n:G)(R:az)(a:S Tk)(b:I)(c:S It)(d:I):W ((S Tk)×I×(S It)×I×Y):=
  U (a,(O.wrap (b+1)),c,d,())
def f(n:G)(R:az)(a:I)(b:S Tk)(c:I)(d:S It)(e:I):W ((S Tk)×I×(S It)×I×Y):=
  if(J (e≠0)) then(U (b,c,d,e,()))
  else
  (if(J (8<a)) then
  ((Zbx.g 24 b c d e).bind λy1=>
  U (y1.1,y1.2.1,y1.2.2.1,y1.2.2.2.1,()))
  else
  ((Zaw.g ([([45]:Str),([40]:Str)]:S Str) b c d e).bind λy2=>
  if(J (y2.1=([45]:Str))) then
  ((R.expr_parser_factor (O.wrap (a+1)) y2.2.2.1 y2.2.2.2.1 y2.2.2.2.2.1 y2.2.2.2.2.2.1).bind λy3=>
  (Zbp.g 3 0 ([]:Str) y3.1 y3.2.1 y3.2.2.1 y3.2.2.2.1).bind λy4=>
  U (y4.1,y4.2.1,y4.2.2.1,y4.2.2.2.1,()))
  else
  (if(J (y2.1=([40]:Str))) then
  ((R.expr_parser_sum (O.wrap (a+1)) y2.2.2.1 y2.2.2.2.1 y2.2.2.2.2.1 y2.2.2.2.2.2.1).bind λy5=>
  (Zaw.g ([([41]:Str)]:S Str) y5.1 y5.2.1 y5.2.2.1 y5.2.2.2.1).bind λy6=>
  if(!y6.2.1) then
  ((Zbx.g 23 y6.2.2.1 y6.2.2.2.1 y6.2.2.2.2.1 y6.2.2.2.2.2.1).bind λy7=>
  U (y7.1,y7.2.1,y7.2.2.1,y7.2.2.2.1,()))
  else
  (U (y6.2.2.1,y6.2.2.2.1,y6.2.2.2.2.1,y6.2.2.2.2.2.1,())))
  else
  ((Zdt.g y2.2.2.1 y2.2.2.2.1 y2.2.2.2.2.1 y2.2.2.2.2.2.1).bind λy8=>
  if y8.2.2.2.2.1 then
  (if(J (y8.1=2)) then
  ((Zbp.g 1 y8.2.2.2.1 ([]:Str) y8.2.2.2.2.2.1 y8.2.2.2.2.2.2.1 y8.2.2.2.2.2.2.2.1 y8.2.2.2.2.2.2.2.2.1).bind λy9=>
  expr_parser_factor.j19 n R y9.1 y9.2.1 y9.2.2.1 y9.2.2.2.1)
  else
  (if y8.2.2.2.2.1 then
  (if(J (y8.1=1)) then
  ((Zag.g y8.2.2.1).bind λy10=>
  if y10.1 then
  ((Zbp.g 2 0 y8.2.2.1 y8.2.2.2.2.2.1 y8.2.2.2.2.2.2.1 y8.2.2.2.2.2.2.2.1 y8.2.2.2.2.2.2.2.2.1).bind λy11=>
  expr_parser_factor.j19 n R y11.1 y11.2.1 y11.2.2.1 y11.2.2.2.1)
  else
  ((Zbx.g 23 y8.2.2.2.2.2.1 y8.2.2.2.2.2.2.1 y8.2.2.2.2.2.2.2.1 y8.2.2.2.2.2.2.2.2.1).bind λy12=>
  expr_parser_factor.j19 n R y12.1 y12.2.1 y12.2.2.1 y12.2.2.2.1))
  else
  ((Zbx.g 23 y8.2.2.2.2.2.1 y8.2.2.2.2.2.2.1 y8.2.2.2.2.2.2.2.1 y8.2.2.2.2.2.2.2.2.1).bind λy13=>
  expr_parser_factor.j19 n R y13.1 y13.2.1 y13.2.2.1 y13.2.2.2.1))
  else
  ((Zbx.g 23 y8.2.2.2.2.2.1 y8.2.2.2.2.2.2.1 y8.2.2.2.2.2.2.2.1 y8.2.2.2.2.2.2.2.2.1).bind λy14=>
  expr_parser_factor.j19 n R y14.1 y14.2.1 y14.2.2.1 y14.2.2.2.1)))
  else
  (if y8.2.2.2.2.1 then
  (if(J (y8.1=1)) then
  ((Zag.g y8.2.2.1).bind λy15=>
  if y15.1 then
  ((Zbp.g 2 0 y8.2.2.1 y8.2.2.2.2.2.1 y8.2.2.2.2.2.2.1 y8.2.2.2.2.2.2.2.1 y8.2.2.2.2.2.2.2.2.1).bind λy16=>
  expr_parser_factor.j19 n R y16.1 y16.2.1 y16.2.2.1 y16.2.2.2.1)
  else
  ((Zbx.g 23 y8.2.2.2.2.2.1 y8.2.2.2.2.2.2.1 y8.2.2.2.2.2.2.2.1 y8.2.2.2.2.2.2.2.2.1).bind λy17=>
  expr_parser_factor.j19 n R y17.1 y17.2.1 y17.2.2.1 y17.2.2.2.1))
  else
  ((Zbx.g 23 y8.2.2.2.2.2.1 y8.2.2.2.2.2.2.1 y8.2.2.2.2.2.2.2.1 y8.2.2.2.2.2.2.2.2.1).bind λy18=>
  expr_parser_factor.j19 n R y18.1 y18.2.1 y18.2.2.1 y18.2.2.2.1))
  else
  ((Zbx.g 23 y8.2.2.2.2.2.1 y8.2.2.2.2.2.2.1 y8.2.2.2.2.2.2.2.1 y8.2.2.2.2.2.2.2.2.1).bind λy19=>
  expr_parser_factor.j19 n R y19.1 y19.2.1 y19.2.2.1 y19.2.2.2.1))))))
def h(R:az)(a:I)(b:S Tk)(c:I)(d:S It)(e:I):W ((S Tk)×I×(S It)×I×Y):=f (1000+a.toNat+b.length+c.toNat+d.length+e.toNat) R a b c d e
end expr_parser_factor
def af:G->az
 |0=>⟨λ_ _ _ _ _=>D,λ_ _ _ _ _ _=>D,λ_ _ _ _ _=>D,λ_ _ _ _ _ _=>D,λ_ _ _ _ _=>D,λ_ _ _ _ _=>D⟩
 |q+1=>⟨expr_parser_sum.h (af q),expr_parser_row_c283.h (af q),expr_parser_sum_1.h (af q),expr_parser_row_c284.h (af q),expr_parser_sum_1_1.h (af q),expr_parser_factor.h (af q)⟩
def expr_parser_sum.g(a:I)(b:S Tk)(c:I)(d:S It)(e:I):W ((S Tk)×I×(S It)×I×Y):=(af (1000+a.toNat+b.length+c.toNat+d.length+e.toNat)).expr_parser_sum a b c d e
def expr_parser_row_c283.g(a:S Str)(b:S Tk)(c:I)(d:S It)(e:I)(i:I):W ((S Tk)×I×(S It)×I×Y×I×Y):=(af (1000+a.length+b.length+c.toNat+d.length+e.toNat+i.toNat)).expr_parser_row_c283 a b c d e i
def expr_parser_sum_1.g(a:I)(b:S Tk)(c:I)(d:S It)(e:I):W (Y×I×(S Tk)×I×(S It)×I×Y):=(af (1000+a.toNat+b.length+c.toNat+d.length+e.toNat)).expr_parser_sum_1 a b c d e
def expr_parser_row_c284.g(a:S Str)(b:S Tk)(c:I)(d:S It)(e:I)(i:I):W ((S Tk)×I×(S It)×I×Y×I×Y):=(af (1000+a.length+b.length+c.toNat+d.length+e.toNat+i.toNat)).expr_parser_row_c284 a b c d e i
def expr_parser_sum_1_1.g(a:I)(b:S Tk)(c:I)(d:S It)(e:I):W (Y×I×(S Tk)×I×(S It)×I×Y):=(af (1000+a.toNat+b.length+c.toNat+d.length+e.toNat)).expr_parser_sum_1_1 a b c d e
def expr_parser_factor.g(a:I)(b:S Tk)(c:I)(d:S It)(e:I):W ((S Tk)×I×(S It)×I×Y):=(af (1000+a.toNat+b.length+c.toNat+d.length+e.toNat)).expr_parser_factor a b c d e
namespace Zce
def l4(n:G):G->(S It)->(S It)->I->W (F×Y)
 |0,_,_,_=>D
 |m+1,a,b,c=>
  if(J (c<(a.length:I))) then
  (if 0<=c/\c<(a.length:I) then
  (if 0<=c/\c<(b.length:I) then
  (if(!(J ((a.getD (c).toNat zI).1=(b.getD (c).toNat zI).1)&&(J (((a.getD (c).toNat zI).2).1=((b.getD (c).toNat zI).2).1)&&(J ((((a.getD (c).toNat zI).2).2).1=(((b.getD (c).toNat zI).2).2).1)&&M)))) then(U (X,()))
  else
  ((Zce.l4 n m) a b (O.wrap (c+1)))) else D) else D)
  else(U (M,()))
def f(n:G)(a:S It)(b:S It):W (F×Y):=
  if(J ((a.length:I)≠(b.length:I))) then(U (X,()))
  else(Zce.l4 n n a b 0)
def g(a:S It)(b:S It):=f (1000+a.length+b.length) a b
end Zce
namespace Zdk
def f(n:G)(a:I):W (F×Y):=
  if(J (65<=a)) then
  (if(J (a<=90))=X then
  (if(J (97<=a)) then(U ((J (a<=122)),()))
  else(U (X,())))
  else(U (M,())))
  else
  (if(J (97<=a)) then(U ((J (a<=122)),()))
  else(U (X,())))
def g(a:I):=f (1000+a.toNat) a
end Zdk
namespace Zcr
def f(n:G)(a:I):W (F×Y):=
  if(J (48<=a)) then(U ((J (a<=57)),()))
  else(U (X,()))
def g(a:I):=f (1000+a.toNat) a
end Zcr
namespace Zdu
def f(n:G)(a:Str):W (F×Y):=
  if(J ((a.length:I)<(2:I)))=X then
  (if(J ((3:I)<(a.length:I)))=X then
  (if 0<=(0:I)/\(0:I)<(a.length:I) then
  (if(J ((bt a 0)≠82)) then(U (X,()))
  else
  (if 0<=(1:I)/\(1:I)<(a.length:I) then
  ((Zcr.g (bt a (1:I))).bind λy1=>
  if y1.1 then
  (if(J ((a.length:I)=(2:I)))=X then
  (if 0<=(2:I)/\(2:I)<(a.length:I) then
  ((Zcr.g (bt a (2:I))).bind λy2=>
  U (y2.1,())) else D)
  else(U (M,())))
  else(U (X,()))) else D)) else D)
  else(U (X,())))
  else(U (X,()))
def g(a:Str):=f (1000+a.length) a
end Zdu
namespace Zat
def j5(n:G)(rl4:Str->I->W (F×Y))(a:Str)(b:I):W (F×Y):=
  rl4 a (O.wrap (b+1))
def l4(n:G):G->Str->I->W (F×Y)
 |0,_,_=>D
 |m+1,a,b=>
  if(J (b<(a.length:I))) then
  (if 0<=b/\b<(a.length:I) then
  ((Zdk.g (bt a b)).bind λy1=>
  if(!y1.1) then
  (if 0<=b/\b<(a.length:I) then
  ((Zcr.g (bt a b)).bind λy2=>
  if(!y2.1) then
  (if 0<=b/\b<(a.length:I) then
  (if(J ((bt a b)≠95)) then(U (X,()))
  else(Zat.j5 n (Zat.l4 n m) a b)) else D)
  else(Zat.j5 n (Zat.l4 n m) a b)) else D)
  else(Zat.j5 n (Zat.l4 n m) a b)) else D)
  else(U (M,()))
def f(n:G)(a:Str):W (F×Y):=
  if(J ((a.length:I)<(1:I)))=X then
  (if(J ((12:I)<(a.length:I)))=X then
  (if 0<=(0:I)/\(0:I)<(a.length:I) then
  ((Zdk.g (bt a (0:I))).bind λy1=>
  if(!y1.1)=X then
  ((Zdu.g a).bind λy2=>
  if y2.1 then(U (X,()))
  else(Zat.l4 n n a 0))
  else(U (X,()))) else D)
  else(U (X,())))
  else(U (X,()))
def g(a:Str):=f (1000+a.length) a
end Zat
namespace Zby
def j3(n:G)(a:Str):W (F×Y):=
  (Zat.g a).bind λy1=>
  U (y1.1,())
def f(n:G)(a:Str):W (F×Y):=
  if(J ((0:I)<(a.length:I))) then
  (if 0<=(0:I)/\(0:I)<(a.length:I) then
  (if(J ((bt a 0)=95)) then
  (if 0<=(1:I)/\(1:I)<=(a.length:I) then
  (if([97]:Str).length+((a.take (((a.length:I)).toNat)).drop (((1:I)).toNat)).length<=9223372036854775807 then
  ((Zat.g (([97]:Str)++((a.take (((a.length:I)).toNat)).drop (((1:I)).toNat)))).bind λy1=>
  U (y1.1,())) else D) else D)
  else(Zby.j3 n a)) else D)
  else(Zby.j3 n a)
def g(a:Str):=f (1000+a.length) a
end Zby
namespace Zdv
def f(n:G)(a:I)(b:I)(c:Str):W (I×Y):=
  if(J (a=1)) then
  (if(J (c=([]:Str))) then(U (0,()))
  else(U ((-1),())))
  else
  (if(J (a=2)) then
  (if(J (b=0)) then
  ((Zby.g c).bind λy1=>
  if y1.1 then(U (0,()))
  else(U ((-1),())))
  else(U ((-1),())))
  else
  (if(J (b≠0))=X then
  (if(!(J (c=([]:Str)))) then(U ((-1),()))
  else
  (if(J (a=3)) then(U (1,()))
  else
  (if(J (4<=a)) then
  (if(J (a<=6)) then(U (2,()))
  else(U ((-1),())))
  else(U ((-1),())))))
  else(U ((-1),()))))
def g(a:I)(b:I)(c:Str):=f (1000+a.toNat+b.toNat+c.length) a b c
end Zdv
namespace Zbi
def l3(n:G):G->(S It)->I->I->W (F×Y)
 |0,_,_,_=>D
 |m+1,a,b,c=>
  if(J (c<(a.length:I))) then
  (if 0<=c/\c<(a.length:I) then
  ((Zdv.g ((a.getD (c).toNat zI).1) (((a.getD (c).toNat zI).2).1) ((((a.getD (c).toNat zI).2).2).1)).bind λy1=>
  if(J (y1.1<0))=X then
  (if(J (b<y1.1)) then(U (X,()))
  else
  ((Zbi.l3 n m) a (O.wrap ((O.wrap (b-y1.1))+1)) (O.wrap (c+1))))
  else(U (X,()))) else D)
  else
  (if(J (b=1)) then(U ((J ((a.length:I)<=(64:I))),()))
  else(U (X,())))
def f(n:G)(a:S It):W (F×Y):=
  Zbi.l3 n n a 0 0
def g(a:S It):=f (1000+a.length) a
end Zbi
namespace Zek
def f(n:G)(a:Str)(b:I):W (Str×Y):=
  if 0<=(O.wrap ((O.wrap ((3:I)*b))+3))/\(O.wrap ((O.wrap ((3:I)*b))+3))<=(a.length:I) then
  (if 0<=(O.wrap ((3:I)*b))/\(O.wrap ((3:I)*b))<=(O.wrap ((O.wrap ((3:I)*b))+3)) then
  (U (((a.take (((O.wrap ((O.wrap ((3:I)*b))+(3:I)))).toNat)).drop (((O.wrap ((3:I)*b))).toNat)),())) else D) else D
def g(a:Str)(b:I):=f (1000+a.length+b.toNat) a b
end Zek
namespace Zae
def j6(n:G)(a:I)(b:Str)(c:Str):W (Str×Y):=
  if(J (a=7)) then(U (c,()))
  else
  (if 0<=(O.wrap ((O.wrap ((2:I)*a))+2))/\(O.wrap ((O.wrap ((2:I)*a))+2))<=(b.length:I) then
  (if 0<=(O.wrap ((2:I)*a))/\(O.wrap ((2:I)*a))<=(O.wrap ((O.wrap ((2:I)*a))+2)) then
  (if c.length+((b.take (((O.wrap ((O.wrap ((2:I)*a))+(2:I)))).toNat)).drop (((O.wrap ((2:I)*a))).toNat)).length<=9223372036854775807 then
  (U ((c++((b.take (((O.wrap ((O.wrap ((2:I)*a))+(2:I)))).toNat)).drop (((O.wrap ((2:I)*a))).toNat))),())) else D) else D) else D)
def j23(n:G)(a:I)(b:I):W (Str×Y):=
  if(J (b≠0)) then(U (([]:Str),()))
  else
  (if(J (a=3)) then(U (([77,79,86,72]:Str),()))
  else
  (if(J (a=4)) then(U (([77,79,86,70]:Str),()))
  else
  (if(J (a=8)) then(U (([76,68,76]:Str),()))
  else
  (if(J (a=9)) then(U (([119,111,114,100]:Str),()))
  else
  (if(J (a=10)) then(U (([101,120,112,111,114,116]:Str),()))
  else(U (([]:Str),())))))))
def j21(n:G)(a:I)(b:I):W (Str×Y):=
  if(J (a=5)) then
  (if(J (0<=b)) then
  (if(J (b<=3)) then
  ((Zek.g ([76,68,87,76,68,66,83,84,87,83,84,66]:Str) b).bind λy1=>
  U (y1.1,()))
  else(Zae.j23 n a b))
  else(Zae.j23 n a b))
  else(Zae.j23 n a b)
def j17(n:G)(a:I)(b:I)(c:F):W (Str×Y):=
  if c then(U (([]:Str),()))
  else
  (if(J (a=1)) then
  (if(J (0<=b)) then
  (if(J (b<=11)) then
  ((Zek.g ([77,79,86,76,83,76,65,83,82,82,79,82,65,78,68,65,78,78,73,79,82,88,79,82,65,68,68,83,85,66,77,85,76,68,73,86]:Str) b).bind λy1=>
  U (y1.1,()))
  else(Zae.j21 n a b))
  else(Zae.j21 n a b))
  else(Zae.j21 n a b))
def j15(n:G)(a:I)(b:I)(c:F):W (Str×Y):=
  if(J (a=1)) then
  (if c then
  (if(J (b=10)) then(U (([77,76,85]:Str),()))
  else(Zae.j17 n a b c))
  else(Zae.j17 n a b c))
  else(Zae.j17 n a b c)
def j13(n:G)(a:I)(b:I)(c:F):W (Str×Y):=
  if(J (a=1)) then
  (if c then
  (if(J (b=9)) then(U (([83,66,67]:Str),()))
  else(Zae.j15 n a b c))
  else(Zae.j15 n a b c))
  else(Zae.j15 n a b c)
def j11(n:G)(a:I)(b:I)(c:F):W (Str×Y):=
  if(J (a=1)) then
  (if c then
  (if(J (b=8)) then(U (([65,68,67]:Str),()))
  else(Zae.j13 n a b c))
  else(Zae.j13 n a b c))
  else(Zae.j13 n a b c)
def j9(n:G)(a:I)(b:I)(c:F):W (Str×Y):=
  if(J (a=1)) then
  (if c then
  (if(J (b=0)) then(U (([77,79,86,85]:Str),()))
  else(Zae.j11 n a b c))
  else(Zae.j11 n a b c))
  else(Zae.j11 n a b c)
def f(n:G)(a:I)(b:I)(c:F):W (Str×Y):=
  if(J (a=7)) then
  (if(J (0<=b)) then
  (if(J (b<=15)) then
  (if c then
  (Zae.j6 n b ([77,73,69,81,67,83,86,83,76,83,76,84,76,69,32,32,80,76,78,69,67,67,86,67,72,73,71,69,71,84,78,86]:Str) ([66,76]:Str))
  else
  (Zae.j6 n b ([77,73,69,81,67,83,86,83,76,83,76,84,76,69,32,32,80,76,78,69,67,67,86,67,72,73,71,69,71,84,78,86]:Str) ([66]:Str)))
  else(Zae.j9 n a b c))
  else(Zae.j9 n a b c))
  else(Zae.j9 n a b c)
def g(a:I)(b:I)(c:F):=f (1000+a.toNat+b.toNat) a b c
end Zae
namespace Zbz
def l2(n:G):G->I->Str->W (Str×Y)
 |0,_,_=>D
 |m+1,a,b=>
  if(J (9<a)) then
  (if(bytesOf ([(IntKind.u8.wrap ((48:I)+(IntKind.u8.wrap (Int.tmod a 10))))]:S I)).length+b.length<=9223372036854775807 then
  ((Zbz.l2 n m) (Z.wrap (Int.tdiv a 10)) ((bytesOf ([(IntKind.u8.wrap ((48:I)+(IntKind.u8.wrap (Int.tmod a 10))))]:S I))++b)) else D)
  else
  (if(bytesOf ([(IntKind.u8.wrap ((48:I)+(IntKind.u8.wrap a)))]:S I)).length+b.length<=9223372036854775807 then
  (U (((bytesOf ([(IntKind.u8.wrap ((48:I)+(IntKind.u8.wrap a)))]:S I))++b),())) else D)
def f(n:G)(a:I):W (Str×Y):=
  Zbz.l2 n n a ([]:Str)
def g(a:I):=f (1000+a.toNat) a
end Zbz
namespace Zbe
def l2(n:G):G->Str->I->(S I)->I->W (Str×Y)
 |0,_,_,_,_=>D
 |m+1,a,b,c,d=>
  if(J (d<(c.length:I))) then
  (if 0<=d/\d<(c.length:I) then
  (if(J ((c.getD (d).toNat 0)=b)) then
  (if([40]:Str).length+a.length<=9223372036854775807 then
  (if(([40]:Str)++a).length+([41]:Str).length<=9223372036854775807 then(U (((([40]:Str)++a)++([41]:Str)),())) else D) else D)
  else
  ((Zbe.l2 n m) a b c (O.wrap (d+1)))) else D)
  else(U (a,()))
def f(n:G)(a:Str)(b:I)(c:S I):W (Str×Y):=
  Zbe.l2 n n a b c 0
def g(a:Str)(b:I)(c:S I):=f (1000+a.length+b.toNat+c.length) a b c
end Zbe
namespace Zah
def j27(n:G)(rl6:(S It)->(S Str)->(S I)->I->W Sy)(a:S It)(b:S Str)(c:S I)(d:I)(e:I)(i:I)(j:Str):W Sy:=
  if 0<=e/\e<=(b.length:I) then
  (if(([]:S Str).length+(b.take (e).toNat).length)*16<=140737488355328/\0<16/\0<1 then
  (if((([]:S Str)++(b.take (e).toNat)).length+([j]:S Str).length)*16<=140737488355328/\0<16/\0<1 then
  (if 0<=e/\e<=(c.length:I) then
  (if(([]:S I).length+(c.take (e).toNat).length)*8<=140737488355328/\0<8/\0<1 then
  (if((([]:S I)++(c.take (e).toNat)).length+([i]:S I).length)*8<=140737488355328/\0<8/\0<1 then
  (rl6 a ((([]:S Str)++(b.take (e).toNat))++([j]:S Str)) ((([]:S I)++(c.take (e).toNat))++([i]:S I)) (O.wrap (d+1))) else D) else D) else D) else D) else D) else D
def j16(n:G)(rl6:(S It)->(S Str)->(S I)->I->W Sy)(a:S It)(b:S Str)(c:S I)(d:I)(e:I)(i:I)(j:Str):W Sy:=
  if 0<=e/\e<(b.length:I) then
  (if(b.getD (e).toNat ([]:Str)).length+j.length<=9223372036854775807 then
  (if 0<=(O.wrap (e+1))/\(O.wrap (e+1))<(b.length:I) then
  (if 0<=(O.wrap (e+1))/\(O.wrap (e+1))<(c.length:I) then
  ((Zbe.g (b.getD ((O.wrap (e+(1:I)))).toNat ([]:Str)) (c.getD ((O.wrap (e+(1:I)))).toNat 0) ([4,5]:S I)).bind λy1=>
  if((b.getD (e).toNat ([]:Str))++j).length+y1.1.length<=9223372036854775807 then
  (Zah.j27 n rl6 a b c d e i (((b.getD (e).toNat ([]:Str))++j)++y1.1)) else D) else D) else D) else D) else D
def l6(n:G):G->(S It)->(S Str)->(S I)->I->W Sy
 |0,_,_,_,_=>D
 |m+1,a,b,c,d=>
  if(J (d<(a.length:I))) then
  (if 0<=d/\d<(a.length:I) then
  (if(J ((a.getD (d).toNat zI).1=1)) then
  (if 0<=d/\d<(a.length:I) then
  ((Zbz.g (((a.getD (d).toNat zI).2).1)).bind λy1=>
  Zah.j27 n (Zah.l6 n m) a b c d (b.length:I) ((a.getD (d).toNat zI).1) y1.1) else D)
  else
  (if(J ((a.getD (d).toNat zI).1=2)) then
  (if 0<=d/\d<(a.length:I) then
  (Zah.j27 n (Zah.l6 n m) a b c d (b.length:I) ((a.getD (d).toNat zI).1) ((((a.getD (d).toNat zI).2).2).1)) else D)
  else
  (if(J ((a.getD (d).toNat zI).1=3)) then
  (if 0<=(O.wrap ((b.length:I)-1))/\(O.wrap ((b.length:I)-1))<(b.length:I) then
  (if 0<=(O.wrap ((b.length:I)-1))/\(O.wrap ((b.length:I)-1))<(c.length:I) then
  ((Zbe.g (b.getD ((O.wrap ((b.length:I)-(1:I)))).toNat ([]:Str)) (c.getD ((O.wrap ((b.length:I)-(1:I)))).toNat 0) ([4,5,6]:S I)).bind λy2=>
  if([45]:Str).length+y2.1.length<=9223372036854775807 then
  (Zah.j27 n (Zah.l6 n m) a b c d (O.wrap ((b.length:I)-1)) ((a.getD (d).toNat zI).1) (([45]:Str)++y2.1)) else D) else D) else D)
  else
  (if(J ((a.getD (d).toNat zI).1=6)) then
  (if 0<=(O.wrap ((b.length:I)-2))/\(O.wrap ((b.length:I)-2))<(b.length:I) then
  (if 0<=(O.wrap ((b.length:I)-2))/\(O.wrap ((b.length:I)-2))<(c.length:I) then
  ((Zbe.g (b.getD ((O.wrap ((b.length:I)-(2:I)))).toNat ([]:Str)) (c.getD ((O.wrap ((b.length:I)-(2:I)))).toNat 0) ([4,5]:S I)).bind λy3=>
  if y3.1.length+([32,42,32]:Str).length<=9223372036854775807 then
  (if 0<=(O.wrap ((O.wrap ((b.length:I)-2))+1))/\(O.wrap ((O.wrap ((b.length:I)-2))+1))<(b.length:I) then
  (if 0<=(O.wrap ((O.wrap ((b.length:I)-2))+1))/\(O.wrap ((O.wrap ((b.length:I)-2))+1))<(c.length:I) then
  ((Zbe.g (b.getD ((O.wrap ((O.wrap ((b.length:I)-2))+(1:I)))).toNat ([]:Str)) (c.getD ((O.wrap ((O.wrap ((b.length:I)-2))+(1:I)))).toNat 0) ([4,5,6]:S I)).bind λy4=>
  if(y3.1++([32,42,32]:Str)).length+y4.1.length<=9223372036854775807 then
  (Zah.j27 n (Zah.l6 n m) a b c d (O.wrap ((b.length:I)-2)) ((a.getD (d).toNat zI).1) ((y3.1++([32,42,32]:Str))++y4.1)) else D) else D) else D) else D) else D) else D)
  else
  (if(J ((a.getD (d).toNat zI).1=5)) then
  (Zah.j16 n (Zah.l6 n m) a b c d (O.wrap ((b.length:I)-2)) ((a.getD (d).toNat zI).1) ([32,45,32]:Str))
  else
  (Zah.j16 n (Zah.l6 n m) a b c d (O.wrap ((b.length:I)-2)) ((a.getD (d).toNat zI).1) ([32,43,32]:Str))))))) else D)
  else
  (if 0<=(0:I)/\(0:I)<(b.length:I) then(U ((b.getD ((0:I)).toNat ([]:Str)),0,())) else D)
def f(n:G)(a:S It):W Sy:=
  (Zbi.g a).bind λy1=>
  if(!y1.1) then(U (([]:Str),23,()))
  else
  (Zah.l6 n n a ([]:S Str) ([]:S I) 0)
def g(a:S It):=f (1000+a.length) a
end Zah
namespace Zbr
def f(n:G)(a:I):W (Str×Y):=
  if(J (a<0))=X then
  (if(J (15<a)) then(U (([]:Str),()))
  else
  (if(J (9<a)) then
  (if([82,49]:Str).length+(bytesOf ([(IntKind.u8.wrap ((48:I)+(IntKind.u8.wrap (O.wrap (a-10)))))]:S I)).length<=9223372036854775807 then
  (U ((([82,49]:Str)++(bytesOf ([(IntKind.u8.wrap ((48:I)+(IntKind.u8.wrap (O.wrap (a-10)))))]:S I))),())) else D)
  else
  (if([82]:Str).length+(bytesOf ([(IntKind.u8.wrap ((48:I)+(IntKind.u8.wrap a)))]:S I)).length<=9223372036854775807 then
  (U ((([82]:Str)++(bytesOf ([(IntKind.u8.wrap ((48:I)+(IntKind.u8.wrap a)))]:S I))),())) else D)))
  else(U (([]:Str),()))
def g(a:I):=f (1000+a.toNat) a
end Zbr
end Rv
namespace Rv
open Go
set_option maxRecDepth 100000
namespace Zdw
def f(n:G)(a:I)(b:I)(c:I)(d:I):W (I×I×Y):=
  if a<0 then D else
  (if b<0 then D else
  (U ((ai .or .u32 c (Z.wrap ((ai .and .u32 ((d).fdiv (2 ^ (min a.toNat Z.bits))) 1)*2 ^ (min b.toNat Z.bits)))),d,())))
def g(a:I)(b:I)(c:I)(d:I):=f (1000+a.toNat+b.toNat+c.toNat+d.toNat) a b c d
end Zdw
namespace Zcs
def l2(n:G):G->I->I->I->I->I->W (I×I×Y)
 |0,_,_,_,_,_=>D
 |m+1,a,b,c,d,e=>
  if(J (c<32)) then
  (if(J ((O.wrap (c-a))<b)) then
  ((Zdw.g c (O.wrap (c-a)) d e).bind λy1=>
  (Zcs.l2 n m) a b (O.wrap (c+1)) y1.1 y1.2.1)
  else(U (d,e,())))
  else(U (d,e,()))
def f(n:G)(a:I)(b:I)(c:I)(d:I):W (I×I×Y):=
  if(J (b<1))=X then
  (if(J (32<=a))=X then
  (if(J (a<=(O.wrap (0-b)))) then(U (c,d,()))
  else(Zcs.l2 n n a b (mx a 0) c d))
  else(U (c,d,())))
  else(U (c,d,()))
def g(a:I)(b:I)(c:I)(d:I):=f (1000+a.toNat+b.toNat+c.toNat+d.toNat) a b c d
end Zcs
namespace Zdx
def f(n:G)(a:I)(b:I)(c:I):W (I×Y):=
  (Zcs.g b c 0 a).bind λy1=>
  U (y1.1,())
def g(a:I)(b:I)(c:I):=f (1000+a.toNat+b.toNat+c.toNat) a b c
end Zdx
namespace Zax
def f(n:G)(a:I)(b:I)(c:I):W (I×Y):=
  (Zdx.g c a b).bind λy1=>
  U ((O.wrap y1.1),())
def g(a:I)(b:I)(c:I):=f (1000+a.toNat+b.toNat+c.toNat) a b c
end Zax
namespace Zef
def f(n:G)(a:I):W (I×Y):=
  U ((mn (mx a 1) 32),())
def g(a:I):=f (1000+a.toNat) a
end Zef
namespace Zdl
def f(n:G)(a:I)(b:I):W (I×Y):=
  (Zef.g b).bind λy1=>
  if(O.wrap ((32:I)-y1.1))<0 then D else
  (if(O.wrap ((32:I)-y1.1))<0 then D else
  (U ((O.wrap (((IntKind.i32.wrap (Z.wrap (a*2 ^ (min (O.wrap ((32:I)-y1.1)).toNat Z.bits))))).fdiv (2 ^ (min (O.wrap ((32:I)-y1.1)).toNat IntKind.i32.bits)))),())))
def g(a:I)(b:I):=f (1000+a.toNat+b.toNat) a b
end Zdl
namespace Zba
def j16(n:G)(a:I)(b:I)(c:I)(d:I)(e:I)(i:I)(j:F)(k:I)(l:I)(o:I)(p:I)(q:I)(r:I)(s:F):W (I×I×I×I×I×I×F×Y):=
  U (k,l,o,p,q,r,s,())
def f(n:G)(a:I):W (I×I×I×I×I×I×F×Y):=
  (Zax.g 29 1 a).bind λy1=>
  (Zax.g 28 1 a).bind λy2=>
  (Zax.g 24 4 a).bind λy3=>
  (Zax.g 20 4 a).bind λy4=>
  (Zax.g 16 4 a).bind λy5=>
  (Zax.g 30 2 a).bind λy6=>
  if(J (y6.1=0)) then
  ((Zax.g 0 4 a).bind λy7=>
  if(J (y1.1=1)) then
  (if(J (y5.1=0)) then
  ((Zax.g 28 1 a).bind λy8=>
  Zba.j16 n 0 0 0 0 0 0 X (O.wrap ((3:I)+y8.1)) 0 y3.1 0 0 0 X)
  else
  (Zba.j16 n 0 0 0 0 0 0 X 1 y5.1 y3.1 y4.1 y7.1 0 (J (y1.1=1))))
  else
  (Zba.j16 n 0 0 0 0 0 0 X 1 y5.1 y3.1 y4.1 y7.1 0 (J (y1.1=1))))
  else
  (if(J (y6.1=1)) then
  ((Zax.g 0 16 a).bind λy9=>
  (Zax.g 28 1 a).bind λy10=>
  Zba.j16 n 0 0 0 0 0 0 X 2 y5.1 y3.1 y4.1 0 (O.wrap (y9.1-(O.wrap (y10.1*2 ^ (min (16:I).toNat O.bits))))) (J (y1.1=1)))
  else
  (if(J (y6.1=2)) then
  ((Zax.g 29 1 a).bind λy11=>
  (Zax.g 28 1 a).bind λy12=>
  (Zdl.g a (20:I)).bind λy13=>
  Zba.j16 n 0 0 0 0 0 0 X 5 (O.wrap ((O.wrap (y11.1*2))+y12.1)) y3.1 y4.1 0 y13.1 X)
  else
  ((Zax.g 0 4 a).bind λy14=>
  if(J (y1.1=1)) then
  ((Zdl.g a (24:I)).bind λy15=>
  Zba.j16 n 0 0 0 0 0 0 X 7 y3.1 0 0 0 y15.1 (J (y2.1=1)))
  else
  (Zba.j16 n 0 0 0 0 0 0 X 6 y3.1 0 0 y14.1 0 (J (y2.1=1))))))
def g(a:I):=f (1000+a.toNat) a
end Zba
namespace Zdb
def f(n:G)(a:I)(b:I)(c:I):W (F×Y):=
  if(J (b<=a)) then(U ((J (a<=c)),()))
  else(U (X,()))
def g(a:I)(b:I)(c:I):=f (1000+a.toNat+b.toNat+c.toNat) a b c
end Zdb
namespace Zel
def f(n:G)(a:F):W (I×Y):=
  if a then(U (1,()))
  else(U (0,()))
def g(a:F):=f (1000) a
end Zel
namespace Zbj
def f(n:G)(a:I)(b:F)(c:F):W (I×I×I×Y):=
  (Zel.g b).bind λy1=>
  (Zel.g c).bind λy2=>
  U (28,4,(ai .or .i64 (ai .or .i64 (O.wrap (a*2 ^ (min (2:I).toNat O.bits))) (O.wrap ((O.wrap y1.1)*2 ^ (min (1:I).toNat O.bits)))) (O.wrap y2.1)),())
def g(a:I)(b:F)(c:F):=f (1000+a.toNat) a b c
end Zbj
namespace Zdy
def f(n:G)(a:I)(b:I)(c:I)(d:I):W (I×I×Y):=
  if a<0 then D else
  (if b<0 then D else
  (if a<0 then D else
  (U ((ai .or .u32 (ai .andNot .u32 c (Z.wrap ((1:I)*2 ^ (min a.toNat Z.bits)))) (Z.wrap ((ai .and .u32 ((d).fdiv (2 ^ (min b.toNat Z.bits))) 1)*2 ^ (min a.toNat Z.bits)))),d,()))))
def g(a:I)(b:I)(c:I)(d:I):=f (1000+a.toNat+b.toNat+c.toNat+d.toNat) a b c d
end Zdy
namespace Zct
def l2(n:G):G->I->I->I->I->I->W (I×I×Y)
 |0,_,_,_,_,_=>D
 |m+1,a,b,c,d,e=>
  if(J (c<32)) then
  (if(J ((O.wrap (c-a))<b)) then
  ((Zdy.g c (O.wrap (c-a)) d e).bind λy1=>
  (Zct.l2 n m) a b (O.wrap (c+1)) y1.1 y1.2.1)
  else(U (d,e,())))
  else(U (d,e,()))
def f(n:G)(a:I)(b:I)(c:I)(d:I):W (I×I×Y):=
  if(J (b<1))=X then
  (if(J (32<=a))=X then
  (if(J (a<=(O.wrap (0-b)))) then(U (c,d,()))
  else(Zct.l2 n n a b (mx a 0) c d))
  else(U (c,d,())))
  else(U (c,d,()))
def g(a:I)(b:I)(c:I)(d:I):=f (1000+a.toNat+b.toNat+c.toNat+d.toNat) a b c d
end Zct
namespace Zdz
def f(n:G)(a:I)(b:I)(c:I)(d:I):W (I×Y):=
  (Zct.g b c a d).bind λy1=>
  U (y1.1,())
def g(a:I)(b:I)(c:I)(d:I):=f (1000+a.toNat+b.toNat+c.toNat+d.toNat) a b c d
end Zdz
namespace Zau
def l3(n:G):G->I->(S (I×I×I×Y))->I->I->W (I×Y)
 |0,_,_,_,_=>D
 |m+1,a,b,c,d=>
  if(J (d<c)) then
  (if 0<=d/\d<(b.length:I) then
  (if 0<=(0:I)/\(0:I)<(3:I) then
  (if 0<=(1:I)/\(1:I)<(3:I) then
  (if 0<=(2:I)/\(2:I)<(3:I) then
  ((Zdz.g a ([(b.getD (d).toNat (0,(0,(0,())))).1,((b.getD (d).toNat (0,(0,(0,())))).2).1,(((b.getD (d).toNat (0,(0,(0,())))).2).2).1].getD ((0:I)).toNat 0) ([(b.getD (d).toNat (0,(0,(0,())))).1,((b.getD (d).toNat (0,(0,(0,())))).2).1,(((b.getD (d).toNat (0,(0,(0,())))).2).2).1].getD ((1:I)).toNat 0) (Z.wrap ([(b.getD (d).toNat (0,(0,(0,())))).1,((b.getD (d).toNat (0,(0,(0,())))).2).1,(((b.getD (d).toNat (0,(0,(0,())))).2).2).1].getD ((2:I)).toNat 0))).bind λy1=>
  (Zau.l3 n m) y1.1 b c (O.wrap (d+1))) else D) else D) else D) else D)
  else(U (a,()))
def f(n:G)(a:S (I×I×I×Y)):W (I×Y):=
  Zau.l3 n n 0 a (a.length:I) 0
def g(a:S (I×I×I×Y)):=f (1000+a.length) a
end Zau
namespace Zbs
def j14(n:G)(a:I)(b:I)(c:I)(d:I)(e:I)(i:I)(j:F)(k:I)(l:I)(o:I):W (I×Y):=
  (Zbj.g 3 M j).bind λy1=>
  (Zau.g ([(y1.1,y1.2.1,y1.2.2.1,()),(k,l,o,()),(0,24,i,())]:S (I×I×I×Y))).bind λy2=>
  U (y2.1,())
def f(n:G)(a:I)(b:I)(c:I)(d:I)(e:I)(i:I)(j:F):W (I×Y):=
  if(J (a=1)) then
  ((Zbj.g 0 j X).bind λy1=>
  (Zau.g ([(y1.1,y1.2.1,y1.2.2.1,()),(24,4,c,()),(20,4,d,()),(16,4,b,()),(0,4,e,())]:S (I×I×I×Y))).bind λy2=>
  U (y2.1,()))
  else
  (if(J (a=3)) then
  (if(J (a=3)) then
  ((Zbj.g 0 M (J (a=(4:I)))).bind λy3=>
  (Zau.g ([(y3.1,y3.2.1,y3.2.2.1,()),(24,4,c,())]:S (I×I×I×Y))).bind λy4=>
  U (y4.1,()))
  else
  (if(J (a=2)) then
  ((Zbj.g 1 j (J (i<(0:I)))).bind λy5=>
  (Zau.g ([(y5.1,y5.2.1,y5.2.2.1,()),(24,4,c,()),(20,4,d,()),(16,4,b,()),(0,16,i,())]:S (I×I×I×Y))).bind λy6=>
  U (y6.1,()))
  else
  (if(J (a=5)) then
  ((Zbj.g 2 (J (2<=b)) (J ((Int.tmod b 2)=(1:I)))).bind λy7=>
  (Zau.g ([(y7.1,y7.2.1,y7.2.2.1,()),(24,4,c,()),(20,4,d,()),(0,20,i,())]:S (I×I×I×Y))).bind λy8=>
  U (y8.1,()))
  else
  (if(J (a=6)) then
  ((Zbj.g 3 X j).bind λy9=>
  (Zau.g ([(y9.1,y9.2.1,y9.2.2.1,()),(24,4,b,()),(0,4,e,())]:S (I×I×I×Y))).bind λy10=>
  U (y10.1,()))
  else(Zbs.j14 n a b c d e i j 24 4 b)))))
  else
  (if(J (a=4)) then
  ((Zbj.g 0 M (J (a=(4:I)))).bind λy11=>
  (Zau.g ([(y11.1,y11.2.1,y11.2.2.1,()),(24,4,c,())]:S (I×I×I×Y))).bind λy12=>
  U (y12.1,()))
  else
  (if(J (a=2)) then
  ((Zbj.g 1 j (J (i<(0:I)))).bind λy13=>
  (Zau.g ([(y13.1,y13.2.1,y13.2.2.1,()),(24,4,c,()),(20,4,d,()),(16,4,b,()),(0,16,i,())]:S (I×I×I×Y))).bind λy14=>
  U (y14.1,()))
  else
  (if(J (a=5)) then
  ((Zbj.g 2 (J (2<=b)) (J ((Int.tmod b 2)=(1:I)))).bind λy15=>
  (Zau.g ([(y15.1,y15.2.1,y15.2.2.1,()),(24,4,c,()),(20,4,d,()),(0,20,i,())]:S (I×I×I×Y))).bind λy16=>
  U (y16.1,()))
  else
  (if(J (a=6)) then
  ((Zbj.g 3 X j).bind λy17=>
  (Zau.g ([(y17.1,y17.2.1,y17.2.2.1,()),(24,4,b,()),(0,4,e,())]:S (I×I×I×Y))).bind λy18=>
  U (y18.1,()))
  else(Zbs.j14 n a b c d e i j 24 4 b))))))
def g(a:I)(b:I)(c:I)(d:I)(e:I)(i:I)(j:F):=f (1000+a.toNat+b.toNat+c.toNat+d.toNat+e.toNat+i.toNat) a b c d e i j
end Zbs
namespace Zap
def j10(n:G)(a:I)(b:I)(c:I)(d:I)(e:I)(i:I)(j:F):W (F×Y):=
  if(!j)=X then
  ((Zdb.g b 8 (10:I)).bind λy1=>
  U (y1.1,()))
  else(U (M,()))
def f(n:G)(a:I)(b:I)(c:I)(d:I)(e:I)(i:I)(j:F):W (F×Y):=
  (Zdb.g a 1 (7:I)).bind λy1=>
  if(!y1.1)=X then
  ((Zdb.g b 0 (15:I)).bind λy2=>
  if(!y2.1)=X then
  ((Zbs.g a b c d e i j).bind λy3=>
  (Zba.g y3.1).bind λy4=>
  if(!(J (a=y4.1)&&(J (b=y4.2.1)&&(J (c=y4.2.2.1)&&(J (d=y4.2.2.2.1)&&(J (e=y4.2.2.2.2.1)&&(J (i=y4.2.2.2.2.2.1)&&((j == y4.2.2.2.2.2.2.1)&&M)))))))) then(U (X,()))
  else
  (if(J (a=1)) then
  (if(J (a=1)) then
  (if(J (b=0)) then
  (if(J (d=0)) then
  (if(J (a=2))=X then
  (if(!j) then
  (if(!j)=X then(U ((J (0<=i)),()))
  else(U (M,())))
  else(U (X,())))
  else
  (if(!j)=X then(U ((J (0<=i)),()))
  else(U (M,()))))
  else(U (X,())))
  else
  (if(J (11<b)) then(U (X,()))
  else(Zap.j10 n a b c d e i j)))
  else(U (M,())))
  else
  (if(J (a=2)) then
  (if(J (b=0)) then
  (if(J (d=0)) then
  (if(J (a=2))=X then
  (if(!j) then
  (if(!j)=X then(U ((J (0<=i)),()))
  else(U (M,())))
  else(U (X,())))
  else
  (if(!j)=X then(U ((J (0<=i)),()))
  else(U (M,()))))
  else(U (X,())))
  else
  (if(J (11<b)) then(U (X,()))
  else(Zap.j10 n a b c d e i j)))
  else(U (M,())))))
  else(U (X,())))
  else(U (X,()))
def g(a:I)(b:I)(c:I)(d:I)(e:I)(i:I)(j:F):=f (1000+a.toNat+b.toNat+c.toNat+d.toNat+e.toNat+i.toNat) a b c d e i j
end Zap
namespace Zbt
def f(n:G)(a:I):W (I×I×I×I×I×I×F×F×Y):=
  (Zba.g a).bind λy1=>
  (Zap.g y1.1 y1.2.1 y1.2.2.1 y1.2.2.2.1 y1.2.2.2.2.1 y1.2.2.2.2.2.1 y1.2.2.2.2.2.2.1).bind λy2=>
  if(!y2.1)=X then
  ((Zbs.g y1.1 y1.2.1 y1.2.2.1 y1.2.2.2.1 y1.2.2.2.2.1 y1.2.2.2.2.2.1 y1.2.2.2.2.2.2.1).bind λy3=>
  if(J (y3.1≠a)) then(U (0,0,0,0,0,0,X,X,()))
  else
  (U (y1.1,y1.2.1,y1.2.2.1,y1.2.2.2.1,y1.2.2.2.2.1,y1.2.2.2.2.2.1,y1.2.2.2.2.2.2.1,M,())))
  else(U (0,0,0,0,0,0,X,X,()))
def g(a:I):=f (1000+a.toNat) a
end Zbt
namespace Zdm
def f(n:G)(a:I):W (F×Y):=
  if(J (a=2)) then
  (if(J (a=2)) then(U (M,()))
  else(U (X,())))
  else
  (if(J (a=5)) then
  (if(J (a=5)) then(U (M,()))
  else(U (X,())))
  else
  (if(J (a=7)) then
  (if(J (a=7)) then(U (M,()))
  else(U (X,())))
  else
  (if(J (a=8)) then
  (if(J (a=8)) then(U (M,()))
  else(U (X,())))
  else
  (if(J (a=9)) then(U (M,()))
  else(U (X,()))))))
def g(a:I):=f (1000+a.toNat) a
end Zdm
namespace Zan
def j12(n:G)(a:I)(b:I)(c:I)(d:I)(e:I)(i:I)(j:F):W (F×Y):=
  (Zap.g a b c d e i j).bind λy1=>
  U (y1.1,())
def j4(n:G)(a:I)(b:I)(c:I)(d:I)(e:I)(i:F)(j:S It)(k:Str)(l:I)(o:I)(p:I)(q:I)(r:I)(s:I)(t:F):W (F×Y):=
  if(J (a=0)) then
  (if(J (a=0)) then
  (U ((J (l=a)&&(J (o=0)&&(J (p=0)&&(J (q=0)&&(J (r=0)&&(J (s=0)&&((t == X)&&M))))))),()))
  else
  (if(J (a=10)) then
  (if(J (l=a)&&(J (o=0)&&(J (p=0)&&(J (q=0)&&(J (r=0)&&(J (s=0)&&((t == X)&&M))))))) then
  ((Zav.g k).bind λy1=>
  U (y1.1,()))
  else(U (X,())))
  else
  (if(J (a=8)) then
  (if(J (l=a)&&(J (o=0)&&(J (p=c)&&(J (q=0)&&(J (r=0)&&(J (s=0)&&((t == X)&&M))))))) then
  ((Zay.g c).bind λy2=>
  U ((!(J (y2.1=([]:Str)))),()))
  else(U (X,())))
  else(Zan.j12 n l o p q r s t))))
  else
  (if(J (a=9)) then
  (U ((J (l=a)&&(J (o=0)&&(J (p=0)&&(J (q=0)&&(J (r=0)&&(J (s=0)&&((t == X)&&M))))))),()))
  else
  (if(J (a=10)) then
  (if(J (l=a)&&(J (o=0)&&(J (p=0)&&(J (q=0)&&(J (r=0)&&(J (s=0)&&((t == X)&&M))))))) then
  ((Zav.g k).bind λy3=>
  U (y3.1,()))
  else(U (X,())))
  else
  (if(J (a=8)) then
  (if(J (l=a)&&(J (o=0)&&(J (p=c)&&(J (q=0)&&(J (r=0)&&(J (s=0)&&((t == X)&&M))))))) then
  ((Zay.g c).bind λy4=>
  U ((!(J (y4.1=([]:Str)))),()))
  else(U (X,())))
  else(Zan.j12 n l o p q r s t))))
def f(n:G)(a:I)(b:I)(c:I)(d:I)(e:I)(i:F)(j:S It)(k:Str):W (F×Y):=
  (Zdm.g a).bind λy1=>
  if(!(y1.1 == (J ((0:I)<(j.length:I)))))=X then
  ((Zdm.g a).bind λy2=>
  if y2.1 then
  ((Zbg.g j).bind λy3=>
  if(!y3.1)=X then
  (if(!((J (a=10)) == (!(J (k=([]:Str)))))) then(U (X,()))
  else(Zan.j4 n a b c d e i j k a b c d e 0 i))
  else(U (X,())))
  else
  (if(!((J (a=10)) == (!(J (k=([]:Str)))))) then(U (X,()))
  else(Zan.j4 n a b c d e i j k a b c d e 0 i)))
  else(U (X,()))
def g(a:I)(b:I)(c:I)(d:I)(e:I)(i:F)(j:S It)(k:Str):=f (1000+a.toNat+b.toNat+c.toNat+d.toNat+e.toNat+j.length+k.length) a b c d e i j k
end Zan
namespace Zea
def f(n:G)(a:I):W (I×Y):=
  if(J (a=2)) then(U (1,()))
  else
  (if(J (a=6)) then(U (7,()))
  else(U (a,())))
def g(a:I):=f (1000+a.toNat) a
end Zea
namespace Zeb
def f(n:G)(a:I):W (F×Y):=
  if(J (a=9))=X then(U ((J (a=10)),()))
  else(U (M,()))
def g(a:I):=f (1000+a.toNat) a
end Zeb
namespace Zeg
def f(n:G)(a:I)(b:I)(c:I)(d:I)(e:I)(i:F)(j:S It)(k:Str):W (Y×I×I×I×I×I×F×(S It)×Str×Y):=
  U ((),a,b,c,d,e,i,j,k,())
def g(a:I)(b:I)(c:I)(d:I)(e:I)(i:F)(j:S It)(k:Str):=f (1000+a.toNat+b.toNat+c.toNat+d.toNat+e.toNat+j.length+k.length) a b c d e i j k
end Zeg
namespace Zeh
def f(n:G)(a:I)(b:I)(c:I)(d:I)(e:I)(i:F)(j:S It)(k:Str):W (Y×I×I×I×I×I×F×(S It)×Str×Y):=
  U ((),a,b,c,d,e,i,j,k,())
def g(a:I)(b:I)(c:I)(d:I)(e:I)(i:F)(j:S It)(k:Str):=f (1000+a.toNat+b.toNat+c.toNat+d.toNat+e.toNat+j.length+k.length) a b c d e i j k
end Zeh
namespace Zei
def f(n:G)(a:I)(b:I)(c:I)(d:I)(e:I)(i:F)(j:S It)(k:Str):W (Y×I×I×I×I×I×F×(S It)×Str×Y):=
  U ((),a,b,c,d,e,i,j,k,())
def g(a:I)(b:I)(c:I)(d:I)(e:I)(i:F)(j:S It)(k:Str):=f (1000+a.toNat+b.toNat+c.toNat+d.toNat+e.toNat+j.length+k.length) a b c d e i j k
end Zei
namespace Zca
def f(n:G)(a:I)(b:I)(c:I)(d:I)(e:I)(i:F)(j:S It)(k:Str)(l:Fn):W (Str×Y):=
  if l=K.atA then((Zeg.g a b c d e i j k).bind λy1=>
  (Zay.g y1.2.2.2.1).bind λy2=>
  U (y2.1,()))
  else if l=K.atB then((Zeh.g a b c d e i j k).bind λy3=>
  (Zay.g y3.2.2.2.2.1).bind λy4=>
  U (y4.1,()))
  else if l=K.atC then((Zei.g a b c d e i j k).bind λy5=>
  (Zay.g y5.2.2.2.2.2.1).bind λy6=>
  U (y6.1,()))
  else D
def g(a:I)(b:I)(c:I)(d:I)(e:I)(i:F)(j:S It)(k:Str)(l:Fn):=f (1000+a.toNat+b.toNat+c.toNat+d.toNat+e.toNat+j.length+k.length) a b c d e i j k l
end Zca
namespace Zcf
def l1(n:G):G->Str->I->W (Str×Y)
 |0,_,_=>D
 |m+1,a,b=>
  if(J ((0:I)<(a.length:I))) then
  (if 0<=(0:I)/\(0:I)<(a.length:I) then
  (if(J ((bt a 0)=b)) then
  (if 0<=(1:I)/\(1:I)<=(a.length:I) then
  ((Zcf.l1 n m) ((a.take (((a.length:I)).toNat)).drop (((1:I)).toNat)) b) else D)
  else(U (a,()))) else D)
  else(U (a,()))
def f(n:G)(a:Str)(b:I):W (Str×Y):=
  Zcf.l1 n n a b
def g(a:Str)(b:I):=f (1000+a.length+b.toNat) a b
end Zcf
namespace Zdc
def j5(n:G)(a:Str)(b:Str):W (Str×Y):=
  D
def f(n:G)(a:Str)(b:Str):W (Str×Y):=
  if(J (a=([]:Str)))=X then
  (if(J (b=([]:Str))) then(U (a,()))
  else
  (if(J ((b.length:I)=(1:I))) then
  (if 0<=(0:I)/\(0:I)<(b.length:I) then
  (if(J ((bt b 0)<128)) then
  (if 0<=(0:I)/\(0:I)<(b.length:I) then
  ((Zcf.g a (bt b (0:I))).bind λy1=>
  U (y1.1,())) else D)
  else(Zdc.j5 n a b)) else D)
  else(Zdc.j5 n a b)))
  else(U (a,()))
def g(a:Str)(b:Str):=f (1000+a.length+b.length) a b
end Zdc
namespace Zdn
def f(n:G)(a:I)(b:I)(c:I)(d:I)(e:I)(i:F)(j:S It)(k:Str)(l:Str):W (Str×Y):=
  (Zai.g j).bind λy1=>
  if l.length+([32]:Str).length<=9223372036854775807 then
  (if(l++([32]:Str)).length+y1.1.length<=9223372036854775807 then
  ((Zdc.g ((l++([32]:Str))++y1.1) ([32]:Str)).bind λy2=>
  U (y2.1,())) else D) else D
def g(a:I)(b:I)(c:I)(d:I)(e:I)(i:F)(j:S It)(k:Str)(l:Str):=f (1000+a.toNat+b.toNat+c.toNat+d.toNat+e.toNat+j.length+k.length+l.length) a b c d e i j k l
end Zdn
namespace Zej
def f(n:G)(a:I)(b:I)(c:I)(d:I)(e:I)(i:F)(j:S It)(k:Str):W (Str×Y):=
  U (k,())
def g(a:I)(b:I)(c:I)(d:I)(e:I)(i:F)(j:S It)(k:Str):=f (1000+a.toNat+b.toNat+c.toNat+d.toNat+e.toNat+j.length+k.length) a b c d e i j k
end Zej
namespace Zaf
def j15(n:G)(rl12:(S Str)->Str->(S Str)->(S (Fn×Fn×Y))->I->I->I->I->I->I->I->F->(S It)->Str->W Sy)(a:S Str)(b:Str)(c:S Str)(d:S (Fn×Fn×Y))(e:I)(i:I)(j:I)(k:I)(l:I)(o:I)(p:I)(q:F)(r:S It)(s:Str):W Sy:=
  rl12 a b c d e (O.wrap (i+1)) j k l o p q r s
def j17(n:G)(a:S Str):W Sy:=
  (L.sjoinO a ([32]:Str)).bind λy1=>
  U (y1.1,0,())
def l12(n:G):G->(S Str)->Str->(S Str)->(S (Fn×Fn×Y))->I->I->I->I->I->I->I->F->(S It)->Str->W Sy
 |0,_,_,_,_,_,_,_,_,_,_,_,_,_,_=>D
 |m+1,a,b,c,d,e,i,j,k,l,o,p,q,r,s=>
  if(J (i<e)) then
  (if 0<=i/\i<(d.length:I) then
  (if((d.getD (i).toNat (((0,[]):Fn),(((0,[]):Fn),()))).2).1=K.wrA then((Zca.g j k l o p q r s K.atA).bind λy1=>
  if(c.length+([y1.1]:S Str).length)*16<=140737488355328/\0<16/\0<1 then
  (Zaf.j15 n (Zaf.l12 n m) a b (c++([y1.1]:S Str)) d e i j k l o p q r s) else D)
  else if((d.getD (i).toNat (((0,[]):Fn),(((0,[]):Fn),()))).2).1=K.wrB then((Zca.g j k l o p q r s K.atB).bind λy2=>
  if(c.length+([y2.1]:S Str).length)*16<=140737488355328/\0<16/\0<1 then
  (Zaf.j15 n (Zaf.l12 n m) a b (c++([y2.1]:S Str)) d e i j k l o p q r s) else D)
  else if((d.getD (i).toNat (((0,[]):Fn),(((0,[]):Fn),()))).2).1=K.wrC then((Zca.g j k l o p q r s K.atC).bind λy3=>
  if(c.length+([y3.1]:S Str).length)*16<=140737488355328/\0<16/\0<1 then
  (Zaf.j15 n (Zaf.l12 n m) a b (c++([y3.1]:S Str)) d e i j k l o p q r s) else D)
  else if((d.getD (i).toNat (((0,[]):Fn),(((0,[]):Fn),()))).2).1=K.wrE then((Zdn.g j k l o p q r s ([]:Str)).bind λy4=>
  if(c.length+([y4.1]:S Str).length)*16<=140737488355328/\0<16/\0<1 then
  (Zaf.j15 n (Zaf.l12 n m) a b (c++([y4.1]:S Str)) d e i j k l o p q r s) else D)
  else if((d.getD (i).toNat (((0,[]):Fn),(((0,[]):Fn),()))).2).1=K.wrQ then((Zdn.g j k l o p q r s ([61]:Str)).bind λy5=>
  if(c.length+([y5.1]:S Str).length)*16<=140737488355328/\0<16/\0<1 then
  (Zaf.j15 n (Zaf.l12 n m) a b (c++([y5.1]:S Str)) d e i j k l o p q r s) else D)
  else if((d.getD (i).toNat (((0,[]):Fn),(((0,[]):Fn),()))).2).1=K.wrN then((Zej.g j k l o p q r s).bind λy6=>
  if(c.length+([y6.1]:S Str).length)*16<=140737488355328/\0<16/\0<1 then
  (Zaf.j15 n (Zaf.l12 n m) a b (c++([y6.1]:S Str)) d e i j k l o p q r s) else D)
  else D) else D)
  else
  ((L.sjoinO c ([44,32]:Str)).bind λy7=>
  if(a.length+([b,y7.1]:S Str).length)*16<=140737488355328/\0<16/\0<1 then(Zaf.j17 n (a++([b,y7.1]:S Str))) else D)
def j10(n:G)(a:S Str)(b:Str)(c:I)(d:I)(e:I)(i:I)(j:I)(k:F)(l:S It)(o:Str):W Sy:=
  Zaf.l12 n n a b ([]) (L.opsR c d) ((L.opsR c d).length:I) 0 c d e i j k l o
def j6(n:G)(a:S Str)(b:I)(c:I)(d:I)(e:I)(i:I)(j:F)(k:S It)(l:Str):W Sy:=
  if(J (b≠0)) then
  ((Zea.g b).bind λy1=>
  (L.mnemO y1.1 c j).bind λy2=>
  (Zeb.g b).bind λy3=>
  if y3.1 then
  (if([46]:Str).length+y2.1.length<=9223372036854775807 then(Zaf.j10 n a (([46]:Str)++y2.1) b c d e i j k l) else D)
  else(Zaf.j10 n a y2.1 b c d e i j k l))
  else(Zaf.j17 n a)
def j3(n:G)(a:Str)(b:I)(c:I)(d:I)(e:I)(i:I)(j:F)(k:S It)(l:Str):W Sy:=
  if(!(J (a=([]:Str)))) then
  (if a.length+([58]:Str).length<=9223372036854775807 then
  (if(([]:S Str).length+([(a++([58]:Str))]:S Str).length)*16<=140737488355328/\0<16/\0<1 then
  (Zaf.j6 n (([]:S Str)++([(a++([58]:Str))]:S Str)) b c d e i j k l) else D) else D)
  else(Zaf.j6 n ([]) b c d e i j k l)
def f(n:G)(a:Str)(b:I)(c:I)(d:I)(e:I)(i:I)(j:F)(k:S It)(l:Str):W Sy:=
  if(!(J (a=([]:Str)))) then
  ((Zag.g a).bind λy1=>
  if(!y1.1)=X then
  ((Zan.g b c d e i j k l).bind λy2=>
  if(!y2.1) then(U (([]:Str),22,()))
  else(Zaf.j3 n a b c d e i j k l))
  else(U (([]:Str),22,())))
  else
  ((Zan.g b c d e i j k l).bind λy3=>
  if(!y3.1) then(U (([]:Str),22,()))
  else(Zaf.j3 n a b c d e i j k l))
def g(a:Str)(b:I)(c:I)(d:I)(e:I)(i:I)(j:F)(k:S It)(l:Str):=f (1000+a.length+b.toNat+c.toNat+d.toNat+e.toNat+i.toNat+k.length+l.length) a b c d e i j k l
end Zaf
end Rv
namespace Rv
open Go
set_option maxRecDepth 100000
namespace Zcg
def f(n:G)(a:I)(b:I)(c:I)(d:I)(e:I)(i:F)(j:S It)(k:Str):W (I×I×I×I×I×I×F×Y):=
  U (a,b,c,d,e,0,i,())
def g(a:I)(b:I)(c:I)(d:I)(e:I)(i:F)(j:S It)(k:Str):=f (1000+a.toNat+b.toNat+c.toNat+d.toNat+e.toNat+j.length+k.length) a b c d e i j k
end Zcg
namespace Zcb
def f(n:G)(a:I)(b:I)(c:I)(d:I)(e:I)(i:F)(j:S It)(k:Str)(l:I)(o:I)(p:I)(q:I)(r:I)(s:F)(t:S It)(u:Str):W (F×Y):=
  (Zcg.g a b c d e i j k).bind λy1=>
  (Zcg.g l o p q r s t u).bind λy2=>
  if(J (y1.1=y2.1)&&(J (y1.2.1=y2.2.1)&&(J (y1.2.2.1=y2.2.2.1)&&(J (y1.2.2.2.1=y2.2.2.2.1)&&(J (y1.2.2.2.2.1=y2.2.2.2.2.1)&&(J (y1.2.2.2.2.2.1=y2.2.2.2.2.2.1)&&((y1.2.2.2.2.2.2.1 == y2.2.2.2.2.2.2.1)&&M))))))) then
  ((Zce.g j t).bind λy3=>
  if y3.1 then(U ((J (k=u)),()))
  else(U (X,())))
  else(U (X,()))
def g(a:I)(b:I)(c:I)(d:I)(e:I)(i:F)(j:S It)(k:Str)(l:I)(o:I)(p:I)(q:I)(r:I)(s:F)(t:S It)(u:Str):=f (1000+a.toNat+b.toNat+c.toNat+d.toNat+e.toNat+j.length+k.length+l.toNat+o.toNat+p.toNat+q.toNat+r.toNat+t.length+u.length) a b c d e i j k l o p q r s t u
end Zcb
namespace Zch
def f(n:G)(a:F):W (I×Y):=
  if a then(U (1,()))
  else(U (0,()))
def g(a:F):=f (1000) a
end Zch
namespace Zci
def f(n:G)(a:I)(b:I):W (I×Y):=
  if(mn (mx b 1) 32)<0 then D else
  (if(O.wrap ((1:I)*2 ^ (min (mn (mx b 1) (32:I)).toNat O.bits)))=0 then D else
  (if(O.wrap ((mn (mx b 1) 32)-1))<0 then D else
  (if(J ((O.wrap ((1:I)*2 ^ (min (O.wrap ((mn (mx b 1) 32)-(1:I))).toNat O.bits)))<=(Int.tmod (O.wrap a) (O.wrap ((1:I)*2 ^ (min (mn (mx b 1) (32:I)).toNat O.bits)))))) then
  (if(mn (mx b 1) 32)<0 then D else
  (U ((O.wrap ((Int.tmod (O.wrap a) (O.wrap ((1:I)*2 ^ (min (mn (mx b 1) (32:I)).toNat O.bits))))-(O.wrap ((1:I)*2 ^ (min (mn (mx b 1) (32:I)).toNat O.bits))))),())))
  else
  (U ((Int.tmod (O.wrap a) (O.wrap ((1:I)*2 ^ (min (mn (mx b 1) (32:I)).toNat O.bits)))),())))))
def g(a:I)(b:I):=f (1000+a.toNat+b.toNat) a b
end Zci
namespace Zbb
def j12(n:G)(a:I)(b:F)(c:I)(d:I)(e:I)(i:I)(j:I)(k:I)(l:I)(o:I)(p:I)(q:F):W (I×I×I×I×I×I×F×Y):=
  U (1,e,c,d,(O.wrap (ai .and .u32 a 15)),0,b,())
def j10(n:G)(a:I)(b:F)(c:I)(d:I)(e:I)(i:I)(j:I)(k:I)(l:I)(o:I)(p:I)(q:F):W (I×I×I×I×I×I×F×Y):=
  if b then
  (if(J (e=0)) then(U (3,0,c,0,0,0,X,()))
  else(Zbb.j12 n a b c d e i j k l o p q))
  else(Zbb.j12 n a b c d e i j k l o p q)
def j17(n:G)(a:F)(b:I)(c:I)(d:I)(e:I)(i:I)(j:I)(k:I)(l:I)(o:I)(p:I)(q:F):W (I×I×I×I×I×I×F×Y):=
  U (2,d,b,c,0,e,a,())
def f(n:G)(a:I):W (I×I×I×I×I×I×F×Y):=
  if(J (((a).fdiv (2 ^ (min (30:I).toNat Z.bits)))=0)) then
  (if(J ((ai .and .u32 ((a).fdiv (2 ^ (min (29:I).toNat Z.bits))) 1)=1)) then
  (if(J ((O.wrap (ai .and .u32 ((a).fdiv (2 ^ (min (16:I).toNat Z.bits))) 15))=0)) then
  (if(J ((ai .and .u32 ((a).fdiv (2 ^ (min (28:I).toNat Z.bits))) 1)=1)) then
  (U (4,0,(O.wrap (ai .and .u32 ((a).fdiv (2 ^ (min (24:I).toNat Z.bits))) 15)),0,0,0,X,()))
  else
  (Zbb.j10 n a (J ((ai .and .u32 ((a).fdiv (2 ^ (min (29:I).toNat Z.bits))) 1)=1)) (O.wrap (ai .and .u32 ((a).fdiv (2 ^ (min (24:I).toNat Z.bits))) 15)) (O.wrap (ai .and .u32 ((a).fdiv (2 ^ (min (20:I).toNat Z.bits))) 15)) (O.wrap (ai .and .u32 ((a).fdiv (2 ^ (min (16:I).toNat Z.bits))) 15)) 0 0 0 0 0 0 X))
  else
  (Zbb.j10 n a (J ((ai .and .u32 ((a).fdiv (2 ^ (min (29:I).toNat Z.bits))) 1)=1)) (O.wrap (ai .and .u32 ((a).fdiv (2 ^ (min (24:I).toNat Z.bits))) 15)) (O.wrap (ai .and .u32 ((a).fdiv (2 ^ (min (20:I).toNat Z.bits))) 15)) (O.wrap (ai .and .u32 ((a).fdiv (2 ^ (min (16:I).toNat Z.bits))) 15)) 0 0 0 0 0 0 X))
  else
  (Zbb.j10 n a (J ((ai .and .u32 ((a).fdiv (2 ^ (min (29:I).toNat Z.bits))) 1)=1)) (O.wrap (ai .and .u32 ((a).fdiv (2 ^ (min (24:I).toNat Z.bits))) 15)) (O.wrap (ai .and .u32 ((a).fdiv (2 ^ (min (20:I).toNat Z.bits))) 15)) (O.wrap (ai .and .u32 ((a).fdiv (2 ^ (min (16:I).toNat Z.bits))) 15)) 0 0 0 0 0 0 X))
  else
  (if(J (((a).fdiv (2 ^ (min (30:I).toNat Z.bits)))=1)) then
  (if(J ((ai .and .u32 ((a).fdiv (2 ^ (min (28:I).toNat Z.bits))) 1)=1)) then
  (Zbb.j17 n (J ((ai .and .u32 ((a).fdiv (2 ^ (min (29:I).toNat Z.bits))) 1)=1)) (O.wrap (ai .and .u32 ((a).fdiv (2 ^ (min (24:I).toNat Z.bits))) 15)) (O.wrap (ai .and .u32 ((a).fdiv (2 ^ (min (20:I).toNat Z.bits))) 15)) (O.wrap (ai .and .u32 ((a).fdiv (2 ^ (min (16:I).toNat Z.bits))) 15)) (O.wrap ((O.wrap (ai .and .u32 a 65535))-65536)) 0 0 0 0 0 0 X)
  else
  (Zbb.j17 n (J ((ai .and .u32 ((a).fdiv (2 ^ (min (29:I).toNat Z.bits))) 1)=1)) (O.wrap (ai .and .u32 ((a).fdiv (2 ^ (min (24:I).toNat Z.bits))) 15)) (O.wrap (ai .and .u32 ((a).fdiv (2 ^ (min (20:I).toNat Z.bits))) 15)) (O.wrap (ai .and .u32 ((a).fdiv (2 ^ (min (16:I).toNat Z.bits))) 15)) (O.wrap (ai .and .u32 a 65535)) 0 0 0 0 0 0 X))
  else
  (if(J (((a).fdiv (2 ^ (min (30:I).toNat Z.bits)))=2)) then
  ((Zch.g (J ((ai .and .u32 ((a).fdiv (2 ^ (min (29:I).toNat Z.bits))) 1)=(1:I)))).bind λy1=>
  (Zch.g (J ((ai .and .u32 ((a).fdiv (2 ^ (min (28:I).toNat Z.bits))) 1)=(1:I)))).bind λy2=>
  (Zci.g a (20:I)).bind λy3=>
  U (5,(O.wrap ((O.wrap ((2:I)*(O.wrap y1.1)))+(O.wrap y2.1))),(O.wrap (ai .and .u32 ((a).fdiv (2 ^ (min (24:I).toNat Z.bits))) 15)),(O.wrap (ai .and .u32 ((a).fdiv (2 ^ (min (20:I).toNat Z.bits))) 15)),0,y3.1,X,()))
  else
  (if(J ((ai .and .u32 ((a).fdiv (2 ^ (min (29:I).toNat Z.bits))) 1)=1)) then
  ((Zci.g a (24:I)).bind λy4=>
  U (7,(O.wrap (ai .and .u32 ((a).fdiv (2 ^ (min (24:I).toNat Z.bits))) 15)),0,0,0,y4.1,(J ((ai .and .u32 ((a).fdiv (2 ^ (min (28:I).toNat Z.bits))) 1)=1)),()))
  else
  (U (6,(O.wrap (ai .and .u32 ((a).fdiv (2 ^ (min (24:I).toNat Z.bits))) 15)),0,0,(O.wrap (ai .and .u32 a 15)),0,(J ((ai .and .u32 ((a).fdiv (2 ^ (min (28:I).toNat Z.bits))) 1)=1)),())))))
def g(a:I):=f (1000+a.toNat) a
end Zbb
namespace Zcj
def f(n:G)(a:I):W (F×Y):=
  if(J (0<=a)) then(U ((J (a<=15)),()))
  else(U (X,()))
def g(a:I):=f (1000+a.toNat) a
end Zcj
namespace Zcc
def f(n:G)(a:I)(b:I):W (F×Y):=
  if(O.wrap ((mn (mx b 1) 32)-1))<0 then D else
  (if(J ((O.wrap ((-1:I)*2 ^ (min (O.wrap ((mn (mx b 1) 32)-(1:I))).toNat O.bits)))<=a)) then
  (if(O.wrap ((mn (mx b 1) 32)-1))<0 then D else
  (U ((J (a<(O.wrap ((1:I)*2 ^ (min (O.wrap ((mn (mx b 1) 32)-(1:I))).toNat O.bits))))),())))
  else(U (X,())))
def g(a:I)(b:I):=f (1000+a.toNat+b.toNat) a b
end Zcc
namespace Zab
def j22(n:G)(a:F)(b:I)(c:I)(d:I)(e:I)(i:I)(j:I)(k:F)(l:I)(o:I)(p:I)(q:I)(r:I)(s:I)(t:F):W (F×Y):=
  if(J (l=b)&&(J (o=c)&&(J (p=d)&&(J (q=e)&&(J (r=i)&&(J (s=j)&&((t == k)&&M))))))) then
  (if(J (j<=65535)) then
  (if(J ((-65536)<=j)) then
  (if(J (0<=j))=X then(U ((!a),()))
  else(U (M,())))
  else(U (X,())))
  else(U (X,())))
  else(U (X,()))
def j21(n:G)(a:I)(b:I)(c:I)(d:I)(e:I)(i:I)(j:F)(k:I)(l:I)(o:I)(p:I)(q:I)(r:I)(s:F):W (F×Y):=
  if(J (b=0)) then(Zab.j22 n j a b c d e i j k l o p q r s)
  else(Zab.j22 n X a b c d e i j k l o p q r s)
def j15(n:G)(a:I)(b:I)(c:I)(d:I)(e:I)(i:I)(j:F)(k:I)(l:I)(o:I)(p:I)(q:I)(r:I)(s:F):W (F×Y):=
  if(J (a=1)) then
  (U ((J (k=a)&&(J (l=b)&&(J (o=c)&&(J (p=d)&&(J (e=e)&&(J (r=i)&&((s == j)&&M))))))),()))
  else
  (if(J (b=0)) then(Zab.j21 n a b c d e i j k l o p q i j)
  else(Zab.j21 n a b c d e i j k l o p q i s))
def j13(n:G)(a:F)(b:I)(c:I)(d:I)(e:I)(i:I)(j:I)(k:F)(l:I)(o:I)(p:I)(q:I)(r:I)(s:I)(t:F):W (F×Y):=
  if a then(Zab.j15 n b c d e i j k l o p q r s k)
  else(Zab.j15 n b c d e i j k l o p q r s t)
def j8(n:G)(a:F)(b:I)(c:I)(d:I)(e:I)(i:I)(j:I)(k:F)(l:I)(o:I)(p:I)(q:I)(r:I)(s:I)(t:F):W (F×Y):=
  if(J (c<0))=X then
  (if(J (11<c)) then(U (X,()))
  else
  (if(J (c≠0)) then(Zab.j13 n a b c d e i j k l c p e r s t)
  else(Zab.j13 n a b c d e i j k l c p q r s t)))
  else(U (X,()))
def j25(n:G)(a:I)(b:I)(c:I)(d:I)(e:I)(i:I)(j:F)(k:I)(l:I)(o:I)(p:I)(q:I)(r:I)(s:F):W (F×Y):=
  U ((J (k=a)&&(J (l=b)&&(J (o=c)&&(J (p=d)&&(J (q=e)&&(J (r=i)&&((s == j)&&M))))))),())
def j26(n:G)(a:I)(b:I)(c:I)(d:I)(e:I)(i:I)(j:I)(k:F)(l:I)(o:I)(p:I)(q:I)(r:I)(s:I)(t:F):W (F×Y):=
  if(J (a=5)) then
  (if(J (l=b)&&(J (c=c)&&(J (p=d)&&(J (e=e)&&(J (r=i)&&(J (j=j)&&((t == k)&&M))))))) then
  (if(J (0<=c)) then
  (if(J (c<=3)) then
  ((Zcc.g j (20:I)).bind λy1=>
  U (y1.1,()))
  else(U (X,())))
  else(U (X,())))
  else(U (X,())))
  else
  (if(J (a=6)) then
  (if(J (b=b)&&(J (c=c)&&(J (0=d)&&(J (0=e)&&(J (i=i)&&(J (0=j)&&((k == k)&&M))))))) then
  ((Zcj.g c).bind λy2=>
  U (y2.1,()))
  else(U (X,())))
  else
  (if(J (a=7)) then
  (if(J (b=b)&&(J (c=c)&&(J (0=d)&&(J (0=e)&&(J (0=i)&&(J (j=j)&&((k == k)&&M))))))) then
  ((Zcj.g c).bind λy3=>
  if y3.1 then
  ((Zcc.g j (24:I)).bind λy4=>
  U (y4.1,()))
  else(U (X,())))
  else(U (X,())))
  else(U (X,()))))
def j23(n:G)(a:I)(b:I)(c:I)(d:I)(e:I)(i:I)(j:I)(k:F)(l:I)(o:I)(p:I)(q:I)(r:I)(s:I)(t:F):W (F×Y):=
  if(J (a=3)) then
  (if(J (a=3)) then(Zab.j25 n b c d e i j k l o p q r s t)
  else(Zab.j26 n a b c d e i j k l o p q r s t))
  else
  (if(J (a=4)) then(Zab.j25 n b c d e i j k l o p q r s t)
  else(Zab.j26 n a b c d e i j k l o p q r s t))
def j5(n:G)(a:F)(b:I)(c:I)(d:I)(e:I)(i:I)(j:I)(k:F)(l:I)(o:I)(p:I)(q:I)(r:I)(s:I)(t:F):W (F×Y):=
  if(J (b=1)) then
  (if(J (b=1)) then(Zab.j8 n a b c d e i j k l o p q r s t)
  else(Zab.j23 n b b c d e i j k l o p q r s t))
  else
  (if(J (b=2)) then(Zab.j8 n a b c d e i j k l o p q r s t)
  else(Zab.j23 n b b c d e i j k l o p q r s t))
def f(n:G)(a:I)(b:I)(c:I)(d:I)(e:I)(i:I)(j:F):W (F×Y):=
  (Zcj.g c).bind λy1=>
  if(!y1.1)=X then
  ((Zcj.g d).bind λy2=>
  if(!y2.1)=X then
  ((Zcj.g e).bind λy3=>
  if(!y3.1) then(U (X,()))
  else
  (if(J (8<=b)) then
  (Zab.j5 n (J (b<=10)) a b c d e i j a 0 c 0 0 0 X)
  else(Zab.j5 n X a b c d e i j a 0 c 0 0 0 X)))
  else(U (X,())))
  else(U (X,()))
def g(a:I)(b:I)(c:I)(d:I)(e:I)(i:I)(j:F):=f (1000+a.toNat+b.toNat+c.toNat+d.toNat+e.toNat+i.toNat) a b c d e i j
end Zab
namespace Zcu
def f(n:G)(a:I)(b:I)(c:I)(d:I)(e:I)(i:I)(j:F):W (I×I×Y):=
  (Zab.g a b c d e i j).bind λy1=>
  if(!y1.1) then(U (0,1,()))
  else
  ((Zch.g j).bind λy2=>
  if(J (a=1)) then
  (U ((ai .or .u32 (ai .or .u32 (ai .or .u32 (ai .or .u32 (Z.wrap (y2.1*2 ^ (min (29:I).toNat Z.bits))) (Z.wrap ((Z.wrap c)*2 ^ (min (24:I).toNat Z.bits)))) (Z.wrap ((Z.wrap d)*2 ^ (min (20:I).toNat Z.bits)))) (Z.wrap ((Z.wrap b)*2 ^ (min (16:I).toNat Z.bits)))) (Z.wrap e)),0,()))
  else
  (if(J (a=2)) then
  ((Zch.g (J (i<(0:I)))).bind λy3=>
  U ((ai .or .u32 (ai .or .u32 (ai .or .u32 (ai .or .u32 (ai .or .u32 (ai .or .u32 1073741824 (Z.wrap (y2.1*2 ^ (min (29:I).toNat Z.bits)))) (Z.wrap (y3.1*2 ^ (min (28:I).toNat Z.bits)))) (Z.wrap ((Z.wrap c)*2 ^ (min (24:I).toNat Z.bits)))) (Z.wrap ((Z.wrap d)*2 ^ (min (20:I).toNat Z.bits)))) (Z.wrap ((Z.wrap b)*2 ^ (min (16:I).toNat Z.bits)))) (Int.tmod (Z.wrap i) 65536)),0,()))
  else
  (if(J (a=3)) then
  (U ((ai .or .u32 536870912 (Z.wrap ((Z.wrap c)*2 ^ (min (24:I).toNat Z.bits)))),0,()))
  else
  (if(J (a=4)) then
  (U ((ai .or .u32 805306368 (Z.wrap ((Z.wrap c)*2 ^ (min (24:I).toNat Z.bits)))),0,()))
  else
  (if(J (a=5)) then
  ((Zch.g (J (2<=b))).bind λy4=>
  (Zch.g (J ((Int.tmod b 2)=(1:I)))).bind λy5=>
  U ((ai .or .u32 (ai .or .u32 (ai .or .u32 (ai .or .u32 (ai .or .u32 2147483648 (Z.wrap (y4.1*2 ^ (min (29:I).toNat Z.bits)))) (Z.wrap (y5.1*2 ^ (min (28:I).toNat Z.bits)))) (Z.wrap ((Z.wrap c)*2 ^ (min (24:I).toNat Z.bits)))) (Z.wrap ((Z.wrap d)*2 ^ (min (20:I).toNat Z.bits)))) (Int.tmod (Z.wrap i) 1048576)),0,()))
  else
  (if(J (a=6)) then
  (U ((ai .or .u32 (ai .or .u32 (ai .or .u32 3221225472 (Z.wrap (y2.1*2 ^ (min (28:I).toNat Z.bits)))) (Z.wrap ((Z.wrap b)*2 ^ (min (24:I).toNat Z.bits)))) (Z.wrap e)),0,()))
  else
  (U ((ai .or .u32 (ai .or .u32 (ai .or .u32 3758096384 (Z.wrap (y2.1*2 ^ (min (28:I).toNat Z.bits)))) (Z.wrap ((Z.wrap b)*2 ^ (min (24:I).toNat Z.bits)))) (Int.tmod (Z.wrap i) 16777216)),0,()))))))))
def g(a:I)(b:I)(c:I)(d:I)(e:I)(i:I)(j:F):=f (1000+a.toNat+b.toNat+c.toNat+d.toNat+e.toNat+i.toNat) a b c d e i j
end Zcu
namespace Zdd
def f(n:G)(a:I):W (I×I×I×I×I×I×F×F×Y):=
  (Zbb.g a).bind λy1=>
  (Zcu.g y1.1 y1.2.1 y1.2.2.1 y1.2.2.2.1 y1.2.2.2.2.1 y1.2.2.2.2.2.1 y1.2.2.2.2.2.2.1).bind λy2=>
  if(J (y2.2.1≠0))=X then
  (if(J (y2.1≠a)) then(U (0,0,0,0,0,0,X,X,()))
  else
  (U (y1.1,y1.2.1,y1.2.2.1,y1.2.2.2.1,y1.2.2.2.2.1,y1.2.2.2.2.2.1,y1.2.2.2.2.2.2.1,M,())))
  else(U (0,0,0,0,0,0,X,X,()))
def g(a:I):=f (1000+a.toNat) a
end Zdd
namespace Zak
def j8(n:G)(a:F)(b:I)(c:I)(d:I)(e:I)(i:I)(j:F)(k:S It)(l:Str)(o:I)(p:I)(q:I)(r:I)(s:I)(t:I)(u:F):W (F×Y):=
  if(J ((k.length:I)=(0:I))) then
  (if(J (o=b)&&(J (p=0)&&(J (q=0)&&(J (r=0)&&(J (s=0)&&(J (t=0)&&((u == X)&&M))))))) then
  (if(!a)=X then
  ((Zat.g l).bind λy1=>
  U (y1.1,()))
  else(U (M,())))
  else(U (X,())))
  else(U (X,()))
def j13(n:G)(a:I)(b:I)(c:I)(d:I)(e:I)(i:F)(j:S It)(k:Str)(l:I)(o:I)(p:I)(q:I)(r:I)(s:I)(t:F):W (F×Y):=
  if(J ((j.length:I)=(0:I))) then
  ((Zab.g l o p q r s t).bind λy1=>
  U (y1.1,()))
  else(U (X,()))
def j17(n:G)(a:I)(b:I)(c:I)(d:I)(e:I)(i:F)(j:S It)(k:Str)(l:I)(o:I)(p:I)(q:I)(r:I)(s:I)(t:F):W (F×Y):=
  (Zbi.g j).bind λy1=>
  if y1.1 then
  ((Zab.g l o p q r s t).bind λy2=>
  U (y2.1,()))
  else(U (X,()))
def j18(n:G)(a:I)(b:I)(c:I)(d:I)(e:I)(i:I)(j:F)(k:S It)(l:Str)(o:I)(p:I)(q:I)(r:I)(s:I)(t:I)(u:F):W (F×Y):=
  if(J (a=8)) then
  ((Zbi.g k).bind λy1=>
  if y1.1 then
  (if(J (o=b)&&(J (p=0)&&(J (q=d)&&(J (r=0)&&(J (s=0)&&(J (t=0)&&((u == X)&&M))))))) then
  (if(J (0<=d)) then(U ((J (d<=15)),()))
  else(U (X,())))
  else(U (X,())))
  else(U (X,())))
  else
  (if(J (a=9)) then
  ((Zbi.g k).bind λy2=>
  if y2.1 then
  (U ((J (o=b)&&(J (p=0)&&(J (q=0)&&(J (r=0)&&(J (s=0)&&(J (t=0)&&((u == X)&&M))))))),()))
  else(U (X,())))
  else(U (X,())))
def j14(n:G)(a:I)(b:I)(c:I)(d:I)(e:I)(i:I)(j:F)(k:S It)(l:Str)(o:I)(p:I)(q:I)(r:I)(s:I)(t:I)(u:F):W (F×Y):=
  if(J (a=2)) then
  (if(J (a=2)) then(Zak.j17 n b c d e i j k l o p q r s t u)
  else(Zak.j18 n a b c d e i j k l o p q r s t u))
  else
  (if(J (a=5)) then
  (if(J (a=5)) then(Zak.j17 n b c d e i j k l o p q r s t u)
  else(Zak.j18 n a b c d e i j k l o p q r s t u))
  else
  (if(J (a=7)) then(Zak.j17 n b c d e i j k l o p q r s t u)
  else(Zak.j18 n a b c d e i j k l o p q r s t u)))
def j9(n:G)(a:I)(b:I)(c:I)(d:I)(e:I)(i:I)(j:F)(k:S It)(l:Str)(o:I)(p:I)(q:I)(r:I)(s:I)(t:I)(u:F):W (F×Y):=
  if(J (a=1)) then
  (if(J (a=1)) then(Zak.j13 n b c d e i j k l o p q r s t u)
  else(Zak.j14 n a b c d e i j k l o p q r s t u))
  else
  (if(J (a=3)) then
  (if(J (a=3)) then(Zak.j13 n b c d e i j k l o p q r s t u)
  else(Zak.j14 n a b c d e i j k l o p q r s t u))
  else
  (if(J (a=4)) then
  (if(J (a=4)) then(Zak.j13 n b c d e i j k l o p q r s t u)
  else(Zak.j14 n a b c d e i j k l o p q r s t u))
  else
  (if(J (a=6)) then(Zak.j13 n b c d e i j k l o p q r s t u)
  else(Zak.j14 n a b c d e i j k l o p q r s t u))))
def f(n:G)(a:I)(b:I)(c:I)(d:I)(e:I)(i:F)(j:S It)(k:Str):W (F×Y):=
  (Zcg.g a b c d e i j k).bind λy1=>
  if(!((J (a=10)) == (!(J (k=([]:Str)))))) then(U (X,()))
  else
  (if(J (a=0)) then
  (if(J (a=0)) then
  (Zak.j8 n (J (a=10)) a b c d e i j k y1.1 y1.2.1 y1.2.2.1 y1.2.2.2.1 y1.2.2.2.2.1 y1.2.2.2.2.2.1 y1.2.2.2.2.2.2.1)
  else
  (Zak.j9 n a a b c d e i j k y1.1 y1.2.1 y1.2.2.1 y1.2.2.2.1 y1.2.2.2.2.1 y1.2.2.2.2.2.1 y1.2.2.2.2.2.2.1))
  else
  (if(J (a=10)) then
  (Zak.j8 n (J (a=10)) a b c d e i j k y1.1 y1.2.1 y1.2.2.1 y1.2.2.2.1 y1.2.2.2.2.1 y1.2.2.2.2.2.1 y1.2.2.2.2.2.2.1)
  else
  (Zak.j9 n a a b c d e i j k y1.1 y1.2.1 y1.2.2.1 y1.2.2.2.1 y1.2.2.2.2.1 y1.2.2.2.2.2.1 y1.2.2.2.2.2.2.1)))
def g(a:I)(b:I)(c:I)(d:I)(e:I)(i:F)(j:S It)(k:Str):=f (1000+a.toNat+b.toNat+c.toNat+d.toNat+e.toNat+j.length+k.length) a b c d e i j k
end Zak
namespace Zcv
def j9(n:G)(a:I)(b:I)(c:I)(d:I)(e:I)(i:F)(j:S It)(k:Str):W (Str×Y):=
  (Zae.g a b i).bind λy1=>
  U (y1.1,())
def f(n:G)(a:I)(b:I)(c:I)(d:I)(e:I)(i:F)(j:S It)(k:Str):W (Str×Y):=
  if(J (a=2)) then
  ((Zae.g 1 b i).bind λy1=>
  U (y1.1,()))
  else
  (if(J (a=6)) then
  ((Zae.g 7 b i).bind λy2=>
  U (y2.1,()))
  else
  (if(J (a=9)) then
  (if(J (a=9)) then
  ((Zae.g a 0 X).bind λy3=>
  if([46]:Str).length+y3.1.length<=9223372036854775807 then(U ((([46]:Str)++y3.1),())) else D)
  else(Zcv.j9 n a b c d e i j k))
  else
  (if(J (a=10)) then
  ((Zae.g a 0 X).bind λy4=>
  if([46]:Str).length+y4.1.length<=9223372036854775807 then(U ((([46]:Str)++y4.1),())) else D)
  else(Zcv.j9 n a b c d e i j k))))
def g(a:I)(b:I)(c:I)(d:I)(e:I)(i:F)(j:S It)(k:Str):=f (1000+a.toNat+b.toNat+c.toNat+d.toNat+e.toNat+j.length+k.length) a b c d e i j k
end Zcv
namespace Zcw
def j26(n:G)(a:Str):W ((S Str)×Y):=
  U (([a]:S Str),())
def f(n:G)(a:I)(b:I)(c:I)(d:I)(e:I)(i:F)(j:S It)(k:Str):W ((S Str)×Y):=
  (Zah.g j).bind λy1=>
  (Zbr.g c).bind λy2=>
  (Zbr.g d).bind λy3=>
  (Zbr.g e).bind λy4=>
  if(J (a=1)) then
  (if(J (b=0)) then(U (([y2.1,y4.1]:S Str),()))
  else(U (([y2.1,y3.1,y4.1]:S Str),())))
  else
  (if(J (a=2)) then
  (if(J (b=0)) then(U (([y2.1,y1.1]:S Str),()))
  else(U (([y2.1,y3.1,y1.1]:S Str),())))
  else
  (if(J (a=3)) then
  (if(J (a=3)) then(U (([y2.1]:S Str),()))
  else
  (if(J (a=5)) then(U (([y2.1,y3.1,y1.1]:S Str),()))
  else
  (if(J (a=6)) then(U (([y4.1]:S Str),()))
  else
  (if(J (a=8)) then
  (if([61,32]:Str).length+y1.1.length<=9223372036854775807 then(U (([y2.1,(([61,32]:Str)++y1.1)]:S Str),())) else D)
  else
  (if(J (a=10)) then(U (([k]:S Str),()))
  else(Zcw.j26 n y1.1))))))
  else
  (if(J (a=4)) then(U (([y2.1]:S Str),()))
  else
  (if(J (a=5)) then(U (([y2.1,y3.1,y1.1]:S Str),()))
  else
  (if(J (a=6)) then(U (([y4.1]:S Str),()))
  else
  (if(J (a=8)) then
  (if([61,32]:Str).length+y1.1.length<=9223372036854775807 then(U (([y2.1,(([61,32]:Str)++y1.1)]:S Str),())) else D)
  else
  (if(J (a=10)) then(U (([k]:S Str),()))
  else(Zcw.j26 n y1.1))))))))
def g(a:I)(b:I)(c:I)(d:I)(e:I)(i:F)(j:S It)(k:Str):=f (1000+a.toNat+b.toNat+c.toNat+d.toNat+e.toNat+j.length+k.length) a b c d e i j k
end Zcw
namespace Zao
def j17(n:G)(rl13:Str->(S Str)->I->W Sy)(a:Str)(b:S Str)(c:I):W Sy:=
  if a.length+([32]:Str).length<=9223372036854775807 then
  (if 0<=c/\c<(b.length:I) then
  (if(a++([32]:Str)).length+(b.getD (c).toNat ([]:Str)).length<=9223372036854775807 then
  (rl13 ((a++([32]:Str))++(b.getD (c).toNat ([]:Str))) b (O.wrap (c+1))) else D) else D) else D
def l13(n:G):G->Str->(S Str)->I->W Sy
 |0,_,_,_=>D
 |m+1,a,b,c=>
  if(J (c<(b.length:I))) then
  (if(J (0<c)) then
  (if a.length+([44]:Str).length<=9223372036854775807 then
  (Zao.j17 n (Zao.l13 n m) (a++([44]:Str)) b c) else D)
  else
  (Zao.j17 n (Zao.l13 n m) a b c))
  else(U (a,0,()))
def j10(n:G)(a:Str)(b:I)(c:I)(d:I)(e:I)(i:I)(j:F)(k:S It)(l:Str):W Sy:=
  (Zcv.g b c d e i j k l).bind λy1=>
  if a.length+y1.1.length<=9223372036854775807 then
  ((Zcw.g b c d e i j k l).bind λy2=>
  Zao.l13 n n (a++y1.1) y2.1 0) else D
def j6(n:G)(a:Str)(b:Str)(c:I)(d:I)(e:I)(i:I)(j:I)(k:F)(l:S It)(o:Str):W Sy:=
  if(J (c=0)) then(U (b,0,()))
  else
  (if(!(J (a=([]:Str)))) then
  (if b.length+([32]:Str).length<=9223372036854775807 then
  (Zao.j10 n (b++([32]:Str)) c d e i j k l o) else D)
  else(Zao.j10 n b c d e i j k l o))
def j3(n:G)(a:Str)(b:I)(c:I)(d:I)(e:I)(i:I)(j:F)(k:S It)(l:Str):W Sy:=
  if(!(J (a=([]:Str)))) then
  (if a.length+([58]:Str).length<=9223372036854775807 then
  (Zao.j6 n a (a++([58]:Str)) b c d e i j k l) else D)
  else(Zao.j6 n a ([]:Str) b c d e i j k l)
def f(n:G)(a:Str)(b:I)(c:I)(d:I)(e:I)(i:I)(j:F)(k:S It)(l:Str):W Sy:=
  if(!(J (a=([]:Str)))) then
  ((Zby.g a).bind λy1=>
  if(!y1.1)=X then
  ((Zak.g b c d e i j k l).bind λy2=>
  if(!y2.1) then(U (([]:Str),22,()))
  else(Zao.j3 n a b c d e i j k l))
  else(U (([]:Str),22,())))
  else
  ((Zak.g b c d e i j k l).bind λy3=>
  if(!y3.1) then(U (([]:Str),22,()))
  else(Zao.j3 n a b c d e i j k l))
def g(a:Str)(b:I)(c:I)(d:I)(e:I)(i:I)(j:F)(k:S It)(l:Str):=f (1000+a.length+b.toNat+c.toNat+d.toNat+e.toNat+i.toNat+k.length+l.length) a b c d e i j k l
end Zao
end Rv
namespace Rv
open Go
set_option maxRecDepth 100000
namespace Zec
def f(n:G)(a:Str)(b:I)(c:I)(d:I)(e:I)(i:I)(j:F)(k:S It)(l:Str):W Sy:=
  (Zaf.g a b c d e i j k l).bind λy1=>
  U (y1.1,y1.2.1,())
def g(a:Str)(b:I)(c:I)(d:I)(e:I)(i:I)(j:F)(k:S It)(l:Str):=f (1000+a.length+b.toNat+c.toNat+d.toNat+e.toNat+i.toNat+k.length+l.length) a b c d e i j k l
end Zec
namespace Zcx
def l5(n:G):G->(S Str)->(S Ln)->I->I->W ((S Str)×I×I×Y)
 |0,_,_,_,_=>D
 |m+1,a,b,c,d=>
  if(J (d<c)) then
  (if 0<=d/\d<(b.length:I) then
  ((Zec.g ((b.getD (d).toNat zL).1) ((((b.getD (d).toNat zL).2).1).1) (((((b.getD (d).toNat zL).2).1).2).1) ((((((b.getD (d).toNat zL).2).1).2).2).1) (((((((b.getD (d).toNat zL).2).1).2).2).2).1) ((((((((b.getD (d).toNat zL).2).1).2).2).2).2).1) (((((((((b.getD (d).toNat zL).2).1).2).2).2).2).2).1) ((((((((((b.getD (d).toNat zL).2).1).2).2).2).2).2).2).1) (((((((((((b.getD (d).toNat zL).2).1).2).2).2).2).2).2).2).1)).bind λy1=>
  if(J (y1.2.1≠0)) then(U ([],(O.wrap (d+1)),y1.2.1,()))
  else
  (if(a.length+([y1.1]:S Str).length)*16<=140737488355328/\0<16/\0<1 then
  ((Zcx.l5 n m) (a++([y1.1]:S Str)) b c (O.wrap (d+1))) else D)) else D)
  else(U (a,0,0,()))
def f(n:G)(a:S Ln):W ((S Str)×I×I×Y):=
  if(J ((4096:I)<(a.length:I))) then(U ([],0,2,()))
  else
  (Zcx.l5 n n ([]) a (a.length:I) 0)
def g(a:S Ln):=f (1000+a.length) a
end Zcx
namespace Zed
def f(n:G)(a:S Ln):W (Str×I×I×Y):=
  (Zcx.g a).bind λy1=>
  if(J (y1.2.2.1≠0)) then(U (([]:Str),y1.2.1,y1.2.2.1,()))
  else
  (if(y1.1.length+([([]:Str)]:S Str).length)*16<=140737488355328/\0<16/\0<1 then
  ((L.sjoinO (y1.1++([([]:Str)]:S Str)) ([10]:Str)).bind λy2=>
  U (y2.1,0,0,())) else D)
def g(a:S Ln):=f (1000+a.length) a
end Zed
namespace Zcd
def l4(n:G):G->(S Ln)->(S Ln)->I->W (F×Y)
 |0,_,_,_=>D
 |m+1,a,b,c=>
  if(J (c<(a.length:I))) then
  (if 0<=c/\c<(a.length:I) then
  (if 0<=c/\c<(b.length:I) then
  ((Zcb.g ((((a.getD (c).toNat zL).2).1).1) (((((a.getD (c).toNat zL).2).1).2).1) ((((((a.getD (c).toNat zL).2).1).2).2).1) (((((((a.getD (c).toNat zL).2).1).2).2).2).1) ((((((((a.getD (c).toNat zL).2).1).2).2).2).2).1) (((((((((a.getD (c).toNat zL).2).1).2).2).2).2).2).1) ((((((((((a.getD (c).toNat zL).2).1).2).2).2).2).2).2).1) (((((((((((a.getD (c).toNat zL).2).1).2).2).2).2).2).2).2).1) ((((b.getD (c).toNat zL).2).1).1) (((((b.getD (c).toNat zL).2).1).2).1) ((((((b.getD (c).toNat zL).2).1).2).2).1) (((((((b.getD (c).toNat zL).2).1).2).2).2).1) ((((((((b.getD (c).toNat zL).2).1).2).2).2).2).1) (((((((((b.getD (c).toNat zL).2).1).2).2).2).2).2).1) ((((((((((b.getD (c).toNat zL).2).1).2).2).2).2).2).2).1) (((((((((((b.getD (c).toNat zL).2).1).2).2).2).2).2).2).2).1)).bind λy1=>
  if(!y1.1)=X then
  (if 0<=c/\c<(a.length:I) then
  (if 0<=c/\c<(b.length:I) then
  (if(!(J ((a.getD (c).toNat zL).1=(b.getD (c).toNat zL).1))) then(U (X,()))
  else
  ((Zcd.l4 n m) a b (O.wrap (c+1)))) else D) else D)
  else(U (X,()))) else D) else D)
  else(U (M,()))
def f(n:G)(a:S Ln)(b:S Ln):W (F×Y):=
  if(J ((a.length:I)≠(b.length:I))) then(U (X,()))
  else(Zcd.l4 n n a b 0)
def g(a:S Ln)(b:S Ln):=f (1000+a.length+b.length) a b
end Zcd
namespace Zck
def l5(n:G):G->(S Ln)->Str->I->W (Str×I×I×Y)
 |0,_,_,_=>D
 |m+1,a,b,c=>
  if(J (c<(a.length:I))) then
  (if 0<=c/\c<(a.length:I) then
  (if 0<=c/\c<(a.length:I) then
  ((Zao.g ((a.getD (c).toNat zL).1) ((((a.getD (c).toNat zL).2).1).1) (((((a.getD (c).toNat zL).2).1).2).1) ((((((a.getD (c).toNat zL).2).1).2).2).1) (((((((a.getD (c).toNat zL).2).1).2).2).2).1) ((((((((a.getD (c).toNat zL).2).1).2).2).2).2).1) (((((((((a.getD (c).toNat zL).2).1).2).2).2).2).2).1) ((((((((((a.getD (c).toNat zL).2).1).2).2).2).2).2).2).1) (((((((((((a.getD (c).toNat zL).2).1).2).2).2).2).2).2).2).1)).bind λy1=>
  if(J (y1.2.1≠0)) then
  (U (([]:Str),(O.wrap (c+1)),y1.2.1,()))
  else
  (if b.length+y1.1.length<=9223372036854775807 then
  (if(b++y1.1).length+([10]:Str).length<=9223372036854775807 then
  ((Zck.l5 n m) a ((b++y1.1)++([10]:Str)) (O.wrap (c+1))) else D) else D)) else D) else D)
  else(U (b,0,0,()))
def f(n:G)(a:S Ln):W (Str×I×I×Y):=
  if(J ((4096:I)<(a.length:I))) then(U (([]:Str),0,2,()))
  else(Zck.l5 n n a ([]:Str) 0)
def g(a:S Ln):=f (1000+a.length) a
end Zck
end Rv
namespace Rv
open Go
set_option maxRecDepth 100000
namespace Zbc
def j3(n:G)(rl2:(S I)->I->I->W (F×Y))(a:S I)(b:I)(c:I):W (F×Y):=
  rl2 a b (O.wrap (c+1))
def l2(n:G):G->(S I)->I->I->W (F×Y)
 |0,_,_,_=>D
 |m+1,a,b,c=>
  if(J (c<(a.length:I))) then
  (if 0<=c/\c<(a.length:I) then
  (if(J ((a.getD (c).toNat 0)<0))=X then
  (if 0<=c/\c<(a.length:I) then
  (if(J (b<=(a.getD (c).toNat 0)))=X then
  (if 0<=c/\c<(a.length:I) then
  (if(J (65534<(a.getD (c).toNat 0)))=X then
  (if(J (0<c)) then
  (if 0<=c/\c<(a.length:I) then
  (if 0<=(O.wrap (c-1))/\(O.wrap (c-1))<(a.length:I) then
  (if(J ((a.getD (c).toNat 0)<=(a.getD ((O.wrap (c-(1:I)))).toNat 0))) then(U (X,()))
  else(Zbc.j3 n (Zbc.l2 n m) a b c)) else D) else D)
  else(Zbc.j3 n (Zbc.l2 n m) a b c))
  else(U (X,()))) else D)
  else(U (X,()))) else D)
  else(U (X,()))) else D)
  else(U (M,()))
def f(n:G)(a:S I)(b:I):W (F×Y):=
  Zbc.l2 n n a b 0
def g(a:S I)(b:I):=f (1000+a.length+b.toNat) a b
end Zbc
end Rv
namespace Rv
open Go
set_option maxRecDepth 100000
namespace Zaj
def j13(n:G)(rl12:I->I->(S I)->(S I)->(S Sy)->W (I×Y))(a:I)(b:I)(c:S I)(d:S I)(e:S Sy):W (I×Y):=
  rl12 a (O.wrap (b+1)) c d e
def l17(n:G):G->I->I->(S I)->(S I)->(S Sy)->W (I×Y)
 |0,_,_,_,_,_=>D
 |m+1,a,b,c,d,e=>
  if(J (b<(e.length:I))) then
  (if 0<=b/\b<(e.length:I) then
  (if(J (((e.getD (b).toNat zS).2).1<0))=X then
  (if(J ((O.wrap ((4:I)*a))<((e.getD (b).toNat zS).2).1))=X then
  (if(J ((Int.tmod (((e.getD (b).toNat zS).2).1) 4)≠0)) then(U (8,()))
  else
  ((Zaj.l17 n m) a (O.wrap (b+1)) c d e))
  else(U (8,())))
  else(U (8,()))) else D)
  else(U (0,()))
def l12(n:G):G->I->I->(S I)->(S I)->(S Sy)->W (I×Y)
 |0,_,_,_,_,_=>D
 |m+1,a,b,c,d,e=>
  if(J (b<(e.length:I))) then
  (if 0<=b/\b<(e.length:I) then
  ((Zat.g ((e.getD (b).toNat zS).1)).bind λy1=>
  if(!y1.1)=X then
  (if(J (0<b)) then
  (if 0<=b/\b<(e.length:I) then
  (if 0<=(O.wrap (b-1))/\(O.wrap (b-1))<(e.length:I) then
  (if((Op.bytesLess ((e.getD (b).toNat zS).1) ((e.getD ((O.wrap (b-(1:I)))).toNat zS).1))||(J ((e.getD (b).toNat zS).1=(e.getD ((O.wrap (b-(1:I)))).toNat zS).1))) then(U (9,()))
  else
  (Zaj.j13 n (Zaj.l12 n m) a b c d e)) else D) else D)
  else
  (Zaj.j13 n (Zaj.l12 n m) a b c d e))
  else(U (9,()))) else D)
  else(Zaj.l17 n n a 0 c d e)
def l7(n:G):G->I->I->(S I)->(S I)->(S Sy)->W (I×Y)
 |0,_,_,_,_,_=>D
 |m+1,a,b,c,d,e=>
  if(J (b<(d.length:I))) then
  (if 0<=b/\b<(d.length:I) then
  (if 0<=(d.getD (b).toNat 0)/\(d.getD (b).toNat 0)<(c.length:I) then
  (if(J ((O.wrap ((4:I)*a))<(O.wrap (c.getD ((d.getD (b).toNat (0:I))).toNat 0)))) then(U (8,()))
  else
  ((Zaj.l7 n m) a (O.wrap (b+1)) c d e)) else D) else D)
  else(Zaj.l12 n n a 0 c d e)
def f(n:G)(a:S I)(b:S I)(c:S Sy):W (I×Y):=
  if(J ((1024:I)<(a.length:I)))=X then
  (if(J ((64:I)<(c.length:I))) then(U (2,()))
  else
  ((Zbc.g b (a.length:I)).bind λy1=>
  if(!y1.1) then(U (7,()))
  else(Zaj.l7 n n (a.length:I) 0 a b c)))
  else(U (2,()))
def g(a:S I)(b:S I)(c:S Sy):=f (1000+a.length+b.length+c.length) a b c
end Zaj
end Rv
namespace Rv
open Go
set_option maxRecDepth 100000
namespace Zcl
def f(n:G)(a:S I)(b:S I)(c:S Sy)(d:I):W (I×F×Y):=
  if(J (d<0))=X then
  (if(J ((a.length:I)<=d))=X then
  ((Zda.g b d).bind λy1=>
  if y1.1 then(U (0,X,()))
  else
  (if 0<=d/\d<(a.length:I) then
  ((Zbt.g (a.getD (d).toNat (0:I))).bind λy2=>
  if(!y2.2.2.2.2.2.2.2.1)=X then
  (if(J (y2.1≠7))=X then
  (if(J ((O.wrap ((4:I)*(O.wrap ((O.wrap (d+1))+y2.2.2.2.2.2.1))))<0))=X then
  (if(J ((O.wrap ((4:I)*(a.length:I)))<(O.wrap ((4:I)*(O.wrap ((O.wrap (d+1))+y2.2.2.2.2.2.1)))))) then(U (0,X,()))
  else
  (U ((O.wrap ((4:I)*(O.wrap ((O.wrap (d+1))+y2.2.2.2.2.2.1)))),M,())))
  else(U (0,X,())))
  else(U (0,X,())))
  else(U (0,X,()))) else D))
  else(U (0,X,())))
  else(U (0,X,()))
def g(a:S I)(b:S I)(c:S Sy)(d:I):=f (1000+a.length+b.length+c.length+d.toNat) a b c d
end Zcl
namespace Zee
def g(a:S I)(b:S I)(c:S Sy):W ((S I)×I×Y):=L.labelOfO Zbn.g Zcl.g a b c
end Zee
namespace Zbd
def l3(n:G):G->I->(S I)->I->W (Str×Y)
 |0,_,_,_=>D
 |m+1,a,b,c=>
  if(J (0<=c)) then
  (if c<0 then D else
  (if 0<=(ai .and .i64 ((a).fdiv (2 ^ (min c.toNat O.bits))) 15)/\(ai .and .i64 ((a).fdiv (2 ^ (min c.toNat O.bits))) 15)<(([48,49,50,51,52,53,54,55,56,57,65,66,67,68,69,70]:Str).length:I) then
  (if(b.length+([(bt ([48,49,50,51,52,53,54,55,56,57,65,66,67,68,69,70]:Str) (ai .and .i64 ((a).fdiv (2 ^ (min c.toNat O.bits))) 15))]:S I).length)*1<=140737488355328/\0<1/\0<1 then
  ((Zbd.l3 n m) a (b++([(bt ([48,49,50,51,52,53,54,55,56,57,65,66,67,68,69,70]:Str) (ai .and .i64 ((a).fdiv (2 ^ (min c.toNat O.bits))) 15))]:S I)) (O.wrap (c-4))) else D) else D))
  else(U ((bytesOf b),()))
def f(n:G)(a:I):W (Str×Y):=
  Zbd.l3 n n a ([95]:S I) 12
def g(a:I):=f (1000+a.toNat) a
end Zbd
structure iL where
 disasm_number:I->W ((S It)×Y)
namespace disasm_number
def f(n:G)(R:iL)(a:I):W ((S It)×Y):=
  if(J (a<0)) then
  ((R.disasm_number (O.wrap (0-a))).bind λy1=>
  if(y1.1.length+([(3,0,([]:Str),())]:S It).length)*32<=140737488355328/\0<32/\0<3 then
  (U ((y1.1++([(3,0,([]:Str),())]:S It)),())) else D)
  else
  (U (([(1,(Z.wrap a),([]:Str),())]:S It),()))
def h(R:iL)(a:I):W ((S It)×Y):=f (1000+a.toNat) R a
end disasm_number
def bA:G->iL
 |0=>⟨λ_=>D⟩
 |q+1=>⟨disasm_number.h (bA q)⟩
def disasm_number.g(a:I):W ((S It)×Y):=(bA (1000+a.toNat)).disasm_number a
namespace Zde
def f(n:G)(a:I):W ((S It)×Y):=
  (Zbd.g a).bind λy1=>
  U (([(2,0,y1.1,())]:S It),())
def g(a:I):=f (1000+a.toNat) a
end Zde
namespace Zal
def j9(n:G)(a:I)(b:I)(c:I)(d:I)(e:I)(i:F)(j:S It)(k:Str)(l:I)(o:I)(p:I)(q:I)(r:I)(s:F)(t:S It)(u:Str):W Sn:=
  U (l,o,p,q,r,s,t,u,())
def j23(n:G)(a:I)(b:I)(c:I)(d:I)(e:I)(i:F)(j:S It)(k:Str)(l:I)(o:I)(p:I)(q:I)(r:I)(s:F)(t:S It)(u:Str):W Sn:=
  U (l,o,p,q,r,s,t,u,())
def f(n:G)(a:S I)(b:S I)(c:S Sy)(d:I):W Sn:=
  if(J (d<0))=X then
  (if(J ((a.length:I)<=d)) then(U (0,0,0,0,0,X,[],([]:Str),()))
  else
  (if 0<=d/\d<(a.length:I) then
  ((disasm_number.g (O.wrap (a.getD (d).toNat (0:I)))).bind λy1=>
  (Zda.g b d).bind λy2=>
  if y2.1 then
  ((Zde.g (O.wrap (a.getD (d).toNat (0:I)))).bind λy3=>
  if(J ((Int.tmod (O.wrap (a.getD (d).toNat 0)) 4)≠0)) then
  ((Zde.g (0:I)).bind λy4=>
  (disasm_number.g (O.wrap (a.getD (d).toNat (0:I)))).bind λy5=>
  if(y4.1.length+y5.1.length)*32<=140737488355328/\0<32/\0<3 then
  (if((y4.1++y5.1).length+([(4,0,([]:Str),())]:S It).length)*32<=140737488355328/\0<32/\0<3 then
  (Zal.j9 n 0 0 0 0 0 X ([]) ([]:Str) 9 0 0 0 0 X ((y4.1++y5.1)++([(4,0,([]:Str),())]:S It)) ([]:Str)) else D) else D)
  else
  (Zal.j9 n 0 0 0 0 0 X ([]) ([]:Str) 9 0 0 0 0 X y3.1 ([]:Str)))
  else
  (if 0<=d/\d<(a.length:I) then
  ((Zbt.g (a.getD (d).toNat (0:I))).bind λy6=>
  if(!y6.2.2.2.2.2.2.2.1) then(U (9,0,0,0,0,X,y1.1,([]:Str),()))
  else
  (if(J (y6.1=7)) then
  ((Zcl.g a b c d).bind λy7=>
  if(!y7.2.1) then(U (9,0,0,0,0,X,y1.1,([]:Str),()))
  else
  ((Zde.g y7.1).bind λy8=>
  Zal.j23 n 0 0 0 0 0 X ([]) ([]:Str) y6.1 y6.2.1 y6.2.2.1 y6.2.2.2.1 y6.2.2.2.2.1 y6.2.2.2.2.2.2.1 y8.1 ([]:Str)))
  else
  (if(J (y6.1=2)) then
  (if(J (y6.1=2)) then
  ((disasm_number.g y6.2.2.2.2.2.1).bind λy9=>
  Zal.j23 n 0 0 0 0 0 X ([]) ([]:Str) y6.1 y6.2.1 y6.2.2.1 y6.2.2.2.1 y6.2.2.2.2.1 y6.2.2.2.2.2.2.1 y9.1 ([]:Str))
  else
  (Zal.j23 n 0 0 0 0 0 X ([]) ([]:Str) y6.1 y6.2.1 y6.2.2.1 y6.2.2.2.1 y6.2.2.2.2.1 y6.2.2.2.2.2.2.1 ([]) ([]:Str)))
  else
  (if(J (y6.1=5)) then
  ((disasm_number.g y6.2.2.2.2.2.1).bind λy10=>
  Zal.j23 n 0 0 0 0 0 X ([]) ([]:Str) y6.1 y6.2.1 y6.2.2.1 y6.2.2.2.1 y6.2.2.2.2.1 y6.2.2.2.2.2.2.1 y10.1 ([]:Str))
  else
  (Zal.j23 n 0 0 0 0 0 X ([]) ([]:Str) y6.1 y6.2.1 y6.2.2.1 y6.2.2.2.1 y6.2.2.2.2.1 y6.2.2.2.2.2.2.1 ([]) ([]:Str)))))) else D)) else D))
  else(U (0,0,0,0,0,X,[],([]:Str),()))
def g(a:S I)(b:S I)(c:S Sy)(d:I):=f (1000+a.length+b.length+c.length+d.toNat) a b c d
end Zal
namespace Zcm
def g(a:S I)(b:S I)(c:S Sy):W ((S Ln)×I×Y):=L.linesO Zbn.g Zee.g Zbo.g Zbd.g Zal.g a b c
end Zcm
namespace Zcy
def f(n:G)(a:S I)(b:S I)(c:S Sy):W Sy:=
  (Zcm.g a b c).bind λy1=>
  if(J (y1.2.1≠0)) then(U (([]:Str),y1.2.1,()))
  else
  ((Zed.g y1.1).bind λy2=>
  U (y2.1,y2.2.2.1,()))
def g(a:S I)(b:S I)(c:S Sy):=f (1000+a.length+b.length+c.length) a b c
end Zcy
namespace Zbk
def l2(n:G):G->I->I->(S I)->(S I)->(S Sy)->W (F×Y)
 |0,_,_,_,_,_=>D
 |m+1,a,b,c,d,e=>
  if(J (b<(d.length:I))) then
  (if 0<=b/\b<(d.length:I) then
  (if(J ((d.getD (b).toNat 0)=a)) then(U (M,()))
  else
  ((Zbk.l2 n m) a (O.wrap (b+1)) c d e)) else D)
  else(U (X,()))
def f(n:G)(a:S I)(b:S I)(c:S Sy)(d:I):W (F×Y):=
  Zbk.l2 n n d 0 a b c
def g(a:S I)(b:S I)(c:S Sy)(d:I):=f (1000+a.length+b.length+c.length+d.toNat) a b c d
end Zbk
namespace Zdf
def f(n:G)(a:S I)(b:S I)(c:S Sy)(d:I):W (I×F×Y):=
  if(J (d<0))=X then
  (if(J ((a.length:I)<=d))=X then
  ((Zbk.g a b c d).bind λy1=>
  if y1.1 then(U (0,X,()))
  else
  (if 0<=d/\d<(a.length:I) then
  ((Zdd.g (a.getD (d).toNat (0:I))).bind λy2=>
  if(!y2.2.2.2.2.2.2.2.1)=X then
  (if(J (y2.1≠7))=X then
  (if(J ((O.wrap ((O.wrap ((O.wrap ((4:I)*d))+4))+(O.wrap ((4:I)*y2.2.2.2.2.2.1))))<0))=X then
  (if(J ((O.wrap ((4:I)*(a.length:I)))<(O.wrap ((O.wrap ((O.wrap ((4:I)*d))+4))+(O.wrap ((4:I)*y2.2.2.2.2.2.1)))))) then(U (0,X,()))
  else
  (U ((O.wrap ((O.wrap ((O.wrap ((4:I)*d))+4))+(O.wrap ((4:I)*y2.2.2.2.2.2.1)))),M,())))
  else(U (0,X,())))
  else(U (0,X,())))
  else(U (0,X,()))) else D))
  else(U (0,X,())))
  else(U (0,X,()))
def g(a:S I)(b:S I)(c:S Sy)(d:I):=f (1000+a.length+b.length+c.length+d.toNat) a b c d
end Zdf
namespace Zaa
def j11(n:G)(rl6:(S I)->I->(S I)->(S I)->(S Sy)->W ((S I)×I×Y))(rl10:(S I)->I->F->I->(S I)->(S I)->(S Sy)->W ((S I)×I×Y))(a:S I)(b:I)(c:F)(d:I)(e:S I)(i:S I)(j:S Sy):W ((S I)×I×Y):=
  rl10 a b c (O.wrap (d+1)) e i j
def j7(n:G)(rl6:(S I)->I->(S I)->(S I)->(S Sy)->W ((S I)×I×Y))(a:S I)(b:I)(c:S I)(d:S I)(e:S Sy):W ((S I)×I×Y):=
  rl6 a (O.wrap (b+4)) c d e
def l10(n:G)(rl6:(S I)->I->(S I)->(S I)->(S Sy)->W ((S I)×I×Y)):G->(S I)->I->F->I->(S I)->(S I)->(S Sy)->W ((S I)×I×Y)
 |0,_,_,_,_,_,_,_=>D
 |m+1,a,b,c,d,e,i,j=>
  if(J (d<(e.length:I))) then
  ((Zdf.g e i j d).bind λy1=>
  if 0<=d/\d<(e.length:I) then
  ((Zbk.g e i j d).bind λy2=>
  if c=X then
  (if y1.2.1 then
  (if(J (y1.1=b))=X then
  (if y2.1 then
  (if(J ((O.wrap (e.getD (d).toNat 0))=b))=X then
  (if y2.1 then
  (if(J ((Int.tmod (O.wrap (e.getD (d).toNat 0)) 4)≠0)) then
  (Zaa.j11 n rl6 (Zaa.l10 n rl6 m) a b (J (b=0)) d e i j)
  else
  (Zaa.j11 n rl6 (Zaa.l10 n rl6 m) a b X d e i j))
  else
  (Zaa.j11 n rl6 (Zaa.l10 n rl6 m) a b X d e i j))
  else
  (Zaa.j11 n rl6 (Zaa.l10 n rl6 m) a b M d e i j))
  else
  (if y2.1 then
  (if(J ((Int.tmod (O.wrap (e.getD (d).toNat 0)) 4)≠0)) then
  (Zaa.j11 n rl6 (Zaa.l10 n rl6 m) a b (J (b=0)) d e i j)
  else
  (Zaa.j11 n rl6 (Zaa.l10 n rl6 m) a b X d e i j))
  else
  (Zaa.j11 n rl6 (Zaa.l10 n rl6 m) a b X d e i j)))
  else
  (Zaa.j11 n rl6 (Zaa.l10 n rl6 m) a b M d e i j))
  else
  (if y2.1 then
  (if(J ((O.wrap (e.getD (d).toNat 0))=b))=X then
  (if y2.1 then
  (if(J ((Int.tmod (O.wrap (e.getD (d).toNat 0)) 4)≠0)) then
  (Zaa.j11 n rl6 (Zaa.l10 n rl6 m) a b (J (b=0)) d e i j)
  else
  (Zaa.j11 n rl6 (Zaa.l10 n rl6 m) a b X d e i j))
  else
  (Zaa.j11 n rl6 (Zaa.l10 n rl6 m) a b X d e i j))
  else
  (Zaa.j11 n rl6 (Zaa.l10 n rl6 m) a b M d e i j))
  else
  (if y2.1 then
  (if(J ((Int.tmod (O.wrap (e.getD (d).toNat 0)) 4)≠0)) then
  (Zaa.j11 n rl6 (Zaa.l10 n rl6 m) a b (J (b=0)) d e i j)
  else
  (Zaa.j11 n rl6 (Zaa.l10 n rl6 m) a b X d e i j))
  else
  (Zaa.j11 n rl6 (Zaa.l10 n rl6 m) a b X d e i j))))
  else
  (Zaa.j11 n rl6 (Zaa.l10 n rl6 m) a b M d e i j)) else D)
  else
  (if c then
  (if(a.length+([b]:S I).length)*8<=140737488355328/\0<8/\0<1 then(Zaa.j7 n rl6 (a++([b]:S I)) b e i j) else D)
  else(Zaa.j7 n rl6 a b e i j))
def l6(n:G):G->(S I)->I->(S I)->(S I)->(S Sy)->W ((S I)×I×Y)
 |0,_,_,_,_,_=>D
 |m+1,a,b,c,d,e=>
  if(J (b<=(O.wrap ((4:I)*(c.length:I))))) then
  (Zaa.l10 n (Zaa.l6 n m) n a b X 0 c d e)
  else(U (a,0,()))
def f(n:G)(a:S I)(b:S I)(c:S Sy):W ((S I)×I×Y):=
  (Zaj.g a b c).bind λy1=>
  if(J (y1.1≠0)) then(U ([],y1.1,()))
  else(Zaa.l6 n n ([]:S I) 0 a b c)
def g(a:S I)(b:S I)(c:S Sy):=f (1000+a.length+b.length+c.length) a b c
end Zaa
namespace Zbq
def l4(n:G):G->I->Str->Str->I->W (Str×Y)
 |0,_,_,_,_=>D
 |m+1,a,b,c,d=>
  if(J (d<8)) then
  (if 0<=(O.wrap ((O.wrap (Int.tmod a 16))+1))/\(O.wrap ((O.wrap (Int.tmod a 16))+1))<=(b.length:I) then
  (if 0<=(O.wrap (Int.tmod a 16))/\(O.wrap (Int.tmod a 16))<=(O.wrap ((O.wrap (Int.tmod a 16))+1)) then
  (if((b.take (((O.wrap ((O.wrap (Int.tmod a 16))+(1:I)))).toNat)).drop (((O.wrap (Int.tmod a (16:I)))).toNat)).length+c.length<=9223372036854775807 then
  ((Zbq.l4 n m) (Z.wrap (Int.tdiv a 16)) b (((b.take (((O.wrap ((O.wrap (Int.tmod a 16))+(1:I)))).toNat)).drop (((O.wrap (Int.tmod a (16:I)))).toNat))++c) (O.wrap (d+1))) else D) else D) else D)
  else(U (c,()))
def f(n:G)(a:I):W (Str×Y):=
  Zbq.l4 n n a ([48,49,50,51,52,53,54,55,56,57,65,66,67,68,69,70]:Str) ([]:Str) 0
def g(a:I):=f (1000+a.toNat) a
end Zbq
namespace Zdg
def f(n:G)(a:I):W (Str×Y):=
  (Zbq.g (Z.wrap (ai .and .i64 a (65535:I)))).bind λy1=>
  if 0<=(4:I)/\(4:I)<=(y1.1.length:I) then
  (if([95]:Str).length+((y1.1.take (((y1.1.length:I)).toNat)).drop (((4:I)).toNat)).length<=9223372036854775807 then
  (U ((([95]:Str)++((y1.1.take (((y1.1.length:I)).toNat)).drop (((4:I)).toNat))),())) else D) else D
def g(a:I):=f (1000+a.toNat) a
end Zdg
namespace Zdh
def f(n:G)(a:I):W ((S It)×Y):=
  (Zdg.g a).bind λy1=>
  U (([(2,0,y1.1,())]:S It),())
def g(a:I):=f (1000+a.toNat) a
end Zdh
namespace Zcn
def f(n:G)(a:I):W ((S It)×Y):=
  if(J (a<0)) then
  (U (([(1,(Z.wrap (O.wrap (0-a))),([]:Str),()),(3,0,([]:Str),())]:S It),()))
  else
  (U (([(1,(Z.wrap a),([]:Str),())]:S It),()))
def g(a:I):=f (1000+a.toNat) a
end Zcn
namespace Zam
def j19(n:G)(a:I)(b:I)(c:I)(d:I)(e:I)(i:F)(j:S It)(k:Str)(l:I)(o:I)(p:I)(q:I)(r:I)(s:F)(t:S It)(u:Str):W Sn:=
  U (l,o,p,q,r,s,t,u,())
def j12(n:G)(a:I)(b:I)(c:I)(d:I)(e:I)(i:I)(j:F)(k:S It)(l:Str)(o:I)(p:I)(q:I)(r:I)(s:I)(t:I)(u:F):W Sn:=
  if(J (o=7)) then
  ((Zdh.g a).bind λy1=>
  Zam.j19 n b c d e i j k l o p q r s u y1.1 ([]:Str))
  else
  (if(J (o=2)) then
  (if(J (o=2)) then
  ((Zcn.g t).bind λy2=>
  Zam.j19 n b c d e i j k l o p q r s u y2.1 ([]:Str))
  else
  (Zam.j19 n b c d e i j k l o p q r s u ([]) ([]:Str)))
  else
  (if(J (o=5)) then
  ((Zcn.g t).bind λy3=>
  Zam.j19 n b c d e i j k l o p q r s u y3.1 ([]:Str))
  else
  (Zam.j19 n b c d e i j k l o p q r s u ([]) ([]:Str))))
def f(n:G)(a:S I)(b:S I)(c:S Sy)(d:I):W Sn:=
  if(J (d<0))=X then
  (if(J ((a.length:I)<=d)) then(U (0,0,0,0,0,X,[],([]:Str),()))
  else
  (if 0<=d/\d<(a.length:I) then
  ((Zbk.g a b c d).bind λy1=>
  if y1.1 then
  (if(J ((Int.tmod (O.wrap (a.getD (d).toNat 0)) 4)=0)) then
  ((Zdh.g (O.wrap (a.getD (d).toNat (0:I)))).bind λy2=>
  U (9,0,0,0,0,X,y2.1,([]:Str),()))
  else
  ((Zdh.g (0:I)).bind λy3=>
  (Zcn.g (O.wrap (a.getD (d).toNat (0:I)))).bind λy4=>
  if(y3.1.length+y4.1.length)*32<=140737488355328/\0<32/\0<3 then
  (if((y3.1++y4.1).length+([(4,0,([]:Str),())]:S It).length)*32<=140737488355328/\0<32/\0<3 then
  (U (9,0,0,0,0,X,((y3.1++y4.1)++([(4,0,([]:Str),())]:S It)),([]:Str),())) else D) else D))
  else
  (if 0<=d/\d<(a.length:I) then
  ((Zdd.g (a.getD (d).toNat (0:I))).bind λy5=>
  (Zdf.g a b c d).bind λy6=>
  if(!y5.2.2.2.2.2.2.2.1)=X then
  (if(J (y5.1=7)) then
  (if(!y6.2.1) then
  ((Zcn.g (O.wrap (a.getD (d).toNat (0:I)))).bind λy7=>
  U (9,0,0,0,0,X,y7.1,([]:Str),()))
  else
  (Zam.j12 n y6.1 0 0 0 0 0 X ([]) ([]:Str) y5.1 y5.2.1 y5.2.2.1 y5.2.2.2.1 y5.2.2.2.2.1 y5.2.2.2.2.2.1 y5.2.2.2.2.2.2.1))
  else
  (Zam.j12 n y6.1 0 0 0 0 0 X ([]) ([]:Str) y5.1 y5.2.1 y5.2.2.1 y5.2.2.2.1 y5.2.2.2.2.1 y5.2.2.2.2.2.1 y5.2.2.2.2.2.2.1))
  else
  ((Zcn.g (O.wrap (a.getD (d).toNat (0:I)))).bind λy8=>
  U (9,0,0,0,0,X,y8.1,([]:Str),()))) else D)) else D))
  else(U (0,0,0,0,0,X,[],([]:Str),()))
def g(a:S I)(b:S I)(c:S Sy)(d:I):=f (1000+a.length+b.length+c.length+d.toNat) a b c d
end Zam
namespace Zac
def j11(n:G)(rl7:(S I)->(S Ln)->I->(S I)->(S I)->(S Sy)->W ((S Ln)×I×Y))(rl10:(S I)->(S Ln)->I->I->(S I)->(S I)->(S Sy)->W ((S Ln)×I×Y))(a:S I)(b:S Ln)(c:I)(d:I)(e:S I)(i:S I)(j:S Sy):W ((S Ln)×I×Y):=
  rl10 a b c (O.wrap (d+1)) e i j
def j16(n:G)(rl7:(S I)->(S Ln)->I->(S I)->(S I)->(S Sy)->W ((S Ln)×I×Y))(rl15:(S I)->(S Ln)->I->I->(S I)->(S I)->(S Sy)->W ((S Ln)×I×Y))(a:S I)(b:S Ln)(c:I)(d:I)(e:S I)(i:S I)(j:S Sy):W ((S Ln)×I×Y):=
  rl15 a b c (O.wrap (d+1)) e i j
def j8(n:G)(rl7:(S I)->(S Ln)->I->(S I)->(S I)->(S Sy)->W ((S Ln)×I×Y))(a:S I)(b:S Ln)(c:I)(d:S I)(e:S I)(i:S Sy):W ((S Ln)×I×Y):=
  rl7 a b (O.wrap (c+1)) d e i
def l15(n:G)(rl7:(S I)->(S Ln)->I->(S I)->(S I)->(S Sy)->W ((S Ln)×I×Y)):G->(S I)->(S Ln)->I->I->(S I)->(S I)->(S Sy)->W ((S Ln)×I×Y)
 |0,_,_,_,_,_,_,_=>D
 |m+1,a,b,c,d,e,i,j=>
  if(J (d<(a.length:I))) then
  (if 0<=d/\d<(a.length:I) then
  (if(J ((a.getD (d).toNat 0)=(O.wrap ((4:I)*c)))) then
  ((Zdg.g (O.wrap ((4:I)*c))).bind λy1=>
  if(b.length+([(y1.1,(0,0,0,0,0,X,[],([]:Str),()),())]:S Ln).length)*104<=140737488355328/\0<104/\0<9 then
  (Zac.j16 n rl7 (Zac.l15 n rl7 m) a (b++([(y1.1,(0,0,0,0,0,X,[],([]:Str),()),())]:S Ln)) c d e i j) else D)
  else
  (Zac.j16 n rl7 (Zac.l15 n rl7 m) a b c d e i j)) else D)
  else
  (if(J (c<(e.length:I))) then
  ((Zam.g e i j c).bind λy2=>
  if(b.length+([(([]:Str),(y2.1,y2.2.1,y2.2.2.1,y2.2.2.2.1,y2.2.2.2.2.1,y2.2.2.2.2.2.1,y2.2.2.2.2.2.2.1,y2.2.2.2.2.2.2.2.1,()),())]:S Ln).length)*104<=140737488355328/\0<104/\0<9 then
  (Zac.j8 n rl7 a (b++([(([]:Str),(y2.1,y2.2.1,y2.2.2.1,y2.2.2.2.1,y2.2.2.2.2.1,y2.2.2.2.2.2.1,y2.2.2.2.2.2.2.1,y2.2.2.2.2.2.2.2.1,()),())]:S Ln)) c e i j) else D)
  else(Zac.j8 n rl7 a b c e i j))
def l10(n:G)(rl7:(S I)->(S Ln)->I->(S I)->(S I)->(S Sy)->W ((S Ln)×I×Y)):G->(S I)->(S Ln)->I->I->(S I)->(S I)->(S Sy)->W ((S Ln)×I×Y)
 |0,_,_,_,_,_,_,_=>D
 |m+1,a,b,c,d,e,i,j=>
  if(J (d<(j.length:I))) then
  (if 0<=d/\d<(j.length:I) then
  (if(J (((j.getD (d).toNat zS).2).1=(O.wrap ((4:I)*c)))) then
  (if 0<=d/\d<(j.length:I) then
  (if(b.length+([((j.getD (d).toNat zS).1,(0,0,0,0,0,X,[],([]:Str),()),())]:S Ln).length)*104<=140737488355328/\0<104/\0<9 then
  (Zac.j11 n rl7 (Zac.l10 n rl7 m) a (b++([((j.getD (d).toNat zS).1,(0,0,0,0,0,X,[],([]:Str),()),())]:S Ln)) c d e i j) else D) else D)
  else
  (Zac.j11 n rl7 (Zac.l10 n rl7 m) a b c d e i j)) else D)
  else(Zac.l15 n rl7 n a b c 0 e i j)
def l22(n:G):G->(S Ln)->I->(S I)->(S I)->(S Sy)->W ((S Ln)×I×Y)
 |0,_,_,_,_,_=>D
 |m+1,a,b,c,d,e=>
  if(J (b<(e.length:I))) then
  (if 0<=b/\b<(e.length:I) then
  (if(a.length+([(([]:Str),(10,0,0,0,0,X,[],(e.getD (b).toNat zS).1,()),())]:S Ln).length)*104<=140737488355328/\0<104/\0<9 then
  ((Zac.l22 n m) (a++([(([]:Str),(10,0,0,0,0,X,[],(e.getD (b).toNat zS).1,()),())]:S Ln)) (O.wrap (b+1)) c d e) else D) else D)
  else(U (a,0,()))
def l7(n:G):G->(S I)->(S Ln)->I->(S I)->(S I)->(S Sy)->W ((S Ln)×I×Y)
 |0,_,_,_,_,_,_=>D
 |m+1,a,b,c,d,e,i=>
  if(J (c<=(d.length:I))) then
  (Zac.l10 n (Zac.l7 n m) n a b c 0 d e i)
  else(Zac.l22 n n b 0 d e i)
def f(n:G)(a:S I)(b:S I)(c:S Sy):W ((S Ln)×I×Y):=
  (Zaj.g a b c).bind λy1=>
  if(J (y1.1≠0)) then(U ([],y1.1,()))
  else
  ((Zaa.g a b c).bind λy2=>
  Zac.l7 n n y2.1 ([]:S Ln) 0 a b c)
def g(a:S I)(b:S I)(c:S Sy):=f (1000+a.length+b.length+c.length) a b c
end Zac
namespace Zdo
def f(n:G)(a:S I)(b:S I)(c:S Sy):W Sy:=
  (Zac.g a b c).bind λy1=>
  if(J (y1.2.1≠0)) then(U (([]:Str),y1.2.1,()))
  else
  ((Zck.g y1.1).bind λy2=>
  U (y2.1,y2.2.2.1,()))
def g(a:S I)(b:S I)(c:S Sy):=f (1000+a.length+b.length+c.length) a b c
end Zdo
end Rv
namespace Rv
open Go
set_option maxRecDepth 100000
namespace Zdi
def f(n:G):W (F×Y):=
  (Zcy.g ([1090519045,3892314110]:S I) ([]) ([])).bind λy1=>
  if(J (y1.1=([95,48,48,48,48,58,10,77,79,86,32,82,49,44,32,53,10,66,32,95,48,48,48,48,10]:Str))) then(U ((J (y1.2.1=0)),()))
  else(U (X,()))
def g:=f (1000)
end Zdi
namespace Zbf
def j8(n:G)(a:S I)(b:S I)(c:S Sy)(d:S I)(e:S I)(i:S Sy):W ((S I)×(S I)×(S Sy)×Y):=
  U (d,e,i,())
def l3(n:G):G->I->(S I)->(S I)->(S Sy)->(S I)->(S I)->(S Sy)->(S I)->(S I)->(S Sy)->W ((S I)×(S I)×(S Sy)×Y)
 |0,_,_,_,_,_,_,_,_,_,_=>D
 |m+1,a,b,c,d,e,i,j,k,l,o=>
  if(J (a<(d.length:I))) then
  (if(J (a<12)) then
  (if 0<=a/\a<(d.length:I) then
  (if 0<=(mn (((d.getD (a).toNat zS).1).length:I) 20)/\(mn (((d.getD (a).toNat zS).1).length:I) 20)<=(((d.getD (a).toNat zS).1).length:I) then
  (if(o.length+([(((((d.getD (a).toNat zS).1).take (((mn (((d.getD (a).toNat zS).1).length:I) (20:I))).toNat)).drop 0),((d.getD (a).toNat zS).2).1,())]:S Sy).length)*24<=140737488355328/\0<24/\0<2 then
  ((Zbf.l3 n m) (O.wrap (a+1)) b c d e i j k l (o++([(((((d.getD (a).toNat zS).1).take (((mn (((d.getD (a).toNat zS).1).length:I) (20:I))).toNat)).drop 0),((d.getD (a).toNat zS).2).1,())]:S Sy))) else D) else D) else D)
  else(Zbf.j8 n e i j k l o))
  else(Zbf.j8 n e i j k l o)
def f(n:G)(a:S I)(b:S I)(c:S Sy):W ((S I)×(S I)×(S Sy)×Y):=
  if 0<=(mn (a.length:I) 30)/\(mn (a.length:I) 30)<=(a.length:I) then
  (if 0<=(mn (b.length:I) 30)/\(mn (b.length:I) 30)<=(b.length:I) then
  (Zbf.l3 n n 0 a b c ([]) ([]) ([]) ((a.take (((mn (a.length:I) (30:I))).toNat)).drop 0) ((b.take (((mn (b.length:I) (30:I))).toNat)).drop 0) ([])) else D) else D
def g(a:S I)(b:S I)(c:S Sy):=f (1000+a.length+b.length+c.length) a b c
end Zbf
namespace rivetlaw23_DisasmAll
def l8(a_rivetlaw23_shown:W (F×Y))(n:G):G->I->F->(S Ln)->I->(S Ln)->I->Str->I->Str->I->I->(S I)->(S I)->(S Sy)->W (F×Y)
 |0,_,_,_,_,_,_,_,_,_,_,_,_,_,_=>D
 |m+1,a,b,c,d,e,i,j,k,l,o,p,q,r,s=>
  if(J (p<=(q.length:I))) then
  ((Zal.g q r s p).bind λy1=>
  (Zam.g q r s p).bind λy2=>
  (Zcb.g y1.1 y1.2.1 y1.2.2.1 y1.2.2.2.1 y1.2.2.2.2.1 y1.2.2.2.2.2.1 y1.2.2.2.2.2.2.1 y1.2.2.2.2.2.2.2.1 y2.1 y2.2.1 y2.2.2.1 y2.2.2.2.1 y2.2.2.2.2.1 y2.2.2.2.2.2.1 y2.2.2.2.2.2.2.1 y2.2.2.2.2.2.2.2.1).bind λy3=>
  if(!y3.1) then(U (X,()))
  else
  ((rivetlaw23_DisasmAll.l8 a_rivetlaw23_shown n m) a b c d e i j k l o (O.wrap (p+1)) q r s))
  else
  (if b then
  ((Zcd.g c e).bind λy4=>
  if y4.1 then
  (if(J (d=i)) then
  (if(J (j=l)) then
  (if(J (k=o)) then
  ((Zal.g q r s a).bind λy5=>
  (Zam.g q r s a).bind λy6=>
  (Zcb.g y5.1 y5.2.1 y5.2.2.1 y5.2.2.2.1 y5.2.2.2.2.1 y5.2.2.2.2.2.1 y5.2.2.2.2.2.2.1 y5.2.2.2.2.2.2.2.1 y6.1 y6.2.1 y6.2.2.1 y6.2.2.2.1 y6.2.2.2.2.1 y6.2.2.2.2.2.1 y6.2.2.2.2.2.2.1 y6.2.2.2.2.2.2.2.1).bind λy7=>
  U (y7.1,()))
  else(U (X,())))
  else(U (X,())))
  else(U (X,())))
  else(U (X,())))
  else(U (X,())))
def f(a_rivetlaw23_shown:W (F×Y))(n:G)(a:S I)(b:S I)(c:S Sy)(d:I):W (F×Y):=
  (a_rivetlaw23_shown).bind λy1=>
  (Zbf.g a b c).bind λy2=>
  (Zcm.g y2.1 y2.2.1 y2.2.2.1).bind λy3=>
  (Zac.g y2.1 y2.2.1 y2.2.2.1).bind λy4=>
  (Zcy.g y2.1 y2.2.1 y2.2.2.1).bind λy5=>
  (Zdo.g y2.1 y2.2.1 y2.2.2.1).bind λy6=>
  rivetlaw23_DisasmAll.l8 a_rivetlaw23_shown n n d y1.1 y3.1 y3.2.1 y4.1 y4.2.1 y5.1 y5.2.1 y6.1 y6.2.1 (-1) y2.1 y2.2.1 y2.2.2.1
def g(a:S I)(b:S I)(c:S Sy)(d:I):=f Zdi.g (1000+a.length+b.length+c.length+d.toNat) a b c d
end rivetlaw23_DisasmAll
end Rv
