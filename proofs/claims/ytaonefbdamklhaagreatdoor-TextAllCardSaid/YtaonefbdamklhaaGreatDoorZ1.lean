/- Texts put together. -/
import Derived.Test.YtaonefbdamklhaaGreatDoorC1
set_option linter.all false
namespace Rv
open Go
set_option maxRecDepth 100000
def K.atA:Fn:=(74,[])
def K.rdA:Fn:=(119,[.cf (74,[])])
def K.wrA:Fn:=(120,[.cf (74,[])])
def K.atB:Fn:=(75,[])
def K.rdB:Fn:=(119,[.cf (75,[])])
def K.wrB:Fn:=(120,[.cf (75,[])])
def K.atC:Fn:=(76,[])
def K.rdC:Fn:=(119,[.cf (76,[])])
def K.wrC:Fn:=(120,[.cf (76,[])])
def K.rdE:Fn:=(121,[.c0 (.cs ([]:Str))])
def K.wrE:Fn:=(123,[.c0 (.cs ([]:Str))])
def K.rdQ:Fn:=(121,[.c0 (.cs ([61]:Str))])
def K.wrQ:Fn:=(123,[.c0 (.cs ([61]:Str))])
def K.rdN:Fn:=(78,[])
def K.wrN:Fn:=(79,[])
abbrev It:=Int×Int×Str×Unit
abbrev Tk:=Int×Int×Str×Int×Unit
abbrev Sn:=Int×Int×Int×Int×Int×Bool×(List It)×Str×Unit
abbrev Ln:=Str×Sn×Unit
abbrev zI:It:=((0:Int),((0:Int),(([]:Str),())))
abbrev zT:Tk:=((0:Int),((0:Int),(([]:Str),((0:Int),()))))
abbrev zL:Ln:=(([]:Str),(((0:Int),((0:Int),((0:Int),((0:Int),((0:Int),(false,([],(([]:Str),())))))))),()))
def L.opsR (k o:Int):List (Fn×Fn×Unit):=
 if k=1 then (if o=0 then [(K.rdA,K.wrA,()),(K.rdC,K.wrC,())] else [(K.rdA,K.wrA,()),(K.rdB,K.wrB,()),(K.rdC,K.wrC,())]) else
 if k=2 then (if o=0 then [(K.rdA,K.wrA,()),(K.rdE,K.wrE,())] else [(K.rdA,K.wrA,()),(K.rdB,K.wrB,()),(K.rdE,K.wrE,())]) else
 if k=3∨k=4 then [(K.rdA,K.wrA,())] else
 if k=5 then [(K.rdA,K.wrA,()),(K.rdB,K.wrB,()),(K.rdE,K.wrE,())] else
 if k=6 then [(K.rdC,K.wrC,())] else
 if k=7∨k=9 then [(K.rdE,K.wrE,())] else
 if k=8 then [(K.rdA,K.wrA,()),(K.rdQ,K.wrQ,())] else
 if k=10 then [(K.rdN,K.wrN,())] else []
namespace Zcs
def f (n:Nat) (a:Int):Option (Bool×Unit):=
  if (decide ((65:Int)≤a)) then
  (if (decide (a≤(90:Int)))=false then
  (if (decide ((97:Int)≤a)) then
  (if (decide (a≤(122:Int)))=false then (some ((decide (a=(95:Int))),()))
  else (some (true,())))
  else (some ((decide (a=(95:Int))),())))
  else (some (true,())))
  else
  (if (decide ((97:Int)≤a)) then
  (if (decide (a≤(122:Int)))=false then (some ((decide (a=(95:Int))),()))
  else (some (true,())))
  else (some ((decide (a=(95:Int))),())))
def g (a:Int):Option (Bool×Unit):=f (1000+a.toNat) a
end Zcs
namespace Zdc
def f (n:Nat) (a:Int):Option (Bool×Unit):=
  if (decide ((48:Int)≤a)) then (some ((decide (a≤(57:Int))),()))
  else (some (false,()))
def g (a:Int):Option (Bool×Unit):=f (1000+a.toNat) a
end Zdc
namespace Zas
def j3 (n:Nat) (rl2:Str→Int→Option (Str×Unit)) (a:Str) (b:Int):Option (Str×Unit):=
  rl2 a (IntKind.i64.wrap (b+(1:Int)))
def j4 (n:Nat) (a:Str) (b:Int):Option (Str×Unit):=
  if 0≤b∧b≤(a.length:Int) then (some (((a.take ((b).toNat)).drop 0),())) else none
def l2 (n:Nat):Nat→Str→Int→Option (Str×Unit)
 | 0,_,_=>none
 | m+1,a,b=>
  if (decide (b < (a.length:Int))) then
  (if 0≤b∧b < (a.length:Int) then
  ((Zcs.g (bt a b)).bind fun y1=>
  if y1.1=false then
  (if 0≤b∧b < (a.length:Int) then
  ((Zdc.g (bt a b)).bind fun y2=>
  if y2.1 then (Zas.j3 n (Zas.l2 n m) a b)
  else (Zas.j4 n a b)) else none)
  else (Zas.j3 n (Zas.l2 n m) a b)) else none)
  else (Zas.j4 n a b)
def f (n:Nat) (a:Str):Option (Str×Unit):=
  Zas.l2 n n a (0:Int)
def g (a:Str):Option (Str×Unit):=f (1000+a.length) a
end Zas
namespace Zar
def f (n:Nat) (a:Int):Option (Int×Unit):=
  some ((bitsI .or .u8 a (32:Int)),())
def g (a:Int):Option (Int×Unit):=f (1000+a.toNat) a
end Zar
namespace Zaa
def j55 (n:Nat) (rl36:Int→Bool→Str→Int→Int→Bool→Int→(List Int)→Int→Int→Option (Int×(Option Int)×Unit)) (a:Int) (b:Bool) (c:Str) (d:Int) (e:Int) (i:Bool) (j:Int) (k:List Int) (l:Int) (o:Int):Option (Int×(Option Int)×Unit):=
  rl36 a b c d e i j k l (IntKind.i64.wrap (o+(1:Int)))
def j46 (n:Nat) (rl36:Int→Bool→Str→Int→Int→Bool→Int→(List Int)→Int→Int→Option (Int×(Option Int)×Unit)) (a:Int) (b:Bool) (c:Str) (d:Int) (e:Int) (i:Bool) (j:Int) (k:Int) (l:List Int) (o:Int) (p:Int):Option (Int×(Option Int)×Unit):=
  if (decide ((IntKind.u8.wrap a)≤k)) then (some ((0:Int),(some (2:Int)),()))
  else
  (if (decide (d≤j)) then (some (e,(some (1:Int)),()))
  else
  (if (decide ((IntKind.u64.wrap ((IntKind.u64.wrap (j * (IntKind.u64.wrap a)))+(IntKind.u64.wrap k))) < (IntKind.u64.wrap (j * (IntKind.u64.wrap a)))))=false then
  (if (decide (e < (IntKind.u64.wrap ((IntKind.u64.wrap (j * (IntKind.u64.wrap a)))+(IntKind.u64.wrap k))))) then (some (e,(some (1:Int)),()))
  else
  (Zaa.j55 n rl36 a b c d e i (IntKind.u64.wrap ((IntKind.u64.wrap (j * (IntKind.u64.wrap a)))+(IntKind.u64.wrap k))) l o p))
  else (some (e,(some (1:Int)),()))))
def l36 (n:Nat):Nat→Int→Bool→Str→Int→Int→Bool→Int→(List Int)→Int→Int→Option (Int×(Option Int)×Unit)
 | 0,_,_,_,_,_,_,_,_,_,_=>none
 | m+1,a,b,c,d,e,i,j,k,l,o=>
  if (decide (o < l)) then
  (if 0≤o∧o < (k.length:Int) then
  (if (decide ((k.getD (o).toNat (0:Int))=(95:Int))) then
  (if b then
  (Zaa.j55 n (Zaa.l36 n m) a b c d e true j k l o)
  else
  (if (decide ((48:Int)≤(k.getD (o).toNat (0:Int)))) then
  (if (decide ((k.getD (o).toNat (0:Int))≤(57:Int))) then
  (Zaa.j46 n (Zaa.l36 n m) a b c d e i j (IntKind.u8.wrap ((k.getD (o).toNat (0:Int)) - (48:Int))) k l o)
  else
  ((Zar.g (k.getD (o).toNat (0:Int))).bind fun y1=>
  if (decide ((97:Int)≤y1.1)) then
  ((Zar.g (k.getD (o).toNat (0:Int))).bind fun y2=>
  if (decide (y2.1≤(122:Int))) then
  ((Zar.g (k.getD (o).toNat (0:Int))).bind fun y3=>
  Zaa.j46 n (Zaa.l36 n m) a b c d e i j (IntKind.u8.wrap ((IntKind.u8.wrap (y3.1 - (97:Int)))+(10:Int))) k l o)
  else (some ((0:Int),(some (2:Int)),())))
  else (some ((0:Int),(some (2:Int)),()))))
  else
  ((Zar.g (k.getD (o).toNat (0:Int))).bind fun y4=>
  if (decide ((97:Int)≤y4.1)) then
  ((Zar.g (k.getD (o).toNat (0:Int))).bind fun y5=>
  if (decide (y5.1≤(122:Int))) then
  ((Zar.g (k.getD (o).toNat (0:Int))).bind fun y6=>
  Zaa.j46 n (Zaa.l36 n m) a b c d e i j (IntKind.u8.wrap ((IntKind.u8.wrap (y6.1 - (97:Int)))+(10:Int))) k l o)
  else (some ((0:Int),(some (2:Int)),())))
  else (some ((0:Int),(some (2:Int)),())))))
  else
  (if (decide ((48:Int)≤(k.getD (o).toNat (0:Int)))) then
  (if (decide ((k.getD (o).toNat (0:Int))≤(57:Int))) then
  (Zaa.j46 n (Zaa.l36 n m) a b c d e i j (IntKind.u8.wrap ((k.getD (o).toNat (0:Int)) - (48:Int))) k l o)
  else
  ((Zar.g (k.getD (o).toNat (0:Int))).bind fun y7=>
  if (decide ((97:Int)≤y7.1)) then
  ((Zar.g (k.getD (o).toNat (0:Int))).bind fun y8=>
  if (decide (y8.1≤(122:Int))) then
  ((Zar.g (k.getD (o).toNat (0:Int))).bind fun y9=>
  Zaa.j46 n (Zaa.l36 n m) a b c d e i j (IntKind.u8.wrap ((IntKind.u8.wrap (y9.1 - (97:Int)))+(10:Int))) k l o)
  else (some ((0:Int),(some (2:Int)),())))
  else (some ((0:Int),(some (2:Int)),()))))
  else
  ((Zar.g (k.getD (o).toNat (0:Int))).bind fun y10=>
  if (decide ((97:Int)≤y10.1)) then
  ((Zar.g (k.getD (o).toNat (0:Int))).bind fun y11=>
  if (decide (y11.1≤(122:Int))) then
  ((Zar.g (k.getD (o).toNat (0:Int))).bind fun y12=>
  Zaa.j46 n (Zaa.l36 n m) a b c d e i j (IntKind.u8.wrap ((IntKind.u8.wrap (y12.1 - (97:Int)))+(10:Int))) k l o)
  else (some ((0:Int),(some (2:Int)),())))
  else (some ((0:Int),(some (2:Int)),()))))) else none)
  else
  (if i then
  ((L.underscoreO c).bind fun y13=>
  if (!y13.1) then (some ((0:Int),(some (2:Int)),()))
  else (some (j,none,())))
  else (some (j,none,())))
def j32 (n:Nat) (a:Str) (b:Int) (c:Int) (d:Bool) (e:Str) (i:Int):Option (Int×(Option Int)×Unit):=
  if (IntKind.u64.wrap c) < 0 then none else
  (Zaa.l36 n n b d e i (IntKind.u64.wrap ((IntKind.u64.wrap ((1:Int) * 2 ^ (min (IntKind.u64.wrap c).toNat IntKind.u64.bits))) - (1:Int))) false (0:Int) (a.map fun b=>(b.toNat:Int)) ((a.map fun b=>(b.toNat:Int)).length:Int) (0:Int))
def j25 (n:Nat) (a:Str) (b:Int) (c:Int) (d:Bool) (e:Str):Option (Int×(Option Int)×Unit):=
  if (decide (b=(10:Int))) then
  (Zaa.j32 n a b c d e (1844674407370955162:Int))
  else
  (if (decide (b=(16:Int))) then
  (Zaa.j32 n a b c d e (1152921504606846976:Int))
  else
  (if (IntKind.u64.wrap b)=0 then none else
  (Zaa.j32 n a b c d e (IntKind.u64.wrap ((IntKind.u64.wrap (Int.tdiv (18446744073709551615:Int) (IntKind.u64.wrap b)))+(1:Int))))))
def j21 (n:Nat) (a:Str) (b:Int) (c:Int) (d:Bool) (e:Str):Option (Int×(Option Int)×Unit):=
  if (decide (c=(0:Int))) then (Zaa.j25 n a b (64:Int) d e)
  else
  (if (decide (c < (0:Int)))=false then
  (if (decide ((64:Int) < c)) then (some ((0:Int),(some (4:Int)),()))
  else (Zaa.j25 n a b c d e))
  else (some ((0:Int),(some (4:Int)),())))
def j17 (n:Nat) (a:Str) (b:Int) (c:Int) (d:Bool) (e:Str):Option (Int×(Option Int)×Unit):=
  if 0≤(2:Int)∧(2:Int)≤(a.length:Int) then
  (Zaa.j21 n ((a.take (((a.length:Int)).toNat)).drop (((2:Int)).toNat)) b c d e) else none
def j20 (n:Nat) (a:Str) (b:Int) (c:Int) (d:Bool) (e:Str):Option (Int×(Option Int)×Unit):=
  if 0≤(2:Int)∧(2:Int)≤(a.length:Int) then
  (Zaa.j21 n ((a.take (((a.length:Int)).toNat)).drop (((2:Int)).toNat)) b c d e) else none
def j11 (n:Nat) (a:Str) (b:Int) (c:Int) (d:Bool) (e:Str):Option (Int×(Option Int)×Unit):=
  if 0≤(1:Int)∧(1:Int)≤(a.length:Int) then
  (Zaa.j21 n ((a.take (((a.length:Int)).toNat)).drop (((1:Int)).toNat)) b c d e) else none
def j9 (n:Nat) (a:Str) (b:Int) (c:Int) (d:Bool) (e:Str):Option (Int×(Option Int)×Unit):=
  if 0≤(0:Int)∧(0:Int) < (a.length:Int) then
  (if (decide ((bt a (0:Int))=(48:Int))) then
  (if (decide ((3:Int)≤(a.length:Int))) then
  (if 0≤(1:Int)∧(1:Int) < (a.length:Int) then
  ((Zar.g (bt a (1:Int))).bind fun y1=>
  if (decide (y1.1=(98:Int))) then
  (if 0≤(2:Int)∧(2:Int)≤(a.length:Int) then
  (Zaa.j21 n ((a.take (((a.length:Int)).toNat)).drop (((2:Int)).toNat)) (2:Int) c d e) else none)
  else
  (if (decide ((3:Int)≤(a.length:Int))) then
  (if 0≤(1:Int)∧(1:Int) < (a.length:Int) then
  ((Zar.g (bt a (1:Int))).bind fun y2=>
  if (decide (y2.1=(111:Int))) then (Zaa.j17 n a (8:Int) c d e)
  else
  (if (decide ((3:Int)≤(a.length:Int))) then
  (if 0≤(1:Int)∧(1:Int) < (a.length:Int) then
  ((Zar.g (bt a (1:Int))).bind fun y3=>
  if (decide (y3.1=(120:Int))) then (Zaa.j20 n a (16:Int) c d e)
  else (Zaa.j11 n a (8:Int) c d e)) else none)
  else (Zaa.j11 n a (8:Int) c d e))) else none)
  else
  (if (decide ((3:Int)≤(a.length:Int))) then
  (if 0≤(1:Int)∧(1:Int) < (a.length:Int) then
  ((Zar.g (bt a (1:Int))).bind fun y4=>
  if (decide (y4.1=(120:Int))) then (Zaa.j20 n a (16:Int) c d e)
  else (Zaa.j11 n a (8:Int) c d e)) else none)
  else (Zaa.j11 n a (8:Int) c d e)))) else none)
  else
  (if (decide ((3:Int)≤(a.length:Int))) then
  (if 0≤(1:Int)∧(1:Int) < (a.length:Int) then
  ((Zar.g (bt a (1:Int))).bind fun y5=>
  if (decide (y5.1=(111:Int))) then (Zaa.j17 n a (8:Int) c d e)
  else
  (if (decide ((3:Int)≤(a.length:Int))) then
  (if 0≤(1:Int)∧(1:Int) < (a.length:Int) then
  ((Zar.g (bt a (1:Int))).bind fun y6=>
  if (decide (y6.1=(120:Int))) then (Zaa.j20 n a (16:Int) c d e)
  else (Zaa.j11 n a (8:Int) c d e)) else none)
  else (Zaa.j11 n a (8:Int) c d e))) else none)
  else
  (if (decide ((3:Int)≤(a.length:Int))) then
  (if 0≤(1:Int)∧(1:Int) < (a.length:Int) then
  ((Zar.g (bt a (1:Int))).bind fun y7=>
  if (decide (y7.1=(120:Int))) then (Zaa.j20 n a (16:Int) c d e)
  else (Zaa.j11 n a (8:Int) c d e)) else none)
  else (Zaa.j11 n a (8:Int) c d e))))
  else (Zaa.j21 n a b c d e)) else none
def f (n:Nat) (a:Str) (b:Int) (c:Int):Option (Int×(Option Int)×Unit):=
  if (decide (a=([]:Str))) then (some ((0:Int),(some (2:Int)),()))
  else
  (if (decide ((2:Int)≤b)) then
  (if (decide (b≤(36:Int))) then
  (Zaa.j21 n a b c (decide (b=(0:Int))) a)
  else
  (if (decide (b=(0:Int))) then
  (Zaa.j9 n a (10:Int) c (decide (b=(0:Int))) a)
  else (some ((0:Int),(some (3:Int)),()))))
  else
  (if (decide (b=(0:Int))) then
  (Zaa.j9 n a (10:Int) c (decide (b=(0:Int))) a)
  else (some ((0:Int),(some (3:Int)),()))))
def g (a:Str) (b:Int) (c:Int):Option (Int×(Option Int)×Unit):=f (1000+a.length+b.toNat+c.toNat) a b c
end Zaa
namespace Zct
def f (n:Nat) (a:Str) (b:Int) (c:Int):Option (Int×Bool×Unit):=
  (Zaa.g a b c).bind fun y1=>
  if (!y1.2.1.isNone) then
  ((L.toErrorO ([80,97,114,115,101,85,105,110,116]:Str) a b c y1.2.1).bind fun y2=>
  some (y1.1,y2.1,()))
  else (some (y1.1,true,()))
def g (a:Str) (b:Int) (c:Int):Option (Int×Bool×Unit):=f (1000+a.length+b.toNat+c.toNat) a b c
end Zct
namespace Zby
def j5 (n:Nat) (a:Str) (b:Int):Option (Int×Bool×Unit):=
  (L.containsO a ([95]:Str)).bind fun y1=>
  if y1.1 then (some ((0:Int),false,()))
  else
  ((Zct.g a b (32:Int)).bind fun y2=>
  some ((IntKind.u32.wrap y2.1),y2.2.1,()))
def f (n:Nat) (a:Str):Option (Int×Bool×Unit):=
  if (L.cutIs a ([48,120]:Str)) then
  (Zby.j5 n (L.cutRest a ([48,120]:Str)) (16:Int))
  else (Zby.j5 n a (10:Int))
def g (a:Str):Option (Int×Bool×Unit):=f (1000+a.length) a
end Zby
namespace Zam
def j23 (n:Nat) (rg0:Str→(List Tk)→Int→Option ((List Tk)×Int×Unit)) (a:Str) (b:List Tk) (c:Int) (d:Int) (e:Int) (i:Str) (j:Int):Option ((List Tk)×Int×Unit):=
  if (b.length+([(d,e,i,j,())]:List Tk).length) * 40≤140737488355328∧0 < 40∧0 < 4 then
  (rg0 a (b++([(d,e,i,j,())]:List Tk)) (IntKind.i64.wrap (c+(i.length:Int)))) else none
def g0 (n:Nat):Nat→Str→(List Tk)→Int→Option ((List Tk)×Int×Unit)
 | 0,_,_,_=>none
 | m+1,a,b,c=>
  if (decide ((a.length:Int)≤c))=false then
  (if 0≤c∧c < (a.length:Int) then
  (if (decide ((bt a c)=(59:Int))) then (some (b,(0:Int),()))
  else
  (if 0≤c∧c < (a.length:Int) then
  (if (decide ((bt a c)=(32:Int)))=false then
  (if (decide ((bt a c)=(9:Int))) then ((Zam.g0 n m) a b (IntKind.i64.wrap (c+(1:Int))))
  else
  ((Zcs.g (bt a c)).bind fun y1=>
  if y1.1 then
  (if 0≤c∧c≤(a.length:Int) then
  ((Zas.g ((a.take (((a.length:Int)).toNat)).drop ((c).toNat))).bind fun y2=>
  Zam.j23 n (Zam.g0 n m) a b c (1:Int) c y2.1 0) else none)
  else
  ((Zdc.g (bt a c)).bind fun y3=>
  if y3.1 then
  (if 0≤c∧c≤(a.length:Int) then
  ((Zas.g ((a.take (((a.length:Int)).toNat)).drop ((c).toNat))).bind fun y4=>
  (Zby.g y4.1).bind fun y5=>
  if (!y5.2.1) then (some ([],(21:Int),()))
  else
  (Zam.j23 n (Zam.g0 n m) a b c (2:Int) c y4.1 y5.1)) else none)
  else
  (if (decide ((bt a c)=(46:Int))) then
  (if (decide ((IntKind.i64.wrap (c+(1:Int))) < (a.length:Int))) then
  (if 0≤(IntKind.i64.wrap (c+(1:Int)))∧(IntKind.i64.wrap (c+(1:Int))) < (a.length:Int) then
  ((Zcs.g (bt a (IntKind.i64.wrap (c+(1:Int))))).bind fun y6=>
  if y6.1 then
  (if 0≤(IntKind.i64.wrap (c+(1:Int)))∧(IntKind.i64.wrap (c+(1:Int)))≤(a.length:Int) then
  ((Zas.g ((a.take (((a.length:Int)).toNat)).drop (((IntKind.i64.wrap (c+(1:Int)))).toNat))).bind fun y7=>
  Zam.j23 n (Zam.g0 n m) a b (IntKind.i64.wrap (c+(1:Int))) (4:Int) c y7.1 0) else none)
  else
  (if (decide ((0:Int)≤(L.indexByte ([44,58,43,45,42,40,41,61]:Str) (bt a c)))) then
  (if 0≤(IntKind.i64.wrap (c+(1:Int)))∧(IntKind.i64.wrap (c+(1:Int)))≤(a.length:Int) then
  (if 0≤c∧c≤(IntKind.i64.wrap (c+(1:Int))) then
  (Zam.j23 n (Zam.g0 n m) a b c (3:Int) c ((a.take (((IntKind.i64.wrap (c+(1:Int)))).toNat)).drop ((c).toNat)) 0) else none) else none)
  else (some ([],(20:Int),())))) else none)
  else
  (if (decide ((0:Int)≤(L.indexByte ([44,58,43,45,42,40,41,61]:Str) (bt a c)))) then
  (if 0≤(IntKind.i64.wrap (c+(1:Int)))∧(IntKind.i64.wrap (c+(1:Int)))≤(a.length:Int) then
  (if 0≤c∧c≤(IntKind.i64.wrap (c+(1:Int))) then
  (Zam.j23 n (Zam.g0 n m) a b c (3:Int) c ((a.take (((IntKind.i64.wrap (c+(1:Int)))).toNat)).drop ((c).toNat)) 0) else none) else none)
  else (some ([],(20:Int),()))))
  else
  (if (decide ((0:Int)≤(L.indexByte ([44,58,43,45,42,40,41,61]:Str) (bt a c)))) then
  (if 0≤(IntKind.i64.wrap (c+(1:Int)))∧(IntKind.i64.wrap (c+(1:Int)))≤(a.length:Int) then
  (if 0≤c∧c≤(IntKind.i64.wrap (c+(1:Int))) then
  (Zam.j23 n (Zam.g0 n m) a b c (3:Int) c ((a.take (((IntKind.i64.wrap (c+(1:Int)))).toNat)).drop ((c).toNat)) 0) else none) else none)
  else (some ([],(20:Int),())))))))
  else ((Zam.g0 n m) a b (IntKind.i64.wrap (c+(1:Int))))) else none)) else none)
  else (some (b,(0:Int),()))
def f (n:Nat) (a:Str):Option ((List Tk)×Int×Unit):=
  Zam.g0 n n a ([]) (0:Int)
def g (a:Str):Option ((List Tk)×Int×Unit):=f (1000+a.length) a
end Zam
namespace Zae
def j9 (n:Nat) (rl4:Str→Int→Int→Option (Bool×Unit)) (a:Str) (b:Int) (c:Int):Option (Bool×Unit):=
  rl4 a b (IntKind.i64.wrap (c+(1:Int)))
def l4 (n:Nat):Nat→Str→Int→Int→Option (Bool×Unit)
 | 0,_,_,_=>none
 | m+1,a,b,c=>
  if (decide (c < b)) then
  (if 0≤c∧c < (a.length:Int) then
  (if (decide ((bitsI .or .u8 (bt a c) (32:Int)) < (97:Int)))=false then
  (if (decide ((122:Int) < (bitsI .or .u8 (bt a c) (32:Int))))=false then
  (if 0≤c∧c < (a.length:Int) then
  (if (decide ((bt a c) < (65:Int))) then
  (if 0≤c∧c < (a.length:Int) then
  (if (decide ((bt a c)≠(95:Int))) then
  (if 0≤c∧c < (a.length:Int) then
  (if (decide ((bt a c) < (48:Int)))=false then
  (if 0≤c∧c < (a.length:Int) then
  (if (decide ((57:Int) < (bt a c))) then (some (false,()))
  else (Zae.j9 n (Zae.l4 n m) a b c)) else none)
  else (some (false,()))) else none)
  else (Zae.j9 n (Zae.l4 n m) a b c)) else none)
  else (Zae.j9 n (Zae.l4 n m) a b c)) else none)
  else
  (if 0≤c∧c < (a.length:Int) then
  (if (decide ((bt a c)≠(95:Int))) then
  (if 0≤c∧c < (a.length:Int) then
  (if (decide ((bt a c) < (48:Int)))=false then
  (if 0≤c∧c < (a.length:Int) then
  (if (decide ((57:Int) < (bt a c))) then (some (false,()))
  else (Zae.j9 n (Zae.l4 n m) a b c)) else none)
  else (some (false,()))) else none)
  else (Zae.j9 n (Zae.l4 n m) a b c)) else none))
  else
  (if 0≤c∧c < (a.length:Int) then
  (if (decide ((bt a c)≠(95:Int))) then
  (if 0≤c∧c < (a.length:Int) then
  (if (decide ((bt a c) < (48:Int)))=false then
  (if 0≤c∧c < (a.length:Int) then
  (if (decide ((57:Int) < (bt a c))) then (some (false,()))
  else (Zae.j9 n (Zae.l4 n m) a b c)) else none)
  else (some (false,()))) else none)
  else (Zae.j9 n (Zae.l4 n m) a b c)) else none)) else none)
  else
  (if 0≤(0:Int)∧(0:Int) < (a.length:Int) then
  (if (decide ((bt a (0:Int))=(82:Int))) then
  (if (decide ((a.length:Int)=(2:Int)))=false then
  (if (decide ((a.length:Int)=(3:Int))) then
  (if 0≤(1:Int)∧(1:Int)≤(a.length:Int) then
  ((L.trimO ((a.take (((a.length:Int)).toNat)).drop (((1:Int)).toNat)) ([48,49,50,51,52,53,54,55,56,57]:Str)).bind fun y1=>
  some ((!(decide (y1.1=([]:Str)))),())) else none)
  else (some (true,())))
  else
  (if 0≤(1:Int)∧(1:Int)≤(a.length:Int) then
  ((L.trimO ((a.take (((a.length:Int)).toNat)).drop (((1:Int)).toNat)) ([48,49,50,51,52,53,54,55,56,57]:Str)).bind fun y2=>
  some ((!(decide (y2.1=([]:Str)))),())) else none))
  else (some (true,()))) else none)
def j3 (n:Nat) (a:Str):Option (Bool×Unit):=
  Zae.l4 n n a (a.length:Int) (0:Int)
def f (n:Nat) (a:Str):Option (Bool×Unit):=
  if (decide (a=([]:Str)))=false then
  (if (decide ((12:Int) < (a.length:Int)))=false then
  (if 0≤(0:Int)∧(0:Int) < (a.length:Int) then
  (if (decide ((48:Int)≤(bt a (0:Int)))) then
  (if 0≤(0:Int)∧(0:Int) < (a.length:Int) then
  (if (decide ((bt a (0:Int))≤(57:Int))) then (some (false,()))
  else (Zae.j3 n a)) else none)
  else (Zae.j3 n a)) else none)
  else (some (false,())))
  else (some (false,()))
def g (a:Str):Option (Bool×Unit):=f (1000+a.length) a
end Zae
namespace Zap
def j21 (n:Nat) (a:Bool) (b:Int):Option (Int×(Option Int)×Unit):=
  if a then
  (some ((IntKind.i64.wrap (0 - (IntKind.i64.wrap b))),none,()))
  else (some ((IntKind.i64.wrap b),none,()))
def j19 (n:Nat) (a:Bool) (b:Int) (c:Int):Option (Int×(Option Int)×Unit):=
  if a then
  (if (decide (c < b)) then
  (some ((IntKind.i64.wrap (0 - (IntKind.i64.wrap c))),(some (1:Int)),()))
  else (Zap.j21 n a b))
  else (Zap.j21 n a b)
def j16 (n:Nat) (a:Int) (b:Bool) (c:Int):Option (Int×(Option Int)×Unit):=
  if (IntKind.u64.wrap (IntKind.i64.wrap (a - (1:Int)))) < 0 then none else
  (if (!b) then
  (if (decide ((IntKind.u64.wrap ((1:Int) * 2 ^ (min (IntKind.u64.wrap (IntKind.i64.wrap (a - (1:Int)))).toNat IntKind.u64.bits)))≤c)) then
  (some ((IntKind.i64.wrap (IntKind.u64.wrap ((IntKind.u64.wrap ((1:Int) * 2 ^ (min (IntKind.u64.wrap (IntKind.i64.wrap (a - (1:Int)))).toNat IntKind.u64.bits))) - (1:Int)))),(some (1:Int)),()))
  else
  (Zap.j19 n b c (IntKind.u64.wrap ((1:Int) * 2 ^ (min (IntKind.u64.wrap (IntKind.i64.wrap (a - (1:Int)))).toNat IntKind.u64.bits)))))
  else
  (Zap.j19 n b c (IntKind.u64.wrap ((1:Int) * 2 ^ (min (IntKind.u64.wrap (IntKind.i64.wrap (a - (1:Int)))).toNat IntKind.u64.bits)))))
def j14 (n:Nat) (a:Int) (b:Bool) (c:Int):Option (Int×(Option Int)×Unit):=
  if (decide (a=(0:Int))) then (Zap.j16 n (64:Int) b c)
  else (Zap.j16 n a b c)
def j10 (n:Nat) (a:Str) (b:Int) (c:Int) (d:Bool):Option (Int×(Option Int)×Unit):=
  (Zaa.g a b c).bind fun y1=>
  if (!y1.2.1.isNone) then
  (if (!(decide (y1.2.1=(some (1:Int))))) then (some ((0:Int),y1.2.1,()))
  else (Zap.j14 n c d y1.1))
  else (Zap.j14 n c d y1.1)
def f (n:Nat) (a:Str) (b:Int) (c:Int):Option (Int×(Option Int)×Unit):=
  if (decide (a=([]:Str))) then (some ((0:Int),(some (2:Int)),()))
  else
  (if 0≤(0:Int)∧(0:Int) < (a.length:Int) then
  (if (decide ((bt a (0:Int))=(43:Int))) then
  (if 0≤(1:Int)∧(1:Int)≤(a.length:Int) then
  (Zap.j10 n ((a.take (((a.length:Int)).toNat)).drop (((1:Int)).toNat)) b c false) else none)
  else
  (if (decide ((bt a (0:Int))=(45:Int))) then
  (if 0≤(1:Int)∧(1:Int)≤(a.length:Int) then
  (Zap.j10 n ((a.take (((a.length:Int)).toNat)).drop (((1:Int)).toNat)) b c true) else none)
  else (Zap.j10 n a b c false))) else none)
def g (a:Str) (b:Int) (c:Int):Option (Int×(Option Int)×Unit):=f (1000+a.length+b.toNat+c.toNat) a b c
end Zap
namespace Zat
def l10 (n:Nat):Nat→Str→Int→(List Int)→Int→Int→Option (Int×(Option Int)×Unit)
 | 0,_,_,_,_,_=>none
 | m+1,a,b,c,d,e=>
  if (decide (e < d)) then
  (if 0≤e∧e < (c.length:Int) then
  (if (decide ((9:Int) < (IntKind.u8.wrap ((c.getD (e).toNat (0:Int)) - (48:Int))))) then (some ((0:Int),(some (2:Int)),()))
  else
  ((Zat.l10 n m) a (IntKind.i64.wrap ((IntKind.i64.wrap (b * (10:Int)))+(IntKind.i64.wrap (IntKind.u8.wrap ((c.getD (e).toNat (0:Int)) - (48:Int)))))) c d (IntKind.i64.wrap (e+(1:Int))))) else none)
  else
  (if 0≤(0:Int)∧(0:Int) < (a.length:Int) then
  (if (decide ((bt a (0:Int))=(45:Int))) then (some ((IntKind.i64.wrap (0 - b)),none,()))
  else (some (b,none,()))) else none)
def j8 (n:Nat) (a:Str) (b:Str):Option (Int×(Option Int)×Unit):=
  Zat.l10 n n b (0:Int) (a.map fun b=>(b.toNat:Int)) ((a.map fun b=>(b.toNat:Int)).length:Int) (0:Int)
def j6 (n:Nat) (a:Str) (b:Str):Option (Int×(Option Int)×Unit):=
  if (decide ((a.length:Int) < (1:Int))) then (some ((0:Int),(some (2:Int)),()))
  else (Zat.j8 n a b)
def j20 (n:Nat) (a:Str):Option (Int×(Option Int)×Unit):=
  (Zap.g a (10:Int) (0:Int)).bind fun y1=>
  some (y1.1,y1.2.1,())
def f (n:Nat) (a:Str):Option (Int×(Option Int)×Unit):=
  if (decide ((0:Int) < (a.length:Int))) then
  (if (decide ((a.length:Int) < (19:Int))) then
  (if 0≤(0:Int)∧(0:Int) < (a.length:Int) then
  (if (decide ((bt a (0:Int))=(45:Int)))=false then
  (if 0≤(0:Int)∧(0:Int) < (a.length:Int) then
  (if (decide ((bt a (0:Int))=(43:Int))) then
  (if 0≤(1:Int)∧(1:Int)≤(a.length:Int) then
  (Zat.j6 n ((a.take (((a.length:Int)).toNat)).drop (((1:Int)).toNat)) a) else none)
  else (Zat.j8 n a a)) else none)
  else
  (if 0≤(1:Int)∧(1:Int)≤(a.length:Int) then
  (Zat.j6 n ((a.take (((a.length:Int)).toNat)).drop (((1:Int)).toNat)) a) else none)) else none)
  else (Zat.j20 n a))
  else (Zat.j20 n a)
def g (a:Str):Option (Int×(Option Int)×Unit):=f (1000+a.length) a
end Zat
namespace Zdq
def f (n:Nat) (a:Str):Option (Int×Bool×Unit):=
  (Zat.g a).bind fun y1=>
  if (!y1.2.1.isNone) then
  ((L.toErrorO ([65,116,111,105]:Str) a (0:Int) (0:Int) y1.2.1).bind fun y2=>
  some (y1.1,y2.1,()))
  else (some (y1.1,true,()))
def g (a:Str):Option (Int×Bool×Unit):=f (1000+a.length) a
end Zdq
namespace Zaz
def f (n:Nat) (a:Int):Option (Str×Unit):=
  if (decide (a < (0:Int)))=false then
  (if (decide ((16:Int)≤a)) then (some (([]:Str),()))
  else
  ((L.itoaO a).bind fun y1=>
  if ([82]:Str).length+y1.1.length≤9223372036854775807 then (some ((([82]:Str)++y1.1),())) else none))
  else (some (([]:Str),()))
def g (a:Int):Option (Str×Unit):=f (1000+a.toNat) a
end Zaz
namespace Zci
def f (n:Nat) (a:Str):Option (Int×Bool×Unit):=
  (Zdq.g (L.cutRest a ([82]:Str))).bind fun y2=>
  if (!(L.cutIs a ([82]:Str)))=false then
  (if (!y2.2.1)=false then
  ((Zaz.g y2.1).bind fun y3=>
  if (!(decide (y3.1=a))) then (some ((0:Int),false,()))
  else (some (y2.1,true,())))
  else (some ((0:Int),false,())))
  else (some ((0:Int),false,()))
def g (a:Str):Option (Int×Bool×Unit):=f (1000+a.length) a
end Zci
namespace Zbe
def f (n:Nat) (a:Int) (b:List Tk) (c:Int) (d:List It) (e:Int):Option ((List Tk)×Int×(List It)×Int×Unit):=
  if (decide (e=(0:Int))) then (some (b,c,d,a,()))
  else (some (b,c,d,e,()))
def g (a:Int) (b:List Tk) (c:Int) (d:List It) (e:Int):Option ((List Tk)×Int×(List It)×Int×Unit):=f (1000+a.toNat+b.length+c.toNat+d.length+e.toNat) a b c d e
end Zbe
namespace Zbl
def f (n:Nat) (a:List Tk) (b:Int) (c:List It) (d:Int):Option (Int×Int×Str×Int×Bool×(List Tk)×Int×(List It)×Int×Unit):=
  if (decide (d≠(0:Int)))=false then
  (if (decide (b < (0:Int)))=false then
  (if (decide ((a.length:Int)≤b)) then (some (0,0,([]:Str),0,false,a,b,c,d,()))
  else
  (if 0≤b∧b < (a.length:Int) then
  (some ((a.getD (b).toNat zT).1,((a.getD (b).toNat zT).2).1,(((a.getD (b).toNat zT).2).2).1,((((a.getD (b).toNat zT).2).2).2).1,true,a,b,c,d,())) else none))
  else (some (0,0,([]:Str),0,false,a,b,c,d,())))
  else (some (0,0,([]:Str),0,false,a,b,c,d,()))
def g (a:List Tk) (b:Int) (c:List It) (d:Int):Option (Int×Int×Str×Int×Bool×(List Tk)×Int×(List It)×Int×Unit):=f (1000+a.length+b.toNat+c.length+d.toNat) a b c d
end Zbl
namespace Zaq
def j8 (n:Nat) (rl3:Bool→(List Str)→Int→Int→(List Tk)→Int→(List It)→Int→Int→Int→Str→Int→Option (Str×Bool×(List Tk)×Int×(List It)×Int×Unit)) (a:Bool) (b:List Str) (c:Int) (d:Int) (e:List Tk) (i:Int) (j:List It) (k:Int) (l:Int) (o:Int) (p:Str) (q:Int):Option (Str×Bool×(List Tk)×Int×(List It)×Int×Unit):=
  rl3 a b c (IntKind.i64.wrap (d+(1:Int))) e i j k l o p q
def l3 (n:Nat):Nat→Bool→(List Str)→Int→Int→(List Tk)→Int→(List It)→Int→Int→Int→Str→Int→Option (Str×Bool×(List Tk)×Int×(List It)×Int×Unit)
 | 0,_,_,_,_,_,_,_,_,_,_,_,_=>none
 | m+1,a,b,c,d,e,i,j,k,l,o,p,q=>
  if (decide (d < c)) then
  (if 0≤d∧d < (b.length:Int) then
  (if a then
  (if (decide (l=(3:Int))) then
  (if (decide (p=(b.getD (d).toNat ([]:Str)))) then
  (some ((b.getD (d).toNat ([]:Str)),true,e,(IntKind.i64.wrap (i+(1:Int))),j,k,()))
  else
  (Zaq.j8 n (Zaq.l3 n m) a b c d e i j k l o p q))
  else
  (Zaq.j8 n (Zaq.l3 n m) a b c d e i j k l o p q))
  else
  (Zaq.j8 n (Zaq.l3 n m) a b c d e i j k l o p q)) else none)
  else (some (([]:Str),false,e,i,j,k,()))
def f (n:Nat) (a:List Str) (b:List Tk) (c:Int) (d:List It) (e:Int):Option (Str×Bool×(List Tk)×Int×(List It)×Int×Unit):=
  (Zbl.g b c d e).bind fun y1=>
  Zaq.l3 n n y1.2.2.2.2.1 a (a.length:Int) (0:Int) y1.2.2.2.2.2.1 y1.2.2.2.2.2.2.1 y1.2.2.2.2.2.2.2.1 y1.2.2.2.2.2.2.2.2.1 y1.1 y1.2.1 y1.2.2.1 y1.2.2.2.1
def g (a:List Str) (b:List Tk) (c:Int) (d:List It) (e:Int):Option (Str×Bool×(List Tk)×Int×(List It)×Int×Unit):=f (1000+a.length+b.length+c.toNat+d.length+e.toNat) a b c d e
end Zaq
namespace Zbf
def f (n:Nat) (a:Int) (b:Int) (c:Str) (d:List Tk) (e:Int) (i:List It) (j:Int):Option ((List Tk)×Int×(List It)×Int×Unit):=
  if (i.length+([(a,b,c,())]:List It).length) * 32≤140737488355328∧0 < 32∧0 < 3 then
  (some (d,e,(i++([(a,b,c,())]:List It)),j,())) else none
def g (a:Int) (b:Int) (c:Str) (d:List Tk) (e:Int) (i:List It) (j:Int):Option ((List Tk)×Int×(List It)×Int×Unit):=f (1000+a.toNat+b.toNat+c.length+d.length+e.toNat+i.length+j.toNat) a b c d e i j
end Zbf
structure Rec_expr_parser_sum where
 expr_parser_sum:Int→(List Tk)→Int→(List It)→Int→Option ((List Tk)×Int×(List It)×Int×Unit)
 expr_parser_row_c200:(List Str)→(List Tk)→Int→(List It)→Int→Int→Option ((List Tk)×Int×(List It)×Int×Unit×Int×Unit)
 expr_parser_sum_1:Int→(List Tk)→Int→(List It)→Int→Option (Unit×Int×(List Tk)×Int×(List It)×Int×Unit)
 expr_parser_row_c201:(List Str)→(List Tk)→Int→(List It)→Int→Int→Option ((List Tk)×Int×(List It)×Int×Unit×Int×Unit)
 expr_parser_sum_1_1:Int→(List Tk)→Int→(List It)→Int→Option (Unit×Int×(List Tk)×Int×(List It)×Int×Unit)
 expr_parser_factor:Int→(List Tk)→Int→(List It)→Int→Option ((List Tk)×Int×(List It)×Int×Unit)
namespace expr_parser_sum
def f (n:Nat) (R:Rec_expr_parser_sum) (a:Int) (b:List Tk) (c:Int) (d:List It) (e:Int):Option ((List Tk)×Int×(List It)×Int×Unit):=
  (R.expr_parser_row_c200 ([([43]:Str),([45]:Str)]:List Str) b c d e a).bind fun y1=>
  some (y1.1,y1.2.1,y1.2.2.1,y1.2.2.2.1,())
def h (R:Rec_expr_parser_sum) (a:Int) (b:List Tk) (c:Int) (d:List It) (e:Int):Option ((List Tk)×Int×(List It)×Int×Unit):=f (1000+a.toNat+b.length+c.toNat+d.length+e.toNat) R a b c d e
end expr_parser_sum
namespace expr_parser_row_c200
def l1 (n:Nat) (R:Rec_expr_parser_sum):Nat→(List Str)→(List Tk)→Int→(List It)→Int→Int→Option ((List Tk)×Int×(List It)×Int×Unit×Int×Unit)
 | 0,_,_,_,_,_,_=>none
 | m+1,a,b,c,d,e,i=>
  (Zaq.g a b c d e).bind fun y1=>
  if (!y1.2.1) then
  (some (y1.2.2.1,y1.2.2.2.1,y1.2.2.2.2.1,y1.2.2.2.2.2.1,(),i,()))
  else
  ((R.expr_parser_sum_1 i y1.2.2.1 y1.2.2.2.1 y1.2.2.2.2.1 y1.2.2.2.2.2.1).bind fun y2=>
  (Zbf.g ((L.kinds y1.1).1) 0 ([]:Str) y2.2.2.1 y2.2.2.2.1 y2.2.2.2.2.1 y2.2.2.2.2.2.1).bind fun y3=>
  (expr_parser_row_c200.l1 n R m) a y3.1 y3.2.1 y3.2.2.1 y3.2.2.2.1 y2.2.1)
def f (n:Nat) (R:Rec_expr_parser_sum) (a:List Str) (b:List Tk) (c:Int) (d:List It) (e:Int) (i:Int):Option ((List Tk)×Int×(List It)×Int×Unit×Int×Unit):=
  (R.expr_parser_sum_1 i b c d e).bind fun y1=>
  expr_parser_row_c200.l1 n R n a y1.2.2.1 y1.2.2.2.1 y1.2.2.2.2.1 y1.2.2.2.2.2.1 y1.2.1
def h (R:Rec_expr_parser_sum) (a:List Str) (b:List Tk) (c:Int) (d:List It) (e:Int) (i:Int):Option ((List Tk)×Int×(List It)×Int×Unit×Int×Unit):=f (1000+a.length+b.length+c.toNat+d.length+e.toNat+i.toNat) R a b c d e i
end expr_parser_row_c200
namespace expr_parser_sum_1
def f (n:Nat) (R:Rec_expr_parser_sum) (a:Int) (b:List Tk) (c:Int) (d:List It) (e:Int):Option (Unit×Int×(List Tk)×Int×(List It)×Int×Unit):=
  (R.expr_parser_row_c201 ([([42]:Str)]:List Str) b c d e a).bind fun y1=>
  some ((),y1.2.2.2.2.2.1,y1.1,y1.2.1,y1.2.2.1,y1.2.2.2.1,())
def h (R:Rec_expr_parser_sum) (a:Int) (b:List Tk) (c:Int) (d:List It) (e:Int):Option (Unit×Int×(List Tk)×Int×(List It)×Int×Unit):=f (1000+a.toNat+b.length+c.toNat+d.length+e.toNat) R a b c d e
end expr_parser_sum_1
namespace expr_parser_row_c201
def l1 (n:Nat) (R:Rec_expr_parser_sum):Nat→(List Str)→(List Tk)→Int→(List It)→Int→Int→Option ((List Tk)×Int×(List It)×Int×Unit×Int×Unit)
 | 0,_,_,_,_,_,_=>none
 | m+1,a,b,c,d,e,i=>
  (Zaq.g a b c d e).bind fun y1=>
  if (!y1.2.1) then
  (some (y1.2.2.1,y1.2.2.2.1,y1.2.2.2.2.1,y1.2.2.2.2.2.1,(),i,()))
  else
  ((R.expr_parser_sum_1_1 i y1.2.2.1 y1.2.2.2.1 y1.2.2.2.2.1 y1.2.2.2.2.2.1).bind fun y2=>
  (Zbf.g ((L.kinds y1.1).1) 0 ([]:Str) y2.2.2.1 y2.2.2.2.1 y2.2.2.2.2.1 y2.2.2.2.2.2.1).bind fun y3=>
  (expr_parser_row_c201.l1 n R m) a y3.1 y3.2.1 y3.2.2.1 y3.2.2.2.1 y2.2.1)
def f (n:Nat) (R:Rec_expr_parser_sum) (a:List Str) (b:List Tk) (c:Int) (d:List It) (e:Int) (i:Int):Option ((List Tk)×Int×(List It)×Int×Unit×Int×Unit):=
  (R.expr_parser_sum_1_1 i b c d e).bind fun y1=>
  expr_parser_row_c201.l1 n R n a y1.2.2.1 y1.2.2.2.1 y1.2.2.2.2.1 y1.2.2.2.2.2.1 y1.2.1
def h (R:Rec_expr_parser_sum) (a:List Str) (b:List Tk) (c:Int) (d:List It) (e:Int) (i:Int):Option ((List Tk)×Int×(List It)×Int×Unit×Int×Unit):=f (1000+a.length+b.length+c.toNat+d.length+e.toNat+i.toNat) R a b c d e i
end expr_parser_row_c201
namespace expr_parser_sum_1_1
def f (n:Nat) (R:Rec_expr_parser_sum) (a:Int) (b:List Tk) (c:Int) (d:List It) (e:Int):Option (Unit×Int×(List Tk)×Int×(List It)×Int×Unit):=
  (R.expr_parser_factor a b c d e).bind fun y1=>
  some ((),a,y1.1,y1.2.1,y1.2.2.1,y1.2.2.2.1,())
def h (R:Rec_expr_parser_sum) (a:Int) (b:List Tk) (c:Int) (d:List It) (e:Int):Option (Unit×Int×(List Tk)×Int×(List It)×Int×Unit):=f (1000+a.toNat+b.length+c.toNat+d.length+e.toNat) R a b c d e
end expr_parser_sum_1_1
namespace expr_parser_factor
def j19 (n:Nat) (R:Rec_expr_parser_sum) (a:List Tk) (b:Int) (c:List It) (d:Int):Option ((List Tk)×Int×(List It)×Int×Unit):=
  some (a,(IntKind.i64.wrap (b+(1:Int))),c,d,())
def f (n:Nat) (R:Rec_expr_parser_sum) (a:Int) (b:List Tk) (c:Int) (d:List It) (e:Int):Option ((List Tk)×Int×(List It)×Int×Unit):=
  if (decide (e≠(0:Int))) then (some (b,c,d,e,()))
  else
  (if (decide ((8:Int) < a)) then
  ((Zbe.g (24:Int) b c d e).bind fun y1=>
  some (y1.1,y1.2.1,y1.2.2.1,y1.2.2.2.1,()))
  else
  ((Zaq.g ([([45]:Str),([40]:Str)]:List Str) b c d e).bind fun y2=>
  if (decide (y2.1=([45]:Str))) then
  ((R.expr_parser_factor (IntKind.i64.wrap (a+(1:Int))) y2.2.2.1 y2.2.2.2.1 y2.2.2.2.2.1 y2.2.2.2.2.2.1).bind fun y3=>
  (Zbf.g (3:Int) 0 ([]:Str) y3.1 y3.2.1 y3.2.2.1 y3.2.2.2.1).bind fun y4=>
  some (y4.1,y4.2.1,y4.2.2.1,y4.2.2.2.1,()))
  else
  (if (decide (y2.1=([40]:Str))) then
  ((R.expr_parser_sum (IntKind.i64.wrap (a+(1:Int))) y2.2.2.1 y2.2.2.2.1 y2.2.2.2.2.1 y2.2.2.2.2.2.1).bind fun y5=>
  (Zaq.g ([([41]:Str)]:List Str) y5.1 y5.2.1 y5.2.2.1 y5.2.2.2.1).bind fun y6=>
  if (!y6.2.1) then
  ((Zbe.g (23:Int) y6.2.2.1 y6.2.2.2.1 y6.2.2.2.2.1 y6.2.2.2.2.2.1).bind fun y7=>
  some (y7.1,y7.2.1,y7.2.2.1,y7.2.2.2.1,()))
  else
  (some (y6.2.2.1,y6.2.2.2.1,y6.2.2.2.2.1,y6.2.2.2.2.2.1,())))
  else
  ((Zbl.g y2.2.2.1 y2.2.2.2.1 y2.2.2.2.2.1 y2.2.2.2.2.2.1).bind fun y8=>
  if y8.2.2.2.2.1 then
  (if (decide (y8.1=(2:Int))) then
  ((Zbf.g (1:Int) y8.2.2.2.1 ([]:Str) y8.2.2.2.2.2.1 y8.2.2.2.2.2.2.1 y8.2.2.2.2.2.2.2.1 y8.2.2.2.2.2.2.2.2.1).bind fun y9=>
  expr_parser_factor.j19 n R y9.1 y9.2.1 y9.2.2.1 y9.2.2.2.1)
  else
  (if y8.2.2.2.2.1 then
  (if (decide (y8.1=(1:Int))) then
  ((Zae.g y8.2.2.1).bind fun y10=>
  if y10.1 then
  ((Zbf.g (2:Int) 0 y8.2.2.1 y8.2.2.2.2.2.1 y8.2.2.2.2.2.2.1 y8.2.2.2.2.2.2.2.1 y8.2.2.2.2.2.2.2.2.1).bind fun y11=>
  expr_parser_factor.j19 n R y11.1 y11.2.1 y11.2.2.1 y11.2.2.2.1)
  else
  ((Zbe.g (23:Int) y8.2.2.2.2.2.1 y8.2.2.2.2.2.2.1 y8.2.2.2.2.2.2.2.1 y8.2.2.2.2.2.2.2.2.1).bind fun y12=>
  expr_parser_factor.j19 n R y12.1 y12.2.1 y12.2.2.1 y12.2.2.2.1))
  else
  ((Zbe.g (23:Int) y8.2.2.2.2.2.1 y8.2.2.2.2.2.2.1 y8.2.2.2.2.2.2.2.1 y8.2.2.2.2.2.2.2.2.1).bind fun y13=>
  expr_parser_factor.j19 n R y13.1 y13.2.1 y13.2.2.1 y13.2.2.2.1))
  else
  ((Zbe.g (23:Int) y8.2.2.2.2.2.1 y8.2.2.2.2.2.2.1 y8.2.2.2.2.2.2.2.1 y8.2.2.2.2.2.2.2.2.1).bind fun y14=>
  expr_parser_factor.j19 n R y14.1 y14.2.1 y14.2.2.1 y14.2.2.2.1)))
  else
  (if y8.2.2.2.2.1 then
  (if (decide (y8.1=(1:Int))) then
  ((Zae.g y8.2.2.1).bind fun y15=>
  if y15.1 then
  ((Zbf.g (2:Int) 0 y8.2.2.1 y8.2.2.2.2.2.1 y8.2.2.2.2.2.2.1 y8.2.2.2.2.2.2.2.1 y8.2.2.2.2.2.2.2.2.1).bind fun y16=>
  expr_parser_factor.j19 n R y16.1 y16.2.1 y16.2.2.1 y16.2.2.2.1)
  else
  ((Zbe.g (23:Int) y8.2.2.2.2.2.1 y8.2.2.2.2.2.2.1 y8.2.2.2.2.2.2.2.1 y8.2.2.2.2.2.2.2.2.1).bind fun y17=>
  expr_parser_factor.j19 n R y17.1 y17.2.1 y17.2.2.1 y17.2.2.2.1))
  else
  ((Zbe.g (23:Int) y8.2.2.2.2.2.1 y8.2.2.2.2.2.2.1 y8.2.2.2.2.2.2.2.1 y8.2.2.2.2.2.2.2.2.1).bind fun y18=>
  expr_parser_factor.j19 n R y18.1 y18.2.1 y18.2.2.1 y18.2.2.2.1))
  else
  ((Zbe.g (23:Int) y8.2.2.2.2.2.1 y8.2.2.2.2.2.2.1 y8.2.2.2.2.2.2.2.1 y8.2.2.2.2.2.2.2.2.1).bind fun y19=>
  expr_parser_factor.j19 n R y19.1 y19.2.1 y19.2.2.1 y19.2.2.2.1))))))
def h (R:Rec_expr_parser_sum) (a:Int) (b:List Tk) (c:Int) (d:List It) (e:Int):Option ((List Tk)×Int×(List It)×Int×Unit):=f (1000+a.toNat+b.length+c.toNat+d.length+e.toNat) R a b c d e
end expr_parser_factor
def rec_expr_parser_sum:Nat→Rec_expr_parser_sum
 | 0=>⟨fun _ _ _ _ _=>none,fun _ _ _ _ _ _=>none,fun _ _ _ _ _=>none,fun _ _ _ _ _ _=>none,fun _ _ _ _ _=>none,fun _ _ _ _ _=>none⟩
 | q+1=>⟨expr_parser_sum.h (rec_expr_parser_sum q),expr_parser_row_c200.h (rec_expr_parser_sum q),expr_parser_sum_1.h (rec_expr_parser_sum q),expr_parser_row_c201.h (rec_expr_parser_sum q),expr_parser_sum_1_1.h (rec_expr_parser_sum q),expr_parser_factor.h (rec_expr_parser_sum q)⟩
def expr_parser_sum.g (a:Int) (b:List Tk) (c:Int) (d:List It) (e:Int):Option ((List Tk)×Int×(List It)×Int×Unit):=(rec_expr_parser_sum (1000+a.toNat+b.length+c.toNat+d.length+e.toNat)).expr_parser_sum a b c d e
def expr_parser_row_c200.g (a:List Str) (b:List Tk) (c:Int) (d:List It) (e:Int) (i:Int):Option ((List Tk)×Int×(List It)×Int×Unit×Int×Unit):=(rec_expr_parser_sum (1000+a.length+b.length+c.toNat+d.length+e.toNat+i.toNat)).expr_parser_row_c200 a b c d e i
def expr_parser_sum_1.g (a:Int) (b:List Tk) (c:Int) (d:List It) (e:Int):Option (Unit×Int×(List Tk)×Int×(List It)×Int×Unit):=(rec_expr_parser_sum (1000+a.toNat+b.length+c.toNat+d.length+e.toNat)).expr_parser_sum_1 a b c d e
def expr_parser_row_c201.g (a:List Str) (b:List Tk) (c:Int) (d:List It) (e:Int) (i:Int):Option ((List Tk)×Int×(List It)×Int×Unit×Int×Unit):=(rec_expr_parser_sum (1000+a.length+b.length+c.toNat+d.length+e.toNat+i.toNat)).expr_parser_row_c201 a b c d e i
def expr_parser_sum_1_1.g (a:Int) (b:List Tk) (c:Int) (d:List It) (e:Int):Option (Unit×Int×(List Tk)×Int×(List It)×Int×Unit):=(rec_expr_parser_sum (1000+a.toNat+b.length+c.toNat+d.length+e.toNat)).expr_parser_sum_1_1 a b c d e
def expr_parser_factor.g (a:Int) (b:List Tk) (c:Int) (d:List It) (e:Int):Option ((List Tk)×Int×(List It)×Int×Unit):=(rec_expr_parser_sum (1000+a.toNat+b.length+c.toNat+d.length+e.toNat)).expr_parser_factor a b c d e
namespace Zbz
def j5 (n:Nat) (a:List Tk) (b:Int) (c:List It) (d:Int):Option ((List It)×Int×Int×Unit):=
  if (decide (d≠(0:Int))) then (some ([],(0:Int),d,()))
  else (some (c,b,(0:Int),()))
def f (n:Nat) (a:List Tk) (b:Int):Option ((List It)×Int×Int×Unit):=
  (expr_parser_sum.g (0:Int) a b ([]) 0).bind fun y1=>
  if (decide (y1.2.2.2.1=(0:Int))) then
  (if (decide ((64:Int) < (y1.2.2.1.length:Int))) then (Zbz.j5 n y1.1 y1.2.1 y1.2.2.1 (24:Int))
  else (Zbz.j5 n y1.1 y1.2.1 y1.2.2.1 y1.2.2.2.1))
  else (Zbz.j5 n y1.1 y1.2.1 y1.2.2.1 y1.2.2.2.1)
def g (a:List Tk) (b:Int):Option ((List It)×Int×Int×Unit):=f (1000+a.length+b.toNat) a b
end Zbz
namespace Zcu
def f (n:Nat) (a:Int):Option (Bool×Unit):=
  if (decide ((65:Int)≤a)) then
  (if (decide (a≤(90:Int)))=false then
  (if (decide ((97:Int)≤a)) then
  (if (decide (a≤(122:Int)))=false then (some ((decide (a=(95:Int))),()))
  else (some (true,())))
  else (some ((decide (a=(95:Int))),())))
  else (some (true,())))
  else
  (if (decide ((97:Int)≤a)) then
  (if (decide (a≤(122:Int)))=false then (some ((decide (a=(95:Int))),()))
  else (some (true,())))
  else (some ((decide (a=(95:Int))),())))
def g (a:Int):Option (Bool×Unit):=f (1000+a.toNat) a
end Zcu
namespace Zcj
def f (n:Nat) (a:Int):Option (Bool×Unit):=
  if (decide ((48:Int)≤a)) then (some ((decide (a≤(57:Int))),()))
  else (some (false,()))
def g (a:Int):Option (Bool×Unit):=f (1000+a.toNat) a
end Zcj
namespace Zbg
def j3 (n:Nat) (rl2:Str→Int→Option (Int×Unit)) (a:Str) (b:Int):Option (Int×Unit):=
  rl2 a (IntKind.i64.wrap (b+(1:Int)))
def l2 (n:Nat):Nat→Str→Int→Option (Int×Unit)
 | 0,_,_=>none
 | m+1,a,b=>
  if (decide (b < (a.length:Int))) then
  (if 0≤b∧b < (a.length:Int) then
  ((Zcu.g (bt a b)).bind fun y1=>
  if y1.1=false then
  (if 0≤b∧b < (a.length:Int) then
  ((Zcj.g (bt a b)).bind fun y2=>
  if y2.1 then (Zbg.j3 n (Zbg.l2 n m) a b)
  else (some (b,()))) else none)
  else (Zbg.j3 n (Zbg.l2 n m) a b)) else none)
  else (some (b,()))
def f (n:Nat) (a:Str):Option (Int×Unit):=
  Zbg.l2 n n a (0:Int)
def g (a:Str):Option (Int×Unit):=f (1000+a.length) a
end Zbg
namespace Zeg
def f (n:Nat) (a:Int):Option (Int×Bool×Unit):=
  (Zcj.g a).bind fun y1=>
  if y1.1 then
  (some ((IntKind.i64.wrap (IntKind.u8.wrap (a - (48:Int)))),true,()))
  else
  (if (decide ((65:Int)≤a)) then
  (if (decide (a≤(70:Int))) then
  (some ((IntKind.i64.wrap ((IntKind.i64.wrap (IntKind.u8.wrap (a - (65:Int))))+(10:Int))),true,()))
  else
  (if (decide ((97:Int)≤a)) then
  (if (decide (a≤(102:Int))) then
  (some ((IntKind.i64.wrap ((IntKind.i64.wrap (IntKind.u8.wrap (a - (97:Int))))+(10:Int))),true,()))
  else (some ((0:Int),false,())))
  else (some ((0:Int),false,()))))
  else
  (if (decide ((97:Int)≤a)) then
  (if (decide (a≤(102:Int))) then
  (some ((IntKind.i64.wrap ((IntKind.i64.wrap (IntKind.u8.wrap (a - (97:Int))))+(10:Int))),true,()))
  else (some ((0:Int),false,())))
  else (some ((0:Int),false,()))))
def g (a:Int):Option (Int×Bool×Unit):=f (1000+a.toNat) a
end Zeg
namespace Zbh
def l8 (n:Nat):Nat→Str→Int→Int→Int→Option (Int×Bool×Unit)
 | 0,_,_,_,_=>none
 | m+1,a,b,c,d=>
  if (decide (d < (a.length:Int))) then
  (if 0≤d∧d < (a.length:Int) then
  ((Zeg.g (bt a d)).bind fun y1=>
  if (!y1.2.1)=false then
  (if (decide (b≤y1.1)) then (some ((0:Int),false,()))
  else
  (if (decide ((4294967296:Int)≤(IntKind.i64.wrap ((IntKind.i64.wrap (c * b))+y1.1)))) then (some ((0:Int),false,()))
  else
  ((Zbh.l8 n m) a b (IntKind.i64.wrap ((IntKind.i64.wrap (c * b))+y1.1)) (IntKind.i64.wrap (d+(1:Int))))))
  else (some ((0:Int),false,()))) else none)
  else (some ((IntKind.u32.wrap c),true,()))
def j6 (n:Nat) (a:Str) (b:Int) (c:Int):Option (Int×Bool×Unit):=
  Zbh.l8 n n a b (0:Int) c
def f (n:Nat) (a:Str):Option (Int×Bool×Unit):=
  if (decide ((2:Int) < (a.length:Int))) then
  (if 0≤(0:Int)∧(0:Int) < (a.length:Int) then
  (if (decide ((bt a (0:Int))=(48:Int))) then
  (if 0≤(1:Int)∧(1:Int) < (a.length:Int) then
  (if (decide ((bt a (1:Int))=(120:Int))) then (Zbh.j6 n a (16:Int) (2:Int))
  else (Zbh.j6 n a (10:Int) (0:Int))) else none)
  else (Zbh.j6 n a (10:Int) (0:Int))) else none)
  else (Zbh.j6 n a (10:Int) (0:Int))
def g (a:Str):Option (Int×Bool×Unit):=f (1000+a.length) a
end Zbh
namespace Zcv
def l3 (n:Nat):Nat→Int→Str→Int→Option (Bool×Unit)
 | 0,_,_,_=>none
 | m+1,a,b,c=>
  if (decide (c < (b.length:Int))) then
  (if 0≤c∧c < (b.length:Int) then
  (if (decide ((bt b c)=a)) then (some (true,()))
  else
  ((Zcv.l3 n m) a b (IntKind.i64.wrap (c+(1:Int))))) else none)
  else (some (false,()))
def f (n:Nat) (a:Int):Option (Bool×Unit):=
  Zcv.l3 n n a ([44,58,43,45,42,40,41,61]:Str) (0:Int)
def g (a:Int):Option (Bool×Unit):=f (1000+a.toNat) a
end Zcv
namespace Zah
def j26 (n:Nat) (rl3:Str→(List Tk)→Int→Option ((List Tk)×Int×Unit)) (a:Str) (b:List Tk) (c:Int) (d:Int) (e:Int) (i:Str) (j:Int):Option ((List Tk)×Int×Unit):=
  if (b.length+([(d,e,i,j,())]:List Tk).length) * 40≤140737488355328∧0 < 40∧0 < 4 then
  (rl3 a (b++([(d,e,i,j,())]:List Tk)) (IntKind.i64.wrap (c+(i.length:Int)))) else none
def j25 (n:Nat) (rl3:Str→(List Tk)→Int→Option ((List Tk)×Int×Unit)) (a:Str) (b:List Tk) (c:Int) (d:Int) (e:Int) (i:Str) (j:Int):Option ((List Tk)×Int×Unit):=
  if 0≤(IntKind.i64.wrap (c+(1:Int)))∧(IntKind.i64.wrap (c+(1:Int)))≤(a.length:Int) then
  (if 0≤c∧c≤(IntKind.i64.wrap (c+(1:Int))) then
  (Zah.j26 n rl3 a b c d e ((a.take (((IntKind.i64.wrap (c+(1:Int)))).toNat)).drop ((c).toNat)) j) else none) else none
def l3 (n:Nat):Nat→Str→(List Tk)→Int→Option ((List Tk)×Int×Unit)
 | 0,_,_,_=>none
 | m+1,a,b,c=>
  if (decide (c < (a.length:Int))) then
  (if 0≤c∧c < (a.length:Int) then
  (if (decide ((bt a c)≠(59:Int))) then
  (if 0≤c∧c < (a.length:Int) then
  (if (decide ((bt a c)=(32:Int)))=false then
  (if (decide ((bt a c)=(9:Int))) then
  ((Zah.l3 n m) a b (IntKind.i64.wrap (c+(1:Int))))
  else
  ((Zcu.g (bt a c)).bind fun y1=>
  if y1.1 then
  (if 0≤c∧c≤(a.length:Int) then
  ((Zbg.g ((a.take (((a.length:Int)).toNat)).drop ((c).toNat))).bind fun y2=>
  if 0≤(IntKind.i64.wrap (c+y2.1))∧(IntKind.i64.wrap (c+y2.1))≤(a.length:Int) then
  (if 0≤c∧c≤(IntKind.i64.wrap (c+y2.1)) then
  (Zah.j26 n (Zah.l3 n m) a b c (1:Int) c ((a.take (((IntKind.i64.wrap (c+y2.1))).toNat)).drop ((c).toNat)) 0) else none) else none) else none)
  else
  ((Zcj.g (bt a c)).bind fun y3=>
  if y3.1 then
  (if 0≤c∧c≤(a.length:Int) then
  ((Zbg.g ((a.take (((a.length:Int)).toNat)).drop ((c).toNat))).bind fun y4=>
  if 0≤(IntKind.i64.wrap (c+y4.1))∧(IntKind.i64.wrap (c+y4.1))≤(a.length:Int) then
  (if 0≤c∧c≤(IntKind.i64.wrap (c+y4.1)) then
  ((Zbh.g ((a.take (((IntKind.i64.wrap (c+y4.1))).toNat)).drop ((c).toNat))).bind fun y5=>
  if (!y5.2.1) then (some ([],(21:Int),()))
  else
  (Zah.j26 n (Zah.l3 n m) a b c (2:Int) c ((a.take (((IntKind.i64.wrap (c+y4.1))).toNat)).drop ((c).toNat)) y5.1)) else none) else none) else none)
  else
  (if (decide ((bt a c)=(46:Int))) then
  (if (decide ((IntKind.i64.wrap (c+(1:Int))) < (a.length:Int))) then
  (if 0≤(IntKind.i64.wrap (c+(1:Int)))∧(IntKind.i64.wrap (c+(1:Int))) < (a.length:Int) then
  ((Zcu.g (bt a (IntKind.i64.wrap (c+(1:Int))))).bind fun y6=>
  if y6.1 then
  (if 0≤(IntKind.i64.wrap (c+(1:Int)))∧(IntKind.i64.wrap (c+(1:Int)))≤(a.length:Int) then
  ((Zbg.g ((a.take (((a.length:Int)).toNat)).drop (((IntKind.i64.wrap (c+(1:Int)))).toNat))).bind fun y7=>
  if 0≤(IntKind.i64.wrap ((IntKind.i64.wrap (c+(1:Int)))+y7.1))∧(IntKind.i64.wrap ((IntKind.i64.wrap (c+(1:Int)))+y7.1))≤(a.length:Int) then
  (if 0≤(IntKind.i64.wrap (c+(1:Int)))∧(IntKind.i64.wrap (c+(1:Int)))≤(IntKind.i64.wrap ((IntKind.i64.wrap (c+(1:Int)))+y7.1)) then
  (Zah.j26 n (Zah.l3 n m) a b (IntKind.i64.wrap (c+(1:Int))) (4:Int) c ((a.take (((IntKind.i64.wrap ((IntKind.i64.wrap (c+(1:Int)))+y7.1))).toNat)).drop (((IntKind.i64.wrap (c+(1:Int)))).toNat)) 0) else none) else none) else none)
  else
  ((Zcv.g (bt a c)).bind fun y8=>
  if y8.1 then
  (Zah.j25 n (Zah.l3 n m) a b c (3:Int) c ([]:Str) 0)
  else (some ([],(20:Int),())))) else none)
  else
  ((Zcv.g (bt a c)).bind fun y9=>
  if y9.1 then
  (Zah.j25 n (Zah.l3 n m) a b c (3:Int) c ([]:Str) 0)
  else (some ([],(20:Int),()))))
  else
  ((Zcv.g (bt a c)).bind fun y10=>
  if y10.1 then
  (Zah.j25 n (Zah.l3 n m) a b c (3:Int) c ([]:Str) 0)
  else (some ([],(20:Int),())))))))
  else
  ((Zah.l3 n m) a b (IntKind.i64.wrap (c+(1:Int))))) else none)
  else (some (b,(0:Int),()))) else none)
  else (some (b,(0:Int),()))
def f (n:Nat) (a:Str):Option ((List Tk)×Int×Unit):=
  Zah.l3 n n a ([]:List Tk) (0:Int)
def g (a:Str):Option ((List Tk)×Int×Unit):=f (1000+a.length) a
end Zah
namespace Zdi
def f (n:Nat) (a:Int):Option (Bool×Unit):=
  if (decide ((65:Int)≤a)) then
  (if (decide (a≤(90:Int)))=false then
  (if (decide ((97:Int)≤a)) then (some ((decide (a≤(122:Int))),()))
  else (some (false,())))
  else (some (true,())))
  else
  (if (decide ((97:Int)≤a)) then (some ((decide (a≤(122:Int))),()))
  else (some (false,())))
def g (a:Int):Option (Bool×Unit):=f (1000+a.toNat) a
end Zdi
namespace Zcw
def f (n:Nat) (a:Int):Option (Bool×Unit):=
  if (decide ((48:Int)≤a)) then (some ((decide (a≤(57:Int))),()))
  else (some (false,()))
def g (a:Int):Option (Bool×Unit):=f (1000+a.toNat) a
end Zcw
namespace Zdr
def f (n:Nat) (a:Str):Option (Bool×Unit):=
  if (decide ((a.length:Int) < (2:Int)))=false then
  (if (decide ((3:Int) < (a.length:Int)))=false then
  (if 0≤(0:Int)∧(0:Int) < (a.length:Int) then
  (if (decide ((bt a (0:Int))≠(82:Int))) then (some (false,()))
  else
  (if 0≤(1:Int)∧(1:Int) < (a.length:Int) then
  ((Zcw.g (bt a (1:Int))).bind fun y1=>
  if y1.1 then
  (if (decide ((a.length:Int)=(2:Int)))=false then
  (if 0≤(2:Int)∧(2:Int) < (a.length:Int) then
  ((Zcw.g (bt a (2:Int))).bind fun y2=>
  some (y2.1,())) else none)
  else (some (true,())))
  else (some (false,()))) else none)) else none)
  else (some (false,())))
  else (some (false,()))
def g (a:Str):Option (Bool×Unit):=f (1000+a.length) a
end Zdr
namespace Zau
def j5 (n:Nat) (rl4:Str→Int→Option (Bool×Unit)) (a:Str) (b:Int):Option (Bool×Unit):=
  rl4 a (IntKind.i64.wrap (b+(1:Int)))
def l4 (n:Nat):Nat→Str→Int→Option (Bool×Unit)
 | 0,_,_=>none
 | m+1,a,b=>
  if (decide (b < (a.length:Int))) then
  (if 0≤b∧b < (a.length:Int) then
  ((Zdi.g (bt a b)).bind fun y1=>
  if (!y1.1) then
  (if 0≤b∧b < (a.length:Int) then
  ((Zcw.g (bt a b)).bind fun y2=>
  if (!y2.1) then
  (if 0≤b∧b < (a.length:Int) then
  (if (decide ((bt a b)≠(95:Int))) then (some (false,()))
  else (Zau.j5 n (Zau.l4 n m) a b)) else none)
  else (Zau.j5 n (Zau.l4 n m) a b)) else none)
  else (Zau.j5 n (Zau.l4 n m) a b)) else none)
  else (some (true,()))
def f (n:Nat) (a:Str):Option (Bool×Unit):=
  if (decide ((a.length:Int) < (1:Int)))=false then
  (if (decide ((12:Int) < (a.length:Int)))=false then
  (if 0≤(0:Int)∧(0:Int) < (a.length:Int) then
  ((Zdi.g (bt a (0:Int))).bind fun y1=>
  if (!y1.1)=false then
  ((Zdr.g a).bind fun y2=>
  if y2.1 then (some (false,()))
  else (Zau.l4 n n a (0:Int)))
  else (some (false,()))) else none)
  else (some (false,())))
  else (some (false,()))
def g (a:Str):Option (Bool×Unit):=f (1000+a.length) a
end Zau
namespace Zbi
def j3 (n:Nat) (a:Str):Option (Bool×Unit):=
  (Zau.g a).bind fun y1=>
  some (y1.1,())
def f (n:Nat) (a:Str):Option (Bool×Unit):=
  if (decide ((0:Int) < (a.length:Int))) then
  (if 0≤(0:Int)∧(0:Int) < (a.length:Int) then
  (if (decide ((bt a (0:Int))=(95:Int))) then
  (if 0≤(1:Int)∧(1:Int)≤(a.length:Int) then
  (if ([97]:Str).length+((a.take (((a.length:Int)).toNat)).drop (((1:Int)).toNat)).length≤9223372036854775807 then
  ((Zau.g (([97]:Str)++((a.take (((a.length:Int)).toNat)).drop (((1:Int)).toNat)))).bind fun y1=>
  some (y1.1,())) else none) else none)
  else (Zbi.j3 n a)) else none)
  else (Zbi.j3 n a)
def g (a:Str):Option (Bool×Unit):=f (1000+a.length) a
end Zbi
namespace Zek
def f (n:Nat) (a:Str) (b:Int):Option (Str×Unit):=
  if 0≤(IntKind.i64.wrap ((IntKind.i64.wrap ((3:Int) * b))+(3:Int)))∧(IntKind.i64.wrap ((IntKind.i64.wrap ((3:Int) * b))+(3:Int)))≤(a.length:Int) then
  (if 0≤(IntKind.i64.wrap ((3:Int) * b))∧(IntKind.i64.wrap ((3:Int) * b))≤(IntKind.i64.wrap ((IntKind.i64.wrap ((3:Int) * b))+(3:Int))) then
  (some (((a.take (((IntKind.i64.wrap ((IntKind.i64.wrap ((3:Int) * b))+(3:Int)))).toNat)).drop (((IntKind.i64.wrap ((3:Int) * b))).toNat)),())) else none) else none
def g (a:Str) (b:Int):Option (Str×Unit):=f (1000+a.length+b.toNat) a b
end Zek
namespace Zac
def j6 (n:Nat) (a:Int) (b:Str) (c:Str):Option (Str×Unit):=
  if (decide (a=(7:Int))) then (some (c,()))
  else
  (if 0≤(IntKind.i64.wrap ((IntKind.i64.wrap ((2:Int) * a))+(2:Int)))∧(IntKind.i64.wrap ((IntKind.i64.wrap ((2:Int) * a))+(2:Int)))≤(b.length:Int) then
  (if 0≤(IntKind.i64.wrap ((2:Int) * a))∧(IntKind.i64.wrap ((2:Int) * a))≤(IntKind.i64.wrap ((IntKind.i64.wrap ((2:Int) * a))+(2:Int))) then
  (if c.length+((b.take (((IntKind.i64.wrap ((IntKind.i64.wrap ((2:Int) * a))+(2:Int)))).toNat)).drop (((IntKind.i64.wrap ((2:Int) * a))).toNat)).length≤9223372036854775807 then
  (some ((c++((b.take (((IntKind.i64.wrap ((IntKind.i64.wrap ((2:Int) * a))+(2:Int)))).toNat)).drop (((IntKind.i64.wrap ((2:Int) * a))).toNat))),())) else none) else none) else none)
def j23 (n:Nat) (a:Int) (b:Int):Option (Str×Unit):=
  if (decide (b≠(0:Int))) then (some (([]:Str),()))
  else
  (if (decide (a=(3:Int))) then (some (([77,79,86,72]:Str),()))
  else
  (if (decide (a=(4:Int))) then (some (([77,79,86,70]:Str),()))
  else
  (if (decide (a=(8:Int))) then (some (([76,68,76]:Str),()))
  else
  (if (decide (a=(9:Int))) then (some (([119,111,114,100]:Str),()))
  else
  (if (decide (a=(10:Int))) then (some (([101,120,112,111,114,116]:Str),()))
  else (some (([]:Str),())))))))
def j21 (n:Nat) (a:Int) (b:Int):Option (Str×Unit):=
  if (decide (a=(5:Int))) then
  (if (decide ((0:Int)≤b)) then
  (if (decide (b≤(3:Int))) then
  ((Zek.g ([76,68,87,76,68,66,83,84,87,83,84,66]:Str) b).bind fun y1=>
  some (y1.1,()))
  else (Zac.j23 n a b))
  else (Zac.j23 n a b))
  else (Zac.j23 n a b)
def j17 (n:Nat) (a:Int) (b:Int) (c:Bool):Option (Str×Unit):=
  if c then (some (([]:Str),()))
  else
  (if (decide (a=(1:Int))) then
  (if (decide ((0:Int)≤b)) then
  (if (decide (b≤(11:Int))) then
  ((Zek.g ([77,79,86,76,83,76,65,83,82,82,79,82,65,78,68,65,78,78,73,79,82,88,79,82,65,68,68,83,85,66,77,85,76,68,73,86]:Str) b).bind fun y1=>
  some (y1.1,()))
  else (Zac.j21 n a b))
  else (Zac.j21 n a b))
  else (Zac.j21 n a b))
def j15 (n:Nat) (a:Int) (b:Int) (c:Bool):Option (Str×Unit):=
  if (decide (a=(1:Int))) then
  (if c then
  (if (decide (b=(10:Int))) then (some (([77,76,85]:Str),()))
  else (Zac.j17 n a b c))
  else (Zac.j17 n a b c))
  else (Zac.j17 n a b c)
def j13 (n:Nat) (a:Int) (b:Int) (c:Bool):Option (Str×Unit):=
  if (decide (a=(1:Int))) then
  (if c then
  (if (decide (b=(9:Int))) then (some (([83,66,67]:Str),()))
  else (Zac.j15 n a b c))
  else (Zac.j15 n a b c))
  else (Zac.j15 n a b c)
def j11 (n:Nat) (a:Int) (b:Int) (c:Bool):Option (Str×Unit):=
  if (decide (a=(1:Int))) then
  (if c then
  (if (decide (b=(8:Int))) then (some (([65,68,67]:Str),()))
  else (Zac.j13 n a b c))
  else (Zac.j13 n a b c))
  else (Zac.j13 n a b c)
def j9 (n:Nat) (a:Int) (b:Int) (c:Bool):Option (Str×Unit):=
  if (decide (a=(1:Int))) then
  (if c then
  (if (decide (b=(0:Int))) then (some (([77,79,86,85]:Str),()))
  else (Zac.j11 n a b c))
  else (Zac.j11 n a b c))
  else (Zac.j11 n a b c)
def f (n:Nat) (a:Int) (b:Int) (c:Bool):Option (Str×Unit):=
  if (decide (a=(7:Int))) then
  (if (decide ((0:Int)≤b)) then
  (if (decide (b≤(15:Int))) then
  (if c then
  (Zac.j6 n b ([77,73,69,81,67,83,86,83,76,83,76,84,76,69,32,32,80,76,78,69,67,67,86,67,72,73,71,69,71,84,78,86]:Str) ([66,76]:Str))
  else
  (Zac.j6 n b ([77,73,69,81,67,83,86,83,76,83,76,84,76,69,32,32,80,76,78,69,67,67,86,67,72,73,71,69,71,84,78,86]:Str) ([66]:Str)))
  else (Zac.j9 n a b c))
  else (Zac.j9 n a b c))
  else (Zac.j9 n a b c)
def g (a:Int) (b:Int) (c:Bool):Option (Str×Unit):=f (1000+a.toNat+b.toNat) a b c
end Zac
namespace Zav
def l7 (n:Nat) (rl4:Str→Int→Option (Int×Int×Bool×Bool×Unit)):Nat→Str→Int→Int→Option (Int×Int×Bool×Bool×Unit)
 | 0,_,_,_=>none
 | m+1,a,b,c=>
  if (decide (c < (16:Int))) then
  ((Zac.g b c false).bind fun y1=>
  if (decide (y1.1=a)) then (some (b,c,false,true,()))
  else
  ((Zac.g b c true).bind fun y2=>
  if (decide (y2.1=a)) then (some (b,c,true,true,()))
  else
  ((Zav.l7 n rl4 m) a b (IntKind.i64.wrap (c+(1:Int))))))
  else (rl4 a (IntKind.i64.wrap (b+(1:Int))))
def l4 (n:Nat):Nat→Str→Int→Option (Int×Int×Bool×Bool×Unit)
 | 0,_,_=>none
 | m+1,a,b=>
  if (decide (b < (11:Int))) then
  (Zav.l7 n (Zav.l4 n m) n a b (0:Int))
  else (some ((0:Int),(0:Int),false,false,()))
def f (n:Nat) (a:Str):Option (Int×Int×Bool×Bool×Unit):=
  if (decide (a=([]:Str))) then (some ((0:Int),(0:Int),false,false,()))
  else (Zav.l4 n n a (0:Int))
def g (a:Str):Option (Int×Int×Bool×Bool×Unit):=f (1000+a.length) a
end Zav
namespace Zbo
def f (n:Nat) (a:Int):Option (Str×Unit):=
  if (decide (a < (0:Int)))=false then
  (if (decide ((15:Int) < a)) then (some (([]:Str),()))
  else
  (if (decide ((9:Int) < a)) then
  (if ([82,49]:Str).length+(bytesOf ([(IntKind.u8.wrap ((48:Int)+(IntKind.u8.wrap (IntKind.i64.wrap (a - (10:Int))))))]:List Int)).length≤9223372036854775807 then
  (some ((([82,49]:Str)++(bytesOf ([(IntKind.u8.wrap ((48:Int)+(IntKind.u8.wrap (IntKind.i64.wrap (a - (10:Int))))))]:List Int))),())) else none)
  else
  (if ([82]:Str).length+(bytesOf ([(IntKind.u8.wrap ((48:Int)+(IntKind.u8.wrap a)))]:List Int)).length≤9223372036854775807 then
  (some ((([82]:Str)++(bytesOf ([(IntKind.u8.wrap ((48:Int)+(IntKind.u8.wrap a)))]:List Int))),())) else none)))
  else (some (([]:Str),()))
def g (a:Int):Option (Str×Unit):=f (1000+a.toNat) a
end Zbo
namespace Zca
def l2 (n:Nat):Nat→Str→Int→Option (Int×Bool×Unit)
 | 0,_,_=>none
 | m+1,a,b=>
  if (decide (b < (16:Int))) then
  ((Zbo.g b).bind fun y1=>
  if (decide (y1.1=a)) then (some (b,true,()))
  else
  ((Zca.l2 n m) a (IntKind.i64.wrap (b+(1:Int)))))
  else (some ((0:Int),false,()))
def f (n:Nat) (a:Str):Option (Int×Bool×Unit):=
  Zca.l2 n n a (0:Int)
def g (a:Str):Option (Int×Bool×Unit):=f (1000+a.length) a
end Zca
namespace Zbj
def f (n:Nat) (a:Str) (b:List Tk) (c:Int) (d:Int):Option (Bool×(List Tk)×Int×Int×Unit):=
  if (decide ((0:Int)≤c)) then
  (if (decide (c < (b.length:Int))) then
  (if 0≤c∧c < (b.length:Int) then
  (if (decide ((b.getD (c).toNat zT).1=(3:Int))) then
  (if 0≤c∧c < (b.length:Int) then
  (if (decide ((((b.getD (c).toNat zT).2).2).1=a)) then (some (true,b,(IntKind.i64.wrap (c+(1:Int))),d,()))
  else (some (false,b,c,d,()))) else none)
  else (some (false,b,c,d,()))) else none)
  else (some (false,b,c,d,())))
  else (some (false,b,c,d,()))
def g (a:Str) (b:List Tk) (c:Int) (d:Int):Option (Bool×(List Tk)×Int×Int×Unit):=f (1000+a.length+b.length+c.toNat+d.toNat) a b c d
end Zbj
structure Rec_rivetref15_parser_sum where
 rivetref15_parser_sum:Int→(List Tk)→Int→Int→Option ((List It)×(List Tk)×Int×Int×Unit)
 rivetref15_parser_term:Int→(List Tk)→Int→Int→Option ((List It)×(List Tk)×Int×Int×Unit)
 rivetref15_parser_factor:Int→(List Tk)→Int→Int→Option ((List It)×(List Tk)×Int×Int×Unit)
namespace rivetref15_parser_sum
def j8 (n:Nat) (R:Rec_rivetref15_parser_sum) (rl2:Int→(List It)→(List Tk)→Int→Int→Option ((List It)×(List Tk)×Int×Int×Unit)) (a:Int) (b:List It) (c:Int) (d:List Tk) (e:Int) (i:Int):Option ((List It)×(List Tk)×Int×Int×Unit):=
  (R.rivetref15_parser_term a d e i).bind fun y1=>
  if (b.length+y1.1.length) * 32≤140737488355328∧0 < 32∧0 < 3 then
  (if ((b++y1.1).length+([(c,0,([]:Str),())]:List It).length) * 32≤140737488355328∧0 < 32∧0 < 3 then
  (rl2 a ((b++y1.1)++([(c,0,([]:Str),())]:List It)) y1.2.1 y1.2.2.1 y1.2.2.2.1) else none) else none
def l2 (n:Nat) (R:Rec_rivetref15_parser_sum):Nat→Int→(List It)→(List Tk)→Int→Int→Option ((List It)×(List Tk)×Int×Int×Unit)
 | 0,_,_,_,_,_=>none
 | m+1,a,b,c,d,e=>
  if (decide (e=(0:Int))) then
  ((Zbj.g ([43]:Str) c d e).bind fun y1=>
  if (!y1.1) then
  ((Zbj.g ([45]:Str) y1.2.1 y1.2.2.1 y1.2.2.2.1).bind fun y2=>
  if (!y2.1) then (some (b,y2.2.1,y2.2.2.1,y2.2.2.2.1,()))
  else
  (rivetref15_parser_sum.j8 n R (rivetref15_parser_sum.l2 n R m) a b (5:Int) y2.2.1 y2.2.2.1 y2.2.2.2.1))
  else
  (rivetref15_parser_sum.j8 n R (rivetref15_parser_sum.l2 n R m) a b (4:Int) y1.2.1 y1.2.2.1 y1.2.2.2.1))
  else (some (b,c,d,e,()))
def f (n:Nat) (R:Rec_rivetref15_parser_sum) (a:Int) (b:List Tk) (c:Int) (d:Int):Option ((List It)×(List Tk)×Int×Int×Unit):=
  (R.rivetref15_parser_term a b c d).bind fun y1=>
  rivetref15_parser_sum.l2 n R n a y1.1 y1.2.1 y1.2.2.1 y1.2.2.2.1
def h (R:Rec_rivetref15_parser_sum) (a:Int) (b:List Tk) (c:Int) (d:Int):Option ((List It)×(List Tk)×Int×Int×Unit):=f (1000+a.toNat+b.length+c.toNat+d.toNat) R a b c d
end rivetref15_parser_sum
namespace rivetref15_parser_term
def l2 (n:Nat) (R:Rec_rivetref15_parser_sum):Nat→Int→(List It)→(List Tk)→Int→Int→Option ((List It)×(List Tk)×Int×Int×Unit)
 | 0,_,_,_,_,_=>none
 | m+1,a,b,c,d,e=>
  if (decide (e=(0:Int))) then
  ((Zbj.g ([42]:Str) c d e).bind fun y1=>
  if y1.1 then
  ((R.rivetref15_parser_factor a y1.2.1 y1.2.2.1 y1.2.2.2.1).bind fun y2=>
  if (b.length+y2.1.length) * 32≤140737488355328∧0 < 32∧0 < 3 then
  (if ((b++y2.1).length+([((6:Int),0,([]:Str),())]:List It).length) * 32≤140737488355328∧0 < 32∧0 < 3 then
  ((rivetref15_parser_term.l2 n R m) a ((b++y2.1)++([((6:Int),0,([]:Str),())]:List It)) y2.2.1 y2.2.2.1 y2.2.2.2.1) else none) else none)
  else (some (b,y1.2.1,y1.2.2.1,y1.2.2.2.1,())))
  else (some (b,c,d,e,()))
def f (n:Nat) (R:Rec_rivetref15_parser_sum) (a:Int) (b:List Tk) (c:Int) (d:Int):Option ((List It)×(List Tk)×Int×Int×Unit):=
  (R.rivetref15_parser_factor a b c d).bind fun y1=>
  rivetref15_parser_term.l2 n R n a y1.1 y1.2.1 y1.2.2.1 y1.2.2.2.1
def h (R:Rec_rivetref15_parser_sum) (a:Int) (b:List Tk) (c:Int) (d:Int):Option ((List It)×(List Tk)×Int×Int×Unit):=f (1000+a.toNat+b.length+c.toNat+d.toNat) R a b c d
end rivetref15_parser_term
namespace rivetref15_parser_factor
def j20 (n:Nat) (R:Rec_rivetref15_parser_sum) (a:List Tk) (b:Int) (c:Int):Option ((List It)×(List Tk)×Int×Int×Unit):=
  some ([],a,b,(23:Int),())
def f (n:Nat) (R:Rec_rivetref15_parser_sum) (a:Int) (b:List Tk) (c:Int) (d:Int):Option ((List It)×(List Tk)×Int×Int×Unit):=
  if (decide ((8:Int) < a)) then (some ([],b,c,(24:Int),()))
  else
  ((Zbj.g ([45]:Str) b c d).bind fun y1=>
  if y1.1 then
  ((R.rivetref15_parser_factor (IntKind.i64.wrap (a+(1:Int))) y1.2.1 y1.2.2.1 y1.2.2.2.1).bind fun y2=>
  if (y2.1.length+([((3:Int),0,([]:Str),())]:List It).length) * 32≤140737488355328∧0 < 32∧0 < 3 then
  (some ((y2.1++([((3:Int),0,([]:Str),())]:List It)),y2.2.1,y2.2.2.1,y2.2.2.2.1,())) else none)
  else
  ((Zbj.g ([40]:Str) y1.2.1 y1.2.2.1 y1.2.2.2.1).bind fun y3=>
  if y3.1 then
  ((R.rivetref15_parser_sum (IntKind.i64.wrap (a+(1:Int))) y3.2.1 y3.2.2.1 y3.2.2.2.1).bind fun y4=>
  if (decide (y4.2.2.2.1=(0:Int))) then
  ((Zbj.g ([41]:Str) y4.2.1 y4.2.2.1 y4.2.2.2.1).bind fun y5=>
  if (!y5.1) then (some (y4.1,y5.2.1,y5.2.2.1,(23:Int),()))
  else (some (y4.1,y5.2.1,y5.2.2.1,y5.2.2.2.1,())))
  else (some (y4.1,y4.2.1,y4.2.2.1,y4.2.2.2.1,())))
  else
  (if (decide (y3.2.2.1 < (0:Int)))=false then
  (if (decide ((y3.2.1.length:Int)≤y3.2.2.1)) then (some ([],y3.2.1,y3.2.2.1,(23:Int),()))
  else
  (if 0≤y3.2.2.1∧y3.2.2.1 < (y3.2.1.length:Int) then
  (if (decide ((y3.2.1.getD (y3.2.2.1).toNat zT).1=(2:Int))) then
  (some (([((1:Int),((((y3.2.1.getD (y3.2.2.1).toNat zT).2).2).2).1,([]:Str),())]:List It),y3.2.1,(IntKind.i64.wrap (y3.2.2.1+(1:Int))),y3.2.2.2.1,()))
  else
  (if (decide ((y3.2.1.getD (y3.2.2.1).toNat zT).1=(1:Int))) then
  ((Zbi.g ((((y3.2.1.getD (y3.2.2.1).toNat zT).2).2).1)).bind fun y6=>
  if y6.1 then
  (some (([((2:Int),0,(((y3.2.1.getD (y3.2.2.1).toNat zT).2).2).1,())]:List It),y3.2.1,(IntKind.i64.wrap (y3.2.2.1+(1:Int))),y3.2.2.2.1,()))
  else
  (rivetref15_parser_factor.j20 n R y3.2.1 (IntKind.i64.wrap (y3.2.2.1+(1:Int))) y3.2.2.2.1))
  else
  (rivetref15_parser_factor.j20 n R y3.2.1 (IntKind.i64.wrap (y3.2.2.1+(1:Int))) y3.2.2.2.1))) else none))
  else (some ([],y3.2.1,y3.2.2.1,(23:Int),())))))
def h (R:Rec_rivetref15_parser_sum) (a:Int) (b:List Tk) (c:Int) (d:Int):Option ((List It)×(List Tk)×Int×Int×Unit):=f (1000+a.toNat+b.length+c.toNat+d.toNat) R a b c d
end rivetref15_parser_factor
def rec_rivetref15_parser_sum:Nat→Rec_rivetref15_parser_sum
 | 0=>⟨fun _ _ _ _=>none,fun _ _ _ _=>none,fun _ _ _ _=>none⟩
 | q+1=>⟨rivetref15_parser_sum.h (rec_rivetref15_parser_sum q),rivetref15_parser_term.h (rec_rivetref15_parser_sum q),rivetref15_parser_factor.h (rec_rivetref15_parser_sum q)⟩
def rivetref15_parser_sum.g (a:Int) (b:List Tk) (c:Int) (d:Int):Option ((List It)×(List Tk)×Int×Int×Unit):=(rec_rivetref15_parser_sum (1000+a.toNat+b.length+c.toNat+d.toNat)).rivetref15_parser_sum a b c d
def rivetref15_parser_term.g (a:Int) (b:List Tk) (c:Int) (d:Int):Option ((List It)×(List Tk)×Int×Int×Unit):=(rec_rivetref15_parser_sum (1000+a.toNat+b.length+c.toNat+d.toNat)).rivetref15_parser_term a b c d
def rivetref15_parser_factor.g (a:Int) (b:List Tk) (c:Int) (d:Int):Option ((List It)×(List Tk)×Int×Int×Unit):=(rec_rivetref15_parser_sum (1000+a.toNat+b.length+c.toNat+d.toNat)).rivetref15_parser_factor a b c d
namespace Zds
def f (n:Nat) (a:List Tk) (b:Int):Option ((List It)×Int×Int×Unit):=
  (rivetref15_parser_sum.g (0:Int) a b 0).bind fun y1=>
  if (decide (y1.2.2.2.1≠(0:Int))) then (some ([],(0:Int),y1.2.2.2.1,()))
  else
  (if (decide ((64:Int) < (y1.1.length:Int))) then (some ([],(0:Int),(24:Int),()))
  else (some (y1.1,y1.2.2.1,(0:Int),())))
def g (a:List Tk) (b:Int):Option ((List It)×Int×Int×Unit):=f (1000+a.length+b.toNat) a b
end Zds
namespace Zcd
def j2 (n:Nat) (a:Bool) (b:Int) (c:Int) (d:Str):Option (Int×Bool×Unit):=
  if (decide (b=(1:Int))) then (some ((0:Int),(decide (d=([]:Str))),()))
  else
  (if (decide (b=(2:Int))) then
  (if (decide (c=(0:Int))) then
  ((Zae.g d).bind fun y1=>
  some ((0:Int),y1.1,()))
  else (some ((0:Int),false,())))
  else
  (if (decide (b=(3:Int))) then (some ((1:Int),a,()))
  else
  (if (decide (b=(4:Int))) then
  (if (decide (b=(4:Int))) then (some ((2:Int),a,()))
  else (some ((0:Int),false,())))
  else
  (if (decide (b=(5:Int))) then
  (if (decide (b=(5:Int))) then (some ((2:Int),a,()))
  else (some ((0:Int),false,())))
  else
  (if (decide (b=(6:Int))) then (some ((2:Int),a,()))
  else (some ((0:Int),false,())))))))
def f (n:Nat) (a:Int) (b:Int) (c:Str):Option (Int×Bool×Unit):=
  if (decide (b=(0:Int))) then (Zcd.j2 n (decide (c=([]:Str))) a b c)
  else (Zcd.j2 n false a b c)
def g (a:Int) (b:Int) (c:Str):Option (Int×Bool×Unit):=f (1000+a.toNat+b.toNat+c.length) a b c
end Zcd
namespace Zbp
def l3 (n:Nat):Nat→(List It)→Int→(List It)→Int→Int→Option (Bool×Unit)
 | 0,_,_,_,_,_=>none
 | m+1,a,b,c,d,e=>
  if (decide (e < d)) then
  (if 0≤e∧e < (c.length:Int) then
  ((Zcd.g ((c.getD (e).toNat zI).1) (((c.getD (e).toNat zI).2).1) ((((c.getD (e).toNat zI).2).2).1)).bind fun y1=>
  if (!y1.2.1)=false then
  (if (decide (b < y1.1)) then (some (false,()))
  else
  ((Zbp.l3 n m) a (IntKind.i64.wrap (b+(IntKind.i64.wrap ((1:Int) - y1.1)))) c d (IntKind.i64.wrap (e+(1:Int)))))
  else (some (false,()))) else none)
  else
  (if (decide (b=(1:Int))) then (some ((decide ((a.length:Int)≤(64:Int))),()))
  else (some (false,())))
def f (n:Nat) (a:List It):Option (Bool×Unit):=
  Zbp.l3 n n a (0:Int) a (a.length:Int) (0:Int)
def g (a:List It):Option (Bool×Unit):=f (1000+a.length) a
end Zbp
namespace Zdt
def f (n:Nat) (a:Int) (b:Int):Option (Str×Unit):=
  (L.formatUintO a b).bind fun y1=>
  some (y1.1,())
def g (a:Int) (b:Int):Option (Str×Unit):=f (1000+a.toNat+b.toNat) a b
end Zdt
namespace Zbk
def f (n:Nat) (a:Str) (b:Int) (c:Int):Option (Str×Unit):=
  if (decide (b < c)) then
  (if ([40]:Str).length+a.length≤9223372036854775807 then
  (if (([40]:Str)++a).length+([41]:Str).length≤9223372036854775807 then (some (((([40]:Str)++a)++([41]:Str)),())) else none) else none)
  else (some (a,()))
def g (a:Str) (b:Int) (c:Int):Option (Str×Unit):=f (1000+a.length+b.toNat+c.toNat) a b c
end Zbk
namespace Zai
def j23 (n:Nat) (rl5:(List (Str×Int×Unit))→(List It)→Int→Int→Option (Str×Int×Unit)) (a:List (Str×Int×Unit)) (b:Int) (c:List It) (d:Int) (e:Int) (i:Str) (j:Int):Option (Str×Int×Unit):=
  if 0≤(IntKind.i64.wrap ((a.length:Int) - b))∧(IntKind.i64.wrap ((a.length:Int) - b))≤(a.length:Int) then
  (if ((a.take ((IntKind.i64.wrap ((a.length:Int) - b))).toNat).length+([(i,j,())]:List (Str×Int×Unit)).length) * 24≤140737488355328∧0 < 24∧0 < 2 then
  (rl5 ((a.take ((IntKind.i64.wrap ((a.length:Int) - b))).toNat)++([(i,j,())]:List (Str×Int×Unit))) c d (IntKind.i64.wrap (e+(1:Int)))) else none) else none
def l5 (n:Nat):Nat→(List (Str×Int×Unit))→(List It)→Int→Int→Option (Str×Int×Unit)
 | 0,_,_,_,_=>none
 | m+1,a,b,c,d=>
  if (decide (d < c)) then
  (if 0≤d∧d < (b.length:Int) then
  ((Zcd.g ((b.getD (d).toNat zI).1) (((b.getD (d).toNat zI).2).1) ((((b.getD (d).toNat zI).2).2).1)).bind fun y1=>
  if 0≤(IntKind.i64.wrap ((a.length:Int) - y1.1))∧(IntKind.i64.wrap ((a.length:Int) - y1.1))≤(a.length:Int) then
  (if (decide ((b.getD (d).toNat zI).1=(1:Int))) then
  ((Zdt.g (IntKind.u64.wrap ((b.getD (d).toNat zI).2).1) (10:Int)).bind fun y2=>
  Zai.j23 n (Zai.l5 n m) a y1.1 b c d y2.1 (2:Int))
  else
  (if (decide ((b.getD (d).toNat zI).1=(2:Int))) then
  (Zai.j23 n (Zai.l5 n m) a y1.1 b c d ((((b.getD (d).toNat zI).2).2).1) (2:Int))
  else
  (if (decide ((b.getD (d).toNat zI).1=(3:Int))) then
  (if 0≤(0:Int)∧(0:Int) < (((a.take (((a.length:Int)).toNat)).drop (((IntKind.i64.wrap ((a.length:Int) - y1.1))).toNat)).length:Int) then
  ((Zbk.g ((((a.take (((a.length:Int)).toNat)).drop (((IntKind.i64.wrap ((a.length:Int) - y1.1))).toNat)).getD ((0:Int)).toNat (([]:Str),((0:Int),()))).1) (((((a.take (((a.length:Int)).toNat)).drop (((IntKind.i64.wrap ((a.length:Int) - y1.1))).toNat)).getD ((0:Int)).toNat (([]:Str),((0:Int),()))).2).1) (2:Int)).bind fun y3=>
  if ([45]:Str).length+y3.1.length≤9223372036854775807 then
  (Zai.j23 n (Zai.l5 n m) a y1.1 b c d (([45]:Str)++y3.1) (2:Int)) else none) else none)
  else
  (if (decide ((b.getD (d).toNat zI).1=(4:Int))) then
  (if 0≤(0:Int)∧(0:Int) < (((a.take (((a.length:Int)).toNat)).drop (((IntKind.i64.wrap ((a.length:Int) - y1.1))).toNat)).length:Int) then
  ((Zbk.g ((((a.take (((a.length:Int)).toNat)).drop (((IntKind.i64.wrap ((a.length:Int) - y1.1))).toNat)).getD ((0:Int)).toNat (([]:Str),((0:Int),()))).1) (((((a.take (((a.length:Int)).toNat)).drop (((IntKind.i64.wrap ((a.length:Int) - y1.1))).toNat)).getD ((0:Int)).toNat (([]:Str),((0:Int),()))).2).1) (0:Int)).bind fun y4=>
  if y4.1.length+([32,43,32]:Str).length≤9223372036854775807 then
  (if 0≤(1:Int)∧(1:Int) < (((a.take (((a.length:Int)).toNat)).drop (((IntKind.i64.wrap ((a.length:Int) - y1.1))).toNat)).length:Int) then
  ((Zbk.g ((((a.take (((a.length:Int)).toNat)).drop (((IntKind.i64.wrap ((a.length:Int) - y1.1))).toNat)).getD ((1:Int)).toNat (([]:Str),((0:Int),()))).1) (((((a.take (((a.length:Int)).toNat)).drop (((IntKind.i64.wrap ((a.length:Int) - y1.1))).toNat)).getD ((1:Int)).toNat (([]:Str),((0:Int),()))).2).1) (1:Int)).bind fun y5=>
  if (y4.1++([32,43,32]:Str)).length+y5.1.length≤9223372036854775807 then
  (Zai.j23 n (Zai.l5 n m) a y1.1 b c d ((y4.1++([32,43,32]:Str))++y5.1) (0:Int)) else none) else none) else none) else none)
  else
  (if (decide ((b.getD (d).toNat zI).1=(5:Int))) then
  (if 0≤(0:Int)∧(0:Int) < (((a.take (((a.length:Int)).toNat)).drop (((IntKind.i64.wrap ((a.length:Int) - y1.1))).toNat)).length:Int) then
  ((Zbk.g ((((a.take (((a.length:Int)).toNat)).drop (((IntKind.i64.wrap ((a.length:Int) - y1.1))).toNat)).getD ((0:Int)).toNat (([]:Str),((0:Int),()))).1) (((((a.take (((a.length:Int)).toNat)).drop (((IntKind.i64.wrap ((a.length:Int) - y1.1))).toNat)).getD ((0:Int)).toNat (([]:Str),((0:Int),()))).2).1) (0:Int)).bind fun y6=>
  if y6.1.length+([32,45,32]:Str).length≤9223372036854775807 then
  (if 0≤(1:Int)∧(1:Int) < (((a.take (((a.length:Int)).toNat)).drop (((IntKind.i64.wrap ((a.length:Int) - y1.1))).toNat)).length:Int) then
  ((Zbk.g ((((a.take (((a.length:Int)).toNat)).drop (((IntKind.i64.wrap ((a.length:Int) - y1.1))).toNat)).getD ((1:Int)).toNat (([]:Str),((0:Int),()))).1) (((((a.take (((a.length:Int)).toNat)).drop (((IntKind.i64.wrap ((a.length:Int) - y1.1))).toNat)).getD ((1:Int)).toNat (([]:Str),((0:Int),()))).2).1) (1:Int)).bind fun y7=>
  if (y6.1++([32,45,32]:Str)).length+y7.1.length≤9223372036854775807 then
  (Zai.j23 n (Zai.l5 n m) a y1.1 b c d ((y6.1++([32,45,32]:Str))++y7.1) (0:Int)) else none) else none) else none) else none)
  else
  (if (decide ((b.getD (d).toNat zI).1=(6:Int))) then
  (if 0≤(0:Int)∧(0:Int) < (((a.take (((a.length:Int)).toNat)).drop (((IntKind.i64.wrap ((a.length:Int) - y1.1))).toNat)).length:Int) then
  ((Zbk.g ((((a.take (((a.length:Int)).toNat)).drop (((IntKind.i64.wrap ((a.length:Int) - y1.1))).toNat)).getD ((0:Int)).toNat (([]:Str),((0:Int),()))).1) (((((a.take (((a.length:Int)).toNat)).drop (((IntKind.i64.wrap ((a.length:Int) - y1.1))).toNat)).getD ((0:Int)).toNat (([]:Str),((0:Int),()))).2).1) (1:Int)).bind fun y8=>
  if y8.1.length+([32,42,32]:Str).length≤9223372036854775807 then
  (if 0≤(1:Int)∧(1:Int) < (((a.take (((a.length:Int)).toNat)).drop (((IntKind.i64.wrap ((a.length:Int) - y1.1))).toNat)).length:Int) then
  ((Zbk.g ((((a.take (((a.length:Int)).toNat)).drop (((IntKind.i64.wrap ((a.length:Int) - y1.1))).toNat)).getD ((1:Int)).toNat (([]:Str),((0:Int),()))).1) (((((a.take (((a.length:Int)).toNat)).drop (((IntKind.i64.wrap ((a.length:Int) - y1.1))).toNat)).getD ((1:Int)).toNat (([]:Str),((0:Int),()))).2).1) (2:Int)).bind fun y9=>
  if (y8.1++([32,42,32]:Str)).length+y9.1.length≤9223372036854775807 then
  (Zai.j23 n (Zai.l5 n m) a y1.1 b c d ((y8.1++([32,42,32]:Str))++y9.1) (1:Int)) else none) else none) else none) else none)
  else
  (Zai.j23 n (Zai.l5 n m) a y1.1 b c d ([]:Str) 0))))))) else none) else none)
  else
  (if 0≤(0:Int)∧(0:Int) < (a.length:Int) then
  (some ((a.getD ((0:Int)).toNat (([]:Str),((0:Int),()))).1,(0:Int),())) else none)
def f (n:Nat) (a:List It):Option (Str×Int×Unit):=
  (Zbp.g a).bind fun y1=>
  if (!y1.1) then (some (([]:Str),(23:Int),()))
  else (Zai.l5 n n ([]) a (a.length:Int) (0:Int))
def g (a:List It):Option (Str×Int×Unit):=f (1000+a.length) a
end Zai
namespace Zdu
def f (n:Nat) (a:Int) (b:Int) (c:Str):Option (Int×Unit):=
  if (decide (a=(1:Int))) then
  (if (decide (c=([]:Str))) then (some ((0:Int),()))
  else (some ((-1:Int),())))
  else
  (if (decide (a=(2:Int))) then
  (if (decide (b=(0:Int))) then
  ((Zbi.g c).bind fun y1=>
  if y1.1 then (some ((0:Int),()))
  else (some ((-1:Int),())))
  else (some ((-1:Int),())))
  else
  (if (decide (b≠(0:Int)))=false then
  (if (!(decide (c=([]:Str)))) then (some ((-1:Int),()))
  else
  (if (decide (a=(3:Int))) then (some ((1:Int),()))
  else
  (if (decide ((4:Int)≤a)) then
  (if (decide (a≤(6:Int))) then (some ((2:Int),()))
  else (some ((-1:Int),())))
  else (some ((-1:Int),())))))
  else (some ((-1:Int),()))))
def g (a:Int) (b:Int) (c:Str):Option (Int×Unit):=f (1000+a.toNat+b.toNat+c.length) a b c
end Zdu
namespace Zbq
def l3 (n:Nat):Nat→(List It)→Int→Int→Option (Bool×Unit)
 | 0,_,_,_=>none
 | m+1,a,b,c=>
  if (decide (c < (a.length:Int))) then
  (if 0≤c∧c < (a.length:Int) then
  ((Zdu.g ((a.getD (c).toNat zI).1) (((a.getD (c).toNat zI).2).1) ((((a.getD (c).toNat zI).2).2).1)).bind fun y1=>
  if (decide (y1.1 < (0:Int)))=false then
  (if (decide (b < y1.1)) then (some (false,()))
  else
  ((Zbq.l3 n m) a (IntKind.i64.wrap ((IntKind.i64.wrap (b - y1.1))+(1:Int))) (IntKind.i64.wrap (c+(1:Int)))))
  else (some (false,()))) else none)
  else
  (if (decide (b=(1:Int))) then (some ((decide ((a.length:Int)≤(64:Int))),()))
  else (some (false,())))
def f (n:Nat) (a:List It):Option (Bool×Unit):=
  Zbq.l3 n n a (0:Int) (0:Int)
def g (a:List It):Option (Bool×Unit):=f (1000+a.length) a
end Zbq
namespace Zce
def l2 (n:Nat):Nat→Int→Str→Option (Str×Unit)
 | 0,_,_=>none
 | m+1,a,b=>
  if (decide ((9:Int) < a)) then
  (if (bytesOf ([(IntKind.u8.wrap ((48:Int)+(IntKind.u8.wrap (Int.tmod a (10:Int)))))]:List Int)).length+b.length≤9223372036854775807 then
  ((Zce.l2 n m) (IntKind.u32.wrap (Int.tdiv a (10:Int))) ((bytesOf ([(IntKind.u8.wrap ((48:Int)+(IntKind.u8.wrap (Int.tmod a (10:Int)))))]:List Int))++b)) else none)
  else
  (if (bytesOf ([(IntKind.u8.wrap ((48:Int)+(IntKind.u8.wrap a)))]:List Int)).length+b.length≤9223372036854775807 then
  (some (((bytesOf ([(IntKind.u8.wrap ((48:Int)+(IntKind.u8.wrap a)))]:List Int))++b),())) else none)
def f (n:Nat) (a:Int):Option (Str×Unit):=
  Zce.l2 n n a ([]:Str)
def g (a:Int):Option (Str×Unit):=f (1000+a.toNat) a
end Zce
namespace Zbm
def l2 (n:Nat):Nat→Str→Int→(List Int)→Int→Option (Str×Unit)
 | 0,_,_,_,_=>none
 | m+1,a,b,c,d=>
  if (decide (d < (c.length:Int))) then
  (if 0≤d∧d < (c.length:Int) then
  (if (decide ((c.getD (d).toNat (0:Int))=b)) then
  (if ([40]:Str).length+a.length≤9223372036854775807 then
  (if (([40]:Str)++a).length+([41]:Str).length≤9223372036854775807 then (some (((([40]:Str)++a)++([41]:Str)),())) else none) else none)
  else
  ((Zbm.l2 n m) a b c (IntKind.i64.wrap (d+(1:Int))))) else none)
  else (some (a,()))
def f (n:Nat) (a:Str) (b:Int) (c:List Int):Option (Str×Unit):=
  Zbm.l2 n n a b c (0:Int)
def g (a:Str) (b:Int) (c:List Int):Option (Str×Unit):=f (1000+a.length+b.toNat+c.length) a b c
end Zbm
namespace Zaf
def j27 (n:Nat) (rl6:(List It)→(List Str)→(List Int)→Int→Option (Str×Int×Unit)) (a:List It) (b:List Str) (c:List Int) (d:Int) (e:Int) (i:Int) (j:Str):Option (Str×Int×Unit):=
  if 0≤e∧e≤(b.length:Int) then
  (if (([]:List Str).length+(b.take (e).toNat).length) * 16≤140737488355328∧0 < 16∧0 < 1 then
  (if ((([]:List Str)++(b.take (e).toNat)).length+([j]:List Str).length) * 16≤140737488355328∧0 < 16∧0 < 1 then
  (if 0≤e∧e≤(c.length:Int) then
  (if (([]:List Int).length+(c.take (e).toNat).length) * 8≤140737488355328∧0 < 8∧0 < 1 then
  (if ((([]:List Int)++(c.take (e).toNat)).length+([i]:List Int).length) * 8≤140737488355328∧0 < 8∧0 < 1 then
  (rl6 a ((([]:List Str)++(b.take (e).toNat))++([j]:List Str)) ((([]:List Int)++(c.take (e).toNat))++([i]:List Int)) (IntKind.i64.wrap (d+(1:Int)))) else none) else none) else none) else none) else none) else none
def j16 (n:Nat) (rl6:(List It)→(List Str)→(List Int)→Int→Option (Str×Int×Unit)) (a:List It) (b:List Str) (c:List Int) (d:Int) (e:Int) (i:Int) (j:Str):Option (Str×Int×Unit):=
  if 0≤e∧e < (b.length:Int) then
  (if (b.getD (e).toNat ([]:Str)).length+j.length≤9223372036854775807 then
  (if 0≤(IntKind.i64.wrap (e+(1:Int)))∧(IntKind.i64.wrap (e+(1:Int))) < (b.length:Int) then
  (if 0≤(IntKind.i64.wrap (e+(1:Int)))∧(IntKind.i64.wrap (e+(1:Int))) < (c.length:Int) then
  ((Zbm.g (b.getD ((IntKind.i64.wrap (e+(1:Int)))).toNat ([]:Str)) (c.getD ((IntKind.i64.wrap (e+(1:Int)))).toNat (0:Int)) ([(4:Int),(5:Int)]:List Int)).bind fun y1=>
  if ((b.getD (e).toNat ([]:Str))++j).length+y1.1.length≤9223372036854775807 then
  (Zaf.j27 n rl6 a b c d e i (((b.getD (e).toNat ([]:Str))++j)++y1.1)) else none) else none) else none) else none) else none
def l6 (n:Nat):Nat→(List It)→(List Str)→(List Int)→Int→Option (Str×Int×Unit)
 | 0,_,_,_,_=>none
 | m+1,a,b,c,d=>
  if (decide (d < (a.length:Int))) then
  (if 0≤d∧d < (a.length:Int) then
  (if (decide ((a.getD (d).toNat zI).1=(1:Int))) then
  (if 0≤d∧d < (a.length:Int) then
  ((Zce.g (((a.getD (d).toNat zI).2).1)).bind fun y1=>
  Zaf.j27 n (Zaf.l6 n m) a b c d (b.length:Int) ((a.getD (d).toNat zI).1) y1.1) else none)
  else
  (if (decide ((a.getD (d).toNat zI).1=(2:Int))) then
  (if 0≤d∧d < (a.length:Int) then
  (Zaf.j27 n (Zaf.l6 n m) a b c d (b.length:Int) ((a.getD (d).toNat zI).1) ((((a.getD (d).toNat zI).2).2).1)) else none)
  else
  (if (decide ((a.getD (d).toNat zI).1=(3:Int))) then
  (if 0≤(IntKind.i64.wrap ((b.length:Int) - (1:Int)))∧(IntKind.i64.wrap ((b.length:Int) - (1:Int))) < (b.length:Int) then
  (if 0≤(IntKind.i64.wrap ((b.length:Int) - (1:Int)))∧(IntKind.i64.wrap ((b.length:Int) - (1:Int))) < (c.length:Int) then
  ((Zbm.g (b.getD ((IntKind.i64.wrap ((b.length:Int) - (1:Int)))).toNat ([]:Str)) (c.getD ((IntKind.i64.wrap ((b.length:Int) - (1:Int)))).toNat (0:Int)) ([(4:Int),(5:Int),(6:Int)]:List Int)).bind fun y2=>
  if ([45]:Str).length+y2.1.length≤9223372036854775807 then
  (Zaf.j27 n (Zaf.l6 n m) a b c d (IntKind.i64.wrap ((b.length:Int) - (1:Int))) ((a.getD (d).toNat zI).1) (([45]:Str)++y2.1)) else none) else none) else none)
  else
  (if (decide ((a.getD (d).toNat zI).1=(6:Int))) then
  (if 0≤(IntKind.i64.wrap ((b.length:Int) - (2:Int)))∧(IntKind.i64.wrap ((b.length:Int) - (2:Int))) < (b.length:Int) then
  (if 0≤(IntKind.i64.wrap ((b.length:Int) - (2:Int)))∧(IntKind.i64.wrap ((b.length:Int) - (2:Int))) < (c.length:Int) then
  ((Zbm.g (b.getD ((IntKind.i64.wrap ((b.length:Int) - (2:Int)))).toNat ([]:Str)) (c.getD ((IntKind.i64.wrap ((b.length:Int) - (2:Int)))).toNat (0:Int)) ([(4:Int),(5:Int)]:List Int)).bind fun y3=>
  if y3.1.length+([32,42,32]:Str).length≤9223372036854775807 then
  (if 0≤(IntKind.i64.wrap ((IntKind.i64.wrap ((b.length:Int) - (2:Int)))+(1:Int)))∧(IntKind.i64.wrap ((IntKind.i64.wrap ((b.length:Int) - (2:Int)))+(1:Int))) < (b.length:Int) then
  (if 0≤(IntKind.i64.wrap ((IntKind.i64.wrap ((b.length:Int) - (2:Int)))+(1:Int)))∧(IntKind.i64.wrap ((IntKind.i64.wrap ((b.length:Int) - (2:Int)))+(1:Int))) < (c.length:Int) then
  ((Zbm.g (b.getD ((IntKind.i64.wrap ((IntKind.i64.wrap ((b.length:Int) - (2:Int)))+(1:Int)))).toNat ([]:Str)) (c.getD ((IntKind.i64.wrap ((IntKind.i64.wrap ((b.length:Int) - (2:Int)))+(1:Int)))).toNat (0:Int)) ([(4:Int),(5:Int),(6:Int)]:List Int)).bind fun y4=>
  if (y3.1++([32,42,32]:Str)).length+y4.1.length≤9223372036854775807 then
  (Zaf.j27 n (Zaf.l6 n m) a b c d (IntKind.i64.wrap ((b.length:Int) - (2:Int))) ((a.getD (d).toNat zI).1) ((y3.1++([32,42,32]:Str))++y4.1)) else none) else none) else none) else none) else none) else none)
  else
  (if (decide ((a.getD (d).toNat zI).1=(5:Int))) then
  (Zaf.j16 n (Zaf.l6 n m) a b c d (IntKind.i64.wrap ((b.length:Int) - (2:Int))) ((a.getD (d).toNat zI).1) ([32,45,32]:Str))
  else
  (Zaf.j16 n (Zaf.l6 n m) a b c d (IntKind.i64.wrap ((b.length:Int) - (2:Int))) ((a.getD (d).toNat zI).1) ([32,43,32]:Str))))))) else none)
  else
  (if 0≤(0:Int)∧(0:Int) < (b.length:Int) then (some ((b.getD ((0:Int)).toNat ([]:Str)),(0:Int),())) else none)
def f (n:Nat) (a:List It):Option (Str×Int×Unit):=
  (Zbq.g a).bind fun y1=>
  if (!y1.1) then (some (([]:Str),(23:Int),()))
  else
  (Zaf.l6 n n a ([]:List Str) ([]:List Int) (0:Int))
def g (a:List It):Option (Str×Int×Unit):=f (1000+a.length) a
end Zaf
namespace Zck
def l4 (n:Nat):Nat→(List It)→(List It)→Int→Option (Bool×Unit)
 | 0,_,_,_=>none
 | m+1,a,b,c=>
  if (decide (c < (a.length:Int))) then
  (if 0≤c∧c < (a.length:Int) then
  (if 0≤c∧c < (b.length:Int) then
  (if (!(decide ((a.getD (c).toNat zI).1=(b.getD (c).toNat zI).1) && (decide (((a.getD (c).toNat zI).2).1=((b.getD (c).toNat zI).2).1) && (decide ((((a.getD (c).toNat zI).2).2).1=(((b.getD (c).toNat zI).2).2).1) && true)))) then (some (false,()))
  else
  ((Zck.l4 n m) a b (IntKind.i64.wrap (c+(1:Int))))) else none) else none)
  else (some (true,()))
def f (n:Nat) (a:List It) (b:List It):Option (Bool×Unit):=
  if (decide ((a.length:Int)≠(b.length:Int))) then (some (false,()))
  else (Zck.l4 n n a b (0:Int))
def g (a:List It) (b:List It):Option (Bool×Unit):=f (1000+a.length+b.length) a b
end Zck
end Rv
namespace Rv
open Go
set_option maxRecDepth 100000
namespace Zbb
def f (n:Nat) (a:Bool) (b:List Tk) (c:Int) (d:Int):Option ((List Tk)×Int×Int×Unit):=
  if (!a) then
  (if (decide (d=(0:Int))) then (some (b,c,(22:Int),()))
  else (some (b,c,d,())))
  else (some (b,c,d,()))
def g (a:Bool) (b:List Tk) (c:Int) (d:Int):Option ((List Tk)×Int×Int×Unit):=f (1000+b.length+c.toNat+d.toNat) a b c d
end Zbb
namespace Zdd
def f (n:Nat) (a:Int):Option (Bool×Unit):=
  if (decide (a=(9:Int)))=false then (some ((decide (a=(10:Int))),()))
  else (some (true,()))
def g (a:Int):Option (Bool×Unit):=f (1000+a.toNat) a
end Zdd
namespace Zde
def f (n:Nat) (a:Int) (b:List Tk) (c:Int) (d:Int):Option (Str×(List Tk)×Int×Int×Unit):=
  if (decide (d≠(0:Int)))=false then
  (if (decide ((b.length:Int)≤c))=false then
  (if 0≤c∧c < (b.length:Int) then
  (if (decide ((b.getD (c).toNat zT).1≠a)) then (some (([]:Str),b,c,d,()))
  else
  (if 0≤c∧c < (b.length:Int) then
  (some ((((b.getD (c).toNat zT).2).2).1,b,c,d,())) else none)) else none)
  else (some (([]:Str),b,c,d,())))
  else (some (([]:Str),b,c,d,()))
def g (a:Int) (b:List Tk) (c:Int) (d:Int):Option (Str×(List Tk)×Int×Int×Unit):=f (1000+a.toNat+b.length+c.toNat+d.toNat) a b c d
end Zde
namespace Zcb
def f (n:Nat) (a:Int) (b:List Tk) (c:Int) (d:Int):Option (Str×(List Tk)×Int×Int×Unit):=
  (Zde.g a b c d).bind fun y1=>
  some (y1.1,y1.2.1,(IntKind.i64.wrap (y1.2.2.1+(1:Int))),y1.2.2.2.1,())
def g (a:Int) (b:List Tk) (c:Int) (d:Int):Option (Str×(List Tk)×Int×Int×Unit):=f (1000+a.toNat+b.length+c.toNat+d.toNat) a b c d
end Zcb
namespace Zdv
def f (n:Nat) (a:List Tk) (b:Int) (c:Int) (d:Int) (e:Int) (i:Int) (j:Int) (k:Int) (l:Bool) (o:List It) (p:Str):Option ((List Tk)×Int×Int×Int×Int×Int×Int×Int×Bool×(List It)×Str×Unit):=
  (Zde.g (1:Int) a b c).bind fun y1=>
  (Zci.g y1.1).bind fun y2=>
  if (decide (d=(1:Int))) then
  (if (!y2.2.1)=false then
  (if l then
  (if (decide (e=(0:Int))) then
  (some (y1.2.1,y1.2.2.1,y1.2.2.2.1,(2:Int),e,i,j,k,l,o,p,()))
  else
  (if (decide (d=(7:Int))) then
  (if y2.2.1 then
  (some (y1.2.1,y1.2.2.1,y1.2.2.2.1,(6:Int),e,i,j,k,l,o,p,()))
  else
  (some (y1.2.1,y1.2.2.1,y1.2.2.2.1,d,e,i,j,k,l,o,p,())))
  else
  (some (y1.2.1,y1.2.2.1,y1.2.2.2.1,d,e,i,j,k,l,o,p,()))))
  else
  (if (decide (d=(7:Int))) then
  (if y2.2.1 then
  (some (y1.2.1,y1.2.2.1,y1.2.2.2.1,(6:Int),e,i,j,k,l,o,p,()))
  else
  (some (y1.2.1,y1.2.2.1,y1.2.2.2.1,d,e,i,j,k,l,o,p,())))
  else
  (some (y1.2.1,y1.2.2.1,y1.2.2.2.1,d,e,i,j,k,l,o,p,()))))
  else
  (some (y1.2.1,y1.2.2.1,y1.2.2.2.1,(2:Int),e,i,j,k,l,o,p,())))
  else
  (if (decide (d=(7:Int))) then
  (if y2.2.1 then
  (some (y1.2.1,y1.2.2.1,y1.2.2.2.1,(6:Int),e,i,j,k,l,o,p,()))
  else
  (some (y1.2.1,y1.2.2.1,y1.2.2.2.1,d,e,i,j,k,l,o,p,())))
  else
  (some (y1.2.1,y1.2.2.1,y1.2.2.2.1,d,e,i,j,k,l,o,p,())))
def g (a:List Tk) (b:Int) (c:Int) (d:Int) (e:Int) (i:Int) (j:Int) (k:Int) (l:Bool) (o:List It) (p:Str):Option ((List Tk)×Int×Int×Int×Int×Int×Int×Int×Bool×(List It)×Str×Unit):=f (1000+a.length+b.toNat+c.toNat+d.toNat+e.toNat+i.toNat+j.toNat+k.toNat+o.length+p.length) a b c d e i j k l o p
end Zdv
namespace Zdj
def f (n:Nat) (a:Int) (b:Int) (c:Int) (d:Int) (e:Int) (i:Bool) (j:List It) (k:Str):Option (Unit×Int×Int×Int×Int×Int×Bool×(List It)×Str×Unit):=
  some ((),a,b,c,d,e,i,j,k,())
def g (a:Int) (b:Int) (c:Int) (d:Int) (e:Int) (i:Bool) (j:List It) (k:Str):Option (Unit×Int×Int×Int×Int×Int×Bool×(List It)×Str×Unit):=f (1000+a.toNat+b.toNat+c.toNat+d.toNat+e.toNat+j.length+k.length) a b c d e i j k
end Zdj
namespace Zdk
def f (n:Nat) (a:Int) (b:Int) (c:Int) (d:Int) (e:Int) (i:Bool) (j:List It) (k:Str):Option (Unit×Int×Int×Int×Int×Int×Bool×(List It)×Str×Unit):=
  some ((),a,b,c,d,e,i,j,k,())
def g (a:Int) (b:Int) (c:Int) (d:Int) (e:Int) (i:Bool) (j:List It) (k:Str):Option (Unit×Int×Int×Int×Int×Int×Bool×(List It)×Str×Unit):=f (1000+a.toNat+b.toNat+c.toNat+d.toNat+e.toNat+j.length+k.length) a b c d e i j k
end Zdk
namespace Zdl
def f (n:Nat) (a:Int) (b:Int) (c:Int) (d:Int) (e:Int) (i:Bool) (j:List It) (k:Str):Option (Unit×Int×Int×Int×Int×Int×Bool×(List It)×Str×Unit):=
  some ((),a,b,c,d,e,i,j,k,())
def g (a:Int) (b:Int) (c:Int) (d:Int) (e:Int) (i:Bool) (j:List It) (k:Str):Option (Unit×Int×Int×Int×Int×Int×Bool×(List It)×Str×Unit):=f (1000+a.toNat+b.toNat+c.toNat+d.toNat+e.toNat+j.length+k.length) a b c d e i j k
end Zdl
namespace Zdf
def f (n:Nat) (a:Fn) (b:List Tk) (c:Int) (d:Int) (e:Int) (i:Int) (j:Int) (k:Int) (l:Int) (o:Bool) (p:List It) (q:Str):Option ((List Tk)×Int×Int×Int×Int×Int×Int×Int×Bool×(List It)×Str×Unit):=
  (Zcb.g (1:Int) b c d).bind fun y1=>
  (Zci.g y1.1).bind fun y2=>
  (Zbb.g y2.2.1 y1.2.1 y1.2.2.1 y1.2.2.2.1).bind fun y3=>
  if a=K.atA then ((Zdj.g e i j k l o p q).bind fun y4=>
  some (y3.1,y3.2.1,y3.2.2.1,y4.2.1,y4.2.2.1,y2.1,y4.2.2.2.2.1,y4.2.2.2.2.2.1,y4.2.2.2.2.2.2.1,y4.2.2.2.2.2.2.2.1,y4.2.2.2.2.2.2.2.2.1,()))
  else if a=K.atB then ((Zdk.g e i j k l o p q).bind fun y5=>
  some (y3.1,y3.2.1,y3.2.2.1,y5.2.1,y5.2.2.1,y5.2.2.2.1,y2.1,y5.2.2.2.2.2.1,y5.2.2.2.2.2.2.1,y5.2.2.2.2.2.2.2.1,y5.2.2.2.2.2.2.2.2.1,()))
  else if a=K.atC then ((Zdl.g e i j k l o p q).bind fun y6=>
  some (y3.1,y3.2.1,y3.2.2.1,y6.2.1,y6.2.2.1,y6.2.2.2.1,y6.2.2.2.2.1,y2.1,y6.2.2.2.2.2.2.1,y6.2.2.2.2.2.2.2.1,y6.2.2.2.2.2.2.2.2.1,()))
  else none
def g (a:Fn) (b:List Tk) (c:Int) (d:Int) (e:Int) (i:Int) (j:Int) (k:Int) (l:Int) (o:Bool) (p:List It) (q:Str):Option ((List Tk)×Int×Int×Int×Int×Int×Int×Int×Bool×(List It)×Str×Unit):=f (1000+b.length+c.toNat+d.toNat+e.toNat+i.toNat+j.toNat+k.toNat+l.toNat+p.length+q.length) a b c d e i j k l o p q
end Zdf
namespace Zbr
def j2 (n:Nat) (a:List Tk) (b:Int) (c:Int) (d:Int) (e:Int) (i:Int) (j:Int) (k:Int) (l:Bool) (o:List It) (p:Str):Option ((List Tk)×Int×Int×Int×Int×Int×Int×Int×Bool×(List It)×Str×Unit):=
  if (decide (c=(0:Int))) then
  ((Zbz.g a b).bind fun y1=>
  some (a,y1.2.1,y1.2.2.1,d,e,i,j,k,l,y1.1,p,()))
  else (some (a,b,c,d,e,i,j,k,l,o,p,()))
def f (n:Nat) (a:Str) (b:List Tk) (c:Int) (d:Int) (e:Int) (i:Int) (j:Int) (k:Int) (l:Int) (o:Bool) (p:List It) (q:Str):Option ((List Tk)×Int×Int×Int×Int×Int×Int×Int×Bool×(List It)×Str×Unit):=
  if (!(decide (a=([]:Str)))) then
  ((Zcb.g (3:Int) b c d).bind fun y1=>
  (Zbb.g (decide (y1.1=a)) y1.2.1 y1.2.2.1 y1.2.2.2.1).bind fun y2=>
  Zbr.j2 n y2.1 y2.2.1 y2.2.2.1 e i j k l o p q)
  else (Zbr.j2 n b c d e i j k l o p q)
def g (a:Str) (b:List Tk) (c:Int) (d:Int) (e:Int) (i:Int) (j:Int) (k:Int) (l:Int) (o:Bool) (p:List It) (q:Str):Option ((List Tk)×Int×Int×Int×Int×Int×Int×Int×Bool×(List It)×Str×Unit):=f (1000+a.length+b.length+c.toNat+d.toNat+e.toNat+i.toNat+j.toNat+k.toNat+l.toNat+p.length+q.length) a b c d e i j k l o p q
end Zbr
namespace Zcf
def j4 (n:Nat) (a:Int) (b:Bool):Option (Bool×Unit):=
  if (!b) then
  (if (decide (a=(95:Int)))=false then
  (if (decide ((48:Int)≤a)) then (some ((decide (a≤(57:Int))),()))
  else (some (false,())))
  else (some (true,())))
  else (some (false,()))
def f (n:Nat) (a:Int) (b:Bool):Option (Bool×Unit):=
  if (decide ((65:Int)≤a)) then
  (if (decide (a≤(90:Int))) then
  (if (decide (a≤(90:Int))) then (some (true,()))
  else (Zcf.j4 n a b))
  else
  (if (decide ((97:Int)≤a)) then
  (if (decide (a≤(122:Int))) then (some (true,()))
  else (Zcf.j4 n a b))
  else (Zcf.j4 n a b)))
  else
  (if (decide ((97:Int)≤a)) then
  (if (decide (a≤(122:Int))) then (some (true,()))
  else (Zcf.j4 n a b))
  else (Zcf.j4 n a b))
def g (a:Int) (b:Bool):Option (Bool×Unit):=f (1000+a.toNat) a b
end Zcf
namespace Zba
def l4 (n:Nat):Nat→Str→Int→Int→Option (Bool×Unit)
 | 0,_,_,_=>none
 | m+1,a,b,c=>
  if (decide (c < b)) then
  (if 0≤c∧c < (a.length:Int) then
  ((Zcf.g (bt a c) (decide (c=(0:Int)))).bind fun y1=>
  if (!y1.1) then (some (false,()))
  else ((Zba.l4 n m) a b (IntKind.i64.wrap (c+(1:Int))))) else none)
  else
  (if 0≤(0:Int)∧(0:Int) < (a.length:Int) then
  (if (decide ((bt a (0:Int))=(82:Int))) then
  (if (decide ((a.length:Int)=(2:Int)))=false then
  (if (decide ((a.length:Int)=(3:Int))) then
  (if 0≤(1:Int)∧(1:Int)≤(a.length:Int) then
  ((L.trimO ((a.take (((a.length:Int)).toNat)).drop (((1:Int)).toNat)) ([48,49,50,51,52,53,54,55,56,57]:Str)).bind fun y2=>
  some ((!(decide (y2.1=([]:Str)))),())) else none)
  else (some (true,())))
  else
  (if 0≤(1:Int)∧(1:Int)≤(a.length:Int) then
  ((L.trimO ((a.take (((a.length:Int)).toNat)).drop (((1:Int)).toNat)) ([48,49,50,51,52,53,54,55,56,57]:Str)).bind fun y3=>
  some ((!(decide (y3.1=([]:Str)))),())) else none))
  else (some (true,()))) else none)
def f (n:Nat) (a:Str):Option (Bool×Unit):=
  if (decide ((a.length:Int)=(0:Int)))=false then
  (if (decide ((12:Int) < (a.length:Int))) then (some (false,()))
  else (Zba.l4 n n a (a.length:Int) (0:Int)))
  else (some (false,()))
def g (a:Str):Option (Bool×Unit):=f (1000+a.length) a
end Zba
namespace Zdw
def f (n:Nat) (a:List Tk) (b:Int) (c:Int) (d:Int) (e:Int) (i:Int) (j:Int) (k:Int) (l:Bool) (o:List It) (p:Str):Option ((List Tk)×Int×Int×Int×Int×Int×Int×Int×Bool×(List It)×Str×Unit):=
  (Zcb.g (1:Int) a b c).bind fun y1=>
  (Zba.g y1.1).bind fun y2=>
  (Zbb.g y2.1 y1.2.1 y1.2.2.1 y1.2.2.2.1).bind fun y3=>
  some (y3.1,y3.2.1,y3.2.2.1,d,e,i,j,k,l,o,y1.1,())
def g (a:List Tk) (b:Int) (c:Int) (d:Int) (e:Int) (i:Int) (j:Int) (k:Int) (l:Bool) (o:List It) (p:Str):Option ((List Tk)×Int×Int×Int×Int×Int×Int×Int×Bool×(List It)×Str×Unit):=f (1000+a.length+b.toNat+c.toNat+d.toNat+e.toNat+i.toNat+j.toNat+k.toNat+o.length+p.length) a b c d e i j k l o p
end Zdw
namespace Zab
def j20 (n:Nat) (rl13:(List Tk)→Str→Int→Int→Int→Int→Int→Int→Int→Int→Int→Bool→(List It)→Str→(List Tk)→Int→Int→Option (Str×Int×Int×Int×Int×Int×Bool×(List It)×Str×Int×Unit)) (a:List Tk) (b:Str) (c:Int) (d:Int) (e:Int) (i:Int) (j:Int) (k:Int) (l:Int) (o:Int) (p:Int) (q:Bool) (r:List It) (s:Str) (t:List Tk) (u:Int) (v:Int):Option (Str×Int×Int×Int×Int×Int×Bool×(List It)×Str×Int×Unit):=
  rl13 a b c d e (IntKind.i64.wrap (i+(1:Int))) j k l o p q r s t u v
def j19 (n:Nat) (rl13:(List Tk)→Str→Int→Int→Int→Int→Int→Int→Int→Int→Int→Bool→(List It)→Str→(List Tk)→Int→Int→Option (Str×Int×Int×Int×Int×Int×Bool×(List It)×Str×Int×Unit)) (a:List Tk) (b:Str) (c:Int) (d:Int) (e:Int) (i:Int) (j:Int) (k:Int) (l:Int) (o:Int) (p:Int) (q:Int) (r:Bool) (s:List It) (t:Str) (u:List Tk) (v:Int) (w:Int):Option (Str×Int×Int×Int×Int×Int×Bool×(List It)×Str×Int×Unit):=
  if 0≤e∧e < ((L.opsR k c).length:Int) then
  (if ((L.opsR k c).getD (e).toNat (((0,[]):Fn),(((0,[]):Fn),()))).1=K.rdA then ((Zdf.g K.atA u v w k l o p q r s t).bind fun y2=>
  Zab.j20 n rl13 a b c d i j y2.2.2.2.1 y2.2.2.2.2.1 y2.2.2.2.2.2.1 y2.2.2.2.2.2.2.1 y2.2.2.2.2.2.2.2.1 y2.2.2.2.2.2.2.2.2.1 y2.2.2.2.2.2.2.2.2.2.1 y2.2.2.2.2.2.2.2.2.2.2.1 y2.1 y2.2.1 y2.2.2.1)
  else if ((L.opsR k c).getD (e).toNat (((0,[]):Fn),(((0,[]):Fn),()))).1=K.rdB then ((Zdf.g K.atB u v w k l o p q r s t).bind fun y3=>
  Zab.j20 n rl13 a b c d i j y3.2.2.2.1 y3.2.2.2.2.1 y3.2.2.2.2.2.1 y3.2.2.2.2.2.2.1 y3.2.2.2.2.2.2.2.1 y3.2.2.2.2.2.2.2.2.1 y3.2.2.2.2.2.2.2.2.2.1 y3.2.2.2.2.2.2.2.2.2.2.1 y3.1 y3.2.1 y3.2.2.1)
  else if ((L.opsR k c).getD (e).toNat (((0,[]):Fn),(((0,[]):Fn),()))).1=K.rdC then ((Zdf.g K.atC u v w k l o p q r s t).bind fun y4=>
  Zab.j20 n rl13 a b c d i j y4.2.2.2.1 y4.2.2.2.2.1 y4.2.2.2.2.2.1 y4.2.2.2.2.2.2.1 y4.2.2.2.2.2.2.2.1 y4.2.2.2.2.2.2.2.2.1 y4.2.2.2.2.2.2.2.2.2.1 y4.2.2.2.2.2.2.2.2.2.2.1 y4.1 y4.2.1 y4.2.2.1)
  else if ((L.opsR k c).getD (e).toNat (((0,[]):Fn),(((0,[]):Fn),()))).1=K.rdE then ((Zbr.g ([]:Str) u v w k l o p q r s t).bind fun y5=>
  Zab.j20 n rl13 a b c d i j y5.2.2.2.1 y5.2.2.2.2.1 y5.2.2.2.2.2.1 y5.2.2.2.2.2.2.1 y5.2.2.2.2.2.2.2.1 y5.2.2.2.2.2.2.2.2.1 y5.2.2.2.2.2.2.2.2.2.1 y5.2.2.2.2.2.2.2.2.2.2.1 y5.1 y5.2.1 y5.2.2.1)
  else if ((L.opsR k c).getD (e).toNat (((0,[]):Fn),(((0,[]):Fn),()))).1=K.rdQ then ((Zbr.g ([61]:Str) u v w k l o p q r s t).bind fun y6=>
  Zab.j20 n rl13 a b c d i j y6.2.2.2.1 y6.2.2.2.2.1 y6.2.2.2.2.2.1 y6.2.2.2.2.2.2.1 y6.2.2.2.2.2.2.2.1 y6.2.2.2.2.2.2.2.2.1 y6.2.2.2.2.2.2.2.2.2.1 y6.2.2.2.2.2.2.2.2.2.2.1 y6.1 y6.2.1 y6.2.2.1)
  else if ((L.opsR k c).getD (e).toNat (((0,[]):Fn),(((0,[]):Fn),()))).1=K.rdN then ((Zdw.g u v w k l o p q r s t).bind fun y7=>
  Zab.j20 n rl13 a b c d i j y7.2.2.2.1 y7.2.2.2.2.1 y7.2.2.2.2.2.1 y7.2.2.2.2.2.2.1 y7.2.2.2.2.2.2.2.1 y7.2.2.2.2.2.2.2.2.1 y7.2.2.2.2.2.2.2.2.2.1 y7.2.2.2.2.2.2.2.2.2.2.1 y7.1 y7.2.1 y7.2.2.1)
  else none) else none
def j17 (n:Nat) (rl13:(List Tk)→Str→Int→Int→Int→Int→Int→Int→Int→Int→Int→Bool→(List It)→Str→(List Tk)→Int→Int→Option (Str×Int×Int×Int×Int×Int×Bool×(List It)×Str×Int×Unit)) (a:List Tk) (b:Str) (c:Int) (d:Int) (e:Int) (i:Int) (j:Int) (k:Int) (l:Int) (o:Int) (p:Int) (q:Int) (r:Bool) (s:List It) (t:Str) (u:List Tk) (v:Int) (w:Int):Option (Str×Int×Int×Int×Int×Int×Bool×(List It)×Str×Int×Unit):=
  if (decide (e=(IntKind.i64.wrap (d - (1:Int))))) then
  ((Zdv.g u v w k l o p q r s t).bind fun y1=>
  Zab.j19 n rl13 a b c d e i j y1.2.2.2.1 y1.2.2.2.2.1 y1.2.2.2.2.2.1 y1.2.2.2.2.2.2.1 y1.2.2.2.2.2.2.2.1 y1.2.2.2.2.2.2.2.2.1 y1.2.2.2.2.2.2.2.2.2.1 y1.2.2.2.2.2.2.2.2.2.2.1 y1.1 y1.2.1 y1.2.2.1)
  else (Zab.j19 n rl13 a b c d e i j k l o p q r s t u v w)
def j22 (n:Nat) (a:Str) (b:Int) (c:Int) (d:Int) (e:Int) (i:Int) (j:Bool) (k:List It) (l:Str) (o:List Tk) (p:Int) (q:Int):Option (Str×Int×Int×Int×Int×Int×Bool×(List It)×Str×Int×Unit):=
  if (decide (q≠(0:Int))) then
  (some (([]:Str),0,0,0,0,0,false,[],([]:Str),q,()))
  else (some (a,b,c,d,e,i,j,k,l,(0:Int),()))
def l13 (n:Nat):Nat→(List Tk)→Str→Int→Int→Int→Int→Int→Int→Int→Int→Int→Bool→(List It)→Str→(List Tk)→Int→Int→Option (Str×Int×Int×Int×Int×Int×Bool×(List It)×Str×Int×Unit)
 | 0,_,_,_,_,_,_,_,_,_,_,_,_,_,_,_,_,_=>none
 | m+1,a,b,c,d,e,i,j,k,l,o,p,q,r,s,t,u,v=>
  if (decide (i < e)) then
  (if (decide ((0:Int) < i)) then
  ((Zcb.g (3:Int) t u v).bind fun y1=>
  (Zbb.g (decide (y1.1=([44]:Str))) y1.2.1 y1.2.2.1 y1.2.2.2.1).bind fun y2=>
  Zab.j17 n (Zab.l13 n m) a b c d i e i j k l o p q r s y2.1 y2.2.1 y2.2.2.1)
  else
  (Zab.j17 n (Zab.l13 n m) a b c d i e i j k l o p q r s t u v))
  else
  ((Zbb.g (decide ((a.length:Int)≤u)) t u v).bind fun y3=>
  Zab.j22 n b j k l o p q r s y3.1 y3.2.1 y3.2.2.1)
def j9 (n:Nat) (a:List Tk) (b:Str) (c:Int) (d:Int) (e:Bool) (i:Int) (j:Int) (k:Int) (l:Int) (o:Int) (p:Bool) (q:List It) (r:Str) (s:List Tk) (t:Int) (u:Int):Option (Str×Int×Int×Int×Int×Int×Bool×(List It)×Str×Int×Unit):=
  Zab.l13 n n a b d ((L.opsR c d).length:Int) ((L.opsR c d).length:Int) (0:Int) c d 0 0 0 e ([]) ([]:Str) s (IntKind.i64.wrap (t+(1:Int))) u
def j5 (n:Nat) (a:List Tk) (b:Str) (c:Int) (d:Int) (e:Int) (i:Int) (j:Int) (k:Bool) (l:List It) (o:Str) (p:List Tk) (q:Int) (r:Int):Option (Str×Int×Int×Int×Int×Int×Bool×(List It)×Str×Int×Unit):=
  if (decide (r=(0:Int))) then
  (if (decide (q < (a.length:Int))) then
  (if 0≤q∧q < (a.length:Int) then
  ((L.nameOfO ((((a.getD (q).toNat zT).2).2).1)).bind fun y1=>
  if y1.2.2.2.1 then
  ((Zdd.g y1.1).bind fun y2=>
  if ((decide ((a.getD (q).toNat zT).1=(4:Int))) == y2.1) then
  (if (decide ((a.getD (q).toNat zT).1=(4:Int)))=false then
  ((Zbb.g (decide ((a.getD (q).toNat zT).1=(1:Int))) p q r).bind fun y3=>
  Zab.j9 n a b y1.1 y1.2.1 y1.2.2.1 c d e i j k l o y3.1 y3.2.1 y3.2.2.1)
  else
  ((Zbb.g true p q r).bind fun y4=>
  Zab.j9 n a b y1.1 y1.2.1 y1.2.2.1 c d e i j k l o y4.1 y4.2.1 y4.2.2.1))
  else
  ((Zbb.g false p q r).bind fun y5=>
  Zab.j9 n a b y1.1 y1.2.1 y1.2.2.1 c d e i j k l o y5.1 y5.2.1 y5.2.2.1))
  else
  ((Zbb.g false p q r).bind fun y6=>
  Zab.j9 n a b y1.1 y1.2.1 y1.2.2.1 c d e i j k l o y6.1 y6.2.1 y6.2.2.1)) else none)
  else (Zab.j22 n b c d e i j k l o p q r))
  else (Zab.j22 n b c d e i j k l o p q r)
def f (n:Nat) (a:List Tk):Option (Str×Int×Int×Int×Int×Int×Bool×(List It)×Str×Int×Unit):=
  if (decide ((1:Int) < (a.length:Int))) then
  (if 0≤(0:Int)∧(0:Int) < (a.length:Int) then
  (if (decide ((a.getD ((0:Int)).toNat zT).1=(1:Int))) then
  (if 0≤(1:Int)∧(1:Int) < (a.length:Int) then
  (if (decide ((a.getD ((1:Int)).toNat zT).1=(3:Int))) then
  (if 0≤(1:Int)∧(1:Int) < (a.length:Int) then
  (if (decide ((((a.getD ((1:Int)).toNat zT).2).2).1=([58]:Str))) then
  (if 0≤(0:Int)∧(0:Int) < (a.length:Int) then
  ((Zae.g ((((a.getD ((0:Int)).toNat zT).2).2).1)).bind fun y1=>
  (Zbb.g y1.1 a (2:Int) 0).bind fun y2=>
  Zab.j5 n a ((((a.getD ((0:Int)).toNat zT).2).2).1) 0 0 0 0 0 false ([]) ([]:Str) y2.1 y2.2.1 y2.2.2.1) else none)
  else
  (Zab.j5 n a ([]:Str) 0 0 0 0 0 false ([]) ([]:Str) a 0 0)) else none)
  else
  (Zab.j5 n a ([]:Str) 0 0 0 0 0 false ([]) ([]:Str) a 0 0)) else none)
  else
  (Zab.j5 n a ([]:Str) 0 0 0 0 0 false ([]) ([]:Str) a 0 0)) else none)
  else
  (Zab.j5 n a ([]:Str) 0 0 0 0 0 false ([]) ([]:Str) a 0 0)
def g (a:List Tk):Option (Str×Int×Int×Int×Int×Int×Bool×(List It)×Str×Int×Unit):=f (1000+a.length) a
end Zab
namespace Zdm
def f (n:Nat) (a:Int):Option (Bool×Unit):=
  if (decide (a=(2:Int))) then
  (if (decide (a=(2:Int))) then (some (true,()))
  else (some (false,())))
  else
  (if (decide (a=(5:Int))) then
  (if (decide (a=(5:Int))) then (some (true,()))
  else (some (false,())))
  else
  (if (decide (a=(7:Int))) then
  (if (decide (a=(7:Int))) then (some (true,()))
  else (some (false,())))
  else
  (if (decide (a=(8:Int))) then
  (if (decide (a=(8:Int))) then (some (true,()))
  else (some (false,())))
  else
  (if (decide (a=(9:Int))) then (some (true,()))
  else (some (false,()))))))
def g (a:Int):Option (Bool×Unit):=f (1000+a.toNat) a
end Zdm
namespace Zdg
def f (n:Nat) (a:Int) (b:Int) (c:Int):Option (Bool×Unit):=
  if (decide (b≤a)) then (some ((decide (a≤c)),()))
  else (some (false,()))
def g (a:Int) (b:Int) (c:Int):Option (Bool×Unit):=f (1000+a.toNat+b.toNat+c.toNat) a b c
end Zdg
namespace Zel
def f (n:Nat) (a:Bool):Option (Int×Unit):=
  if a then (some ((1:Int),()))
  else (some ((0:Int),()))
def g (a:Bool):Option (Int×Unit):=f (1000) a
end Zel
namespace Zbs
def f (n:Nat) (a:Int) (b:Bool) (c:Bool):Option (Int×Int×Int×Unit):=
  (Zel.g b).bind fun y1=>
  (Zel.g c).bind fun y2=>
  some ((28:Int),(4:Int),(bitsI .or .i64 (bitsI .or .i64 (IntKind.i64.wrap (a * 2 ^ (min (2:Int).toNat IntKind.i64.bits))) (IntKind.i64.wrap ((IntKind.i64.wrap y1.1) * 2 ^ (min (1:Int).toNat IntKind.i64.bits)))) (IntKind.i64.wrap y2.1)),())
def g (a:Int) (b:Bool) (c:Bool):Option (Int×Int×Int×Unit):=f (1000+a.toNat) a b c
end Zbs
namespace Zdx
def f (n:Nat) (a:Int) (b:Int) (c:Int) (d:Int):Option (Int×Int×Unit):=
  if a < 0 then none else
  (if b < 0 then none else
  (if a < 0 then none else
  (some ((bitsI .or .u32 (bitsI .andNot .u32 c (IntKind.u32.wrap ((1:Int) * 2 ^ (min a.toNat IntKind.u32.bits)))) (IntKind.u32.wrap ((bitsI .and .u32 ((d).fdiv (2 ^ (min b.toNat IntKind.u32.bits))) (1:Int)) * 2 ^ (min a.toNat IntKind.u32.bits)))),d,()))))
def g (a:Int) (b:Int) (c:Int) (d:Int):Option (Int×Int×Unit):=f (1000+a.toNat+b.toNat+c.toNat+d.toNat) a b c d
end Zdx
namespace Zcx
def l2 (n:Nat):Nat→Int→Int→Int→Int→Int→Option (Int×Int×Unit)
 | 0,_,_,_,_,_=>none
 | m+1,a,b,c,d,e=>
  if (decide (c < (32:Int))) then
  (if (decide ((IntKind.i64.wrap (c - a)) < b)) then
  ((Zdx.g c (IntKind.i64.wrap (c - a)) d e).bind fun y1=>
  (Zcx.l2 n m) a b (IntKind.i64.wrap (c+(1:Int))) y1.1 y1.2.1)
  else (some (d,e,())))
  else (some (d,e,()))
def f (n:Nat) (a:Int) (b:Int) (c:Int) (d:Int):Option (Int×Int×Unit):=
  if (decide (b < (1:Int)))=false then
  (if (decide ((32:Int)≤a))=false then
  (if (decide (a≤(IntKind.i64.wrap (0 - b)))) then (some (c,d,()))
  else (Zcx.l2 n n a b (mx a (0:Int)) c d))
  else (some (c,d,())))
  else (some (c,d,()))
def g (a:Int) (b:Int) (c:Int) (d:Int):Option (Int×Int×Unit):=f (1000+a.toNat+b.toNat+c.toNat+d.toNat) a b c d
end Zcx
namespace Zdy
def f (n:Nat) (a:Int) (b:Int) (c:Int) (d:Int):Option (Int×Unit):=
  (Zcx.g b c a d).bind fun y1=>
  some (y1.1,())
def g (a:Int) (b:Int) (c:Int) (d:Int):Option (Int×Unit):=f (1000+a.toNat+b.toNat+c.toNat+d.toNat) a b c d
end Zdy
namespace Zaw
def l3 (n:Nat):Nat→Int→(List (Int×Int×Int×Unit))→Int→Int→Option (Int×Unit)
 | 0,_,_,_,_=>none
 | m+1,a,b,c,d=>
  if (decide (d < c)) then
  (if 0≤d∧d < (b.length:Int) then
  (if 0≤(0:Int)∧(0:Int) < (3:Int) then
  (if 0≤(1:Int)∧(1:Int) < (3:Int) then
  (if 0≤(2:Int)∧(2:Int) < (3:Int) then
  ((Zdy.g a ([(b.getD (d).toNat ((0:Int),((0:Int),((0:Int),())))).1,((b.getD (d).toNat ((0:Int),((0:Int),((0:Int),())))).2).1,(((b.getD (d).toNat ((0:Int),((0:Int),((0:Int),())))).2).2).1].getD ((0:Int)).toNat 0) ([(b.getD (d).toNat ((0:Int),((0:Int),((0:Int),())))).1,((b.getD (d).toNat ((0:Int),((0:Int),((0:Int),())))).2).1,(((b.getD (d).toNat ((0:Int),((0:Int),((0:Int),())))).2).2).1].getD ((1:Int)).toNat 0) (IntKind.u32.wrap ([(b.getD (d).toNat ((0:Int),((0:Int),((0:Int),())))).1,((b.getD (d).toNat ((0:Int),((0:Int),((0:Int),())))).2).1,(((b.getD (d).toNat ((0:Int),((0:Int),((0:Int),())))).2).2).1].getD ((2:Int)).toNat 0))).bind fun y1=>
  (Zaw.l3 n m) y1.1 b c (IntKind.i64.wrap (d+(1:Int)))) else none) else none) else none) else none)
  else (some (a,()))
def f (n:Nat) (a:List (Int×Int×Int×Unit)):Option (Int×Unit):=
  Zaw.l3 n n (0:Int) a (a.length:Int) (0:Int)
def g (a:List (Int×Int×Int×Unit)):Option (Int×Unit):=f (1000+a.length) a
end Zaw
namespace Zcl
def j14 (n:Nat) (a:Int) (b:Int) (c:Int) (d:Int) (e:Int) (i:Int) (j:Bool) (k:Int) (l:Int) (o:Int):Option (Int×Unit):=
  (Zbs.g (3:Int) true j).bind fun y1=>
  (Zaw.g ([(y1.1,y1.2.1,y1.2.2.1,()),(k,l,o,()),((0:Int),(24:Int),i,())]:List (Int×Int×Int×Unit))).bind fun y2=>
  some (y2.1,())
def f (n:Nat) (a:Int) (b:Int) (c:Int) (d:Int) (e:Int) (i:Int) (j:Bool):Option (Int×Unit):=
  if (decide (a=(1:Int))) then
  ((Zbs.g (0:Int) j false).bind fun y1=>
  (Zaw.g ([(y1.1,y1.2.1,y1.2.2.1,()),((24:Int),(4:Int),c,()),((20:Int),(4:Int),d,()),((16:Int),(4:Int),b,()),((0:Int),(4:Int),e,())]:List (Int×Int×Int×Unit))).bind fun y2=>
  some (y2.1,()))
  else
  (if (decide (a=(3:Int))) then
  (if (decide (a=(3:Int))) then
  ((Zbs.g (0:Int) true (decide (a=(4:Int)))).bind fun y3=>
  (Zaw.g ([(y3.1,y3.2.1,y3.2.2.1,()),((24:Int),(4:Int),c,())]:List (Int×Int×Int×Unit))).bind fun y4=>
  some (y4.1,()))
  else
  (if (decide (a=(2:Int))) then
  ((Zbs.g (1:Int) j (decide (i < (0:Int)))).bind fun y5=>
  (Zaw.g ([(y5.1,y5.2.1,y5.2.2.1,()),((24:Int),(4:Int),c,()),((20:Int),(4:Int),d,()),((16:Int),(4:Int),b,()),((0:Int),(16:Int),i,())]:List (Int×Int×Int×Unit))).bind fun y6=>
  some (y6.1,()))
  else
  (if (decide (a=(5:Int))) then
  ((Zbs.g (2:Int) (decide ((2:Int)≤b)) (decide ((Int.tmod b (2:Int))=(1:Int)))).bind fun y7=>
  (Zaw.g ([(y7.1,y7.2.1,y7.2.2.1,()),((24:Int),(4:Int),c,()),((20:Int),(4:Int),d,()),((0:Int),(20:Int),i,())]:List (Int×Int×Int×Unit))).bind fun y8=>
  some (y8.1,()))
  else
  (if (decide (a=(6:Int))) then
  ((Zbs.g (3:Int) false j).bind fun y9=>
  (Zaw.g ([(y9.1,y9.2.1,y9.2.2.1,()),((24:Int),(4:Int),b,()),((0:Int),(4:Int),e,())]:List (Int×Int×Int×Unit))).bind fun y10=>
  some (y10.1,()))
  else (Zcl.j14 n a b c d e i j (24:Int) (4:Int) b)))))
  else
  (if (decide (a=(4:Int))) then
  ((Zbs.g (0:Int) true (decide (a=(4:Int)))).bind fun y11=>
  (Zaw.g ([(y11.1,y11.2.1,y11.2.2.1,()),((24:Int),(4:Int),c,())]:List (Int×Int×Int×Unit))).bind fun y12=>
  some (y12.1,()))
  else
  (if (decide (a=(2:Int))) then
  ((Zbs.g (1:Int) j (decide (i < (0:Int)))).bind fun y13=>
  (Zaw.g ([(y13.1,y13.2.1,y13.2.2.1,()),((24:Int),(4:Int),c,()),((20:Int),(4:Int),d,()),((16:Int),(4:Int),b,()),((0:Int),(16:Int),i,())]:List (Int×Int×Int×Unit))).bind fun y14=>
  some (y14.1,()))
  else
  (if (decide (a=(5:Int))) then
  ((Zbs.g (2:Int) (decide ((2:Int)≤b)) (decide ((Int.tmod b (2:Int))=(1:Int)))).bind fun y15=>
  (Zaw.g ([(y15.1,y15.2.1,y15.2.2.1,()),((24:Int),(4:Int),c,()),((20:Int),(4:Int),d,()),((0:Int),(20:Int),i,())]:List (Int×Int×Int×Unit))).bind fun y16=>
  some (y16.1,()))
  else
  (if (decide (a=(6:Int))) then
  ((Zbs.g (3:Int) false j).bind fun y17=>
  (Zaw.g ([(y17.1,y17.2.1,y17.2.2.1,()),((24:Int),(4:Int),b,()),((0:Int),(4:Int),e,())]:List (Int×Int×Int×Unit))).bind fun y18=>
  some (y18.1,()))
  else (Zcl.j14 n a b c d e i j (24:Int) (4:Int) b))))))
def g (a:Int) (b:Int) (c:Int) (d:Int) (e:Int) (i:Int) (j:Bool):Option (Int×Unit):=f (1000+a.toNat+b.toNat+c.toNat+d.toNat+e.toNat+i.toNat) a b c d e i j
end Zcl
namespace Zdz
def f (n:Nat) (a:Int) (b:Int) (c:Int) (d:Int):Option (Int×Int×Unit):=
  if a < 0 then none else
  (if b < 0 then none else
  (some ((bitsI .or .u32 c (IntKind.u32.wrap ((bitsI .and .u32 ((d).fdiv (2 ^ (min a.toNat IntKind.u32.bits))) (1:Int)) * 2 ^ (min b.toNat IntKind.u32.bits)))),d,())))
def g (a:Int) (b:Int) (c:Int) (d:Int):Option (Int×Int×Unit):=f (1000+a.toNat+b.toNat+c.toNat+d.toNat) a b c d
end Zdz
namespace Zcy
def l2 (n:Nat):Nat→Int→Int→Int→Int→Int→Option (Int×Int×Unit)
 | 0,_,_,_,_,_=>none
 | m+1,a,b,c,d,e=>
  if (decide (c < (32:Int))) then
  (if (decide ((IntKind.i64.wrap (c - a)) < b)) then
  ((Zdz.g c (IntKind.i64.wrap (c - a)) d e).bind fun y1=>
  (Zcy.l2 n m) a b (IntKind.i64.wrap (c+(1:Int))) y1.1 y1.2.1)
  else (some (d,e,())))
  else (some (d,e,()))
def f (n:Nat) (a:Int) (b:Int) (c:Int) (d:Int):Option (Int×Int×Unit):=
  if (decide (b < (1:Int)))=false then
  (if (decide ((32:Int)≤a))=false then
  (if (decide (a≤(IntKind.i64.wrap (0 - b)))) then (some (c,d,()))
  else (Zcy.l2 n n a b (mx a (0:Int)) c d))
  else (some (c,d,())))
  else (some (c,d,()))
def g (a:Int) (b:Int) (c:Int) (d:Int):Option (Int×Int×Unit):=f (1000+a.toNat+b.toNat+c.toNat+d.toNat) a b c d
end Zcy
namespace Zea
def f (n:Nat) (a:Int) (b:Int) (c:Int):Option (Int×Unit):=
  (Zcy.g b c 0 a).bind fun y1=>
  some (y1.1,())
def g (a:Int) (b:Int) (c:Int):Option (Int×Unit):=f (1000+a.toNat+b.toNat+c.toNat) a b c
end Zea
namespace Zbc
def f (n:Nat) (a:Int) (b:Int) (c:Int):Option (Int×Unit):=
  (Zea.g c a b).bind fun y1=>
  some ((IntKind.i64.wrap y1.1),())
def g (a:Int) (b:Int) (c:Int):Option (Int×Unit):=f (1000+a.toNat+b.toNat+c.toNat) a b c
end Zbc
namespace Zeh
def f (n:Nat) (a:Int):Option (Int×Unit):=
  some ((mn (mx a (1:Int)) (32:Int)),())
def g (a:Int):Option (Int×Unit):=f (1000+a.toNat) a
end Zeh
namespace Zdn
def f (n:Nat) (a:Int) (b:Int):Option (Int×Unit):=
  (Zeh.g b).bind fun y1=>
  if (IntKind.i64.wrap ((32:Int) - y1.1)) < 0 then none else
  (if (IntKind.i64.wrap ((32:Int) - y1.1)) < 0 then none else
  (some ((IntKind.i64.wrap (((IntKind.i32.wrap (IntKind.u32.wrap (a * 2 ^ (min (IntKind.i64.wrap ((32:Int) - y1.1)).toNat IntKind.u32.bits))))).fdiv (2 ^ (min (IntKind.i64.wrap ((32:Int) - y1.1)).toNat IntKind.i32.bits)))),())))
def g (a:Int) (b:Int):Option (Int×Unit):=f (1000+a.toNat+b.toNat) a b
end Zdn
namespace Zbt
def j16 (n:Nat) (a:Int) (b:Int) (c:Int) (d:Int) (e:Int) (i:Int) (j:Bool) (k:Int) (l:Int) (o:Int) (p:Int) (q:Int) (r:Int) (s:Bool):Option (Int×Int×Int×Int×Int×Int×Bool×Unit):=
  some (k,l,o,p,q,r,s,())
def f (n:Nat) (a:Int):Option (Int×Int×Int×Int×Int×Int×Bool×Unit):=
  (Zbc.g (29:Int) (1:Int) a).bind fun y1=>
  (Zbc.g (28:Int) (1:Int) a).bind fun y2=>
  (Zbc.g (24:Int) (4:Int) a).bind fun y3=>
  (Zbc.g (20:Int) (4:Int) a).bind fun y4=>
  (Zbc.g (16:Int) (4:Int) a).bind fun y5=>
  (Zbc.g (30:Int) (2:Int) a).bind fun y6=>
  if (decide (y6.1=(0:Int))) then
  ((Zbc.g (0:Int) (4:Int) a).bind fun y7=>
  if (decide (y1.1=(1:Int))) then
  (if (decide (y5.1=(0:Int))) then
  ((Zbc.g (28:Int) (1:Int) a).bind fun y8=>
  Zbt.j16 n 0 0 0 0 0 0 false (IntKind.i64.wrap ((3:Int)+y8.1)) 0 y3.1 0 0 0 false)
  else
  (Zbt.j16 n 0 0 0 0 0 0 false (1:Int) y5.1 y3.1 y4.1 y7.1 0 (decide (y1.1=(1:Int)))))
  else
  (Zbt.j16 n 0 0 0 0 0 0 false (1:Int) y5.1 y3.1 y4.1 y7.1 0 (decide (y1.1=(1:Int)))))
  else
  (if (decide (y6.1=(1:Int))) then
  ((Zbc.g (0:Int) (16:Int) a).bind fun y9=>
  (Zbc.g (28:Int) (1:Int) a).bind fun y10=>
  Zbt.j16 n 0 0 0 0 0 0 false (2:Int) y5.1 y3.1 y4.1 0 (IntKind.i64.wrap (y9.1 - (IntKind.i64.wrap (y10.1 * 2 ^ (min (16:Int).toNat IntKind.i64.bits))))) (decide (y1.1=(1:Int))))
  else
  (if (decide (y6.1=(2:Int))) then
  ((Zbc.g (29:Int) (1:Int) a).bind fun y11=>
  (Zbc.g (28:Int) (1:Int) a).bind fun y12=>
  (Zdn.g a (20:Int)).bind fun y13=>
  Zbt.j16 n 0 0 0 0 0 0 false (5:Int) (IntKind.i64.wrap ((IntKind.i64.wrap (y11.1 * (2:Int)))+y12.1)) y3.1 y4.1 0 y13.1 false)
  else
  ((Zbc.g (0:Int) (4:Int) a).bind fun y14=>
  if (decide (y1.1=(1:Int))) then
  ((Zdn.g a (24:Int)).bind fun y15=>
  Zbt.j16 n 0 0 0 0 0 0 false (7:Int) y3.1 0 0 (0:Int) y15.1 (decide (y2.1=(1:Int))))
  else
  (Zbt.j16 n 0 0 0 0 0 0 false (6:Int) y3.1 0 0 y14.1 0 (decide (y2.1=(1:Int)))))))
def g (a:Int):Option (Int×Int×Int×Int×Int×Int×Bool×Unit):=f (1000+a.toNat) a
end Zbt
namespace Zbd
def j10 (n:Nat) (a:Int) (b:Int) (c:Int) (d:Int) (e:Int) (i:Int) (j:Bool):Option (Bool×Unit):=
  if (!j)=false then
  ((Zdg.g b (8:Int) (10:Int)).bind fun y1=>
  some (y1.1,()))
  else (some (true,()))
def f (n:Nat) (a:Int) (b:Int) (c:Int) (d:Int) (e:Int) (i:Int) (j:Bool):Option (Bool×Unit):=
  (Zdg.g a (1:Int) (7:Int)).bind fun y1=>
  if (!y1.1)=false then
  ((Zdg.g b (0:Int) (15:Int)).bind fun y2=>
  if (!y2.1)=false then
  ((Zcl.g a b c d e i j).bind fun y3=>
  (Zbt.g y3.1).bind fun y4=>
  if (!(decide (a=y4.1) && (decide (b=y4.2.1) && (decide (c=y4.2.2.1) && (decide (d=y4.2.2.2.1) && (decide (e=y4.2.2.2.2.1) && (decide (i=y4.2.2.2.2.2.1) && ((j == y4.2.2.2.2.2.2.1) && true)))))))) then (some (false,()))
  else
  (if (decide (a=(1:Int))) then
  (if (decide (a=(1:Int))) then
  (if (decide (b=(0:Int))) then
  (if (decide (d=(0:Int))) then
  (if (decide (a=(2:Int)))=false then
  (if (!j) then
  (if (!j)=false then (some ((decide ((0:Int)≤i)),()))
  else (some (true,())))
  else (some (false,())))
  else
  (if (!j)=false then (some ((decide ((0:Int)≤i)),()))
  else (some (true,()))))
  else (some (false,())))
  else
  (if (decide ((11:Int) < b)) then (some (false,()))
  else (Zbd.j10 n a b c d e i j)))
  else (some (true,())))
  else
  (if (decide (a=(2:Int))) then
  (if (decide (b=(0:Int))) then
  (if (decide (d=(0:Int))) then
  (if (decide (a=(2:Int)))=false then
  (if (!j) then
  (if (!j)=false then (some ((decide ((0:Int)≤i)),()))
  else (some (true,())))
  else (some (false,())))
  else
  (if (!j)=false then (some ((decide ((0:Int)≤i)),()))
  else (some (true,()))))
  else (some (false,())))
  else
  (if (decide ((11:Int) < b)) then (some (false,()))
  else (Zbd.j10 n a b c d e i j)))
  else (some (true,())))))
  else (some (false,())))
  else (some (false,()))
def g (a:Int) (b:Int) (c:Int) (d:Int) (e:Int) (i:Int) (j:Bool):Option (Bool×Unit):=f (1000+a.toNat+b.toNat+c.toNat+d.toNat+e.toNat+i.toNat) a b c d e i j
end Zbd
namespace Zag
def j12 (n:Nat) (a:Int) (b:Int) (c:Int) (d:Int) (e:Int) (i:Int) (j:Bool):Option (Bool×Unit):=
  (Zbd.g a b c d e i j).bind fun y1=>
  some (y1.1,())
def j4 (n:Nat) (a:Int) (b:Int) (c:Int) (d:Int) (e:Int) (i:Bool) (j:List It) (k:Str) (l:Int) (o:Int) (p:Int) (q:Int) (r:Int) (s:Int) (t:Bool):Option (Bool×Unit):=
  if (decide (a=(0:Int))) then
  (if (decide (a=(0:Int))) then
  (some ((decide (l=a) && (decide (o=0) && (decide (p=0) && (decide (q=0) && (decide (r=0) && (decide (s=0) && ((t == false) && true))))))),()))
  else
  (if (decide (a=(10:Int))) then
  (if (decide (l=a) && (decide (o=0) && (decide (p=0) && (decide (q=0) && (decide (r=0) && (decide (s=0) && ((t == false) && true))))))) then
  ((Zba.g k).bind fun y1=>
  some (y1.1,()))
  else (some (false,())))
  else
  (if (decide (a=(8:Int))) then
  (if (decide (l=a) && (decide (o=0) && (decide (p=c) && (decide (q=0) && (decide (r=0) && (decide (s=0) && ((t == false) && true))))))) then
  ((Zaz.g c).bind fun y2=>
  some ((!(decide (y2.1=([]:Str)))),()))
  else (some (false,())))
  else (Zag.j12 n l o p q r s t))))
  else
  (if (decide (a=(9:Int))) then
  (some ((decide (l=a) && (decide (o=0) && (decide (p=0) && (decide (q=0) && (decide (r=0) && (decide (s=0) && ((t == false) && true))))))),()))
  else
  (if (decide (a=(10:Int))) then
  (if (decide (l=a) && (decide (o=0) && (decide (p=0) && (decide (q=0) && (decide (r=0) && (decide (s=0) && ((t == false) && true))))))) then
  ((Zba.g k).bind fun y3=>
  some (y3.1,()))
  else (some (false,())))
  else
  (if (decide (a=(8:Int))) then
  (if (decide (l=a) && (decide (o=0) && (decide (p=c) && (decide (q=0) && (decide (r=0) && (decide (s=0) && ((t == false) && true))))))) then
  ((Zaz.g c).bind fun y4=>
  some ((!(decide (y4.1=([]:Str)))),()))
  else (some (false,())))
  else (Zag.j12 n l o p q r s t))))
def f (n:Nat) (a:Int) (b:Int) (c:Int) (d:Int) (e:Int) (i:Bool) (j:List It) (k:Str):Option (Bool×Unit):=
  (Zdm.g a).bind fun y1=>
  if (!(y1.1 == (decide ((0:Int) < (j.length:Int)))))=false then
  ((Zdm.g a).bind fun y2=>
  if y2.1 then
  ((Zbp.g j).bind fun y3=>
  if (!y3.1)=false then
  (if (!((decide (a=(10:Int))) == (!(decide (k=([]:Str)))))) then (some (false,()))
  else (Zag.j4 n a b c d e i j k a b c d e 0 i))
  else (some (false,())))
  else
  (if (!((decide (a=(10:Int))) == (!(decide (k=([]:Str)))))) then (some (false,()))
  else (Zag.j4 n a b c d e i j k a b c d e 0 i)))
  else (some (false,()))
def g (a:Int) (b:Int) (c:Int) (d:Int) (e:Int) (i:Bool) (j:List It) (k:Str):Option (Bool×Unit):=f (1000+a.toNat+b.toNat+c.toNat+d.toNat+e.toNat+j.length+k.length) a b c d e i j k
end Zag
namespace Zeb
def f (n:Nat) (a:Int):Option (Int×Unit):=
  if (decide (a=(2:Int))) then (some ((1:Int),()))
  else
  (if (decide (a=(6:Int))) then (some ((7:Int),()))
  else (some (a,())))
def g (a:Int):Option (Int×Unit):=f (1000+a.toNat) a
end Zeb
namespace Zcg
def f (n:Nat) (a:Int) (b:Int) (c:Int) (d:Int) (e:Int) (i:Bool) (j:List It) (k:Str) (l:Fn):Option (Str×Unit):=
  if l=K.atA then ((Zdj.g a b c d e i j k).bind fun y1=>
  (Zaz.g y1.2.2.2.1).bind fun y2=>
  some (y2.1,()))
  else if l=K.atB then ((Zdk.g a b c d e i j k).bind fun y3=>
  (Zaz.g y3.2.2.2.2.1).bind fun y4=>
  some (y4.1,()))
  else if l=K.atC then ((Zdl.g a b c d e i j k).bind fun y5=>
  (Zaz.g y5.2.2.2.2.2.1).bind fun y6=>
  some (y6.1,()))
  else none
def g (a:Int) (b:Int) (c:Int) (d:Int) (e:Int) (i:Bool) (j:List It) (k:Str) (l:Fn):Option (Str×Unit):=f (1000+a.toNat+b.toNat+c.toNat+d.toNat+e.toNat+j.length+k.length) a b c d e i j k l
end Zcg
namespace Zcm
def l1 (n:Nat):Nat→Str→Int→Option (Str×Unit)
 | 0,_,_=>none
 | m+1,a,b=>
  if (decide ((0:Int) < (a.length:Int))) then
  (if 0≤(0:Int)∧(0:Int) < (a.length:Int) then
  (if (decide ((bt a (0:Int))=b)) then
  (if 0≤(1:Int)∧(1:Int)≤(a.length:Int) then
  ((Zcm.l1 n m) ((a.take (((a.length:Int)).toNat)).drop (((1:Int)).toNat)) b) else none)
  else (some (a,()))) else none)
  else (some (a,()))
def f (n:Nat) (a:Str) (b:Int):Option (Str×Unit):=
  Zcm.l1 n n a b
def g (a:Str) (b:Int):Option (Str×Unit):=f (1000+a.length+b.toNat) a b
end Zcm
namespace Zdh
def j5 (n:Nat) (a:Str) (b:Str):Option (Str×Unit):=
  none
def f (n:Nat) (a:Str) (b:Str):Option (Str×Unit):=
  if (decide (a=([]:Str)))=false then
  (if (decide (b=([]:Str))) then (some (a,()))
  else
  (if (decide ((b.length:Int)=(1:Int))) then
  (if 0≤(0:Int)∧(0:Int) < (b.length:Int) then
  (if (decide ((bt b (0:Int)) < (128:Int))) then
  (if 0≤(0:Int)∧(0:Int) < (b.length:Int) then
  ((Zcm.g a (bt b (0:Int))).bind fun y1=>
  some (y1.1,())) else none)
  else (Zdh.j5 n a b)) else none)
  else (Zdh.j5 n a b)))
  else (some (a,()))
def g (a:Str) (b:Str):Option (Str×Unit):=f (1000+a.length+b.length) a b
end Zdh
namespace Zdo
def f (n:Nat) (a:Int) (b:Int) (c:Int) (d:Int) (e:Int) (i:Bool) (j:List It) (k:Str) (l:Str):Option (Str×Unit):=
  (Zai.g j).bind fun y1=>
  if l.length+([32]:Str).length≤9223372036854775807 then
  (if (l++([32]:Str)).length+y1.1.length≤9223372036854775807 then
  ((Zdh.g ((l++([32]:Str))++y1.1) ([32]:Str)).bind fun y2=>
  some (y2.1,())) else none) else none
def g (a:Int) (b:Int) (c:Int) (d:Int) (e:Int) (i:Bool) (j:List It) (k:Str) (l:Str):Option (Str×Unit):=f (1000+a.toNat+b.toNat+c.toNat+d.toNat+e.toNat+j.length+k.length+l.length) a b c d e i j k l
end Zdo
namespace Zei
def f (n:Nat) (a:Int) (b:Int) (c:Int) (d:Int) (e:Int) (i:Bool) (j:List It) (k:Str):Option (Str×Unit):=
  some (k,())
def g (a:Int) (b:Int) (c:Int) (d:Int) (e:Int) (i:Bool) (j:List It) (k:Str):Option (Str×Unit):=f (1000+a.toNat+b.toNat+c.toNat+d.toNat+e.toNat+j.length+k.length) a b c d e i j k
end Zei
namespace Zad
def j15 (n:Nat) (rl12:(List Str)→Str→(List Str)→(List (Fn×Fn×Unit))→Int→Int→Int→Int→Int→Int→Int→Bool→(List It)→Str→Option (Str×Int×Unit)) (a:List Str) (b:Str) (c:List Str) (d:List (Fn×Fn×Unit)) (e:Int) (i:Int) (j:Int) (k:Int) (l:Int) (o:Int) (p:Int) (q:Bool) (r:List It) (s:Str):Option (Str×Int×Unit):=
  rl12 a b c d e (IntKind.i64.wrap (i+(1:Int))) j k l o p q r s
def j17 (n:Nat) (a:List Str):Option (Str×Int×Unit):=
  (L.sjoinO a ([32]:Str)).bind fun y1=>
  some (y1.1,(0:Int),())
def l12 (n:Nat):Nat→(List Str)→Str→(List Str)→(List (Fn×Fn×Unit))→Int→Int→Int→Int→Int→Int→Int→Bool→(List It)→Str→Option (Str×Int×Unit)
 | 0,_,_,_,_,_,_,_,_,_,_,_,_,_,_=>none
 | m+1,a,b,c,d,e,i,j,k,l,o,p,q,r,s=>
  if (decide (i < e)) then
  (if 0≤i∧i < (d.length:Int) then
  (if ((d.getD (i).toNat (((0,[]):Fn),(((0,[]):Fn),()))).2).1=K.wrA then ((Zcg.g j k l o p q r s K.atA).bind fun y1=>
  if (c.length+([y1.1]:List Str).length) * 16≤140737488355328∧0 < 16∧0 < 1 then
  (Zad.j15 n (Zad.l12 n m) a b (c++([y1.1]:List Str)) d e i j k l o p q r s) else none)
  else if ((d.getD (i).toNat (((0,[]):Fn),(((0,[]):Fn),()))).2).1=K.wrB then ((Zcg.g j k l o p q r s K.atB).bind fun y2=>
  if (c.length+([y2.1]:List Str).length) * 16≤140737488355328∧0 < 16∧0 < 1 then
  (Zad.j15 n (Zad.l12 n m) a b (c++([y2.1]:List Str)) d e i j k l o p q r s) else none)
  else if ((d.getD (i).toNat (((0,[]):Fn),(((0,[]):Fn),()))).2).1=K.wrC then ((Zcg.g j k l o p q r s K.atC).bind fun y3=>
  if (c.length+([y3.1]:List Str).length) * 16≤140737488355328∧0 < 16∧0 < 1 then
  (Zad.j15 n (Zad.l12 n m) a b (c++([y3.1]:List Str)) d e i j k l o p q r s) else none)
  else if ((d.getD (i).toNat (((0,[]):Fn),(((0,[]):Fn),()))).2).1=K.wrE then ((Zdo.g j k l o p q r s ([]:Str)).bind fun y4=>
  if (c.length+([y4.1]:List Str).length) * 16≤140737488355328∧0 < 16∧0 < 1 then
  (Zad.j15 n (Zad.l12 n m) a b (c++([y4.1]:List Str)) d e i j k l o p q r s) else none)
  else if ((d.getD (i).toNat (((0,[]):Fn),(((0,[]):Fn),()))).2).1=K.wrQ then ((Zdo.g j k l o p q r s ([61]:Str)).bind fun y5=>
  if (c.length+([y5.1]:List Str).length) * 16≤140737488355328∧0 < 16∧0 < 1 then
  (Zad.j15 n (Zad.l12 n m) a b (c++([y5.1]:List Str)) d e i j k l o p q r s) else none)
  else if ((d.getD (i).toNat (((0,[]):Fn),(((0,[]):Fn),()))).2).1=K.wrN then ((Zei.g j k l o p q r s).bind fun y6=>
  if (c.length+([y6.1]:List Str).length) * 16≤140737488355328∧0 < 16∧0 < 1 then
  (Zad.j15 n (Zad.l12 n m) a b (c++([y6.1]:List Str)) d e i j k l o p q r s) else none)
  else none) else none)
  else
  ((L.sjoinO c ([44,32]:Str)).bind fun y7=>
  if (a.length+([b,y7.1]:List Str).length) * 16≤140737488355328∧0 < 16∧0 < 1 then (Zad.j17 n (a++([b,y7.1]:List Str))) else none)
def j10 (n:Nat) (a:List Str) (b:Str) (c:Int) (d:Int) (e:Int) (i:Int) (j:Int) (k:Bool) (l:List It) (o:Str):Option (Str×Int×Unit):=
  Zad.l12 n n a b ([]) (L.opsR c d) ((L.opsR c d).length:Int) (0:Int) c d e i j k l o
def j6 (n:Nat) (a:List Str) (b:Int) (c:Int) (d:Int) (e:Int) (i:Int) (j:Bool) (k:List It) (l:Str):Option (Str×Int×Unit):=
  if (decide (b≠(0:Int))) then
  ((Zeb.g b).bind fun y1=>
  (L.mnemO y1.1 c j).bind fun y2=>
  (Zdd.g b).bind fun y3=>
  if y3.1 then
  (if ([46]:Str).length+y2.1.length≤9223372036854775807 then (Zad.j10 n a (([46]:Str)++y2.1) b c d e i j k l) else none)
  else (Zad.j10 n a y2.1 b c d e i j k l))
  else (Zad.j17 n a)
def j3 (n:Nat) (a:Str) (b:Int) (c:Int) (d:Int) (e:Int) (i:Int) (j:Bool) (k:List It) (l:Str):Option (Str×Int×Unit):=
  if (!(decide (a=([]:Str)))) then
  (if a.length+([58]:Str).length≤9223372036854775807 then
  (if (([]:List Str).length+([(a++([58]:Str))]:List Str).length) * 16≤140737488355328∧0 < 16∧0 < 1 then
  (Zad.j6 n (([]:List Str)++([(a++([58]:Str))]:List Str)) b c d e i j k l) else none) else none)
  else (Zad.j6 n ([]) b c d e i j k l)
def f (n:Nat) (a:Str) (b:Int) (c:Int) (d:Int) (e:Int) (i:Int) (j:Bool) (k:List It) (l:Str):Option (Str×Int×Unit):=
  if (!(decide (a=([]:Str)))) then
  ((Zae.g a).bind fun y1=>
  if (!y1.1)=false then
  ((Zag.g b c d e i j k l).bind fun y2=>
  if (!y2.1) then (some (([]:Str),(22:Int),()))
  else (Zad.j3 n a b c d e i j k l))
  else (some (([]:Str),(22:Int),())))
  else
  ((Zag.g b c d e i j k l).bind fun y3=>
  if (!y3.1) then (some (([]:Str),(22:Int),()))
  else (Zad.j3 n a b c d e i j k l))
def g (a:Str) (b:Int) (c:Int) (d:Int) (e:Int) (i:Int) (j:Bool) (k:List It) (l:Str):Option (Str×Int×Unit):=f (1000+a.length+b.toNat+c.toNat+d.toNat+e.toNat+i.toNat+k.length+l.length) a b c d e i j k l
end Zad
end Rv
namespace Rv
open Go
set_option maxRecDepth 100000
namespace Zbv
def f (n:Nat) (a:Int) (b:List Tk) (c:Int) (d:Int):Option (Str×(List Tk)×Int×Int×Unit):=
  if (decide (d=(0:Int))) then
  (if (decide (c < (b.length:Int))) then
  (if 0≤c∧c < (b.length:Int) then
  (if (decide ((b.getD (c).toNat zT).1=a)) then
  (if 0≤c∧c < (b.length:Int) then
  (some ((((b.getD (c).toNat zT).2).2).1,b,c,d,())) else none)
  else (some (([]:Str),b,c,d,()))) else none)
  else (some (([]:Str),b,c,d,())))
  else (some (([]:Str),b,c,d,()))
def g (a:Int) (b:List Tk) (c:Int) (d:Int):Option (Str×(List Tk)×Int×Int×Unit):=f (1000+a.toNat+b.length+c.toNat+d.toNat) a b c d
end Zbv
namespace Zax
def j4 (n:Nat) (a:Int) (b:List Tk) (c:Int) (d:Int):Option (Int×(List Tk)×Int×Int×Unit):=
  some (a,b,(IntKind.i64.wrap (c+(1:Int))),d,())
def f (n:Nat) (a:List Tk) (b:Int) (c:Int):Option (Int×(List Tk)×Int×Int×Unit):=
  (Zbv.g (1:Int) a b c).bind fun y1=>
  (Zca.g y1.1).bind fun y2=>
  if (!y2.2.1) then
  (if (decide (y1.2.2.2.1=(0:Int))) then
  (Zax.j4 n y2.1 y1.2.1 y1.2.2.1 (22:Int))
  else
  (Zax.j4 n y2.1 y1.2.1 y1.2.2.1 y1.2.2.2.1))
  else
  (Zax.j4 n y2.1 y1.2.1 y1.2.2.1 y1.2.2.2.1)
def g (a:List Tk) (b:Int) (c:Int):Option (Int×(List Tk)×Int×Int×Unit):=f (1000+a.length+b.toNat+c.toNat) a b c
end Zax
namespace Zbn
def j2 (n:Nat) (a:List Tk) (b:Int) (c:Int):Option ((List Tk)×Int×Int×Unit):=
  some (a,(IntKind.i64.wrap (b+(1:Int))),c,())
def f (n:Nat) (a:Str) (b:List Tk) (c:Int) (d:Int):Option ((List Tk)×Int×Int×Unit):=
  (Zbv.g (3:Int) b c d).bind fun y1=>
  if (!(decide (y1.1=a))) then
  (if (decide (y1.2.2.2.1=(0:Int))) then (Zbn.j2 n y1.2.1 y1.2.2.1 (22:Int))
  else (Zbn.j2 n y1.2.1 y1.2.2.1 y1.2.2.2.1))
  else (Zbn.j2 n y1.2.1 y1.2.2.1 y1.2.2.2.1)
def g (a:Str) (b:List Tk) (c:Int) (d:Int):Option ((List Tk)×Int×Int×Unit):=f (1000+a.length+b.length+c.toNat+d.toNat) a b c d
end Zbn
namespace Zbw
def f (n:Nat) (a:List Tk) (b:Int) (c:Int):Option ((List It)×(List Tk)×Int×Int×Unit):=
  if (decide (c≠(0:Int))) then (some ([],a,b,c,()))
  else
  ((Zds.g a b).bind fun y1=>
  some (y1.1,a,y1.2.1,y1.2.2.1,()))
def g (a:List Tk) (b:Int) (c:Int):Option ((List It)×(List Tk)×Int×Int×Unit):=f (1000+a.length+b.toNat+c.toNat) a b c
end Zbw
namespace Zcc
def j7 (n:Nat) (a:List Tk) (b:Int) (c:Int) (d:Int) (e:Int) (i:Int) (j:Int) (k:Int) (l:Bool) (o:List It) (p:Str) (q:Int) (r:Int) (s:Int) (t:Int) (u:Int) (v:Bool) (w:List It) (x:Str):Option (Int×Int×Int×Int×Int×Bool×(List It)×Str×(List Tk)×Int×Int×Unit):=
  some (d,e,i,j,k,l,o,p,a,b,c,())
def f (n:Nat) (a:Int) (b:Int) (c:Int) (d:Int) (e:Int) (i:Bool) (j:List It) (k:Str) (l:Int) (o:Int) (p:List Tk) (q:Int) (r:Int):Option (Int×Int×Int×Int×Int×Bool×(List It)×Str×(List Tk)×Int×Int×Unit):=
  (Zbv.g (1:Int) p q r).bind fun y1=>
  (Zca.g y1.1).bind fun y2=>
  if y2.2.1 then
  ((Zax.g y1.2.1 y1.2.2.1 y1.2.2.2.1).bind fun y3=>
  Zcc.j7 n y3.2.1 y3.2.2.1 y3.2.2.2.1 l b c d y3.1 i j k 0 0 0 0 0 false ([]) ([]:Str))
  else
  ((Zbw.g y1.2.1 y1.2.2.1 y1.2.2.2.1).bind fun y4=>
  Zcc.j7 n y4.2.1 y4.2.2.1 y4.2.2.2.1 o b c d e i y4.1 k 0 0 0 0 0 false ([]) ([]:Str))
def g (a:Int) (b:Int) (c:Int) (d:Int) (e:Int) (i:Bool) (j:List It) (k:Str) (l:Int) (o:Int) (p:List Tk) (q:Int) (r:Int):Option (Int×Int×Int×Int×Int×Bool×(List It)×Str×(List Tk)×Int×Int×Unit):=f (1000+a.toNat+b.toNat+c.toNat+d.toNat+e.toNat+j.length+k.length+l.toNat+o.toNat+p.length+q.toNat+r.toNat) a b c d e i j k l o p q r
end Zcc
namespace Zaj
def j16 (n:Nat) (a:List Tk) (b:Int) (c:Int) (d:Int) (e:Int) (i:Int) (j:Int) (k:Int) (l:Bool) (o:List It) (p:Str) (q:Int) (r:Int) (s:Int) (t:Int) (u:Int) (v:Bool) (w:List It) (x:Str):Option (Int×Int×Int×Int×Int×Bool×(List It)×Str×(List Tk)×Int×Int×Unit):=
  (Zcc.g d e i j k l o p (1:Int) (2:Int) a b c).bind fun y1=>
  some (y1.1,y1.2.1,y1.2.2.1,y1.2.2.2.1,y1.2.2.2.2.1,y1.2.2.2.2.2.1,y1.2.2.2.2.2.2.1,y1.2.2.2.2.2.2.2.1,y1.2.2.2.2.2.2.2.2.1,y1.2.2.2.2.2.2.2.2.2.1,y1.2.2.2.2.2.2.2.2.2.2.1,())
def j12 (n:Nat) (a:List Tk) (b:Int) (c:Int) (d:Int) (e:Int) (i:Int) (j:Int) (k:Int) (l:Bool) (o:List It) (p:Str) (q:Int) (r:Int) (s:Int) (t:Int) (u:Int) (v:Bool) (w:List It) (x:Str):Option (Int×Int×Int×Int×Int×Bool×(List It)×Str×(List Tk)×Int×Int×Unit):=
  if (decide (e=(0:Int))) then
  (if l then
  ((Zbw.g a b c).bind fun y1=>
  some ((2:Int),e,i,j,k,l,y1.1,p,y1.2.1,y1.2.2.1,y1.2.2.2.1,()))
  else
  (Zaj.j16 n a b c d e i j k l o p q r s t u v w x))
  else
  (Zaj.j16 n a b c d e i j k l o p q r s t u v w x)
def j35 (n:Nat) (a:List Tk) (b:Int) (c:Int) (d:Int) (e:Int) (i:Int) (j:Int) (k:Int) (l:Bool) (o:List It) (p:Str) (q:Int) (r:Int) (s:Int) (t:Int) (u:Int) (v:Bool) (w:List It) (x:Str):Option (Int×Int×Int×Int×Int×Bool×(List It)×Str×(List Tk)×Int×Int×Unit):=
  some (d,e,i,j,k,l,o,p,a,b,c,())
def j22 (n:Nat) (a:List Tk) (b:Int) (c:Int) (d:Int) (e:Int) (i:Int) (j:Int) (k:Int) (l:Bool) (o:List It) (p:Str) (q:Int) (r:Int) (s:Int) (t:Int) (u:Int) (v:Bool) (w:List It) (x:Str):Option (Int×Int×Int×Int×Int×Bool×(List It)×Str×(List Tk)×Int×Int×Unit):=
  (Zbn.g ([44]:Str) a b c).bind fun y1=>
  (Zax.g y1.1 y1.2.1 y1.2.2.1).bind fun y2=>
  (Zbn.g ([44]:Str) y2.2.1 y2.2.2.1 y2.2.2.2.1).bind fun y3=>
  (Zbw.g y3.1 y3.2.1 y3.2.2.1).bind fun y4=>
  Zaj.j35 n y4.2.1 y4.2.2.1 y4.2.2.2.1 d e i y2.1 k l y4.1 p q r s t u v w x
def j30 (n:Nat) (a:List Tk) (b:Int) (c:Int) (d:Int) (e:Int) (i:Int) (j:Int) (k:Int) (l:Bool) (o:List It) (p:Str) (q:Int) (r:Int) (s:Int) (t:Int) (u:Int) (v:Bool) (w:List It) (x:Str):Option (Int×Int×Int×Int×Int×Bool×(List It)×Str×(List Tk)×Int×Int×Unit):=
  (Zbn.g ([44]:Str) a b c).bind fun y1=>
  (Zbn.g ([61]:Str) y1.1 y1.2.1 y1.2.2.1).bind fun y2=>
  (Zbw.g y2.1 y2.2.1 y2.2.2.1).bind fun y3=>
  Zaj.j35 n y3.2.1 y3.2.2.1 y3.2.2.2.1 d e i j k l y3.1 p q r s t u v w x
def j5 (n:Nat) (a:List Tk) (b:Int) (c:Int) (d:Int) (e:Int) (i:Int) (j:Int) (k:Int) (l:Bool) (o:List It) (p:Str) (q:Int) (r:Int) (s:Int) (t:Int) (u:Int) (v:Bool) (w:List It) (x:Str):Option (Int×Int×Int×Int×Int×Bool×(List It)×Str×(List Tk)×Int×Int×Unit):=
  Zaj.j35 n a (IntKind.i64.wrap (b+(1:Int))) c d e i j k l o p q r s t u v w x
def j3 (n:Nat) (a:List Tk) (b:Int) (c:Int) (d:Int) (e:Int) (i:Int) (j:Int) (k:Int) (l:Bool) (o:List It) (p:Str) (q:Int) (r:Int) (s:Int) (t:Int) (u:Int) (v:Bool) (w:List It) (x:Str):Option (Int×Int×Int×Int×Int×Bool×(List It)×Str×(List Tk)×Int×Int×Unit):=
  (Zau.g p).bind fun y1=>
  if (!y1.1) then
  (if (decide (c=(0:Int))) then
  (Zaj.j5 n a b (22:Int) d e i j k l o p q r s t u v w x)
  else
  (Zaj.j5 n a b c d e i j k l o p q r s t u v w x))
  else
  (Zaj.j5 n a b c d e i j k l o p q r s t u v w x)
def f (n:Nat) (a:Int) (b:Int) (c:Int) (d:Int) (e:Int) (i:Bool) (j:List It) (k:Str) (l:List Tk) (o:Int) (p:Int):Option (Int×Int×Int×Int×Int×Bool×(List It)×Str×(List Tk)×Int×Int×Unit):=
  if (decide (a=(1:Int))) then
  ((Zax.g l o p).bind fun y1=>
  (Zbn.g ([44]:Str) y1.2.1 y1.2.2.1 y1.2.2.2.1).bind fun y2=>
  if (decide (b≠(0:Int))) then
  ((Zax.g y2.1 y2.2.1 y2.2.2.1).bind fun y3=>
  (Zbn.g ([44]:Str) y3.2.1 y3.2.2.1 y3.2.2.2.1).bind fun y4=>
  Zaj.j12 n y4.1 y4.2.1 y4.2.2.1 a b y1.1 y3.1 e i j k 0 0 0 0 0 false ([]) ([]:Str))
  else
  (Zaj.j12 n y2.1 y2.2.1 y2.2.2.1 a b y1.1 d e i j k 0 0 0 0 0 false ([]) ([]:Str)))
  else
  (if (decide (a=(3:Int))) then
  (if (decide (a=(3:Int))) then
  ((Zax.g l o p).bind fun y5=>
  Zaj.j35 n y5.2.1 y5.2.2.1 y5.2.2.2.1 a b y5.1 d e i j k 0 0 0 0 0 false ([]) ([]:Str))
  else
  (if (decide (a=(5:Int))) then
  ((Zax.g l o p).bind fun y6=>
  Zaj.j22 n y6.2.1 y6.2.2.1 y6.2.2.2.1 a b y6.1 d e i j k 0 0 0 0 0 false ([]) ([]:Str))
  else
  (if (decide (a=(7:Int))) then
  ((Zcc.g a b c d e i j k (6:Int) (7:Int) l o p).bind fun y7=>
  some (y7.1,y7.2.1,y7.2.2.1,y7.2.2.2.1,y7.2.2.2.2.1,y7.2.2.2.2.2.1,y7.2.2.2.2.2.2.1,y7.2.2.2.2.2.2.2.1,y7.2.2.2.2.2.2.2.2.1,y7.2.2.2.2.2.2.2.2.2.1,y7.2.2.2.2.2.2.2.2.2.2.1,()))
  else
  (if (decide (a=(8:Int))) then
  ((Zax.g l o p).bind fun y8=>
  Zaj.j30 n y8.2.1 y8.2.2.1 y8.2.2.2.1 a b y8.1 d e i j k 0 0 0 0 0 false ([]) ([]:Str))
  else
  (if (decide (a=(9:Int))) then
  ((Zbw.g l o p).bind fun y9=>
  Zaj.j35 n y9.2.1 y9.2.2.1 y9.2.2.2.1 a b c d e i y9.1 k 0 0 0 0 0 false ([]) ([]:Str))
  else
  ((Zbv.g (1:Int) l o p).bind fun y10=>
  Zaj.j3 n y10.2.1 y10.2.2.1 y10.2.2.2.1 a b c d e i j y10.1 0 0 0 0 0 false ([]) ([]:Str)))))))
  else
  (if (decide (a=(4:Int))) then
  ((Zax.g l o p).bind fun y11=>
  Zaj.j35 n y11.2.1 y11.2.2.1 y11.2.2.2.1 a b y11.1 d e i j k 0 0 0 0 0 false ([]) ([]:Str))
  else
  (if (decide (a=(5:Int))) then
  ((Zax.g l o p).bind fun y12=>
  Zaj.j22 n y12.2.1 y12.2.2.1 y12.2.2.2.1 a b y12.1 d e i j k 0 0 0 0 0 false ([]) ([]:Str))
  else
  (if (decide (a=(7:Int))) then
  ((Zcc.g a b c d e i j k (6:Int) (7:Int) l o p).bind fun y13=>
  some (y13.1,y13.2.1,y13.2.2.1,y13.2.2.2.1,y13.2.2.2.2.1,y13.2.2.2.2.2.1,y13.2.2.2.2.2.2.1,y13.2.2.2.2.2.2.2.1,y13.2.2.2.2.2.2.2.2.1,y13.2.2.2.2.2.2.2.2.2.1,y13.2.2.2.2.2.2.2.2.2.2.1,()))
  else
  (if (decide (a=(8:Int))) then
  ((Zax.g l o p).bind fun y14=>
  Zaj.j30 n y14.2.1 y14.2.2.1 y14.2.2.2.1 a b y14.1 d e i j k 0 0 0 0 0 false ([]) ([]:Str))
  else
  (if (decide (a=(9:Int))) then
  ((Zbw.g l o p).bind fun y15=>
  Zaj.j35 n y15.2.1 y15.2.2.1 y15.2.2.2.1 a b c d e i y15.1 k 0 0 0 0 0 false ([]) ([]:Str))
  else
  ((Zbv.g (1:Int) l o p).bind fun y16=>
  Zaj.j3 n y16.2.1 y16.2.2.1 y16.2.2.2.1 a b c d e i j y16.1 0 0 0 0 0 false ([]) ([]:Str))))))))
def g (a:Int) (b:Int) (c:Int) (d:Int) (e:Int) (i:Bool) (j:List It) (k:Str) (l:List Tk) (o:Int) (p:Int):Option (Int×Int×Int×Int×Int×Bool×(List It)×Str×(List Tk)×Int×Int×Unit):=f (1000+a.toNat+b.toNat+c.toNat+d.toNat+e.toNat+j.length+k.length+l.length+o.toNat+p.toNat) a b c d e i j k l o p
end Zaj
namespace Zan
def j19 (n:Nat) (a:Str) (b:Int) (c:Int) (d:Int) (e:Int) (i:Int) (j:Bool) (k:List It) (l:Str) (o:List Tk) (p:Int) (q:Int) (r:Int) (s:Int) (t:Int) (u:Int) (v:Int) (w:Bool) (x:List It) (z:Str):Option (Str×Int×Int×Int×Int×Int×Bool×(List It)×Str×Int×Unit):=
  if (decide (q≠(0:Int))) then
  (some (([]:Str),0,0,0,0,0,false,[],([]:Str),q,()))
  else (some (a,r,s,t,u,v,w,x,z,(0:Int),()))
def j15 (n:Nat) (a:List Tk) (b:Str) (c:Int) (d:Int) (e:Bool) (i:Int) (j:Int) (k:Int) (l:Int) (o:Int) (p:Bool) (q:List It) (r:Str) (s:List Tk) (t:Int) (u:Int):Option (Str×Int×Int×Int×Int×Int×Bool×(List It)×Str×Int×Unit):=
  (Zaj.g c d 0 0 0 e ([]) ([]:Str) s (IntKind.i64.wrap (t+(1:Int))) u).bind fun y1=>
  if (decide (y1.2.2.2.2.2.2.2.2.2.2.1=(0:Int))) then
  (if (decide (y1.2.2.2.2.2.2.2.2.2.1 < (a.length:Int))) then
  (Zan.j19 n b i j k l o p q r y1.2.2.2.2.2.2.2.2.1 y1.2.2.2.2.2.2.2.2.2.1 (22:Int) y1.1 y1.2.1 y1.2.2.1 y1.2.2.2.1 y1.2.2.2.2.1 y1.2.2.2.2.2.1 y1.2.2.2.2.2.2.1 y1.2.2.2.2.2.2.2.1)
  else
  (Zan.j19 n b i j k l o p q r y1.2.2.2.2.2.2.2.2.1 y1.2.2.2.2.2.2.2.2.2.1 y1.2.2.2.2.2.2.2.2.2.2.1 y1.1 y1.2.1 y1.2.2.1 y1.2.2.2.1 y1.2.2.2.2.1 y1.2.2.2.2.2.1 y1.2.2.2.2.2.2.1 y1.2.2.2.2.2.2.2.1))
  else
  (Zan.j19 n b i j k l o p q r y1.2.2.2.2.2.2.2.2.1 y1.2.2.2.2.2.2.2.2.2.1 y1.2.2.2.2.2.2.2.2.2.2.1 y1.1 y1.2.1 y1.2.2.1 y1.2.2.2.1 y1.2.2.2.2.1 y1.2.2.2.2.2.1 y1.2.2.2.2.2.2.1 y1.2.2.2.2.2.2.2.1)
def j13 (n:Nat) (a:List Tk) (b:Str) (c:Int) (d:Int) (e:Bool) (i:Bool) (j:Bool) (k:Int) (l:Int) (o:Int) (p:Int) (q:Int) (r:Bool) (s:List It) (t:Str) (u:List Tk) (v:Int) (w:Int) (x:Int) (z:Int) (A:Str) (B:Int):Option (Str×Int×Int×Int×Int×Int×Bool×(List It)×Str×Int×Unit):=
  if (!i)=false then
  (if j then
  (if (decide (x≠(4:Int)))=false then
  (if (!j) then
  (if (decide (x≠(1:Int))) then
  (some (([]:Str),0,0,0,0,0,false,[],([]:Str),(22:Int),()))
  else (Zan.j15 n a b c d e k l o p q r s t u v w))
  else (Zan.j15 n a b c d e k l o p q r s t u v w))
  else
  (some (([]:Str),0,0,0,0,0,false,[],([]:Str),(22:Int),())))
  else
  (if (!j) then
  (if (decide (x≠(1:Int))) then
  (some (([]:Str),0,0,0,0,0,false,[],([]:Str),(22:Int),()))
  else (Zan.j15 n a b c d e k l o p q r s t u v w))
  else (Zan.j15 n a b c d e k l o p q r s t u v w)))
  else
  (some (([]:Str),0,0,0,0,0,false,[],([]:Str),(22:Int),()))
def j8 (n:Nat) (a:List Tk) (b:Str) (c:Int) (d:Int) (e:Int) (i:Int) (j:Int) (k:Bool) (l:List It) (o:Str) (p:List Tk) (q:Int) (r:Int):Option (Str×Int×Int×Int×Int×Int×Bool×(List It)×Str×Int×Unit):=
  if (decide (q=(a.length:Int))) then
  (some (b,0,0,0,0,0,false,[],([]:Str),(0:Int),()))
  else
  (if 0≤q∧q < (a.length:Int) then
  ((Zav.g ((((a.getD (q).toNat zT).2).2).1)).bind fun y1=>
  if (decide (y1.1=(9:Int)))=false then
  (Zan.j13 n a b y1.1 y1.2.1 y1.2.2.1 y1.2.2.2.1 (decide (y1.1=(10:Int))) c d e i j k l o p q r ((a.getD (q).toNat zT).1) (((a.getD (q).toNat zT).2).1) ((((a.getD (q).toNat zT).2).2).1) (((((a.getD (q).toNat zT).2).2).2).1))
  else
  (Zan.j13 n a b y1.1 y1.2.1 y1.2.2.1 y1.2.2.2.1 true c d e i j k l o p q r ((a.getD (q).toNat zT).1) (((a.getD (q).toNat zT).2).1) ((((a.getD (q).toNat zT).2).2).1) (((((a.getD (q).toNat zT).2).2).2).1))) else none)
def f (n:Nat) (a:List Tk):Option (Str×Int×Int×Int×Int×Int×Bool×(List It)×Str×Int×Unit):=
  if (decide ((1:Int) < (a.length:Int))) then
  (if 0≤(0:Int)∧(0:Int) < (a.length:Int) then
  (if (decide ((a.getD ((0:Int)).toNat zT).1=(1:Int))) then
  (if 0≤(1:Int)∧(1:Int) < (a.length:Int) then
  (if (decide ((a.getD ((1:Int)).toNat zT).1=(3:Int))) then
  (if 0≤(1:Int)∧(1:Int) < (a.length:Int) then
  (if (decide ((((a.getD ((1:Int)).toNat zT).2).2).1=([58]:Str))) then
  (if 0≤(0:Int)∧(0:Int) < (a.length:Int) then
  ((Zbi.g ((((a.getD ((0:Int)).toNat zT).2).2).1)).bind fun y1=>
  if (!y1.1) then
  (some (([]:Str),0,0,0,0,0,false,[],([]:Str),(22:Int),()))
  else
  (Zan.j8 n a ((((a.getD ((0:Int)).toNat zT).2).2).1) 0 0 0 0 0 false ([]) ([]:Str) a (2:Int) 0)) else none)
  else
  (Zan.j8 n a ([]:Str) 0 0 0 0 0 false ([]) ([]:Str) a 0 0)) else none)
  else
  (Zan.j8 n a ([]:Str) 0 0 0 0 0 false ([]) ([]:Str) a 0 0)) else none)
  else
  (Zan.j8 n a ([]:Str) 0 0 0 0 0 false ([]) ([]:Str) a 0 0)) else none)
  else
  (Zan.j8 n a ([]:Str) 0 0 0 0 0 false ([]) ([]:Str) a 0 0)
def g (a:List Tk):Option (Str×Int×Int×Int×Int×Int×Bool×(List It)×Str×Int×Unit):=f (1000+a.length) a
end Zan
namespace Zcn
def f (n:Nat) (a:Int) (b:Int) (c:Int) (d:Int) (e:Int) (i:Bool) (j:List It) (k:Str):Option (Int×Int×Int×Int×Int×Int×Bool×Unit):=
  some (a,b,c,d,e,0,i,())
def g (a:Int) (b:Int) (c:Int) (d:Int) (e:Int) (i:Bool) (j:List It) (k:Str):Option (Int×Int×Int×Int×Int×Int×Bool×Unit):=f (1000+a.toNat+b.toNat+c.toNat+d.toNat+e.toNat+j.length+k.length) a b c d e i j k
end Zcn
namespace Zco
def f (n:Nat) (a:Int):Option (Bool×Unit):=
  if (decide ((0:Int)≤a)) then (some ((decide (a≤(15:Int))),()))
  else (some (false,()))
def g (a:Int):Option (Bool×Unit):=f (1000+a.toNat) a
end Zco
namespace Zej
def f (n:Nat) (a:Int) (b:Int):Option (Bool×Unit):=
  if (IntKind.i64.wrap ((mn (mx b (1:Int)) (32:Int)) - (1:Int))) < 0 then none else
  (if (decide ((IntKind.i64.wrap ((-1:Int) * 2 ^ (min (IntKind.i64.wrap ((mn (mx b (1:Int)) (32:Int)) - (1:Int))).toNat IntKind.i64.bits)))≤a)) then
  (if (IntKind.i64.wrap ((mn (mx b (1:Int)) (32:Int)) - (1:Int))) < 0 then none else
  (some ((decide (a < (IntKind.i64.wrap ((1:Int) * 2 ^ (min (IntKind.i64.wrap ((mn (mx b (1:Int)) (32:Int)) - (1:Int))).toNat IntKind.i64.bits))))),())))
  else (some (false,())))
def g (a:Int) (b:Int):Option (Bool×Unit):=f (1000+a.toNat+b.toNat) a b
end Zej
namespace Zak
def j22 (n:Nat) (a:Bool) (b:Int) (c:Int) (d:Int) (e:Int) (i:Int) (j:Int) (k:Bool) (l:Int) (o:Int) (p:Int) (q:Int) (r:Int) (s:Int) (t:Bool):Option (Bool×Unit):=
  if (decide (l=b) && (decide (o=c) && (decide (p=d) && (decide (q=e) && (decide (r=i) && (decide (s=j) && ((t == k) && true))))))) then
  (if (decide (j≤(65535:Int))) then
  (if (decide ((-65536:Int)≤j)) then
  (if (decide ((0:Int)≤j))=false then (some ((!a),()))
  else (some (true,())))
  else (some (false,())))
  else (some (false,())))
  else (some (false,()))
def j21 (n:Nat) (a:Int) (b:Int) (c:Int) (d:Int) (e:Int) (i:Int) (j:Bool) (k:Int) (l:Int) (o:Int) (p:Int) (q:Int) (r:Int) (s:Bool):Option (Bool×Unit):=
  if (decide (b=(0:Int))) then (Zak.j22 n j a b c d e i j k l o p q r s)
  else (Zak.j22 n false a b c d e i j k l o p q r s)
def j15 (n:Nat) (a:Int) (b:Int) (c:Int) (d:Int) (e:Int) (i:Int) (j:Bool) (k:Int) (l:Int) (o:Int) (p:Int) (q:Int) (r:Int) (s:Bool):Option (Bool×Unit):=
  if (decide (a=(1:Int))) then
  (some ((decide (k=a) && (decide (l=b) && (decide (o=c) && (decide (p=d) && (decide (e=e) && (decide (r=i) && ((s == j) && true))))))),()))
  else
  (if (decide (b=(0:Int))) then (Zak.j21 n a b c d e i j k l o p q i j)
  else (Zak.j21 n a b c d e i j k l o p q i s))
def j13 (n:Nat) (a:Bool) (b:Int) (c:Int) (d:Int) (e:Int) (i:Int) (j:Int) (k:Bool) (l:Int) (o:Int) (p:Int) (q:Int) (r:Int) (s:Int) (t:Bool):Option (Bool×Unit):=
  if a then (Zak.j15 n b c d e i j k l o p q r s k)
  else (Zak.j15 n b c d e i j k l o p q r s t)
def j8 (n:Nat) (a:Bool) (b:Int) (c:Int) (d:Int) (e:Int) (i:Int) (j:Int) (k:Bool) (l:Int) (o:Int) (p:Int) (q:Int) (r:Int) (s:Int) (t:Bool):Option (Bool×Unit):=
  if (decide (c < (0:Int)))=false then
  (if (decide ((11:Int) < c)) then (some (false,()))
  else
  (if (decide (c≠(0:Int))) then (Zak.j13 n a b c d e i j k l c p e r s t)
  else (Zak.j13 n a b c d e i j k l c p q r s t)))
  else (some (false,()))
def j25 (n:Nat) (a:Int) (b:Int) (c:Int) (d:Int) (e:Int) (i:Int) (j:Bool) (k:Int) (l:Int) (o:Int) (p:Int) (q:Int) (r:Int) (s:Bool):Option (Bool×Unit):=
  some ((decide (k=a) && (decide (l=b) && (decide (o=c) && (decide (p=d) && (decide (q=e) && (decide (r=i) && ((s == j) && true))))))),())
def j26 (n:Nat) (a:Int) (b:Int) (c:Int) (d:Int) (e:Int) (i:Int) (j:Int) (k:Bool) (l:Int) (o:Int) (p:Int) (q:Int) (r:Int) (s:Int) (t:Bool):Option (Bool×Unit):=
  if (decide (a=(5:Int))) then
  (if (decide (l=b) && (decide (c=c) && (decide (p=d) && (decide (e=e) && (decide (r=i) && (decide (j=j) && ((t == k) && true))))))) then
  (if (decide ((0:Int)≤c)) then
  (if (decide (c≤(3:Int))) then
  ((Zej.g j (20:Int)).bind fun y1=>
  some (y1.1,()))
  else (some (false,())))
  else (some (false,())))
  else (some (false,())))
  else
  (if (decide (a=(6:Int))) then
  (if (decide (b=b) && (decide (c=c) && (decide (0=d) && (decide (0=e) && (decide (i=i) && (decide (0=j) && ((k == k) && true))))))) then
  ((Zco.g c).bind fun y2=>
  some (y2.1,()))
  else (some (false,())))
  else
  (if (decide (a=(7:Int))) then
  (if (decide (b=b) && (decide (c=c) && (decide (0=d) && (decide (0=e) && (decide (0=i) && (decide (j=j) && ((k == k) && true))))))) then
  ((Zco.g c).bind fun y3=>
  if y3.1 then
  ((Zej.g j (24:Int)).bind fun y4=>
  some (y4.1,()))
  else (some (false,())))
  else (some (false,())))
  else (some (false,()))))
def j23 (n:Nat) (a:Int) (b:Int) (c:Int) (d:Int) (e:Int) (i:Int) (j:Int) (k:Bool) (l:Int) (o:Int) (p:Int) (q:Int) (r:Int) (s:Int) (t:Bool):Option (Bool×Unit):=
  if (decide (a=(3:Int))) then
  (if (decide (a=(3:Int))) then (Zak.j25 n b c d e i j k l o p q r s t)
  else (Zak.j26 n a b c d e i j k l o p q r s t))
  else
  (if (decide (a=(4:Int))) then (Zak.j25 n b c d e i j k l o p q r s t)
  else (Zak.j26 n a b c d e i j k l o p q r s t))
def j5 (n:Nat) (a:Bool) (b:Int) (c:Int) (d:Int) (e:Int) (i:Int) (j:Int) (k:Bool) (l:Int) (o:Int) (p:Int) (q:Int) (r:Int) (s:Int) (t:Bool):Option (Bool×Unit):=
  if (decide (b=(1:Int))) then
  (if (decide (b=(1:Int))) then (Zak.j8 n a b c d e i j k l o p q r s t)
  else (Zak.j23 n b b c d e i j k l o p q r s t))
  else
  (if (decide (b=(2:Int))) then (Zak.j8 n a b c d e i j k l o p q r s t)
  else (Zak.j23 n b b c d e i j k l o p q r s t))
def f (n:Nat) (a:Int) (b:Int) (c:Int) (d:Int) (e:Int) (i:Int) (j:Bool):Option (Bool×Unit):=
  (Zco.g c).bind fun y1=>
  if (!y1.1)=false then
  ((Zco.g d).bind fun y2=>
  if (!y2.1)=false then
  ((Zco.g e).bind fun y3=>
  if (!y3.1) then (some (false,()))
  else
  (if (decide ((8:Int)≤b)) then
  (Zak.j5 n (decide (b≤(10:Int))) a b c d e i j a 0 c 0 0 0 false)
  else (Zak.j5 n false a b c d e i j a 0 c 0 0 0 false)))
  else (some (false,())))
  else (some (false,()))
def g (a:Int) (b:Int) (c:Int) (d:Int) (e:Int) (i:Int) (j:Bool):Option (Bool×Unit):=f (1000+a.toNat+b.toNat+c.toNat+d.toNat+e.toNat+i.toNat) a b c d e i j
end Zak
namespace Zal
def j8 (n:Nat) (a:Bool) (b:Int) (c:Int) (d:Int) (e:Int) (i:Int) (j:Bool) (k:List It) (l:Str) (o:Int) (p:Int) (q:Int) (r:Int) (s:Int) (t:Int) (u:Bool):Option (Bool×Unit):=
  if (decide ((k.length:Int)=(0:Int))) then
  (if (decide (o=b) && (decide (p=0) && (decide (q=0) && (decide (r=0) && (decide (s=0) && (decide (t=0) && ((u == false) && true))))))) then
  (if (!a)=false then
  ((Zau.g l).bind fun y1=>
  some (y1.1,()))
  else (some (true,())))
  else (some (false,())))
  else (some (false,()))
def j13 (n:Nat) (a:Int) (b:Int) (c:Int) (d:Int) (e:Int) (i:Bool) (j:List It) (k:Str) (l:Int) (o:Int) (p:Int) (q:Int) (r:Int) (s:Int) (t:Bool):Option (Bool×Unit):=
  if (decide ((j.length:Int)=(0:Int))) then
  ((Zak.g l o p q r s t).bind fun y1=>
  some (y1.1,()))
  else (some (false,()))
def j17 (n:Nat) (a:Int) (b:Int) (c:Int) (d:Int) (e:Int) (i:Bool) (j:List It) (k:Str) (l:Int) (o:Int) (p:Int) (q:Int) (r:Int) (s:Int) (t:Bool):Option (Bool×Unit):=
  (Zbq.g j).bind fun y1=>
  if y1.1 then
  ((Zak.g l o p q r s t).bind fun y2=>
  some (y2.1,()))
  else (some (false,()))
def j18 (n:Nat) (a:Int) (b:Int) (c:Int) (d:Int) (e:Int) (i:Int) (j:Bool) (k:List It) (l:Str) (o:Int) (p:Int) (q:Int) (r:Int) (s:Int) (t:Int) (u:Bool):Option (Bool×Unit):=
  if (decide (a=(8:Int))) then
  ((Zbq.g k).bind fun y1=>
  if y1.1 then
  (if (decide (o=b) && (decide (p=0) && (decide (q=d) && (decide (r=0) && (decide (s=0) && (decide (t=0) && ((u == false) && true))))))) then
  (if (decide ((0:Int)≤d)) then (some ((decide (d≤(15:Int))),()))
  else (some (false,())))
  else (some (false,())))
  else (some (false,())))
  else
  (if (decide (a=(9:Int))) then
  ((Zbq.g k).bind fun y2=>
  if y2.1 then
  (some ((decide (o=b) && (decide (p=0) && (decide (q=0) && (decide (r=0) && (decide (s=0) && (decide (t=0) && ((u == false) && true))))))),()))
  else (some (false,())))
  else (some (false,())))
def j14 (n:Nat) (a:Int) (b:Int) (c:Int) (d:Int) (e:Int) (i:Int) (j:Bool) (k:List It) (l:Str) (o:Int) (p:Int) (q:Int) (r:Int) (s:Int) (t:Int) (u:Bool):Option (Bool×Unit):=
  if (decide (a=(2:Int))) then
  (if (decide (a=(2:Int))) then (Zal.j17 n b c d e i j k l o p q r s t u)
  else (Zal.j18 n a b c d e i j k l o p q r s t u))
  else
  (if (decide (a=(5:Int))) then
  (if (decide (a=(5:Int))) then (Zal.j17 n b c d e i j k l o p q r s t u)
  else (Zal.j18 n a b c d e i j k l o p q r s t u))
  else
  (if (decide (a=(7:Int))) then (Zal.j17 n b c d e i j k l o p q r s t u)
  else (Zal.j18 n a b c d e i j k l o p q r s t u)))
def j9 (n:Nat) (a:Int) (b:Int) (c:Int) (d:Int) (e:Int) (i:Int) (j:Bool) (k:List It) (l:Str) (o:Int) (p:Int) (q:Int) (r:Int) (s:Int) (t:Int) (u:Bool):Option (Bool×Unit):=
  if (decide (a=(1:Int))) then
  (if (decide (a=(1:Int))) then (Zal.j13 n b c d e i j k l o p q r s t u)
  else (Zal.j14 n a b c d e i j k l o p q r s t u))
  else
  (if (decide (a=(3:Int))) then
  (if (decide (a=(3:Int))) then (Zal.j13 n b c d e i j k l o p q r s t u)
  else (Zal.j14 n a b c d e i j k l o p q r s t u))
  else
  (if (decide (a=(4:Int))) then
  (if (decide (a=(4:Int))) then (Zal.j13 n b c d e i j k l o p q r s t u)
  else (Zal.j14 n a b c d e i j k l o p q r s t u))
  else
  (if (decide (a=(6:Int))) then (Zal.j13 n b c d e i j k l o p q r s t u)
  else (Zal.j14 n a b c d e i j k l o p q r s t u))))
def f (n:Nat) (a:Int) (b:Int) (c:Int) (d:Int) (e:Int) (i:Bool) (j:List It) (k:Str):Option (Bool×Unit):=
  (Zcn.g a b c d e i j k).bind fun y1=>
  if (!((decide (a=(10:Int))) == (!(decide (k=([]:Str)))))) then (some (false,()))
  else
  (if (decide (a=(0:Int))) then
  (if (decide (a=(0:Int))) then
  (Zal.j8 n (decide (a=(10:Int))) a b c d e i j k y1.1 y1.2.1 y1.2.2.1 y1.2.2.2.1 y1.2.2.2.2.1 y1.2.2.2.2.2.1 y1.2.2.2.2.2.2.1)
  else
  (Zal.j9 n a a b c d e i j k y1.1 y1.2.1 y1.2.2.1 y1.2.2.2.1 y1.2.2.2.2.1 y1.2.2.2.2.2.1 y1.2.2.2.2.2.2.1))
  else
  (if (decide (a=(10:Int))) then
  (Zal.j8 n (decide (a=(10:Int))) a b c d e i j k y1.1 y1.2.1 y1.2.2.1 y1.2.2.2.1 y1.2.2.2.2.1 y1.2.2.2.2.2.1 y1.2.2.2.2.2.2.1)
  else
  (Zal.j9 n a a b c d e i j k y1.1 y1.2.1 y1.2.2.1 y1.2.2.2.1 y1.2.2.2.2.1 y1.2.2.2.2.2.1 y1.2.2.2.2.2.2.1)))
def g (a:Int) (b:Int) (c:Int) (d:Int) (e:Int) (i:Bool) (j:List It) (k:Str):Option (Bool×Unit):=f (1000+a.toNat+b.toNat+c.toNat+d.toNat+e.toNat+j.length+k.length) a b c d e i j k
end Zal
namespace Zcz
def j9 (n:Nat) (a:Int) (b:Int) (c:Int) (d:Int) (e:Int) (i:Bool) (j:List It) (k:Str):Option (Str×Unit):=
  (Zac.g a b i).bind fun y1=>
  some (y1.1,())
def f (n:Nat) (a:Int) (b:Int) (c:Int) (d:Int) (e:Int) (i:Bool) (j:List It) (k:Str):Option (Str×Unit):=
  if (decide (a=(2:Int))) then
  ((Zac.g (1:Int) b i).bind fun y1=>
  some (y1.1,()))
  else
  (if (decide (a=(6:Int))) then
  ((Zac.g (7:Int) b i).bind fun y2=>
  some (y2.1,()))
  else
  (if (decide (a=(9:Int))) then
  (if (decide (a=(9:Int))) then
  ((Zac.g a (0:Int) false).bind fun y3=>
  if ([46]:Str).length+y3.1.length≤9223372036854775807 then (some ((([46]:Str)++y3.1),())) else none)
  else (Zcz.j9 n a b c d e i j k))
  else
  (if (decide (a=(10:Int))) then
  ((Zac.g a (0:Int) false).bind fun y4=>
  if ([46]:Str).length+y4.1.length≤9223372036854775807 then (some ((([46]:Str)++y4.1),())) else none)
  else (Zcz.j9 n a b c d e i j k))))
def g (a:Int) (b:Int) (c:Int) (d:Int) (e:Int) (i:Bool) (j:List It) (k:Str):Option (Str×Unit):=f (1000+a.toNat+b.toNat+c.toNat+d.toNat+e.toNat+j.length+k.length) a b c d e i j k
end Zcz
namespace Zda
def j26 (n:Nat) (a:Str):Option ((List Str)×Unit):=
  some (([a]:List Str),())
def f (n:Nat) (a:Int) (b:Int) (c:Int) (d:Int) (e:Int) (i:Bool) (j:List It) (k:Str):Option ((List Str)×Unit):=
  (Zaf.g j).bind fun y1=>
  (Zbo.g c).bind fun y2=>
  (Zbo.g d).bind fun y3=>
  (Zbo.g e).bind fun y4=>
  if (decide (a=(1:Int))) then
  (if (decide (b=(0:Int))) then (some (([y2.1,y4.1]:List Str),()))
  else (some (([y2.1,y3.1,y4.1]:List Str),())))
  else
  (if (decide (a=(2:Int))) then
  (if (decide (b=(0:Int))) then (some (([y2.1,y1.1]:List Str),()))
  else (some (([y2.1,y3.1,y1.1]:List Str),())))
  else
  (if (decide (a=(3:Int))) then
  (if (decide (a=(3:Int))) then (some (([y2.1]:List Str),()))
  else
  (if (decide (a=(5:Int))) then (some (([y2.1,y3.1,y1.1]:List Str),()))
  else
  (if (decide (a=(6:Int))) then (some (([y4.1]:List Str),()))
  else
  (if (decide (a=(8:Int))) then
  (if ([61,32]:Str).length+y1.1.length≤9223372036854775807 then (some (([y2.1,(([61,32]:Str)++y1.1)]:List Str),())) else none)
  else
  (if (decide (a=(10:Int))) then (some (([k]:List Str),()))
  else (Zda.j26 n y1.1))))))
  else
  (if (decide (a=(4:Int))) then (some (([y2.1]:List Str),()))
  else
  (if (decide (a=(5:Int))) then (some (([y2.1,y3.1,y1.1]:List Str),()))
  else
  (if (decide (a=(6:Int))) then (some (([y4.1]:List Str),()))
  else
  (if (decide (a=(8:Int))) then
  (if ([61,32]:Str).length+y1.1.length≤9223372036854775807 then (some (([y2.1,(([61,32]:Str)++y1.1)]:List Str),())) else none)
  else
  (if (decide (a=(10:Int))) then (some (([k]:List Str),()))
  else (Zda.j26 n y1.1))))))))
def g (a:Int) (b:Int) (c:Int) (d:Int) (e:Int) (i:Bool) (j:List It) (k:Str):Option ((List Str)×Unit):=f (1000+a.toNat+b.toNat+c.toNat+d.toNat+e.toNat+j.length+k.length) a b c d e i j k
end Zda
namespace Zao
def j17 (n:Nat) (rl13:Str→(List Str)→Int→Option (Str×Int×Unit)) (a:Str) (b:List Str) (c:Int):Option (Str×Int×Unit):=
  if a.length+([32]:Str).length≤9223372036854775807 then
  (if 0≤c∧c < (b.length:Int) then
  (if (a++([32]:Str)).length+(b.getD (c).toNat ([]:Str)).length≤9223372036854775807 then
  (rl13 ((a++([32]:Str))++(b.getD (c).toNat ([]:Str))) b (IntKind.i64.wrap (c+(1:Int)))) else none) else none) else none
def l13 (n:Nat):Nat→Str→(List Str)→Int→Option (Str×Int×Unit)
 | 0,_,_,_=>none
 | m+1,a,b,c=>
  if (decide (c < (b.length:Int))) then
  (if (decide ((0:Int) < c)) then
  (if a.length+([44]:Str).length≤9223372036854775807 then
  (Zao.j17 n (Zao.l13 n m) (a++([44]:Str)) b c) else none)
  else
  (Zao.j17 n (Zao.l13 n m) a b c))
  else (some (a,(0:Int),()))
def j10 (n:Nat) (a:Str) (b:Int) (c:Int) (d:Int) (e:Int) (i:Int) (j:Bool) (k:List It) (l:Str):Option (Str×Int×Unit):=
  (Zcz.g b c d e i j k l).bind fun y1=>
  if a.length+y1.1.length≤9223372036854775807 then
  ((Zda.g b c d e i j k l).bind fun y2=>
  Zao.l13 n n (a++y1.1) y2.1 (0:Int)) else none
def j6 (n:Nat) (a:Str) (b:Str) (c:Int) (d:Int) (e:Int) (i:Int) (j:Int) (k:Bool) (l:List It) (o:Str):Option (Str×Int×Unit):=
  if (decide (c=(0:Int))) then (some (b,(0:Int),()))
  else
  (if (!(decide (a=([]:Str)))) then
  (if b.length+([32]:Str).length≤9223372036854775807 then
  (Zao.j10 n (b++([32]:Str)) c d e i j k l o) else none)
  else (Zao.j10 n b c d e i j k l o))
def j3 (n:Nat) (a:Str) (b:Int) (c:Int) (d:Int) (e:Int) (i:Int) (j:Bool) (k:List It) (l:Str):Option (Str×Int×Unit):=
  if (!(decide (a=([]:Str)))) then
  (if a.length+([58]:Str).length≤9223372036854775807 then
  (Zao.j6 n a (a++([58]:Str)) b c d e i j k l) else none)
  else (Zao.j6 n a ([]:Str) b c d e i j k l)
def f (n:Nat) (a:Str) (b:Int) (c:Int) (d:Int) (e:Int) (i:Int) (j:Bool) (k:List It) (l:Str):Option (Str×Int×Unit):=
  if (!(decide (a=([]:Str)))) then
  ((Zbi.g a).bind fun y1=>
  if (!y1.1)=false then
  ((Zal.g b c d e i j k l).bind fun y2=>
  if (!y2.1) then (some (([]:Str),(22:Int),()))
  else (Zao.j3 n a b c d e i j k l))
  else (some (([]:Str),(22:Int),())))
  else
  ((Zal.g b c d e i j k l).bind fun y3=>
  if (!y3.1) then (some (([]:Str),(22:Int),()))
  else (Zao.j3 n a b c d e i j k l))
def g (a:Str) (b:Int) (c:Int) (d:Int) (e:Int) (i:Int) (j:Bool) (k:List It) (l:Str):Option (Str×Int×Unit):=f (1000+a.length+b.toNat+c.toNat+d.toNat+e.toNat+i.toNat+k.length+l.length) a b c d e i j k l
end Zao
namespace Zec
def f (n:Nat) (a:Int) (b:Int) (c:Int) (d:Int) (e:Int) (i:Bool) (j:List It) (k:Str) (l:Int) (o:Int) (p:Int) (q:Int) (r:Int) (s:Bool) (t:List It) (u:Str):Option (Bool×Unit):=
  (Zcn.g a b c d e i j k).bind fun y1=>
  (Zcn.g l o p q r s t u).bind fun y2=>
  if (decide (y1.1=y2.1) && (decide (y1.2.1=y2.2.1) && (decide (y1.2.2.1=y2.2.2.1) && (decide (y1.2.2.2.1=y2.2.2.2.1) && (decide (y1.2.2.2.2.1=y2.2.2.2.2.1) && (decide (y1.2.2.2.2.2.1=y2.2.2.2.2.2.1) && ((y1.2.2.2.2.2.2.1 == y2.2.2.2.2.2.2.1) && true))))))) then
  ((Zck.g j t).bind fun y3=>
  if y3.1 then (some ((decide (k=u)),()))
  else (some (false,())))
  else (some (false,()))
def g (a:Int) (b:Int) (c:Int) (d:Int) (e:Int) (i:Bool) (j:List It) (k:Str) (l:Int) (o:Int) (p:Int) (q:Int) (r:Int) (s:Bool) (t:List It) (u:Str):Option (Bool×Unit):=f (1000+a.toNat+b.toNat+c.toNat+d.toNat+e.toNat+j.length+k.length+l.toNat+o.toNat+p.toNat+q.toNat+r.toNat+t.length+u.length) a b c d e i j k l o p q r s t u
end Zec
end Rv
namespace Rv
open Go
set_option maxRecDepth 100000
namespace Zed
def f (n:Nat) (a:Str):Option (Str×Int×Int×Int×Int×Int×Bool×(List It)×Str×Int×Unit):=
  (Zam.g a).bind fun y1=>
  if (decide (y1.2.1≠(0:Int))) then
  (some (([]:Str),0,0,0,0,0,false,[],([]:Str),y1.2.1,()))
  else
  ((Zab.g y1.1).bind fun y2=>
  some (y2.1,y2.2.1,y2.2.2.1,y2.2.2.2.1,y2.2.2.2.2.1,y2.2.2.2.2.2.1,y2.2.2.2.2.2.2.1,y2.2.2.2.2.2.2.2.1,y2.2.2.2.2.2.2.2.2.1,y2.2.2.2.2.2.2.2.2.2.1,()))
def g (a:Str):Option (Str×Int×Int×Int×Int×Int×Bool×(List It)×Str×Int×Unit):=f (1000+a.length) a
end Zed
namespace Zcp
def l5 (n:Nat):Nat→(List Ln)→(List Str)→Int→Int→Option ((List Ln)×Int×Int×Unit)
 | 0,_,_,_,_=>none
 | m+1,a,b,c,d=>
  if (decide (d < c)) then
  (if 0≤d∧d < (b.length:Int) then
  ((Zed.g (b.getD (d).toNat ([]:Str))).bind fun y1=>
  if (decide (y1.2.2.2.2.2.2.2.2.2.1≠(0:Int))) then
  (some ([],(IntKind.i64.wrap (d+(1:Int))),y1.2.2.2.2.2.2.2.2.2.1,()))
  else
  (if (a.length+([(y1.1,(y1.2.1,y1.2.2.1,y1.2.2.2.1,y1.2.2.2.2.1,y1.2.2.2.2.2.1,y1.2.2.2.2.2.2.1,y1.2.2.2.2.2.2.2.1,y1.2.2.2.2.2.2.2.2.1,()),())]:List Ln).length) * 104≤140737488355328∧0 < 104∧0 < 9 then
  ((Zcp.l5 n m) (a++([(y1.1,(y1.2.1,y1.2.2.1,y1.2.2.2.1,y1.2.2.2.2.1,y1.2.2.2.2.2.1,y1.2.2.2.2.2.2.1,y1.2.2.2.2.2.2.2.1,y1.2.2.2.2.2.2.2.2.1,()),())]:List Ln)) b c (IntKind.i64.wrap (d+(1:Int)))) else none)) else none)
  else (some (a,(0:Int),(0:Int),()))
def f (n:Nat) (a:List Str):Option ((List Ln)×Int×Int×Unit):=
  if (decide ((4096:Int) < (a.length:Int))) then (some ([],(0:Int),(2:Int),()))
  else
  (Zcp.l5 n n ([]) a (a.length:Int) (0:Int))
def g (a:List Str):Option ((List Ln)×Int×Int×Unit):=f (1000+a.length) a
end Zcp
namespace Zbx
def j7 (n:Nat) (a:List Str):Option ((List Ln)×Int×Int×Unit):=
  (Zcp.g a).bind fun y1=>
  some (y1.1,y1.2.1,y1.2.2.1,())
def f (n:Nat) (a:Str):Option ((List Ln)×Int×Int×Unit):=
  if (decide ((262144:Int) < (a.length:Int))) then (some ([],(0:Int),(2:Int),()))
  else
  ((L.splitO a ([10]:Str)).bind fun y1=>
  if 0≤(IntKind.i64.wrap ((y1.1.length:Int) - (1:Int)))∧(IntKind.i64.wrap ((y1.1.length:Int) - (1:Int))) < (y1.1.length:Int) then
  (if (decide ((y1.1.getD ((IntKind.i64.wrap ((y1.1.length:Int) - (1:Int)))).toNat ([]:Str))=([]:Str))) then
  (if 0≤(IntKind.i64.wrap ((y1.1.length:Int) - (1:Int)))∧(IntKind.i64.wrap ((y1.1.length:Int) - (1:Int)))≤(y1.1.length:Int) then
  (Zbx.j7 n ((y1.1.take (((IntKind.i64.wrap ((y1.1.length:Int) - (1:Int)))).toNat)).drop 0)) else none)
  else (Zbx.j7 n y1.1)) else none)
def g (a:Str):Option ((List Ln)×Int×Int×Unit):=f (1000+a.length) a
end Zbx
namespace Zbu
def j5 (n:Nat) (rl4:Str→(List Str)→Int→Int→Option ((List Str)×Unit)) (a:Str) (b:List Str) (c:Int) (d:Int):Option ((List Str)×Unit):=
  rl4 a b c (IntKind.i64.wrap (d+(1:Int)))
def l4 (n:Nat):Nat→Str→(List Str)→Int→Int→Option ((List Str)×Unit)
 | 0,_,_,_,_=>none
 | m+1,a,b,c,d=>
  if (decide (d < (a.length:Int))) then
  (if 0≤d∧d < (a.length:Int) then
  (if (decide ((bt a d)=(10:Int))) then
  (if 0≤d∧d≤(a.length:Int) then
  (if 0≤c∧c≤d then
  (if (b.length+([((a.take ((d).toNat)).drop ((c).toNat))]:List Str).length) * 16≤140737488355328∧0 < 16∧0 < 1 then
  (Zbu.j5 n (Zbu.l4 n m) a (b++([((a.take ((d).toNat)).drop ((c).toNat))]:List Str)) (IntKind.i64.wrap (d+(1:Int))) d) else none) else none) else none)
  else
  (Zbu.j5 n (Zbu.l4 n m) a b c d)) else none)
  else
  (if (decide (c < (a.length:Int))) then
  (if 0≤c∧c≤(a.length:Int) then
  (if (b.length+([((a.take (((a.length:Int)).toNat)).drop ((c).toNat))]:List Str).length) * 16≤140737488355328∧0 < 16∧0 < 1 then
  (some ((b++([((a.take (((a.length:Int)).toNat)).drop ((c).toNat))]:List Str)),())) else none) else none)
  else (some (b,())))
def f (n:Nat) (a:Str):Option ((List Str)×Unit):=
  Zbu.l4 n n a ([]:List Str) (0:Int) (0:Int)
def g (a:Str):Option ((List Str)×Unit):=f (1000+a.length) a
end Zbu
namespace Zcq
def l8 (n:Nat):Nat→(List Str)→(List Ln)→Int→Option ((List Ln)×Int×Int×Unit)
 | 0,_,_,_=>none
 | m+1,a,b,c=>
  if (decide (c < (a.length:Int))) then
  (if 0≤c∧c < (a.length:Int) then
  ((Zah.g (a.getD (c).toNat ([]:Str))).bind fun y1=>
  if (decide (y1.2.1≠(0:Int))) then (some ([],(IntKind.i64.wrap (c+(1:Int))),y1.2.1,()))
  else
  ((Zan.g y1.1).bind fun y2=>
  if (decide (y2.2.2.2.2.2.2.2.2.2.1≠(0:Int))) then
  (some ([],(IntKind.i64.wrap (c+(1:Int))),y2.2.2.2.2.2.2.2.2.2.1,()))
  else
  (if (b.length+([(y2.1,(y2.2.1,y2.2.2.1,y2.2.2.2.1,y2.2.2.2.2.1,y2.2.2.2.2.2.1,y2.2.2.2.2.2.2.1,y2.2.2.2.2.2.2.2.1,y2.2.2.2.2.2.2.2.2.1,()),())]:List Ln).length) * 104≤140737488355328∧0 < 104∧0 < 9 then
  ((Zcq.l8 n m) a (b++([(y2.1,(y2.2.1,y2.2.2.1,y2.2.2.2.1,y2.2.2.2.2.1,y2.2.2.2.2.2.1,y2.2.2.2.2.2.2.1,y2.2.2.2.2.2.2.2.1,y2.2.2.2.2.2.2.2.2.1,()),())]:List Ln)) (IntKind.i64.wrap (c+(1:Int)))) else none))) else none)
  else (some (b,(0:Int),(0:Int),()))
def f (n:Nat) (a:Str):Option ((List Ln)×Int×Int×Unit):=
  if (decide ((262144:Int) < (a.length:Int))) then (some ([],(0:Int),(2:Int),()))
  else
  ((Zbu.g a).bind fun y1=>
  if (decide ((4096:Int) < (y1.1.length:Int))) then (some ([],(0:Int),(2:Int),()))
  else
  (Zcq.l8 n n y1.1 ([]:List Ln) (0:Int)))
def g (a:Str):Option ((List Ln)×Int×Int×Unit):=f (1000+a.length) a
end Zcq
namespace Zee
def f (n:Nat) (a:Str) (b:Int) (c:Int) (d:Int) (e:Int) (i:Int) (j:Bool) (k:List It) (l:Str):Option (Str×Int×Unit):=
  (Zad.g a b c d e i j k l).bind fun y1=>
  some (y1.1,y1.2.1,())
def g (a:Str) (b:Int) (c:Int) (d:Int) (e:Int) (i:Int) (j:Bool) (k:List It) (l:Str):Option (Str×Int×Unit):=f (1000+a.length+b.toNat+c.toNat+d.toNat+e.toNat+i.toNat+k.length+l.length) a b c d e i j k l
end Zee
namespace Zdb
def l5 (n:Nat):Nat→(List Str)→(List Ln)→Int→Int→Option ((List Str)×Int×Int×Unit)
 | 0,_,_,_,_=>none
 | m+1,a,b,c,d=>
  if (decide (d < c)) then
  (if 0≤d∧d < (b.length:Int) then
  ((Zee.g ((b.getD (d).toNat zL).1) ((((b.getD (d).toNat zL).2).1).1) (((((b.getD (d).toNat zL).2).1).2).1) ((((((b.getD (d).toNat zL).2).1).2).2).1) (((((((b.getD (d).toNat zL).2).1).2).2).2).1) ((((((((b.getD (d).toNat zL).2).1).2).2).2).2).1) (((((((((b.getD (d).toNat zL).2).1).2).2).2).2).2).1) ((((((((((b.getD (d).toNat zL).2).1).2).2).2).2).2).2).1) (((((((((((b.getD (d).toNat zL).2).1).2).2).2).2).2).2).2).1)).bind fun y1=>
  if (decide (y1.2.1≠(0:Int))) then (some ([],(IntKind.i64.wrap (d+(1:Int))),y1.2.1,()))
  else
  (if (a.length+([y1.1]:List Str).length) * 16≤140737488355328∧0 < 16∧0 < 1 then
  ((Zdb.l5 n m) (a++([y1.1]:List Str)) b c (IntKind.i64.wrap (d+(1:Int)))) else none)) else none)
  else (some (a,(0:Int),(0:Int),()))
def f (n:Nat) (a:List Ln):Option ((List Str)×Int×Int×Unit):=
  if (decide ((4096:Int) < (a.length:Int))) then (some ([],(0:Int),(2:Int),()))
  else
  (Zdb.l5 n n ([]) a (a.length:Int) (0:Int))
def g (a:List Ln):Option ((List Str)×Int×Int×Unit):=f (1000+a.length) a
end Zdb
namespace Zef
def f (n:Nat) (a:List Ln):Option (Str×Int×Int×Unit):=
  (Zdb.g a).bind fun y1=>
  if (decide (y1.2.2.1≠(0:Int))) then (some (([]:Str),y1.2.1,y1.2.2.1,()))
  else
  (if (y1.1.length+([([]:Str)]:List Str).length) * 16≤140737488355328∧0 < 16∧0 < 1 then
  ((L.sjoinO (y1.1++([([]:Str)]:List Str)) ([10]:Str)).bind fun y2=>
  some (y2.1,(0:Int),(0:Int),())) else none)
def g (a:List Ln):Option (Str×Int×Int×Unit):=f (1000+a.length) a
end Zef
namespace Zcr
def l5 (n:Nat):Nat→(List Ln)→Str→Int→Option (Str×Int×Int×Unit)
 | 0,_,_,_=>none
 | m+1,a,b,c=>
  if (decide (c < (a.length:Int))) then
  (if 0≤c∧c < (a.length:Int) then
  (if 0≤c∧c < (a.length:Int) then
  ((Zao.g ((a.getD (c).toNat zL).1) ((((a.getD (c).toNat zL).2).1).1) (((((a.getD (c).toNat zL).2).1).2).1) ((((((a.getD (c).toNat zL).2).1).2).2).1) (((((((a.getD (c).toNat zL).2).1).2).2).2).1) ((((((((a.getD (c).toNat zL).2).1).2).2).2).2).1) (((((((((a.getD (c).toNat zL).2).1).2).2).2).2).2).1) ((((((((((a.getD (c).toNat zL).2).1).2).2).2).2).2).2).1) (((((((((((a.getD (c).toNat zL).2).1).2).2).2).2).2).2).2).1)).bind fun y1=>
  if (decide (y1.2.1≠(0:Int))) then
  (some (([]:Str),(IntKind.i64.wrap (c+(1:Int))),y1.2.1,()))
  else
  (if b.length+y1.1.length≤9223372036854775807 then
  (if (b++y1.1).length+([10]:Str).length≤9223372036854775807 then
  ((Zcr.l5 n m) a ((b++y1.1)++([10]:Str)) (IntKind.i64.wrap (c+(1:Int)))) else none) else none)) else none) else none)
  else (some (b,(0:Int),(0:Int),()))
def f (n:Nat) (a:List Ln):Option (Str×Int×Int×Unit):=
  if (decide ((4096:Int) < (a.length:Int))) then (some (([]:Str),(0:Int),(2:Int),()))
  else (Zcr.l5 n n a ([]:Str) (0:Int))
def g (a:List Ln):Option (Str×Int×Int×Unit):=f (1000+a.length) a
end Zcr
namespace Zch
def l4 (n:Nat):Nat→(List Ln)→(List Ln)→Int→Option (Bool×Unit)
 | 0,_,_,_=>none
 | m+1,a,b,c=>
  if (decide (c < (a.length:Int))) then
  (if 0≤c∧c < (a.length:Int) then
  (if 0≤c∧c < (b.length:Int) then
  ((Zec.g ((((a.getD (c).toNat zL).2).1).1) (((((a.getD (c).toNat zL).2).1).2).1) ((((((a.getD (c).toNat zL).2).1).2).2).1) (((((((a.getD (c).toNat zL).2).1).2).2).2).1) ((((((((a.getD (c).toNat zL).2).1).2).2).2).2).1) (((((((((a.getD (c).toNat zL).2).1).2).2).2).2).2).1) ((((((((((a.getD (c).toNat zL).2).1).2).2).2).2).2).2).1) (((((((((((a.getD (c).toNat zL).2).1).2).2).2).2).2).2).2).1) ((((b.getD (c).toNat zL).2).1).1) (((((b.getD (c).toNat zL).2).1).2).1) ((((((b.getD (c).toNat zL).2).1).2).2).1) (((((((b.getD (c).toNat zL).2).1).2).2).2).1) ((((((((b.getD (c).toNat zL).2).1).2).2).2).2).1) (((((((((b.getD (c).toNat zL).2).1).2).2).2).2).2).1) ((((((((((b.getD (c).toNat zL).2).1).2).2).2).2).2).2).1) (((((((((((b.getD (c).toNat zL).2).1).2).2).2).2).2).2).2).1)).bind fun y1=>
  if (!y1.1)=false then
  (if 0≤c∧c < (a.length:Int) then
  (if 0≤c∧c < (b.length:Int) then
  (if (!(decide ((a.getD (c).toNat zL).1=(b.getD (c).toNat zL).1))) then (some (false,()))
  else
  ((Zch.l4 n m) a b (IntKind.i64.wrap (c+(1:Int))))) else none) else none)
  else (some (false,()))) else none) else none)
  else (some (true,()))
def f (n:Nat) (a:List Ln) (b:List Ln):Option (Bool×Unit):=
  if (decide ((a.length:Int)≠(b.length:Int))) then (some (false,()))
  else (Zch.l4 n n a b (0:Int))
def g (a:List Ln) (b:List Ln):Option (Bool×Unit):=f (1000+a.length+b.length) a b
end Zch
end Rv
