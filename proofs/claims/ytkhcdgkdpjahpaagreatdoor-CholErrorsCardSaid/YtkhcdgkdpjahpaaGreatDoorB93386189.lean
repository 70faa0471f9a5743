/-
  Parts of the proof: Pm21, Pm23, Pm24, Pm25, Pm26, Pm27, Pm29, Pm30, Pm31, Pm51, Pm52, Pm53, Pm54, Pm55, Pm56, Pm37, Pm57, Pm58, Pm59: the framework (Fw), pure forms (Dn), plain laws (Pl, Th), calls of functions (Ok).
-/
import Derived.Test.YtkhcdgkdpjahpaaGreatDoorB750d3b51

set_option linter.all false
set_option maxHeartbeats 1000000
noncomputable section
namespace Go.h1
variable{a c g h:Nat}{b e:Int}{d:Nat->Nat->cJ}{f j k:cP}{i:cE}{l:Int->Prop}
def b0 (a:cE):Nat->cP
 |0=>[]
 |j+1=>b0 a j++be a j
def iZ (a:Nat->Nat->cJ) (b:cE):Nat->cP
 |0=>[]
 |j+1=>iZ a b j++fi a b j
def fA (c:Nat->Nat->cJ) (a:cE) (e:cP) (b:Nat):gI:=(e,(aS (b+1) (λd=>((b0 a d).length:Int)),(b0 a b,(iZ c a b,()))))
def m4:gI:=(([]:a7),(([]:a7),(([]:a7),(([]:a7),()))))
def m0 (b:Nat->Nat->cJ) (c:cE) (e:cP) (d:Nat):wB:=match(List.range d).find? λa=>decide (fb b c a≠0) with
 |some a=>if fb b c a=231 then(m4,(a:Int),231,()) else(m4,0,fb b c a,())
 |none=>(fA b c e d,(d:Int),0,())
def NT {o:cP} (e:∀b,b<a->fb d i b=0) (g:a<c) (f:fb d i a≠0):m0 d i o c=if fb d i a=231 then(m4,(a:Int),231,()) else(m4,0,fb d i a,()):=by have:(List.range c).find? (λa=>decide (fb d i a≠0))=some a:=(by rw[List.find?_eq_some_iff_getElem];refine⟨aC f,a,by simpa using g,ab,λb h=>?_⟩;simp only[List.getElem_range];simpa using e b h);unfold m0;rw[this]
def FR (c:∀b,b<a->fb d i b=0):m0 d i f a=(fA d i f a,(a:Int),0,()):=by have:(List.range a).find? (λg=>decide (fb d i g≠0))=none:=(by rw[wk];intro b e;simpa using c b (ha.1 e));unfold m0;rw[this]
def AN (b:fb d i a=0):∀c,aU i a c=true->a8 (a9 d (aU i) a c)≠2047:=by
 unfold fb at b;split at b
 ·cases b
 split at b
 ·assumption
 cases b
def M1 (c:∀b,b<a->fb d i b=0):lM d i a:=λb e=>AN (c b e)
def Bg (a:cE):∀j,(b0 a j).length<=j*a.length
 |0=>eL _
 |j+1=>by rw[b0,jZ,e2,fG];have:=Bg a j;have:=tX (G:=a) j;omega
def v8 (b:Nat->Nat->cJ) (a:cE):∀j,(iZ b a j).length=(b0 a j).length
 |0=>rfl
 |j+1=>by rw[b0,iZ,jZ,jZ,v8 b a j];unfold fi;rw[gR]
def K9 (c:f.length<=100000000):xI (f,())=some (f,()):=by
 unfold xI;have a:((dd (([]:cP).length+f.length)).bind λ_=>some (([]++f:cP),()))=some (f,()):=(by rw[eF (by simp;omega)];rfl);show lz f.length (some ([],())) ((dd (([]:cP).length+f.length)).bind λ_=>some (([]++f:cP),()))=_;unfold lz;rw[a];split
 ·rename_i b;obtain rfl:=k7 b;rw[al rfl]
 rfl
def MC (r:a<=5) (p:i.length=a) (s:f.length<=1000000) (c:List gq) (h:cE):wV (some (aS a (be i),aS a (fi d i),c,h,()),f,())=some (fA d i f a,()):=by
 unfold wV;refine ao (K9 U) ?_;refine ao rfl ?_;refine ac.eq_iff.1 ?_;dsimp only;refine ac.aX (P:=λg=>g=(m4,fA d i f a,())) ?_ (by rintro _ rfl;exact ac.aj.2 rfl);refine ac.steps a (λb j=>j=((b:Int),m4,(f,(aS (b+1) (λe=>((b0 i e).length:Int)),(b0 i b,(iZ d i b,())))),())) ?_ ?_ ?_
 ·rfl
 ·rintro b _ q rfl;dsimp only;rw[bw (aC (show(b:Int)<au (aS a (be i)) by rw[a1,dy];omega)),br U];refine ac.bs rfl ?_;refine ac.bs (by rw[da (by rw[dy];omega),iM]) ?_;have k:=Bg i b;have l:=tX (G:=i) b;have m:=v8 d i b;have n:b*i.length<=5*5:=Nat.mul_le_mul U U;have o:(fi d i b).length=(be i b).length:=(by unfold fi;rw[List.length_map]);rw[eF U];refine ac.bs rfl (ac.bs rfl ?_);refine ac.bs (by rw[da (by rw[dy];omega),iM]) ?_;rw[eF U];refine ac.bs rfl ?_;rw[eF (by rw[dy];simp;omega)];refine ac.bs rfl (ac.aj.2 ?_);rw[u0 (b+1)];rfl
 rintro _ rfl;dsimp only;rw[bq (ay (show¬((a:Int)<au (aS a (be i))) by rw[a1,dy];omega))];exact ac.aj.2 rfl
def Dg {n:Nat} {c:cP} (h:n<=5) (e:h9 n n k j c) (H:gK n n k j c=0) (q:fc f n):oY (((n:Int),(n:Int),k,j,c,()),f,())=some (m0 (bd (bU k j c n) f) (kb n (gW (bU k j c n)) f) f n):=by
 obtain⟨z,D,F⟩:=JJ h e H q;have r:=Fq (E:=gW (bU k j c n)) q;have C:=M3 n (gW (bU k j c n)) f;have B:=M2 (E:=gW (bU k j c n)) h q;have L:=q.1;unfold oY;refine ao F ?_;dsimp only;rw[bq (show((0:Int)!=0)=false from rfl)];generalize kb n (gW (bU k j c n)) f=b at*;generalize bU k j c n=E at*;refine ao (KE h r C B z) (ao rfl ?_);refine ac.eq_iff.1 ?_;dsimp only;refine ac.aX (P:=λt=>(t=.inr (m0 (bd E f) b f n))\/(∃d,t=.inl (m4,(aS n (be b),aS n (fi (bd E f) b),d,(aS n λs=>fE b n s),()),()))/\m0 (bd E f) b f n=(fA (bd E f) b f n,(n:Int),0,())) ?_ ?_
 ·refine ac.steps n (λg I=>(∀a,a<g->fb (bd E f) b a=0)/\∃d,jQ (bd E f) b n g d/\I=((g:Int),m4,(aS n (be b),(aS n λa=>if a<g then fi (bd E f) b a else[]),d,(aS n λs=>fE b n s),()),())) ?_ ?_ ?_
  ·exact⟨λa e=>absurd e U,aS n (λ_=>none),⟨dy _ _,λa e=>absurd e U⟩,rfl⟩
  ·rintro g _ y ⟨i,d,v,rfl⟩;dsimp only;rw[bw (aC (U:(g:Int)<(n:Int))),br U];refine ac.aX (Lk h D r y (M1 i) v) ?_;rintro⟨J,K,_⟩ ⟨x,w⟩;dsimp only at x w|-;subst x;rw[dD,bo];refine ac.ite (λl=>?_) (λl=>?_)
   ·obtain⟨A,G,rfl⟩:=w l;refine ac.aj.2 ⟨λa e=>?_,A,G,rfl⟩;rcases bj a g with p|p
    ·exact i a p
    obtain rfl:a=g:=U;exact l
   rw[dD,bo];have u:=NT (o:=f) i y l;refine ac.ite (λm=>?_) (λm=>?_)
   ·refine ac.aj.2 (.inl ?_);rw[u,al m,m];rfl
   refine ac.aj.2 (.inl ?_);rw[u,ah m];rfl
  rintro _ ⟨i,d,v,rfl⟩;dsimp only;rw[bq (ay (U:¬((n:Int)<(n:Int))))];refine ac.aj.2 (.inr ⟨⟨d,?_⟩,FR i⟩);have:(aS n λa=>if a<n then fi (bd E f) b a else[])=aS n (fi (bd E f) b):=fg λa e=>if_pos e;rw[this]
 rintro t (rfl|⟨⟨d,rfl⟩,p⟩)
 ·exact ac.aj.2 rfl
 dsimp only;refine ac.bs (MC h r U d _) ?_;rw[p];exact ac.aj.2 rfl
def JD {b:cP} (e:h9 c a k f b) (g:j.length<=1000000) (d:pP c a k f b j≠0):oY (((c:Int),(a:Int),k,f,b,()),j,())=some (m4,0,pP c a k f b j,()):=by unfold oY;refine ao (JI e g d) ?_;dsimp only;rw[dA,ay d];rfl
def rQ (b:Nat->Nat->cJ) (c:cE) (a:Nat):Prop:=lC (gA b (a9 b (aU c)) a a)<=0\/qU (a9 b (aU c) a a)=0
def EW (b:rQ d i a):fb d i a=231:=by unfold fb;exact al b
def EV (b:¬rQ d i a) (e:∀g∈be i a,a8 (a9 d (aU i) a g.toNat)≠2047):fb d i a=0:=by unfold rQ at b;unfold fb;rw[ah b,al];intro f c;exact e (f:Int) (by unfold aU at c;exact of_decide_eq_true c)
def vv {m:Int} {a k:Nat} (b:m.natAbs=2*a+1):aR (m*2^k)=m/\bh (m*2^k)=(k:Int)-65536:=by have c:(m*2^k).natAbs=(2*a+1)*2^k:=(by rw[eR,b]);have d:=td c;unfold aR bh;rw[d];exact⟨Int.mul_ediv_cancel _ (by have:(0:Int)<2^k:=i9 aa;omega),rfl⟩
def Cm (c:b≠0) (a:Nat):b*2^a≠0:=Int.mul_ne_zero c (by have:(0:Int)<2^a:=i9 aa;omega)
def BM {m:Int} {a:Nat} (e:m.natAbs=2*a+1) {t:Nat} (n:b+t+65536=(c:Int)) (k:-65536<=b) (l:b+t+aw m.natAbs<=65536):ed (m*2^t) b=some (m*2^c):=by have j:m≠0:=U;have f:(m*2^t).natAbs=(2*a+1)*2^t:=(by rw[eR,e]);have g:=td f;have h:aw (m*2^t).natAbs=aw m.natAbs+t:=(by rw[eR,ie U]);unfold ed;rw[ah (Cm j t),g,h,ah U];obtain⟨d,i⟩:=ea (U:0<=b+65536);rw[i];show some (mu (m*2^t) (d:Int))=_;rw[kY,fP,<-iC,(U:t+d=c)]
def AR {m:Int} {a t k:Nat} (d:b=m*2^t) (c:m.natAbs=2*a+1) (f:(t:Int)+65536=(k:Int)) (e:t+aw m.natAbs<=65536):gV b=some (m*2^k):=by unfold gV;rw[d];exact BM c U aa U
def AV {a:Nat} (e:b.natAbs=2*a+1) (f:0<b) (d:Int):kj (some (b*2^c)) d=g2 false b.natAbs ((c:Int)-65536) false d:=by obtain⟨g,h⟩:=vv (k:=c) e;show m9 (b*2^c) d=_;unfold m9;rw[ah (Cm U c),g,h,ay];have:(0:Int)<b*2^c:=mA f (i9 aa);omega
def Mq {a:Nat} (d:b.natAbs=2*a+1) (e:0<b):kT (some (b*2^c)) 0=s5 (hW b.natAbs ((c:Int)-65536)) b.natAbs ((c:Int)-65536) 0:=by obtain⟨f,g⟩:=vv (k:=c) d;have:(0:Int)<b*2^c:=mA e (i9 aa);show(if b*2^c<0 then(9221120237041090560:Int) else if b*2^c=0 then 0 else iX (b*2^c) 0)=_;rw[ah U,ah U];unfold iX;rw[f,g]
def Mp {d:Int} {a b:Nat} (i:e.natAbs=2*a+1) (j:0<e) (f:d.natAbs=2*b+1) (h:0<d):m7 (some (e*2^c)) (some (d*2^g)) 0=vF (ml e.natAbs d.natAbs) e.natAbs d.natAbs false ((c:Int)-65536-((g:Int)-65536)) 0:=by obtain⟨l,m⟩:=vv (k:=c) i;obtain⟨n,o⟩:=vv (k:=g) f;have p:(0:Int)<e*2^c:=mA j (i9 aa);have q:(0:Int)<d*2^g:=mA h (i9 aa);show(if d*2^g=0 then(9221120237041090560:Int) else if e*2^c=0 then 0 else mm (e*2^c) (d*2^g) 0)=_;rw[ah U,ah U];unfold mm;rw[l,m,n,o,ay U,ay U];rfl
def ym {a t:Nat} (d:e.natAbs=2*a+1) (h:(if b<9223372036854775808 then if a8 b=0 then dE b else dE b+4503599627370496 else-(if a8 b=0 then dE b else dE b+4503599627370496))=e*2^t) (g:a8 b≠2047) (i:(if a8 b=0 then-1074 else a8 b-1075)+(t:Int)+65536=(c:Int)) (f:(if a8 b=0 then-1074 else a8 b-1075)+(t:Int)+aw e.natAbs<=65536):bE b=some (e*2^c):=by unfold bE;rw[ah g,h];refine BM d i ?_ f;have:=uZ b;split<;>omega
def f4:kj (gV 4) 0=4616189618054758400:=by rw[AR (m:=1) (a:=0) (t:=2) (k:=65538) aa aa aa aa,AV (a:=0) aa aa];decide
def f2:kj (gV 2) 0=4611686018427387904:=by rw[AR (m:=1) (a:=0) (t:=1) (k:=65537) aa aa aa aa,AV (a:=0) aa aa];decide
def f5:kj (gV 5) 0=4617315517961601024:=by rw[AR (m:=5) (a:=2) (t:=0) (k:=65536) aa aa aa aa,AV (a:=2) aa aa];decide
def v4:bE 4616189618054758400=some (1*2^65538):=ym (a:=0) (t:=52) aa aa aa aa aa
def eu:bE 4611686018427387904=some (1*2^65537):=ym (a:=0) (t:=52) aa aa aa aa aa
def zC:bE 4617315517961601024=some (5*2^65536):=ym (a:=2) (t:=50) aa aa aa aa aa
def v1:bE 4607182418800017408=some (1*2^65536):=ym (a:=0) (t:=52) aa aa aa aa aa
def aP:kT (some (1*2^65538)) 0=4611686018427387904:=by rw[Mq (a:=0) aa aa];decide+kernel
def aq:m7 (some (1*2^65537)) (some (1*2^65537)) 0=4607182418800017408:=by rw[Mp (a:=0) (b:=0) aa aa aa aa];decide
def uW:cP:=[0,1,1]
def uX:cP:=[0,2,3]
def qL:cP:=[4616189618054758400,4611686018427387904,4617315517961601024]
def Ms:h9 2 2 uX uW qL where
 hr:=by decide
 hc:=by decide
 hi:=by decide
 hs:=by decide
 hv:=by decide
 hw:=λb a=>by unfold qL at a;simp only[dk,tB,or_false] at a;rcases a with rfl|rfl|rfl<;>exact⟨aa,aa⟩
def Mt:dR 2 2 uX uW qL where
 len:=rfl
 first:=rfl
 mono:=λb e=>by have:b=0\/b=1:=U;rcases this with rfl|rfl<;>decide
 last:=rfl
 val:=rfl
 rng:=λb a e c d=>by
  have:b=0\/b=1:=U;rcases this with rfl|rfl
  ·change(0:Int)<=a at c;change(a:Int)<2 at d;have:a=0\/a=1:=U;rcases this with rfl|rfl<;>exact⟨aa,aa⟩
  change(2:Int)<=a at c;change(a:Int)<3 at d;have:a=2:=U;subst this;exact⟨aa,aa⟩
 asc:=λb a e c d=>by
  have:b=0\/b=1:=U;rcases this with rfl|rfl
  ·change(0:Int)<a at c;change(a:Int)<2 at d;have:a=1:=U;subst this;decide
  change(2:Int)<a at c;change(a:Int)<3 at d;omega
def Mf:gK 2 2 uX uW qL=0:=by refine ll.2 ⟨Mt,λa b=>?_⟩;have:a=0\/a=1\/a=2:=(by have:qL.length=3:=rfl;omega);rcases this with rfl|rfl|rfl<;>decide
def Mn:fc [0,1] 2:=⟨rfl,λb a=>by
 simp only[dk,tB,or_false] at a;rcases a with rfl|rfl<;>exact⟨aa,aa⟩,aa⟩
def nU:List bu:=[(0,0,4616189618054758400,()),(1,0,4611686018427387904,()),(1,1,4617315517961601024,())]
def Mi:bU uX uW qL 2=nU:=rfl
def eY:cE:=[[1],[0]]
def Mj:kb 2 (gW nU) [0,1]=eY:=by decide
def yl:be eY 0=[0,1]:=by have a:iB eY 0 0:=.inl rfl;have b:iB eY 0 1:=.inr ⟨aa,.one ⟨aa,aa⟩⟩;unfold be jf;show((List.filter _ [0,1]).map _)=_;simp[k8,a,b]
def AQ:be eY 1=[1]:=by have a:iB eY 1 1:=.inl rfl;unfold be jf;show((List.filter _ [0,1]).map _)=_;simp[k8,a]
def Ma:bd nU [0,1] 0 0=some (1*2^65538):=v4
def Mb:bd nU [0,1] 1 0=some (1*2^65537):=eu
def Mc:bd nU [0,1] 1 1=some (5*2^65536):=zC
def IE {a:cJ} (c:dx a):e1 [a]=a:=by
 cases a with
 |none=>rfl
 |some b=>
  have d:=c b rfl;show(if(true&&true)=true then hN (b+0) else none)=_;rw[al (show(true&&true)=true from rfl),Int.add_zero];unfold hN;rw[al d]
def Mm (f:(c:Int)-65536=0):jH (some (1*2^c)) (some (1*2^c))=some (1*2^c):=by obtain⟨b,d⟩:=vv (m:=1) (a:=0) (k:=c) aa;have e:bm (1*2^c)=0:=(by unfold bm;rw[ah (Cm aa _),d,f]);show ed (aR (1*2^c)*aR (1*2^c)) (bm (1*2^c)+bm (1*2^c))=_;rw[b,e];exact BM (m:=1) (a:=0) (t:=0) aa U aa aa
def Ml:jH (some (1*2^65536)) (some (1*2^65536))=some (1*2^65536):=Mm aa
def Md (a:Nat):(5:Int)*2^a+(-(1*2^a)+0)=1*2^(a+2):=by rw[Int.pow_succ,Int.pow_succ];generalize(2:Int)^a=b;omega
def Me (b:a+2=c) (d:dx (some (1*2^c))):e1 [some ((5:Int)*2^a),n9 (some (1*2^a))]=some (1*2^c):=by show(if(true&&(true&&true))=true then hN (5*2^a+(-(1*2^a)+0)) else none)=_;rw[al (show(true&&(true&&true))=true from rfl),Md,b];unfold hN;rw[al (d _ rfl)]
abbrev gM:Nat->Nat->cJ:=bd nU [0,1]
def AW:gA gM (a9 gM (aU eY)) 0 0=some (1*2^65538):=by show e1 [bd nU [0,1] 0 0]=_;rw[Ma,<-v4];exact IE (ji _)
def Mr:gA gM (a9 gM (aU eY)) 0 1=some (1*2^65537):=by show e1 [bd nU [0,1] 1 0]=_;rw[Mb,<-eu];exact IE (ji _)
def AS:a9 gM (aU eY) 0 0=4611686018427387904:=by rw[md];unfold j6;rw[al rfl,AW,aP]
def Mo:aU eY 0 1=true:=by unfold aU;rw[yl];decide
def AT:a9 gM (aU eY) 0 1=4607182418800017408:=by rw[md];unfold j6;rw[ah aa,al Mo,Mr,AW,aP,eu,aq]
def EX:gA gM (a9 gM (aU eY)) 1 1=some (1*2^65538):=by show e1 [bd nU [0,1] 1 1,n9 (jH (bE (a9 gM (aU eY) 0 1)) (bE (a9 gM (aU eY) 0 1)))]=_;rw[Mc,AT,v1,Ml];exact Me rfl (by rw[<-v4];exact ji _)
def AU:a9 gM (aU eY) 1 1=4611686018427387904:=by rw[md];unfold j6;rw[al rfl,EX,aP]
def CK (a:0<b):dU b=1:=by unfold dU;rw[ah U,ah U]
def HF (a:Nat):(0:Int)<1*2^a:=mA aa (i9 aa)
def Mg:fb gM eY 0=0:=by
 refine EV ?_ ?_
 ·unfold rQ;rw[AW,AS];rintro(b|b)
  ·have:lC (some (1*2^65538))=1:=CK (HF _);omega
  revert b;decide
 intro c a;rw[yl] at a;simp only[dk,tB,or_false] at a;rcases a with rfl|rfl
 ·show a8 (a9 gM (aU eY) 0 0)≠2047;rw[AS];decide
 show a8 (a9 gM (aU eY) 0 1)≠2047;rw[AT];decide
def Mh:fb gM eY 1=0:=by
 refine EV ?_ ?_
 ·unfold rQ;rw[EX,AU];rintro(b|b)
  ·have:lC (some (1*2^65538))=1:=CK (HF _);omega
  revert b;decide
 intro c a;rw[AQ] at a;simp only[dk,tB,or_false] at a;subst a;show a8 (a9 gM (aU eY) 1 1)≠2047;rw[AU];decide
def Mk:oY ((2,(2,(uX,(uW,(qL,()))))),[0,1],())=some (([0,1],([0,2,3],([0,1,1],([4611686018427387904,4607182418800017408,4611686018427387904],())))),2,0,()):=by
 have a:=Dg (n:=2) aa Ms Mf Mn;rw[Mi,Mj,FR (λb g=>by
  have:b=0\/b=1:=U;rcases this with rfl|rfl
  ·exact Mg
  exact Mh)] at a
 refine a.trans ?_;have c:fi gM eY 0=[4611686018427387904,4607182418800017408]:=(by unfold fi;rw[yl,eH,eH,List.map_nil];show[a9 gM (aU eY) 0 0,a9 gM (aU eY) 0 1]=_;rw[AS,AT]);have ai:fi gM eY 1=[4611686018427387904]:=(by unfold fi;rw[AQ,eH,List.map_nil];show[a9 gM (aU eY) 1 1]=_;rw[AU]);have d:b0 eY 0=[]:=rfl;have i1:b0 eY 1=[0,1]:=(by show[]++be eY 0=_;rw[yl];rfl);have e:b0 eY 2=[0,1,1]:=(by show b0 eY 1++be eY 1=_;rw[i1,AQ];rfl);have f:iZ gM eY 2=[4611686018427387904,4607182418800017408,4611686018427387904]:=(by show([]++fi gM eY 0)++fi gM eY 1=_;rw[c,ai];rfl);unfold fA;rw[u0,u0,u0,MA,d,i1,e,f];rfl
def Jz (a b:cP) (c:a.length<4611686018427387904):AC (a,b,())=some (a==b,()):=De a b c
def Aa:uC ()=some (true,()):=by unfold uC;refine ao (zk aa aa) (ao (zk aa aa) (ao (zk aa aa) ?_));dsimp only;rw[f4,f2,f5];refine ao Mk ?_;dsimp only;rw[bw aa,bw aa];refine ao (De _ _ aa) ?_;dsimp only;rw[bw aa];refine ao (Jz _ _ aa) ?_;rfl
def jr (g f e:Nat) (h a d:cP):Prop:=∃c,c<=a.length/\dR g f h (a.take c) (d.take c)/\d.length=a.length/\(∀b,c<=b->b<a.length->0<=a.getD b 0/\a.getD b 0<(e:Int))/\(∀b,c<b->b<a.length->a.getD (b-1) 0<a.getD b 0)
def dR.open (b:dR c a j f k):jr c a 0 j f k:=
 ⟨f.length,a2 _,by rw[dC (a2 _),dC (Nat.le_of_eq b.val)];exact b,b.val,λg e d=>absurd d U,λg e d=>absurd d U⟩
def jr.skip (e:jr g c a j f k):jr g c (a+1) j f k:=by obtain⟨o,h,i,l,m,n⟩:=e;exact⟨o,h,i,l,λp b d=>by have:=m p b d;omega,n⟩
def u5 (c:a<f.length):(f++[b]).getD a 0=f.getD a 0:=by rw[h5,k9 c,<-h5]
def Bb:(f++[b]).getD f.length 0=b:=by rw[h5,lO (a2 _)];simp
def jr.add (l:jr g c a j f k) (q:Int):jr g c (a+1) j (f++[(a:Int)]) (k++[q]):=by
 obtain⟨p,m,n,r,i,o⟩:=l;refine⟨p,by simp;omega,?_,by simp;omega,λd e h=>?_,λd e h=>?_⟩
 ·rw[qd m,qd U];exact n
 ·rw[jZ,List.length_singleton] at h;rcases bj d f.length with b|b
  ·rw[u5 b];have:=i d e b;omega
  obtain rfl:d=f.length:=U;rw[Bb];omega
 rw[jZ,List.length_singleton] at h;rcases bj d f.length with b|b
 ·rw[u5 b,u5 U];exact o d e b
 obtain rfl:d=f.length:=U;rw[Bb,u5 U];exact(i (f.length-1) U U).2
def Bc (b:a<c):(f.take c).getD a 0=f.getD a 0:=by rw[h5,ks b,<-h5]
def jr.close (s:jr c a c j f k):dR c (a+1) (j++[(f.length:Int)]) f k:=by
 obtain⟨x,o,i,t,u,v⟩:=s;have p:=i.len;have q:=i.last;rw[eD,fW o] at q;have n:(j++[(f.length:Int)]).getD (a+1) 0=(f.length:Int):=(by rw[<-p];exact Bb);have d:∀b,b<=a->(j++[(f.length:Int)]).getD b 0=j.getD b 0:=λb l=>u5 U;have r:∀b,b<=a->j.getD b 0<=(x:Int):=λb l=>(by have:=i.pu b l;rw[eD,fW o] at this;exact this);refine⟨by simp[p],by rw[d 0 U];exact i.first,λb l=>?_,n,t,λb m l g h=>?_,λb m l g h=>?_⟩
 ·rcases bj b a with e|e
  ·rw[d b U,d (b+1) U];exact i.mono b e
  obtain rfl:b=a:=U;rw[d b U,n,q];omega
 ·rcases bj b a with e|e
  ·rw[d b U] at g;rw[d (b+1) U] at h;have w:=r (b+1) U;have:=i.rng b m e g h;rw[Bc U] at this;exact this
  obtain rfl:b=a:=U;rw[d b U] at g;rw[n] at h;exact u m U U
 rcases bj b a with e|e
 ·rw[d b U] at g;rw[d (b+1) U] at h;have w:=r (b+1) U;have:=i.asc b m e g h;rw[Bc U,Bc U] at this;exact this
 obtain rfl:b=a:=U;rw[d b U] at g;rw[n] at h;exact v m U U
def dR.empty (d:Nat):dR d 0 [0] [] []:=⟨rfl,rfl,λb a=>absurd a U,rfl,rfl,λb c a=>absurd a U,λb c a=>absurd a U⟩
structure p3 (P:Int->Prop) (mr jg:Nat) (m:bF):Prop where
 ex:∃st lx pX,m=((mr:Int),(jg:Int),st,lx,pX,())/\dR mr jg st lx pX/\(∀v∈pX,P v)/\lx.length<=jg*mr
abbrev zJ:=p3 dN
def zJ.small (g:c<=5) (e:a<=5) (b:dR c a k f j) (d:∀h∈j,dN h) (i:f.length<=a*c):h9 c a k f j:=by have l:a*c<=5*5:=hH e g;exact⟨U,U,U,by rw[b.len];omega,by rw[b.val];omega,d⟩
def JB (z:∀p,dN p->ac (sh (p,b,())) λF=>l F.1) (C:f.length<=9223372036854775807) (D:a<=5) (A:c<=5):ac (sg (f,(a:Int),(c:Int),b,())) λm=>p3 l a c m.1:=by
 have M:c*a<=5*5:=Nat.mul_le_mul A D;unfold sg;dsimp only;refine ac.aX (P:=λm=>p3 l a c m.2.1) ?_ (by rintro⟨G,H,_⟩ r;exact ac.aj.2 r);refine ac.steps c (λg s=>∃h d e,s=((g:Int),((0:Int),((0:Int),([],([],([],()))))),((a:Int),(c:Int),h,d,e,()),())/\dR a g h d e/\(∀i∈e,l i)/\d.length<=g*a) ?_ ?_ ?_
 ·exact⟨[0],[],[],rfl,dR.empty a,ab,ab⟩
 ·rintro g _ B ⟨h,d,e,rfl,u,y,J⟩;have L:g*a+a<=5*5:=by
   have:(g+1)*a<=c*a:=dG _ B;rw[e2,fG] at this;omega
  dsimp only;rw[bw (aC (U:(g:Int)<(c:Int))),br U];refine ac.aX (P:=λm=>∃d e,m=(((0:Int),((0:Int),([],([],([],()))))),((a:Int),(c:Int),h,d,e,()),())/\jr a g a h d e/\(∀i∈e,l i)/\d.length<=g*a+a) ?_ ?_
  ·refine ac.steps a (λj s=>∃d e,s=((j:Int),((0:Int),((0:Int),([],([],([],()))))),((a:Int),(c:Int),h,d,e,()),())/\jr a g j h d e/\(∀i∈e,l i)/\d.length<=g*a+j) ?_ ?_ ?_
   ·exact⟨d,e,rfl,u.open,y,U⟩
   ·rintro j _ K ⟨d,e,rfl,q,t,I⟩;have N:e.length=d.length:=by
     obtain⟨O,_,_,r,_⟩:=q;exact r
    dsimp only;rw[bw (aC (U:(j:Int)<(a:Int))),br U];refine ac.aX (P:=λm=>∃d e,m=(((0:Int),((0:Int),([],([],([],()))))),((a:Int),(c:Int),h,d,e,()),())/\jr a g (j+1) h d e/\(∀i∈e,l i)/\d.length<=g*a+(j+1)) ?_ ?_
    ·refine ac.aX (Jg f C _) ?_;rintro⟨E,_⟩ w;dsimp only at w|-;rw[pO aa aa,Option.bind_some];unfold gj;rw[if_pos aa,Option.bind_some,bo];refine ac.ite (λx=>?_) (λx=>?_)
     ·rw[eF (by simp;omega),Option.bind_some];refine ac.aX (z E w) ?_;rintro⟨i,_⟩ v;dsimp only at v|-;rw[eF (by simp;omega),Option.bind_some];refine ac.aj.2 ⟨_,_,rfl,q.add i,λp o=>?_,by simp;omega⟩;rcases List.mem_append.1 o with o|o
      ·exact t p o
      obtain rfl:=eV.1 o;exact v
     exact ac.aj.2 ⟨_,_,rfl,q.skip,t,U⟩
    rintro _ ⟨d,e,rfl,aq,k,n⟩;exact ac.aj.2 ⟨d,e,rfl,aq,k,n⟩
   rintro _ ⟨d,e,rfl,aq,k,n⟩;dsimp only;rw[bq (ay (U:¬((a:Int)<(a:Int))))];exact ac.aj.2 ⟨d,e,rfl,aq,k,n⟩
  rintro _ ⟨d,e,rfl,aq,k,n⟩;dsimp only;rw[eF (by rw[u.len];simp;omega),Option.bind_some];refine ac.aj.2 ⟨_,_,_,rfl,aq.close,k,by rw[Nat.add_mul,Nat.one_mul];omega⟩
 rintro _ ⟨h,d,e,rfl,aq,k,n⟩;dsimp only;rw[bq (ay (U:¬((c:Int)<(c:Int))))];exact ac.aj.2 ⟨h,d,e,rfl,aq,k,n⟩
def I8 {P:Int->Prop} (f:P 0) {E:List bu} (e:∀g∈E,P g.2.2.1) (b c:Int):P (k3 E b c):=by
 unfold k3;cases d:E.find? λa=>decide (a.1=b)&&decide (a.2.1=c) with
 |none=>exact f
 |some a=>exact e a (zN d)
def Jo (e:l 0) (h:h9 c a k j f) (n:∀b∈f,l b) (i:Int) (m:g<a):∃b,l b/\nR (((c:Int),(a:Int),k,j,f,()),i,(g:Int),())=some (b,()):=by
 by_cases d:gK c a k j f=0
 ·exact⟨_,I8 e (sq (ll.1 d).1 n) _ _,HL h d i m⟩
 refine⟨0,e,?_⟩;unfold nR;refine ao (y:=.inr (0,())) ?_ rfl;refine ao h.HM ?_;dsimp only;rw[dA,ay d];rfl
def JQ (o:h9 g c j f k) (e:dR g c j f k) (b:h<g) (q:a<c):∃i,uQ (((g:Int),(c:Int),j,f,k,()),(h:Int),(a:Int),())=some (i,()):=by
 have s:=e.pos a U;have t:=e.pos (a+1) U;have B:=e.pu (a+1) U;have z:=e.mono a q;have x:=e.len;have w:=o.hi;have v:=o.hc;suffices l:ac (uQ (((g:Int),(c:Int),j,f,k,()),(h:Int),(a:Int),())) λp=>True by obtain⟨⟨i,_⟩,l,_⟩:=l;exact⟨i,l⟩
 unfold uQ;dsimp only;rw[ay (U:¬((h:Int)<0)),ay (U:¬((h:Int)>=(g:Int))),ay (U:¬((a:Int)<0)),ay (U:¬((a:Int)>=(c:Int)))];refine ac.bs (y:=.inl ()) rfl ?_;dsimp only;obtain⟨d,r⟩:=Int.eq_ofNat_of_zero_le s;obtain⟨b,n⟩:=Int.eq_ofNat_of_zero_le t;refine ac.bs (y:=(d:Int)) (by rw[eO U,r]) ?_;refine ac.aX (P:=λp=>True) ?_ ?_
 ·refine ac.steps (b-d) (λm u=>u=(((d+m:Nat):Int),())) rfl ?_ ?_
  ·rintro m _ A rfl;dsimp only;refine ac.bs (y:=(b:Int)) (by rw[br U,eO U,n]) ?_;rw[bw (aC (U:((d+m:Nat):Int)<(b:Int)))];refine ac.bs (eO U) ?_;rw[dD,bo];refine ac.ite (λ_=>ac.aj.2 trivial) (λ_=>?_);rw[br U];exact ac.aj.2 rfl
  rintro _ rfl;dsimp only;refine ac.bs (y:=(b:Int)) (by rw[br U,eO U,n]) ?_;rw[bq (ay (U:¬(((d+(b-d):Nat):Int)<(b:Int))))];exact ac.aj.2 trivial
 rintro(_|p) _
 ·exact ac.aj.2 trivial
 exact ac.aj.2 trivial
structure Da (P Q:Int->Prop) (style:Int):Prop where
 z:P 0
 w:∀v,P v->dN v
 q:∀v,P v->Q v
 num:∀x,dN x->ac (sh (x,(kf style 3:Nat),())) λy=>P y.1
 dia:∀L:cB,L.length<=5->(∀d∈L,∃v,P v/\d=lZ (bE v))->Q (kj (e1 (gV 1::L)) 2)
def Jt {D:Int->Prop} (x:Da D l b) (a3:f.length<=9223372036854775807) (y:a<=5):ac (uy (f,(a:Int),b,())) λp=>p3 l a a p.1:=by
 have dl:a*a<=5*5:=Nat.mul_le_mul y y;unfold uy;refine ac.bs (vp b (n:=3) aa aa) ?_;refine ac.aX (JB x.num a3 y y) ?_;rintro⟨t,_⟩ O;dsimp only at O|-;obtain⟨Y,X,Z,rfl,Q,R,a0⟩:=O.ex;have S:=zJ.small y y Q (λe k=>x.w e (R e k)) a0;have N:=λ(i:Int) (h:Nat) (u:h<a)=>Jo x.z S R i u;have am:=λ(i h:Nat) (H:i<a) (u:h<a)=>JQ S Q H u;generalize(((a:Int),(a:Int),Y,X,Z,()):bF)=t at*;refine ac.aX (P:=λp=>p3 l a a p.2.1) ?_ (by rintro⟨ce,K,_⟩ G;exact ac.aj.2 G);refine ac.steps a (λh C=>∃j d c,C=((h:Int),((0:Int),((0:Int),([],([],([],()))))),t,((a:Int),(a:Int),j,d,c,()),())/\dR a h j d c/\(∀e∈c,l e)/\d.length<=h*a) ?_ ?_ ?_
 ·exact⟨[0],[],[],rfl,dR.empty a,ab,ab⟩
 ·rintro h _ u ⟨j,d,c,rfl,M,ad,co⟩;have cs:h*a+a<=5*5:=by
   have:(h+1)*a<=a*a:=dG _ u;rw[e2,fG] at this;omega
  dsimp only;rw[bw (aC (U:(h:Int)<(a:Int))),br U];refine ac.aX (P:=λp=>∃d c,p=(((0:Int),((0:Int),([],([],([],()))))),t,((a:Int),(a:Int),j,d,c,()),())/\jr a h a j d c/\(∀e∈c,l e)/\d.length<=h*a+a) ?_ ?_
  ·refine ac.steps a (λi C=>∃d c,C=((i:Int),((0:Int),((0:Int),([],([],([],()))))),t,((a:Int),(a:Int),j,d,c,()),())/\jr a h i j d c/\(∀e∈c,l e)/\d.length<=h*a+i) ?_ ?_ ?_
   ·exact⟨d,c,rfl,M.open,ad,U⟩
   ·rintro i _ H ⟨d,c,rfl,F,L,ci⟩;have ds:c.length=d.length:=by
     obtain⟨o,_,_,G,_⟩:=F;exact G
    dsimp only;rw[bw (aC (U:(i:Int)<(a:Int))),br U];refine ac.aX (P:=λp=>∃d c,p=(((0:Int),((0:Int),([],([],([],()))))),t,((a:Int),(a:Int),j,d,c,()),())/\jr a h (i+1) j d c/\(∀e∈c,l e)/\d.length<=h*a+(i+1)) ?_ ?_
    ·have T:∀(J:Int),l J->∀e∈c++[J],l e:=λJ a4 e k=>by
      rcases eI.1 k with k|k
      ·exact L e k
      obtain rfl:=eV.1 k;exact a4
     rw[dD,bo];refine ac.ite (λV=>?_) (λV=>?_)
     ·refine ac.bs (HO aa aa) ?_;dsimp only;refine ac.aX (P:=λp=>∃g:cB,p=(((0:Int),((0:Int),([],([],([],()))))),t,((a:Int),(a:Int),j,d,c,()),(gV 1::g).map a6,())/\(∀m∈g,∃e,D e/\m=lZ (bE e))/\g.length<=a) ?_ ?_
      ·refine ac.steps a (λo C=>∃g:cB,C=((o:Int),((0:Int),((0:Int),([],([],([],()))))),t,((a:Int),(a:Int),j,d,c,()),(gV 1::g).map a6,())/\(∀m∈g,∃e,D e/\m=lZ (bE e))/\g.length<=o) ?_ ?_ ?_
       ·exact⟨[],rfl,ab,ab⟩
       ·rintro o _ cv ⟨g,rfl,s,B⟩;dsimp only;rw[bw (aC (U:(o:Int)<(a:Int))),br U];refine ac.aX (P:=λp=>∃g:cB,p=(((0:Int),((0:Int),([],([],([],()))))),t,((a:Int),(a:Int),j,d,c,()),(gV 1::g).map a6,())/\(∀m∈g,∃e,D e/\m=lZ (bE e))/\g.length<=o+1) ?_ ?_
        ·rw[dA,<-decide_not,bo];refine ac.ite (λW=>?_) (λW=>?_)
         ·obtain⟨E,ap,av⟩:∃E:Nat,(if(o:Int)<(i:Int) then(o:Int) else(i:Int))=(E:Int)/\E<a:=by
           split
           ·exact⟨o,rfl,U⟩
           exact⟨i,rfl,U⟩
          rw[ap];obtain⟨e,k,I⟩:=N (if(o:Int)>(i:Int) then(o:Int) else(i:Int)) E av;refine ac.bs I (ac.bs (s4 (x.w e k)) (ac.bs (Cx (ji _)) ?_));rw[eF (by simp;omega)];refine ac.aj.2 ⟨g++[lZ (bE e)],ab,λm r=>?_,by simp;omega⟩;rcases eI.1 r with r|r
          ·exact s m r
          obtain rfl:=eV.1 r;exact⟨e,k,rfl⟩
         exact ac.aj.2 ⟨g,rfl,s,U⟩
        rintro _ ⟨g,rfl,s,B⟩;exact ac.aj.2 ⟨g,rfl,s,B⟩
       rintro _ ⟨g,rfl,s,B⟩;dsimp only;rw[bq (ay (U:¬((a:Int)<(a:Int))))];exact ac.aj.2 ⟨g,rfl,s,B⟩
      rintro _ ⟨g,rfl,s,B⟩;dsimp only;rw[eF (by simp;omega),Option.bind_some];have bl:∀m∈gV 1::g,dx m:=λm r=>by
       rcases dk.1 r with rfl|r
       ·exact FE 1
       obtain⟨e,_,rfl⟩:=s m r;exact zY (ji _)
      refine ac.bs (Cz bl (by simp;omega)) ?_;refine ac.bs (If (CR _)) ?_;dsimp only;rw[eF (by simp;omega),Option.bind_some];exact ac.aj.2 ⟨_,_,rfl,F.add _,T _ (x.dia g U s),by simp;omega⟩
     obtain⟨K,an⟩:=am i h H u;refine ac.bs an ?_;dsimp only;cases K with
     |true=>
      rw[cond_true,eF (by simp;omega),Option.bind_some];obtain⟨e,k,I⟩:=N (i:Int) h u;refine ac.bs I ?_;dsimp only;rw[eF (by simp;omega),Option.bind_some];exact ac.aj.2 ⟨_,_,rfl,F.add _,T _ (x.q _ k),by simp;omega⟩
     |false=>
      rw[cond_false];exact ac.aj.2 ⟨_,_,rfl,F.skip,L,U⟩
    rintro _ ⟨d,c,rfl,aq,v,A⟩;exact ac.aj.2 ⟨d,c,rfl,aq,v,A⟩
   rintro _ ⟨d,c,rfl,aq,v,A⟩;dsimp only;rw[bq (ay (U:¬((a:Int)<(a:Int))))];exact ac.aj.2 ⟨d,c,rfl,aq,v,A⟩
  rintro _ ⟨d,c,rfl,aq,v,A⟩;dsimp only;rw[eF (by rw[M.len];simp;omega),Option.bind_some];refine ac.aj.2 ⟨_,_,_,rfl,aq.close,v,by rw[Nat.add_mul,Nat.one_mul];omega⟩
 rintro _ ⟨j,d,c,rfl,aq,v,A⟩;dsimp only;rw[bq (ay (U:¬((a:Int)<(a:Int))))];exact ac.aj.2 ⟨j,d,c,rfl,aq,v,A⟩
def Dk (j:f.length<=9223372036854775807) {n:Nat} (q:n<=5):ac (uz (f,(n:Int),())) λb=>b.1.length=n:=by
 unfold uz;dsimp only;refine ac.aX (P:=λb=>b.1.length=n) ?_ (by rintro⟨o,_⟩ i;exact ac.aj.2 i);refine ac.steps n (λc m=>∃a,m=(a,(c:Int),())/\a.length=c) ⟨[],rfl,rfl⟩ ?_ ?_
 ·rintro c _ p ⟨a,rfl,d⟩;dsimp only;rw[bw (aC (U:(c:Int)<(n:Int))),br U];refine ac.aX (Jg f j _) ?_;rintro⟨h,_⟩ l;dsimp only at l|-;rw[pO aa aa,Option.bind_some];refine ac.bs (vp _ (n:=c+1) U U) ?_;have r:=vo (ax (h/2^(1:Int).toNat)) (n:=c+1) U;dsimp only;generalize kf (ax (h/2^(1:Int).toNat)) (c+1)=b at*;refine ac.bs (zr U) ?_;dsimp only;rw[eF (by simp;omega),Option.bind_some,eF (by simp;omega),Option.bind_some];have k:((fD (b:Int)).bind λe=>(some a.length).bind λg=>(gg e g a.length).map λ_=>(e,g))=some (b,a.length):=by
   have:fD (b:Int)=some b:=(by unfold fD;rw[al U,du]);rw[this];show(gg b a.length a.length).map _=_;unfold gg;rw[al ⟨U,a2 _⟩];rfl
  refine ac.bs k ?_;dsimp only;rw[eF (by simp;omega),Option.bind_some];exact ac.aj.2 ⟨_,rfl,by simp;omega⟩
 rintro _ ⟨a,rfl,d⟩;dsimp only;rw[bq (ay (U:¬((n:Int)<(n:Int))))];exact ac.aj.2 d
def Ri {Q:Int->Prop} (j:f.length<=9223372036854775807) (b i:Int) {d:Bool} (k:∀a,a<=5->ac (bif d then uy (f,((a:Nat):Int),i,()) else sg (f,((a:Nat):Int),((a:Nat):Int),i,())) λe=>p3 Q a a e.1):ac (xR (f,b,i,d,())) λe=>∃a,a<=5/\p3 Q a a e.1/\e.2.1.length=a:=by
 unfold xR;refine ac.bs (vp b (n:=6) aa aa) ?_;have o:=vo b (n:=6) aa;dsimp only;generalize kf b 6=a at*;have c:=k a U;cases d with
 |true=>
  rw[cond_true] at c|-;refine ac.aX c ?_;rintro⟨l,_⟩ g;refine ac.aX (Dk j (n:=a) U) ?_;rintro⟨m,_⟩ h;exact ac.aj.2 ⟨a,U,g,h⟩
 |false=>
  rw[cond_false] at c|-;refine ac.aX c ?_;rintro⟨l,_⟩ g;refine ac.aX (Dk j (n:=a) U) ?_;rintro⟨m,_⟩ h;exact ac.aj.2 ⟨a,U,g,h⟩
def NU (b:Nat->Nat->cJ) (c:cE) (f:cP) (a:Nat):(m0 b c f a=(fA b c f a,(a:Int),0,())/\∀d,d<a->fb b c d=0)\/∃i g,m0 b c f a=(m4,i,g,())/\g≠0:=by
 unfold m0;split
 ·rename_i i e;have h:=List.find?_some e;rw[decide_eq_true_eq] at h;split
  ·exact .inr ⟨_,_,rfl,aa⟩
  exact .inr ⟨_,_,rfl,h⟩
 rename_i e;refine .inl ⟨rfl,λd j=>?_⟩;simpa using wk.1 e d (ha.2 j)
def Bh (b:cE) {a:Nat}:∀{n},a<=n->∃c,b0 b n=b0 b a++c
 |0,e=>by obtain rfl:a=0:=U;exact⟨[],ab⟩
 |n+1,e=>by
  rcases bj n a with d|d
  ·obtain rfl:a=n+1:=U;exact⟨[],ab⟩
  obtain⟨c,f⟩:=Bh b d;exact⟨c++be b n,by rw[b0,f,k6]⟩
def Jc (b:Nat->Nat->cJ) (c:cE) {a:Nat}:∀{n},a<=n->∃d,iZ b c n=iZ b c a++d
 |0,f=>by obtain rfl:a=0:=U;exact⟨[],ab⟩
 |n+1,f=>by
  rcases bj n a with e|e
  ·obtain rfl:a=n+1:=U;exact⟨[],ab⟩
  obtain⟨d,g⟩:=Jc b c e;exact⟨d++fi b c n,by rw[iZ,g,k6]⟩
def Tz (c:Nat->Nat->cJ) (a:cE) (b:Nat):(fi c a b).length=(be a b).length:=by unfold fi;rw[gR]
def Fy (b:cE) (d:a<c):(b0 b (a+1)).length<=(b0 b c).length/\((b0 b c).take (b0 b (a+1)).length).drop (b0 b a).length=be b a:=by obtain⟨f,e⟩:=Bh b (show a+1<=c from d);rw[e];refine⟨by rw[jZ];omega,?_⟩;rw[List.take_left,b0,List.drop_left]
def Fz (a:cE) (b:Nat):(b0 a (b+1)).length=(b0 a b).length+(be a b).length:=by rw[b0,jZ]
def MB (d:Nat->Nat->cJ) (b:cE) (e:a<g) (j:c<(be b a).length):(b0 b g)[(b0 b a).length+c]?=(be b a)[c]?/\(iZ d b g)[(b0 b a).length+c]?=(fi d b a)[c]?:=by
 obtain⟨k,f⟩:=Bh b (show a+1<=g from e);obtain⟨l,h⟩:=Jc d b (show a+1<=g from e);have ai:=v8 d b a;have i:=Tz d b a;rw[f,h,b0,iZ];constructor
 ·rw[k6,lO U,k9 U,lS]
 rw[k6,lO U,ai,k9 U,lS]
def Gw (a:Nat):fD (a:Int)=some a:=by unfold fD;rw[al U,du]
def SG {l:Nat} (e:c<=a) (f:a<=l):((fD (c:Int)).bind λb=>(fD (a:Int)).bind λd=>(gg b d l).map λ_=>(b,d))=some (c,a):=by rw[Gw,Gw];show(gg c a l).map _=_;unfold gg;rw[al ⟨e,f⟩];rfl
def Tn (e:a*2^g=c*2^h) (i:0<a) (f:0<c):bb a+g=bb c+h/\aw a+g=aw c+h:=by have b:=congrArg bb e;have d:=congrArg aw e;rw[v5 U,v5 f] at b;rw[ie U,ie f] at d;exact⟨b,d⟩
def OH {a:Int} (c:e*b=a*2^65536) (r:dT a):jH (some e) (some b)=some a:=by
 show ed (aR e*aR b) (bm e+bm b)=some a;have h:∀i:Nat,(2:Int)^i≠0:=λi=>(by have:(0:Int)<2^i:=i9 aa;omega);by_cases d:e=0
 ·rw[d,jW] at c;rw[d,sS,jW,(Int.mul_eq_zero.1 c.symm).resolve_right (h _)];rfl
 by_cases f:b=0
 ·rw[f,Int.mul_zero] at c;rw[f,sS,Int.mul_zero,(Int.mul_eq_zero.1 c.symm).resolve_right (h _)];rfl
 have u:=mi e;have v:=mi b;have aZ:=gP d;have t:=gP f;have x:=vw.1 ⟨U,GF d⟩;have y:=vw.1 ⟨U,GF f⟩;have p:aR e*aR b≠0:=Int.mul_ne_zero aZ t;have l:bb (aR e*aR b).natAbs=0:=(by refine(vw.2 ?_).2;rw[jV,Nat.mul_mod,x,y]);have ai:aR e*aR b*2^(bb e.natAbs+bb b.natAbs)=a*2^65536:=by
  rw[<-c,iC]
  conv=>rhs;rw[<-u,<-v]
  rw[fP,fP,tu (aR b)]
 have n:bm e=(bb e.natAbs:Int)-65536:=(by rw[bm,ah d];rfl);have o:bm b=(bb b.natAbs:Int)-65536:=(by rw[bm,ah f];rfl);rw[n,o];generalize bb e.natAbs=j at*;generalize bb b.natAbs=k at*;generalize aR e*aR b=B at*;have g:=congrArg Int.natAbs ai;rw[eR,eR] at g;have s:0<a.natAbs:=Ru g U;obtain⟨m,z⟩:=Tn g U s;rw[l] at m;have A:aw a.natAbs<=131072:=r;unfold ed;rw[ah p,l,ah U];obtain⟨w,q⟩:=ea (U:0<=(j:Int)-65536+((k:Int)-65536)+65536);rw[q,kY];congr 1;have:j+k=w+65536:=U;rw[this,iC,<-fP] at ai;exact Int.mul_eq_mul_right_iff (h _)|>.1 ai
def gO (a:Int):Int:=if a<9223372036854775808 then if a8 a=0 then dE a else dE a+4503599627370496 else-(if a8 a=0 then dE a else dE a+4503599627370496)
def e5 (a:Int):Int:=if a8 a=0 then-1074 else a8 a-1075
def mU (a:a8 b≠2047):-1074<=e5 b/\e5 b<=971:=by have:=uZ b;unfold e5;split<;>omega
def pD (a:Int):aw (gO a).natAbs<=53:=bY.2 (by
 have b:=sr a;have:(2:Nat)^53=9007199254740992:=aa;rw[this];unfold gO;split<;>split<;>omega)
def kO (c:a8 b≠2047):bE b=some (gO b*2^(e5 b+65536).toNat):=by
 have h:=mU c;have g:=pD b;unfold bE;rw[ah c];change ed (gO b) (e5 b)=_;generalize gO b=f at*;generalize e5 b=d at*;unfold ed;by_cases a:f=0
 ·rw[al a,a,jW]
 rw[ah a,ah U];obtain⟨i,e⟩:=ea (U:0<=d+65536);rw[e,kY,du]
def Gp (d:a8 b≠2047) (f:a8 e≠2047):jH (bE b) (bE e)=some (gO b*gO e*2^(e5 b+e5 e+65536).toNat):=by
 rw[kO d,kO f];have l:=mU d;have m:=mU f;have h:=pD b;have i:=pD e;refine OH ?_ ?_
 ·generalize gO b=a;generalize gO e=g;have:(e5 b+65536).toNat+(e5 e+65536).toNat=(e5 b+e5 e+65536).toNat+65536:=U;have ai:a*2^(e5 b+65536).toNat*(g*2^(e5 e+65536).toNat)=a*g*(2^(e5 b+65536).toNat*2^(e5 e+65536).toNat):=by
   generalize(2:Int)^(e5 b+65536).toNat=k;generalize(2:Int)^(e5 e+65536).toNat=n;rw[fP,fP,tu k]
  rw[ai,<-iC,this,iC,<-fP]
 have j:=nG h i;rw[<-jV] at j;generalize gO b*gO e=a at*;unfold dT;rw[eR];rcases hh a.natAbs with c|c
 ·rw[c,Nat.zero_mul];decide
 rw[ie c];omega
def gD:Nat:=2^67600
def zG:gD=2^67600:=by rw[gD]
def gk (c:Nat) (b:cJ):Prop:=∃a,b=some a/\a.natAbs<=c*gD
def s3 {k:Nat} (a:b.natAbs<=k*gD) (e:k<1048576):dT b:=by refine bt (je a) ?_;have c:aw k<=20:=bY.2 U;have d:aw gD<=67601:=(by rw[zG];exact bY.2 (y7 67600 67601 aa));have:=nG c d;omega
def HE (d:aw a+c<=67600):a*2^c<=1*gD:=by
 rw[fG,zG];refine j2 ((bY (k:=67600)).1 ?_);rcases hh a with b|b
 ·rw[b,Nat.zero_mul,show aw 0=0 from rfl];omega
 rw[ie b];omega
def gk.E9 (a:a8 b≠2047):gk 1 (bE b):=by have d:=mU a;have c:=pD b;refine⟨_,kO a,?_⟩;rw[eR];exact HE U
def gk.mul (a:a8 b≠2047) (c:a8 e≠2047):gk 1 (jH (bE b) (bE e)):=by have f:=mU a;have g:=mU c;have d:=nG (pD b) (pD e);rw[<-jV] at d;refine⟨_,Gp a c,?_⟩;rw[eR];exact HE U
def gk.neg {b:cJ} (c:gk a b):gk a (n9 b):=by obtain⟨e,rfl,d⟩:=c;exact⟨-e,rfl,by rw[nu];exact d⟩
def gk.abs {b:cJ} (c:gk a b):gk a (lZ b):=by obtain⟨e,rfl,d⟩:=c;exact⟨_,rfl,by rw[h2];exact d⟩
def gk.sum {a:Nat}:∀{l:cB},(∀d∈l,gk a d)->fa l=true/\(dr l).natAbs<=l.length*a*gD
 |[],_=>⟨rfl,eL _⟩
 |d::l,b=>by
  obtain⟨c,h⟩:=gk.sum (l:=l) λg e=>b g (by simp[e]);obtain⟨f,rfl,i⟩:=b d ab;constructor
  ·show(true&&fa l)=true;rw[c];rfl
  show(f+dr l).natAbs<=(l.length+1)*a*gD;rw[e2,e2,fG];omega
def CS {k:Nat} {l:cB} (c:∀b∈l,gk k b) (e:l.length*k<1048576):e1 l=some (dr l)/\gk (l.length*k) (e1 l):=by obtain⟨d,a⟩:=gk.sum c;have:e1 l=some (dr l):=(by unfold e1 hN;rw[al d,al (s3 a e)]);exact⟨this,_,this,a⟩
def Q9 (f:a<=9007199254740992) (g:-1074<=b):0<=g0 false a b 0/\g0 false a b 0<9223372036854775808:=by
 have e:0<=kP false 0/\kP false 0<9223372036854775808:=aa;unfold g0;have c:∀d,gB false d=d:=λd=>rfl;rw[c,c,c];split
 ·omega
 split
 ·split
  ·exact e
  omega
 split
 ·exact e
 omega
def RW {c:Bool} (d:0<a):0<=g2 false a b c 0/\g2 false a b c 0<9223372036854775808:=by have f:=th (neg:=false) (m3:=c) (m2:=0) (e:=b) d;have h:-1074<=bg a b:=(by unfold bg;omega);have g:g2 false a b c 0=g0 false (if bg a b<=b then a*2^(b-bg a b).toNat else eN false a (bg a b-b).toNat c 0) (bg a b) 0:=(by unfold g2;split<;>rfl);rw[g];exact Q9 f h
def RZ (f:0<=b):0<=kT (some b) 0/\kT (some b) 0<9223372036854775808:=by
 show 0<=(if b<0 then(9221120237041090560:Int) else if b=0 then 0 else iX b 0)/\(if b<0 then(9221120237041090560:Int) else if b=0 then 0 else iX b 0)<9223372036854775808;rw[ah U];by_cases c:b=0
 ·rw[al c];decide
 rw[ah c];unfold iX s5;have e:0<(aR b).natAbs:=(by have:=gP c;omega);have d:58<=aw (bW ((aR b).natAbs*2^hW (aR b).natAbs (bh b))):=yB (by rw[ie e];unfold hW;split<;>omega);refine RW ?_;rcases hh (bW ((aR b).natAbs*2^hW (aR b).natAbs (bh b))) with a|a
 ·rw[a] at d;exact absurd d aa
 exact a
def O9 (h:0<=b) (f:b<9223372036854775808) (c:a8 b≠2047) (a:qU b≠0):∃d,bE b=some d/\0<d:=by
 refine⟨_,kO c,mA ?_ (i9 aa)⟩;have i:=sr b;unfold qU at a;rw[ah c] at a;unfold gO;rw[al f];split
 ·rename_i e;by_cases g:dE b=0
  ·rw[al ⟨e,g⟩] at a;exact absurd rfl a
  omega
 omega
section
structure eC (A:Nat->Nat->cJ) (G:cE) (o:cP) (n:Nat):Prop where
 mg:n<=5
 jC:G.length=n
 op:fc o n
 ok:∀m,m<n->fb A G m=0
section
variable {A:Nat->Nat->cJ} {G:cE} {o:cP} {n:Nat}
def eC.fin (b:eC A G o n) {i:Nat} (d:a<n) (c:aU G a i=true):a8 (a9 A (aU G) a i)≠2047:=AN (b.ok a d) i c
def eC.j9 (b:eC A G o n) {m i:Nat} (c:m<n):a8 (a9 A (aU G) m i)≠2047:=by
 by_cases a:aU G m i=true
 ·exact b.fin c a
 rw[sJ (by simpa using a)]
 ·decide
 rintro rfl;exact a (vE (by rw[b.jC];exact c))
def eC.diag (e:eC A G o n) (f:a<n):∃d,bE (a9 A (aU G) a a)=some d/\0<d:=by
 have g:=e.ok a f;have i:¬rQ A G a:=λc=>(by rw[EW c] at g;cases g);have l:a9 A (aU G) a a=kT (gA A (a9 A (aU G)) a a) 0:=(by rw[md];unfold j6;rw[al rfl]);have b:¬lC (gA A (a9 A (aU G)) a a)<=0:=λc=>i (.inl c);have k:qU (a9 A (aU G) a a)≠0:=λc=>i (.inr c);have h:0<=a9 A (aU G) a a/\a9 A (aU G) a a<9223372036854775808:=by
  rw[l];cases j:gA A (a9 A (aU G)) a a with
  |none=>
   rw[j] at b;exact absurd (aa:lC none<=0) b
  |some d=>
   refine RZ ?_;rw[j] at b;have:lC (some d)=dU d:=rfl;rw[this] at b;unfold dU at b;split at b
   ·exact absurd aa b
   omega
 exact O9 h.1 h.2 (e.fin f (vE (by rw[e.jC];exact f))) k
def eC.va (a:eC A G o n) {j:Nat} (b:j<=n):(b0 G j).length<=25:=by have c:=Bg G j;have d:j*G.length<=5*5:=hH (bt b a.mg) (by have:=a.jC;have:=a.mg;omega);omega
def eC.Eo (b:eC A G o n) (a:Nat):(be G a).length<=n:=by have:=tX (G:=G) a;rw[b.jC] at this;exact this
def eC.st (b:eC A G o n) {j:Nat} (c:j<=n):aL (fA A G o n).2.1 (j:Int)=some ((b0 G j).length:Int):=by show aL (aS (n+1) λa=>((b0 G a).length:Int)) _=_;rw[da (by rw[dy];omega),iM]
def eC.at (g:eC A G o n) {a d:Nat} (k:a<n) (c:d<(be G a).length):∃b:Nat,b<n/\a<=b/\aU G a b=true/\(be G a)[d]?=some (b:Int)/\aL (fA A G o n).2.2.1 (((b0 G a).length+d:Nat):Int)=some (b:Int)/\aL (fA A G o n).2.2.2.1 (((b0 G a).length+d:Nat):Int)=some (a9 A (aU G) a b):=by
 obtain⟨b,e,f,l,m⟩:=tY (G:=G) (j:=a) (dj c);obtain⟨h,i⟩:=MB A G k c;refine⟨b,by rw[g.jC] at f;exact f,l,m,by rw[bA c,e],?_,?_⟩
 ·refine iP ?_;show(b0 G n)[_]?=_;rw[h,bA c,e]
 refine iP ?_;show(iZ A G n)[_]?=_;rw[i];unfold fi;rw[gn,bA c,e];rfl
def eC.asc (i:eC A G o n) (b:(be G c)[a]?=some (g:Int)) (d:(be G c)[a+1]?=some (h:Int)):g<h:=by obtain⟨aq,ai⟩:=ec.1 b;obtain⟨e,f⟩:=ec.1 d;have:=hg.1 (Am G c) a (a+1) aq e U;omega
def eC.first (b:eC A G o n) (c:a<n):0<(be G a).length/\(be G a)[0]?=some (a:Int):=by obtain⟨e,d,_⟩:=Ez (G:=G) (j:=a) (by rw[b.jC];exact c);rw[d];exact⟨ab,rfl⟩
def eC.TI (d:eC A G o n):∀b∈iZ A G n,dN b/\a8 b≠2047:=by
 suffices e:∀c,c<=n->∀b∈iZ A G c,dN b/\a8 b≠2047 from e n (a2 _);intro c
 induction c with
 |zero=>intro _ b a;cases a
 |succ c h=>
  intro j b a;rw[iZ] at a;rcases eI.1 a with a|a
  ·exact h U b a
  unfold fi at a;obtain⟨m,g,rfl⟩:=c4.1 a;obtain⟨l,rfl,i,k,f⟩:=tY g;rw[du];exact⟨pA _ _ _ _,d.fin U f⟩
def Nu (u:n<=200) (h:fc o n):wW (o,())=some (true,()):=by
 have l:=h.1;unfold wW;dsimp only;rw[show au o=(n:Int) by rw[a1,l]];refine ao (hR U) ?_;refine ac.eq_iff.1 ?_;refine ac.aX (P:=λq=>q=.inl ()) ?_ (by rintro _ rfl;exact ac.aj.2 rfl);refine ac.steps n (λa r=>r=((a:Int),aS n (λb=>decide ((b:Int)∈o.take a)),())) ?_ ?_ ?_
 ·rw[mV];simp
 ·rintro a _ t rfl;dsimp only;rw[bw (aC (U:(a:Int)<(n:Int))),da (U:a<o.length)];have j:o.take (a+1)=o.take a++[o[a]'(by omega)]:=by rw[List.take_add_one,List.getElem?_eq_getElem U];rfl
  have p:=h.2.1 _ (dj (U:a<o.length));have i:=List.Nodup.sublist (List.take_sublist (a+1) o) h.2.2;rw[j,hu] at i;have m:o[a]'(by omega)∉o.take a:=λk=>i.2.2 _ k _ (eV.2 rfl) rfl
  have g:∀e,e∈o.take (a+1)↔e∈o.take a\/e=o[a]'(by omega):=λe=>by rw[j,eI,eV]
  clear i j;generalize w:o[a]'(by omega)=b at*
  obtain⟨d,rfl⟩:=ea p.1;simp only[aQ];rw[bw (show(decide ((d:Int)<0)==false)=true by rw[ay U];rfl),bw (show(decide ((d:Int)>=(n:Int))==false)=true by rw[ay U];rfl)];rw[kS (by rw[dy];omega),iM,bq (ay m)];simp only[aQ];rw[k4 (by rw[dy];omega),jh];refine ac.aj.2 ?_;rw[br U];have:aS n (eT (λb=>decide ((b:Int)∈o.take a)) d true)=aS n (λb=>decide ((b:Int)∈o.take (a+1))):=by
   refine fg λs v=>?_;by_cases f:s=d
   ·subst f;rw[lG,aC ((g _).2 (.inr rfl))]
   rw[lF _ _ f];exact decide_eq_decide.2 ⟨λc=>(g _).2 (.inl c),λc=>((g _).1 c).resolve_right λc=>f U⟩
  rw[this]
 rintro _ rfl;dsimp only;rw[bq (ay (U:¬((n:Int)<(n:Int))))];exact ac.aj.2 rfl
def S3 (a:eC A G o n):wX (fA A G o n,())=some (true,()):=by
 have D:=a.mg;have q:au (fA A G o n).1=(n:Int):=(by rw[a1];exact congrArg _ a.op.1);have p:au (fA A G o n).2.2.1=((b0 G n).length:Int):=a1 _;unfold wX;dsimp only;rw[q,p];refine ao (y:=.inl ()) ?_ ?_
 ·refine ao (a.st (j:=0) U) ?_;rw[bw (by rfl)];refine ao (a.st (a2 n)) ?_;rw[bq (by rw[dA,aC rfl];rfl)]
 dsimp only;refine ac.eq_iff.1 ?_;refine ac.aX (P:=λe=>e=.inl ()) ?_ (by rintro _ rfl;exact ac.aj.2 rfl);refine ac.steps n (λd f=>f=((d:Int),())) rfl ?_ ?_
 ·rintro j _ c rfl;dsimp only;rw[bw (aC (U:(j:Int)<(n:Int))),br U];obtain⟨h,i⟩:=Fy G c;have v:=Fz G j;have C:=a.va (Nat.le_refl n);have w:=a.Eo j;obtain⟨x,k⟩:=a.first c;refine ac.aX (P:=λt=>t=.inl ()) ?_ (by rintro _ rfl;exact ac.aj.2 rfl);refine ac.bs (y:=.inl ()) ?_ ?_
  ·refine ao (a.st U) (ao (a.st (show j+1<=n from c)) ?_);rw[bw (by rw[ay (U:¬((b0 G j).length:Int)>((b0 G (j+1)).length:Int))];rfl)];refine ao (a.st (show j+1<=n from c)) ?_;rw[bq (ay (U:¬((b0 G (j+1)).length:Int)>((b0 G n).length:Int)))]
  dsimp only;refine ac.bs (a.st U) (ac.bs (a.st (show j+1<=n from c)) ?_);refine ac.bs (SG (l:=(b0 G n).length) U h) ?_;dsimp only;have s:List.drop (b0 G j).length (List.take (b0 G (j+1)).length (fA A G o n).2.2.1)=be G j:=i;rw[s,a1];refine ac.bs (y:=.inl ()) ?_ ?_
  ·rw[bw (by rw[dD,ay (U:¬((be G j).length:Int)=0)];rfl)];refine ao (iP k) ?_;rw[bw (by rw[dA,aC rfl];rfl)];have r:(be G j).length-1<(be G j).length:=U;obtain⟨d,z,_,_,m,_⟩:=a.at c r;have:ax ((((be G j).length:Nat):Int)-1)=(((be G j).length-1:Nat):Int):=by
    rw[(U:(((be G j).length:Nat):Int)-1=(((be G j).length-1:Nat):Int)),bf U U]
   rw[this];refine ao (iP m) ?_;rw[bq (ay (U:¬(d:Int)>=(n:Int)))]
  dsimp only;refine ac.aX (P:=λe=>e=.inl ()) ?_ (by rintro _ rfl;exact ac.aj.2 rfl);refine ac.steps ((be G j).length-1) (λb f=>f=(((b+1:Nat):Int),())) rfl ?_ ?_
  ·rintro b _ B rfl;dsimp only;rw[bw (aC (U:((b+1:Nat):Int)<((be G j).length:Int))),br U];have:ax (((b+1:Nat):Int)-1)=(b:Int):=by
    rw[(U:((b+1:Nat):Int)-1=(b:Int)),bf U U]
   rw[this];obtain⟨d,_,_,_,ai,_⟩:=a.at c (U:b<(be G j).length);obtain⟨u,_,_,_,g,_⟩:=a.at c (U:b+1<(be G j).length);have:=a.asc ai g;refine ac.bs (iP ai) (ac.bs (iP g) ?_);rw[bq (ay (U:¬(d:Int)>=(u:Int)))];exact ac.aj.2 rfl
  rintro _ rfl;dsimp only;rw[bq (ay (U:¬(((be G j).length-1+1:Nat):Int)<((be G j).length:Int)))];exact ac.aj.2 rfl
 rintro _ rfl;dsimp only;rw[bq (ay (U:¬((n:Int)<(n:Int))))];exact ac.aj.2 rfl
def Jq (a:eC A G o n):wS (fA A G o n,())=some (0,()):=by
 have v:=a.mg;have q:au (fA A G o n).1=(n:Int):=(by rw[a1];exact congrArg _ a.op.1);have d:au (fA A G o n).2.2.1=((b0 G n).length:Int):=a1 _;have f:au (fA A G o n).2.2.2.1=((b0 G n).length:Int):=(by rw[a1];exact congrArg _ (v8 A G n));have r:au (fA A G o n).2.1=((n+1:Nat):Int):=(by rw[a1];exact congrArg _ (dy _ _));have u:=a.va (Nat.le_refl n);unfold wS;dsimp only;rw[q,d,f,r];refine ao (y:=.inl ()) ?_ ?_
 ·rw[bq (ay (U:¬(n:Int)>200))];refine ao (Nu U a.op) ?_;dsimp only;rw[bq (by rfl),br U];refine ao (y:=(false,())) ?_ ?_
  ·rw[bw (by rw[dA,aC rfl];rfl),dA,aC rfl];rfl
  dsimp only;rw[bq rfl];refine ao (S3 a) ?_;dsimp only;rw[bq (by rfl)]
 dsimp only;refine ac.eq_iff.1 ?_;refine ac.aX (P:=λg=>g=.inl ()) ?_ ?_
 ·refine ac.steps (b0 G n).length (λb h=>h=((b:Int),())) rfl ?_ ?_
  ·rintro b _ d rfl;dsimp only;have i:b<(iZ A G n).length:=(by rw[v8];exact d);rw[bw (aC (U:(b:Int)<((b0 G n).length:Int))),br U];obtain⟨m,p⟩:=a.TI _ (List.getElem_mem i);refine ac.bs (y:=(iZ A G n)[b]) (iP (List.getElem?_eq_getElem i)) ?_;refine ac.bs (yA m) ?_;dsimp only;rw[bq (by rw[ay p];rfl)];exact ac.aj.2 rfl
  rintro _ rfl;dsimp only;rw[bq (ay (U:¬(((b0 G n).length:Int)<((b0 G n).length:Int))))];exact ac.aj.2 rfl
 rintro _ rfl;dsimp only;refine ac.aX (P:=λg=>g=.inl ()) ?_ (by rintro _ rfl;exact ac.aj.2 rfl);refine ac.steps n (λb h=>h=((b:Int),())) rfl ?_ ?_
 ·rintro c _ e rfl;dsimp only;rw[bw (aC (U:(c:Int)<(n:Int))),br U];obtain⟨k,l⟩:=a.first e;obtain⟨b,_,_,_,ai,_,j⟩:=a.at e k;rw[l] at ai;obtain rfl:c=b:=(by have:=Option.some.inj ai;omega);obtain⟨t,f,s⟩:=a.diag e;refine ac.bs (a.st U) (ac.bs (y:=a9 A (aU G) c c) j ?_);refine ac.bs (vx (pA _ _ _ _)) (ac.bs (lq (ji _)) ?_);dsimp only;rw[bq (ay (by rw[f];show¬dU t<=0;rw[CK s];decide))];exact ac.aj.2 rfl
 rintro _ rfl;dsimp only;rw[bq (ay (U:¬((n:Int)<(n:Int))))];exact ac.aj.2 rfl
end
end
def Ci {c:Bool} (n:a<=9007199254740992) (o:-1074<=b) (m:4503599627370496<=a\/b=-1074) (d:a8 (g0 c a b 0)≠2047):gO (g0 c a b 0)*2^(e5 (g0 c a b 0)+65536).toNat=(if c then-(a:Int) else(a:Int))*2^(b+65536).toNat:=by
 have l:a8 (kP c 0)=2047:=(by cases c<;>decide);have j:∀(f k i:Int),a8 f≠2047->gO f=k->e5 f=i->k*2^(i+65536).toNat=(if c then-(a:Int) else(a:Int))*2^(b+65536).toNat->gO f*2^(e5 f+65536).toNat=(if c then-(a:Int) else(a:Int))*2^(b+65536).toNat:=(by intro f k i _ h g e;rw[h,g];exact e);unfold g0 at d|-;by_cases h:a<4503599627370496
 ·rw[al h] at d|-;obtain rfl:b=-1074:=U;refine j _ (if c then-(a:Int) else(a:Int)) (-1074) d ?_ ?_ rfl
  ·unfold gO a8 dE gB;cases c<;>simp<;>omega
  unfold e5 a8 gB;cases c<;>simp<;>omega
 rw[ah h] at d|-;by_cases g:a=9007199254740992
 ·rw[al g] at d|-;by_cases e:b+1+1075>=2047
  ·rw[al e] at d;exact absurd l d
  rw[ah e] at d|-;refine j _ (if c then-(4503599627370496:Int) else 4503599627370496) (b+1) d ?_ ?_ ?_
  ·unfold gO a8 dE gB;cases c<;>simp<;>omega
  ·unfold e5 a8 gB;cases c<;>simp<;>omega
  have ai:(b+1+65536).toNat=(b+65536).toNat+1:=U;rw[ai,Int.pow_succ,g];generalize(2:Int)^(b+65536).toNat=p;cases c<;>simp<;>omega
 rw[ah g] at d|-;by_cases e:b+1075>=2047
 ·rw[al e] at d;exact absurd l d
 rw[ah e] at d|-;refine j _ (if c then-(a:Int) else(a:Int)) b d ?_ ?_ rfl
 ·unfold gO a8 dE gB;cases c<;>simp<;>omega
 unfold e5 a8 gB;cases c<;>simp<;>omega
def Lp (m:Bool) (d:Nat) {s:Nat} (i:Bool) (t:1<=s):2*(eN m d s i 0*2^s)<=2*d+2^s/\2*(d+i.toNat)<=2*(eN m d s i 0*2^s)+2^s:=by
 obtain⟨b,rfl⟩:∃b,s=b+1:=⟨s-1,U⟩;have o:2^(b+1)=2*2^b:=(by rw[hI,hj]);have q:0<2^b:=e8 b;have n:=qe d (2^(b+1));have r:=Nat.mod_lt d (U:2^(b+1)>0);unfold eN iJ pV;rw[o] at*;generalize 2^b=a at*;generalize d %(2*a)=g at*;generalize d/(2*a)=j at*;rw[hj] at n;have h:(j+1)*(2*a)=j*(2*a)+2*a:=(by rw[e2,fG]);generalize c:j*(2*a)=p at*;cases i
 ·by_cases k:g=0
  ·simp[k,c];omega
  simp only[k,false_and,if_false];by_cases e:2*g<2*a
  ·simp[e,c];omega
  by_cases f:2*a<2*g
  ·simp[e,f,c,h];omega
  simp only[e,f,if_false];by_cases l:j %2=1
  ·simp[l,c,h];omega
  simp[l,c];omega
 by_cases e:2*g<2*a
 ·simp[e,c];omega
 by_cases f:2*a<2*g
 ·simp[e,f,c,h];omega
 simp[e,f,c,h];omega
def H5 {f d:Bool} (u:58<=aw a) (i:a8 (g2 f a b d 0)≠2047):∃(g:Nat) (c:Nat),5<=c/\b+c=bg a b/\(b+c=-1074\/(c:Int)+53=aw a)/\-1074<=b+c/\bE (g2 f a b d 0)=some ((if f then-(g:Int) else(g:Int))*2^(b+c+65536).toNat)/\2*(g*2^c)<=2*a+2^c/\2*(a+d.toNat)<=2*(g*2^c)+2^c:=by
 have o:0<a:=by
  rcases hh a with h|h
  ·subst h;exact absurd u aa
  exact h
 have A:bg a b=b+aw a-53\/bg a b=-1074:=(by unfold bg;omega);have B:b+aw a-53<=bg a b/\-1074<=bg a b:=(by unfold bg;omega);have l:=th (neg:=f) (m3:=d) (m2:=0) (e:=b) o;have t:¬bg a b<=b:=U;unfold g2 at i|-;rw[ah t] at i l|-;generalize bg a b=j at*;obtain⟨c,w⟩:=ea (U:0<=j-b);rw[w,du] at i l|-;have k:=Lp f a d (s:=c) U;have v:4503599627370496<=eN f a c d 0\/j=-1074:=by
  by_cases h:j=-1074
  ·exact .inr h
  left;have x:c+53=aw a:=U;have n:=(nF o).1;have q:aw a-1=c+52:=U;rw[q,dv] at n;have y:=k.2;have z:=e8 c;have r:(2:Nat)^52=4503599627370496:=aa;rw[r] at n;generalize 2^c=p at*;generalize eN f a c d 0=g at*;rcases bj g 4503599627370496 with m|m
  ·exfalso;have:g*p<=4503599627370495*p:=dG _ U;omega
  exact m
 refine⟨eN f a c d 0,c,U,U,U,U,?_,k.1,k.2⟩;rw[kO i,Ci l U v i,(U:b+(c:Int)=j)]
def ki (a b:Nat):(2:Int)^(a+b)=2^a*2^b:=iC 2 a b
def yW (c:-65536<=bh b):b=aR b*2^(bh b+65536).toNat:=by have a:=mi b;have:(bh b+65536).toNat=bb b.natAbs:=(by unfold bh;omega);rw[this,a]
def uY (a:Int):-65536<=bh a:=by unfold bh;omega
def Sw (a b:Bool) (c:Int):(if(a !=b)=true then-c else c)=(if a=true then-1 else 1)*((if b=true then-1 else 1)*c):=by cases a<;>cases b<;>simp
def BY (a:Int):aR a=(if decide (a<0)=true then-1 else 1)*((aR a).natAbs:Int):=by
 have:=q7 (v:=a);by_cases b:a<0
 ·simp[b];omega
 simp[b];omega
def HJ (ce:e≠0) (ci:b≠0) (fn:-60000<=bh e) (fp:aw (aR b).natAbs<=53) (E:a8 (mm e b 0)≠2047):∃y,bE (mm e b 0)=some y/\(y*b-e*2^65536).natAbs*2^1075<=e.natAbs*2^65536*2^1022+b.natAbs*2^65536:=by
 obtain⟨j,am⟩:∃j:Nat,j=65536:=⟨_,rfl⟩;obtain⟨h,an⟩:∃h:Nat,h=1022:=⟨_,rfl⟩;rw[<-am,(U:(1075:Nat)=h+53),<-an];have Z:0<(aR e).natAbs:=(by have:=gP ce;omega);have C:0<(aR b).natAbs:=(by have:=gP ci;omega);have Y:e=(if decide (e<0)=true then-1 else 1)*((aR e).natAbs:Int)*2^(bh e+65536).toNat:=(by rw[<-BY];exact yW (uY e));have B:b=(if decide (b<0)=true then-1 else 1)*((aR b).natAbs:Int)*2^(bh b+65536).toNat:=(by rw[<-BY];exact yW (uY b));have ft:=uY b;have d7:ml (aR e).natAbs (aR b).natAbs=59+aw (aR b).natAbs-aw (aR e).natAbs:=rfl;unfold mm vF at E|-;generalize d8:ml (aR e).natAbs (aR b).natAbs=d at*;generalize d3:(aR e).natAbs=g at*;generalize d4:(aR b).natAbs=a at*;have r:=Cp (k:=d) Z C U;obtain⟨i,c,eq,_,av,d6,bl,a3,a4⟩:=H5 r E;refine⟨_,bl,?_⟩;obtain⟨f,ex⟩:=ea (U:0<=bh e-bh b-d+(bh b+131072));have el:=qe (g*2^d) a;have d9:=Nat.mod_lt (g*2^d) C;generalize em:g*2^d/a=m at*;generalize g*2^d %a=I at*;have d5:2*(i*2^c*a)<=2*(g*2^d)+2^c*a/\2*(g*2^d)<=2*(i*2^c*a)+2^c*a:=by
  have aq:=dG a a3;have u:=dG a a4;rw[e2,fv 2,fv 2] at aq;rw[e2,fv 2,fv 2,e2] at u;have fs:a*m=m*a:=hj _ _;constructor
  ·omega
  by_cases o:I=0
  ·omega
  have:decide (I≠0)=true:=(by simpa using o);rw[this] at u;simp only[Bool.toNat_true,fG] at u;omega
 have ai:((if(decide (e<0)!=decide (b<0))=true then-(i:Int) else(i:Int))*2^(bh e-bh b-(d:Int)+(c:Int)+65536).toNat)*b=(if decide (e<0)=true then-1 else 1)*((i*2^c*a*2^f:Nat):Int):=by
  have s:(bh e-bh b-(d:Int)+(c:Int)+65536).toNat+(bh b+65536).toNat=c+f:=U;have t:(2:Int)^(bh e-bh b-(d:Int)+(c:Int)+65536).toNat*2^(bh b+65536).toNat=2^c*2^f:=(by rw[<-ki,s,ki]);rw[Sw];refine(congrArg (λv=>(if decide (e<0)=true then(-1:Int) else 1)*((if decide (b<0)=true then(-1:Int) else 1)*(i:Int))*2^(bh e-bh b-(d:Int)+(c:Int)+65536).toNat*v) B).trans ?_
  push_cast
  generalize(2:Int)^(bh e-bh b-(d:Int)+(c:Int)+65536).toNat=w at*;generalize(2:Int)^(bh b+65536).toNat=x at*;have bs:(if decide (b<0)=true then(-1:Int) else 1)*(if decide (b<0)=true then(-1:Int) else 1)=1:=(by cases decide (b<0)<;>rfl);generalize(if decide (b<0)=true then(-1:Int) else 1)=q at*;generalize(if decide (e<0)=true then(-1:Int) else 1)=J at*;have:J*(q*(i:Int))*w*(q*(a:Int)*x)=J*((i:Int)*(a:Int))*(w*x)*(q*q):=(by simp only[fP,tu,gG]);rw[this,bs,t,Int.mul_one];simp only[fP,tu,gG]
 have A:e*2^j=(if decide (e<0)=true then-1 else 1)*((g*2^d*2^f:Nat):Int):=by
  have s:(bh e+65536).toNat+j=d+f:=U;have t:(2:Int)^(bh e+65536).toNat*2^j=2^d*2^f:=(by rw[<-ki,s,ki]);refine(congrArg (λv=>v*2^j) Y).trans ?_
  push_cast
  rw[fP,t];simp only[fP]
 have S:e.natAbs*2^j=g*2^d*2^f:=(by have:=congrArg Int.natAbs A;rw[eR,jV,h2] at this;rw[this];split<;>simp);rw[ai,A,S,<-Int.mul_sub,jV];have T:∀p:Bool,(if p=true then(-1:Int) else 1).natAbs=1:=(by intro p;cases p<;>rfl);rw[T,fG];have V:((i*2^c*a*2^f:Nat):Int)-((g*2^d*2^f:Nat):Int)=((i*2^c*a:Nat)-(g*2^d:Nat):Int)*((2^f:Nat):Int):=(by rw[Int.sub_mul];push_cast;rfl);rw[V,jV,h2];have ad:2*((i*2^c*a:Nat)-(g*2^d:Nat):Int).natAbs<=2^c*a:=(by generalize i*2^c*a=cs at*;generalize g*2^d=p at*;generalize 2^c*a=d0 at*;omega);generalize((i*2^c*a:Nat)-(g*2^d:Nat):Int).natAbs=n at*;have D:=dG (2^f) ad;have G:(2:Nat)^(h+53)=2*2^(h+52):=Nat.pow_succ';rcases av with ap|ap
 ·have W:2^c*a*2^f*2^(h+52)=b.natAbs*2^j:=by
   have K:b.natAbs=a*2^(bh b+65536).toNat:=(by have:=congrArg Int.natAbs B;rw[eR,jV,h2] at this;rw[this];split<;>simp);have L:c+f+(h+52)=(bh b+65536).toNat+j:=U;have M:2^c*2^f*2^(h+52)=2^(bh b+65536).toNat*2^j:=(by rw[<-dv,<-dv,<-dv,L]);rw[K,fv a,<-M];simp only[fv,qg,hj]
  have:=dG (2^(h+52)) D;rw[W] at this;rw[G];generalize(2:Nat)^(h+52)=F at*;have X:n*2^f*(2*F)=2*n*2^f*F:=(by simp only[fv,qg,hj]);rw[X];exact bt this (Nat.le_add_left _ _)
 have N:aw m=c+53:=U;have a0:0<m:=by
  rcases hh m with o|o
  ·rw[o] at r;exact absurd r aa
  exact o
 have z:=(nF a0).1;rw[N,show c+53-1=c+52 from rfl,dv] at z;have H:(2:Nat)^(h+53)=2*2^52*2^h:=(by rw[fv,<-dv,<-Nat.pow_succ',(U:(52+h).succ=h+53)]);rw[H];clear H G;generalize(2:Nat)^52=l at*;generalize(2:Nat)^h=co at*;have O:2^c*a*l<=g*2^d:=(by have:=dG a z;have ds:a*m=m*a:=hj _ _;have R:2^c*a*l=2^c*l*a:=Nat.mul_right_comm _ _ _;rw[R];omega);have cv:=dG (2^f) O;have dl:=dG l D;have P:n*2^f*(2*l)<=g*2^d*2^f:=(by have d1:n*2^f*(2*l)=2*n*2^f*l:=(by simp only[fv,qg,hj]);have d2:2^c*a*2^f*l=2^c*a*l*2^f:=Nat.mul_right_comm _ _ _;omega);have Q:=dG co P;rw[<-fv];exact bt Q (tG _ _)
theorem R0 {b:Nat} (d:a*c<=h) (n:2*g<=2*h+c) (k:h*h<=b) (y:b<(h+1)*(h+1)) (o:4*b<=(2*g+c)*(2*g+c)):4*(a*a*(g*g))<=4*(a*a*b)+4*(a*b)+b/\4*(a*a*b)<=4*(a*a*(g*g))+4*(a*b)+b:=by
 have r:a*(h*c)<=h*h:=(by rw[qg];exact j3 _ d);have f2:a*a*(c*c)<=h*h:=(by have:a*a*(c*c)=a*c*(a*c):=(by simp only[fv,qg,hj]);rw[this];exact hH d d);have p:(2*g+c)*(2*g+c)=4*(g*g)+4*(g*c)+c*c:=(by grind);constructor
 ·have m:=hH n n;have ai:2*g*(2*g)=4*(g*g):=(by grind);have q:(2*h+c)*(2*h+c)=4*(h*h)+4*(h*c)+c*c:=(by grind);rw[ai,q] at m;have j:=j3 (a*a) m;have f:a*a*(4*(g*g))=4*(a*a*(g*g)):=(by grind);have i:a*a*(4*(h*h)+4*(h*c)+c*c)=4*(a*a*(h*h))+4*(a*(a*(h*c)))+a*a*(c*c):=(by grind);rw[f,i] at j;have t:=j3 a r;have w:=j3 (a*a) k;have x:=j3 a k;omega
 rcases bj (g*g) b with l|l
 ·have u:g<=h:=by
   rcases bj h g with e|e
   ·have:=hH e e;have v:(h+1)*(h+1)=h.succ*h.succ:=rfl;omega
   exact e
  have s:a*(g*c)<=b:=(by rw[qg];exact bt (hH u d) k);rw[p] at o;have j:=j3 (a*a) o;have f:a*a*(4*b)=4*(a*a*b):=(by grind);have i:a*a*(4*(g*g)+4*(g*c)+c*c)=4*(a*a*(g*g))+4*(a*(a*(g*c)))+a*a*(c*c):=(by grind);rw[f,i] at j;have t:=j3 a s;omega
 have:=j3 (a*a) l;omega
def Rv (b:g+h=a+a+(c+c)):2^g*2^h=2^a*2^a*(2^c*2^c):=by rw[<-dv,<-dv,<-dv,<-dv,b]
theorem R3 (av:0<b) (y:2^(65536-2044)<=b.natAbs) (x:a8 (iX b 0)≠2047):∃r,bE (iX b 0)=some r/\(r*r-b*2^65536).natAbs*2^106<=b.natAbs*2^65536*2^54+b.natAbs*2^65536:=by
 obtain⟨i,R⟩:∃i:Nat,i=65536:=⟨_,rfl⟩;rw[<-R] at y|-;have P:0<(aR b).natAbs:=(by have:=gP (v:=b) U;omega);have a0:=uY b;have L:b=((aR b).natAbs:Int)*2^(bh b+65536).toNat:=(by have N:=yW a0;have a4:=q7 (v:=b);rw[(U:((aR b).natAbs:Int)=aR b)];exact N);have ci:hW (aR b).natAbs (bh b)<=119/\118<=aw (aR b).natAbs+hW (aR b).natAbs (bh b)/\(bh b-(hW (aR b).natAbs (bh b):Nat)) %2=0:=(by unfold hW;split<;>omega);unfold iX s5 at x|-;generalize hW (aR b).natAbs (bh b)=a at*;generalize(aR b).natAbs=c at*;obtain⟨m,bs⟩:∃m,bh b-(a:Int)=2*m:=⟨(bh b-a)/2,U⟩;rw[(U:(bh b-(a:Int))/2=m)] at x|-;have z:58<=aw (bW (c*2^a)):=yB (by rw[ie P];omega);obtain⟨ap,F⟩:=sB (c*2^a);obtain⟨d,cs⟩:=ea (U:0<=m+i);have t:b.natAbs*2^i=c*2^a*(2^d*2^d):=(by have:=congrArg Int.natAbs L;rw[eR,h2] at this;rw[this,fv,fv,<-dv,<-dv,<-dv];congr 2;omega);obtain⟨l,e,co,_,W,ce,am,ad,o⟩:=H5 z x;refine⟨_,am,?_⟩;have X:0<bW (c*2^a):=by
  rcases hh (bW (c*2^a)) with g|g
  ·rw[g] at z;exact absurd z aa
  exact g
 have T:=nF X;have Y:decide (bW (c*2^a)*bW (c*2^a)≠c*2^a)=false->bW (c*2^a)*bW (c*2^a)=c*2^a:=λw=>(by simpa using w);have Z:(decide (bW (c*2^a)*bW (c*2^a)≠c*2^a)).toNat=1\/bW (c*2^a)*bW (c*2^a)=c*2^a:=by
  cases w:decide (bW (c*2^a)*bW (c*2^a)≠c*2^a)
  ·exact .inr (Y w)
  exact .inl rfl
 generalize bW (c*2^a)=k at*;have S:0<2^d*2^d:=Nat.mul_pos (e8 d) (e8 d);have bl:e+53<=aw k:=by
  rcases W with V|V
  ·rcases bj (aw k) (e+53) with g|g
   ·exfalso;have u:k<2^(e+52):=bY.1 U;have B:c*2^a<2^(e+52)*2^(e+52):=fF F (hH u u);have C:=zO B S;have p:=dG (2^i) y;rw[t] at p;rw[Rv (show i-2044+i=e+52+(e+52)+(d+d) by clear p y C B u;omega)] at p;exact absurd (Nat.lt_of_le_of_lt p C) (Nat.lt_irrefl _)
   exact g
  omega
 have an:2^52*2^e<=k:=(by rw[<-dv];exact bt (gZ _ _ U) T.1);have O:4*(c*2^a)<=(2*(l*2^e)+2^e)*(2*(l*2^e)+2^e):=by
  have ai:∀n:Nat,2*n*(2*n)=4*(n*n):=λn=>(by grind);rcases Z with E|E
  ·rw[E] at o;have A:=hH o o;rw[ai] at A;omega
  have A:=hH (bt (j3 2 (tG k _)) o) (bt (j3 2 (tG k _)) o);rw[ai] at A;omega
 have D:=R0 an ad ap F O;have K:(if false=true then-(l:Int) else(l:Int))*2^(m+(e:Int)+65536).toNat=((l*2^e*2^d:Nat):Int):=by
  rw[ah aa,(U:(m+(e:Int)+65536).toNat=e+d),ki]
  push_cast
  rw[fP]
 have M:b*2^i=((c*2^a*(2^d*2^d):Nat):Int):=by
  rw[<-t]
  push_cast
  rw[Int.natAbs_of_nonneg (eb av)]
 rw[K,M,t];generalize l*2^e=f at*;generalize c*2^a=h at*;have H:((f*2^d:Nat):Int)*((f*2^d:Nat):Int)-((h*(2^d*2^d):Nat):Int)=(((f*f:Nat):Int)-(h:Int))*((2^d*2^d:Nat):Int):=by
  push_cast
  generalize(2:Int)^d=n;grind
 rw[H,jV,h2];generalize 2^d*2^d=G at*;have I:(2:Nat)^106=4*(2^52*2^52):=aa;have J:(2:Nat)^54=4*2^52:=aa;rw[I,J];generalize(2:Nat)^52=j at*;have Q:4*(j*j*(((f*f:Nat):Int)-(h:Int)).natAbs)<=4*(j*h)+h:=by
  rcases Nat.le_total (f*f) h with g|g
  ·obtain⟨s,q⟩:=Nat.exists_eq_add_of_le g;rw[(U:(((f*f:Nat):Int)-(h:Int)).natAbs=s)];have:=D.2;rw[q,Nat.mul_add (j*j)] at this;rw[q];omega
  obtain⟨s,q⟩:=Nat.exists_eq_add_of_le g;rw[(U:(((f*f:Nat):Int)-(h:Int)).natAbs=s)];have:=D.1;rw[q,Nat.mul_add (j*j)] at this;omega
 generalize(((f*f:Nat):Int)-(h:Int)).natAbs=a3 at*;have:=dG G Q;grind
section
def oh (b:cJ) (n:Int):cJ:=b.bind λa=>if a=0 then some 0 else ed (aR a) (bh a+n)
def vO (b:cJ) (n:Int) (e:dx b):dx (oh b n):=by
 intro d a;cases b with
 |none=>cases a
 |some c=>
  have a:(if c=0 then some 0 else ed (aR c) (bh c+n))=some d:=a;split at a
  ·cases a;decide
  exact yR _ _ d a
def vL {c:cJ} (d:dx c) {n:Int} (l:-262144<=n) (m:n<=262144):o7 (a6 c,n,())=some (a6 (oh c n),()):=by
 unfold o7;refine ao (mn d) ?_;cases c with
 |none=>rfl
 |some a=>
  have e:=d a rfl;have k:=hV e;have g:=hU e;rw[e4];have i:=kk (z:=aR a) U;dsimp only;rw[bw (by rfl),i,Option.bind_some,Option.bind_some];dsimp only;rw[hY,bo];by_cases b:a=0
  ·rw[al (GD.2 b)];subst b;rfl
  have j:=λf=>b (GD.1 f);rw[if_neg j,Option.bind_some];dsimp only;rw[bw (by rw[ay U];rfl),Option.bind_some];dsimp only;rw[ay U,cond_false,Option.bind_some];dsimp only;have h:bm a=bh a:=(by unfold bm;rw[if_neg b]);rw[h] at g|-;rw[bf U U];refine ao (pM U U U) ?_;show some (a6 (ed (aR a) (bh a+n)),())=some (a6 (if a=0 then some 0 else ed (aR a) (bh a+n)),());rw[if_neg b]
def Sn (c:e=b*2^a) (k:dT b):oh (some e) (-(a:Int))=some b:=by
 show(if e=0 then some 0 else ed (aR e) (bh e+-(a:Int)))=some b;have f:(2:Int)^a≠0:=(by have:(0:Int)<2^a:=i9 aa;omega);by_cases d:b=0
 ·rw[al (by rw[c,d,jW]),d]
 have j:e≠0:=(by rw[c];exact Int.mul_ne_zero d f);rw[ah j];have h:=mi e;have l:=mi b;have i:bb e.natAbs=bb b.natAbs+a:=(by rw[c,eR,v5 U]);have ai:b=aR e*2^bb b.natAbs:=(by have:aR e*2^bb b.natAbs*2^a=b*2^a:=(by rw[<-c,fP,<-ki,<-i,h]);exact((Int.mul_eq_mul_right_iff f).1 this).symm);have g:(bh e+-(a:Int)+65536).toNat=bb b.natAbs:=(by unfold bh;omega);rw[q3 (v:=b) (by unfold bh;omega) (by rw[g];exact ai)];unfold hN;rw[al k]
section
variable {A:Nat->Nat->cJ} {G:cE} {o:cP} {n:Nat}
def Dw (b:eC A G o n) (i:a<n) (z:a<=c):uA (fA A G o n,(c:Int),(a:Int),())=some (a9 A (aU G) a c,()):=by
 unfold uA;refine ac.eq_iff.1 ?_;refine ac.bs (b.st U) ?_;refine ac.aX (P:=λg=>(g=.inl ()/\(c:Int)∉be G a)\/g=.inr (a9 A (aU G) a c,())) ?_ ?_
 ·refine ac.steps (be G a).length (λe w=>w=((((b0 G a).length+e:Nat):Int),())/\(c:Int)∉(be G a).take e) ⟨rfl,ab⟩ ?_ ?_
  ·rintro e _ q ⟨rfl,d⟩;obtain⟨x,D,B,C,r,ai,p⟩:=b.at i q;have k:=b.va (j:=a) U;have y:=b.Eo a;have l:=b.mg;dsimp only;rw[br U];refine ac.bs (b.st (j:=a+1) U) ?_;have f:(b0 G (a+1)).length=(b0 G a).length+(be G a).length:=by
    show(b0 G a++be G a).length=_;rw[jZ]
   rw[f,bw (aC U)];refine ac.bs ai ?_;rw[dD,bo];refine ac.ite (λm=>?_) (λm=>?_)
   ·obtain rfl:x=c:=U;refine ac.bs p ?_;exact ac.aj.2 (.inr rfl)
   rw[br U];refine ac.aj.2 ⟨rfl,?_⟩;obtain⟨v,u⟩:=ec.1 r;rw[<-List.take_append_getElem v,u];intro s;rcases eI.1 s with h|h
   ·exact d h
   have:=eV.1 h;omega
  rintro _ ⟨rfl,d⟩;have k:=b.va (j:=a) U;have l:=b.mg;dsimp only;rw[br U];refine ac.bs (b.st (j:=a+1) U) ?_;have f:(b0 G (a+1)).length=(b0 G a).length+(be G a).length:=(by show(b0 G a++be G a).length=_;rw[List.length_append]);rw[f,bq (ay U)];refine ac.aj.2 (.inl ⟨rfl,?_⟩);rwa[List.take_length] at d
 rintro g (⟨rfl,d⟩|rfl)
 ·have t:c≠a:=by
   rintro rfl;exact d (by simpa[aU] using vE (G:=G) (j:=c) (by rw[b.jC];exact i))
  rw[sJ (by simpa[aU] using d) t];exact ac.aj.2 rfl
 exact ac.aj.2 rfl
end
def JF (c:dT b) (d:dT e):xP (a6 (some b),a6 (some e),())=some (decide (b<e),()):=by
 unfold xP;refine ao (RM c d) ?_;show some (decide (dI b e<0),())=_;unfold dI;by_cases a:b<e
 ·rw[al a,aC a];rfl
 rw[ah a,ay a];split<;>rfl
end
def bJ (a:Nat) (b:Int):Prop:=∃c,b=c*2^a
def bJ.zero (a:Nat):bJ a 0:=⟨0,by rw[jW]⟩
def bJ.add (d:bJ a b) (c:bJ a e):bJ a (b+e):=by obtain⟨f,rfl⟩:=d;obtain⟨g,rfl⟩:=c;exact⟨f+g,by rw[Int.add_mul]⟩
def bJ.neg (c:bJ a b):bJ a (-b):=by obtain⟨d,rfl⟩:=c;exact⟨-d,by rw[Int.neg_mul]⟩
def bJ.mono {d e:Nat} (c:bJ e b) (a:d<=e):bJ d b:=by obtain⟨g,rfl⟩:=c;obtain⟨f,rfl⟩:=Nat.exists_eq_add_of_le a;exact⟨g*2^f,by rw[Nat.add_comm,ki,fP]⟩
def bJ.shl (a:Nat) (b:Int):bJ a (b*2^a):=⟨b,rfl⟩
def bJ.ge (f:bJ a b) (e:b≠0):2^a<=b.natAbs:=by
 obtain⟨c,rfl⟩:=f;rw[eR];have:0<c.natAbs:=by
  rcases hh c.natAbs with d|d
  ·have:c=0:=U;rw[this,jW] at e;exact absurd rfl e
  exact d
 exact Nat.le_mul_of_pos_left _ this
def bJ.IX (d:b≠0):bJ a b↔a<=bb b.natAbs:=by
 rw[pv U];constructor
 ·rintro⟨e,rfl⟩;rw[eR,Nat.mul_mod_left]
 intro c;exact⟨b/2^a,(uR c).symm⟩
def bJ.ex (d:b≠0) (c:bJ a b):(a:Int)-65536<=bh b:=by have:=(bJ.IX d).1 c;unfold bh;omega
def Hx {neg:Bool} (c:Int) (d:a<=9007199254740992) (e:-1074<=b) (f:b<=900):g0 neg a b c=g0 neg a b 0/\a8 (g0 neg a b 0)≠2047:=by
 unfold g0;rw[ah (U:¬b+1+1075>=2047),ah (U:¬b+1075>=2047),ah (U:¬b+1+1075>=2047),ah (U:¬b+1075>=2047)];refine⟨rfl,?_⟩;split
 ·unfold a8 gB;cases neg<;>simp<;>omega
 split
 ·unfold a8 gB;cases neg<;>simp<;>omega
 unfold a8 gB;cases neg<;>simp<;>omega
theorem H4 {v:Int} (d:Int) (k:v≠0) (F:bJ (65536-1074) v) (Q:aw v.natAbs<=65536+900):a8 (m9 v d)≠2047/\∃o,bE (m9 v d)=some o/\(∀l,bJ l v->bJ l o)/\o.natAbs<=2*v.natAbs/\v.natAbs<=2*o.natAbs:=by
 have X:=F.ex k;have q:0<(aR v).natAbs:=(by have:=gP k;omega);have S:=BW k;have W:=pT (n:=v.natAbs) U;have p:v=(if decide (v<0)=true then-1 else 1)*((aR v).natAbs:Int)*2^(bh v+65536).toNat:=(by rw[<-BY];exact yW (uY v));have C:(bh v+65536).toNat=bb v.natAbs:=(by unfold bh;omega);have O:bh v=(bb v.natAbs:Int)-65536:=rfl;unfold m9;rw[ah k];generalize R:(aR v).natAbs=a at*;generalize T:decide (v<0)=c at*;have f:=th (neg:=c) (m3:=false) (m2:=d) (e:=bh v) q;have M:bg a (bh v)=bh v+aw a-53\/bg a (bh v)=-1074:=(by unfold bg;omega);have m:bh v+aw a-53<=bg a (bh v)/\-1074<=bg a (bh v):=(by unfold bg;omega);have y:bg a (bh v)<=900:=U;have H:=nF q;unfold g2;generalize bg a (bh v)=g at*;by_cases t:g<=bh v
 ·rw[al t] at f|-;obtain⟨j,w⟩:=ea (U:0<=bh v-g);rw[w,du] at f|-;obtain⟨aq,i⟩:=Hx (neg:=c) d f m.2 y;have r:4503599627370496<=a*2^j\/g=-1074:=by
   rcases M with s|s
   ·left;have ai:aw (a*2^j)=53:=(by rw[ie q];omega);have:=oU.1 (U:52<aw (a*2^j));exact this
   exact .inr s
  rw[aq];refine⟨i,v,?_,λl E=>E,U,U⟩;rw[kO i,Ci f m.2 r i];congr 1;have N:(bh v+65536).toNat=j+(g+65536).toNat:=U;rw[N,ki] at p;refine Eq.trans ?_ p.symm
  push_cast
  generalize(2:Int)^j=Y;generalize(2:Int)^(g+65536).toNat=Z;cases c<;>simp<;>grind
 rw[ah t] at f|-;obtain⟨b,L⟩:=ea (U:0<=g-bh v);rw[L,du] at f|-;obtain⟨aq,i⟩:=Hx (neg:=c) d f m.2 y;have V:b+53=aw a:=U;have K:eN c a b false d<=a/2^b+1:=by
  unfold eN;split
  ·omega
  split<;>omega
 have G:2^52*2^b<=a:=(by rw[<-dv];exact bt (gZ _ _ U) H.1);have x:=e8 b;have J:4503599627370496<=a/2^b:=(tH x).2 G;have u:a/2^b<=eN c a b false d:=by
  unfold eN;split
  ·exact a2 _
  split<;>omega
 have r:=bt J u;have w:=Nat.div_mul_le_self a (2^b);rw[aq];generalize eN c a b false d=h at*;refine⟨i,(if c=true then-(h:Int) else(h:Int))*2^(g+65536).toNat,?_,?_,?_⟩
 ·rw[kO i,Ci f m.2 (.inl r) i]
 ·intro l I;have:=(bJ.IX k).1 I;exact(bJ.shl _ _).mono U
 have ai:(g+65536).toNat=b+bb v.natAbs:=U;have z:v.natAbs=a*2^bb v.natAbs:=(by have:=congrArg Int.natAbs p;have B:(if c=true then(-1:Int) else 1).natAbs=1:=(by cases c<;>rfl);rw[eR,jV,h2,C,B,fG] at this;exact this);have A:(if c=true then-(h:Int) else(h:Int)).natAbs=h:=(by cases c<;>simp);rw[eR,ai,dv,<-fv,A];have D:h*2^b<=(a/2^b+1)*2^b:=dG _ K;rw[e2,fG] at D;have f2:2^b<=2^52*2^b:=Nat.le_mul_of_pos_left _ aa;have P:a/2^b*2^b<=h*2^b:=dG _ u;have f4:=qe a (2^b);have f5:=Nat.mod_lt a x;rw[hj] at f4;generalize bb v.natAbs=s at*;rw[z];constructor
 ·rw[<-fv];exact dG _ U
 rw[<-fv];exact dG _ U
def fV (c d:Nat) (b:Int):Prop:=dN b/\a8 b≠2047/\∀a,bE b=some a->bJ (65536-56) a/\a.natAbs<=2^(65536+c)/\(a≠0->2^(65536-d)<=a.natAbs)
def fV.mono (d:fV a g b) (j:a<=c) (k:g<=h):fV c h b:=
 ⟨d.1,d.2.1,λf e=>⟨(d.2.2 f e).1,bt (d.2.2 f e).2.1 (gZ _ _ U),λi=>bt (gZ _ _ U) ((d.2.2 f e).2.2 i)⟩⟩
def fV.zero (b d:Nat):fV b d 0:=⟨⟨aa,aa⟩,aa,λe a=>by
 rw[sT] at a;cases a;exact⟨bJ.zero _,eL _,λc=>absurd rfl c⟩⟩
def Hp {X M E:Nat} (e:E<2048) (f:M/2^52=2048):((X&&&M)|||(E<<<52))/2^52 %2048=E/\((X&&&M)|||(E<<<52)) %2^52=(X %2^52)&&&(M %2^52):=by
 constructor
 ·rw[<-Nat.shiftRight_eq_div_pow,Nat.shiftRight_or_distrib,Nat.shiftRight_and_distrib,Nat.shiftRight_eq_div_pow M,f,Nat.shiftLeft_shiftRight];have c:=Nat.or_mod_two_pow (a:=(X>>>52)&&&2048) (b:=E) (n:=11);have d:=Nat.and_mod_two_pow (a:=X>>>52) (b:=2048) (n:=11);rw[(aa:(2048:Nat) %2^11=0),Nat.and_zero] at d;rw[d,Nat.zero_or,(aa:(2:Nat)^11=2048),Nat.mod_eq_of_lt e] at c;exact c
 rw[Nat.or_mod_two_pow,Nat.and_mod_two_pow,Nat.shiftLeft_eq,Nat.mul_mod_left,Nat.or_zero]
def DN (b:Nat) (c:a<18446744073709551616):b&&&a<18446744073709551616:=Nat.lt_of_le_of_lt Nat.and_le_right c
def Hr {X M E:Nat} (e:X<18446744073709551616) (c:M<18446744073709551616) (g:E<2048):dP IntKind.u64 (bT IntKind.u64 (X:Int) (M:Int)) ((E<<<52:Nat):Int)=(((X&&&M)|||(E<<<52):Nat):Int):=by have a:=DN X c;have b:E<<<52<18446744073709551616:=(by rw[Nat.shiftLeft_eq];omega);have d:bT IntKind.u64 (X:Int) (M:Int)=((X&&&M:Nat):Int):=(by unfold bT;rw[show IntKind.u64.bits=64 from rfl,BitVec.toNat_and,mQ e,mQ c,rp U U]);have f:(X&&&M)|||(E<<<52)<18446744073709551616:=Nat.or_lt_two_pow (n:=64) a b;rw[d];unfold dP;rw[show IntKind.u64.bits=64 from rfl,BitVec.toNat_or,mQ a,mQ b,rp U U]
def O8 {E:Nat} (e:a8 b=(E:Int)) (f:0<E) (g:E<2047) (h:a+1075=E+65536):∃c:Int,bE b=some (c*2^a)/\c.natAbs=4503599627370496+(dE b).toNat/\(dE b).toNat<4503599627370496:=by
 have i:=sr b;refine⟨gO b,?_,?_,U⟩
 ·rw[kO U];have:(e5 b+65536).toNat=a:=(by unfold e5;rw[ah U];omega);rw[this]
 unfold gO;have d:¬a8 b=0:=U;rw[ah d];split<;>omega
def fV.qN {E l:Nat} (k:dN b) (h:a8 b=(E:Int)) (p:1075-56<=E+51) (q:E<1100) (f:1075-56<=E\/(dE b).toNat %2251799813685248=0) (t:E+53<=1075+a) (u:1075<=E+52+l) (v:l<=65536):fV a l b:=by
 obtain⟨c,j⟩:∃c,c+1075=E+65536:=⟨E+64461,U⟩;obtain⟨d,i,r,s⟩:=O8 h U U j;have n:53+c<=65536+a:=U;have o:65536-l<=52+c:=U;refine⟨k,U,λw g=>?_⟩;rw[i] at g;cases g;refine⟨?_,?_,λ_=>?_⟩
 ·rcases f with f|f
  ·exact(bJ.shl _ _).mono U
  have m:d.natAbs %2^51=0:=(by rw[(aa:(2:Nat)^51=2251799813685248)];omega);have ai:=(uR m).symm;refine bJ.mono (e:=51+c) ⟨d/2^51,?_⟩ U;rw[ki 51 c,<-fP,<-ai]
 ·rw[eR];have:d.natAbs<=2^53:=(by rw[(aa:(2:Nat)^53=9007199254740992)];omega);refine bt (dG _ this) ?_;rw[<-dv];exact gZ _ _ n
 rw[eR];have:2^52<=d.natAbs:=(by rw[(aa:(2:Nat)^52=4503599627370496)];omega);refine bt ?_ (dG _ this);rw[<-dv];exact gZ _ _ o
def EY (a:Nat):a8 (a:Int)=((a/2^52 %2048:Nat):Int):=by unfold a8;rw[(aa:(2:Nat)^52=4503599627370496)];omega
def Mw (a:Nat):(dE (a:Int)).toNat=a %2^52:=by unfold dE;rw[(aa:(2:Nat)^52=4503599627370496)];omega
def Kj {X M:Nat} (b:X<18446744073709551616) (a:M<18446744073709551616):bT IntKind.u64 (X:Int) (M:Int)=((X&&&M:Nat):Int):=by have c:=DN X a;unfold bT;rw[show IntKind.u64.bits=64 from rfl,BitVec.toNat_and,mQ b,mQ a,rp U U]
def Iv {E:Nat} (b:E<2048):((E:Int)*(2:Int)^(52:Int).toNat) %(18446744073709551616:Int)=((E<<<52:Nat):Int):=by rw[Nat.shiftLeft_eq,show((52:Int).toNat)=52 from rfl];have ai:(2:Int)^52=4503599627370496:=aa;have a:(2:Nat)^52=4503599627370496:=aa;rw[ai,a];omega
def SJ (d e:Nat) (u:5<=d) (r:-9<=b) (s:b<=9):fV d e (kj (gV b) 0):=by
 have w:aw b.natAbs<=4:=bY.2 U;obtain⟨a,t⟩:∃a:Nat,a=65536:=⟨_,rfl⟩;have m:gV b=some (b*2^a):=by
  unfold gV;rw[q3 (v:=b*2^a) aa (by rw[(U:((0:Int)+65536).toNat=a)])];unfold hN;rw[al];unfold dT;rw[eR];rcases hh b.natAbs with c|c
  ·rw[c,Nat.zero_mul];decide
  rw[ie c];omega
 have g:=H3 (gV b) 0;rw[m] at g|-;by_cases j:b=0
 ·rw[j,jW];exact fV.zero d e
 have x:(0:Int)<2^a:=i9 aa;have n:b*2^a≠0:=Int.mul_ne_zero j U;obtain⟨aq,y,p,q,k,_⟩:=H4 (v:=b*2^a) 0 n ((bJ.shl a b).mono U) (by
  rw[eR,ie U];omega)
 refine⟨g,aq,λl o=>?_⟩;have i:bE (m9 (b*2^a) 0)=some l:=o;rw[p] at i;cases i;have h:=q a (bJ.shl a b);refine⟨h.mono U,?_,λc=>bt (gZ (65536-e) a U) (h.ge c)⟩;rw[eR] at k;have:2*b.natAbs<=2^5:=U;have f:=dG (2^a) this;rw[<-dv] at f;refine bt k ?_;rw[<-fv];exact bt f (gZ (5+a) (65536+d) U)
def SI {z:Int} (a:-9<=z) (b:z<=9):fV 5 4 (kj (gV z) 0):=SJ 5 4 aa a b
def O4 (m:dN b) {style:Int} (w:kf style 4<3):ac (sh (b,style,())) λk=>fV 41 41 k.1/\(kf style 4<2->fV 5 4 k.1):=by
 obtain⟨a,rfl⟩:=Int.eq_ofNat_of_zero_le m.1;have i:a<18446744073709551616:=(by have:=m.2;omega);unfold sh;dsimp only;refine ac.bs (vp style (n:=4) aa aa) ?_;dsimp only;rw[dD,dD,dD,bo];refine ac.ite (λ_=>?_) λt=>?_
 ·rw[pO aa aa,aQ];have j:∃c:Nat,c<8/\bT IntKind.u64 ((a:Int)/2^(52:Int).toNat) 7=(c:Int):=by
   refine⟨a/2^52&&&7,?_,?_⟩
   ·have:a/2^52&&&7<=7:=Nat.and_le_right;omega
   rw[<-Kj (X:=a/2^52) (M:=7) (Nat.lt_of_le_of_lt (rN _ _) i) aa];rfl
  obtain⟨c,u,j⟩:=j;rw[j,show aA (1019+(c:Int))=((1019+c:Nat):Int) by rw[bM U U];omega,kZ aa aa,aQ,Iv U];refine ac.aj.2 ?_;have f:=Hr (X:=a) (M:=9227875636482146303) (E:=1019+c) i aa U;have e:=Hp (X:=a) (M:=9227875636482146303) (E:=1019+c) U aa;have h:=Hq (bT IntKind.u64 (a:Int) 9227875636482146303) (((1019+c)<<<52:Nat):Int);show fV 41 41 (dP IntKind.u64 (bT IntKind.u64 (a:Int) 9227875636482146303) (((1019+c)<<<52:Nat):Int))/\_;have l:fV 5 4 (dP IntKind.u64 (bT IntKind.u64 (a:Int) 9227875636482146303) (((1019+c)<<<52:Nat):Int)):=(by refine fV.qN (E:=1019+c) h ?_ U U (.inl U) U U U;refine(congrArg a8 f).trans ?_;rw[EY,e.1]);exact⟨l.mono aa aa,λ_=>l⟩
 rw[bo];refine ac.ite (λq=>?_) λq=>?_
 ·rw[pO aa aa,aQ];have r:gj ((a:Int)/2^(8:Int).toNat) 81=some ((a/2^8 %81:Nat):Int):=by
   unfold gj;rw[al aa];rfl
  rw[r,aQ];have v:a/2^8 %81<81:=Nat.mod_lt _ aa;generalize a/2^8 %81=d at*;rw[show aA (983+(d:Int))=((983+d:Nat):Int) by rw[bM U U];omega,kZ aa aa,aQ,Iv U];refine ac.aj.2 ?_;have f:=Hr (X:=a) (M:=9225623836668461056) (E:=983+d) i aa U;have e:=Hp (X:=a) (M:=9225623836668461056) (E:=983+d) U aa;have h:=Hq (bT IntKind.u64 (a:Int) 9225623836668461056) (((983+d)<<<52:Nat):Int);show fV 41 41 (dP IntKind.u64 (bT IntKind.u64 (a:Int) 9225623836668461056) (((983+d)<<<52:Nat):Int))/\_;refine⟨fV.qN (E:=983+d) h ?_ U U (.inr ?_) U U U,λg=>by omega⟩
  ·refine(congrArg a8 f).trans ?_;rw[EY,e.1]
  have p:=congrArg (λo=>(dE o).toNat) f;refine Eq.trans (congrArg (· %2251799813685248) p) ?_;show(dE _).toNat %2251799813685248=0;rw[Mw,e.2,(aa:(2251799813685248:Nat)=2^51),Nat.and_mod_two_pow,(aa:(9225623836668461056:Nat) %2^52 %2^51=0),Nat.and_zero]
 rw[bo];refine ac.ite (λs=>?_) λ_=>?_
 ·exfalso;omega
 unfold AB;refine ac.bs (y:=(kj (gV ((a:Int) %19-9)) 0,())) ?_ (ac.aj.2 ?_)
 ·refine ao (y:=(a:Int) %19) ?_ ?_
  ·unfold gj;rw[al aa,wi U]
  dsimp only;rw[bf (x:=(a:Int) %19) U U,bf U U];exact ao (zk U U) rfl
 have g:=SI (z:=(a:Int) %19-9) U U;exact⟨g.mono aa aa,λ_=>g⟩
section
def iw (a:Nat->Int):Nat->Int
 |0=>0
 |n+1=>iw a n+a n
def Sm {f:Nat->Int} {n k B:Nat} (b:∀a,a<n->(f a).natAbs<=k*B):(iw f n).natAbs<=n*k*B:=by
 induction n with
 |zero=>exact eL _
 |succ n c=>
  have d:=c λa g=>b a U;have e:=b n U;rw[iw,e2,e2,fG];omega
def Te (a:Nat->cJ) (n:Nat):dr ((List.range n).map a)=iw (λc=>(a c).getD 0) n:=by
 induction n with
 |zero=>rfl
 |succ n b=>
  rw[oH,h6,vZ,b,iw];show _+((a n).getD 0+0)=_;omega
section
variable {A:Nat->Nat->cJ} {G:cE} {n:Nat}
def iY (A:Nat->Nat->cJ) (G:cE) (a b c:Nat):Int:=(jL (a9 A (aU G)) b c a).getD 0
def lM.fin (d:lM A G c) (f:G.length=n) {i:Nat} (e:a<c) (g:c<=n):a8 (a9 A (aU G) a i)≠2047:=by
 by_cases b:aU G a i=true
 ·exact d a e i b
 rw[sJ (by simpa using b)]
 ·decide
 rintro rfl;exact b (vE U)
def IK {j:Nat} (b:lM A G j) (c:G.length=n) (d:j<=n) {x y:Nat} (e:a<j):jL (a9 A (aU G)) x y a=some (iY A G a x y)/\(iY A G a x y).natAbs<=1*gD:=by obtain⟨k,h,g⟩:=(gk.mul (b.fin c e d (i:=x)) (b.fin c e d (i:=y))).neg;have f:jL (a9 A (aU G)) x y a=some k:=h;unfold iY;rw[f];exact⟨rfl,g⟩
def Sp (g:lM A G a) (j:G.length=n) (l:a<n) (p:n<=5) (i:gk 1 (A c a)):gA A (a9 A (aU G)) a c=some ((A c a).getD 0+iw (λe=>iY A G e c a) a):=by
 have m:∀d∈(A c a::(List.range a).map (jL (a9 A (aU G)) c a)),gk 1 d:=λd b=>by
  rcases dk.1 b with rfl|b
  ·exact i
  obtain⟨e,o,rfl⟩:=c4.1 b;obtain⟨f,k⟩:=IK g j (j2 l) (x:=c) (y:=a) (ha.1 o);exact⟨_,f,k⟩
 have h:=(CS m (by simp;omega)).1;unfold gA;rw[h];show some ((A c a).getD 0+dr ((List.range a).map (jL (a9 A (aU G)) c a)))=_;rw[Te];rfl
end
end
section
def bJ.iw {b:Nat} {c:Nat->Int}:∀{n},(∀a,a<n->bJ b (c a))->bJ b (iw c n)
 |0,_=>bJ.zero b
 |n+1,d=>(bJ.iw λa e=>d a U).add (d n U)
def HI (B:Nat):(2:Int)^B≠0:=by have:(0:Int)<2^B:=i9 aa;omega
def BP {B g:Nat} {b T:Int} (i:2*g<=B) (d:T*2^B=e*b) (f:bJ (B-g) e) (h:bJ (B-g) b):bJ (B-2*g) T:=by obtain⟨a,rfl⟩:=f;obtain⟨c,rfl⟩:=h;refine⟨a*c,(Int.mul_eq_mul_right_iff (HI B)).1 ?_⟩;rw[d,fP (a*c),<-ki,(U:B-2*g+B=(B-g)+(B-g)),ki];generalize(2:Int)^(B-g)=j;simp only[fP,tu,gG]
def A5 {B:Nat} (j:B=65536) (g:a8 b≠2047) (f:bE b=some e) (l:a+52<=B) (c:2^(B-a)<=e.natAbs):bJ (B-(a+52)) e:=by rw[kO g] at f;cases f;have k:=mU g;have i:=pD b;refine(bJ.shl _ _).mono ?_;rw[eR] at c;have h:(gO b).natAbs<2^53:=bY.1 i;have d:2^(B-a)<2^53*2^(e5 b+65536).toNat:=Nat.lt_of_le_of_lt c (zO h (e8 _));rw[<-dv] at d;have:=(Nat.pow_lt_pow_iff_right aa).1 d;omega
def A4 {B:Nat} (d:B=65536) (c:a8 e≠2047) (a:bE e=some b):bJ (B-1074) b:=by rw[kO c] at a;cases a;have f:=mU c;exact(bJ.shl _ _).mono U
def Gs {b:Int} {B:Nat} (l:B=65536) (a:a8 e≠2047) (c:a8 b≠2047) {h i:Int} (f:bE e=some h) (g:bE b=some i):∃d,jH (bE e) (bE b)=some d/\d*2^B=h*i:=by refine⟨_,Gp a c,?_⟩;rw[kO a] at f;rw[kO c] at g;cases f;cases g;have j:=mU a;have k:=mU c;have:(e5 e+e5 b+65536).toNat+B=(e5 e+65536).toNat+(e5 b+65536).toNat:=U;rw[fP,<-ki,this,ki];generalize(2:Int)^(e5 e+65536).toNat=m;generalize(2:Int)^(e5 b+65536).toNat=n;simp only[fP,tu,gG]
def SP (d:2^(c+c)<=a*a):2^c<=a:=by refine Nat.le_of_not_lt λb=>?_;have:=Nat.mul_self_lt_mul_self b;rw[<-dv] at this;exact absurd d (Nat.not_le.2 this)
def SQ (d:a*a<=2^(c+c)):a<=2^c:=by refine Nat.le_of_not_lt λb=>?_;have:=Nat.mul_self_lt_mul_self b;rw[<-dv] at this;exact absurd d (Nat.not_le.2 this)
def Bd (b:2^(c+1)<=2*a):2^c<=a:=by rw[hI] at b;omega
def DA (a b:Int):b.natAbs<=a.natAbs+(a-b).natAbs/\a.natAbs<=b.natAbs+(a-b).natAbs:=by omega
def Ib {B:Nat} (d:B=65536) (f:0<b) (c:2^(B-2044)<=b.natAbs) (e:a8 (iX b 0)≠2047):∃a,bE (iX b 0)=some a/\(a*a-b*2^B).natAbs*2^106<=b.natAbs*2^B*2^54+b.natAbs*2^B:=by rw[d] at c|-;exact R3 f c e
def By (d:a<=67600):2^a<=gD:=by obtain⟨b,e,c⟩:∃b:Nat,b=67600/\gD=2^b:=⟨67600,rfl,zG⟩;rw[c];exact gZ _ _ U
def R1 {f d:Int} {B e b c:Nat} (q:1<=B) (l:2^(B-a)<=f.natAbs) (s:a+1<=2*e) (t:a<=B) (n:f.natAbs<=2^(B+b)) (r:b+1<=2*c) (o:(d*d-f*2^B).natAbs*2^106<=f.natAbs*2^B*2^54+f.natAbs*2^B):2^(B-e)<=d.natAbs/\d.natAbs<=2^(B+c):=by
 have j:=dG (2^B) l;have h:=dG (2^B) n;rw[<-dv] at j h;have k:=DA (d*d) (f*2^B);rw[eR,jV] at k;generalize(d*d-f*2^B).natAbs=i at*;generalize f.natAbs*2^B=g at*;have p:2*i<=g:=U;constructor
 ·refine SP (bt (gZ _ (B-a+B-1) U) (Bd ?_));rw[(U:B-a+B-1+1=B-a+B)];omega
 refine SQ (bt (m:=2*g) U ?_);refine bt (j3 2 h) ?_;rw[<-Nat.pow_succ'];exact gZ _ _ U
def RA {f g:Int} {B b:Nat} (s:2^(B-a)<=f.natAbs) (m:e.natAbs<=2^(B+b)) (A:a+b+2<=1075) (z:a+b+1<=B) (j:(g*e-f*2^B).natAbs*2^1075<=f.natAbs*2^B*2^1022+e.natAbs*2^B):2^(B-(a+b+1))<=g.natAbs/\g.natAbs*e.natAbs<=2*(f.natAbs*2^B):=by obtain⟨d,r⟩:∃d:Nat,d=1022:=⟨_,rfl⟩;rw[(U:(1075:Nat)=d+53),<-r] at j;have k:=dG (2^B) s;have l:=dG (2^B) m;rw[<-dv] at k l;have o:4*(e.natAbs*2^B)<=f.natAbs*2^B*2^(d+53):=(by refine bt (j3 4 l) (bt ?_ (dG _ k));rw[<-dv,(aa:(4:Nat)=2^2),<-dv];exact gZ _ _ U);have p:=DA (g*e) (f*2^B);rw[eR,jV] at p;generalize(g*e-f*2^B).natAbs=h at*;generalize f.natAbs*2^B=i at*;generalize e.natAbs*2^B=w at*;have t:=e8 d;rw[dv,<-fv] at j o;have x:2*h<=i:=(by refine Nat.le_of_mul_le_mul_right (c:=2^d) ?_ t;rw[fv];generalize h*2^d=u at*;generalize i*2^d=v at*;omega);refine⟨Nat.le_of_not_lt λn=>?_,U⟩;have q:g.natAbs*e.natAbs<2^(B-(a+b+1))*2^(B+b):=Nat.mul_lt_mul_of_lt_of_le n m (e8 _);rw[<-dv] at q;have y:2^(B-(a+b+1)+(B+b))<=g.natAbs*e.natAbs:=(by refine Bd ?_;rw[(U:B-(a+b+1)+(B+b)+1=B-a+B)];omega);omega
def Fa (i:a8 b≠2047) (f:bE b=some e) (d:e≠0):aw (aR e).natAbs<=53:=by
 rw[kO i] at f;have a:=dp f;have j:=pD b;have c:=BW d;rw[<-a,eR] at c;have g:0<(gO b).natAbs:=by
  rcases hh (gO b).natAbs with h|h
  ·have:gO b=0:=U;rw[this,jW] at a;exact absurd a.symm d
  exact h
 rw[ie g,v5 g] at c;rw[<-a];omega
def i6 (B b:Nat) (A:Nat->Nat->cJ) (n:Nat):Prop:=∀c d,c<n->d<n->∃a,A c d=some a/\bJ (B-56) a/\a.natAbs<=2^(B+b)
section
variable {A:Nat->Nat->cJ} {G:cE} {o:cP} {n J:Nat}
structure hf (A:Nat->Nat->cJ) (G:cE) (n J:Nat):Prop where
 mg:n<=5
 jC:G.length=n
 Bo:J<=n
 ok:∀m,m<J->fb A G m=0
def eC.gC (a:eC A G o n):hf A G n n:=⟨a.mg,a.jC,a2 _,a.ok⟩
def hf.Fp (b:hf A G n J) (f:a<=J):lM A G a:=λe g d c=>AN (b.ok e U) d c
def hf.j9 (a:hf A G n J) {m i:Nat} (b:m<J):a8 (a9 A (aU G) m i)≠2047:=(a.Fp (a2 _)).fin a.jC b a.Bo
def fZ (A:Nat->Nat->cJ) (G:cE) (b a:Nat):Int:=(bE (a9 A (aU G) b a)).getD 0
def dX (A:Nat->Nat->cJ) (G:cE) (a b:Nat):Int:=(A b a).getD 0+iw (λc=>iY A G c b a) a
def Mv (b:a8 (a9 A (aU G) c a)≠2047):bE (a9 A (aU G) c a)=some (fZ A G c a):=by obtain⟨e,d⟩:=yX b;unfold fZ;rw[d];rfl
def hf.of (a:hf A G n J) {m i:Nat} (b:m<J):bE (a9 A (aU G) m i)=some (fZ A G m i):=Mv (a.j9 b)
def hf.pS (a:hf A G n J) {B:Nat} (f:B=65536) {m x y:Nat} (b:m<J):iY A G m x y*2^B=-(fZ A G m x*fZ A G m y):=by obtain⟨c,d,e⟩:=Gs f (a.j9 b) (a.j9 b) (a.of b (i:=x)) (a.of b (i:=y));unfold iY jL;rw[d];show-c*2^B=_;rw[Int.neg_mul,e]
variable {B b:Nat}
def hf.rest (b:hf A G n J) (e:a<=J) (f:a<n) (d:gk 1 (A c a)):gA A (a9 A (aU G)) a c=some (dX A G a c):=Sp (b.Fp e) b.jC f b.mg d
def i6.wK (j:B=65536) (k:b<=100) (f:i6 B b A n) (h:a<n) (i:c<n):gk 1 (A a c):=by obtain⟨d,g,_,e⟩:=f a c h i;refine⟨d,g,bt e ?_⟩;rw[fG];exact By U
def Rl (b:gA A (a9 A (aU G)) a a=some (dX A G a a)):(0<dX A G a a->a9 A (aU G) a a=iX (dX A G a a) 0)/\(¬0<dX A G a a->fb A G a=231):=by
 constructor
 ·intro c;rw[md];unfold j6;rw[al rfl,b];show(if dX A G a a<0 then _ else if dX A G a a=0 then 0 else iX (dX A G a a) 0)=_;rw[ah U,ah U]
 intro c;refine EW (.inl ?_);rw[b];show dU (dX A G a a)<=0;unfold dU;split
 ·decide
 split<;>omega
def hf.zb (c:hf A G n J) (j:B=65536) (k:b<=100) (i:i6 B b A n) (d:a<J):0<dX A G a a/\a9 A (aU G) a a=iX (dX A G a a) 0:=by have e:a<n:=fF d c.Bo;have g:=Rl (c.rest (j2 d) e (i.wK j k e e));have f:0<dX A G a a:=Classical.byContradiction λh=>(by have:=g.2 h;rw[c.ok a d] at this;cases this);exact⟨f,g.1 f⟩
def GI (f:gA A (a9 A (aU G)) a c=some (dX A G a c)) (d:c≠a) (g:bE (a9 A (aU G) a a)=some e) (h:e≠0):a9 A (aU G) a c=if aU G a c=true then if dX A G a c=0 then 0 else mm (dX A G a c) e 0 else 0:=by
 have b:a9 A (aU G) a c=if aU G a c=true then m7 (some (dX A G a c)) (bE (a9 A (aU G) a a)) 0 else 0:=by rw[md,md A (aU G) a a];unfold j6;rw[ah d,al rfl,f]
 rw[b,g];show(if aU G a c=true then if e=0 then(9221120237041090560:Int) else if dX A G a c=0 then 0 else mm (dX A G a c) e 0 else 0)=_;rw[ah h]
def AX (b:a9 A (aU G) c a=0):fZ A G c a=0:=by unfold fZ;rw[b,sT];rfl
def hf.s1 (j:hf A G n J) (o:B=65536) (l:i6 B b A n) {g d:Nat} (v:c<=J) (h:c<n) (f:a<n) (e:∀m,m<c->∀a,a<n->bJ (B-g) (fZ A G m a)) (s:2*g<=d) (t:56<=d) (u:d<=B):bJ (B-d) (dX A G c a):=by obtain⟨r,p,k,_⟩:=l a c f h;unfold dX;rw[p];refine(k.mono U).add (bJ.iw λm i=>?_);have q:=j.pS o (m:=m) (x:=a) (y:=c) U;have:=(BP (T:=-iY A G m a c) U (by rw[Int.neg_mul,q,Int.neg_neg]) (e m i a f) (e m i c h)).neg;rw[Int.neg_neg] at this;exact this.mono U
def Io {f:Nat->Int}:∀{n},(∀a,a<n->f a<=0)->iw f n<=0
 |0,_=>jT _
 |n+1,b=>by have:=Io (f:=f) (n:=n) λa c=>b a U;have:=b n U;rw[iw];omega
def hf.IL (c:hf A G n J) {m x:Nat} (e:m<J):iY A G m x x<=0:=by
 obtain⟨B,d⟩:∃B:Nat,B=65536:=⟨_,rfl⟩;have i:=c.pS d (m:=m) (x:=x) (y:=x) e;refine Int.not_lt.1 λb=>?_;have f:(0:Int)<2^B:=i9 aa;have g:=mA b f;have h:0<=fZ A G m x*fZ A G m x:=by
  rcases Int.le_total 0 (fZ A G m x) with a|a
  ·exact kq a a
  exact Int.mul_nonneg_of_nonpos_of_nonpos a a
 omega
def hf.Rm (g:hf A G n J) (h:i6 B b A n) (m:a<=J) (d:a<n) (k:0<dX A G a a):(dX A G a a).natAbs<=2^(B+b):=by obtain⟨c,i,_,j⟩:=h a a d d;have l:dX A G a a<=c:=(by unfold dX;rw[i];have:=Io (f:=λe=>iY A G e a a) (n:=a) λe o=>g.IL U;show c+_<=c;omega);omega
def hf.Al (d:hf A G n J) (j:B=65536) (O:b<=45) (q:i6 B b A n) (f:a<J) (r:∀i,i<n->bJ (B-g) (dX A G a i)) (M:1<=g) (N:g<=680):∀i,i<n->bJ (B-(g+76)) (fZ A G a i):=by
 have p:a<n:=fF f d.Bo;obtain⟨D,E⟩:=d.zb j U q f;have L:=d.Rm q (j2 f) p D;have F:=(r a p).ge U;have y:=d.of f (i:=a);have o:=d.j9 f (i:=a);rw[E] at o;have m:=y;rw[E] at m;obtain⟨H,l,K⟩:=Ib j D (bt (gZ _ _ U) F) o;rw[m] at l;obtain rfl:=dp l;have x:=R1 (c:=23) (e:=g) U F U U L U K;have v:fZ A G a a≠0:=(by have:=e8 (B-g);omega);intro i t;by_cases C:i=a
 ·subst C;exact(A5 j o m U x.1).mono U
 have h:=GI (d.rest (j2 f) p (q.wK j U t p)) C y v;by_cases w:aU G a i=true
 rotate_left
 ·rw[ah w] at h;rw[AX h];exact bJ.zero _
 rw[al w] at h;by_cases k:dX A G a i=0
 ·rw[al k] at h;rw[AX h];exact bJ.zero _
 rw[ah k] at h;have aq:=(r i t).ge k;have P:=(r i t).ex k;have s:=d.j9 f (i:=i);have u:=d.of f (i:=i);rw[h] at s u;obtain⟨H,l,z⟩:=HJ k v U (Fa o m v) s;rw[u] at l;obtain rfl:=dp l;rw[<-j] at z;have I:=(RA aq x.2 U U z).1;exact(A5 j s u U I).mono U
end
end
section
def Ry (k:0<e+b) (d:b.natAbs<a) (f:c<=e.natAbs) (h:c=4*a) (i:g<=a) (j:b<=0):g<=(e+b).natAbs:=by omega
section
variable {A:Nat->Nat->cJ} {G:cE} {o:cP} {n:Nat} {C b:Nat}
def eC.M4 (e:eC A G o n) (h:C=65536) (k:b<=45) (f:i6 C b A n):∀c,c<3->c<n->∀a,a<n->bJ (C-756) (fZ A G c a):=by
 have j:0<n->∀a,a<n->bJ (C-(56+76)) (fZ A G 0 a):=λg=>e.gC.Al h k f g (λa d=>e.gC.s1 (g:=0) h f (j2 g) g d (λc i=>absurd i U) U U U) U U;have p:1<n->∀a,a<n->bJ (C-(264+76)) (fZ A G 1 a):=λg=>e.gC.Al h k f g (λa d=>e.gC.s1 (g:=132) h f (j2 g) g d (λc i a d=>by
  obtain rfl:c=0:=U;exact j U a d) U U U) U U
 have q:2<n->∀a,a<n->bJ (C-(680+76)) (fZ A G 2 a):=λg=>e.gC.Al h k f g (λa d=>e.gC.s1 (g:=340) h f (j2 g) g d (λc i a d=>by
  rcases bj c 1 with m|m
  ·obtain rfl:c=0:=U;exact(j U a d).mono U
  obtain rfl:c=1:=U;exact p U a d) U U U) U U
 intro c i l a d;rcases bj c 1 with m|m
 ·obtain rfl:c=0:=U;exact(j l a d).mono U
 rcases bj c 2 with r|r
 ·obtain rfl:c=1:=U;exact(p l a d).mono U
 obtain rfl:c=2:=U;exact q l a d
def eC.Rk (c:eC A G o n) (f:C=65536) (H:b<=45) (j:i6 C b A n) (e:a<n):2^(C-2044)<=(dX A G a a).natAbs:=by
 have q:=c.M4 f H j;have v:=(c.gC.zb f U j e).1;have P:=c.mg;rcases bj a 4 with g|g
 ·exact bt (gZ _ _ U) ((c.gC.s1 (g:=756) (d:=1512) f j (j2 e) e e (λm r i K=>q m U U i K) U U U).ge U)
 obtain rfl:a=4:=U;obtain⟨p,F,I,_⟩:=j 4 4 e e;have u:bJ (C-1512) (p+iw (λm=>iY A G m 4 4) 3):=(by refine(I.mono U).add (bJ.iw λm r=>?_);have k:=c.gC.pS f (m:=m) (x:=4) (y:=4) U;have:=(BP (T:=-iY A G m 4 4) (g:=756) U (by rw[Int.neg_mul,k,Int.neg_neg]) (q m r U 4 e) (q m r U 4 e)).neg;rw[Int.neg_neg] at this;exact this.mono U);have M:dX A G 4 4=p+iw (λm=>iY A G m 4 4) 3+iY A G 3 4 4:=(by unfold dX;rw[F,iw,Int.add_assoc];rfl);have k:=c.gC.pS f (m:=3) (x:=4) (y:=4) U;have N:=c.gC.IL (m:=3) (x:=4) U;have J:=c.j9 (m:=3) (i:=4) U;have L:=c.gC.of (m:=3) (i:=4) U;rw[M] at v|-;generalize p+iw (λm=>iY A G m 4 4) 3=O at*;generalize iY A G 3 4 4=s at*;generalize fZ A G 3 4=w at*;by_cases t:2^(C-757)<=w.natAbs
 ·have l:=A5 f J L U t;have h:=(BP (T:=-s) U (by rw[Int.neg_mul,k,Int.neg_neg]) l l).neg;rw[Int.neg_neg] at h;exact bt (gZ _ _ U) (((u.mono (d:=C-2*(757+52)) U).add h).ge U)
 have ai:=congrArg Int.natAbs k;rw[eR,nu,jV] at ai;have z:s.natAbs<2^(C-1514):=(by refine Nat.lt_of_not_le λl=>?_;have aq:=dG (2^C) l;have h:=Nat.mul_self_lt_mul_self (Nat.lt_of_not_le t);rw[<-dv] at aq h;rw[(U:C-757+(C-757)=C-1514+C)] at h;omega);have B:=u.ge U;have D:2^(C-1512)=4*2^(C-1514):=(by rw[(U:C-1512=2+(C-1514)),dv]);have E:=gZ (C-2044) (C-1514) U;exact Ry v z B D E N
def eC.Sb (d:eC A G o n) (v:C=65536) (w:b<=45) (l:i6 C b A n) (q:a<n) (p:c<n):(dX A G a c).natAbs<=6*gD:=by obtain⟨g,m,_,i⟩:=l c a p q;have s:=Sm (f:=λe=>iY A G e c a) (n:=a) (k:=1) (B:=gD) λe h=>(IK (j:=n) (λe h x r=>d.fin h r) d.jC (a2 _) U).2;have t:g.natAbs<=1*gD:=(by refine bt i ?_;rw[fG];exact By U);have u:a*1*gD<=5*gD:=dG _ (by have:=d.mg;omega);unfold dX;rw[m];show(g+_).natAbs<=_;omega
def El {f:Int} {d:Nat} (b:(e*2^C-f*2^C).natAbs*h<=g*2^C*d+a*2^C):(e-f).natAbs*h<=g*d+a:=by
 rw[<-Int.sub_mul,eR] at b;refine Nat.le_of_mul_le_mul_right (c:=2^C) ?_ (e8 C);refine bt (Nat.le_of_eq ?_) (bt b (Nat.le_of_eq ?_))
 ·simp only[fv,qg,hj]
 rw[e2];simp only[fv,qg,hj]
def eC.OM (c:eC A G o n) (f:C=65536) (p:b<=45) (g:i6 C b A n) (d:a<n) (m:e*2^C=fZ A G a a*fZ A G a a):(e-dX A G a a).natAbs*2^106<=(dX A G a a).natAbs*2^54+(dX A G a a).natAbs:=by obtain⟨q,r⟩:=c.gC.zb f U g d;have s:=c.Rk f p g d;have j:=c.gC.of d (i:=a);have k:=c.j9 d (i:=a);rw[r] at k j;obtain⟨t,h,l⟩:=Ib f q s k;rw[j] at h;obtain rfl:=dp h;rw[<-m] at l;exact El l
def eC.ON (f:eC A G o n) (j:C=65536) (D:b<=45) (p:i6 C b A n) {i:Nat} (d:a<n) (l:i<n) (y:i≠a) (z:aU G a i=true) (k:e*2^C=fZ A G a i*fZ A G a a) (v:c=1022):(e-dX A G a i).natAbs*2^(c+53)<=(dX A G a i).natAbs*2^c+(fZ A G a a).natAbs:=by
 obtain⟨J,u,F⟩:=f.diag d;have m:=f.gC.of d (i:=a);rw[m] at u;obtain rfl:=dp u;have x:=f.j9 d (i:=a);have h:=GI (f.gC.rest (j2 d) d (p.wK j U l d)) y m U;rw[al z] at h;by_cases g:dX A G a i=0
 rotate_left
 ·rw[ah g] at h;have w:bJ (C-2148) (dX A G a i):=f.gC.s1 (g:=1074) j p (j2 d) d l (λH E i l=>A4 j (f.j9 U) (f.gC.of U)) U U U;have I:=w.ex g;have r:=f.j9 d (i:=i);have t:=f.gC.of d (i:=i);rw[h] at r t;obtain⟨B,q,s⟩:=HJ g U U (Fa x m U) r;rw[t] at q;obtain rfl:=dp q;rw[<-j,<-k,(U:(1075:Nat)=c+53),<-v] at s;exact El s
 rw[al g] at h;rw[AX h,jW] at k;have:e=0:=(Int.mul_eq_zero.1 k).resolve_right (HI C);rw[this,g];show 0*_<=_;rw[Nat.zero_mul];exact eL _
end
end
section
def OF (b:a<c) (d:c<=1000):kf (a:Int) c=a:=by unfold kf;rw[ns U U,ns U U,du]
def Ls (R:a<=100) (S:1<=c) (b:cB) (r:b.length<=5) (q:∀e∈b,∃f,fV a c f/\e=lZ (bE f)):fV (a+4) c (kj (e1 (gV 1::b)) 2):=by
 obtain⟨B,P⟩:∃B:Nat,B=65536:=⟨_,rfl⟩;have t:gV 1=some (2^B):=(by unfold gV;rw[q3 (v:=2^B) aa (by rw[(U:((0:Int)+65536).toNat=B),Int.one_mul])];unfold hN;rw[al];unfold dT;have:=eR 1 B;rw[Int.one_mul] at this;rw[this,ie aa];have:aw (1:Int).natAbs=1:=aa;omega);have E:(∀e∈b,gk 1 e)/\bJ (B-56) (dr b)/\0<=dr b/\(dr b).natAbs<=b.length*2^(B+a):=by
  clear r
  induction b with
  |nil=>exact⟨ab,bJ.zero _,jT _,by simp[dr]⟩
  |cons e b H=>
   obtain⟨l,n,A,C⟩:=H λp h=>q p (by simp[h]);obtain⟨f,g,rfl⟩:=q e ab;obtain⟨d,w⟩:=yX g.2.1;obtain⟨I,x,_⟩:=g.2.2 d w;have x:d.natAbs<=2^(B+a):=bt x (gZ _ _ U);have j:dr (lZ (bE f)::b)=(d.natAbs:Int)+dr b:=(by rw[w];rfl);refine⟨λp h=>?_,?_,?_,?_⟩
   ·rcases dk.1 h with rfl|h
    ·exact(gk.E9 g.2.1).abs
    exact l p h
   ·rw[j];refine bJ.add ?_ n;have y:bJ (B-56) d:=I.mono U;rcases Int.natAbs_eq d with z|z
    ·rw[<-z];exact y
    have:=y.neg;rwa[(U:-d=(d.natAbs:Int))] at this
   ·rw[j];omega
   rw[j,g8,e2,fG];omega
 obtain⟨l,n,A,C⟩:=E;have T:(0:Int)<2^B:=i9 aa;have F:e1 (gV 1::b)=some (2^B+dr b):=by
  refine(CS (k:=1) (λe o=>?_) (by simp;omega)).1.trans ?_
  ·rcases dk.1 o with rfl|o
   ·rw[t];refine⟨_,rfl,?_⟩;rw[Int.natAbs_pow,fG];exact By U
   exact l e o
  rw[t];rfl
 have V:((2:Int)^B).natAbs=2^B:=Int.natAbs_pow 2 B;have W:=gZ B (B+a) U;have O:b.length*2^(B+a)<=5*2^(B+a):=dG _ r;have Q:2^B<=(2^B+dr b).natAbs/\(2^B+dr b).natAbs<=6*2^(B+a):=U;have G:2^B+dr b≠0:=U;have s:bJ (B-56) (2^B+dr b):=bJ.add ⟨2^56,by rw[<-ki,(U:56+(B-56)=B)]⟩ n;rw[F];generalize 2^B+dr b=i at*;have D:aw i.natAbs<=65536+900:=(by have J:i.natAbs<2^(B+a+3):=(by have:=e8 (B+a);rw[dv];omega);have:=bY.2 J;omega);obtain⟨aq,d,K,L,X,Y⟩:=H4 2 G (s.mono U) D;refine⟨H3 _ _,aq,λf g=>?_⟩;have u:bE (m9 i 2)=some f:=g;rw[K] at u;obtain rfl:=dp u;have M:=L _ s;refine⟨M.mono U,?_,λN=>?_⟩
 ·refine bt (m:=2^4*2^(B+a)) U ?_;rw[<-dv];exact gZ _ _ U
 refine bt (gZ (65536-c) (B-1) U) (Bd ?_);rw[(U:B-1+1=B)];omega
def i6.of {B:Nat} (l:B=65536) {E:List bu} (g:∀k∈E,fV a c k.2.2.1) (o:cP) (n:Nat):i6 B a (bd E o) n:=by intro i e _ _;have b:=I8 (P:=fV a c) (fV.zero a c) g (hP (o.getD i 0) (o.getD e 0)) (hA (o.getD i 0) (o.getD e 0));obtain⟨f,d⟩:=yX b.2.1;obtain⟨h,j,_⟩:=b.2.2 f d;exact⟨f,d,h.mono U,bt j (gZ _ _ U)⟩
def vP {k:Nat} (e:bJ k (a:Int)) (h:a<=6*gD):∃c:Nat,a=c*2^k/\c<=6*gD/\oh (some (a:Int)) (-(k:Int))=some (c:Int):=by
 obtain⟨d,f⟩:=e;have b:a=d.natAbs*2^k:=(by have:=congrArg Int.natAbs f;rwa[eR] at this);have g:d.natAbs<=a:=(by rw[b];exact Nat.le_mul_of_pos_right _ (e8 k));refine⟨d.natAbs,b,U,Sn ?_ (s3 (k:=6) U aa)⟩
 conv=>lhs;rw[b]
 push_cast
 rfl
def bJ.abs (c:bJ a b):bJ a (b.natAbs:Int):=by
 rcases Int.natAbs_eq b with d|d
 ·rw[<-d];exact c
 have:=c.neg;rwa[(U:-b=(b.natAbs:Int))] at this
def Lr (b:Int):Da (fV 41 41) (fV 45 41) b where
 z:=fV.zero _ _
 w:=λ_ a=>a.1
 q:=λ_ a=>a.mono aa aa
 num:=λe d=>by have c:=vo b (n:=3) aa;refine(O4 d (style:=(kf b 3:Nat)) ?_).mono λ_ a=>a.1;rw[OF U aa];exact c
 dia:=Ls aa aa
section
variable {A:Nat->Nat->cJ} {G:cE} {o:cP} {n B:Nat}
def MW (d:eC A G o n) (h:B=65536) (v:i6 B 45 A n) {i:Nat} (c:a<n) (w:i<n) (ap:aU G a i=true):∃b e f j m:Int,gA A (a9 A (aU G)) a i=some b/\bE (a9 A (aU G) a a)=some f/\jH (bE (a9 A (aU G) a i)) (bE (a9 A (aU G) a a))=some e/\rT (some b) (n9 (some e))=some (b+-e)/\oh (lZ (some b)) (-53)=some j/\oh (some f) (-1075)=some m/\rT (some j) (some m)=some (j+m)/\dT (j+m)/\dT ((b+-e).natAbs:Int)/\(i≠a->((b+-e).natAbs:Int)<=j+m)/\(i=a->∃r s t:Int,oh (some b) (-52)=some r/\oh (some b) (-106)=some s/\oh (some f) (-1074)=some t/\e1 [some r,some s,some t]=some (r+(s+(t+0)))/\dT (r+(s+(t+0)))/\((b+-e).natAbs:Int)<=r+(s+(t+0))):=by
 obtain⟨p,Z⟩:∃p:Nat,p=1022:=⟨_,rfl⟩;have y:=d.j9 c (i:=a);have N:=d.j9 c (i:=i);have x:=d.gC.of c (i:=a);have an:=d.gC.of c (i:=i);obtain⟨e,K,L⟩:=Gs h N y an x;have cs:e.natAbs<=1*gD:=(by obtain⟨R,q,D⟩:=gk.mul N y;rw[K] at q;obtain rfl:=dp q;exact D);have dl:(fZ A G a a).natAbs<=1*gD:=(by obtain⟨R,q,D⟩:=gk.E9 y;rw[x] at q;obtain rfl:=dp q;exact D);have cv:0<fZ A G a a:=(by obtain⟨R,q,a0⟩:=d.diag c;rw[x] at q;obtain rfl:=dp q;exact a0);have z:=d.Sb h aa v c w;have C:bJ (B-2148) (dX A G a i):=d.gC.s1 (g:=1074) h v (j2 c) c w (λd0 ds i w=>A4 h (d.j9 U) (d.gC.of U)) U U U;have O:=A4 h y x;have av:=d.gC.rest (j2 c) c (v.wK h aa w c);have ad:i=a->(e-dX A G a i).natAbs*2^106<=(dX A G a i).natAbs*2^54+(dX A G a i).natAbs/\0<dX A G a i:=λu=>(by subst u;exact⟨d.OM h aa v c L,(d.gC.zb h aa v c).1⟩);have am:i≠a->_:=λu=>d.ON h aa v c w u ap L Z;generalize dX A G a i=b at*;generalize fZ A G a a=f at*;obtain⟨j,S,a4,T⟩:=vP (k:=53) (C.abs.mono U) z;obtain⟨m,E,bl,F⟩:=vP (k:=p+53) (O.abs.mono U) (U:f.natAbs<=6*gD);rw[(U:(f.natAbs:Int)=f),(U:(-((p+53:Nat):Int))=-1075)] at F;have P:(b+-e).natAbs<=7*gD:=U;have a3:((j:Int)+(m:Int)).natAbs<=12*gD:=U;have Q:=s3 a3 aa;refine⟨b,e,f,j,m,av,x,K,?_,T,F,?_,Q,s3 (k:=7) (by rw[h2];exact P) aa,λu=>?_,λu=>?_⟩
 ·show hN (b+-e)=_;unfold hN;rw[al (s3 P aa)]
 ·show hN ((j:Int)+(m:Int))=_;unfold hN;rw[al Q]
 ·have:=am u;rw[E,S,fv,<-dv,(U:53+p=p+53),<-e2] at this;have:=Nat.le_of_mul_le_mul_right this (e8 _);omega
 obtain⟨bs,ce⟩:=ad u;obtain⟨r,co,V,H⟩:=vP (k:=52) (C.abs.mono U) z;obtain⟨s,ai,W,I⟩:=vP (k:=106) (C.abs.mono U) z;obtain⟨t,X,Y,J⟩:=vP (k:=p+52) (O.abs.mono U) (U:f.natAbs<=6*gD);rw[(U:(f.natAbs:Int)=f),(U:(-((p+52:Nat):Int))=-1074)] at J;rw[(U:(b.natAbs:Int)=b)] at H I;refine⟨r,s,t,H,I,J,(CS (k:=6) (l:=[some (r:Int),some (s:Int),some (t:Int)]) (λci M=>?_) (aa:3*6<1048576)).1,s3 (k:=18) ?_ aa,?_⟩
 ·simp only[dk,tB,or_false] at M;rcases M with rfl|rfl|rfl
  ·exact⟨_,rfl,by rw[h2];exact V⟩
  ·exact⟨_,rfl,by rw[h2];exact W⟩
  exact⟨_,rfl,by rw[h2];exact Y⟩
 ·omega
 clear X E;omega
end
def Jr (co:cP) (n L:Int) (an:co.length<=9223372036854775807):AD (co,n,L,())=some (true,()):=by
 obtain⟨B,Z⟩:∃B:Nat,B=65536:=⟨_,rfl⟩;unfold AD;refine ac.eq_iff.1 ?_;refine ac.aX (Ri (Q:=fV 45 41) an n L (d:=true) λb s=>Jt (Lr L) an s) ?_;rintro⟨j,o,_⟩ ⟨b,s,ap,a0⟩;dsimp only at ap a0|-;obtain⟨h,g,i,rfl,aq,ci,f9⟩:=ap.ex;have H:=zJ.small s s aq (λgs f0=>(ci gs f0).1) f9;by_cases K:pP b b h g i o=0
 rotate_left
 ·refine ac.bs (JD H U K) ?_;dsimp only;rw[bw (by rw[dA,ay K];rfl)];exact ac.bs Aa (ac.aj.2 rfl)
 obtain⟨D,_,v⟩:=SO K;refine ac.bs (Dg s H D v) ?_;have Y:i6 B 45 (bd (bU h g i b) o) b:=i6.of Z (sq (ll.1 D).1 ci) o b;have d8:∀c a,c<b->a<b->∃u,dN u/\bE u=bd (bU h g i b) o c a/\nR (((b:Int),(b:Int),h,g,i,()),(if o.getD a 0>o.getD c 0 then o.getD a 0 else o.getD c 0),(if o.getD a 0<o.getD c 0 then o.getD a 0 else o.getD c 0),())=some (u,()):=λc a p e=>by
  obtain⟨f7,f8⟩:=y9 v p;obtain⟨gc,ge⟩:=y9 v e;obtain⟨q,J,em⟩:∃q:Nat,hA (o.getD c 0) (o.getD a 0)=(q:Int)/\q<b:=by
   unfold hA;split
   ·exact⟨_,gc,ge⟩
   exact⟨_,f7,f8⟩
  have X:=HL H D (hP (o.getD c 0) (o.getD a 0)) em;rw[<-J] at X;exact⟨_,TA (sq (ll.1 D).1 H.hw) _ _,rfl,X⟩
 rcases NU (bd (bU h g i b) o) (kb b (gW (bU h g i b)) o) o b with⟨N,I⟩|⟨a,N,eq,I⟩
 rotate_left
 ·rw[eq];dsimp only;rw[bw (by rw[dA,ay I];rfl)];exact ac.bs Aa (ac.aj.2 rfl)
 have f:eC (bd (bU h g i b) o) (kb b (gW (bU h g i b)) o) o b:=⟨s,Fq v,v,I⟩;rw[N];dsimp only;rw[bq (show((0:Int)!=0)=false from rfl)];generalize fz:(((b:Int),(b:Int),h,g,i,()):bF)=j at*;have av:j.1=(b:Int):=(by rw[<-fz]);generalize bd (bU h g i b) o=A at*;generalize kb b (gW (bU h g i b)) o=G at*;have ft:au (fA A G o b).1=(b:Int):=(by rw[a1];exact congrArg _ a0);refine ac.bs (y:=.inl (j,fA A G o b,())) ?_ ?_
 ·refine ao (Jq f) ?_;dsimp only;rw[bw (by rfl),ft,bq (by rw[dA,aC rfl];rfl)]
 dsimp only;have id:=f.va (Nat.le_refl b);refine ac.aX (P:=λk=>k=.inl ()) ?_ (by rintro _ rfl;exact ac.bs Aa (ac.aj.2 rfl));refine ac.steps b (λa w=>w=((a:Int),j,fA A G o b,())) rfl ?_ ?_
 rotate_left
 ·rintro _ rfl;dsimp only;rw[av,bq (ay (U:¬((b:Int)<(b:Int))))];exact ac.aj.2 rfl
 rintro a _ e rfl;dsimp only;rw[av,bw (aC (U:(a:Int)<(b:Int))),br U];have ib:=Fz G a;obtain⟨hs,hv⟩:=Fy G e;obtain⟨ds,d0⟩:=f.first e;obtain⟨f3,_,_,_,M,_,hi⟩:=f.at e ds;rw[d0] at M;obtain rfl:a=f3:=(by have:=Option.some.inj M;omega);clear M;refine ac.bs (f.st U) ?_;refine ac.aX (P:=λk=>k=.inl (j,fA A G o b,())) ?_ (by rintro _ rfl;exact ac.aj.2 rfl);refine ac.steps (be G a).length (λq w=>w=((((b0 G a).length+q:Nat):Int),j,fA A G o b,())) rfl ?_ ?_
 rotate_left
 ·rintro _ rfl;dsimp only;refine ac.bs (f.st (show a+1<=b from e)) ?_;rw[bq (ay (U:¬((((b0 G a).length+(be G a).length:Nat):Int)<((b0 G (a+1)).length:Int))))];exact ac.aj.2 rfl
 rintro q _ J rfl;dsimp only;refine ac.bs (f.st (show a+1<=b from e)) ?_;rw[bw (aC (U:(((b0 G a).length+q:Nat):Int)<((b0 G (a+1)).length:Int))),br U];obtain⟨c,p,ii,fT,_,ai,dl⟩:=f.at e J;refine ac.aX (P:=λk=>k=.inl (j,fA A G o b,())) ?_ (by rintro _ rfl;exact ac.aj.2 rfl);have E:∀c,c<b->aL o (c:Int)=some (o.getD c 0):=λc p=>eO U;obtain⟨u,fn,am,fp⟩:=d8 c a p e;refine ac.bs ai (ac.bs (E c p) (ac.bs (E a e) (ac.bs (E c p) (ac.bs (E a e) (ac.bs fp (ac.bs (s4 fn) ?_))))));rw[am];obtain⟨t,C,cv,gt,hc,d1,R,S,T,V,W,d4,d5,d6,d2,d3⟩:=MW f Z Y e p fT;obtain⟨hr,ad,_⟩:=Y c a p e;have d7:dx (A c a):=(by rw[ad,<-ad,<-am];exact ji u);refine ac.aX (P:=λk=>k=(j,fA A G o b,(A c a::(List.range a).map (jL (a9 A (aU G)) c a)).map a6,())) ?_ ?_
 ·refine ac.steps a (λx w=>w=((x:Int),j,fA A G o b,(A c a::(List.range x).map (jL (a9 A (aU G)) c a)).map a6,())) rfl ?_ ?_
  ·rintro x _ io rfl;dsimp only;rw[bw (aC (U:(x:Int)<(a:Int))),br U];refine ac.bs (Dw f U U) (ac.bs (s4 (pA _ _ _ _)) (ac.bs (Dw f U U) (ac.bs (s4 (pA _ _ _ _)) (ac.bs (HP (ji _) (ji _)) (ac.bs (HQ (vq _ _)) ?_)))));dsimp only;rw[eF (by simp;omega),Option.bind_some];refine ac.aj.2 ?_;rw[List.range_succ,List.map_append,<-List.cons_append,List.map_append];rfl
  rintro _ rfl;dsimp only;rw[bq (ay (U:¬((a:Int)<(a:Int))))];exact ac.aj.2 rfl
 rintro _ rfl;dsimp only;refine ac.bs (Cz (λcs r=>?_) (by simp;omega)) ?_
 ·rcases dk.1 r with rfl|r
  ·exact d7
  obtain⟨x,_,rfl⟩:=c4.1 r;exact BS (vq _ _)
 have a3:e1 (A c a::(List.range a).map (jL (a9 A (aU G)) c a))=some t:=d1;have m:dx (some t):=(by rw[<-a3];exact CR _);have F:dx (some cv):=(by rw[<-R];exact ji _);have el:dx (some C):=(by rw[<-S];exact vq _ _);rw[a3];refine ac.bs (f.st U) (ac.bs (y:=a9 A (aU G) a a) hi (ac.bs (s4 (pA _ _ _ _)) (ac.bs dl (ac.bs (s4 (pA _ _ _ _)) (ac.bs (HP (ji _) (ji _)) ?_)))));rw[S,R];refine ac.bs (RN m el) ?_;rw[T];have fs:dx (some (t+-C)):=(by rw[<-T];exact Kc _ _);refine ac.bs (Cx fs) (ac.bs (Cx m) (ac.bs (vL (zY m) aa aa) (ac.bs (vL F aa aa) ?_)));rw[V,W];have f1:dx (some gt):=(by rw[<-V];exact vO _ _ (zY m));have f2:dx (some hc):=(by rw[<-W];exact vO _ _ F);refine ac.bs (HN f1 f2) ?_;rw[d4];refine ac.aX (P:=λk=>∃z,k=(j,fA A G o b,a6 (some ((t+-C).natAbs:Int)),a6 (some z),())/\dT z/\((t+-C).natAbs:Int)<=z) ?_ ?_
 ·by_cases O:c=a
  ·obtain⟨gf,gl,go,a4,bl,ce,f4,f5,f6⟩:=d3 O;rw[bw (by rw[dD,aC U])];refine ac.bs (vL m aa aa) (ac.bs (vL m aa aa) (ac.bs (vL F aa aa) ?_));rw[a4,bl,ce];refine ac.bs (Cz (l:=[some gf,some gl,some go]) (λcs r=>?_) (aa:3<=1000000)) ?_
   ·simp only[dk,tB,or_false] at r;rcases r with rfl|rfl|rfl
    ·rw[<-a4];exact vO _ _ m
    ·rw[<-bl];exact vO _ _ m
    rw[<-ce];exact vO _ _ F
   rw[f4];exact ac.aj.2 ⟨_,rfl,f5,f6⟩
  rw[bq (by rw[dD,ay U])];exact ac.aj.2 ⟨_,rfl,d5,d2 O⟩
 rintro _ ⟨z,rfl,d9,ic⟩;dsimp only;refine ac.bs (JF d9 d6) ?_;dsimp only;rw[bq (ay U)];exact ac.aj.2 rfl
end
end Go.h1
end
