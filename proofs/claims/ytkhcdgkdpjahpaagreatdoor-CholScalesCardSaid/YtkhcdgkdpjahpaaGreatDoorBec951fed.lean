/-
  Parts of the proof: Pm27, Pm30, Pm51, Pm52, Pm53, Pm54, Pm55, Pm56, Pm37, Pm57, Pm60, Pm61, Pm62, Pm59, Pm63: the framework (Fw), pure forms (Dn), plain laws (Pl, Th), calls of functions (Ok).
-/
import Derived.Test.YtkhcdgkdpjahpaaGreatDoorBaf70036a

set_option linter.all false
set_option maxHeartbeats 1000000
noncomputable section
namespace Go.hX
variable{a c:Nat}{b d e:Int}{f:Bool}
def CV {P:Int->Prop} (f:P 0) {E:List bp} (e:∀g∈E,P g.2.2.1) (b c:Int):P (kc E b c):=by
 unfold kc;cases d:E.find? λa=>decide (a.1=b)&&decide (a.2.1=c) with
 |none=>exact f
 |some a=>exact e a (List.mem_of_find?_eq_some d)
def I9 {e:Int->Prop} (i:e 0) {h g d:cQ} (j:h2 c a h g d) (n:∀b∈d,e b) (k:Int) {l:Nat} (m:l<a):∃b,e b/\qF (((c:Int),(a:Int),h,g,d,()),k,(l:Int),())=some (b,()):=by
 by_cases f:gg c a h g d=0
 ·exact⟨_,CV i (sq (k4.1 f).1 n) _ _,Ro j f k m⟩
 refine⟨0,i,?_⟩;unfold qF;refine aq (y:=.inr (0,())) ?_ rfl;refine aq j.Hw ?_;dsimp only;rw[dN,az f];rfl
def Jz {e:Nat} {i h j:cQ} (o:h2 e c i h j) (f:dG e c i h j) {g:Nat} (b:g<e) (q:a<c):∃k,uQ (((e:Int),(c:Int),i,h,j,()),(g:Int),(a:Int),())=some (k,()):=by
 have s:=f.pos a U;have t:=f.pos (a+1) U;have B:=f.pt (a+1) U;have z:=f.mono a q;have x:=f.len;have w:=o.hi;have v:=o.hc;suffices l:ac (uQ (((e:Int),(c:Int),i,h,j,()),(g:Int),(a:Int),())) λp=>True by obtain⟨⟨k,_⟩,l,_⟩:=l;exact⟨k,l⟩
 unfold uQ;dsimp only;rw[az (U:¬((g:Int)<0)),az (U:¬((g:Int)>=(e:Int))),az (U:¬((a:Int)<0)),az (U:¬((a:Int)>=(c:Int)))];refine ac.bs (y:=.inl ()) rfl ?_;dsimp only;obtain⟨d,r⟩:=Int.eq_ofNat_of_zero_le s;obtain⟨b,n⟩:=Int.eq_ofNat_of_zero_le t;refine ac.bs (y:=(d:Int)) (by rw[eX U,r]) ?_;refine ac.a1 (P:=λp=>True) ?_ ?_
 ·refine ac.steps (b-d) (λm u=>u=(((d+m:Nat):Int),())) rfl ?_ ?_
  ·rintro m _ A rfl;dsimp only;refine ac.bs (y:=(b:Int)) (by rw[bA U,eX U,n]) ?_;rw[bT (aB (U:((d+m:Nat):Int)<(b:Int)))];refine ac.bs (eX U) ?_;rw[dH,bo];refine ac.ite (λ_=>ac.al.2 trivial) (λ_=>?_);rw[bA U];exact ac.al.2 rfl
  rintro _ rfl;dsimp only;refine ac.bs (y:=(b:Int)) (by rw[bA U,eX U,n]) ?_;rw[bR (az (U:¬(((d+(b-d):Nat):Int)<(b:Int))))];exact ac.al.2 trivial
 rintro(_|p) _
 ·exact ac.al.2 trivial
 exact ac.al.2 trivial
structure C3 (P Q:Int->Prop) (style:Int):Prop where
 z:P 0
 w:∀v,P v->dr v
 q:∀v,P v->Q v
 num:∀x,dr x->ac (si (x,(gU style 3:Nat),())) λy=>P y.1
 dia:∀L:cC,L.length<=5->(∀d∈L,∃v,P v/\d=mL (bq v))->Q (j7 (fc (gS 1::L)) 2)
def Jd {C o:Int->Prop} (v:C3 C o b) {T:cQ} (a3:T.length<=9223372036854775807) (x:a<=5):ac (uD (T,(a:Int),b,())) λm=>pX o a a m.1:=by
 have dl:a*a<=5*5:=Nat.mul_le_mul x x;unfold uD;refine ac.bs (q8 b (n:=3) aa aa) ?_;refine ac.a1 (Jl v.num a3 x x) ?_;rintro⟨s,_⟩ N;dsimp only at N|-;obtain⟨Y,X,Z,rfl,O,Q,a0⟩:=N.ex;have R:=v8.small x x O (λe j=>v.w e (Q e j)) a0;have M:=λ(h:Int) (g:Nat) (t:g<a)=>I9 v.z R Q h t;have am:=λ(h g:Nat) (G:h<a) (t:g<a)=>Jz R O G t;generalize(((a:Int),(a:Int),Y,X,Z,()):bQ)=s at*;refine ac.a1 (P:=λm=>pX o a a m.2.1) ?_ (by rintro⟨ce,J,_⟩ F;exact ac.al.2 F);refine ac.steps a (λg B=>∃i d c,B=((g:Int),((0:Int),((0:Int),([],([],([],()))))),s,((a:Int),(a:Int),i,d,c,()),())/\dG a g i d c/\(∀e∈c,o e)/\d.length<=g*a) ?_ ?_ ?_
 ·exact⟨[0],[],[],rfl,dG.empty a,ab,ab⟩
 ·rintro g _ t ⟨i,d,c,rfl,L,ad,co⟩;have cs:g*a+a<=5*5:=by
   have:(g+1)*a<=a*a:=dD _ t;rw[fy,fQ] at this;omega
  dsimp only;rw[bT (aB (U:(g:Int)<(a:Int))),bA U];refine ac.a1 (P:=λm=>∃d c,m=(((0:Int),((0:Int),([],([],([],()))))),s,((a:Int),(a:Int),i,d,c,()),())/\jl a g a i d c/\(∀e∈c,o e)/\d.length<=g*a+a) ?_ ?_
  ·refine ac.steps a (λh B=>∃d c,B=((h:Int),((0:Int),((0:Int),([],([],([],()))))),s,((a:Int),(a:Int),i,d,c,()),())/\jl a g h i d c/\(∀e∈c,o e)/\d.length<=g*a+h) ?_ ?_ ?_
   ·exact⟨d,c,rfl,L.open,ad,U⟩
   ·rintro h _ G ⟨d,c,rfl,E,K,ci⟩;have ds:c.length=d.length:=by
     obtain⟨l,_,_,F,_⟩:=E;exact F
    dsimp only;rw[bT (aB (U:(h:Int)<(a:Int))),bA U];refine ac.a1 (P:=λm=>∃d c,m=(((0:Int),((0:Int),([],([],([],()))))),s,((a:Int),(a:Int),i,d,c,()),())/\jl a g (h+1) i d c/\(∀e∈c,o e)/\d.length<=g*a+(h+1)) ?_ ?_
    ·have S:∀(I:Int),o I->∀e∈c++[I],o e:=λI a4 e j=>by
      rcases eR.1 j with j|j
      ·exact K e j
      obtain rfl:=fe.1 j;exact a4
     rw[dH,bo];refine ac.ite (λV=>?_) (λV=>?_)
     ·refine ac.bs (Hx aa aa) ?_;dsimp only;refine ac.a1 (P:=λm=>∃f:cC,m=(((0:Int),((0:Int),([],([],([],()))))),s,((a:Int),(a:Int),i,d,c,()),(gS 1::f).map bf,())/\(∀k∈f,∃e,C e/\k=mL (bq e))/\f.length<=a) ?_ ?_
      ·refine ac.steps a (λl B=>∃f:cC,B=((l:Int),((0:Int),((0:Int),([],([],([],()))))),s,((a:Int),(a:Int),i,d,c,()),(gS 1::f).map bf,())/\(∀k∈f,∃e,C e/\k=mL (bq e))/\f.length<=l) ?_ ?_ ?_
       ·exact⟨[],rfl,ab,ab⟩
       ·rintro l _ cv ⟨f,rfl,r,A⟩;dsimp only;rw[bT (aB (U:(l:Int)<(a:Int))),bA U];refine ac.a1 (P:=λm=>∃f:cC,m=(((0:Int),((0:Int),([],([],([],()))))),s,((a:Int),(a:Int),i,d,c,()),(gS 1::f).map bf,())/\(∀k∈f,∃e,C e/\k=mL (bq e))/\f.length<=l+1) ?_ ?_
        ·rw[dN,<-decide_not,bo];refine ac.ite (λW=>?_) (λW=>?_)
         ·obtain⟨D,ap,av⟩:∃D:Nat,(if(l:Int)<(h:Int) then(l:Int) else(h:Int))=(D:Int)/\D<a:=by
           split
           ·exact⟨l,rfl,U⟩
           exact⟨h,rfl,U⟩
          rw[ap];obtain⟨e,j,H⟩:=M (if(l:Int)>(h:Int) then(l:Int) else(h:Int)) D av;refine ac.bs H (ac.bs (HR (v.w e j)) (ac.bs (Rz (l8 _)) ?_));rw[eE (by simp;omega)];refine ac.al.2 ⟨f++[mL (bq e)],ab,λk p=>?_,by simp;omega⟩;rcases eR.1 p with p|p
          ·exact r k p
          obtain rfl:=fe.1 p;exact⟨e,j,rfl⟩
         exact ac.al.2 ⟨f,rfl,r,U⟩
        rintro _ ⟨f,rfl,r,A⟩;exact ac.al.2 ⟨f,rfl,r,A⟩
       rintro _ ⟨f,rfl,r,A⟩;dsimp only;rw[bR (az (U:¬((a:Int)<(a:Int))))];exact ac.al.2 ⟨f,rfl,r,A⟩
      rintro _ ⟨f,rfl,r,A⟩;dsimp only;rw[eE (by simp;omega),Option.bind_some];have bl:∀k∈gS 1::f,e2 k:=λk p=>by
       rcases dw.1 p with rfl|p
       ·exact Fr 1
       obtain⟨e,_,rfl⟩:=r k p;exact JW (l8 _)
      refine ac.bs (RA bl (by simp;omega)) ?_;refine ac.bs (Cv (Io _)) ?_;dsimp only;rw[eE (by simp;omega),Option.bind_some];exact ac.al.2 ⟨_,_,rfl,E.add _,S _ (v.dia f U r),by simp;omega⟩
     obtain⟨J,an⟩:=am h g G t;refine ac.bs an ?_;dsimp only;cases J with
     |true=>
      rw[cond_true,eE (by simp;omega),Option.bind_some];obtain⟨e,j,H⟩:=M (h:Int) g t;refine ac.bs H ?_;dsimp only;rw[eE (by simp;omega),Option.bind_some];exact ac.al.2 ⟨_,_,rfl,E.add _,S _ (v.q _ j),by simp;omega⟩
     |false=>
      rw[cond_false];exact ac.al.2 ⟨_,_,rfl,E.skip,K,U⟩
    rintro _ ⟨d,c,rfl,ao,u,y⟩;exact ac.al.2 ⟨d,c,rfl,ao,u,y⟩
   rintro _ ⟨d,c,rfl,ao,u,y⟩;dsimp only;rw[bR (az (U:¬((a:Int)<(a:Int))))];exact ac.al.2 ⟨d,c,rfl,ao,u,y⟩
  rintro _ ⟨d,c,rfl,ao,u,y⟩;dsimp only;rw[eE (by rw[L.len];simp;omega),Option.bind_some];refine ac.al.2 ⟨_,_,_,rfl,ao.close,u,by rw[Nat.add_mul,Nat.one_mul];omega⟩
 rintro _ ⟨i,d,c,rfl,ao,u,y⟩;dsimp only;rw[bR (az (U:¬((a:Int)<(a:Int))))];exact ac.al.2 ⟨i,d,c,rfl,ao,u,y⟩
def Dc {d:cQ} (j:d.length<=9223372036854775807) {n:Nat} (q:n<=5):ac (uE (d,(n:Int),())) λb=>b.1.length=n:=by
 unfold uE;dsimp only;refine ac.a1 (P:=λb=>b.1.length=n) ?_ (by rintro⟨o,_⟩ i;exact ac.al.2 i);refine ac.steps n (λc m=>∃a,m=(a,(c:Int),())/\a.length=c) ⟨[],rfl,rfl⟩ ?_ ?_
 ·rintro c _ p ⟨a,rfl,e⟩;dsimp only;rw[bT (aB (U:(c:Int)<(n:Int))),bA U];refine ac.a1 (I1 d j _) ?_;rintro⟨h,_⟩ l;dsimp only at l|-;rw[pJ aa aa,Option.bind_some];refine ac.bs (q8 _ (n:=c+1) U U) ?_;have r:=sR (ax (h/2^(1:Int).toNat)) (n:=c+1) U;dsimp only;generalize gU (ax (h/2^(1:Int).toNat)) (c+1)=b at*;refine ac.bs (zl U) ?_;dsimp only;rw[eE (by simp;omega),Option.bind_some,eE (by simp;omega),Option.bind_some];have k:((gW (b:Int)).bind λf=>(some a.length).bind λg=>(g9 f g a.length).map λ_=>(f,g))=some (b,a.length):=by
   have:gW (b:Int)=some b:=(by unfold gW;rw[ak U,dk]);rw[this];show(g9 b a.length a.length).map _=_;unfold g9;rw[ak ⟨U,aZ _⟩];rfl
  refine ac.bs k ?_;dsimp only;rw[eE (by simp;omega),Option.bind_some];exact ac.al.2 ⟨_,rfl,by simp;omega⟩
 rintro _ ⟨a,rfl,e⟩;dsimp only;rw[bR (az (U:¬((n:Int)<(n:Int))))];exact ac.al.2 e
def Q6 {Q:Int->Prop} {f:cQ} (j:f.length<=9223372036854775807) (b i:Int) {d:Bool} (k:∀a,a<=5->ac (bif d then uD (f,((a:Nat):Int),i,()) else sg (f,((a:Nat):Int),((a:Nat):Int),i,())) λe=>pX Q a a e.1):ac (xH (f,b,i,d,())) λe=>∃a,a<=5/\pX Q a a e.1/\e.2.1.length=a:=by
 unfold xH;refine ac.bs (q8 b (n:=6) aa aa) ?_;have o:=sR b (n:=6) aa;dsimp only;generalize gU b 6=a at*;have c:=k a U;cases d with
 |true=>
  rw[cond_true] at c|-;refine ac.a1 c ?_;rintro⟨l,_⟩ g;refine ac.a1 (Dc j (n:=a) U) ?_;rintro⟨m,_⟩ h;exact ac.al.2 ⟨a,U,g,h⟩
 |false=>
  rw[cond_false] at c|-;refine ac.a1 c ?_;rintro⟨l,_⟩ g;refine ac.a1 (Dc j (n:=a) U) ?_;rintro⟨m,_⟩ h;exact ac.al.2 ⟨a,U,g,h⟩
def Ta {b d:Nat} (g:a*2^b=c*2^d) (i:0<a) (h:0<c):a9 a+b=a9 c+d/\ar a+b=ar c+d:=by have e:=congrArg a9 g;have f:=congrArg ar g;rw[vS U,vS h] at e;rw[g7 U,g7 h] at f;exact⟨e,f⟩
def Oy (a:d*b=e*2^65536) (r:e4 e):kH (some d) (some b)=some e:=by
 show eg (aL d*aL b) (bz d+bz b)=some e;have h:∀i:Nat,(2:Int)^i≠0:=λi=>(by have:(0:Int)<2^i:=jQ aa;omega);by_cases c:d=0
 ·rw[c,iX] at a;rw[c,vp,iX,(Int.mul_eq_zero.1 a.symm).resolve_right (h _)];rfl
 by_cases f:b=0
 ·rw[f,Int.mul_zero] at a;rw[f,vp,Int.mul_zero,(Int.mul_eq_zero.1 a.symm).resolve_right (h _)];rfl
 have u:=lg d;have v:=lg b;have a7:=ho c;have t:=ho f;have x:=vt.1 ⟨U,Gt c⟩;have y:=vt.1 ⟨U,Gt f⟩;have p:aL d*aL b≠0:=tB a7 t;have l:a9 (aL d*aL b).natAbs=0:=(by refine(vt.2 ?_).2;rw[jO,Nat.mul_mod,x,y]);have aj:aL d*aL b*2^(a9 d.natAbs+a9 b.natAbs)=e*2^65536:=by
  rw[<-a,iy]
  conv=>rhs;rw[<-u,<-v]
  rw[e1,e1,nt (aL b)]
 have n:bz d=(a9 d.natAbs:Int)-65536:=(by rw[bz,ag c];rfl);have o:bz b=(a9 b.natAbs:Int)-65536:=(by rw[bz,ag f];rfl);rw[n,o];generalize a9 d.natAbs=j at*;generalize a9 b.natAbs=k at*;generalize aL d*aL b=B at*;have g:=congrArg Int.natAbs aj;rw[ez,ez] at g;have s:0<e.natAbs:=Rg g U;obtain⟨m,z⟩:=Ta g U s;rw[l] at m;have A:ar e.natAbs<=131072:=r;unfold eg;rw[ag p,l,ag U];obtain⟨w,q⟩:=dX (U:0<=(j:Int)-65536+((k:Int)-65536)+65536);rw[q,mh];congr 1;have:j+k=w+65536:=U;rw[this,iy,<-e1] at aj;exact wa (h _)|>.1 aj
def dv (a:Int):Int:=if a<9223372036854775808 then if aW a=0 then db a else db a+4503599627370496 else-(if aW a=0 then db a else db a+4503599627370496)
def dx (a:Int):Int:=if aW a=0 then-1074 else aW a-1075
def lZ (a:aW b≠2047):-1074<=dx b/\dx b<=971:=by have:=ss b;unfold dx;split<;>omega
def n9 (a:Int):ar (dv a).natAbs<=53:=bN.2 (by
 have b:=pe a;have:(2:Nat)^53=9007199254740992:=aa;rw[this];unfold dv;split<;>split<;>omega)
def iP (c:aW b≠2047):bq b=some (dv b*2^(dx b+65536).toNat):=by
 have h:=lZ c;have g:=n9 b;unfold bq;rw[ag c];change eg (dv b) (dx b)=_;generalize dv b=f at*;generalize dx b=d at*;unfold eg;by_cases a:f=0
 ·rw[ak a,a,iX]
 rw[ag a,ag U];obtain⟨i,e⟩:=dX (U:0<=d+65536);rw[e,mh,dk]
def Gd (e:aW b≠2047) (f:aW d≠2047):kH (bq b) (bq d)=some (dv b*dv d*2^(dx b+dx d+65536).toNat):=by
 rw[iP e,iP f];have l:=lZ e;have m:=lZ f;have h:=n9 b;have i:=n9 d;refine Oy ?_ ?_
 ·generalize dv b=a;generalize dv d=g;have:(dx b+65536).toNat+(dx d+65536).toNat=(dx b+dx d+65536).toNat+65536:=U;have aj:a*2^(dx b+65536).toNat*(g*2^(dx d+65536).toNat)=a*g*(2^(dx b+65536).toNat*2^(dx d+65536).toNat):=by
   generalize(2:Int)^(dx b+65536).toNat=k;generalize(2:Int)^(dx d+65536).toNat=n;rw[e1,e1,nt k]
  rw[aj,<-iy,this,iy,<-e1]
 have j:=oZ h i;rw[<-jO] at j;generalize dv b*dv d=a at*;unfold e4;rw[ez];rcases gG a.natAbs with c|c
 ·rw[c,Nat.zero_mul];decide
 rw[g7 c];omega
def lx:Nat:=2^67600
def v2:lx=2^67600:=by rw[lx]
def fY (c:Nat) (b:cK):Prop:=∃a,b=some a/\a.natAbs<=c*lx
def RJ (c:b.natAbs<=a*lx) (f:a<1048576):e4 b:=by refine bj (j0 c) ?_;have d:ar a<=20:=bN.2 U;have e:ar lx<=67601:=(by rw[v2];exact bN.2 (s2 67600 67601 aa));have:=oZ d e;omega
def Hp (d:ar a+c<=67600):a*2^c<=1*lx:=by
 rw[fQ,v2];refine Nat.le_of_lt ((bN (k:=67600)).1 ?_);rcases gG a with b|b
 ·rw[b,Nat.zero_mul,show ar 0=0 from rfl];omega
 rw[g7 b];omega
def fY.AT (a:aW b≠2047):fY 1 (bq b):=by have d:=lZ a;have c:=n9 b;refine⟨_,iP a,?_⟩;rw[ez];exact Hp U
def fY.mul (a:aW b≠2047) (c:aW d≠2047):fY 1 (kH (bq b) (bq d)):=by have f:=lZ a;have g:=lZ c;have e:=oZ (n9 b) (n9 d);rw[<-jO] at e;refine⟨_,Gd a c,?_⟩;rw[ez];exact Hp U
def fY.neg {b:cK} (c:fY a b):fY a (sV b):=by obtain⟨e,rfl,d⟩:=c;exact⟨-e,rfl,by rw[oF];exact d⟩
def fY.abs {b:cK} (c:fY a b):fY a (mL b):=by obtain⟨e,rfl,d⟩:=c;exact⟨_,rfl,by rw[jP];exact d⟩
def fY.sum {a:Nat}:∀{l:cC},(∀d∈l,fY a d)->e8 l=true/\(dt l).natAbs<=l.length*a*lx
 |[],_=>⟨rfl,eU _⟩
 |d::l,b=>by
  obtain⟨c,h⟩:=fY.sum (l:=l) λg e=>b g (by simp[e]);obtain⟨f,rfl,i⟩:=b d ab;constructor
  ·show(true&&e8 l)=true;rw[c];rfl
  show(f+dt l).natAbs<=(l.length+1)*a*lx;rw[fy,fy,fQ];omega
def Iq {k:Nat} {a:cC} (d:∀c∈a,fY k c) (f:a.length*k<1048576):fc a=some (dt a)/\fY (a.length*k) (fc a):=by obtain⟨e,b⟩:=fY.sum d;have:fc a=some (dt a):=(by unfold fc ky;rw[ak e,ak (RJ b f)]);exact⟨this,_,this,b⟩
def B9 (n:a<=9007199254740992) (o:-1074<=b) (m:4503599627370496<=a\/b=-1074) (c:aW (eO f a b 0)≠2047):dv (eO f a b 0)*2^(dx (eO f a b 0)+65536).toNat=(if f then-(a:Int) else(a:Int))*2^(b+65536).toNat:=by
 have l:aW (l9 f 0)=2047:=(by cases f<;>decide);have j:∀(e k i:Int),aW e≠2047->dv e=k->dx e=i->k*2^(i+65536).toNat=(if f then-(a:Int) else(a:Int))*2^(b+65536).toNat->dv e*2^(dx e+65536).toNat=(if f then-(a:Int) else(a:Int))*2^(b+65536).toNat:=(by intro e k i _ h g d;rw[h,g];exact d);unfold eO at c|-;by_cases h:a<4503599627370496
 ·rw[ak h] at c|-;obtain rfl:b=-1074:=U;refine j _ (if f then-(a:Int) else(a:Int)) (-1074) c ?_ ?_ rfl
  ·unfold dv aW db fX;cases f<;>simp<;>omega
  unfold dx aW fX;cases f<;>simp<;>omega
 rw[ag h] at c|-;by_cases g:a=9007199254740992
 ·rw[ak g] at c|-;by_cases d:b+1+1075>=2047
  ·rw[ak d] at c;exact absurd l c
  rw[ag d] at c|-;refine j _ (if f then-(4503599627370496:Int) else 4503599627370496) (b+1) c ?_ ?_ ?_
  ·unfold dv aW db fX;cases f<;>simp<;>omega
  ·unfold dx aW fX;cases f<;>simp<;>omega
  have aj:(b+1+65536).toNat=(b+65536).toNat+1:=U;rw[aj,Int.pow_succ,g];generalize(2:Int)^(b+65536).toNat=p;cases f<;>simp<;>omega
 rw[ag g] at c|-;by_cases d:b+1075>=2047
 ·rw[ak d] at c;exact absurd l c
 rw[ag d] at c|-;refine j _ (if f then-(a:Int) else(a:Int)) b c ?_ ?_ rfl
 ·unfold dv aW db fX;cases f<;>simp<;>omega
 unfold dx aW fX;cases f<;>simp<;>omega
def Le (m:Bool) (d:Nat) {s:Nat} (i:Bool) (t:1<=s):2*(eI m d s i 0*2^s)<=2*d+2^s/\2*(d+i.toNat)<=2*(eI m d s i 0*2^s)+2^s:=by
 obtain⟨b,rfl⟩:∃b,s=b+1:=⟨s-1,U⟩;have o:2^(b+1)=2*2^b:=(by rw[hy,hL]);have q:0<2^b:=eT b;have n:=p8 d (2^(b+1));have r:=Nat.mod_lt d (U:2^(b+1)>0);unfold eI iG pN;rw[o] at*;generalize 2^b=a at*;generalize d %(2*a)=g at*;generalize d/(2*a)=j at*;rw[hL] at n;have h:(j+1)*(2*a)=j*(2*a)+2*a:=(by rw[fy,fQ]);generalize c:j*(2*a)=p at*;cases i
 ·by_cases k:g=0
  ·simp[k,c];omega
  simp only[k,false_and,if_false];by_cases e:2*g<2*a
  ·simp[e,c];omega
  by_cases f:2*a<2*g
  ·simp[e,f,c,h];omega
  simp only[e,f,if_false];by_cases l:j %2=1
  ·simp[l,c,h];omega
  simp[l,c];omega
 by_cases e:2*g<2*a
 ·simp[e,c];omega
 by_cases f:2*a<2*g
 ·simp[e,f,c,h];omega
 simp[e,f,c,h];omega
def HN {d:Bool} (u:58<=ar a) (i:aW (gL d a b f 0)≠2047):∃(g:Nat) (c:Nat),5<=c/\b+c=bd a b/\(b+c=-1074\/(c:Int)+53=ar a)/\-1074<=b+c/\bq (gL d a b f 0)=some ((if d then-(g:Int) else(g:Int))*2^(b+c+65536).toNat)/\2*(g*2^c)<=2*a+2^c/\2*(a+f.toNat)<=2*(g*2^c)+2^c:=by
 have o:0<a:=by
  rcases gG a with h|h
  ·subst h;exact absurd u aa
  exact h
 have A:bd a b=b+ar a-53\/bd a b=-1074:=(by unfold bd;omega);have B:b+ar a-53<=bd a b/\-1074<=bd a b:=(by unfold bd;omega);have l:=tk (neg:=d) (iO:=f) (gV:=0) (e:=b) o;have t:¬bd a b<=b:=U;unfold gL at i|-;rw[ag t] at i l|-;generalize bd a b=j at*;obtain⟨c,w⟩:=dX (U:0<=j-b);rw[w,dk] at i l|-;have k:=Le d a f (s:=c) U;have v:4503599627370496<=eI d a c f 0\/j=-1074:=by
  by_cases h:j=-1074
  ·exact .inr h
  left;have x:c+53=ar a:=U;have n:=(jZ o).1;have q:ar a-1=c+52:=U;rw[q,c4] at n;have y:=k.2;have z:=eT c;have r:(2:Nat)^52=4503599627370496:=aa;rw[r] at n;generalize 2^c=p at*;generalize eI d a c f 0=g at*;rcases bi g 4503599627370496 with m|m
  ·exfalso;have:g*p<=4503599627370495*p:=dD _ U;omega
  exact m
 refine⟨eI d a c f 0,c,U,U,U,U,?_,k.1,k.2⟩;rw[iP i,B9 l U v i,(U:b+(c:Int)=j)]
def iq (a b:Nat):(2:Int)^(a+b)=2^a*2^b:=iy 2 a b
def vr {x:Int} (b:-65536<=a6 x):x=aL x*2^(a6 x+65536).toNat:=by have a:=lg x;have:(a6 x+65536).toNat=a9 x.natAbs:=(by unfold a6;omega);rw[this,a]
def sr (a:Int):-65536<=a6 a:=by unfold a6;omega
def Sj (a b:Bool) (c:Int):(if(a !=b)=true then-c else c)=(if a=true then-1 else 1)*((if b=true then-1 else 1)*c):=by cases a<;>cases b<;>simp
def BN (a:Int):aL a=(if decide (a<0)=true then-1 else 1)*((aL a).natAbs:Int):=by
 have:=l7 (v:=a);by_cases b:a<0
 ·simp[b];omega
 simp[b];omega
def Rm (ce:d≠0) (ci:b≠0) (fa:-60000<=a6 d) (fb:ar (aL b).natAbs<=53) (E:aW (j6 d b 0)≠2047):∃y,bq (j6 d b 0)=some y/\(y*b-d*2^65536).natAbs*2^1075<=d.natAbs*2^65536*2^1022+b.natAbs*2^65536:=by
 obtain⟨j,am⟩:∃j:Nat,j=65536:=⟨_,rfl⟩;obtain⟨h,an⟩:∃h:Nat,h=1022:=⟨_,rfl⟩;rw[<-am,(U:(1075:Nat)=h+53),<-an];have Z:0<(aL d).natAbs:=(by have:=ho ce;omega);have C:0<(aL b).natAbs:=(by have:=ho ci;omega);have Y:d=(if decide (d<0)=true then-1 else 1)*((aL d).natAbs:Int)*2^(a6 d+65536).toNat:=(by rw[<-BN];exact vr (sr d));have B:b=(if decide (b<0)=true then-1 else 1)*((aL b).natAbs:Int)*2^(a6 b+65536).toNat:=(by rw[<-BN];exact vr (sr b));have fp:=sr b;have d7:kJ (aL d).natAbs (aL b).natAbs=59+ar (aL b).natAbs-ar (aL d).natAbs:=rfl;unfold j6 s6 at E|-;generalize d8:kJ (aL d).natAbs (aL b).natAbs=e at*;generalize d3:(aL d).natAbs=g at*;generalize d4:(aL b).natAbs=a at*;have r:=Ch (k:=e) Z C U;obtain⟨i,c,eq,_,av,d6,bl,a3,a4⟩:=HN r E;refine⟨_,bl,?_⟩;obtain⟨f,ex⟩:=dX (U:0<=a6 d-a6 b-e+(a6 b+131072));have el:=p8 (g*2^e) a;have d9:=Nat.mod_lt (g*2^e) C;generalize em:g*2^e/a=m at*;generalize g*2^e %a=I at*;have d5:2*(i*2^c*a)<=2*(g*2^e)+2^c*a/\2*(g*2^e)<=2*(i*2^c*a)+2^c*a:=by
  have ao:=dD a a3;have u:=dD a a4;rw[fy,gb 2,gb 2] at ao;rw[fy,gb 2,gb 2,fy] at u;have fn:a*m=m*a:=hL _ _;constructor
  ·omega
  by_cases o:I=0
  ·omega
  have:decide (I≠0)=true:=(by simpa using o);rw[this] at u;simp only[Bool.toNat_true,fQ] at u;omega
 have aj:((if(decide (d<0)!=decide (b<0))=true then-(i:Int) else(i:Int))*2^(a6 d-a6 b-(e:Int)+(c:Int)+65536).toNat)*b=(if decide (d<0)=true then-1 else 1)*((i*2^c*a*2^f:Nat):Int):=by
  have s:(a6 d-a6 b-(e:Int)+(c:Int)+65536).toNat+(a6 b+65536).toNat=c+f:=U;have t:(2:Int)^(a6 d-a6 b-(e:Int)+(c:Int)+65536).toNat*2^(a6 b+65536).toNat=2^c*2^f:=(by rw[<-iq,s,iq]);rw[Sj];refine(congrArg (λv=>(if decide (d<0)=true then(-1:Int) else 1)*((if decide (b<0)=true then(-1:Int) else 1)*(i:Int))*2^(a6 d-a6 b-(e:Int)+(c:Int)+65536).toNat*v) B).trans ?_
  push_cast
  generalize(2:Int)^(a6 d-a6 b-(e:Int)+(c:Int)+65536).toNat=w at*;generalize(2:Int)^(a6 b+65536).toNat=x at*;have bs:(if decide (b<0)=true then(-1:Int) else 1)*(if decide (b<0)=true then(-1:Int) else 1)=1:=(by cases decide (b<0)<;>rfl);generalize(if decide (b<0)=true then(-1:Int) else 1)=q at*;generalize(if decide (d<0)=true then(-1:Int) else 1)=J at*;have:J*(q*(i:Int))*w*(q*(a:Int)*x)=J*((i:Int)*(a:Int))*(w*x)*(q*q):=(by simp only[e1,nt,fI]);rw[this,bs,t,Int.mul_one];simp only[e1,nt,fI]
 have A:d*2^j=(if decide (d<0)=true then-1 else 1)*((g*2^e*2^f:Nat):Int):=by
  have s:(a6 d+65536).toNat+j=e+f:=U;have t:(2:Int)^(a6 d+65536).toNat*2^j=2^e*2^f:=(by rw[<-iq,s,iq]);refine(congrArg (λv=>v*2^j) Y).trans ?_
  push_cast
  rw[e1,t];simp only[e1]
 have S:d.natAbs*2^j=g*2^e*2^f:=(by have:=congrArg Int.natAbs A;rw[ez,jO,jP] at this;rw[this];split<;>simp);rw[aj,A,S,<-Int.mul_sub,jO];have T:∀p:Bool,(if p=true then(-1:Int) else 1).natAbs=1:=(by intro p;cases p<;>rfl);rw[T,fQ];have V:((i*2^c*a*2^f:Nat):Int)-((g*2^e*2^f:Nat):Int)=((i*2^c*a:Nat)-(g*2^e:Nat):Int)*((2^f:Nat):Int):=(by rw[Int.sub_mul];push_cast;rfl);rw[V,jO,jP];have ad:2*((i*2^c*a:Nat)-(g*2^e:Nat):Int).natAbs<=2^c*a:=(by generalize i*2^c*a=cs at*;generalize g*2^e=p at*;generalize 2^c*a=d0 at*;omega);generalize((i*2^c*a:Nat)-(g*2^e:Nat):Int).natAbs=n at*;have D:=dD (2^f) ad;have G:(2:Nat)^(h+53)=2*2^(h+52):=Nat.pow_succ';rcases av with ap|ap
 ·have W:2^c*a*2^f*2^(h+52)=b.natAbs*2^j:=by
   have K:b.natAbs=a*2^(a6 b+65536).toNat:=(by have:=congrArg Int.natAbs B;rw[ez,jO,jP] at this;rw[this];split<;>simp);have L:c+f+(h+52)=(a6 b+65536).toNat+j:=U;have M:2^c*2^f*2^(h+52)=2^(a6 b+65536).toNat*2^j:=(by rw[<-c4,<-c4,<-c4,L]);rw[K,gb a,<-M];simp only[gb,tM,hL]
  have:=dD (2^(h+52)) D;rw[W] at this;rw[G];generalize(2:Nat)^(h+52)=F at*;have X:n*2^f*(2*F)=2*n*2^f*F:=(by simp only[gb,tM,hL]);rw[X];exact bj this (Nat.le_add_left _ _)
 have N:ar m=c+53:=U;have a0:0<m:=by
  rcases gG m with o|o
  ·rw[o] at r;exact absurd r aa
  exact o
 have z:=(jZ a0).1;rw[N,show c+53-1=c+52 from rfl,c4] at z;have H:(2:Nat)^(h+53)=2*2^52*2^h:=(by rw[gb,<-c4,<-Nat.pow_succ',(U:(52+h).succ=h+53)]);rw[H];clear H G;generalize(2:Nat)^52=l at*;generalize(2:Nat)^h=co at*;have O:2^c*a*l<=g*2^e:=(by have:=dD a z;have ds:a*m=m*a:=hL _ _;have R:2^c*a*l=2^c*l*a:=Nat.mul_right_comm _ _ _;rw[R];omega);have cv:=dD (2^f) O;have dl:=dD l D;have P:n*2^f*(2*l)<=g*2^e*2^f:=(by have d1:n*2^f*(2*l)=2*n*2^f*l:=(by simp only[gb,tM,hL]);have d2:2^c*a*2^f*l=2^c*a*l*2^f:=Nat.mul_right_comm _ _ _;omega);have Q:=dD co P;rw[<-gb];exact bj Q (tL _ _)
theorem RM {d b e:Nat} (f:a*c<=d) (n:2*b<=2*d+c) (k:d*d<=e) (y:e<(d+1)*(d+1)) (o:4*e<=(2*b+c)*(2*b+c)):4*(a*a*(b*b))<=4*(a*a*e)+4*(a*e)+e/\4*(a*a*e)<=4*(a*a*(b*b))+4*(a*e)+e:=by
 have r:a*(d*c)<=d*d:=(by rw[tM];exact h0 _ f);have f2:a*a*(c*c)<=d*d:=(by have:a*a*(c*c)=a*c*(a*c):=(by simp only[gb,tM,hL]);rw[this];exact gO f f);have p:(2*b+c)*(2*b+c)=4*(b*b)+4*(b*c)+c*c:=(by grind);constructor
 ·have m:=gO n n;have aj:2*b*(2*b)=4*(b*b):=(by grind);have q:(2*d+c)*(2*d+c)=4*(d*d)+4*(d*c)+c*c:=(by grind);rw[aj,q] at m;have j:=h0 (a*a) m;have h:a*a*(4*(b*b))=4*(a*a*(b*b)):=(by grind);have i:a*a*(4*(d*d)+4*(d*c)+c*c)=4*(a*a*(d*d))+4*(a*(a*(d*c)))+a*a*(c*c):=(by grind);rw[h,i] at j;have t:=h0 a r;have w:=h0 (a*a) k;have x:=h0 a k;omega
 rcases bi (b*b) e with l|l
 ·have u:b<=d:=by
   rcases bi d b with g|g
   ·have:=gO g g;have v:(d+1)*(d+1)=d.succ*d.succ:=rfl;omega
   exact g
  have s:a*(b*c)<=e:=(by rw[tM];exact bj (gO u f) k);rw[p] at o;have j:=h0 (a*a) o;have h:a*a*(4*e)=4*(a*a*e):=(by grind);have i:a*a*(4*(b*b)+4*(b*c)+c*c)=4*(a*a*(b*b))+4*(a*(a*(b*c)))+a*a*(c*c):=(by grind);rw[h,i] at j;have t:=h0 a s;omega
 have:=h0 (a*a) l;omega
def Rh {b d:Nat} (e:b+d=a+a+(c+c)):2^b*2^d=2^a*2^a*(2^c*2^c):=by rw[<-c4,<-c4,<-c4,<-c4,e]
theorem RP (av:0<b) (y:2^(65536-2044)<=b.natAbs) (x:aW (jc b 0)≠2047):∃r,bq (jc b 0)=some r/\(r*r-b*2^65536).natAbs*2^106<=b.natAbs*2^65536*2^54+b.natAbs*2^65536:=by
 obtain⟨i,R⟩:∃i:Nat,i=65536:=⟨_,rfl⟩;rw[<-R] at y|-;have P:0<(aL b).natAbs:=(by have:=ho (v:=b) U;omega);have a0:=sr b;have L:b=((aL b).natAbs:Int)*2^(a6 b+65536).toNat:=(by have N:=vr a0;have a4:=l7 (v:=b);rw[(U:((aL b).natAbs:Int)=aL b)];exact N);have ci:hb (aL b).natAbs (a6 b)<=119/\118<=ar (aL b).natAbs+hb (aL b).natAbs (a6 b)/\(a6 b-(hb (aL b).natAbs (a6 b):Nat)) %2=0:=(by unfold hb;split<;>omega);unfold jc s8 at x|-;generalize hb (aL b).natAbs (a6 b)=a at*;generalize(aL b).natAbs=c at*;obtain⟨m,bs⟩:∃m,a6 b-(a:Int)=2*m:=⟨(a6 b-a)/2,U⟩;rw[(U:(a6 b-(a:Int))/2=m)] at x|-;have z:58<=ar (bF (c*2^a)):=Bd (by rw[g7 P];omega);obtain⟨ap,F⟩:=qX (c*2^a);obtain⟨d,cs⟩:=dX (U:0<=m+i);have t:b.natAbs*2^i=c*2^a*(2^d*2^d):=(by have:=congrArg Int.natAbs L;rw[ez,jP] at this;rw[this,gb,gb,<-c4,<-c4,<-c4];congr 2;omega);obtain⟨l,e,co,_,W,ce,am,ad,o⟩:=HN z x;refine⟨_,am,?_⟩;have X:0<bF (c*2^a):=by
  rcases gG (bF (c*2^a)) with g|g
  ·rw[g] at z;exact absurd z aa
  exact g
 have T:=jZ X;have Y:decide (bF (c*2^a)*bF (c*2^a)≠c*2^a)=false->bF (c*2^a)*bF (c*2^a)=c*2^a:=λw=>(by simpa using w);have Z:(decide (bF (c*2^a)*bF (c*2^a)≠c*2^a)).toNat=1\/bF (c*2^a)*bF (c*2^a)=c*2^a:=by
  cases w:decide (bF (c*2^a)*bF (c*2^a)≠c*2^a)
  ·exact .inr (Y w)
  exact .inl rfl
 generalize bF (c*2^a)=k at*;have S:0<2^d*2^d:=Nat.mul_pos (eT d) (eT d);have bl:e+53<=ar k:=by
  rcases W with V|V
  ·rcases bi (ar k) (e+53) with g|g
   ·exfalso;have u:k<2^(e+52):=bN.1 U;have B:c*2^a<2^(e+52)*2^(e+52):=fA F (gO u u);have C:=tN B S;have p:=dD (2^i) y;rw[t] at p;rw[Rh (show i-2044+i=e+52+(e+52)+(d+d) by clear p y C B u;omega)] at p;exact absurd (qa p C) (Nat.lt_irrefl _)
   exact g
  omega
 have an:2^52*2^e<=k:=(by rw[<-c4];exact bj (e9 _ _ U) T.1);have O:4*(c*2^a)<=(2*(l*2^e)+2^e)*(2*(l*2^e)+2^e):=by
  have aj:∀n:Nat,2*n*(2*n)=4*(n*n):=λn=>(by grind);rcases Z with E|E
  ·rw[E] at o;have A:=gO o o;rw[aj] at A;omega
  have A:=gO (bj (h0 2 (tL k _)) o) (bj (h0 2 (tL k _)) o);rw[aj] at A;omega
 have D:=RM an ad ap F O;have K:(if false=true then-(l:Int) else(l:Int))*2^(m+(e:Int)+65536).toNat=((l*2^e*2^d:Nat):Int):=by
  rw[ag aa,(U:(m+(e:Int)+65536).toNat=e+d),iq]
  push_cast
  rw[e1]
 have M:b*2^i=((c*2^a*(2^d*2^d):Nat):Int):=by
  rw[<-t]
  push_cast
  rw[Int.natAbs_of_nonneg (ec av)]
 rw[K,M,t];generalize l*2^e=f at*;generalize c*2^a=h at*;have H:((f*2^d:Nat):Int)*((f*2^d:Nat):Int)-((h*(2^d*2^d):Nat):Int)=(((f*f:Nat):Int)-(h:Int))*((2^d*2^d:Nat):Int):=by
  push_cast
  generalize(2:Int)^d=n;grind
 rw[H,jO,jP];generalize 2^d*2^d=G at*;have I:(2:Nat)^106=4*(2^52*2^52):=aa;have J:(2:Nat)^54=4*2^52:=aa;rw[I,J];generalize(2:Nat)^52=j at*;have Q:4*(j*j*(((f*f:Nat):Int)-(h:Int)).natAbs)<=4*(j*h)+h:=by
  rcases Nat.le_total (f*f) h with g|g
  ·obtain⟨s,q⟩:=Nat.exists_eq_add_of_le g;rw[(U:(((f*f:Nat):Int)-(h:Int)).natAbs=s)];have:=D.2;rw[q,Nat.mul_add (j*j)] at this;rw[q];omega
  obtain⟨s,q⟩:=Nat.exists_eq_add_of_le g;rw[(U:(((f*f:Nat):Int)-(h:Int)).natAbs=s)];have:=D.1;rw[q,Nat.mul_add (j*j)] at this;omega
 generalize(((f*f:Nat):Int)-(h:Int)).natAbs=a3 at*;have:=dD G Q;grind
section
def H4 (b:cK) (n:Int):cK:=b.bind λa=>if a=0 then some 0 else eg (aL a) (a6 a+n)
def RY {c:cK} (d:e2 c) {n:Int} (l:-262144<=n) (m:n<=262144):xQ (bf c,n,())=some (bf (H4 c n),()):=by
 unfold xQ;refine aq (y5 d) ?_;cases c with
 |none=>rfl
 |some a=>
  have e:=d a rfl;have k:=j9 e;have g:=j8 e;rw[hB];have i:=s9 (z:=aL a) U;dsimp only;rw[bT (by rfl),i,Option.bind_some,Option.bind_some];dsimp only;rw[lj,bo];by_cases b:a=0
  ·rw[ak (Gr.2 b)];subst b;rfl
  have j:=λf=>b (Gr.1 f);rw[if_neg j,Option.bind_some];dsimp only;rw[bT (by rw[az U];rfl),Option.bind_some];dsimp only;rw[az U,cond_false,Option.bind_some];dsimp only;have h:bz a=a6 a:=(by unfold bz;rw[if_neg b]);rw[h] at g|-;rw[bh U U];refine aq (vE U U U) ?_;show some (bf (eg (aL a) (a6 a+n)),())=some (bf (if a=0 then some 0 else eg (aL a) (a6 a+n)),());rw[if_neg b]
section
variable {A:Nat->Nat->cK} {G:cF} {o:cQ} {n:Nat}
end
end
def bZ (a:Nat) (b:Int):Prop:=∃c,b=c*2^a
def bZ.zero (a:Nat):bZ a 0:=⟨0,by rw[iX]⟩
def bZ.add (e:bZ a b) (c:bZ a d):bZ a (b+d):=by obtain⟨f,rfl⟩:=e;obtain⟨g,rfl⟩:=c;exact⟨f+g,by rw[Int.add_mul]⟩
def bZ.neg (c:bZ a b):bZ a (-b):=by obtain⟨d,rfl⟩:=c;exact⟨-d,by rw[nv]⟩
def bZ.mono {e:Nat} (d:bZ e b) (c:a<=e):bZ a b:=by obtain⟨g,rfl⟩:=d;obtain⟨f,rfl⟩:=Nat.exists_eq_add_of_le c;exact⟨g*2^f,by rw[Nat.add_comm,iq,e1]⟩
def bZ.shl (a:Nat) (b:Int):bZ a (b*2^a):=⟨b,rfl⟩
def bZ.ge (f:bZ a b) (e:b≠0):2^a<=b.natAbs:=by
 obtain⟨c,rfl⟩:=f;rw[ez];have:0<c.natAbs:=by
  rcases gG c.natAbs with d|d
  ·have:c=0:=U;rw[this,iX] at e;exact absurd rfl e
  exact d
 exact wh _ this
def bZ.IH (d:b≠0):bZ a b↔a<=a9 b.natAbs:=by
 rw[pu U];constructor
 ·rintro⟨e,rfl⟩;rw[ez,Nat.mul_mod_left]
 intro c;exact⟨b/2^a,(uR c).symm⟩
def bZ.ex (d:b≠0) (c:bZ a b):(a:Int)-65536<=a6 b:=by have:=(bZ.IH d).1 c;unfold a6;omega
def Hh {neg:Bool} (c:Int) (d:a<=9007199254740992) (e:-1074<=b) (f:b<=900):eO neg a b c=eO neg a b 0/\aW (eO neg a b 0)≠2047:=by
 unfold eO;rw[ag (U:¬b+1+1075>=2047),ag (U:¬b+1075>=2047),ag (U:¬b+1+1075>=2047),ag (U:¬b+1075>=2047)];refine⟨rfl,?_⟩;split
 ·unfold aW fX;cases neg<;>simp<;>omega
 split
 ·unfold aW fX;cases neg<;>simp<;>omega
 unfold aW fX;cases neg<;>simp<;>omega
theorem HM {v:Int} (d:Int) (k:v≠0) (F:bZ (65536-1074) v) (Q:ar v.natAbs<=65536+900):aW (kM v d)≠2047/\∃o,bq (kM v d)=some o/\(∀l,bZ l v->bZ l o)/\o.natAbs<=2*v.natAbs/\v.natAbs<=2*o.natAbs:=by
 have X:=F.ex k;have q:0<(aL v).natAbs:=(by have:=ho k;omega);have S:=yO k;have W:=ov (n:=v.natAbs) U;have p:v=(if decide (v<0)=true then-1 else 1)*((aL v).natAbs:Int)*2^(a6 v+65536).toNat:=(by rw[<-BN];exact vr (sr v));have C:(a6 v+65536).toNat=a9 v.natAbs:=(by unfold a6;omega);have O:a6 v=(a9 v.natAbs:Int)-65536:=rfl;unfold kM;rw[ag k];generalize R:(aL v).natAbs=a at*;generalize T:decide (v<0)=c at*;have f:=tk (neg:=c) (iO:=false) (gV:=d) (e:=a6 v) q;have M:bd a (a6 v)=a6 v+ar a-53\/bd a (a6 v)=-1074:=(by unfold bd;omega);have m:a6 v+ar a-53<=bd a (a6 v)/\-1074<=bd a (a6 v):=(by unfold bd;omega);have y:bd a (a6 v)<=900:=U;have H:=jZ q;unfold gL;generalize bd a (a6 v)=g at*;by_cases t:g<=a6 v
 ·rw[ak t] at f|-;obtain⟨j,w⟩:=dX (U:0<=a6 v-g);rw[w,dk] at f|-;obtain⟨ao,i⟩:=Hh (neg:=c) d f m.2 y;have r:4503599627370496<=a*2^j\/g=-1074:=by
   rcases M with s|s
   ·left;have aj:ar (a*2^j)=53:=(by rw[g7 q];omega);have:=kv.1 (U:52<ar (a*2^j));exact this
   exact .inr s
  rw[ao];refine⟨i,v,?_,λl E=>E,U,U⟩;rw[iP i,B9 f m.2 r i];congr 1;have N:(a6 v+65536).toNat=j+(g+65536).toNat:=U;rw[N,iq] at p;refine Eq.trans ?_ p.symm
  push_cast
  generalize(2:Int)^j=Y;generalize(2:Int)^(g+65536).toNat=Z;cases c<;>simp<;>grind
 rw[ag t] at f|-;obtain⟨b,L⟩:=dX (U:0<=g-a6 v);rw[L,dk] at f|-;obtain⟨ao,i⟩:=Hh (neg:=c) d f m.2 y;have V:b+53=ar a:=U;have K:eI c a b false d<=a/2^b+1:=by
  unfold eI;split
  ·omega
  split<;>omega
 have G:2^52*2^b<=a:=(by rw[<-c4];exact bj (e9 _ _ U) H.1);have x:=eT b;have J:4503599627370496<=a/2^b:=(p9 x).2 G;have u:a/2^b<=eI c a b false d:=by
  unfold eI;split
  ·exact aZ _
  split<;>omega
 have r:=bj J u;have w:=Nat.div_mul_le_self a (2^b);rw[ao];generalize eI c a b false d=h at*;refine⟨i,(if c=true then-(h:Int) else(h:Int))*2^(g+65536).toNat,?_,?_,?_⟩
 ·rw[iP i,B9 f m.2 (.inl r) i]
 ·intro l I;have:=(bZ.IH k).1 I;exact(bZ.shl _ _).mono U
 have aj:(g+65536).toNat=b+a9 v.natAbs:=U;have z:v.natAbs=a*2^a9 v.natAbs:=(by have:=congrArg Int.natAbs p;have B:(if c=true then(-1:Int) else 1).natAbs=1:=(by cases c<;>rfl);rw[ez,jO,jP,C,B,fQ] at this;exact this);have A:(if c=true then-(h:Int) else(h:Int)).natAbs=h:=(by cases c<;>simp);rw[ez,aj,c4,<-gb,A];have D:h*2^b<=(a/2^b+1)*2^b:=dD _ K;rw[fy,fQ] at D;have f2:2^b<=2^52*2^b:=wh _ aa;have P:a/2^b*2^b<=h*2^b:=dD _ u;have f4:=p8 a (2^b);have f5:=Nat.mod_lt a x;rw[hL] at f4;generalize a9 v.natAbs=s at*;rw[z];constructor
 ·rw[<-gb];exact dD _ U
 rw[<-gb];exact dD _ U
def ff (c d:Nat) (b:Int):Prop:=dr b/\aW b≠2047/\∀a,bq b=some a->bZ (65536-56) a/\a.natAbs<=2^(65536+c)/\(a≠0->2^(65536-d)<=a.natAbs)
def ff.mono {g h:Nat} (d:ff a g b) (j:a<=c) (k:g<=h):ff c h b:=
 ⟨d.1,d.2.1,λf e=>⟨(d.2.2 f e).1,bj (d.2.2 f e).2.1 (e9 _ _ U),λi=>bj (e9 _ _ U) ((d.2.2 f e).2.2 i)⟩⟩
def ff.zero (b d:Nat):ff b d 0:=⟨⟨aa,aa⟩,aa,λe a=>by
 rw[pF] at a;cases a;exact⟨bZ.zero _,eU _,λc=>absurd rfl c⟩⟩
def G9 {X M E:Nat} (e:E<2048) (f:M/2^52=2048):((X&&&M)|||(E<<<52))/2^52 %2048=E/\((X&&&M)|||(E<<<52)) %2^52=(X %2^52)&&&(M %2^52):=by
 constructor
 ·rw[<-Nat.shiftRight_eq_div_pow,Nat.shiftRight_or_distrib,Nat.shiftRight_and_distrib,Nat.shiftRight_eq_div_pow M,f,Nat.shiftLeft_shiftRight];have c:=Nat.or_mod_two_pow (a:=(X>>>52)&&&2048) (b:=E) (n:=11);have d:=Nat.and_mod_two_pow (a:=X>>>52) (b:=2048) (n:=11);rw[(aa:(2048:Nat) %2^11=0),Nat.and_zero] at d;rw[d,Nat.zero_or,(aa:(2:Nat)^11=2048),Nat.mod_eq_of_lt e] at c;exact c
 rw[Nat.or_mod_two_pow,Nat.and_mod_two_pow,Nat.shiftLeft_eq,Nat.mul_mod_left,Nat.or_zero]
def DC (b:Nat) (c:a<18446744073709551616):b&&&a<18446744073709551616:=qa Nat.and_le_right c
def Hb {X M E:Nat} (e:X<18446744073709551616) (c:M<18446744073709551616) (g:E<2048):dQ IntKind.u64 (bD IntKind.u64 (X:Int) (M:Int)) ((E<<<52:Nat):Int)=(((X&&&M)|||(E<<<52):Nat):Int):=by have a:=DC X c;have b:E<<<52<18446744073709551616:=(by rw[Nat.shiftLeft_eq];omega);have d:bD IntKind.u64 (X:Int) (M:Int)=((X&&&M:Nat):Int):=(by unfold bD;rw[show IntKind.u64.bits=64 from rfl,BitVec.toNat_and,mO e,mO c,rq U U]);have f:(X&&&M)|||(E<<<52)<18446744073709551616:=Nat.or_lt_two_pow (n:=64) a b;rw[d];unfold dQ;rw[show IntKind.u64.bits=64 from rfl,BitVec.toNat_or,mO a,mO b,rq U U]
def O1 {E:Nat} (e:aW b=(E:Int)) (f:0<E) (g:E<2047) (h:a+1075=E+65536):∃c:Int,bq b=some (c*2^a)/\c.natAbs=4503599627370496+(db b).toNat/\(db b).toNat<4503599627370496:=by
 have i:=pe b;refine⟨dv b,?_,?_,U⟩
 ·rw[iP U];have:(dx b+65536).toNat=a:=(by unfold dx;rw[ag U];omega);rw[this]
 unfold dv;have d:¬aW b=0:=U;rw[ag d];split<;>omega
def ff.qQ {E l:Nat} (k:dr b) (h:aW b=(E:Int)) (p:1075-56<=E+51) (q:E<1100) (f:1075-56<=E\/(db b).toNat %2251799813685248=0) (t:E+53<=1075+a) (u:1075<=E+52+l) (v:l<=65536):ff a l b:=by
 obtain⟨c,j⟩:∃c,c+1075=E+65536:=⟨E+64461,U⟩;obtain⟨d,i,r,s⟩:=O1 h U U j;have n:53+c<=65536+a:=U;have o:65536-l<=52+c:=U;refine⟨k,U,λw g=>?_⟩;rw[i] at g;cases g;refine⟨?_,?_,λ_=>?_⟩
 ·rcases f with f|f
  ·exact(bZ.shl _ _).mono U
  have m:d.natAbs %2^51=0:=(by rw[(aa:(2:Nat)^51=2251799813685248)];omega);have aj:=(uR m).symm;refine bZ.mono (e:=51+c) ⟨d/2^51,?_⟩ U;rw[iq 51 c,<-e1,<-aj]
 ·rw[ez];have:d.natAbs<=2^53:=(by rw[(aa:(2:Nat)^53=9007199254740992)];omega);refine bj (dD _ this) ?_;rw[<-c4];exact e9 _ _ n
 rw[ez];have:2^52<=d.natAbs:=(by rw[(aa:(2:Nat)^52=4503599627370496)];omega);refine bj ?_ (dD _ this);rw[<-c4];exact e9 _ _ o
def EL (a:Nat):aW (a:Int)=((a/2^52 %2048:Nat):Int):=by unfold aW;rw[(aa:(2:Nat)^52=4503599627370496)];omega
def Mo (a:Nat):(db (a:Int)).toNat=a %2^52:=by unfold db;rw[(aa:(2:Nat)^52=4503599627370496)];omega
def J3 {X M:Nat} (b:X<18446744073709551616) (a:M<18446744073709551616):bD IntKind.u64 (X:Int) (M:Int)=((X&&&M:Nat):Int):=by have c:=DC X a;unfold bD;rw[show IntKind.u64.bits=64 from rfl,BitVec.toNat_and,mO b,mO a,rq U U]
def Ie {E:Nat} (b:E<2048):((E:Int)*(2:Int)^(52:Int).toNat) %(18446744073709551616:Int)=((E<<<52:Nat):Int):=by rw[Nat.shiftLeft_eq,show((52:Int).toNat)=52 from rfl];have aj:(2:Int)^52=4503599627370496:=aa;have a:(2:Nat)^52=4503599627370496:=aa;rw[aj,a];omega
def Sw (d e:Nat) (u:5<=d) (r:-9<=b) (s:b<=9):ff d e (j7 (gS b) 0):=by
 have w:ar b.natAbs<=4:=bN.2 U;obtain⟨a,t⟩:∃a:Nat,a=65536:=⟨_,rfl⟩;have m:gS b=some (b*2^a):=by
  unfold gS;rw[sO (v:=b*2^a) aa (by rw[(U:((0:Int)+65536).toNat=a)])];unfold ky;rw[ak];unfold e4;rw[ez];rcases gG b.natAbs with c|c
  ·rw[c,Nat.zero_mul];decide
  rw[g7 c];omega
 have g:=HL (gS b) 0;rw[m] at g|-;by_cases j:b=0
 ·rw[j,iX];exact ff.zero d e
 have x:(0:Int)<2^a:=jQ aa;have n:b*2^a≠0:=tB j U;obtain⟨ao,y,p,q,k,_⟩:=HM (v:=b*2^a) 0 n ((bZ.shl a b).mono U) (by
  rw[ez,g7 U];omega)
 refine⟨g,ao,λl o=>?_⟩;have i:bq (kM (b*2^a) 0)=some l:=o;rw[p] at i;cases i;have h:=q a (bZ.shl a b);refine⟨h.mono U,?_,λc=>bj (e9 (65536-e) a U) (h.ge c)⟩;rw[ez] at k;have:2*b.natAbs<=2^5:=U;have f:=dD (2^a) this;rw[<-c4] at f;refine bj k ?_;rw[<-gb];exact bj f (e9 (5+a) (65536+d) U)
def Sv {z:Int} (a:-9<=z) (b:z<=9):ff 5 4 (j7 (gS z) 0):=Sw 5 4 aa a b
def OX (m:dr b) {style:Int} (w:gU style 4<3):ac (si (b,style,())) λk=>ff 41 41 k.1/\(gU style 4<2->ff 5 4 k.1):=by
 obtain⟨a,rfl⟩:=Int.eq_ofNat_of_zero_le m.1;have i:a<18446744073709551616:=(by have:=m.2;omega);unfold si;dsimp only;refine ac.bs (q8 style (n:=4) aa aa) ?_;dsimp only;rw[dH,dH,dH,bo];refine ac.ite (λ_=>?_) λt=>?_
 ·rw[pJ aa aa,aP];have j:∃c:Nat,c<8/\bD IntKind.u64 ((a:Int)/2^(52:Int).toNat) 7=(c:Int):=by
   refine⟨a/2^52&&&7,?_,?_⟩
   ·have:a/2^52&&&7<=7:=Nat.and_le_right;omega
   rw[<-J3 (X:=a/2^52) (M:=7) (qa (rN _ _) i) aa];rfl
  obtain⟨c,u,j⟩:=j;rw[j,show aH (1019+(c:Int))=((1019+c:Nat):Int) by rw[bV U U];omega,kS aa aa,aP,Ie U];refine ac.al.2 ?_;have f:=Hb (X:=a) (M:=9227875636482146303) (E:=1019+c) i aa U;have e:=G9 (X:=a) (M:=9227875636482146303) (E:=1019+c) U aa;have h:=Ha (bD IntKind.u64 (a:Int) 9227875636482146303) (((1019+c)<<<52:Nat):Int);show ff 41 41 (dQ IntKind.u64 (bD IntKind.u64 (a:Int) 9227875636482146303) (((1019+c)<<<52:Nat):Int))/\_;have l:ff 5 4 (dQ IntKind.u64 (bD IntKind.u64 (a:Int) 9227875636482146303) (((1019+c)<<<52:Nat):Int)):=(by refine ff.qQ (E:=1019+c) h ?_ U U (.inl U) U U U;refine(congrArg aW f).trans ?_;rw[EL,e.1]);exact⟨l.mono aa aa,λ_=>l⟩
 rw[bo];refine ac.ite (λq=>?_) λq=>?_
 ·rw[pJ aa aa,aP];have r:gn ((a:Int)/2^(8:Int).toNat) 81=some ((a/2^8 %81:Nat):Int):=by
   unfold gn;rw[ak aa];rfl
  rw[r,aP];have v:a/2^8 %81<81:=Nat.mod_lt _ aa;generalize a/2^8 %81=d at*;rw[show aH (983+(d:Int))=((983+d:Nat):Int) by rw[bV U U];omega,kS aa aa,aP,Ie U];refine ac.al.2 ?_;have f:=Hb (X:=a) (M:=9225623836668461056) (E:=983+d) i aa U;have e:=G9 (X:=a) (M:=9225623836668461056) (E:=983+d) U aa;have h:=Ha (bD IntKind.u64 (a:Int) 9225623836668461056) (((983+d)<<<52:Nat):Int);show ff 41 41 (dQ IntKind.u64 (bD IntKind.u64 (a:Int) 9225623836668461056) (((983+d)<<<52:Nat):Int))/\_;refine⟨ff.qQ (E:=983+d) h ?_ U U (.inr ?_) U U U,λg=>by omega⟩
  ·refine(congrArg aW f).trans ?_;rw[EL,e.1]
  have p:=congrArg (λo=>(db o).toNat) f;refine Eq.trans (congrArg (· %2251799813685248) p) ?_;show(db _).toNat %2251799813685248=0;rw[Mo,e.2,(aa:(2251799813685248:Nat)=2^51),Nat.and_mod_two_pow,(aa:(9225623836668461056:Nat) %2^52 %2^51=0),Nat.and_zero]
 rw[bo];refine ac.ite (λs=>?_) λ_=>?_
 ·exfalso;omega
 unfold At;refine ac.bs (y:=(j7 (gS ((a:Int) %19-9)) 0,())) ?_ (ac.al.2 ?_)
 ·refine aq (y:=(a:Int) %19) ?_ ?_
  ·unfold gn;rw[ak aa,wc U]
  dsimp only;rw[bh (x:=(a:Int) %19) U U,bh U U];exact aq (zc U U) rfl
 have g:=Sv (z:=(a:Int) %19-9) U U;exact⟨g.mono aa aa,λ_=>g⟩
section
def hd (a:Nat->Int):Nat->Int
 |0=>0
 |n+1=>hd a n+a n
def SZ (a:Nat->cK) (n:Nat):dt ((List.range n).map a)=hd (λc=>(a c).getD 0) n:=by
 induction n with
 |zero=>rfl
 |succ n b=>
  rw[p6,hf,vQ,b,hd];show _+((a n).getD 0+0)=_;omega
section
variable {A:Nat->Nat->cK} {G:cF} {n:Nat}
def je (A:Nat->Nat->cK) (G:cF) (a b c:Nat):Int:=(lm (bb A (aX G)) b c a).getD 0
def lz.fin (d:lz A G c) (f:G.length=n) {i:Nat} (e:a<c) (g:c<=n):aW (bb A (aX G) a i)≠2047:=by
 by_cases b:aX G a i=true
 ·exact d a e i b
 rw[yG (by simpa using b)]
 ·decide
 rintro rfl;exact b (Hs U)
def SY (b:lz A G c) (d:G.length=n) (e:c<=n) {x y:Nat} (f:a<c):lm (bb A (aX G)) x y a=some (je A G a x y)/\(je A G a x y).natAbs<=1*lx:=by obtain⟨k,j,h⟩:=(fY.mul (b.fin d f e (i:=x)) (b.fin d f e (i:=y))).neg;have g:lm (bb A (aX G)) x y a=some k:=j;unfold je;rw[g];exact⟨rfl,h⟩
def Sc (g:lz A G a) (j:G.length=n) (l:a<n) (p:n<=5) (i:fY 1 (A c a)):gZ A (bb A (aX G)) a c=some ((A c a).getD 0+hd (λe=>je A G e c a) a):=by
 have m:∀d∈(A c a::(List.range a).map (lm (bb A (aX G)) c a)),fY 1 d:=λd b=>by
  rcases dw.1 b with rfl|b
  ·exact i
  obtain⟨e,o,rfl⟩:=b0.1 b;obtain⟨f,k⟩:=SY g j (Nat.le_of_lt l) (x:=c) (y:=a) (hg.1 o);exact⟨_,f,k⟩
 have h:=(Iq m (by simp;omega)).1;unfold gZ;rw[h];show some ((A c a).getD 0+dt ((List.range a).map (lm (bb A (aX G)) c a)))=_;rw[SZ];rfl
end
end
section
def bZ.hd {b:Nat} {c:Nat->Int}:∀{n},(∀a,a<n->bZ b (c a))->bZ b (hd c n)
 |0,_=>bZ.zero b
 |n+1,d=>(bZ.hd λa e=>d a U).add (d n U)
def og (K:Nat):(2:Int)^K≠0:=by have:(0:Int)<2^K:=jQ aa;omega
def OB {K:Nat} {b T:Int} (i:2*a<=K) (f:T*2^K=d*b) (g:bZ (K-a) d) (h:bZ (K-a) b):bZ (K-2*a) T:=by obtain⟨c,rfl⟩:=g;obtain⟨e,rfl⟩:=h;refine⟨c*e,(wa (og K)).1 ?_⟩;rw[f,e1 (c*e),<-iq,(U:K-2*a+K=(K-a)+(K-a)),iq];generalize(2:Int)^(K-a)=j;simp only[e1,nt,fI]
def EY {K:Nat} (j:K=65536) (g:aW b≠2047) (f:bq b=some d) (l:a+52<=K) (c:2^(K-a)<=d.natAbs):bZ (K-(a+52)) d:=by rw[iP g] at f;cases f;have k:=lZ g;have i:=n9 b;refine(bZ.shl _ _).mono ?_;rw[ez] at c;have h:(dv b).natAbs<2^53:=bN.1 i;have e:2^(K-a)<2^53*2^(dx b+65536).toNat:=qa c (tN h (eT _));rw[<-c4] at e;have:=(Nat.pow_lt_pow_iff_right aa).1 e;omega
def EX {K:Nat} (e:K=65536) (c:aW d≠2047) (a:bq d=some b):bZ (K-1074) b:=by rw[iP c] at a;cases a;have f:=lZ c;exact(bZ.shl _ _).mono U
def OC {b:Int} {K:Nat} (l:K=65536) (a:aW d≠2047) (c:aW b≠2047) {i:Int} (g:bq d=some e) (h:bq b=some i):∃f,kH (bq d) (bq b)=some f/\f*2^K=e*i:=by refine⟨_,Gd a c,?_⟩;rw[iP a] at g;rw[iP c] at h;cases g;cases h;have j:=lZ a;have k:=lZ c;have:(dx d+dx b+65536).toNat+K=(dx d+65536).toNat+(dx b+65536).toNat:=U;rw[e1,<-iq,this,iq];generalize(2:Int)^(dx d+65536).toNat=m;generalize(2:Int)^(dx b+65536).toNat=n;simp only[e1,nt,fI]
def SC (d:2^(c+c)<=a*a):2^c<=a:=by refine Nat.le_of_not_lt λb=>?_;have:=Nat.mul_self_lt_mul_self b;rw[<-c4] at this;exact absurd d (Nat.not_le.2 this)
def Il (d:a*a<=2^(c+c)):a<=2^c:=by refine Nat.le_of_not_lt λb=>?_;have:=Nat.mul_self_lt_mul_self b;rw[<-c4] at this;exact absurd d (Nat.not_le.2 this)
def A2 (b:2^(c+1)<=2*a):2^c<=a:=by rw[hy] at b;omega
def Dr (a b:Int):b.natAbs<=a.natAbs+(a-b).natAbs/\a.natAbs<=b.natAbs+(a-b).natAbs:=by omega
def RQ {K:Nat} (d:K=65536) (f:0<b) (c:2^(K-2044)<=b.natAbs) (e:aW (jc b 0)≠2047):∃a,bq (jc b 0)=some a/\(a*a-b*2^K).natAbs*2^106<=b.natAbs*2^K*2^54+b.natAbs*2^K:=by rw[d] at c|-;exact RP f c e
def FF (d:a<=67600):2^a<=lx:=by obtain⟨b,e,c⟩:∃b:Nat,b=67600/\lx=2^b:=⟨67600,rfl,v2⟩;rw[c];exact e9 _ _ U
def RN {f:Int} {K e b c:Nat} (q:1<=K) (l:2^(K-a)<=f.natAbs) (s:a+1<=2*e) (t:a<=K) (n:f.natAbs<=2^(K+b)) (r:b+1<=2*c) (o:(d*d-f*2^K).natAbs*2^106<=f.natAbs*2^K*2^54+f.natAbs*2^K):2^(K-e)<=d.natAbs/\d.natAbs<=2^(K+c):=by
 have j:=dD (2^K) l;have h:=dD (2^K) n;rw[<-c4] at j h;have k:=Dr (d*d) (f*2^K);rw[ez,jO] at k;generalize(d*d-f*2^K).natAbs=i at*;generalize f.natAbs*2^K=g at*;have p:2*i<=g:=U;constructor
 ·refine SC (bj (e9 _ (K-a+K-1) U) (A2 ?_));rw[(U:K-a+K-1+1=K-a+K)];omega
 refine Il (bj (m:=2*g) U ?_);refine bj (h0 2 h) ?_;rw[<-Nat.pow_succ'];exact e9 _ _ U
def Rl {g:Int} {K b:Nat} (s:2^(K-a)<=e.natAbs) (m:d.natAbs<=2^(K+b)) (A:a+b+2<=1075) (z:a+b+1<=K) (j:(g*d-e*2^K).natAbs*2^1075<=e.natAbs*2^K*2^1022+d.natAbs*2^K):2^(K-(a+b+1))<=g.natAbs/\g.natAbs*d.natAbs<=2*(e.natAbs*2^K):=by obtain⟨f,r⟩:∃f:Nat,f=1022:=⟨_,rfl⟩;rw[(U:(1075:Nat)=f+53),<-r] at j;have k:=dD (2^K) s;have l:=dD (2^K) m;rw[<-c4] at k l;have o:4*(d.natAbs*2^K)<=e.natAbs*2^K*2^(f+53):=(by refine bj (h0 4 l) (bj ?_ (dD _ k));rw[<-c4,(aa:(4:Nat)=2^2),<-c4];exact e9 _ _ U);have p:=Dr (g*d) (e*2^K);rw[ez,jO] at p;generalize(g*d-e*2^K).natAbs=h at*;generalize e.natAbs*2^K=i at*;generalize d.natAbs*2^K=w at*;have t:=eT f;rw[c4,<-gb] at j o;have x:2*h<=i:=(by refine Nat.le_of_mul_le_mul_right (c:=2^f) ?_ t;rw[gb];generalize h*2^f=u at*;generalize i*2^f=v at*;omega);refine⟨Nat.le_of_not_lt λn=>?_,U⟩;have q:g.natAbs*d.natAbs<2^(K-(a+b+1))*2^(K+b):=Nat.mul_lt_mul_of_lt_of_le n m (eT _);rw[<-c4] at q;have y:2^(K-(a+b+1)+(K+b))<=g.natAbs*d.natAbs:=(by refine A2 ?_;rw[(U:K-(a+b+1)+(K+b)+1=K-a+K)];omega);omega
def MA (i:aW b≠2047) (f:bq b=some d) (e:d≠0):ar (aL d).natAbs<=53:=by
 rw[iP i] at f;have a:=dF f;have j:=n9 b;have c:=yO e;rw[<-a,ez] at c;have g:0<(dv b).natAbs:=by
  rcases gG (dv b).natAbs with h|h
  ·have:dv b=0:=U;rw[this,iX] at a;exact absurd a.symm e
  exact h
 rw[g7 g,vS g] at c;rw[<-a];omega
def oD (K b:Nat) (A:Nat->Nat->cK) (n:Nat):Prop:=∀c d,c<n->d<n->∃a,A c d=some a/\bZ (K-56) a/\a.natAbs<=2^(K+b)
section
variable {A:Nat->Nat->cK} {G:cF} {o:cQ} {n J:Nat}
structure hV (A:Nat->Nat->cK) (G:cF) (n J:Nat):Prop where
 sS:n<=5
 nZ:G.length=n
 No:J<=n
 ok:∀m,m<J->eJ A G m=0
def hV.Fc (b:hV A G n J) (f:a<=J):lz A G a:=λe g d c=>EI (b.ok e U) d c
def hV.yi (b:hV A G n J) (d:a<J):aW (bb A (aX G) a c)≠2047:=(b.Fc (aZ _)).fin b.nZ d b.No
def fl (A:Nat->Nat->cK) (G:cF) (b a:Nat):Int:=(bq (bb A (aX G) b a)).getD 0
def dK (A:Nat->Nat->cK) (G:cF) (a b:Nat):Int:=(A b a).getD 0+hd (λc=>je A G c b a) a
def Mn (b:aW (bb A (aX G) c a)≠2047):bq (bb A (aX G) c a)=some (fl A G c a):=by obtain⟨e,d⟩:=yP b;unfold fl;rw[d];rfl
def hV.of (b:hV A G n J) {i:Nat} (c:a<J):bq (bb A (aX G) a i)=some (fl A G a i):=Mn (b.yi c)
def hV.nh (a:hV A G n J) {K:Nat} (f:K=65536) {m x y:Nat} (b:m<J):je A G m x y*2^K=-(fl A G m x*fl A G m y):=by obtain⟨c,d,e⟩:=OC f (a.yi b) (a.yi b) (a.of b (i:=x)) (a.of b (i:=y));unfold je lm;rw[d];show-c*2^K=_;rw[nv,e]
variable {K b:Nat}
def hV.rest (b:hV A G n J) (e:a<=J) (f:a<n) (d:fY 1 (A c a)):gZ A (bb A (aX G)) a c=some (dK A G a c):=Sc (b.Fc e) b.nZ f b.sS d
def oD.DV (j:K=65536) (k:b<=100) (f:oD K b A n) (h:a<n) (i:c<n):fY 1 (A a c):=by obtain⟨d,g,_,e⟩:=f a c h i;refine⟨d,g,bj e ?_⟩;rw[fQ];exact FF U
def y1 (b:gZ A (bb A (aX G)) a a=some (dK A G a a)):(0<dK A G a a->bb A (aX G) a a=jc (dK A G a a) 0)/\(¬0<dK A G a a->eJ A G a=231):=by
 constructor
 ·intro c;rw[m1];unfold kz;rw[ak rfl,b];show(if dK A G a a<0 then _ else if dK A G a a=0 then 0 else jc (dK A G a a) 0)=_;rw[ag U,ag U]
 intro c;refine LR (.inl ?_);rw[b];show dY (dK A G a a)<=0;unfold dY;split
 ·decide
 split<;>omega
def Gw (f:gZ A (bb A (aX G)) a c=some (dK A G a c)) (e:c≠a) (g:bq (bb A (aX G) a a)=some d) (h:d≠0):bb A (aX G) a c=if aX G a c=true then if dK A G a c=0 then 0 else j6 (dK A G a c) d 0 else 0:=by
 have b:bb A (aX G) a c=if aX G a c=true then m5 (some (dK A G a c)) (bq (bb A (aX G) a a)) 0 else 0:=by rw[m1,m1 A (aX G) a a];unfold kz;rw[ag e,ak rfl,f]
 rw[b,g];show(if aX G a c=true then if d=0 then(9221120237041090560:Int) else if dK A G a c=0 then 0 else j6 (dK A G a c) d 0 else 0)=_;rw[ag h]
def EM (b:bb A (aX G) c a=0):fl A G c a=0:=by unfold fl;rw[b,pF];rfl
def hV.HG (j:hV A G n J) (o:K=65536) (l:oD K b A n) {g d:Nat} (v:c<=J) (h:c<n) (f:a<n) (e:∀m,m<c->∀a,a<n->bZ (K-g) (fl A G m a)) (s:2*g<=d) (t:56<=d) (u:d<=K):bZ (K-d) (dK A G c a):=by obtain⟨r,p,k,_⟩:=l a c f h;unfold dK;rw[p];refine(k.mono U).add (bZ.hd λm i=>?_);have q:=j.nh o (m:=m) (x:=a) (y:=c) U;have:=(OB (T:=-je A G m a c) U (by rw[nv,q,Int.neg_neg]) (e m i a f) (e m i c h)).neg;rw[Int.neg_neg] at this;exact this.mono U
def Cy {f:Nat->Int}:∀{n},(∀a,a<n->f a<=0)->hd f n<=0
 |0,_=>mw _
 |n+1,b=>by have:=Cy (f:=f) (n:=n) λa c=>b a U;have:=b n U;rw[hd];omega
def hV.CL (c:hV A G n J) {m x:Nat} (e:m<J):je A G m x x<=0:=by
 obtain⟨K,d⟩:∃K:Nat,K=65536:=⟨_,rfl⟩;have i:=c.nh d (m:=m) (x:=x) (y:=x) e;refine Int.not_lt.1 λb=>?_;have f:(0:Int)<2^K:=jQ aa;have g:=nu b f;have h:0<=fl A G m x*fl A G m x:=by
  rcases Int.le_total 0 (fl A G m x) with a|a
  ·exact kh a a
  exact Int.mul_nonneg_of_nonpos_of_nonpos a a
 omega
def hV.Q8 (g:hV A G n J) (h:oD K b A n) (m:a<=J) (d:a<n) (k:0<dK A G a a):(dK A G a a).natAbs<=2^(K+b):=by obtain⟨c,i,_,j⟩:=h a a d d;have l:dK A G a a<=c:=(by unfold dK;rw[i];have:=Cy (f:=λe=>je A G e a a) (n:=a) λe o=>g.CL U;show c+_<=c;omega);omega
end
end
def QX (j:4503599627370496<=a) (c:-1074<=b) (g:-1074<=b+d) (h:b<=900) (i:b+d<=900):eO f a (b+d) e=eO f a b e+d*4503599627370496:=by unfold eO;rw[ag (U:¬a<4503599627370496),ag (U:¬a<4503599627370496),ag (U:¬b+d+1+1075>=2047),ag (U:¬b+d+1075>=2047),ag (U:¬b+1+1075>=2047),ag (U:¬b+1075>=2047)];unfold fX;split<;>cases f<;>simp<;>omega
def QW {neg:Bool} {u gV:Int} (d:4503599627370496<=a) (e:a<=9007199254740992) (b:-1074<=u) (c:u<=900):u+1075<=aW (eO neg a u gV)/\aW (eO neg a u gV)<=u+1076:=by unfold eO;rw[ag (U:¬a<4503599627370496),ag (U:¬u+1+1075>=2047),ag (U:¬u+1075>=2047)];unfold fX aW;split<;>cases neg<;>simp<;>omega
def HO {neg iO:Bool} {e gV:Int} (f:0<a) (q:-1074<=e+ar a-53) (r:e+ar a-53<=900):∃d:Nat,4503599627370496<=d/\d<=9007199254740992/\gL neg a e iO gV=eO neg d (e+ar a-53) gV/\∀b:Int,-1074<=e+b+ar a-53->gL neg a (e+b) iO gV=eO neg d (e+ar a-53+b) gV:=by
 have h:bd a e=e+ar a-53:=(by unfold bd;omega);have m:=tk (neg:=neg) (iO:=iO) (gV:=gV) (e:=e) f;have k:=jZ f;refine⟨if bd a e<=e then a*2^(e-bd a e).toNat else eI neg a (bd a e-e).toNat iO gV,?_,m,?_,λb s=>?_⟩
 ·rw[h];by_cases c:e+ar a-53<=e
  ·rw[ak c];obtain⟨i,l⟩:=dX (U:0<=e-(e+ar a-53));rw[l,dk];have aj:ar (a*2^i)=53:=(by rw[g7 f];omega);have:=kv.1 (U:52<ar (a*2^i));exact this
  rw[ag c];obtain⟨g,o⟩:=dX (U:0<=(e+ar a-53)-e);rw[o,dk];have j:2^52*2^g<=a:=(by rw[<-c4];exact bj (e9 _ _ U) k.1);have n:4503599627370496<=a/2^g:=(p9 (eT g)).2 j;unfold eI;split
  ·exact n
  split<;>omega
 ·unfold gL;rw[h];split<;>rfl
 have p:bd a (e+b)=e+ar a-53+b:=(by unfold bd;omega);unfold gL;rw[h,p];by_cases c:e+ar a-53<=e
 ·rw[ak c,ak U,(U:e+b-(e+ar a-53+b)=e-(e+ar a-53))]
 rw[ag c,ag U,(U:e+ar a-53+b-(e+b)=e+ar a-53-e)]
def ea (a:Int) (b c:Int):Prop:=c*2^(-a).toNat=b*2^a.toNat
def ea.add {a c:Int} (g:ea b d e) (f:ea b a c):ea b (d+a) (e+c):=by unfold ea at*;rw[Int.add_mul,Int.add_mul,g,f]
def ea.neg (a:ea b d e):ea b (-d) (-e):=by unfold ea at*;rw[nv,nv,a]
def ea.zero (a:Int):ea a 0 0:=by unfold ea;rw[iX,iX]
def ea.tl (a:ea e b d):b=0↔d=0:=by
 unfold ea at a;constructor
 ·rintro rfl;rw[iX] at a;exact(Int.mul_eq_zero.1 a).resolve_right (og _)
 rintro rfl;rw[iX] at a;exact(Int.mul_eq_zero.1 a.symm).resolve_right (og _)
def ea.hd {b:Int} {c d:Nat->Int}:∀{n},(∀a,a<n->ea b (c a) (d a))->ea b (hd c n) (hd d n)
 |0,_=>ea.zero b
 |n+1,e=>(ea.hd λa f=>e a U).add (e n U)
def BM (g:b≠0) (a:Nat):aL (b*2^a)=aL b/\a6 (b*2^a)=a6 b+a:=by
 have f:a9 (b*2^a).natAbs=a9 b.natAbs+a:=(by rw[ez,vS U]);constructor
 ·have c:=lg (b*2^a);have d:=lg b;rw[f,iq,<-e1] at c;have e:=(wa (og a)).1 c;exact(wa (og (a9 b.natAbs))).1 (e.trans d.symm)
 unfold a6;omega
def ea.sX (c:ea d b e) (h:b≠0):aL e=aL b/\a6 e=a6 b+d/\decide (e<0)=decide (b<0)/\(ar e.natAbs:Int)=ar b.natAbs+d:=by
 have k:e≠0:=λi=>h (c.tl.2 i);have a:=BM k (-d).toNat;have f:=BM h d.toNat;have g:e*2^(-d).toNat=b*2^d.toNat:=c;rw[g] at a;have aj:aL e=aL b:=a.1.symm.trans f.1;have l:=a.2.symm.trans f.2;refine⟨aj,U,?_,?_⟩
 ·rw[decide_eq_decide,<-l7,<-l7 (v:=b),aj]
 have j:ar (e*2^(-d).toNat).natAbs=ar (b*2^d.toNat).natAbs:=(by rw[g]);rw[ez,ez,g7 U,g7 U] at j;omega
def ye {x:Int} (a:x≠0):a6 x+ar (aL x).natAbs=(ar x.natAbs:Int)-65536:=by have b:=yO a;have c:=ov (n:=x.natAbs) U;unfold a6;omega
def Lo {N:Nat} (b:0<a) (d:ar a<ar N):ar N<=ar (N/a)+ar a/\ar (N/a)+ar a<=ar N+1:=by
 have i:0<N:=by
  rcases gG N with c|c
  ·rw[c] at d;exact absurd d (by show¬_<0;omega)
  exact c
 obtain⟨e,f⟩:=jZ i;obtain⟨g,h⟩:=jZ b;have j:=lN b;constructor
 ·have:2^(ar N-1-ar a)<=N/a:=by
   rw[p9 b];refine bj (h0 _ (Nat.le_of_lt h)) ?_;rw[<-c4];exact bj (e9 _ _ U) e
  have:=kv.2 this;omega
 have:N/a<2^(ar N-ar a+1):=(by rw[wg b];refine fA f (bj ?_ (h0 _ g));rw[<-c4];exact e9 _ _ U);have:=bN.2 this;omega
def Nm {N:Nat} (g:0<N):ar N<=2*ar (bF N)/\2*ar (bF N)<=ar N+1/\0<bF N:=by
 obtain⟨f,e⟩:=qX N;have b:0<bF N:=by
  rcases gG (bF N) with a|a
  ·rw[a] at e;omega
  exact a
 obtain⟨c,d⟩:=jZ b;obtain⟨h,i⟩:=jZ g;have j:=lN b;refine⟨?_,?_,b⟩
 ·refine bN.2 (fA e ?_);rw[Nat.two_mul,c4];exact gO d d
 have:2^(ar (bF N)-1+(ar (bF N)-1))<=N:=(by rw[c4];exact bj (gO c c) f);have:=kv.2 this;omega
def Rn {o p k l:Int} (j:b≠0) (m:d≠0) (r:ea l b o) (s:ea (l-k) d p) (L:-20<=k) (M:k<=20) (J:(ar d.natAbs:Int)<=ar b.natAbs+980) (K:(ar b.natAbs:Int)<=ar d.natAbs+860):∃(f:Nat) (h:Int),j6 b d 0=eO (decide (b<0)!=decide (d<0)) f h 0/\j6 o p 0=eO (decide (b<0)!=decide (d<0)) f (h+k) 0/\4503599627370496<=f/\f<=9007199254740992/\-1040<=h/\h<=820:=by
 obtain⟨B,C,D,_⟩:=r.sX j;obtain⟨E,F,G,_⟩:=s.sX m;have H:=ye j;have I:=ye m;have t:0<(aL b).natAbs:=(by have:=ho j;omega);have u:0<(aL d).natAbs:=(by have:=ho m;omega);unfold j6;rw[B,E,D,G,C,F,(U:a6 b+l-(a6 d+(l-k))=a6 b-a6 d+k)];have O:kJ (aL b).natAbs (aL d).natAbs=59+ar (aL d).natAbs-ar (aL b).natAbs:=rfl;unfold s6;generalize kJ (aL b).natAbs (aL d).natAbs=a at*;generalize(aL b).natAbs=c at*;generalize(aL d).natAbs=g at*;have w:ar (c*2^a)=ar c+a:=g7 t a;have n:=Lo (N:=c*2^a) u U;rw[w] at n;have v:0<c*2^a/g:=by
  rcases gG (c*2^a/g) with i|i
  ·rw[i,show ar 0=0 from rfl] at n;omega
  exact i
 generalize c*2^a/g=q at*;obtain⟨f,x,y,z,A⟩:=HO (neg:=decide (b<0)!=decide (d<0)) (iO:=decide (c*2^a %g≠0)) (gV:=0) (e:=a6 b-a6 d-a) v U U;refine⟨f,a6 b-a6 d-a+ar q-53,z,?_,x,y,U,U⟩;have:=A k U;rwa[(U:a6 b-a6 d-a+k=a6 b-a6 d+k-a)] at this
def RS {dz:Int} (D:0<b) (k:ea (2*d) b dz) (A:-20<=d) (B:d<=20) (y:63600<=ar b.natAbs) (z:ar b.natAbs<=67000):∃(c:Nat) (h:Int),jc b 0=eO false c h 0/\jc dz 0=eO false c (h+d) 0/\4503599627370496<=c/\c<=9007199254740992/\-1040<=h/\h<=820:=by obtain⟨t,u,F,_⟩:=k.sX U;have w:=ye (x:=b) U;have i:0<(aL b).natAbs:=(by have:=ho (v:=b) U;omega);unfold jc s8;rw[t,u];have n:hb (aL b).natAbs (a6 b+2*d)=hb (aL b).natAbs (a6 b):=(by unfold hb;rw[(U:(a6 b+2*d-((118-ar (aL b).natAbs:Nat):Int)) %2=(a6 b-((118-ar (aL b).natAbs:Nat):Int)) %2)]);have C:(a6 b-(hb (aL b).natAbs (a6 b):Nat)) %2=0:=(by unfold hb;split<;>omega);rw[n];generalize hb (aL b).natAbs (a6 b)=a at*;generalize(aL b).natAbs=g at*;have l:ar (g*2^a)=ar g+a:=g7 i a;have j:=Nm (N:=g*2^a) (Nat.mul_pos i (eT a));rw[l] at j;obtain⟨ao,E,s⟩:=j;have m:(a6 b+2*d-a)/2=(a6 b-a)/2+d:=U;rw[m];generalize g*2^a=f at*;obtain⟨c,o,p,q,r⟩:=HO (neg:=false) (iO:=decide (bF f*bF f≠f)) (gV:=0) (e:=(a6 b-a)/2) s U U;exact⟨c,(a6 b-a)/2+ar (bF f)-53,q,r d U,o,p,U,U⟩
def qc (b a:Int):Prop:=1<=aW a/\aW a<=1950/\1<=aW a+b/\aW a+b<=1950
def ko (c a b:Int):Prop:=(a=0/\b=0)\/(qc c a/\b=a+c*4503599627370496)
def ko.pack (i:-20<=d) (j:d<=20) (c:4503599627370496<=a) (e:a<=9007199254740992) (g:-1040<=b) (h:b<=820):qc d (eO f a b 0)/\eO f a (b+d) 0=eO f a b 0+d*4503599627370496:=by have k:=QW (neg:=f) (gV:=0) c e (u:=b) U U;exact⟨⟨U,U,U,U⟩,QX c U U U U⟩
def EZ (a:dr b):b=aW b*4503599627370496+db b+(if 9223372036854775808<=b then 9223372036854775808 else 0):=by obtain⟨c,d⟩:=a;unfold aW db;split<;>omega
def u1 (f:dr b) (e:qc d b):dr (b+d*4503599627370496)/\aW (b+d*4503599627370496)=aW b+d/\db (b+d*4503599627370496)=db b/\(9223372036854775808<=b+d*4503599627370496↔9223372036854775808<=b):=by
 obtain⟨h,i,j,k⟩:=e;have c:=EZ f;have l:=pe b;generalize aW b=g at*;generalize db b=m at*;unfold dr aW db;by_cases a:9223372036854775808<=b
 ·rw[ak a] at c;omega
 rw[ag a] at c;omega
def F9 (c:1<=aW b):4503599627370496<=(dv b).natAbs/\(dv b).natAbs<9007199254740992/\((dv b).natAbs:Int)=db b+4503599627370496/\(dv b<0↔9223372036854775808<=b):=by have d:=pe b;have a:¬aW b=0:=U;unfold dv;rw[ag a];split<;>omega
def CW (k:dr b) (e:qc d b):∃a h,bq b=some a/\bq (b+d*4503599627370496)=some h/\ea d a h/\a≠0:=by
 obtain⟨ao,f,l,g⟩:=u1 k e;obtain⟨j,n,o,p⟩:=e;refine⟨_,_,iP U,iP U,?_,tB ?_ (og _)⟩
 ·have aj:dv (b+d*4503599627370496)=dv b:=by
   unfold dv;rw[f,l,ag (U:¬aW b+d=0),ag (U:¬aW b=0)];by_cases c:9223372036854775808<=b
   ·rw[ag (show¬b+d*4503599627370496<9223372036854775808 by have:=g.2 c;omega),ag U]
   rw[ak (show b+d*4503599627370496<9223372036854775808 by have:=mt g.1 c;omega),ak U]
  have i:dx (b+d*4503599627370496)=dx b+d:=(by unfold dx;rw[f,ag U,ag U];omega);have m:dx b=aW b-1075:=(by unfold dx;rw[ag U]);rw[aj,i];unfold ea;rw[e1,e1,<-iq,<-iq];congr 2;omega
 have:=F9 j;omega
def RH (m:dr b) (l:1<=aW b) (s:aW b<=1950) (f:bq b=some d):kM d 0=b:=by
 obtain⟨h,i,j,k⟩:=F9 l;rw[iP U] at f;have t:dx b=aW b-1075:=(by unfold dx;rw[ag U]);have c:dv b≠0:=U;obtain rfl:=dF f;have p:dv b*2^(dx b+65536).toNat≠0:=tB c (og _);obtain⟨g,q⟩:=BM c (dx b+65536).toNat;have n:decide (dv b*2^(dx b+65536).toNat<0)=decide (9223372036854775808<=b):=(by rw[decide_eq_decide,<-l7,g,l7,k]);have ao:=ye c;have r:(aL (dv b)).natAbs*2^a9 (dv b).natAbs=(dv b).natAbs:=(by have:=congrArg Int.natAbs (lg (dv b));rwa[ez] at this);have u:a6 (dv b)=(a9 (dv b).natAbs:Int)-65536:=rfl;have v:ar (dv b).natAbs=53:=(by have:=bN.2 (show(dv b).natAbs<2^53 from i);have:=kv.2 (show 2^52<=(dv b).natAbs from h);omega);unfold kM;rw[ag p,n,g,q];have o:bd (aL (dv b)).natAbs (a6 (dv b)+((dx b+65536).toNat:Int))=dx b:=(by unfold bd;omega);unfold gL;rw[o,ak U,(U:(a6 (dv b)+((dx b+65536).toNat:Int)-dx b).toNat=a9 (dv b).natAbs),r];unfold eO;rw[ag U,ag U,ag U,j];have e:=EZ m;unfold fX;by_cases a:9223372036854775808<=b
 ·rw[ak a] at e;rw[aB a,ak rfl];omega
 rw[ag a] at e;rw[az a,ag aa];omega
def Sa (c:b≠0) (i:-60000<=a6 b) (k:-40<=e) (l:e<=40) (j:ar b.natAbs<=130000) (f:ea e b d):H4 (some b) e=some d:=by show(if b=0 then some 0 else eg (aL b) (a6 b+e))=some d;rw[ag c];obtain⟨g,h,_,m⟩:=f.sX c;have a:=vr (x:=d) (sr d);rw[g,h] at a;rw[sO (v:=d) U a];unfold ky;rw[ak];unfold e4;omega
def Hv (c:dr b) (a:iM b=0) (d:Int):lV (b,d,0,())=some (b,()):=by
 unfold lV;refine aq (y:=(false,())) ?_ ?_
 ·unfold xU;refine aq (zd c) ?_;rw[a];rfl
 dsimp only;rw[cond_false];refine aq (zd c) ?_;rw[a];rfl
def Hu (a:dr d) (c:qc b d) (m:-40<=b) (n:b<=40):lV (d,b,0,())=some (d+b*4503599627370496,()):=by
 obtain⟨k,l,v1,dz,o,v4⟩:=CW a c;obtain⟨ao,u,v,w⟩:=u1 a c;obtain⟨q,r,s,t⟩:=c;have h:iM d=1:=(by unfold iM;rw[ag U,ag (λp=>by omega)]);have f:=l8 d;rw[v1] at f;have j:-60000<=a6 k/\ar k.natAbs<=130000:=(by have g:aW d≠2047:=U;have aj:=(EX (K:=65536) rfl g v1).ex v4;obtain⟨x,i,e⟩:=fY.AT g;rw[v1] at i;obtain rfl:=dF i;refine⟨U,?_⟩;rw[fQ,v2] at e;have:=bN.2 (qa e (s2 67600 67601 aa));omega);unfold lV;refine aq (y:=(false,())) ?_ ?_
 ·unfold xU;refine aq (zd a) ?_;rw[h];rfl
 dsimp only;rw[cond_false];refine aq (zd a) ?_;rw[h];dsimp only;rw[bR (show((1:Int)!=1)=false from rfl)];refine aq (HR a) ?_;rw[v1];dsimp only;rw[show(if(if b<5000 then b else 5000)>(-5000:Int) then if b<5000 then b else 5000 else(-5000:Int))=b by rw[if_pos (U:b<5000),if_pos U]];refine aq (RY f U U) ?_;rw[Sa v4 j.1 m n j.2 o];refine aq (Cv ?_) ?_
 ·rw[<-dz];exact l8 _
 show some (kM l 0,())=_;rw[RH ao U U dz]
def ko.val (a:ko e b d) (f:dr b):aW b≠2047/\aW d≠2047/\∃x c,bq b=some x/\bq d=some c/\ea e x c:=by
 rcases a with⟨rfl,rfl⟩|⟨a,rfl⟩
 ·exact⟨aa,aa,0,0,pF,pF,ea.zero e⟩
 obtain⟨ao,l,m,n⟩:=u1 f a;obtain⟨x,c,v1,dz,g,_⟩:=CW f a;obtain⟨h,i,j,k⟩:=a;exact⟨U,U,x,c,v1,dz,g⟩
def ko.scale (a:ko b d e) (c:dr d) (f:-40<=b) (g:b<=40):lV (d,b,0,())=some (e,()):=by
 rcases a with⟨rfl,rfl⟩|⟨a,rfl⟩
 ·exact Hv c aa b
 exact Hu c a f g
section
def ea.mul {k g h i:Int} {K:Nat} (q:ea k e g) (p:ea k h i) (aj:b*2^K=e*h) (o:d*2^K=g*i):ea (2*k) b d:=by unfold ea at*;rw[(U:(-(2*k)).toNat=(-k).toNat+(-k).toNat),(U:(2*k).toNat=k.toNat+k.toNat),iq,iq];refine(wa (og K)).1 ?_;generalize(2:Int)^(-k).toNat=c at*;generalize(2:Int)^k.toNat=a at*;generalize(2:Int)^K=f at*;have j:d*(c*c)*f=d*f*(c*c):=(by simp only[e1,nt,fI]);have l:b*(a*a)*f=b*f*(a*a):=(by simp only[e1,nt,fI]);have m:g*i*(c*c)=g*c*(i*c):=(by simp only[e1,nt,fI]);have n:e*h*(a*a)=e*a*(h*a):=(by simp only[e1,nt,fI]);rw[j,l,aj,o,m,n,q,p]
def js (j:Nat):Nat:=[4,124,364,844,1804].getD j 0
def jt (j:Nat):Nat:=[3,63,183,423,903].getD j 0
def jI (j:Nat):Nat:=[9,19,89,279,709].getD j 0
def CJ:∀j,j<5->js j+1<=2*jt j/\js j<=1900/\jt j<=js j/\9<=jI j/\(j<4->js j<=850/\jI j+jt j<=850/\js (j+1)=2*(js j+58)/\jI (j+1)=jI j+jt j+7):=by decide
def Is:∀j,j<5->∀a,a<j->2*(js a+58)<=js j/\jI a+jt a+7<=jI j/\56<=js j:=by decide
def Lt {K:Nat} (d:K=65536) (a:bZ (K-2148) b) (c:b≠0):-60000<=a6 b:=by have:=a.ex c;omega
section
variable {A B:Nat->Nat->cK} {G:cF} {n j K:Nat} {k:Int}
structure pW (K:Nat) (k:Int) (A B:Nat->Nat->cK) (n:Nat):Prop where
 a:oD K 9 A n
 b:∀i j,i<n->j<n->fY 1 (B i j)
 kR:∀i j,i<n->j<n->∃x y,A i j=some x/\B i j=some y/\ea (2*k) x y
 lo:∀i j,i<n->j<n->∀x,A i j=some x->x≠0->2^(K-4)<=x.natAbs
structure jR (K:Nat) (k:Int) (A B:Nat->Nat->cK) (G:cF) (n j:Nat):Prop where
 gJ:hV A G n j
 sw:hV B G n j
 kR:∀m,m<j->∀i,i<n->ko k (bb A (aX G) m i) (bb B (aX G) m i)
 A1:∀m,m<j->∀i,i<n->bZ (K-(js m+58)) (fl A G m i)
 up:∀m,m<j->∀i,i<n->(fl A G m i).natAbs<=2^(K+(jI m+jt m+1))
def jR.rs (b:jR K k A B G n j) (d:K=65536) (s:pW K k A B n) (h:j<n) (g:a<n):ea (2*k) (dK A G j a) (dK B G j a):=by obtain⟨x,y,p,q,r⟩:=s.kR a j g h;unfold dK;rw[p,q];refine r.add (ea.hd λm c=>?_);obtain⟨_,_,C,E,t,u,v⟩:=(b.kR m c a g).val (m0 _ _ _ _);obtain⟨_,_,D,F,ao,w,z⟩:=(b.kR m c j h).val (m0 _ _ _ _);have e:=b.gJ.nh d (m:=m) (x:=a) (y:=j) c;have f:=b.sw.nh d (m:=m) (x:=a) (y:=j) c;have aj:fl A G m a=C:=(by unfold fl;rw[t];rfl);have i:fl A G m j=D:=(by unfold fl;rw[ao];rfl);have l:fl B G m a=E:=(by unfold fl;rw[u];rfl);have o:fl B G m j=F:=(by unfold fl;rw[w];rfl);rw[aj,i,<-nv] at e;rw[l,o,<-nv] at f;exact ea.mul v.neg z e f
def jR.lo (e:jR K k A B G n j) (s:K=65536) (l:pW K k A B n) (m:j<n) {b:Nat} (c:b<n) (i:dK A G j b≠0):2^(K-js j)<=(dK A G j b).natAbs:=by
 have v:=e.gJ.sS;rcases gG j with g|g
 ·subst g;obtain⟨h,_,o,_⟩:=l.kR b 0 c m;have r:dK A G 0 b=h:=(by unfold dK;rw[o];show h+0=h;omega);rw[r] at i|-;exact l.lo b 0 c m h o i
 have t:=Is j U (j-1) U;have u:=(CJ j U).2.1;refine(e.gJ.HG (g:=js (j-1)+58) (d:=js j) s l.a (aZ _) m c (λf p b c=>?_) U U U).ge i;rcases bi f (j-1) with q|q
 ·have:=Is (j-1) U f q;exact(e.A1 f p b c).mono U
 obtain rfl:f=j-1:=U;exact e.A1 _ p b c
def H3 {f:Nat->Int}:∀{n},(∀a,a<n->f a<=0)->∀a,a<n->hd f n<=f a
 |0,_,_,b=>absurd b U
 |n+1,c,a,b=>by
  rw[hd];rcases bi a n with d|d
  ·have:=H3 (f:=f) (n:=n) (λa b=>c a U) a d;have:=c n U;omega
  obtain rfl:a=n:=U;have:=Cy (f:=f) (n:=a) λa b=>c a U;omega
def jR.row (c:jR K k A B G n j) (q:K=65536) (p:pW K k A B n) (i:j<n) (d:0<dK A G j j) {m:Nat} (b:m<j):(fl A G m j).natAbs<=2^(K+5):=by obtain⟨e,r,_,l⟩:=p.a j j i i;have s:=H3 (f:=λm=>je A G m j j) (n:=j) (λm b=>c.gJ.CL b) m b;have t:=c.gJ.CL (m:=m) (x:=j) b;have u:0<e+hd (λm=>je A G m j j) j:=(by unfold dK at d;rw[r] at d;exact d);have o:(je A G m j j).natAbs<=2^(K+9):=bj (m:=e.natAbs) U l;have g:=congrArg Int.natAbs (c.gJ.nh q (m:=m) (x:=j) (y:=j) b);rw[ez,oF,jO] at g;have h:=dD (2^K) o;rw[g,<-c4] at h;exact Il (bj h (e9 _ _ U))
def S6 (f:d.natAbs<=2^c) (g:b.natAbs<=2^a) (e:c<=a):(d+b).natAbs<=2^(a+1):=by have:=e9 c a e;rw[hy];omega
def jR.hi (e:jR K k A B G n j) (o:K=65536) (l:pW K k A B n) (q:j<n) (u:0<dK A G j j) {b:Nat} (p:b<n):(dK A G j b).natAbs<=2^(K+jI j):=by
 have D:=e.gJ.sS;obtain⟨f,s,_,r⟩:=l.a b j p q;unfold dK;rw[s];show(f+hd (λm=>je A G m b j) j).natAbs<=_;have v:∀m,m<j->(je A G m b j).natAbs<=2^(K+(jI m+jt m+6)):=λm g=>(by have h:=congrArg Int.natAbs (e.gJ.nh o (m:=m) (x:=b) (y:=j) g);rw[ez,oF,jO] at h;have i:=gO (e.up m g b p) (e.row o l q u g);rw[<-h,<-c4] at i;refine Nat.le_of_mul_le_mul_right (c:=2^K) ?_ (eT K);rw[<-c4];exact bj i (e9 _ _ U));suffices t:∀d,d<=j->(f+hd (λm=>je A G m b j) d).natAbs<=2^(K+jI d) from t j (aZ _);intro d
 induction d with
 |zero=>
  intro _;show(f+0).natAbs<=2^(K+9);rw[Int.add_zero];exact r
 |succ d w=>
  intro C;rw[hd,<-Int.add_assoc];have z:=((CJ d U).2.2.2.2 U).2.2.2;rw[z];have:=S6 (w U) (v d U) U;exact bj this (e9 _ _ U)
def z5 (c:2^a<=b.natAbs):a<ar b.natAbs:=kv.2 c
def z2 (c:b.natAbs<=2^a):ar b.natAbs<=a+1:=by refine bN.2 (qa c ?_);exact s2 a (a+1) U
def FA (c:1<=aW b):iM b≠0:=by
 unfold iM;split
 ·split<;>decide
 rw[ag (λa=>by omega)];decide
def jR.step (i:jR K k A B G n j) (o:K=65536) (y:-20<=k) (z:k<=20) (r:pW K k A B n) (m:j<n) (v:0<dK A G j j):jR K k A B G n (j+1):=by
 have gc:=i.gJ.sS;have O:∀d,d<n->bZ (K-2148) (dK A G j d):=λd f=>i.gJ.HG (g:=1074) o r.a (aZ _) m f (λp Q d f=>EX o (i.gJ.yi Q) (i.gJ.of Q)) U U U;obtain⟨fz,gl,go,gf,fT⟩:=CJ j U;have S:∀d,d<n->gZ A (bb A (aX G)) j d=some (dK A G j d):=λd f=>i.gJ.rest (aZ _) m (r.a.DV o aa f m);have T:∀d,d<n->gZ B (bb B (aX G)) j d=some (dK B G j d):=λd f=>i.sw.rest (aZ _) m (r.b d j f m);have w:∀d,d<n->ea (2*k) (dK A G j d) (dK B G j d):=λd f=>i.rs o r m f;have P:=i.lo o r m m U;have a3:=i.gJ.Q8 r.a (aZ _) m v;have eq:=(w j m).sX U;have a0:0<dK B G j j:=(by have N:=eq.2.2.1;rw[decide_eq_decide] at N;have an:dK B G j j≠0:=λJ=>(by have:=(w j m).tl.2 J;omega);omega);have H:=(y1 (S j m)).1 v;have ad:=(y1 (T j m)).1 a0;obtain⟨f3,gt,cs,cv,dl,aT,ds,d0⟩:=RS v (w j m) y z (by have:=z5 P;omega) (by have:=z2 a3;omega);have ap:ko k (bb A (aX G) j j) (bb B (aX G) j j):=(by rw[H,ad,cs,cv];exact .inr (ko.pack y z dl aT ds d0));have I:qc k (bb A (aX G) j j)/\bb B (aX G) j j=bb A (aX G) j j+k*4503599627370496:=(by rw[H,ad,cs,cv];exact ko.pack y z dl aT ds d0);obtain⟨M,f2,F,f0,v1,dz,d1⟩:=ap.val (m0 _ _ _ _);have am:=M;rw[H] at am;obtain⟨d5,x,em⟩:=RQ o v (bj (e9 _ _ U) P) am;rw[<-H,v1] at x;obtain rfl:=dF x;have u:=RN (c:=5) (e:=jt j) U P fz U a3 aa em;have C:F≠0:=(by have:=eT (K-jt j);omega);have ex:f0≠0:=λJ=>C (d1.tl.2 J);have bl:fl A G j j=F:=(by unfold fl;rw[v1];rfl);have D:∀d,d<n->ko k (bb A (aX G) j d) (bb B (aX G) j d)/\bZ (K-(js j+58)) (fl A G j d)/\(fl A G j d).natAbs<=2^(K+(jI j+jt j+1)):=by
  intro d f;by_cases R:d=j
  ·subst R;refine⟨ap,?_,?_⟩
   ·rw[bl];exact(EY o M v1 U u.1).mono U
   rw[bl];exact bj u.2 (e9 _ _ U)
  have q:=Gw (S d f) R v1 C;have t:=Gw (T d f) R dz ex;have ce:bb A (aX G) j d=0->bb B (aX G) j d=0->ko k (bb A (aX G) j d) (bb B (aX G) j d)/\bZ (K-(js j+58)) (fl A G j d)/\(fl A G j d).natAbs<=2^(K+(jI j+jt j+1)):=λX f1=>by
   refine⟨.inl ⟨X,f1⟩,?_,?_⟩
   ·rw[EM X];exact bZ.zero _
   rw[EM X];exact eU _
  by_cases g:aX G j d=true
  rotate_left
  ·rw[ag g] at q t;exact ce q t
  rw[ak g] at q t;by_cases s:dK A G j d=0
  ·rw[ak s] at q;rw[ak ((w d f).tl.1 s)] at t;exact ce q t
  rw[ag s] at q;rw[ag (mt (w d f).tl.2 s)] at t;obtain⟨ge,E⟩:=Cf.1 g;have f5:j<d:=by
   rcases E with E|⟨E,_⟩
   ·exact absurd E.symm U
   exact E
  obtain⟨gr,gs,_⟩:=fT U;have ci:=i.lo o r m f s;have co:=i.hi o r m v f;have f6:=z5 ci;have f7:=z2 co;have f8:=z5 u.1;have f9:=z2 u.2;obtain⟨f4,hc,fa,fb,fn,fp,fs,ft⟩:=Rn (k:=k) (l:=2*k) s C (w d f) (by rw[(U:2*k-k=k)];exact d1) y z U U;have a4:ko k (bb A (aX G) j d) (bb B (aX G) j d):=(by rw[q,t,fa,fb];exact .inr (ko.pack y z fn fp fs ft));obtain⟨d2,_,d4,hr,W,bL,_⟩:=a4.val (m0 _ _ _ _);have O:=O d f;have d3:=d2;rw[q] at d3;obtain⟨d5,x,av⟩:=Rm s C (Lt o O s) (MA M v1 C) d3;rw[<-q,W] at x;obtain rfl:=dF x;have bs:fl A G j d=d4:=(by unfold fl;rw[W];rfl);rw[<-o] at av;obtain⟨d6,d7⟩:=Rl ci u.2 U U av;refine⟨a4,?_,?_⟩
  ·rw[bs];exact(EY o d2 W U d6).mono U
  rw[bs];refine Nat.le_of_not_lt λh=>?_;have Y:=h0 2 (dD (2^K) co);have Z:2^(K+(jI j+jt j+1))*2^(K-jt j)<d4.natAbs*F.natAbs:=fA (tN h (eT _)) (h0 _ u.1);rw[<-c4,<-Nat.pow_succ'] at Y;rw[<-c4] at Z;have d8:=e9 (K+jI j+K+1) (K+(jI j+jt j+1)+(K-jt j)) U;exact absurd (qa (bj d7 (bj Y d8)) Z) (Nat.lt_irrefl _)
 have d9:eJ A G j=0:=by
  refine yc (λh=>?_) λF V=>?_
  ·rcases h with h|h
   ·rw[S j m] at h;have h:dY (dK A G j j)<=0:=h;rw[zj v] at h;exact absurd h aa
   exact FA I.1.1 h
  obtain⟨d,rfl,f,_,_⟩:=r3 V;rw[dk];exact((D d (by rw[<-i.gJ.nZ];exact f)).1.val (m0 _ _ _ _)).1
 have el:eJ B G j=0:=by
  refine yc (λh=>?_) λF V=>?_
  ·rcases h with h|h
   ·rw[T j m] at h;have h:dY (dK B G j j)<=0:=h;rw[zj a0] at h;exact absurd h aa
   refine FA ?_ h;rw[I.2];have:=(u1 (m0 A (aX G) j j) I.1).2.1;have:=I.1.2.2.1;omega
  obtain⟨d,rfl,f,_,_⟩:=r3 V;rw[dk];exact((D d (by rw[<-i.gJ.nZ];exact f)).1.val (m0 _ _ _ _)).2.1
 have ext:∀{L:Nat->Prop},(∀p,p<j->L p)->L j->∀p,p<j+1->L p:=λN an p Q=>by
  rcases bi p j with h|h
  ·exact N p h
  obtain rfl:p=j:=U;exact an
 exact⟨⟨i.gJ.sS,i.gJ.nZ,m,ext i.gJ.ok d9⟩,⟨i.gJ.sS,i.gJ.nZ,m,ext i.sw.ok el⟩,ext i.kR λd f=>(D d f).1,ext i.A1 λd f=>(D d f).2.1,ext i.up λd f=>(D d f).2.2⟩
def jR.all (i:K=65536) (s:-20<=k) (t:k<=20) (q:n<=5) (l:G.length=n) (h:pW K k A B n):∀j,j<=n->jR K k A B G n j\/∃e,e<n/\eJ A G e=231/\eJ B G e=231/\∀g,g<e->eJ A G g=0/\eJ B G g=0:=by
 intro j
 induction j with
 |zero=>exactλ_=>.inl ⟨⟨q,l,U,λe d=>absurd d U⟩,⟨q,l,U,λe d=>absurd d U⟩,λe d=>absurd d U,λe d=>absurd d U,λe d=>absurd d U⟩
 |succ j v=>
  intro c;rcases v U with f|f
  ·by_cases o:0<dK A G j j
   ·exact .inl (f.step i s t h c o)
   have p:=f.rs i h c c;have u:¬0<dK B G j j:=by
    by_cases r:dK A G j j=0
    ·have:=p.tl.1 r;omega
    have:=(p.sX r).2.2.1;rw[decide_eq_decide] at this;omega
   exact .inr ⟨j,c,(y1 (f.gJ.rest (aZ _) c (h.a.DV i aa c c))).2 o,(y1 (f.sw.rest (aZ _) c (h.b j j c c))).2 u,λg m=>⟨f.gJ.ok g m,f.sw.ok g m⟩⟩
  exact .inr f
end
end
section
def Ga (b:a<c) (d:c<=1000):gU (a:Int) c=a:=by unfold gU;rw[nr U U,nr U U,dk]
def Lh (R:a<=100) (S:1<=c) (b:cC) (r:b.length<=5) (q:∀e∈b,∃f,ff a c f/\e=mL (bq f)):ff (a+4) c (j7 (fc (gS 1::b)) 2):=by
 obtain⟨K,P⟩:∃K:Nat,K=65536:=⟨_,rfl⟩;have t:gS 1=some (2^K):=(by unfold gS;rw[sO (v:=2^K) aa (by rw[(U:((0:Int)+65536).toNat=K),Int.one_mul])];unfold ky;rw[ak];unfold e4;have:=ez 1 K;rw[Int.one_mul] at this;rw[this,g7 aa];have:ar (1:Int).natAbs=1:=aa;omega);have D:(∀e∈b,fY 1 e)/\bZ (K-56) (dt b)/\0<=dt b/\(dt b).natAbs<=b.length*2^(K+a):=by
  clear r
  induction b with
  |nil=>exact⟨ab,bZ.zero _,mw _,by simp[dt]⟩
  |cons e b G=>
   obtain⟨l,n,A,B⟩:=G λp h=>q p (by simp[h]);obtain⟨f,g,rfl⟩:=q e ab;obtain⟨d,w⟩:=yP g.2.1;obtain⟨H,x,_⟩:=g.2.2 d w;have x:d.natAbs<=2^(K+a):=bj x (e9 _ _ U);have j:dt (mL (bq f)::b)=(d.natAbs:Int)+dt b:=(by rw[w];rfl);refine⟨λp h=>?_,?_,?_,?_⟩
   ·rcases dw.1 h with rfl|h
    ·exact(fY.AT g.2.1).abs
    exact l p h
   ·rw[j];refine bZ.add ?_ n;have y:bZ (K-56) d:=H.mono U;rcases Int.natAbs_eq d with z|z
    ·rw[<-z];exact y
    have:=y.neg;rwa[(U:-d=(d.natAbs:Int))] at this
   ·rw[j];omega
   rw[j,g2,fy,fQ];omega
 obtain⟨l,n,A,B⟩:=D;have T:(0:Int)<2^K:=jQ aa;have E:fc (gS 1::b)=some (2^K+dt b):=by
  refine(Iq (k:=1) (λe o=>?_) (by simp;omega)).1.trans ?_
  ·rcases dw.1 o with rfl|o
   ·rw[t];refine⟨_,rfl,?_⟩;rw[Int.natAbs_pow,fQ];exact FF U
   exact l e o
  rw[t];rfl
 have V:((2:Int)^K).natAbs=2^K:=Int.natAbs_pow 2 K;have W:=e9 K (K+a) U;have O:b.length*2^(K+a)<=5*2^(K+a):=dD _ r;have Q:2^K<=(2^K+dt b).natAbs/\(2^K+dt b).natAbs<=6*2^(K+a):=U;have F:2^K+dt b≠0:=U;have s:bZ (K-56) (2^K+dt b):=bZ.add ⟨2^56,by rw[<-iq,(U:56+(K-56)=K)]⟩ n;rw[E];generalize 2^K+dt b=i at*;have C:ar i.natAbs<=65536+900:=(by have I:i.natAbs<2^(K+a+3):=(by have:=eT (K+a);rw[c4];omega);have:=bN.2 I;omega);obtain⟨ao,d,J,L,X,Y⟩:=HM 2 F (s.mono U) C;refine⟨HL _ _,ao,λf g=>?_⟩;have u:bq (kM i 2)=some f:=g;rw[J] at u;obtain rfl:=dF u;have M:=L _ s;refine⟨M.mono U,?_,λN=>?_⟩
 ·refine bj (m:=2^4*2^(K+a)) U ?_;rw[<-c4];exact e9 _ _ U
 refine bj (e9 (65536-c) (K-1) U) (A2 ?_);rw[(U:K-1+1=K)];omega
def oD.of {K:Nat} (l:K=65536) {E:List bp} (g:∀k∈E,ff a c k.2.2.1) (o:cQ) (n:Nat):oD K a (bc E o) n:=by intro i e _ _;have b:=CV (P:=ff a c) (ff.zero a c) g (ij (o.getD i 0) (o.getD e 0)) (ik (o.getD i 0) (o.getD e 0));obtain⟨f,d⟩:=yP b.2.1;obtain⟨h,j,_⟩:=b.2.2 f d;exact⟨f,d,h.mono U,bj j (e9 _ _ U)⟩
section
variable {A:Nat->Nat->cK} {G:cF} {o:cQ} {n K:Nat}
end
end
section
def jd (a f:Int):Int:=if iM f=0 then f else f+a*4503599627370496
def Sb (a:Int):jd a 0=0:=by unfold jd;rw[ak aa]
def OW (w:a<=100) (A:c<=100) {f:Int} (n:ff a c f) (o:iM f≠0) (y:-40<=b) (z:b<=40):qc b f:=by
 obtain⟨d,v⟩:∃d:Nat,d=65536:=⟨_,rfl⟩;obtain⟨u,i,p⟩:=n;have x:=lZ i;have q:=n9 f;have r:dv f≠0:=λe=>o (by
  have B:=pe f;unfold dv at e;unfold iM;by_cases g:aW f=0
  ·rw[ak g] at e;rw[ag i,ak ⟨g,by split at e<;>omega⟩]
  rw[ag g] at e;split at e<;>omega)
 obtain⟨_,ao,h⟩:=p _ (iP i);have h:=bj (e9 (d-c) _ U) (h (tB r (og _)));have ao:=bj ao (e9 _ (d+a) U);rw[ez] at ao h;have l:(dv f).natAbs<2^53:=bN.1 q;have j:2^(d-c)<2^53*2^(dx f+65536).toNat:=qa h (tN l (eT _));rw[<-c4] at j;have k:=(Nat.pow_lt_pow_iff_right aa).1 j;have m:2^(dx f+65536).toNat<=2^(d+a):=bj (wh _ U) ao;have s:=(Nat.pow_le_pow_iff_right aa).1 m;have t:dx f=aW f-1075:=by
  have:=ss f;unfold dx at k|-;split
  ·rename_i g;rw[ak g] at k;omega
  rfl
 exact⟨U,U,U,U⟩
def NC {f:Int} (a:iM f=0):aW f≠2047/\bq f=some 0:=by
 unfold iM at a;by_cases b:aW f=2047
 ·rw[ak b] at a;split at a<;>cases a
 rw[ag b] at a;refine⟨b,?_⟩;by_cases c:aW f=0/\db f=0
 ·rw[iP b];have:dv f=0:=by
   unfold dv;rw[ak c.1,c.2];split<;>rfl
  rw[this,iX]
 rw[ag c] at a;cases a
def H5 (n:a<=100) (o:c<=100) {f:Int} (b:ff a c f) {k:Int} (l:-40<=k) (m:k<=40):lV (f,k,0,())=some (jd k f,())/\dr (jd k f)/\aW (jd k f)≠2047/\∃g h,bq f=some g/\bq (jd k f)=some h/\ea k g h:=by
 unfold jd;by_cases d:iM f=0
 ·rw[ak d];obtain⟨j,i⟩:=NC d;exact⟨Hv b.1 d k,b.1,j,0,0,i,i,ea.zero k⟩
 rw[ag d];have e:=OW n o b d l m;obtain⟨ao,s,t,u⟩:=u1 b.1 e;obtain⟨g,h,v1,dz,p,_⟩:=CW b.1 e;refine⟨Hu b.1 e l m,ao,?_,g,h,v1,dz,p⟩;obtain⟨j,i,q,r⟩:=e;omega
section
variable {f:Int->Int}
def kG (f:Int->Int) (a:bp):bp:=(a.1,a.2.1,f a.2.2.1,())
def MO (c:f 0=0) (a:cQ) (b:Nat):(a.map f).getD b 0=f (a.getD b 0):=by
 rw[ht,ht,gq];cases a[b]? with
 |none=>exact c.symm
 |some d=>rfl
def EF (e:f 0=0) (a d:cQ) (b:Int) (c:Nat):∀n,fE a (d.map f) b c n=(fE a d b c n).map (kG f)
 |0=>rfl
 |n+1=>by rw[fE,fE,EF e a d b c n,hf,MO e];rfl
def EG (d:f 0=0) (b a c:cQ):∀n,bO b a (c.map f) n=(bO b a c n).map (kG f)
 |0=>rfl
 |n+1=>by rw[bO,bO,EG d b a c n,hf,EF d]
def N2 (E:List bp):fW (E.map (kG f))=(fW E).map (kG f):=by unfold fW;rw[List.filter_map];rfl
def Nq (E:List bp):hD (E.map (kG f))=hD E:=by funext a b;unfold hD;rw[List.any_map];rfl
def IS (e:f 0=0) (E:List bp) (b c:Int):kc (E.map (kG f)) b c=f (kc E b c):=by
 unfold kc;rw[List.find?_map];have d:(λa:bp=>decide (a.1=b)&&decide (a.2.1=c))∘kG f=λa=>decide (a.1=b)&&decide (a.2.1=c):=rfl;rw[d];cases E.find? λa=>decide (a.1=b)&&decide (a.2.1=c) with
 |none=>exact e.symm
 |some a=>rfl
end
def IW (e f:Nat->Nat->cK) (b:cF):∀j,j<=b.length->∃c:cR,iU e b j=c.map (λa=>bb e (aX b) a.1 a.2)/\iU f b j=c.map (λa=>bb f (aX b) a.1 a.2)/\∀a∈c,a.1<j/\a.2<b.length
 |0,_=>⟨[],rfl,rfl,ab⟩
 |j+1,n=>by
  obtain⟨c,h,i,k⟩:=IW e f b j U;refine⟨c++(bE b j).map λg=>(j,g.toNat),?_,?_,λa d=>?_⟩
  ·rw[iU,h,hf,nB];rfl
  ·rw[iU,i,hf,nB];rfl
  rcases eR.1 d with d|d
  ·have:=k a d;omega
  obtain⟨o,l,rfl⟩:=List.mem_map.1 d;obtain⟨g,rfl,m,_,_⟩:=r3 l;dsimp only;omega
def Lg (a:Int):C3 (ff 5 4) (ff 9 4) (gU a 2:Nat) where
 z:=ff.zero _ _
 w:=λ_ b=>b.1
 q:=λ_ b=>b.mono aa aa
 num:=λg e=>by have f:=sR a (n:=2) aa;have d:gU ((gU a 2:Nat):Int) 3=gU a 2:=Ga U aa;rw[d];have c:gU ((gU a 2:Nat):Int) 4=gU a 2:=Ga U aa;exact(OX e (style:=(gU a 2:Nat)) (by rw[c];omega)).mono λ_ b=>b.2 (by rw[c];omega)
 dia:=Lh aa aa
def Jn {e d b h:cQ} (p:a<=5) (l:dG a a e d b) (R:d.length<=a*a) (o:∀i∈b,ff 9 4 i) (co:h.length=a) {k:Int} (am:-20<=k) (an:k<=20):∃f t bl bs I,lQ (((a:Int),(a:Int),e,d,b,()),h,())=some (f,bl,I,())/\lQ (((a:Int),(a:Int),e,d,b.map (jd (2*k)),()),h,())=some (t,bs,I,())/\f.2.2.1=t.2.2.1/\f.2.2.1.length<=25/\f.2.2.2.1.length=t.2.2.2.1.length/\f.2.2.2.1.length<=25/\∀c,(m:c<f.2.2.2.1.length)->(B:c<t.2.2.2.1.length)->lV (f.2.2.2.1[c],k,0,())=some (t.2.2.2.1[c],()):=by
 obtain⟨A,L⟩:∃A:Nat,A=65536:=⟨_,rfl⟩;have z:∀i,ff 9 4 i->_:=λi o=>H5 aa aa o (k:=2*k) U U;have M:dG a a e d (b.map (jd (2*k))):=⟨l.len,l.first,l.mono,l.last,by rw[gN];exact l.val,l.rng,l.asc⟩;have T:=v8.small p p l (λi g=>(o i g).1) R;have V:=v8.small p p M (λi g=>by
  obtain⟨v,F,rfl⟩:=b0.1 g;exact(z v (o v F)).2.1) R
 have K:∀b:cQ,(∀i∈b,aW i≠2047)->hW b:=λb g c P=>(by rw[ie P];exact g _ (dm P));have N:gg a a e d b=0:=k4.2 ⟨l,K _ λi g=>(o i g).2.1⟩;have O:gg a a e d (b.map (jd (2*k)))=0:=k4.2 ⟨M,K _ λi g=>by
  obtain⟨v,F,rfl⟩:=b0.1 g;exact(z v (o v F)).2.2.1⟩
 have r:kI.2.2.1=[]/\kI.2.2.2.1=[]:=⟨rfl,rfl⟩;by_cases y:mj a a e d b h=0
 rotate_left
 ·have ap:mj a a e d (b.map (jd (2*k))) h=mj a a e d b h:=by
   unfold mj;rw[N,O]
  refine⟨kI,kI,0,0,_,C8 T U y,?_,rfl,by simp[r],rfl,by simp[r],λc m=>?_⟩
  ·rw[<-ap] at y|-;exact C8 V U y
  rw[r.2] at m;exact absurd m ab
 obtain⟨_,_,u⟩:=SB y;have x:=zG p T N u;have q:=zG p V O u;have H:=Sb (2*k);rw[EG H,N2] at q;have ad:jy a ((fW (bO e d b a)).map (kG (jd (2*k)))) h=jy a (fW (bO e d b a)) h:=(by unfold jy;rw[Nq]);rw[ad] at q;have Z:=Fe (E:=fW (bO e d b a)) u;have C:=λc n=>CV (ff.zero 9 4) (sq l o) c n;have Y:pW A k (bc (bO e d b a) h) (bc ((bO e d b a).map (kG (jd (2*k)))) h) a:=by
  refine⟨oD.of L (sq l o) h a,λc n _ _=>?_,λc n _ _=>?_,λc n _ _ ce av X=>?_⟩
  ·unfold bc;rw[IS H];exact fY.AT (z _ (C _ _)).2.2.1
  ·unfold bc;rw[IS H];exact(z _ (C _ _)).2.2.2
  exact bj (e9 _ _ U) (((C _ _).2.2 ce av).2.2 X)
 generalize jy a (fW (bO e d b a)) h=j at*;generalize bc (bO e d b a) h=s at*;generalize bc ((bO e d b a).map (kG (jd (2*k)))) h=w at*;have Q:∀n,n<=a->(j2 j n).length<=25:=λn ci=>(by have m:=A5 j n;have B:n*j.length<=5*5:=gO U U;omega);rcases jR.all L am an p Z Y a (aZ a) with g|⟨cs,S,aj,J,g⟩
 ·rw[yA g.gJ.ok] at x;rw[yA g.sw.ok] at q;obtain⟨W,a0,a3,a4⟩:=IW s w j a U;refine⟨_,_,_,_,0,x,q,rfl,Q a (aZ a),?_,?_,?_⟩
  ·show(iU s j a).length=(iU w j a).length;rw[vV,vV]
  ·show(iU s j a).length<=25;rw[vV];exact Q a (aZ a)
  show∀c,(m:c<(iU s j a).length)->(B:c<(iU w j a).length)->lV ((iU s j a)[c],k,0,())=some ((iU w j a)[c],());rw[a0,a3];intro c m B;rw[rJ,rJ];have u:=a4 _ (dm (show c<W.length by simpa using m));exact(g.kR _ u.1 _ U).scale (m0 _ _ _ _) U U
 rw[Bn (λG D=>(g G D).1) S (by rw[aj];decide),ak aj] at x;rw[Bn (λG D=>(g G D).2) S (by rw[J];decide),ak J] at q;refine⟨_,_,_,_,231,x,q,rfl,by simp[r],rfl,by simp[r],λc m=>?_⟩;rw[r.2] at m;exact absurd m ab
def Jb (x:cQ) (b j a:Int) (s:x.length<=9223372036854775807):Av (x,b,j,a,())=some (true,()):=by
 unfold Av;refine ac.eq_iff.1 ?_;refine ac.bs (q8 j (n:=2) aa aa) ?_;refine ac.a1 (Q6 (Q:=ff 9 4) s b (gU j 2:Nat) (d:=true) λa r=>Jd (Lg j) s r) ?_;rintro⟨L,O,_⟩ ⟨b,m,t,u⟩;dsimp only at t u|-;obtain⟨i,h,e,rfl,ao,v,F⟩:=t.ex;refine ac.bs (q8 a (n:=41) aa aa) ?_;have r:=sR a (n:=41) aa;dsimp only;generalize gU a 41=w at*;obtain⟨a,E⟩:∃a:Int,a=(w:Int)-20:=⟨_,rfl⟩;have aj:ax ((w:Int)-20)=a:=(by rw[<-E];exact bh U U);have z:ax (2*a)=2*a:=bh U U;rw[aj,z];have J:b*b<=5*5:=Nat.mul_le_mul m m;have K:=ao.val;obtain⟨f,l,M,N,G,A,B,q,H,C,I,D⟩:=Jn (k:=a) m ao F v u U U;refine ac.a1 (P:=λo=>o=(((b:Int),(b:Int),i,h,e,()),((b:Int),(b:Int),i,h,e.map (jd (2*a)),()),())) ?_ ?_
 ·refine ac.steps e.length (λc p=>p=((c:Int),((b:Int),(b:Int),i,h,e,()),((b:Int),(b:Int),i,h,(e.take c).map (jd (2*a)),()),())) rfl ?_ ?_
  ·rintro c _ g rfl;dsimp only;rw[bT (aB (show(c:Int)<aw e by rw[a5];omega)),bA U,dc g,Option.bind_some];refine ac.bs (H5 aa aa (v _ (List.getElem_mem g)) (k:=2*a) U U).1 ?_;dsimp only;rw[eE (by simp;omega),Option.bind_some];refine ac.al.2 ?_;rw[List.take_add_one,List.getElem?_eq_getElem g,List.map_append];rfl
  rintro _ rfl;dsimp only;rw[bR (az (show¬(e.length:Int)<aw e by rw[a5];omega)),List.take_length];exact ac.al.2 rfl
 rintro _ rfl;dsimp only;refine ac.bs A (ac.bs B ?_);dsimp only;refine ac.bs (y:=.inl (f,l,())) ?_ ?_
 ·rw[bT (by rw[dN,aB rfl];rfl),bR (by rw[dN,aB (by rw[a5,a5,C])];rfl)]
 dsimp only;refine ac.a1 (P:=λo=>o=.inl (f,l,())) ?_ ?_
 ·refine ac.steps f.2.2.2.1.length (λc p=>p=((c:Int),f,l,())) rfl ?_ ?_
  ·rintro c _ g rfl;dsimp only;rw[bT (aB (show(c:Int)<aw f.2.2.2.1 by rw[a5];omega)),bA U,dc g,Option.bind_some];refine ac.bs (D c g U) ?_;rw[dc U,Option.bind_some];dsimp only;rw[bR (by rw[dN,aB rfl];rfl)];exact ac.al.2 rfl
  rintro _ rfl;dsimp only;rw[bR (az (show¬(f.2.2.2.1.length:Int)<aw f.2.2.2.1 by rw[a5];omega))];exact ac.al.2 rfl
 rintro _ rfl;dsimp only;rw[q];refine ac.bs (zC _ _ (by rw[<-q];omega)) ?_;dsimp only;rw[bT ab];exact ac.bs Kl (ac.al.2 rfl)
end
end Go.hX
end
