/-
  Parts of the proof: Pa8, Pa9, Pa10, Pa11, Pa12, Pa13, Pa14, Pa15, Pa16, Pa17, Pa19, Pa20, Pa21, Pa22, Pa23, Pa24, Pa25, Pa26, Pa27, Pa28, Pa29, Pm1, Pm2, G24, Pm3, Pm4, Pm5, Pm6, Pm7, Pm8, Pm9, Pm11, Pm12, Pl13, Pl18, Th3, Pl29, Pl30, Pl40, Pl41, Pl42, Pl43, Pm13, Pl46, Pl48, Pl50, Pl51, Pl54, Pm14, Pm15, Pm16, Pm17, Pm18, Pm19, Pm20: the framework (Fw), pure forms (Dn), plain laws (Pl, Th), calls of functions (Ok).
-/
import Derived.Test.YtkhcdgkdpjahpaaGreatDoorRows
import Derived.ProofKit
import Derived.Lib.LaidTab
import Derived.LaidMore
import Derived.KernelRfl
import Derived.Test.YtkhcdgkdpjahpaaGreatDoorB72662059

set_option linter.all false
set_option maxHeartbeats 1000000
noncomputable section
namespace Go.h1
variable{a c k:Nat}{b e v:Int}{d f g t:cP}{h:Nat->Nat->cJ}{i r:cJ}{j:cE}{l o:Bool}{m:Nat->Nat->Bool}{n:Type}{u:List (Int×bz)}{w:(cy×Int×Int×a7×Unit)->Prop}{x:cB}{y:(cy×Int×a7×Unit)->Prop}
def yU {x y:Int} (b:0<=x/\x<4294967296) (a:0<=y/\y<4294967296):0<=x*y/\x*y<=18446744065119617025:=by refine⟨kq b.1 a.1,?_⟩;have c:x*y<=4294967295*y:=jU U a.1;have d:(4294967295:Int)*y<=4294967295*4294967295:=i7 U aa;omega
theorem R8 (G:0<=b/\b<4294967296) (F:aH d) (S:a+d.length<c) (R:c<=100000000) (C:f.length=c) (D:aH f) (I:gJ f (a+d.length)) {r:fX->Prop} (E:∀h g,g.length=c->aH g->gJ g (a+d.length)->0<=h->h<4294967296->ae g+aF (a+d.length)*h=ae f+aF a*(b*ae d)->r (h,g,())):ac (loop (σ:=mM) (ρ:=fX) (λ(l,j,o,_)=>
 bif decide (j<au d) then
 (aL d j).bind λy=>
 rd o (ax ((a:Int)+j)) λz=>
 wr o (ax ((a:Int)+j)) (bK (bT IntKind.u64 (aA (aA (aA (aA b*aA y)+aA z)+l)) 4294967295)) λP=>
 (db IntKind.u64 (aA (aA (aA (aA b*aA y)+aA z)+l)) 32).bind λO=>
 some (.inl (O,aZ j,P,())) else
 some (.inr (l,o,()))) (0,0,f,())) r:=by
 refine ac.steps d.length (λe M=>∃h g,M=(h,(e:Int),g,())/\g.length=c/\aH g/\gJ g (a+d.length)/\0<=h/\h<4294967296/\ae g+aF (a+e)*h=ae f+aF a*(b*ae (d.take e))) ⟨0,f,rfl,C,D,I,U,U,by simp[ae]⟩ ?_ ?_
 ·rintro e _ m ⟨h,g,rfl,aq,k,p,t,u,q⟩;have H:=F.get m;have V:=k.get (n:=a+e) U;have T:=yU G H;obtain⟨i,s,v,w⟩:∃i,i=b*d[e]+g[a+e]+h/\0<=i/\i<18446744073709551616:=⟨_,rfl,U,U⟩;simp only[aC (show(e:Int)<au d by simp only[a1];omega),cond_true,da m,aQ];have ai:ax ((a:Int)+(e:Int))=((a+e:Nat):Int):=(by rw[bf U U];simp);rw[ai,kS U];have A:aA (aA (aA (aA b*aA d[e])+aA g[a+e])+h)=i:=by
   rw[bM (x:=b) U U,bM (x:=d[e]) U U,bM (x:=g[a+e]) U U,bM (x:=b*d[e]) U U,bM (x:=b*d[e]+g[a+e]) U U,<-s,bM v w]
  rw[A,n3 v w,k4 U,k1];refine ac.aj.2 ⟨i/4294967296,g.set (a+e) (i %4294967296),by rw[br U],by simp[aq],k.set U U,p.CJ _ U,U,U,?_⟩;rw[k2 U,(U:a+(e+1)=(a+e)+1),fO,fU m];have Q:=g6 i 4294967296;rw[rB] at q|-;generalize i/4294967296=K at*;generalize i %4294967296=L at*;generalize g[a+e]=J at*;generalize d[e]=N at*;subst s;have B:L=b*N+J+h-4294967296*K:=U;subst B;grind
 rintro _ ⟨h,g,rfl,aq,k,p,t,u,q⟩;simp only[ay (show¬((d.length:Int)<au d) by simp only[a1];omega),cond_false];refine ac.aj.2 (E h g aq k p t u ?_);rw[q,dC (a2 _)]
theorem Td (w:aH f) (x:aH d) (z:f.length<=10000000) (A:d.length<=10000000):xy (f,d,())=some (bI (ae f*ae d).toNat,()):=by
 unfold xy;refine ac.eq_iff.1 ?_;simp only[n2];refine ac.aX (P:=λo=>match o with|.inl _=>f≠[]/\d≠[]|.inr h=>h=(bI (ae f*ae d).toNat,())) ?_ ?_
 ·by_cases i:f=[]
  ·simp only[aC i];refine ac.aj.2 ?_;subst i;simp[ae];rfl
  simp only[ay i,beq_self_eq_true,cond_true];by_cases j:d=[]
  ·simp only[aC j,cond_true];refine ac.aj.2 ?_;subst j;simp[ae];rfl
  simp only[ay j,cond_false];exact ac.aj.2 ⟨i,j⟩
 rintro(o|o) k
 rotate_left
 ·have k:o=_:=k;subst k;exact ac.aj.2 rfl
 clear k;dsimp only;have v:ax (au f+au d)=((f.length+d.length:Nat):Int):=(by simp only[a1];rw[bf U U];simp);rw[v,hR U,Option.bind_some];refine ac.aX (P:=λh=>∃a,h=(a,())/\a.length=f.length+d.length/\aH a/\ae a=ae f*ae d) ?_ ?_
 ·refine ac.steps f.length (λb y=>∃a,y=((b:Int),a,())/\a.length=f.length+d.length/\aH a/\gJ a (b+d.length)/\ae a=ae (f.take b)*ae d) ⟨_,rfl,ab,aH.ko _,gJ.ko _ _,by simp[ae,ow]⟩ ?_ ?_
  ·rintro b _ q ⟨a,rfl,aq,g,p,u⟩;simp only[aC (show(b:Int)<au f by simp only[a1];omega),cond_true,da q,Option.bind_some];refine ac.aX (P:=λh=>∃e c,h=(e,c,())/\c.length=f.length+d.length/\aH c/\gJ c (b+d.length)/\0<=e/\e<4294967296/\ae c+aF (b+d.length)*e=ae a+aF b*(f[b]*ae d)) (R8 (w.get q) x U U aq g p λe c r s l m n t=>⟨e,c,rfl,r,s,l,m,n,t⟩) ?_;rintro _ ⟨e,c,rfl,r,s,l,m,n,t⟩;have ai:ax ((b:Int)+au d)=((b+d.length:Nat):Int):=(by simp only[a1];rw[bf U U];simp);dsimp only;rw[ai,i4 m n,k4 U];refine ac.aj.2 ⟨c.set (b+d.length) e,by rw[br U],by simp[r],s.set m n,?_,?_⟩
   ·rw[(U:b+1+d.length=b+d.length+1)];exact l.set _
   rw[k2 U,l _ (a2 _) U,fU q,Int.sub_zero,t,u];grind
  rintro _ ⟨a,rfl,aq,g,p,u⟩;simp only[ay (show¬((f.length:Int)<au f) by simp only[a1];omega),cond_false];refine ac.aj.2 ⟨a,rfl,aq,g,?_⟩;rw[u,dC (a2 _)]
 rintro _ ⟨a,rfl,aq,g,p⟩;refine ac.of_eq (ao (lE g (by show a.length<=_;omega)) rfl) ?_;show(fM a,())=_;rw[fM,p]
def NY:∀a:Nat,a<256->ni yH (a:Int)=some (aw a:Int):=by have b:(List.range 256).all (λa=>ni yH (a:Int)==some (aw a:Int))=true:=(by decide+kernel);intro a c;have:=ew.1 b a (ha.2 c);exact eq_of_beq this
def CL {x y:Int} (a:0<=y) (b:y<=32):db .u32 x y=some (x/2^y.toNat):=by unfold db;rw[al a,show IntKind.u32.bits=32 from rfl,fW U,wg _ (by exact Int.pow_nonneg aa)]
def Iw (a:0<=b) (c:b<=32):fL .u32 e b=some ((e*2^b.toNat) %4294967296):=by unfold fL;rw[al a,C4,show IntKind.u32.bits=32 from rfl,fW U]
def TO (a:0<=b) (c:b<256):IntKind.u8.wrap b=b:=by unfold IntKind.wrap;refine(ah (ab:¬(false&&decide (b %256>=(128:Int)))=true)).trans ?_;show b %256=b;omega
def Ei {n k:Nat} (a:2^k<=n):aw n=aw (n/2^k)+k:=by rw[tR];have:=oU.2 a;omega
def FT {n:Nat} (i:n<4294967296):se ((n:Int),())=some ((aw n:Int),()):=by
 unfold se;refine ac.eq_iff.1 ?_;refine ac.aX (P:=λe=>∃a b:Nat,e=((a:Int),(b:Int),())/\a<65536/\aw n=aw a+b/\b<=16) ?_ ?_
 ·simp only[bo];refine ac.ite (λf=>?_) λf=>?_
  ·rw[CL aa aa];refine ac.aj.2 ⟨n/2^16,16,?_,U,Ei U,U⟩;simp
  exact ac.aj.2 ⟨n,0,rfl,U,rfl,U⟩
 rintro _ ⟨a,b,rfl,f,g,j⟩;refine ac.aX (P:=λe=>∃a b:Nat,e=((a:Int),(b:Int),())/\a<256/\aw n=aw a+b/\b<=24) ?_ ?_
 ·simp only[bo];refine ac.ite (λc=>?_) λc=>?_
  ·rw[CL aa aa];refine ac.aj.2 ⟨a/2^8,b+8,?_,U,by have:=Ei (n:=a) (k:=8) U;omega,U⟩;rw[wrap64 U U];simp
  exact ac.aj.2 ⟨a,b,rfl,U,g,U⟩
 rintro _ ⟨d,o,rfl,c,h,l⟩;dsimp only;rw[TO U U,NY d c];refine ac.aj.2 ?_;have m:aw d<=8:=bY.2 U;rw[wrap64 (x:=(aw d:Int)) U U,wrap64 U U,h];congr 1;omega
def KG {l:cP} {x:Int} (g:aH l) (p:0<x):aw (ae l+aF l.length*x).toNat=32*l.length+aw x.toNat:=by
 obtain⟨b,rfl⟩:=ea (eb p);obtain⟨d,o⟩:=ea (dY g);have f:=fq g;rw[o] at f|-;have n:aF l.length=((2^(32*l.length):Nat):Int):=(by unfold aF;rw[Nat.pow_mul];simp);rw[n] at f|-;generalize 32*l.length=a at*;have h:0<b:=U;have j:((d:Int)+((2^a:Nat):Int)*(b:Int)).toNat=d+2^a*b:=(by rw[<-mB,<-Int.natCast_add];rfl);show aw ((d:Int)+((2^a:Nat):Int)*(b:Int)).toNat=_;rw[j];obtain⟨e,i⟩:=nF h;have q:=nH h;obtain⟨c,m⟩:∃c,aw b=c+1:=⟨aw b-1,U⟩;show _=a+aw b;rw[m] at e i|-;have r:d<2^a:=U;refine Eh (k:=a+c) ?_ ?_
 ·rw[dv];have:=j3 (2^a) e;simp only[tF] at this;omega
 rw[hI,dv] at*;have:=j3 (2^a) (U:b+1<=2^c*2);rw[Nat.mul_add,Nat.mul_one,<-fv] at this;omega
def Bz (c:aH d) (h:dq d) (k:d.length<=10000000):sc (d,())=some ((aw (ae d).toNat:Int),()):=by
 unfold sc;simp only[n2,bo];split
 ·rename_i a;subst a;rfl
 rename_i a;have m:0<d.length:=List.length_pos_iff.2 a;have ai:ax (au d-1)=((d.length-1:Nat):Int):=(by simp only[a1];rw[bf U U];omega);rw[ai,da U];have e:=c.get (n:=d.length-1) U;have i:d[d.length-1]≠0:=h _ (by rw[List.getLast?_eq_getElem?,bA U]);have f:ae d=ae (d.take (d.length-1))+aF (d.length-1)*d[d.length-1]:=(by rw[<-fU U,dC U]);have b:=KG (l:=d.take (d.length-1)) (x:=d[d.length-1]) (c.take _) U;rw[eD,fW U,<-f] at b;rw[b];obtain⟨n,g⟩:=ea e.1;rw[g] at e|-;refine ao rfl (ao (FT (n:=n) U) ?_);have j:aw n<=32:=bY.2 U;show some (ax (ax (((d.length-1:Nat):Int)*32)+(aw n:Int)),())=_;rw[bf (x:=((d.length-1:Nat):Int)*32) U U,bf U U];congr 2;show _=((32*(d.length-1)+aw n:Nat):Int);omega
def qq (a:Fit b):nL (aD b,())=some ((aw b.natAbs:Int),()):=by unfold nL;refine ao (IM a) (ao (Bz (jA b) (yj b) (bt a aa)) ?_);rw[gL];rfl
theorem Oa (g:k=(2*c+1)*2^a) (q:k<2^32):k&&&(2^32-k)=2^a:=by
 have l:=e8 a;have r:0<k:=(by rw[g];exact Nat.mul_pos U l);obtain⟨e,h⟩:∃e,k=e+1:=⟨k-1,U⟩;have p:e=2^a*(2*c)+(2^a-1):=(by have:e+1=2^a*(2*c)+2^a:=(by rw[<-h,g];grind);omega);have o:k=2^a*(2*c+1)+0:=(by rw[g,hj];rfl);refine Nat.eq_of_testBit_eq λb=>?_;rw[Nat.testBit_and,h,Nat.testBit_two_pow_sub_succ U,<-h];have ai:k.testBit b=if b<a then false else(2*c+1).testBit (b-a):=by rw[o,Nat.testBit_two_pow_mul_add _ l];simp
 have m:e.testBit b=if b<a then(2^a-1).testBit b else(2*c).testBit (b-a):=by rw[p,Nat.testBit_two_pow_mul_add _ U]
 rw[ai,m,wm];by_cases f:b<a
 ·rw[al f];simp only[Bool.false_and];exact(decide_eq_false U).symm
 rw[ah f,ah f];by_cases j:a=b
 ·subst j;have d:a<32:=by
   rcases bj a 32 with d|d
   ·exact d
   have:=nz (aa:1<=2) d;have s:=dG (2^a) (U:1<=2*c+1);omega
  simp[d]
 obtain⟨i,n⟩:∃i,b-a=i+1:=⟨b-a-1,U⟩;rw[n,Nat.testBit_succ,Nat.testBit_succ,(U:(2*c+1)/2=c),(U:2*c/2=c),decide_eq_false j];cases c.testBit i<;>simp
def KO:∀a:Nat,a<32->aL mP (2^a*125613361 %4294967296/2^(27:Int).toNat)=some (a:Int):=by have b:(List.range 32).all (λa=>aL mP (2^a*125613361 %4294967296/2^(27:Int).toNat)==some (a:Int))=true:=(by decide+kernel);intro d c;have:=ew.1 b d (ha.2 c);exact eq_of_beq this
def IY (e:0<a) (c:a<4294967296) (b:Int):bK (bT IntKind.u32 (a:Int) (bK (0-(a:Int)))*b)=2^bb a*b %4294967296:=by obtain⟨g,f⟩:=pU e;have ai:bK (0-(a:Int))=((2^32-a:Nat):Int):=(by rw[nl];omega);have d:((2^bb a:Nat):Int)=2^bb a:=ab;rw[ai,DK c U,Oa f c,nl,d]
def IZ {n:Nat} (b:0<n) (a:n<4294967296):sf ((n:Int),())=some ((bb n:Int),()):=by have e:bb n<32:=fF (pT b) (bY.2 a);have d:=KO _ e;have c:=CL (x:=bK (bT IntKind.u32 (n:Int) (bK (0-(n:Int)))*125613361)) (y:=27) aa aa;rw[IY b a 125613361] at c;unfold sf;show(bif (n:Int)==0 then some (32,()) else(db IntKind.u32 (bK (bT IntKind.u32 (n:Int) (bK (0-(n:Int)))*125613361)) 27).bind λf=>(aL mP f).bind λg=>some (ax g,()))=_;rw[bq (by rw[dD];exact ay U),IY b a 125613361,c];refine ao rfl (ao d ?_);rw[bf U U]
theorem I1 {x:Int} (r:ae (d.take c)=0) (g:c<d.length) (h:aH d) (s:d[c]≠0):bb (ae d).toNat=32*c+bb (d[c]).toNat:=by
 have q:=h.get g;rw[nk d c U,r,jl g];have p:=dY (h.drop (c+1));generalize ae (d.drop (c+1))=u at*;generalize d[c]=v at*;obtain⟨b,rfl⟩:=ea q.1;obtain⟨e,rfl⟩:=ea p;have i:0<b:=U;obtain⟨j,m⟩:=pU i;have t:bb b<32:=fF (pT i) (bY.2 U);have o:aF c=((2^(32*c):Nat):Int):=(by unfold aF;rw[Nat.pow_mul];simp);have k:(0+aF c*((b:Int)+4294967296*(e:Int))).toNat=(b+4294967296*e)*2^(32*c):=(by rw[o,Int.zero_add,hj (b+4294967296*e)];have:((2^(32*c):Nat):Int)*((b:Int)+4294967296*(e:Int))=((2^(32*c)*(b+4294967296*e):Nat):Int):=(by rw[mB];simp);rw[this];rfl);show bb (0+aF c*((b:Int)+4294967296*(e:Int))).toNat=32*c+bb b;rw[k,v5 U,Nat.add_comm];congr 1;obtain⟨f,n⟩:∃f,32=bb b+(f+1):=⟨31-bb b,U⟩;refine td (a:=j+2^f*e) ?_;have l:(4294967296:Nat)=2^bb b*(2^f*2):=by
  have:(4294967296:Nat)=2^32:=rfl;rw[this]
  conv=>lhs;rw[n]
  rw[dv,hI]
 rw[l]
 conv=>lhs;lhs;rw[m]
 grind
def I2 {z:Int} (o:Fit z) (r:z≠0):uq (aD z,())=some ((bb z.natAbs:Int),()):=by
 unfold uq;dsimp only;have i:=jA z;have u:=gL z;have s:(aD z).2.1.length<=31250:=o;generalize(aD z).2.1=b at*;have m:z.natAbs=(ae b).toNat:=U;rw[m];refine ac.eq_iff.1 (ac.aX (P:=λh=>match h with|.inl _=>False|.inr p=>p=((bb (ae b).toNat:Int),())) ?_ ?_)
 ·refine ac.steps b.length (λa q=>q=((a:Int),())/\ae (b.take a)=0) ⟨rfl,rfl⟩ ?_ ?_
  ·rintro a _ f ⟨rfl,e⟩;have j:=i.get f;simp only[aC (show(a:Int)<au b by simp only[a1];omega),cond_true,da f,aQ,dA];by_cases c:b[a]=0
   ·simp only[aC c,kp,cond_false];refine ac.aj.2 ⟨by rw[br U],?_⟩;rw[fU f,c,e];simp
   simp only[ay c,lL,cond_true];have k:=I1 (x:=0) e f i c;rw[k];obtain⟨d,l⟩:=ea j.1;rw[l] at j c|-;have t:bb d<32:=fF (pT U) (bY.2 U);refine ac.of_eq (ao (IZ (n:=d) U U) rfl) ?_;show(ax (ax ((a:Int)*32)+(bb d:Int)),())=_;rw[bf (x:=(a:Int)*32) U U,bf U U];congr 1;show _=((32*a+bb d:Nat):Int);omega
  rintro _ ⟨rfl,e⟩;exfalso;rw[dC (a2 _)] at e;omega
 rintro(h|h) g
 ·exact g.elim
 have g:h=_:=g;rw[g];exact ac.aj.2 rfl
def jI (a:Nat):((2^a:Nat):Int)=(2:Int)^a:=by simp
def hT (a:Nat):(0:Int)<2^a:=i9 aa
def sZ (b:a<=31):(2:Int)^a<=2147483648:=by have c:=nz (aa:0<2) b;rw[<-jI];omega
def rc {p:Nat} (a:p<=32):(4294967296:Int)=2^p*2^(32-p):=by rw[<-iC,(U:p+(32-p)=32)];rfl
def nq (a:Nat):aF a=2^(32*a):=by unfold aF;rw[Int.pow_mul];rfl
theorem Q5 {k:Nat} {x y:Int} (j:k<=32) (e:0<=x) (f:x<2^k) (g:0<=y) (o:y<4294967296) (i:y %2^k=0):dP .u32 x y=x+y/\x+y<4294967296:=by
 have c:=hT k;have u:=rc j;have t:=hT (32-k);have s:y=2^k*(y/2^k):=(by have:=g6 y (2^k);omega);have r:y/2^k<2^(32-k):=by
  rcases g7 (y/2^k) (2^(32-k)) with b|b
  ·exact b
  have:=i7 b (eb c);omega
 have q:2^k*(y/2^k+1)<=2^k*2^(32-k):=i7 U (eb c);have p:(2:Int)^k*(y/2^k+1)=2^k*(y/2^k)+2^k:=(by grind);have n:x+y<4294967296:=U;refine⟨?_,n⟩;obtain⟨d,rfl⟩:=ea e;obtain⟨a,rfl⟩:=ea g;have m:d<2^k:=(by have:((d:Nat):Int)<((2^k:Nat):Int):=(by simpa using f);omega);have l:a %2^k=0:=(by have:((a %2^k:Nat):Int)=0:=(by simpa using i);omega);rw[Q3 U U];have h:a=(a/2^k)*2^k:=(by have:=qe a (2^k);rw[l,hj] at this;omega);rw[h,DO k m];simp
theorem zz {a:cP} {n:Nat} (F:aH a) (Y:a.length<=10000000) (W:n<=100000000):qB (a,(n:Int),())=some (bI (ae a*2^n).toNat,()):=by
 unfold qB;simp only[n2,bo];split
 ·rename_i h;subst h;simp[ae];rfl
 refine ac.eq_iff.1 ?_;obtain⟨b,e,K,X,I,J⟩:∃b e:Nat,n=32*b+e/\e<32/\g1 IntKind.i64 (n:Int) 32=some (b:Int)/\gj (n:Int) 32=some (e:Int):=by
  refine⟨n/32,n %32,U,U,?_,?_⟩
  ·unfold g1;rw[al aa,wh U,wrap64 U U];simp
  unfold gj;rw[al aa,wi U];simp
 have l:=hT e;have E:=rc (p:=e) U;have w:aZ (ax ((b:Int)+au a))=((b+a.length+1:Nat):Int):=(by simp only[a1];rw[bf U U,(ab:(b:Int)+(a.length:Int)=((b+a.length:Nat):Int)),br U]);rw[I,J,aQ,aQ,w,hR U,aQ];refine ac.aX (P:=λq=>∃d,q=(d,())/\d.length=b+a.length+1/\aH d/\ae d=aF b*(2^e*ae a)) ?_ ?_
 ·refine ac.steps a.length (λc M=>∃d,M=((c:Int),d,())/\d.length=b+a.length+1/\aH d/\gJ d (b+c+1)/\(∀h:b+c<d.length,d[b+c]<2^e)/\ae d=aF b*(2^e*ae (a.take c))) ⟨_,rfl,ab,aH.ko _,gJ.ko _ _,λh=>by simp;exact l,by simp[ae,ow]⟩ ?_ ?_
  ·rintro c _ m ⟨d,rfl,aq,g,i,t,o⟩;have s:=F.get m;have G:=g.get (n:=b+c) U;have H:=t U;dsimp only;rw[if_pos (show(c:Int)<au a by simp only[a1];omega),da m,Option.bind_some];have ai:ax ((b:Int)+(c:Int))=((b+c:Nat):Int):=(by rw[bf U U];simp);have V:a[c]*2^e<4294967296*2^e:=Int.mul_lt_mul_of_pos_right s.2 l;have T:(2:Int)^e<=2147483648:=sZ U;obtain⟨f,r,N,O⟩:∃f,f=a[c]*2^e/\0<=f/\f<18446744073709551616:=⟨_,rfl,Int.mul_nonneg s.1 (Int.le_of_lt l),U⟩;have z:fL IntKind.u64 (aA a[c]) (aA (e:Int))=some f:=by
    rw[bM (x:=a[c]) U U,bM (x:=(e:Int)) U U,kZ U U,du,<-r];congr 1;omega
   have A:f %4294967296 %2^e=0:=(by rw[Int.emod_emod_of_dvd _ ⟨_,E⟩,r,Int.mul_emod_left]);have B:f/4294967296<2^e:=(by refine p5 aa ?_;rw[gG];omega);obtain⟨C,R⟩:=Q5 (k:=e) (x:=d[b+c]) (y:=f %4294967296) U G.1 H U U A;rw[z];simp only[aQ];rw[ai,kS U,n3 N O,C,k4 U,k1,aQ,br U,i4 U U,k4 (by simp;omega)];refine ac.aj.2 ⟨(d.set (b+c) (d[b+c]+f %4294967296)).set (b+c+1) (f/4294967296),by rw[br U],by simp[aq],(g.set U U).set U U,?_,?_,?_⟩
   ·have:=(i.CJ (d[b+c]+f %4294967296) (j:=b+c) U).set (f/4294967296);exact this
   ·intro h;show((d.set (b+c) (d[b+c]+f %4294967296)).set (b+c+1) (f/4294967296))[b+c+1]'h<2^e
    rw[List.getElem_set_self];exact B
   have Q:(d.set (b+c) (d[b+c]+f %4294967296))[b+c+1]'(by simp;omega)=0:=by rw[rK U];exact i _ U U
   rw[k2 (by simp;omega),Q,k2 U,o,fU m,fO,rB];have S:=g6 f 4294967296;generalize f/4294967296=L at*;generalize f %4294967296=q at*;generalize(2:Int)^e=u at*;generalize a[c]=v at*;generalize d[b+c]=Z at*;have D:q=v*u-4294967296*L:=U;subst D;grind
  rintro _ ⟨d,rfl,aq,g,i,t,o⟩;dsimp only;rw[if_neg (show¬((a.length:Int)<au a) by simp only[a1];omega)];refine ac.aj.2 ⟨d,rfl,aq,g,?_⟩;rw[o,List.take_of_length_le (Nat.le_refl _)]
 rintro _ ⟨d,rfl,aq,g,i⟩;refine ac.of_eq (ao (lE g (by show d.length<=_;omega)) rfl) ?_;show(fM d,())=_;rw[fM,i,nq,K,iC];congr 3;grind
def Ll (k:aH d) (o:d.length<=10000000):uv (d,(),())=some (decide (ae d≠0),()):=by
 unfold uv;refine ac.eq_iff.1 ?_;refine ac.aX (P:=λi=>∃g,i=(g,())/\(0<=g↔ae d≠0)) ?_ ?_
 ·unfold Ay;dsimp only;refine ac.aX (P:=λc=>match c with|.inl _=>ae d=0|.inr i=>0<=i.1/\ae d≠0) ?_ ?_
  ·refine ac.steps d.length (λa m=>m=((a:Int),())/\ae (d.take a)=0) ⟨rfl,rfl⟩ ?_ ?_
   ·rintro a _ e ⟨rfl,b⟩;have l:=k.get e;simp only[aC (show(a:Int)<au d by simp only[a1];omega),cond_true,da e,aQ,As,dA];by_cases h:d[a]=0
    ·simp only[aC h,kp,cond_false];refine ac.aj.2 ⟨by rw[br U],?_⟩;rw[fU e,h,b];simp
    simp only[ay h,lL,cond_true];refine ac.aj.2 ⟨by show(0:Int)<=(a:Int);omega,?_⟩;rw[nk d a U,b,jl e];have j:=dY (k.drop (a+1));have n:0<aF a*(d[a]+4294967296*ae (d.drop (a+1))):=mA (ev a) U;omega
   rintro _ ⟨rfl,b⟩;simp only[ay (show¬((d.length:Int)<au d) by simp only[a1];omega),cond_false];refine ac.aj.2 ?_;rw[dC (a2 _)] at b;exact b
  rintro(c|c) f
  ·have f:ae d=0:=f;exact ac.aj.2 ⟨_,rfl,by rw[f];simp⟩
  obtain⟨b,j⟩:0<=c.1/\ae d≠0:=f;exact ac.aj.2 ⟨c.1,rfl,λ_=>j,λ_=>b⟩
 rintro _ ⟨g,rfl,l⟩;refine ac.aj.2 ?_;show(decide (g>=0),())=_;congr 1;rw[decide_eq_decide];exact l
def DM (a:Nat) (c:0<=b) (g:b<4294967296) (e:a<=32):bT .u32 b (2^a-1)=b %2^a:=by obtain⟨i,rfl⟩:=ea c;have f:0<2^a:=e8 a;have d:(2:Int)^a-1=((2^a-1:Nat):Int):=(by rw[Int.natCast_sub f];simp);have h:2^a<=2^32:=nz aa e;rw[d,DK U U,Nat.and_two_pow_sub_one_eq_mod];simp
def FZ {x b y:Int} {P P':Int} (e:0<b) (f:0<=x/\x<b) (h:0<P):(x+b*y) %(b*P)=0↔x=0/\y %P=0:=by
 constructor
 ·intro a;have g:x=0:=by
   have c:(x+b*y) %b=0:=(by have:=Int.emod_emod_of_dvd (x+b*y) (show b∣b*P from⟨P,rfl⟩);rw[a] at this;simpa using this.symm);rw[ts,ns f.1 f.2] at c;exact c
  subst g;rw[Int.zero_add,Int.mul_emod_mul_of_pos _ _ e] at a;exact⟨rfl,by rcases Int.mul_eq_zero.1 a with d|d;omega;exact d⟩
 rintro⟨rfl,a⟩;rw[Int.zero_add,Int.mul_emod_mul_of_pos _ _ e,a,Int.mul_zero]
theorem AH {n:Nat} (i:aH d) (a4:dq d) (dl:d.length<=10000000) (co:n<=1000000000):sb (d,(n:Int),())=some (bI (ae d/2^n).toNat,decide (ae d %2^n≠0),()):=by
 unfold sb;dsimp only;refine ac.eq_iff.1 ?_;obtain⟨a,e,av,cs,am,ap⟩:∃a e:Nat,n=32*a+e/\e<32/\g1 IntKind.i64 (n:Int) 32=some (a:Int)/\gj (n:Int) 32=some (e:Int):=by
  refine⟨n/32,n %32,U,U,?_,?_⟩
  ·unfold g1;rw[al aa,wh U,wrap64 U U];simp
  unfold gj;rw[al aa,wi U];simp
 have B:=hT e;have G:=rc (p:=e) U;have X:(2:Int)^n=aF a*2^e:=(by rw[nq,av,iC]);have K:=dY i;rw[am,ap,aQ,aQ,bo,X];refine ac.ite (λk=>?_) λk=>?_
 ·have k:d.length<=a:=(by simp only[a1] at k;omega);have m:=fq i;have r:=mj k;have F:aF a*1<=aF a*2^e:=i7 U (eb (ev a));rw[nr K U,ns K U];refine ac.aj.2 ?_;show(([]:cP),decide (au d>0),())=(bI 0,_,());rw[ES];congr 2;rw[decide_eq_decide];simp only[a1];constructor
  ·intro o C;have:=dq.zero i a4 C;rw[this] at o;simp at o
  intro o;have:d≠[]:=λO=>(by rw[O] at o;exact o rfl);have:=List.length_pos_iff.2 this;omega
 have k:a<d.length:=(by simp only[a1] at k;omega);have w:=i.get k;obtain⟨f,u⟩:∃f,f=ae (d.drop a):=⟨_,rfl⟩;have H:0<=f:=(by rw[u];exact dY (i.drop a));have J:ae d=ae (d.take a)+aF a*f:=(by rw[u];exact nk d a U);have I:=dY (i.take a);have E:=fq (i.take a);rw[eD,fW U] at E;have Z:ae d/(aF a*2^e)=f/2^e:=(by rw[<-p4 (eb (ev a)),J,rE _ _ (by have:=ev a;omega),nr I E,Int.zero_add]);refine ac.aX (P:=λq=>q=(decide (ae d %(aF a*2^e)≠0),())) ?_ ?_
 ·rw[zr U,aQ];have ai:List.drop 0 (List.take a d)=d.take a:=mF;show ac ((uv (List.drop 0 (List.take a d),(),())).bind _) _;rw[ai,Ll (i.take a) (by simp;omega),aQ];have D:(decide (ae d %(aF a*2^e)≠0))=(decide (ae (d.take a)≠0)||decide (d[a] %2^e≠0)):=by
   have m:=FZ (x:=ae (d.take a)) (b:=aF a) (y:=f) (P:=2^e) (P':=0) (ev a) ⟨I,E⟩ B;rw[<-J] at m;have r:f %2^e=d[a] %2^e:=(by rw[u,jl k,G,fP,ts]);rw[r] at m;by_cases A:ae (d.take a)=0<;>by_cases T:d[a] %2^e=0<;>simp[A,T,m]
  rw[D];dsimp only;by_cases A:ae (d.take a)=0
  ·simp only[ay (show¬(ae (d.take a)≠0) fromλk=>k A),beq_self_eq_true,cond_true,da k,aQ];rw[bM (x:=(e:Int)) U U,Iw U U,aQ,du,Int.one_mul];have bl:(2:Int)^e<=2147483648:=sZ U;rw[ns U U,i4 U U,DM e w.1 w.2 U,dA];refine ac.aj.2 ?_;simp
  simp only[aC (show ae (d.take a)≠0 from A)];exact ac.aj.2 rfl
 rintro _ rfl;dsimp only;obtain⟨l,ci⟩:∃l,d.length=a+l:=⟨d.length-a,U⟩;have Q:ax (au d-(a:Int))=((l:Nat):Int):=(by simp only[a1];rw[bf U U];omega);rw[Q,hR U,Option.bind_some];have bs:f<aF l:=(by have:=fq (i.drop a);rw[List.length_drop,(U:d.length-a=l),<-u] at this;exact this);refine ac.aX (P:=λq=>∃g,q=(g,())/\g.length=l/\aH g/\ae g=f/2^e) ?_ ?_
 ·refine ac.steps l (λc a3=>∃g,a3=((c:Int),g,())/\g.length=l/\aH g/\ae (g.take c)+aF c*(f/2^e/aF c)=f/2^e) ⟨_,rfl,ab,aH.ko _,by simp[ae,tp]⟩ ?_ ?_
  ·rintro c _ ce ⟨g,rfl,aq,z,s⟩;have w:=i.get (n:=a+c) U;have a0:=i.getD (a+c+1);have D:decide ((c:Int)<au (List.replicate l (0:Int)))=true:=aC (by simp only[a1,ny];omega);have ai:ax ((a:Int)+(c:Int))=((a+c:Nat):Int):=(by rw[bf U U];simp);have R:aZ ((a+c:Nat):Int)=((a+c+1:Nat):Int):=br U;simp only[D,cond_true,ai,R,da (U:a+c<d.length),aQ];obtain⟨j,v,L,d0⟩:∃j,j=d[a+c]+4294967296*d.getD (a+c+1) 0/\0<=j/\j<18446744073709551616:=⟨_,rfl,U,U⟩;have Y:f/aF c=j+4294967296*(4294967296*ae (d.drop (a+c+2))):=by
    have m:d.drop a=(d.drop a).take c++d.drop (a+c):=by
     conv=>lhs;rw[<-kv c (d.drop a)]
     rw[oD]
    have r:f=ae ((d.drop a).take c)+aF c*ae (d.drop (a+c)):=by
     rw[u]
     conv=>lhs;rw[m]
     rw[mx,eD,kt,fW U]
    have F:=dY ((i.drop a).take c);have o:=fq ((i.drop a).take c);rw[eD,kt,fW U] at o;have C:ae (d.drop (a+c))=d[a+c]+4294967296*ae (d.drop (a+c+1)):=jl U;have V:ae (d.drop (a+c+1))=d.getD (a+c+1) 0+4294967296*ae (d.drop (a+c+2)):=by
     rcases bj (a+c+1) d.length with h|h
     ·rw[iO h];exact jl h
     rw[mX h,nv h,nv U];rfl
    rw[r,rE _ _ (by have:=ev c;omega),nr F o,C,V,v];grind
   have ad:f/2^e/aF c %4294967296=j/2^e %4294967296:=(by have m:f/2^e/aF c=f/aF c/2^e:=(by rw[p4 (eb B),p4 (eb (ev c)),gG]);rw[m,Y];have r:∀t:Int,j+4294967296*(4294967296*t)=j+2^e*(4294967296*(2^(32-e)*t)):=λt=>(by generalize(2:Int)^e=M at*;generalize(2:Int)^(32-e)=N at*;rw[show(4294967296:Int)*(4294967296*t)=(M*N)*(4294967296*t) by rw[<-G]];grind);rw[r,rE _ _ U,ts]);have an:0<=j/2^e:=k5 L (eb B);have cv:j/2^e<=j:=rF _ L;refine ac.aX (P:=λq=>q=(g.set c (j/2^e %4294967296),())) ?_ ?_
   ·refine ac.aX (P:=λq=>q=(j,g,())) ?_ ?_
    ·simp only[bo];refine ac.ite (λh=>?_) λh=>?_
     ·have h:a+c+1<d.length:=(by simp only[a1] at h;omega);rw[da h,aQ,bM (x:=d[a+c+1]) (by have:=i.get h;omega) (by have:=i.get h;omega),kZ aa aa];rw[iO h] at v a0;have S:d[a+c+1]*2^(32:Int).toNat %18446744073709551616=4294967296*d[a+c+1]:=by
       rw[show(2:Int)^(32:Int).toNat=4294967296 from rfl];omega
      rw[aQ,S,bM U U,kh 32 w.1 w.2 U U U U];refine ac.aj.2 ?_;rw[<-v]
     have h:d.length<=a+c+1:=(by simp only[a1] at h;omega);rw[mX h] at v;rw[bM U U];refine ac.aj.2 ?_;rw[v];simp
    rintro _ rfl;dsimp only;rw[bM (x:=(e:Int)) U U,pO U U,Option.bind_some,Int.toNat_natCast,n3 an U,k4 U];exact ac.aj.2 rfl
   rintro _ rfl;dsimp only;refine ac.aj.2 ⟨g.set c (j/2^e %4294967296),by rw[br U],by simp[aq],z.set U U,?_⟩;rw[fU (by simp;omega)];simp only[List.getElem_set_self];rw[List.take_set_of_le U,<-ad,fO,Int.mul_comm 4294967296 (aF c),<-Int.ediv_ediv_of_nonneg (Int.le_of_lt (ev c))];have W:=Int.emod_add_mul_ediv (f/2^e/aF c) 4294967296;generalize f/2^e/aF c %4294967296=q at*;generalize f/2^e/aF c/4294967296=ds at*;rw[<-W] at s;grind
  rintro _ ⟨g,rfl,aq,z,s⟩;simp only[ay (show¬((l:Int)<au (List.replicate l (0:Int))) by simp only[a1,ny];omega),cond_false];refine ac.aj.2 ⟨g,rfl,aq,z,?_⟩;have m:0<=f/2^e:=k5 H (eb B);have r:f/2^e<=f:=rF _ H;rw[nr m U,dC U] at s;simpa using s
 rintro _ ⟨g,rfl,aq,z,s⟩;refine ac.of_eq (ao (lE z (by show g.length<=_;omega)) rfl) ?_;show(fM g,_,())=_;rw[fM,s,Z]
section
def vB (a:IntKind) (b c:Int):dP a b c=dP a c b:=by unfold dP;rw[BitVec.or_comm]
def CW {x y:Int} (b:0<=x/\x<4294967296) (a:0<=y/\y<4294967296):fL .u64 x 32=some (4294967296*x)/\dP .u64 (4294967296*x) (aA y)=4294967296*x+y:=by
 constructor
 ·rw[kZ aa aa,show(2:Int)^(32:Int).toNat=4294967296 from rfl];congr 1;omega
 rw[bM a.1 U,vB,kh 32 a.1 a.2 U U U U,Int.add_comm]
def Cq {x y:Int} (a:0<=x/\x<18446744073709551616) (d:0<y):g1 .u64 x y=some (x/y)/\gj x y=some (x %y):=by
 constructor
 ·unfold g1;rw[al U,wh a.1];have c:x/y<=x:=rF _ a.1;have b:0<=x/y:=k5 a.1 U;rw[rp b U]
 unfold gj;rw[al U,wi a.1]
theorem Sz (n:aH d) (L:d.length<=10000000) (j:0<b) (I:b<4294967296):xx (d,b,())=some (bI (ae d/b).toNat,ae d %b,()):=by
 unfold xx;refine ac.eq_iff.1 ?_;simp only[a1,hR (U:d.length<=4294967296),aQ];refine ac.aX (P:=λr=>∃e,r=(ae d %b,e,())/\e.length=d.length/\aH e/\ae e=ae d/b) ?_ ?_
 ·refine ac.steps d.length (λf C=>∃e,C=(ae (d.drop (d.length-f)) %b,((d.length:Nat):Int)-1-f,e,())/\e.length=d.length/\aH e/\(∀a,a<d.length-f->(v:a<e.length)->e[a]=0)/\ae e=aF (d.length-f)*(ae (d.drop (d.length-f))/b)) ⟨List.replicate d.length 0,?_,ab,aH.ko _,ab,?_⟩ ?_ ?_
  ·rw[bf U U,nv U];simp[ae]
  ·rw[nv U];simp[ae,ow]
  ·rintro f _ J ⟨e,rfl,aq,g,h,i⟩;obtain⟨a,v⟩:∃a,d.length=a+1+f:=⟨d.length-1-f,U⟩;have ai:((d.length:Nat):Int)-1-(f:Int)=(a:Int):=U;have l:a<d.length:=U;rw[(U:d.length-f=a+1)] at*;have A:=n.get l;obtain⟨c,k⟩:∃c,c=ae (d.drop (a+1)):=⟨_,rfl⟩;have H:0<=c:=(by rw[k];exact dY (n.drop _));rw[<-k] at i|-;have w:0<=c %b:=nt _ U;have K:c %b<b:=oC _ j;obtain⟨D,E⟩:=CW (x:=c %b) (y:=d[a]) ⟨w,U⟩ A;obtain⟨F,G⟩:=Cq (x:=4294967296*(c %b)+d[a]) (y:=b) ⟨U,U⟩ j;have p:(4294967296*(c %b)+d[a])/b<4294967296:=by
    refine p5 j ?_;have:4294967296*(c %b)+d[a]<4294967296*(c %b+1):=U;have m:4294967296*(c %b+1)<=4294967296*b:=U;omega
   have q:0<=(4294967296*(c %b)+d[a])/b:=k5 U U;simp only[ai,aC (U:(a:Int)>=0),cond_true,da l,D,aQ];rw[E,bM (x:=b) U U,F,aQ,i4 q p,k4 U,G,aQ];have u:=g6 c b;have z:ae (d.drop a)=d[a]+4294967296*c:=(by rw[k];exact jl l);have o:ae (d.drop a)=(4294967296*(c %b)+d[a])+b*(4294967296*(c/b)):=(by rw[z];generalize c/b=M at*;generalize c %b=r at*;rw[<-u];grind);refine ac.aj.2 ⟨e.set a ((4294967296*(c %b)+d[a])/b),?_,by simp[aq],g.set q p,?_,?_⟩
   ·rw[(U:d.length-(f+1)=a),bf U U,o,ts];congr 2;omega
   ·intro B t m;rw[rK U];exact h B U (by simpa using m)
   rw[(U:d.length-(f+1)=a),o,rE _ _ U,k2 U,h a U U,i,fO];grind
  rintro _ ⟨e,rfl,aq,g,h,i⟩;have ai:¬(((d.length:Nat):Int)-1-(d.length:Int)>=0):=U;simp only[ay ai,cond_false];rw[Nat.sub_self] at i;refine ac.aj.2 ⟨e,ab,aq,g,?_⟩;rw[i,tp];simp
 rintro _ ⟨e,rfl,aq,g,h⟩;have t:ae d %b<b:=oC _ j;have s:0<=ae d %b:=nt _ U;refine ac.of_eq (ao (lE g (by show e.length<=_;omega)) rfl) ?_;show(fM e,bK (ae d %b),())=_;rw[fM,h,i4 s U]
section
variable {α B:Type}
def nC {c b f:List α} (e:a<b.length) (d:α->Option B):bC (c++(b++f)) (c.length+a) d=d b[a]:=by refine nD ?_;rw[lO U,lS,k9 e,bA e]
def zp {b c d:List α} (f:a<c.length) (e:α):(b++(c++d)).set (b.length+a) e=b++(c.set a e++d):=by rw[List.set_append_right _ _ U,lS,List.set_append_left _ _ f]
end
theorem L1 {v1 eu d f a c g:Int} (s:0<b) (j:d=(v1*4294967296+eu)*b+c) (q:f=(v*4294967296+a)*b+g) (k:0<=c) (r:g<b) (h:0<=e) (l:(v-e*v1)*4294967296+a<e*eu):f<e*d:=by have i:v*4294967296+a+1<=e*(v1*4294967296+eu):=(by grind);have m:(v*4294967296+a+1)*b<=e*(v1*4294967296+eu)*b:=jU i U;have n:0<=e*c:=kq h k;have o:e*d=e*(v1*4294967296+eu)*b+e*c:=(by rw[j];grind);have p:(v*4294967296+a+1)*b=(v*4294967296+a)*b+b:=(by grind);omega
theorem L2 {v1 eu a f c d g:Int} (t:0<e) (j:a=(v1*4294967296+eu)*e+v) (q:f=(c*4294967296+d)*e+g) (s:0<=v/\v<e) (r:0<=g) (h:0<=b/\b<4294967296) (u:1<=v1) (w:0<=eu) (k:b*eu<=(c-b*v1)*4294967296+d):b*a<f+a:=by have i:b*(v1*4294967296+eu)<=c*4294967296+d:=(by grind);have l:b*(v1*4294967296+eu)*e<=(c*4294967296+d)*e:=jU i U;have m:b*v<=b*e:=i7 U h.1;have n:b*a=b*(v1*4294967296+eu)*e+b*v:=(by rw[j];grind);have o:b*e<=4294967295*e:=jU U U;have p:4294967296*e<=(v1*4294967296+eu)*e:=jU U U;omega
end
theorem C3 (c:d.length=a+2):ae d=(d[a+1]*4294967296+d[a])*aF a+ae (d.take a):=by have b:ae d=ae (d.take (a+1))+aF (a+1)*d[a+1]:=(by rw[<-fU U,dC U]);rw[b,fU U,fO];grind
theorem Ty (c:d.length=a+3):ae d=((d[a+2]*4294967296+d[a+1])*4294967296+d[a])*aF a+ae (d.take a):=by have b:ae d=ae (d.take (a+2))+aF (a+2)*d[a+2]:=(by rw[<-fU U,dC U]);rw[b,fU U,fU U];simp only[fO];grind
structure tr (v w:cP) (n:Nat):Prop where
 hv:aH v
 hw:aH w
 pY:v.length=n+2
 wn:w.length=n+3
 GA:n<=10000000
 top:2147483648<=v[n+1]
 lt:ae w<4294967296*ae v
def tr.Je {n:Nat} (a:tr d f n):0<ae d:=by
 have b:=C3 a.pY;have c:=dY (a.hv.take n);have e:=a.hv.get (n:=n) (by have:=a.pY;omega);have g:=a.top;have h:0<(d[n+1]'(by have:=a.pY;omega)*4294967296+d[n]'(by have:=a.pY;omega))*aF n:=mA U (ev n)
 omega
theorem L3 {n:Nat} (h:tr f d n) (o:b=(4294967296*d[n+2]'(by have:=h.wn;omega)+d[n+1]'(by have:=h.wn;omega))/f[n+1]'(by have:=h.pY;omega)) (S:e=(4294967296*d[n+2]'(by have:=h.wn;omega)+d[n+1]'(by have:=h.wn;omega)) %f[n+1]'(by have:=h.pY;omega)):ac (loop (σ:=(cy×Int×Int×a7×Unit)) (ρ:=(cy×Int×a7×Unit)) (λ(p,r,E,A,_)=>
 Option.bind (α:=(cy×a7×Unit)⊕((cy×Int×Int×a7×Unit)⊕(cy×Int×a7×Unit))) (bif decide (r>4294967295)==false then(aL f (ax (au f-2))).bind λd7=>
 (fL IntKind.u64 E 32).bind λd8=>
 (bL (p.2-p.1) (ax (au f-2))).bind λd3=>
 (bC A (p.1+d3) λbl=>some bl).bind λd9=>
  bif decide (aA (r*aA d7)>dP IntKind.u64 d8 (aA d9)) then
 some (.inl (p,A,())) else
 some (.inr (.inr (p,r,A,()))) else some (.inl (p,A,()))) λa=>match a with
 |.inl (W,X,_)=>(
 (aL f (ax (au f-1))).bind λs=>
  bif decide (aA (E+aA s)>4294967295) then
 some (.inr (W,aA (r-1),X,())) else
 some (.inl (W,aA (r-1),aA (E+aA s),X,())))
 |.inr i=>some i) ((g.length,g.length+d.length),b,e,g++(d++t),())) (λi=>∃a,i=((g.length,g.length+d.length),a,g++(d++t),())/\0<=a/\a<4294967296/\ae d/ae f<=a/\a*ae f<ae d+ae f):=by
 have d1:=h.pY;have d2:=h.wn;have f0:=h.GA;have P:=h.Je;have gf:=h.hv.get (n:=n+1) U;have z:=h.hv.get (n:=n) U;have f5:=h.hw.get (n:=n+2) U;have f6:=h.hw.get (n:=n+1) U;have d0:=h.hw.get (n:=n) U;have f4:=h.top;have C:=C3 d1;have u:=Ty d2;have H:=dY (h.hv.take n);have I:=fq (h.hv.take n);have Z:=dY (h.hw.take n);have J:=fq (h.hw.take n);rw[eD,fW U] at I J;have dl:=h.lt;have D:=ev n;have ai:ax (au f-1)=((n+1:Nat):Int):=(by simp only[a1];rw[bf U U];omega);have a4:ax (au f-2)=((n:Nat):Int):=(by simp only[a1];rw[bf U U];omega);have bs:aL f ((n+1:Nat):Int)=some f[n+1]:=da U;have ce:aL f ((n:Nat):Int)=some f[n]:=da U;have ci:∀v:Int->cJ,bC (g++(d++t)) (g.length+n) v=v d[n]:=λv=>nC U v;generalize f7:f[n+1]=v1 at*;generalize f8:f[n]=eu at*;generalize f9:d[n+2]=G at*;generalize gc:d[n+1]=d6 at*;generalize ge:d[n]=j at*;obtain⟨c,T⟩:∃c,c=4294967296*G+d6:=⟨_,rfl⟩;rw[<-T] at o S;have u:ae d=(c*4294967296+j)*aF n+ae (d.take n):=(by rw[u,T];grind);have ft:G<=v1:=by
  rcases g7 v1 G with k|k
  ·exfalso;have ad:(v1*4294967296+eu+1)*aF n<=(v1*4294967296+4294967296)*aF n:=jU U U;have K:((v1+1)*4294967296*4294967296)*aF n<=(c*4294967296+j)*aF n:=jU U U;have am:(v1*4294967296+eu+1)*aF n=(v1*4294967296+eu)*aF n+aF n:=(by grind);have an:((v1+1)*4294967296*4294967296)*aF n=4294967296*((v1*4294967296+4294967296)*aF n):=(by grind);omega
  exact k
 have fn:0<=ae d/ae f:=k5 (dY h.hw) U;have fp:ae d/ae f<4294967296:=p5 P dl;have ds:0<=c:=U;have fs:=g6 c v1;have f2:0<=c %v1:=nt _ U;have f3:c %v1<v1:=oC _ U;have f1:0<=c/v1:=k5 ds U;have ap:∀a,0<=a->(c-a*v1)*4294967296+j<a*eu->ae d/ae f<a:=λa o h=>(by have:=L1 D C u H J o h;exact p5 P this);have O:∀a,0<=a->a<4294967296->a*eu<=(c-a*v1)*4294967296+j->a*ae f<ae d+ae f:=λa co cs h=>L2 D C u ⟨H,I⟩ Z ⟨co,cs⟩ U z.1 h;refine ac.loop (λF=>∃a i,F=((g.length,g.length+d.length),a,i,g++(d++t),())/\0<=a/\a<=4294967297/\0<=i/\i<4294967296/\i=c-a*v1/\ae d/ae f<=a) (λF=>F.2.1.toNat) ⟨b,e,rfl,U,?_,U,U,?_,?_⟩ ?_
 ·rw[o];have:c<4294967298*v1:=U;have:=p5 U this;omega
 ·rw[o,S,gG];omega
 ·rcases g7 (c/v1) (ae d/ae f) with k|k
  ·exfalso;have ad:(c/v1+1)*ae f<=ae d:=by
    have m:(c/v1+1)*ae f<=ae d/ae f*ae f:=jU U U;have av:=g6 (ae d) (ae f);have L:=nt (ae d) (U:ae f≠0);rw[gG (ae d/ae f)] at m;omega
   have K:(c+1)*4294967296<=(c/v1+1)*(v1*4294967296):=(by have:(c/v1+1)*(v1*4294967296)=(v1*(c/v1)+v1)*4294967296:=(by grind);omega);have am:(c+1)*4294967296*aF n<=(c/v1+1)*(v1*4294967296)*aF n:=jU K U;have an:0<=(c/v1+1)*(eu*aF n+ae (f.take n)):=kq U (by have:=kq z.1 (eb D);omega);have el:(c/v1+1)*ae f=(c/v1+1)*(v1*4294967296)*aF n+(c/v1+1)*(eu*aF n+ae (f.take n)):=(by rw[C];grind);have em:(j+1)*aF n<=4294967296*aF n:=jU U U;have eq:(c*4294967296+j)*aF n+aF n=c*4294967296*aF n+(j+1)*aF n:=(by grind);have ex:(c+1)*4294967296*aF n=c*4294967296*aF n+4294967296*aF n:=(by grind);omega
  rw[o];exact k
 rintro _ ⟨a,i,rfl,m,av,L,a0,M,a3⟩;have w:∀a,(a-1)*v1=a*v1-v1:=λa=>(by grind);have N:ae d/ae f<a->ac ((aL f (ax (au f-1))).bind λs=>
  bif decide (aA (i+aA s)>4294967295) then
 some (.inr ((g.length,g.length+d.length),aA (a-1),g++(d++t),())) else
 some (
  .inl ((g.length,g.length+d.length),aA (a-1),aA (i+aA s),g++(d++t),()))) (λ(Y:(cy×Int×Int×a7×Unit)⊕(cy×Int×a7×Unit))=>match Y with
  |.inl V=>(∃a i,V=((g.length,g.length+d.length),a,i,g++(d++t),())/\0<=a/\a<=4294967297/\0<=i/\i<4294967296/\i=c-a*v1/\ae d/ae f<=a)/\V.2.1.toNat<a.toNat
  |.inr i=>∃a,i=((g.length,g.length+d.length),a,g++(d++t),())/\0<=a/\a<4294967296/\ae d/ae f<=a/\a*ae f<ae d+ae f):=by
  intro fz;rw[ai,bs,aQ,bM (x:=v1) U U,bM (x:=i+v1) U U,bM (x:=a-1) U U,bo];refine ac.ite (λk=>?_) λk=>?_
  ·refine ac.aj.2 ⟨a-1,rfl,U,?_,U,?_⟩
   ·rcases g7 (a-1) 4294967296 with l|l
    ·exact l
    exfalso;have:=jU l (U:0<=v1);rw[w] at this;omega
   have cv:a-1<4294967296:=by
    rcases g7 (a-1) 4294967296 with l|l
    ·exact l
    exfalso;have:=jU l (U:0<=v1);rw[w] at this;omega
   refine O (a-1) U cv ?_;rw[w];have gl:(a-1)*eu<=4294967295*eu:=jU U z.1;omega
  refine ac.aj.2 ⟨⟨a-1,i+v1,rfl,U,U,U,U,?_,U⟩,?_⟩
  ·rw[w];omega
  show(a-1).toNat<a.toNat;omega
 by_cases Q:a>4294967295
 ·simp only[aC Q,show(true==false)=false from rfl,cond_false,aQ];refine(N U).mono ?_;rintro(B|B) q
  ·exact q
  exact q
 simp only[ay Q,beq_self_eq_true,cond_true,a4,ce,aQ];obtain⟨d4,d5⟩:=CW (x:=i) (y:=j) ⟨L,a0⟩ d0;have fT:=yU (x:=a) (y:=eu) ⟨m,U⟩ z;rw[d4,aQ];simp only[lS,gU (U:n<d.length),aQ,ci,d5];rw[bM (x:=eu) U U,bM (x:=a*eu) U U];by_cases R:a*eu>4294967296*i+j
 ·simp only[aC R,cond_true,aQ];refine(N (ap a m (by rw[<-M];omega))).mono ?_;rintro(B|B) q
  ·exact q
  exact q
 simp only[ay R,cond_false,aQ];exact ac.aj.2 ⟨a,rfl,m,U,a3,O a m U (by rw[<-M];omega)⟩
theorem S5 (W:aH d) (X:aH f) (cv:d.length<f.length) (co:f.length<=100000000) (V:0<=b/\b<4294967296) (R:∀h e a,a.length=f.length->aH a->(∀(Q:d.length<a.length) (m:d.length<f.length),a[d.length]=f[d.length])->0<=h->h<4294967296->0<=e->e<=1->ae a-aF d.length*(h+e)=ae f-b*ae d->w ((g.length,g.length+f.length),h,e,g++(a++t),())):ac (loop (σ:=(cy×Int×Int×Int×a7×Unit)) (ρ:=(cy×Int×Int×a7×Unit)) (λ(k,p,r,o,q,_)=>
 bif decide (o<au d) then
 (aL d o).bind λz=>
 (db IntKind.u64 (aA (aA (b*aA z)+p)) 32).bind λa0=>
 (bL (k.2-k.1) o).bind λad=>
 (bC q (k.1+ad) λO=>some O).bind λK=>
 (bL (k.2-k.1) o).bind λG=>
 (bC q (k.1+G) λ_=>some (q.set (k.1+G) (bK (bT IntKind.u64 (aA (aA (aA K-bT IntKind.u64 (aA (aA (b*aA z)+p)) 4294967295)-r)) 4294967295)))).bind λa4=>
 (db IntKind.u64 (aA (aA (aA K-bT IntKind.u64 (aA (aA (b*aA z)+p)) 4294967295)-r)) 32).bind λa3=>
 some (.inl (k,a0,bT IntKind.u64 a3 1,aZ o,a4,())) else
 some (.inr (k,p,r,q,()))) ((g.length,g.length+f.length),0,0,0,g++(f++t),())) w:=by
 refine ac.steps d.length (λc ap=>∃h e a,ap=((g.length,g.length+f.length),h,e,(c:Int),g++(a++t),())/\a.length=f.length/\aH a/\(∀l,c<=l->(Q:l<a.length)->(m:l<f.length)->a[l]=f[l])/\0<=h/\h<4294967296/\0<=e/\e<=1/\ae a-aF c*(h+e)=ae f-b*ae (d.take c)) ⟨0,0,f,rfl,rfl,X,λ_ _ _ _=>rfl,U,U,U,U,by simp[ae]⟩ ?_ ?_
 ·rintro c _ y ⟨h,e,a,rfl,s,m,u,A,B,C,D,v⟩;have Y:=W.get y;have dl:=m.get (n:=c) U;have cs:=yU V Y;obtain⟨j,T,H,I⟩:∃j,j=b*d[c]+h/\0<=j/\j<18446744073709551616:=⟨_,rfl,U,U⟩;simp only[aC (show(c:Int)<au d by simp only[a1];omega),cond_true,da y,aQ];have ai:aA (aA (b*aA d[c])+h)=j:=by
   rw[bM (x:=d[c]) U U,bM (x:=b*d[c]) U U,<-T,bM H I]
  rw[ai];obtain⟨i,S,bs,ce⟩:∃i,i=a[c]-j %4294967296-e/\-4294967296<=i/\i<4294967296:=⟨_,rfl,U,U⟩;have N:aA (aA (aA a[c]-bT IntKind.u64 j 4294967295)-e)=i %18446744073709551616:=(by rw[and_low32 H I,kn,kn,kn,S];omega);have aq:i %18446744073709551616/4294967296 %2^1=-(i/4294967296):=(by rw[show(2:Int)^1=2 from rfl];omega);have an:i %18446744073709551616 %4294967296=i %4294967296:=U;simp only[k1,lS,gU (U:c<f.length),aQ,nC (U:c<a.length),N,n3 (U:0<=i %18446744073709551616) U,zp (U:c<a.length)];rw[oO 1 U U 1 aa aa,aq,an];refine ac.aj.2 ⟨j/4294967296,-(i/4294967296),a.set c (i %4294967296),by rw[br U],by simp[s],m.set U U,?_,U,U,U,U,?_⟩
  ·intro l E F Z;rw[rK U];exact u l U U Z
  rw[k2 U,fO,fU y];have ci:=g6 i 4294967296;have f2:=g6 j 4294967296;generalize i/4294967296=L at*;generalize i %4294967296=M at*;generalize j/4294967296=am at*;generalize j %4294967296=J at*;generalize a[c]=av at*;have P:J=b*d[c]+h-4294967296*am:=U;generalize d[c]=bl at*;have f4:M=av-J-e-4294967296*L:=U;rw[f4,P];grind
 rintro _ ⟨h,e,a,rfl,s,m,u,A,B,C,D,v⟩;simp only[ay (show¬((d.length:Int)<au d) by simp only[a1];omega),cond_false];rw[dC (a2 _)] at v;exact ac.aj.2 (R h e a s m (λE F=>u _ (a2 _) E F) A B C D v)
theorem Kd (L:aH d) (M:aH f) (W:d.length<f.length) (V:f.length<=100000000) (J:∀c a,a.length=f.length->aH a->(∀(I:d.length<a.length) (j:d.length<f.length),a[d.length]=f[d.length])->0<=c->c<=1->ae a+aF d.length*c=ae f+ae d->y ((g.length,g.length+f.length),c,g++(a++t),())):ac (loop (σ:=(cy×Int×Int×a7×Unit)) (ρ:=(cy×Int×a7×Unit)) (λ(h,m,k,l,_)=>
 bif decide (k<au d) then
 (aL d k).bind λB=>
 (bL (h.2-h.1) k).bind λO=>
 (bC l (h.1+O) λH=>some H).bind λC=>
 (bL (h.2-h.1) k).bind λz=>
 (bC l (h.1+z) λ_=>some (l.set (h.1+z) (bK (bT IntKind.u64 (aA (aA (aA C+aA B)+m)) 4294967295)))).bind λS=>
 (db IntKind.u64 (aA (aA (aA C+aA B)+m)) 32).bind λR=>
 some (.inl (h,R,aZ k,S,())) else
 some (.inr (h,m,l,()))) ((g.length,g.length+f.length),0,0,g++(f++t),())) y:=by
 refine ac.steps d.length (λb P=>∃c a,P=((g.length,g.length+f.length),c,(b:Int),g++(a++t),())/\a.length=f.length/\aH a/\(∀i,b<=i->(I:i<a.length)->(j:i<f.length)->a[i]=f[i])/\0<=c/\c<=1/\ae a+aF b*c=ae f+ae (d.take b)) ⟨0,f,rfl,rfl,M,λ_ _ _ _=>rfl,U,U,by simp[ae]⟩ ?_ ?_
 ·rintro b _ r ⟨c,a,rfl,o,j,p,s,u,q⟩;have X:=L.get r;have Y:=j.get (n:=b) U;obtain⟨e,K,A,Z⟩:∃e,e=a[b]+d[b]+c/\0<=e/\e<8589934592:=⟨_,rfl,U,U⟩;simp only[aC (show(b:Int)<au d by simp only[a1];omega),cond_true,da r,aQ];have G:aA (aA (aA a[b]+aA d[b])+c)=e:=by
   rw[bM (x:=d[b]) U U,bM (x:=a[b]) U U,bM (x:=a[b]+d[b]) U U,<-K,bM A U]
  simp only[k1,lS,gU (U:b<f.length),aQ,nC (U:b<a.length),G,n3 A (U:e<18446744073709551616),zp (U:b<a.length)];refine ac.aj.2 ⟨e/4294967296,a.set b (e %4294967296),by rw[br U],by simp[o],j.set U U,?_,U,U,?_⟩
  ·intro i v w N;rw[rK U];exact p i U U N
  rw[k2 U,fO,fU r];have T:=g6 e 4294967296;generalize e/4294967296=E at*;generalize e %4294967296=F at*;generalize a[b]=Q at*;generalize d[b]=D at*;have f4:F=Q+D+c-4294967296*E:=U;rw[f4];grind
 rintro _ ⟨c,a,rfl,o,j,p,s,u,q⟩;simp only[ay (show¬((d.length:Int)<au d) by simp only[a1];omega),cond_false];rw[dC (a2 _)] at q;exact ac.aj.2 (J c a o j (λv w=>p _ (a2 _) v w) s u q)
theorem Lt {g f a c h d:Int} (m:g+b*a=f+e) (l:f=h-c*e-b*(4294967296*-1)):g+b*(d+a-4294967296*v-d)=h-(c-1)*e+b*(4294967296*(1-v)):=by have ai:b*(d+a-4294967296*v-d)=b*a-b*(4294967296*v):=(by grind);have i:(c-1)*e=c*e-e:=(by grind);have j:b*(4294967296*(1-v))=b*4294967296-b*(4294967296*v):=(by grind);have k:b*(4294967296*-1)=-(b*4294967296):=(by grind);omega
theorem Lu {d h g f c a:Int} (i:d-b*(v+e)=f-h*g):d+b*(c-v-e-4294967296*a-c)=f-h*g-b*(4294967296*a):=by have ai:b*(c-v-e-4294967296*a-c)=-(b*(v+e))-b*(4294967296*a):=(by grind);omega
def ac.bs {d:Type} {c:Option n} {b:n->Option d} {a:d->Prop} {y:n} (e:c=some y) (f:ac (b y) a):ac (c.bind b) a:=by rw[e];exact f
theorem Lv {A C:cP} {n:Nat} (i:tr d f n):ac (ur ((A++(f++C),A.length,A.length+f.length),d,())) (λq=>∃b,q=(A++(b++C),ae f/ae d,())/\b.length=f.length/\aH b/\ae b=ae f %ae d):=by
 have H:=i.pY;have ds:=i.wn;have fp:=i.GA;have k:=i.Je;have av:=dY i.hw;have ft:=i.top;have Q:=i.hv.get (n:=n+1) U;have O:=i.hw.get (n:=n+2) U;have cv:=i.hw.get (n:=n+1) U;have D:au d=((n+2:Nat):Int):=(by simp only[a1];omega);have ai:ax (((n+2:Nat):Int)-1)=((n+1:Nat):Int):=(by rw[bf U U];omega);have an:aL d ((n+1:Nat):Int)=some d[n+1]:=da U;obtain⟨d0,ad⟩:=CW (x:=f[n+2]) (y:=f[n+1]) O cv;obtain⟨d1,d2⟩:=Cq (x:=4294967296*f[n+2]+f[n+1]) (y:=d[n+1]) ⟨U,U⟩ U;unfold ur;have m:bL (A.length+f.length-A.length) (au d)=some (n+2):=(by rw[lS,D];exact gU U);have i1:bL (A.length+f.length-A.length) (ax (au d-1))=some (n+1):=(by rw[lS,D,ai];exact gU U);have R:aL d (ax (au d-1))=some d[n+1]:=(by rw[D,ai];exact an);refine ac.bs m (ac.bs (nC U _) (ac.bs (by rw[bM O.1 U];exact d0) (ac.bs i1 (ac.bs (nC U _) (ac.bs R (ac.bs (by rw[ad,bM Q.1 U];exact d1) (ac.bs R (ac.bs (by rw[ad,bM Q.1 U];exact d2) ?_))))))));refine ac.aX (L3 i rfl rfl) ?_;rintro _ ⟨g,rfl,Z,aq,f1,f3⟩;refine ac.aX (P:=λq=>∃e j b,q=((A.length,A.length+f.length),e,j,A++(b++C),())/\b.length=f.length/\aH b/\0<=e/\e<4294967296/\0<=j/\j<=1/\(∀(i:d.length<b.length) (L:d.length<f.length),b[d.length]=f[d.length])/\ae b-aF d.length*(e+j)=ae f-g*ae d) (S5 i.hv i.hw U U ⟨Z,aq⟩ λe j b p v T V W X Y w=>⟨e,j,b,rfl,p,v,V,W,X,Y,T,w⟩) ?_;rintro _ ⟨e,j,b,rfl,p,v,V,W,X,Y,T,w⟩;have fz:=v.get (n:=n+2) U;obtain⟨c,a0,d5,d6⟩:∃c,c=b[n+2]-e-j/\-4294967296<=c/\c<4294967296:=⟨_,rfl,U,U⟩;have K:aA (aA (aA b[n+2]-e)-j)=c %18446744073709551616:=(by rw[kn,kn,kn,a0];omega);have d3:c %18446744073709551616/4294967296 %2^1=-(c/4294967296):=(by rw[show(2:Int)^1=2 from rfl];omega);have d4:c %18446744073709551616 %4294967296=c %4294967296:=U;refine ac.bs m (ac.bs (nC U _) (ac.bs m (ac.bs (y:=A++(b.set (n+2) (c %4294967296)++C)) ?_ (ac.bs (y:=c %18446744073709551616/4294967296) ?_ ?_))))
 ·rw[nC U,K,n3 U U,zp U,d4]
 ·rw[K,k1]
 rw[oO 1 U U 1 aa aa,d3];have el:=ev (n+2);have co:ae (b.set (n+2) (c %4294967296))=ae b+aF (n+2)*(c %4294967296-b[n+2]):=k2 U _;have r:aH (b.set (n+2) (c %4294967296)):=v.set U U;rw[H] at w;have d7:=g6 c 4294967296;have s:ae (b.set (n+2) (c %4294967296))=ae f-g*ae d-aF (n+2)*(4294967296*(c/4294967296)):=(by rw[co];generalize c/4294967296=z at*;generalize c %4294967296=B at*;have:B=b[n+2]-e-j-4294967296*z:=U;rw[this];exact Lu w);have bl:=fq r;have em:=dY r;rw[List.length_set,p,ds,(U:n+3=(n+2)+1),fO] at bl;have M:=g6 (ae f) (ae d);have ex:=nt (ae f) (U:ae d≠0);have fn:=oC (ae f) k;rw[dD,bo];refine ac.ite (λam=>?_) λam=>?_
 ·have F:c/4294967296=0:=U;rw[F] at s;have l:ae f/ae d=g:=by
   have E:g*ae d<=ae f:=U;have L:g<=ae f/ae d:=(Int.le_ediv_iff_mul_le k).2 E;omega
  rw[bw (by simp;omega),i4 Z aq];refine ac.aj.2 ⟨_,by rw[l],by simp[p],r,?_⟩;rw[s];rw[l] at M;rw[gG g];omega
 have F:c/4294967296=-1:=U;rw[F] at s;have l:ae f/ae d=g-1:=(by have E:ae f<g*ae d:=U;have L:ae f/ae d<g:=p5 k E;have d8:(g-1)*ae d<ae f+1:=(by have:(g-1)*ae d=g*ae d-ae d:=(by grind);omega);have d9:g-1<=ae f/ae d:=(Int.le_ediv_iff_mul_le k).2 U;omega);have fs:=k5 av (eb k);have G:(b.set (n+2) (c %4294967296)).length=f.length:=(by simp[p]);rw[<-G];refine ac.aX (P:=λq=>∃e a,q=((A.length,A.length+(b.set (n+2) (c %4294967296)).length),e,A++(a++C),())/\a.length=f.length/\aH a/\0<=e/\e<=1/\ae a+aF d.length*e=ae (b.set (n+2) (c %4294967296))+ae d) (Kd i.hv r U U λe a I o f0 J S u=>⟨e,a,rfl,by rw[I,G],o,J,S,u⟩) ?_;rintro _ ⟨h,a,rfl,I,o,J,S,u⟩;rw[G];have fT:=o.get (n:=n+2) U;refine ac.bs m (ac.bs (nC U _) (ac.bs m (ac.bs (y:=A++(a.set (n+2) ((a[n+2]+h) %4294967296)++C)) ?_ ?_)))
 ·rw[nC U,zp U,i4 J U,nl]
 rw[bw (by simp;omega),bM U U,i4 U U];refine ac.aj.2 ⟨a.set (n+2) ((a[n+2]+h) %4294967296),by rw[l],by simp[I],o.set U U,?_⟩;have cs:ae (a.set (n+2) ((a[n+2]+h) %4294967296))=ae a+aF (n+2)*((a[n+2]+h) %4294967296-a[n+2]):=k2 U _;have N:aH (a.set (n+2) ((a[n+2]+h) %4294967296)):=o.set U U;have ce:=fq N;have eq:=dY N;have a4:(a.set (n+2) ((a[n+2]+h) %4294967296)).length=(n+2)+1:=(by rw[List.length_set];omega);rw[a4,fO] at ce;have f2:=g6 (a[n+2]+h) 4294967296;rw[H] at u;have t:ae (a.set (n+2) ((a[n+2]+h) %4294967296))=ae f-(g-1)*ae d+aF (n+2)*(4294967296*(1-(a[n+2]+h)/4294967296)):=(by rw[cs];generalize(a[n+2]+h)/4294967296=z at*;generalize(a[n+2]+h) %4294967296=B at*;have:B=a[n+2]+h-4294967296*z:=U;rw[this];exact Lt u s);rw[l] at M;have a3:ae f-(g-1)*ae d=ae f %ae d:=(by rw[gG (g-1)];omega);rw[a3] at t;have dl:=fq i.hv;rw[H] at dl;have ci:(a[n+2]+h)/4294967296=1:=by
  rcases g7 0 ((a[n+2]+h)/4294967296) with ap|ap
  ·omega
  exfalso;have:(a[n+2]+h)/4294967296=0:=U;rw[this] at t;omega
 rw[ci] at t;rw[t];simp
def uU (a:0<=b):ae (bI b.toNat)=b:=by rw[iL];omega
def O1 {n:Nat} (f:aH d) (m:dq d) (u:d.length=n+2):∃c:Nat,c<=31/\xz (d[n+1],())=some ((c:Int),())/\ae d*2^c<aF (n+2)/\2147483648*aF (n+1)<=ae d*2^c:=by
 have l:=f.get (n:=n+1) U;have q:d[n+1]≠0:=m _ (by rw[List.getLast?_eq_getElem?,bA U];congr 2;omega);have h:ae d=ae (d.take (n+1))+aF (n+1)*d[n+1]:=(by rw[<-fU U,dC U]);have r:=dY (f.take (n+1));have j:=fq (f.take (n+1));rw[eD,fW U] at j;generalize d[n+1]=v at*;obtain⟨a,rfl⟩:=ea l.1;have i:0<a:=U;have t:aw a<=32:=bY.2 U;have s:=nH i;obtain⟨g,o⟩:=nF i;obtain⟨b,k⟩:∃b,aw a=b+1:=⟨aw a-1,U⟩;refine⟨32-aw a,U,?_,?_,?_⟩
 ·unfold xz;refine ao (FT (n:=a) U) ?_;show some (ax (32-(aw a:Int)),())=_;rw[bf U U];congr 2;omega
 ·have ai:ae d<aF (n+1)*2^aw a:=by
   have:aF (n+1)*((a:Int)+1)<=aF (n+1)*2^aw a:=i7 (by rw[<-jI];omega) (eb (ev _));have p:aF (n+1)*((a:Int)+1)=aF (n+1)*(a:Int)+aF (n+1):=(by rw[Int.mul_add,Int.mul_one]);show ae d<_;rw[h];show ae (d.take (n+1))+aF (n+1)*(a:Int)<_;omega
  have e:ae d*2^(32-aw a)<aF (n+1)*2^aw a*2^(32-aw a):=rG ai (hT _);rw[fP,<-iC,(U:aw a+(32-aw a)=32)] at e;rw[fO,gG];rw[gG];have:aF (n+1)*2^32=4294967296*aF (n+1):=(by rw[gG];rfl);omega
 have ai:aF (n+1)*2^b<=ae d:=(by have:aF (n+1)*2^b<=aF (n+1)*(a:Int):=i7 (by rw[<-jI];rw[k] at g;simp only[tF] at g;omega) (eb (ev _));rw[h];show _<=ae (d.take (n+1))+aF (n+1)*(a:Int);omega);have e:aF (n+1)*2^b*2^(32-aw a)<=ae d*2^(32-aw a):=jU ai (eb (hT _));rw[fP,<-iC,(U:b+(32-aw a)=31)] at e;have:aF (n+1)*2^31=2147483648*aF (n+1):=(by rw[gG];rfl);omega
def Lx (g:ae d=b) (e:aH d) (l:dq d) (q:b<aF (a+2)) (r:2147483648*aF (a+1)<=b):∃c:d.length=a+2,2147483648<=d[a+1]:=by
 have t:=ev (a+1);have k:d.length=a+2:=by
  have o:=fq e;have h:d≠[]:=λi=>(by rw[i] at g;simp only[ae] at g;omega);have p:=dq.low e l h;rcases qf d.length (a+2) with c|c|c
  ·have:=mj (m:=d.length) (n:=a+1) U;omega
  ·exact c
  have:=mj (m:=a+2) (n:=d.length-1) U;omega
 refine⟨k,?_⟩;have s:ae d=ae (d.take (a+1))+aF (a+1)*d[a+1]:=(by rw[<-fU U,dC U]);have j:=fq (e.take (a+1));rw[eD,fW U] at j;rcases g7 d[a+1] 2147483648 with f|f
 ·exfalso;have:aF (a+1)*(d[a+1]+1)<=aF (a+1)*2147483648:=i7 U U;rw[Int.mul_add,Int.mul_one] at this;omega
 exact f
theorem Ly {g c h f d a:Int} (k:(f+b*(h+a))+e*c=g) (i:h=e*v+d):(f+b*(d+a))+e*(c+b*(v-0))=g:=by subst i;have ai:b*(e*v+d+a)=b*(d+a)+b*(e*v):=(by grind);have j:e*(c+b*(v-0))=e*c+b*(e*v):=(by grind);omega
def Lw {n:Nat} (z:aH d) (J:ae d=b) (d6:b<aF (n+2)) (L:d.length=n+2) (ap:2147483648<=d[n+1]) (ce:n<=10000000) (av:aH f) (Y:ae f=e) (W:f.length=c) (eq:c=a+(n+2)) (d5:c<=10000000) (ad:ae (f.drop a)<b) {H:jv->Prop} (X:∀i h,i.length=a->aH i->h.length=c->aH h->ae h+b*ae i=e->ae h<b->H (i,h,())):ac (loop (σ:=(Int×a7×a7×Unit)) (ρ:=jv) (λ(r,P,u,_)=>
 bif decide (r>=0) then
 ((fD r).bind λM=>(fD (aZ (ax (r+au d)))).bind λN=>(gg M N u.length).bind λ_=>(zc u.length).map λ_=>(M,N)).bind λt=>
  bif Nat.blt t.1 t.2 then
 (ur ((u,t.1,t.2),d,())).bind λ(bs,ci,_)=>
 wr P r ci λds=>
 some (.inl (ax (r-1),ds,bs,())) else none else
 some (.inr (P,u,()))) (ax (au (List.replicate a (0:Int))-1),List.replicate a (0:Int),f,())) H:=by
 have K:0<b:=(by have o:=C3 L;have q:=dY (z.take n);have d1:=z.get (n:=n) U;have d2:0<(d[n+1]*4294967296+d[n])*aF n:=mA U (ev n);omega);refine ac.steps a (λl co=>∃i h,co=(((a:Nat):Int)-1-l,i,h,())/\i.length=a/\aH i/\(∀g,g<a-l->(Z:g<i.length)->i[g]=0)/\h.length=c/\aH h/\ae h+b*ae i=e/\ae (h.drop (a-l))<b) ⟨List.replicate a 0,f,?_,ab,aH.ko _,ab,W,av,by rw[ow,Y];omega,ad⟩ ?_ ?_
 ·rw[show ax (au (List.replicate a (0:Int))-1)=(a:Int)-1-((0:Nat):Int) from ?_];simp only[a1,ny];rw[bf U U];omega
 ·rintro l _ el ⟨i,h,rfl,aq,E,F,G,p,o,q⟩;obtain⟨g,Z⟩:∃g,a=g+1+l:=⟨a-1-l,U⟩;have ai:((a:Nat):Int)-1-(l:Int)=(g:Int):=U;rw[(U:a-l=g+1)] at q;have R:aZ (ax ((g:Int)+au d))=((g+(n+3):Nat):Int):=by
   simp only[a1];rw[bf U U,(U:(g:Int)+(d.length:Int)=((g+(n+2):Nat):Int)),br U];rfl
  simp only[ai,aC (U:(g:Int)>=0),cond_true,R,vt,aQ,yG (U:g<=g+(n+3)/\g+(n+3)<=h.length),Rs (U:0<h.length),hl,show Nat.blt g (g+(n+3))=true from by simp];obtain⟨m,v⟩:∃m,m=h.take g:=⟨_,rfl⟩;obtain⟨j,B⟩:∃j,j=(h.drop g).take (n+3):=⟨_,rfl⟩;obtain⟨k,x⟩:∃k,k=h.drop (g+(n+3)):=⟨_,rfl⟩;have w:m.length=g:=(by rw[v,eD];omega);have s:j.length=n+3:=(by rw[B,eD,kt];omega);have y:h=m++(j++k):=(by rw[v,B,x,<-oD,kv,kv]);have d3:k.length=c-(g+(n+3)):=(by rw[x,kt,G]);have bl:aH m:=(by rw[v];exact p.take g);have D:aH j:=(by rw[B];exact(p.drop g).take _);have O:aH k:=(by rw[x];exact p.drop _);have d7:ae (h.drop g)=ae j+aF (n+3)*ae k:=(by rw[y,p9 U,qa U,hb,mx,s]);have d8:ae (h.drop g)=h[g]+4294967296*ae (h.drop (g+1)):=jl U;have fn:=p.get (n:=g) U;have T:=dY O;have d4:0<=aF (n+3)*ae k:=kq (eb (ev _)) T;have em:ae (h.drop g)<4294967296*b:=U;have V:ae k=0:=by
   rcases g7 0 (ae k) with S|S
   ·exfalso;have:=i7 (U:1<=ae k) (eb (ev (n+3)));have d0:aF (n+3)=4294967296*aF (n+2):=fO (n+2);have:=dY D;omega
   omega
  have Q:tr d j n:=⟨z,D,L,s,ce,ap,by rw[J];omega⟩;have am:0<=ae j/b:=Int.ediv_nonneg (dY D) U;have an:ae j/b<4294967296:=Int.ediv_lt_of_lt_mul K U;have d9:=Int.emod_add_mul_ediv (ae j) b;have ex:=Int.emod_lt_of_pos (ae j) K;have I:=Lv (A:=m) (C:=k) Q;rw[<-y,w,s,J] at I;refine ac.aX I ?_;rintro _ ⟨cs,rfl,cv,dl,bK⟩;dsimp only;rw[k4 U];refine ac.aj.2 ⟨i.set g (ae j/b),m++(cs++k),?_,by simp[aq],E.set am an,?_,by simp;omega,aH.append.2 ⟨bl,aH.append.2 ⟨dl,O⟩⟩,?_,?_⟩
  ·rw[bf U U];congr 1;omega
  ·intro a3 fp a4;rw[rK U];exact F a3 U (by simpa using a4)
  ·rw[k2 U,F g U U,mx,mx,w,bK];rw[y,mx,mx,w] at o;rw[cv];rw[s] at o;have a0:ae j=b*(ae j/b)+ae j %b:=U;exact Ly o a0
  rw[(U:a-(l+1)=g),p9 U,qa U,hb,mx,V,bK];omega
 rintro _ ⟨i,h,rfl,aq,E,F,G,p,o,q⟩;have ai:¬(((a:Nat):Int)-1-(a:Int)>=0):=U;simp only[ay ai,cond_false];rw[Nat.sub_self,mF] at q;exact ac.aj.2 (X i h aq E G p o q)
def Cr {A B q r:Int} (f:0<B) (b:A=B*q+r) (c:0<=r) (d:r<B):A/B=q/\A %B=r:=by have e:=g6 A B;have a:A/B=q:=(by rw[b,Int.mul_add_ediv_left _ _ U,nr c d];omega);refine⟨a,?_⟩;rw[a] at e;omega
theorem EG (l:aH d) (p:aH f) (W:dq d) (F:dq f) (fs:d.length<=1000000) (ft:f.length<=1000000) (N:f≠[]):us (d,f,())=some (bI (ae d/ae f).toNat,bI (ae d %ae f).toNat,()):=by
 unfold us;refine ac.eq_iff.1 ?_;have K:=dY l;have I:0<ae f:=(by have:=dY p;have:ae f≠0:=λY=>N (dq.zero p F Y);omega);refine ac.bs (wQ l p W F U U) ?_;dsimp only;rw[bo];refine ac.ite (λt=>?_) λt=>?_
 ·have C:ae d<ae f:=by
   unfold dI at t;split at t
   ·assumption
   split at t<;>omega
  refine ac.bs (tV U) (ac.aj.2 ?_);rw[nr K C,ns K C];show(([]:cP),d,())=(bI 0,bI (ae d).toNat,());rw[ES,<-dq.eq l W]
 have ex:ae f<=ae d:=by
  unfold dI at t;split at t
  ·omega
  omega
 rw[dD,bo];refine ac.ite (λh=>?_) λh=>?_
 ·have h:f.length=1:=(by simp only[a1] at h;omega);obtain⟨o,rfl⟩:=List.length_eq_one_iff.1 h;have ce:=(aH.cons.1 p).1;have u:ae [o]=o:=(by simp[ae]);rw[u] at I|-;have d3:0<=ae d %o:=Int.emod_nonneg _ U;have fp:ae d %o<o:=Int.emod_lt_of_pos _ I;refine ac.bs (y:=o) rfl (ac.bs (Sz l U U ce.2) ?_);dsimp only;refine ac.bs (lE (aH.cons.2 ⟨⟨d3,U⟩,aH.nil⟩) ab) (ac.aj.2 ?_);show(_,fM [ae d %o],())=_;rw[fM];simp[ae]
 obtain⟨b,co⟩:∃b,f.length=b+2:=(by have:=List.length_pos_iff.2 N;simp only[a1] at h;exact⟨f.length-2,U⟩);have ai:ax (au f-1)=((b+1:Nat):Int):=(by simp only[a1];rw[bf U U];omega);obtain⟨a,T,d5,V,d6⟩:=O1 p F co;have fn:b+2<=d.length:=by
  rcases bj d.length (b+2) with j|j
  ·have:=ov l p F U;omega
  exact j
 have D:=hT a;refine ac.bs (y:=f[b+1]) (by rw[ai];exact da U) (ac.bs d5 ?_);refine ac.bs (zz p U U) ?_;obtain⟨s,u⟩:∃s,s=bI (ae f*2^a).toNat:=⟨_,rfl⟩;have a0:0<=ae f*2^a:=Int.mul_nonneg U U;have M:ae s=ae f*2^a:=(by rw[u,uU a0]);have a9:aH s:=(by rw[u];exact ij _);have d7:dq s:=(by rw[u];exact ls _);obtain⟨d0,cs⟩:=Lx M a9 d7 V d6;rw[<-u];have Z:aZ (au d)=((d.length+1:Nat):Int):=br U;refine ac.bs (y:=d.length+1) (by rw[Z];exact hR U) ?_;refine ac.bs (zz l U U) ?_;have av:0<=ae d*2^a:=Int.mul_nonneg U U;have em:ae d*2^a<aF (d.length+1):=(by have w:ae d*2^a<aF d.length*2^a:=Int.mul_lt_mul_of_pos_right (fq l) D;have x:aF d.length*2^a<=aF d.length*4294967296:=Int.mul_le_mul_of_nonneg_left (by have:=sZ T;omega) (Int.le_of_lt (ev _));rw[fO,Int.mul_comm 4294967296];omega);obtain⟨m,E⟩:∃m,m=bI (ae d*2^a).toNat:=⟨_,rfl⟩;have R:m.length<=d.length+1:=(by rw[E];exact pc U);have d2:aH m:=(by rw[E];exact ij _);have d1:ae m=ae d*2^a:=(by rw[E,uU av]);rw[<-E];obtain⟨i,O⟩:∃i,i=iI (List.replicate (d.length+1) (0:Int)) m 0 (List.replicate (d.length+1) (0:Int)).length:=⟨_,rfl⟩;have J:i=m++List.replicate (d.length+1-m.length) 0:=(by rw[O];unfold iI;rw[List.take_zero,List.nil_append,List.length_replicate,Nat.sub_zero,List.take_of_length_le R,Nat.zero_add,Nat.min_eq_left R,List.drop_replicate]);have dl:i.length=d.length+1:=(by rw[J];simp;omega);have S:aH i:=(by rw[J];exact aH.append.2 ⟨d2,aH.ko _⟩);have Q:ae i=ae d*2^a:=(by rw[J,mx,ow,d1];omega);dsimp only;rw[<-O];obtain⟨g,ci⟩:∃g,d.length+1=g+(b+2):=⟨d.length+1-(b+2),U⟩;have ad:ax (au i-au s)=((g:Nat):Int):=(by simp only[a1];rw[bf U U];omega);refine ac.bs (y:=g) (by rw[ad];exact hR U) ?_;have C:ae (i.drop g)<ae f*2^a:=(by have h:=nk i g U;have w:=dY (S.take g);rw[Q] at h;have x:ae d*2^a<aF d.length*2^a:=Int.mul_lt_mul_of_pos_right (fq l) D;have H:aF d.length=aF g*aF (b+1):=(by rw[<-rB];congr 1;omega);have v:aF g*ae (i.drop g)<aF g*(aF (b+1)*2^a):=(by rw[<-Int.mul_assoc,<-H];omega);have z:=Int.lt_of_mul_lt_mul_left v (Int.le_of_lt (ev g));have el:aF (b+1)*2^a<=aF (b+1)*2147483648:=Int.mul_le_mul_of_nonneg_left (sZ T) (Int.le_of_lt (ev _));omega);refine ac.aX (P:=λX=>∃c e,X=(c,e,())/\c.length=g/\aH c/\e.length=d.length+1/\aH e/\ae e+ae f*2^a*ae c=ae d*2^a/\ae e<ae f*2^a) (Lw a9 M V d0 cs U S Q dl ci U C λc e h w x H v z=>⟨c,e,rfl,h,w,x,H,v,z⟩) ?_;rintro _ ⟨c,e,rfl,aq,d4,fz,G,v,z⟩;have am:au s=((b+2:Nat):Int):=(by simp only[a1];omega);dsimp only;rw[am];refine ac.bs (zr U) ?_;have cv:=dY G;have ds:ae (e.take (b+2))=ae e:=by
  have h:=nk e (b+2) U;have w:=dY (G.drop (b+2));have x:=dY (G.take (b+2));rcases g7 0 (ae (e.drop (b+2))) with j|j
  ·exfalso;have:=i7 (U:1<=ae (e.drop (b+2))) (eb (ev (b+2)));omega
  rw[(U:ae (e.drop (b+2))=0)] at h;omega
 have L:ae e=2^a*(ae d-ae f*ae c):=(by have d8:ae f*2^a*ae c=2^a*(ae f*ae c):=(by grind);have d9:2^a*(ae d-ae f*ae c)=2^a*ae d-2^a*(ae f*ae c):=Int.mul_sub ..;rw[gG (ae d)] at v;omega);have a3:0<=ae d-ae f*ae c:=by
  rcases g7 (ae d-ae f*ae c) 0 with j|j
  ·have:=Int.mul_neg_of_pos_of_neg D j;omega
  exact j
 have a4:ae d-ae f*ae c<ae f:=(by have:2^a*(ae d-ae f*ae c)<2^a*ae f:=(by rw[<-L,Int.mul_comm (2^a)];exact z);exact Int.lt_of_mul_lt_mul_left this (Int.le_of_lt D));have bl:ae e/2^a=ae d-ae f*ae c:=(by rw[L];exact Int.mul_ediv_cancel_left _ U);obtain⟨ap,f2⟩:=Cr (A:=ae d) (B:=ae f) (q:=ae c) (r:=ae d-ae f*ae c) I U a3 a4;refine ac.bs (lE ((G.take _).drop _) (by simp;omega)) ?_;have an:fM (List.drop 0 (e.take (b+2)))=bI (ae e).toNat:=(by rw[List.drop_zero,fM,ds]);dsimp only;rw[an];refine ac.bs (AH (ij _) (ls _) ?_ U) ?_
 ·have:=pc (n:=(ae e).toNat) (k:=b+2) U;omega
 dsimp only;refine ac.bs (lE d4 U) (ac.aj.2 ?_);show(fM c,_,())=_;rw[uU cv,bl,ap,f2,fM]
def pd (a:Nat):bI (a:Int).toNat=bI a:=by rw[du]
def LP (c:0<a):bI a≠[]:=λb=>by have:=AJ.1 b;omega
def l7 {n k:Nat} (a:aw n<=32*k):(bI n).length<=k:=by refine pc ?_;have:=bY.1 a;rw[nq,<-jI];omega
theorem OQ (h:0<a) (i:c*c<=k):c<=(a+k/a)/2:=by
 rw[tH aa];rcases bj (c*2) a with e|e
 ·exact bt (j2 e) (tG _ _)
 have j:c*2-a<=k/a:=by
  rw[tH h];obtain⟨b,f⟩:∃b,c*2=a+b:=⟨c*2-a,U⟩;rw[f,lS];have l:4*(c*c)=(a+b)*(a+b):=(by rw[<-f];grind);have m:(a+b)*(a+b)=a*a+2*(b*a)+b*b:=(by grind);rcases Nat.le_total a b with g|g
  ·obtain⟨d,rfl⟩:∃d,b=a+d:=⟨b-a,U⟩;have:(a+d)*(a+d)=a*a+2*(a*d)+d*d:=(by grind);have:(a+d)*a=a*a+a*d:=(by grind);omega
  obtain⟨d,rfl⟩:∃d,a=b+d:=⟨a-b,U⟩;have:(b+d)*(b+d)=b*b+2*(b*d)+d*d:=(by grind);have:b*(b+d)=b*b+b*d:=(by grind);omega
 omega
def OR (d:0<a) (e:a<=(a+c/a)/2):a*a<=c:=by have b:a<=c/a:=U;rwa[tH d] at b
def r3:dI b e>=0↔e<=b:=by
 unfold dI;split
 ·omega
 split<;>omega
def R4 (m:aw c<=2000000):xw (bI c,())=some (bI (bW c),()):=by
 unfold xw;refine ac.eq_iff.1 ?_;dsimp only;rw[n2,bo];refine ac.ite (λe=>?_) λe=>?_
 ·have:=AJ.1 e;subst this;exact ac.aj.2 rfl
 have v:0<c:=by
  rcases hh c with d|d
  ·subst d;exact absurd rfl e
  exact d
 have x:(bI c).length<=62500:=l7 U;obtain⟨h,r⟩:=sB c;have z:0<bW c:=by
  rcases hh (bW c) with d|d
  ·rw[d] at r;omega
  exact d
 refine ac.bs (Bz (ij c) (ls c) U) ?_;rw[iL,du];have ai:g1 IntKind.i64 (aZ (aw c:Int)) 2=some (((aw c+1)/2:Nat):Int):=(by unfold g1;rw[br U,al aa,wh U,wrap64 U U];simp);refine ac.bs ai ?_;refine ac.bs (zz (a:=[1]) (aH.cons.2 ⟨aa,aH.nil⟩) ab U) ?_;have i:(ae [1]*2^((aw c+1)/2)).toNat=2^((aw c+1)/2):=(by rw[show ae [1]=1 from by simp[ae],Int.one_mul,<-jI,du]);rw[i];refine ac.aX (P:=λq=>q=(bI (bW c),())) ?_ (by rintro _ rfl;exact ac.aj.2 rfl);refine ac.loop (λg=>∃b,g=(bI b,())/\bW c<=b/\aw b<=3000000) (λg=>(ae g.1).toNat) ⟨_,rfl,?_,?_⟩ ?_
 ·refine CO h ?_;have k:=bY.1 (a2 (aw c));have l:2^aw c<=2^((aw c+1)/2)*2^((aw c+1)/2):=by
   rw[<-dv];exact nz aa U
  have t:=hH (tG (2^((aw c+1)/2)) 1) (tG (2^((aw c+1)/2)) 1);omega
 ·rw[bY];exact y7 _ 3000000 U
 rintro _ ⟨b,rfl,D,s⟩;have f:0<b:=U;have B:(bI b).length<=93750:=l7 U;dsimp only;refine ac.bs (EG (ij c) (ij b) (ls c) (ls b) U U (LP f)) ?_;rw[iL,iL,<-Int.natCast_ediv,pd];dsimp only;have y:(bI (c/b)).length<=62500:=(by refine l7 ?_;have:c/b<=c:=Nat.div_le_self _ _;have k:=bY.1 m;have:aw (c/b)<=2000000:=bY.2 U;omega);refine ac.bs (Cl (ij b) (ij (c/b)) U U) ?_;rw[iL,iL,<-Int.natCast_add,pd];dsimp only;have w:aw (b+c/b)<=3000001:=(by refine Eg 3000000 s ?_;have l:=je (Nat.div_le_self c b);omega);have A:(bI (b+c/b)).length<=93751:=l7 U;refine ac.bs (AH (n:=1) (ij _) (ls _) U U) ?_;have j:(ae (bI (b+c/b))/2^1).toNat=(b+c/b)/2:=(by rw[iL,show(2:Int)^1=((2:Nat):Int) from rfl,<-Int.natCast_ediv];rfl);rw[j];dsimp only;have p:aw ((b+c/b)/2)<=3000000:=(by have:=tR (b+c/b) 1;rw[Nat.pow_one] at this;omega);have C:(bI ((b+c/b)/2)).length<=93750:=l7 U;refine ac.bs (wQ (ij _) (ij b) (ls _) (ls b) U U) ?_;rw[iL,iL];dsimp only;rw[bo];refine ac.ite (λd=>?_) λd=>?_
 ·refine ac.aj.2 ?_;have o:b<=(b+c/b)/2:=(by have:=r3.1 d;omega);have:=OR f o;rw[Nw this (by
   have u:=hH (U:bW c+1<=b+1) (U:bW c+1<=b+1);omega)]
 refine ac.aj.2 ⟨⟨(b+c/b)/2,rfl,OQ f h,p⟩,?_⟩;show(ae (bI ((b+c/b)/2))).toNat<(b:Int).toNat;rw[iL,du,du];have:=mt r3.2 d;omega
def wd (a:mz):Prop:=aH a.2.1/\dq a.2.1/\a.2.1.length<=100000
def fk {z:Int} (a:aw z.natAbs<=3000000):wd (aD z):=⟨jA z,yj z,l7 U⟩
def lD (a:aH d) (c:dq d) (e:d.length<=1000000):fJ (d,())=some (d,()):=by have b:=dq.eq a c;rw[lE a U];show some (bI (ae d).toNat,())=_;rw[<-b]
def nE {neg:Bool} {x:Int} (a:0<=x) (b:(bI x.toNat).length<=100000000):iK (neg,bI x.toNat,())=some (aD (if neg then-x else x),()):=by rw[rY (ij _) b];unfold eB;simp only[uU a]
def LO {x y:Nat} {k:Nat} (a:(bI x).length<=k) (b:(bI y).length<=k):(bI (x+y)).length<=k+1:=by refine pc ?_;have c:=ER x;have d:=ER y;have e:=mj a;have f:=mj b;have g:=ev k;rw[fO];omega
def C2 {l:cP} (d:aH l) (c:l.length<=a) (g:b<=ae l):(bI b.toNat).length<=a:=by refine pc ?_;have e:=fq d;have f:=mj c;have:=ev a;omega
def DC {a b:mz} (t:wd a) (u:wd b):qy (a,b,())=some (aD (eB a+eB b),()):=by
 obtain⟨i,a,_⟩:=a;obtain⟨h,b,_⟩:=b;obtain⟨c,j,r⟩:=t;obtain⟨d,k,s⟩:=u;dsimp only at c j r d k s;have y:=dY c;have z:=dY d;have aq:=fq c;have A:=fq d;have B:=mj (m:=a.length) (n:=100000) r;have C:=mj (m:=b.length) (n:=100000) s;have D:=ev 100000;have x:∀e:Int,e<=ae a+ae b->(bI e.toNat).length<=100000001:=λe v=>(by have:(bI e.toNat).length<=100001:=(by refine pc ?_;rw[show(100001:Nat)=100000+1 from rfl,fO];generalize aF 100000=w at*;omega);omega);have q:∀e:Int,e<=ae a+ae b->(bI e.toNat).length<=100000000:=λe v=>(by have:(bI e.toNat).length<=100001:=(by refine pc ?_;rw[show(100001:Nat)=100000+1 from rfl,fO];generalize aF 100000=w at*;omega);omega);unfold qy;dsimp only;refine ao (lD c j U) (ao (lD d k U) ?_);dsimp only;cases f:(i==h) with
 |true=>
  have f:i=h:=(by simpa using f);subst f;refine ao (Cl c d U U) (ao (nE U (q _ U)) ?_);dsimp only;congr 3;unfold eB;cases i<;>simp<;>omega
 |false=>
  have f:i=!h:=(by cases i<;>cases h<;>simp at f|-);refine ao (wQ c d j k U U) ?_;dsimp only;rw[bo];split
  ·rename_i l;have p:ae b<=ae a:=r3.1 l;have o:b.length<=a.length:=by
    rcases bj a.length b.length with g|g
    ·have:=ov c d k g;omega
    exact g
   refine ao (Gd c d U o p) (ao (nE U (q _ U)) ?_);dsimp only;congr 3;unfold eB;subst f;cases h<;>simp<;>omega
  rename_i l;have p:ae a<ae b:=Int.not_le.1 (mt r3.2 l);have o:a.length<=b.length:=by
   rcases bj b.length a.length with g|g
   ·have:=ov d c j g;omega
   exact g
  refine ao (Gd d c U o (Int.le_of_lt p)) (ao (nE U (q _ U)) ?_);dsimp only;congr 3;unfold eB;subst f;cases h<;>simp<;>omega
def DB {x y:Int} (a:aw x.natAbs<=3000000) (b:aw y.natAbs<=3000000):qy (aD x,aD y,())=some (aD (x+y),()):=by rw[DC (fk a) (fk b),lH,lH]
def S4 {x y:Int} (d:aw x.natAbs<=3000000) (e:aw y.natAbs<=3000000):xv (aD x,aD y,())=some (aD (x-y),()):=by unfold xv;have a:wd ((!(aD y).1,(aD y).2):mz):=⟨jA y,yj y,(fk e).2.2⟩;refine ao (DC (fk d) a) ?_;rw[lH];have b:eB ((!(aD y).1,(aD y).2):mz)=-y:=(by have:=zD (aD y).1 (aD y).2.1;have c:=lH y;exact this.trans (congrArg _ c));rw[b];rfl
theorem Gq {x y:Int} (g:aw x.natAbs<=3000000) (h:aw y.natAbs<=3000000):uo (aD x,aD y,())=some (aD (x*y),()):=by
 unfold uo;dsimp only;obtain⟨d,i,l⟩:=fk g;obtain⟨e,j,m⟩:=fk h;refine ao (lD d i U) (ao (lD e j U) ?_);dsimp only;refine ao (Td d e U U) ?_;rw[gL,gL,<-Int.natCast_mul,pd];dsimp only;have k:(bI (x.natAbs*y.natAbs)).length<=100000000:=(by have:(bI (x.natAbs*y.natAbs)).length<=200000:=(by refine l7 ?_;have:=nG g h;omega);omega);have f:=nE (neg:=!((aD x).1==(aD y).1)) (x:=((x.natAbs*y.natAbs:Nat):Int)) U (by rw[pd];exact k);rw[pd] at f;refine ao f ?_;dsimp only;congr 3;show(if(!(decide (x<0)==decide (y<0)))=true then _ else _)=_;rw[Int.natCast_mul];rcases Int.lt_or_le x 0 with b|b<;>rcases Int.lt_or_le y 0 with c|c
 ·rw[aC b,aC c];have ai:(x.natAbs:Int)=-x:=U;have a:(y.natAbs:Int)=-y:=U;rw[ai,a];simp<;>grind
 ·rw[aC b,ay (U:¬y<0)];have ai:(x.natAbs:Int)=-x:=U;have a:(y.natAbs:Int)=y:=U;rw[ai,a];simp<;>grind
 ·rw[aC c,ay (U:¬x<0)];have ai:(x.natAbs:Int)=x:=U;have a:(y.natAbs:Int)=-y:=U;rw[ai,a];simp<;>grind
 rw[ay (U:¬y<0),ay (U:¬x<0)];have ai:(x.natAbs:Int)=x:=U;have a:(y.natAbs:Int)=y:=U;rw[ai,a];simp
def Er {x y:Int} (i:aw x.natAbs<=900000) (l:aw y.natAbs<=900000):um (aD x,aD y,())=some (dI x y,()):=by
 obtain⟨d,e,m⟩:=fk (z:=x) U;obtain⟨f,g,n⟩:=fk (z:=y) U;unfold um;refine ao (oo (gT U)) (ao (oo (gT U)) ?_);dsimp only;rw[bo,bo];have a:∀b:Int,b<0/\dU b=-1\/b=0/\dU b=0\/0<b/\dU b=1:=λb=>by
  unfold dU;split
  ·omega
  split<;>omega
 split
 ·rename_i o;unfold dI;rw[al (by have:=a x;have:=a y;omega)]
 split
 ·rename_i j k;unfold dI;rw[ah (by have:=a x;have:=a y;omega),al (by have:=a x;have:=a y;omega)]
 rename_i j k;have q:dU x=dU y:=U;refine ao (lD d e U) (ao (lD f g U) ?_);dsimp only;refine ao (wQ d f e g U U) ?_;rw[gL,gL];dsimp only;have i:=a x;have l:=a y;have:dU x*dI (x.natAbs:Int) (y.natAbs:Int)=dI x y:=by
  rcases i with⟨h,c⟩|⟨h,c⟩|⟨h,c⟩<;>rw[c]
  ·unfold dI;split
   ·rw[ah U,al U];rfl
   split
   ·rw[al U];rfl
   rw[ah U,ah U];rfl
  ·rw[jW];unfold dI;rw[ah U,ah U]
  unfold dI;rw[Int.one_mul];split
  ·rw[al U]
  split
  ·rw[ah U,al U]
  rw[ah U,ah U]
 rw[this];have p:-1<=dI x y/\dI x y<=1:=by
  unfold dI;split
  ·omega
  split<;>omega
 rw[bf U U]
def Gu (b:Int) (a:Nat):(b.natAbs:Int)*2^a=((b.natAbs*2^a:Nat):Int):=by simp
def wM {m n:Nat}:aw (m*2^n)<=aw m+n:=by
 rcases hh m with a|a
 ·subst a;simp[KH]
 rw[ie a];exact a2 _
def Sy (j:aw b.natAbs<=1900000) (i:a<=1048576):nM (aD b,(a:Int),())=some (aD (b*2^a),0,()):=by
 obtain⟨c,e,g⟩:=fk (z:=b) U;unfold nM;dsimp only;rw[ay (U:¬((a:Int)< -1048576)),ay (U:¬((a:Int)>1048576))];refine ao rfl (ao (lD c e U) ?_);dsimp only;rw[aC (U:(a:Int)>=0)];refine ao (zz c U U) ?_;rw[gL,Gu];have h:(bI (b.natAbs*2^a)).length<=100000:=l7 (by have:=wM (m:=b.natAbs) (n:=a);omega);have f:=nE (neg:=(aD b).1) (x:=((b.natAbs*2^a:Nat):Int)) U (by rw[pd];omega);refine ao f ?_;dsimp only;congr 3;show(if decide (b<0)=true then _ else _)=_;rw[<-Gu];by_cases d:b<0
 ·rw[al (aC d),<-Int.neg_mul];congr 1;omega
 rw[ah (by simpa using d)];congr 1;omega
def Gy {m:Int} (a:0<b) (d:0<=m):-m/b=if m %b=0 then-(m/b) else-(m/b+1):=by
 have e:=g6 m b;have f:=nt m (U:b≠0);have g:=oC m a;split
 ·rename_i c;refine(Cr (A:=-m) (B:=b) (q:=-(m/b)) (r:=0) a ?_ (jT _) a).1;rw[Int.mul_neg];omega
 rename_i c;refine(Cr (A:=-m) (B:=b) (q:=-(m/b+1)) (r:=b-m %b) a ?_ U U).1;rw[Int.mul_neg,Int.mul_add,Int.mul_one];omega
def Sx (w:aw b.natAbs<=1900000) (u:a<=1048576) (v:0<a):nM (aD b,-(a:Int),())=some (aD (b/2^a),0,()):=by
 obtain⟨f,i,n⟩:=fk (z:=b) U;have q:=hT a;unfold nM;dsimp only;rw[ay (U:¬(-(a:Int)< -1048576)),ay (U:¬(-(a:Int)>1048576))];refine ao rfl (ao (lD f i U) ?_);dsimp only;rw[ay (U:¬(-(a:Int)>=0))];have ai:ax (0- -(a:Int))=(a:Int):=(by rw[bf U U];omega);rw[ai];refine ao (AH f i U U) ?_;rw[gL];have r:0<=(b.natAbs:Int)/2^a:=Int.ediv_nonneg U U;have h:(b.natAbs:Int)/2^a<=b.natAbs:=Int.ediv_le_self _ U;have g:∀e:Int,e<=b.natAbs->(bI e.toNat).length<=100000:=λe s=>C2 (l:=(aD b).2.1) f n (by rw[gL];exact s);have t:(bI ((b.natAbs:Int)/2^a+1).toNat).length<=100001:=(by have p:=LO (x:=((b.natAbs:Int)/2^a).toNat) (y:=1) (k:=100000) (g _ h) aa;have o:((b.natAbs:Int)/2^a+1).toNat=((b.natAbs:Int)/2^a).toNat+1:=U;rw[o];exact p);dsimp only;refine ao (y:=(bI (if b<0/\(b.natAbs:Int) %2^a≠0 then(b.natAbs:Int)/2^a+1 else(b.natAbs:Int)/2^a).toNat,(false,([],())),())) ?_ ?_
 ·refine ao (y:=(decide (b<0/\(b.natAbs:Int) %2^a≠0),(false,([],())),())) ?_ ?_
  ·show(bif decide (b<0)==true then _ else _)=_;by_cases c:b<0
   ·simp[c]
   simp[c]
  dsimp only;by_cases c:b<0/\(b.natAbs:Int) %2^a≠0
  ·rw[aC c,al c];refine ao (Cl (ij _) (aH.cons.2 ⟨aa,aH.nil⟩) (by have:=g _ h;omega) ab) ?_;rw[uU r,show ae [1]=1 from by simp[ae]]
  rw[ay c,ah c];rfl
 dsimp only;refine ao (nE ?_ ?_) ?_
 ·split<;>omega
 ·split
  ·omega
  have:=g _ h;omega
 dsimp only;congr 3;show(if decide (b<0)=true then _ else _)=_;by_cases c:b<0
 ·rw[al (aC c)];have j:=Gy (m:=b.natAbs) q U;rw[(U:-(b.natAbs:Int)=b)] at j;rw[j];by_cases d:(b.natAbs:Int) %2^a=0
  ·rw[al d,ah (by simp[d])]
  rw[ah d,al ⟨c,d⟩]
 rw[ah (by simpa using c),ah (by simp[c])];congr 1;omega
def Lz {x y:Int} (v:aw x.natAbs<=1900000) (A:aw y.natAbs<=1900000) (w:0<=x) (n:y≠0):xo (aD x,aD y,())=some (aD (x/y),aD (x %y),0,()):=by
 obtain⟨c,f,i⟩:=fk (z:=x) U;obtain⟨d,g,j⟩:=fk (z:=y) U;unfold xo;dsimp only;refine ao (lD d g U) ?_;dsimp only;have h:(aD y).2.1≠[]:=λk=>n (uT.1 k);rw[n2,ay h];refine ao (lD c f U) ?_;dsimp only;refine ao (EG c d f g U U h) ?_;rw[gL,gL];dsimp only;have q:(aD x).1=false:=ay U;have r:0<=(x.natAbs:Int)/(y.natAbs:Int):=Int.ediv_nonneg U U;have s:(x.natAbs:Int)/(y.natAbs:Int)<=x.natAbs:=Int.ediv_le_self _ U;have t:0<=(x.natAbs:Int) %(y.natAbs:Int):=Int.emod_nonneg _ U;have u:(x.natAbs:Int) %(y.natAbs:Int)<(y.natAbs:Int):=Int.emod_lt_of_pos _ U;have o:∀a:Int,a<=x.natAbs->(bI a.toNat).length<=100000:=λa e=>C2 (l:=(aD x).2.1) c i (by rw[gL];exact e);have p:∀a:Int,a<=y.natAbs->(bI a.toNat).length<=100000:=λa e=>C2 (l:=(aD y).2.1) d j (by rw[gL];exact e);rw[q];refine ao rfl ?_;dsimp only;refine ao (nE r (by have:=o _ s;omega)) (ao (nE t (by have:=p _ (Int.le_of_lt u);omega)) ?_);dsimp only;have ai:(x.natAbs:Int)=x:=U;rw[ai];have m:x %(y.natAbs:Int)=x %y:=by
  rcases g7 y 0 with b|b
  ·rw[(U:(y.natAbs:Int)=-y),Int.emod_neg]
  rw[(U:(y.natAbs:Int)=y)]
 rw[m];congr 3;show(if(!(false==decide (y<0)))=true then _ else _)=_;rcases g7 y 0 with b|b
 ·rw[aC b,(U:(y.natAbs:Int)=-y),Int.ediv_neg];simp
 rw[ay (U:¬y<0),(U:(y.natAbs:Int)=y)];simp
def SR {x:Int} (f:aw x.natAbs<=900000) (i:0<=x):xu (aD x,())=some (aD (bW x.toNat),0,()):=by
 obtain⟨c,d,h⟩:=fk (z:=x) U;unfold xu;refine ao (oo (gT U)) ?_;dsimp only;rw[ay (by unfold dU;split;omega;split<;>omega)];refine ao (lD c d U) ?_;have e:(aD x).2.1=bI x.toNat:=(by show bI x.natAbs=_;congr 1;omega);dsimp only;rw[e];refine ao (R4 (by rw[(U:x.toNat=x.natAbs)];omega)) ?_;dsimp only;have l:bW x.toNat<=x.toNat:=by
  obtain⟨g,m⟩:=sB x.toNat;rcases hh (bW x.toNat) with a|a
  ·omega
  exact bt (Nat.le_mul_of_pos_left _ a) g
 have b:=nE (neg:=false) (x:=(bW x.toNat:Int)) U (by
  rw[pd];have:=l7 (n:=bW x.toNat) (k:=100000) (by
   rw[bY];have:=bY.1 f;have j:=gZ 900000 (32*100000) aa;omega)
  omega)
 rw[pd] at b;refine ao b ?_;rfl
def A7 {n:Int} (d:-9223372036854775808<=n) (e:n<=9223372036854775807):sa (n,())=some (aD n,()):=by
 unfold sa;dsimp only;obtain⟨a,f,c,g⟩:∃a:Int,a=n.natAbs/\0<=a/\a<=9223372036854775808:=⟨_,rfl,U,U⟩;refine ao (y:=(a,(false,([],())),())) ?_ ?_
 ·rw[bo];split
  ·rename_i b;rw[kn n,kn];congr 2;omega
  rename_i b;rw[kn];congr 2;omega
 dsimp only;rw[k1,Option.bind_some,n3 c U,i4 (x:=a/4294967296) U U];refine ao (rY (aH.cons.2 ⟨⟨U,U⟩,aH.cons.2 ⟨⟨U,U⟩,aH.nil⟩⟩) ab) ?_;dsimp only;congr 2;congr 1;unfold eB;simp only[ae];by_cases b:n<0
 ·simp[b];omega
 simp[b];omega
def Nr (e:aH d) (s:d.length<=2) {f:ba->Prop} (l:f (ae d,())):ac (loop (σ:=lg) (ρ:=ba) (λ(j,b,_)=>
 bif decide (b<au d) then
 (aL d b).bind λp=>
 (fL IntKind.u64 (aA p) (ax (32*b))).bind λq=>
 some (.inl (dP IntKind.u64 j q,aZ b,())) else
 some (.inr (j,()))) (0,0,())) f:=by
 refine ac.steps d.length (λa o=>o=(ae (d.take a),(a:Int),())) rfl ?_ ?_
 ·rintro a _ c rfl;have i:=e.get c;simp only[aC (show(a:Int)<au d by simp only[a1];omega),cond_true,da c,aQ];have k:=dY (e.take a);have g:=fq (e.take a);rw[eD,fW U,nq] at g;have ai:ax (32*(a:Int))=((32*a:Nat):Int):=(by rw[bf U U];simp);have m:(2:Int)^(32*a)<=4294967296:=by
   rcases(U:a=0\/a=1) with rfl|rfl<;>decide
  have n:=hT (32*a);have r:d[a]*2^(32*a)<4294967296*4294967296:=(by have:=i7 m i.1;omega);have h:0<=d[a]*2^(32*a):=kq i.1 (eb n);rw[ai,bM (x:=d[a]) U U,kZ U U,aQ,du,ns h U,kh (32*a) k g h U U (Int.mul_emod_left _ _),br U];refine ac.aj.2 ?_;rw[fU c,nq,gG (2^(32*a))]
 rintro _ rfl;simp only[ay (show¬((d.length:Int)<au d) by simp only[a1];omega),cond_false];rw[dC (a2 _)];exact ac.aj.2 l
def Ns {z:Int} (h:0<=z) (c:z<9223372036854775808):xp (aD z,())=some (z,true,()):=by have i:aw z.natAbs<=64:=bY.2 U;obtain⟨a,b,g⟩:=fk (z:=z) U;have d:(aD z).2.1.length<=2:=l7 U;unfold xp;dsimp only;refine ac.eq_iff.1 ?_;refine ac.bs (lD a b U) ?_;dsimp only;rw[ay (show¬(au (aD z).2.1>2) by simp only[a1];omega),cond_false];refine ac.aX (P:=λf=>f=(z,())) (Nr a d (by rw[gL];congr 1;omega)) ?_;rintro _ rfl;have e:(aD z).1=false:=ay U;dsimp only;rw[e];refine ac.bs (y:=.inr (z,true,())) ?_ (ac.aj.2 rfl);refine ao rfl ?_;dsimp only[cond_false];rw[aC (show z<9223372036854775808 from c)];refine ao rfl ?_;dsimp only[cond_true];rw[bf U U]
def Ik (q:aH d) (s:d.length<=100000000):ln (d,())=some (fM d,()):=by
 unfold ln;refine ac.eq_iff.1 ?_;refine ac.aX (P:=λj=>∃a:Nat,j.1=(a:Int)/\a<=d.length/\(∀b,a<=b->(l:b<d.length)->d[b]=0)/\dq (d.take a)) ?_ ?_
 ·refine ac.loop (λh=>∃a:Nat,h.1=(a:Int)/\a<=d.length/\(∀b,a<=b->(l:b<d.length)->d[b]=0)) (λh=>h.1.toNat) ⟨d.length,rfl,a2 _,λb e f=>by omega⟩ ?_;rintro⟨_,_⟩ ⟨a,rfl,e,f⟩;rcases a with _|a
  ·refine ac.aj.2 ⟨0,rfl,eL _,f,λm c=>by simp at c⟩
  have ai:ax (((a+1:Nat):Int)-1)=(a:Int):=(by rw[bf U U];omega);have n:decide (((a+1:Nat):Int)>0)=true:=aC U;simp only[ai,n,beq_self_eq_true,cond_true,da (show a<d.length from e),aQ];by_cases i:d[a]=0
  ·rw[dD,aC i];refine ac.aj.2 ⟨⟨a,rfl,U,λb l p=>?_⟩,?_⟩
   ·rcases bj a b with k|k
    ·exact f b k p
    obtain rfl:b=a:=U;exact i
   show(a:Int).toNat<((a+1:Nat):Int).toNat;omega
  rw[dD,ay i];refine ac.aj.2 ⟨a+1,rfl,e,f,λm c=>?_⟩;rw[j1,bA e] at c;have c:(d.take a++[d[a]]).getLast?=some m:=c;rw[List.getLast?_concat] at c;cases c;exact i
 rintro⟨_,_⟩ ⟨a,rfl,e,f,o⟩;dsimp only;refine ac.aX (P:=λj=>j=(d.take a,())) ?_ ?_
 ·refine ac.steps a (λg h=>h=((g:Int),d.take g,())) rfl ?_ ?_
  ·rintro g _ r rfl;simp only[aC (U:(g:Int)<(a:Int)),cond_true,da (U:g<d.length),aQ];rw[eF (by simp;omega),br U];refine ac.aj.2 ?_;show _=(_,d.take (g+1),());rw[j1,bA U];rfl
  rintro _ rfl;simp only[ay (U:¬((a:Int)<(a:Int))),cond_false];exact ac.aj.2 rfl
 rintro _ rfl;refine ac.aj.2 ?_;show(d.take a,())=_;rw[IR q e f o]
def vK (a:aH d) (e:d.length<=100000000):j7 (l,d,())=some (aD (eB (l,d,())),()):=by
 unfold j7;refine ao (Ik a e) ?_;have b:=EO (neg:=l) (IN d) (IP d);have c:eB (l,fM d,())=eB (l,d,()):=(by unfold eB;simp only[IQ a]);rw[<-c,<-b];dsimp only;cases l
 ·simp
 simp only[beq_self_eq_true,cond_true,Bool.true_and];congr 3;rw[decide_eq_decide];simp only[a1];rw[<-List.length_pos_iff];omega
def s2 (a:aH d) (c:d.length<=100000000) (e:ae d=b):j7 (l,d,())=some (aD (if l then-b else b),()):=by rw[vK a c];unfold eB;simp only[e]
def pN {l:cP} (a:aH l) (c:dq l) (d:l.length<=1000000):ln (l,())=some (l,()):=by have b:=dq.eq a c;rw[Ik a U];show some (bI (ae l).toNat,())=_;rw[<-b]
def H7 {a:mz} (b:aH a.2.1) (c:a.2.1.length<=100000000):o6 (a,())=some (aD (eB a),()):=by unfold o6;exact ao (vK b c) rfl
def zl (a:aw b.natAbs<=3000000):o6 (aD b,())=some (aD b,()):=by rw[H7 (jA b) (by have:=(fk a).2.2;omega),lH]
def H6 (a:aw b.natAbs<=3000000):uF (aD b,())=some (aD (-b),()):=by unfold uF;refine ao (vK (jA b) (by have:=(fk a).2.2;omega)) ?_;rw[zD];show some (aD (-eB (aD b)),())=_;rw[lH]
def Cs (a:aw b.natAbs<=3000000):si (aD b,())=some (aD b.natAbs,()):=by unfold si;refine ao (vK (jA b) (by have:=(fk a).2.2;omega)) ?_;rw[I7 (jA b) (aD b).1];show some (aD ((eB (aD b)).natAbs:Int),())=_;rw[lH]
def kk {z:Int} (a:aw z.natAbs<=3000000):lm (aD z,())=some (dU z,()):=by
 unfold lm;refine ao (zl a) ?_;simp only[n2,bo,uT];unfold dU;split
 ·rfl
 show(bif decide (z<0) then _ else _)=_;rw[bo];split<;>rfl
def Ct {z:Int} (d:aw z.natAbs<=3000000):uD (aD z,())=some ((aw z.natAbs:Int),()):=by obtain⟨b,c,e⟩:=fk d;have a:=Bz b c U;rw[gL] at a;unfold sc at a;unfold uD;refine ao (pN b c U) ?_;dsimp only at a|-;simp only[Int.mul_comm 32];exact a
def Il {z:Int} (v:aw z.natAbs<=900000) (s:z≠0):nN (aD z,())=some ((bb z.natAbs:Int),()):=by
 obtain⟨i,k,r⟩:=fk (z:=z) U;unfold nN;refine ao (pN i k U) ?_;have u:=gL z;dsimp only;generalize(aD z).2.1=b at*;have o:z.natAbs=(ae b).toNat:=U;rw[o];refine ac.eq_iff.1 (ac.aX (P:=λg=>match g with|.inl _=>False|.inr p=>p=((bb (ae b).toNat:Int),())) ?_ ?_)
 ·refine ac.steps b.length (λa q=>q=((a:Int),())/\ae (b.take a)=0) ⟨rfl,rfl⟩ ?_ ?_
  ·rintro a _ e ⟨rfl,d⟩;have j:=i.get e;simp only[aC (show(a:Int)<au b by simp only[a1];omega),cond_true,da e,aQ,dA];by_cases c:b[a]=0
   ·simp only[aC c,kp,cond_false];refine ac.aj.2 ⟨by rw[br U],?_⟩;rw[fU e,c,d];simp
   simp only[ay c,lL,cond_true];have l:=I1 (x:=0) d e i c;rw[l];obtain⟨h,m⟩:=ea j.1;rw[m] at j c|-;have t:bb h<32:=fF (pT U) (bY.2 U);refine ac.of_eq (ao (IZ (n:=h) U U) rfl) ?_;show(ax (ax (32*(a:Int))+(bb h:Int)),())=_;rw[bf (x:=32*(a:Int)) U U,bf U U];congr 1
  rintro _ ⟨rfl,d⟩;exfalso;rw[dC (a2 _)] at d;omega
 rintro(g|g) f
 ·exact f.elim
 have f:g=_:=f;rw[f];exact ac.aj.2 rfl
def HK {n:Nat} (c:n<=1000000000):∃b a:Nat,n=32*b+a/\a<32/\g1 IntKind.i64 (n:Int) 32=some (b:Int)/\gj (n:Int) 32=some (a:Int):=by
 refine⟨n/32,n %32,U,U,?_,?_⟩
 ·unfold g1;rw[al aa,wh U,wrap64 U U];simp
 unfold gj;rw[al aa,wi U];simp
theorem Sd {n:Nat} (C:aH d) (R:d.length<=10000000) (O:n<=100000000):ac (xY (d,(n:Int),())) (λk=>∃b,k=(b,())/\aH b/\ae b=ae d*2^n/\b.length=n/32+d.length+1):=by
 unfold xY;obtain⟨g,a,H,Q,F,G⟩:=HK (n:=n) U;have m:=hT a;have B:=rc (p:=a) U;have A:(2:Int)^a<=2147483648:=sZ U;dsimp only;refine ac.bs F (ac.bs (hR U) ?_);refine ac.aX (P:=λk=>∃c b,k=(c,b,())/\b.length=g+d.length/\aH b/\0<=c/\c<2^a/\ae b+aF (g+d.length)*c=aF g*(2^a*ae d)) ?_ ?_
 ·refine ac.steps d.length (λe J=>∃c b,J=(c,(e:Int),b,())/\b.length=g+e/\aH b/\0<=c/\c<2^a/\ae b+aF (g+e)*c=aF g*(2^a*ae (d.take e))) ⟨0,List.replicate g 0,rfl,ab,aH.ko _,U,m,by simp[ae,ow]⟩ ?_ ?_
  ·rintro e _ o ⟨c,b,rfl,aq,j,h,l,i⟩;have v:=C.get o;simp only[aC (show(e:Int)<au d by simp only[a1];omega),cond_true,da o,aQ,G];have E:d[e]*2^a<4294967296*2^a:=rG v.2 m;have D:d[e]*2^a<=4294967295*2^a:=jU U U;have t:0<=d[e]*2^a:=kq v.1 (eb m);obtain⟨f,u,K,L,M⟩:∃f,f=c+d[e]*2^a/\0<=f/\f<18446744073709551616/\f<4294967296*2^a:=⟨_,rfl,U,U,U⟩;have q:fL IntKind.u64 (aA d[e]) (a:Int)=some (d[e]*2^a):=by
    rw[bM (x:=d[e]) U U,kZ U U,du];congr 1;omega
   have r:dP IntKind.u64 c (d[e]*2^a)=f:=(by rw[kh a h l t U U (Int.mul_emod_left _ _),u]);have s:f/4294967296<2^a:=p5 aa (by rw[gG];omega);rw[q,aQ,r,eF (by simp;omega),k1,nl];refine ac.aj.2 ⟨f/4294967296,b++[f %4294967296],by rw[br U],by simp[aq];omega,j.snoc U U,U,s,?_⟩;rw[nj,aq,(U:g+(e+1)=(g+e)+1),fO,fU o];have y:=g6 f 4294967296;rw[rB] at i|-;generalize f/4294967296=I at*;generalize f %4294967296=k at*;generalize(2:Int)^a=w at*;generalize d[e]=N at*;have z:k=c+N*w-4294967296*I:=U;clear y q r s u K L M E D t B A;subst z;grind
  rintro _ ⟨c,b,rfl,aq,j,h,l,i⟩;simp only[ay (show¬((d.length:Int)<au d) by simp only[a1];omega),cond_false];rw[dC (a2 _)] at i;exact ac.aj.2 ⟨c,b,rfl,aq,j,h,l,i⟩
 rintro _ ⟨c,b,rfl,aq,j,h,l,i⟩;dsimp only;rw[i4 h U,eF (by simp;omega)];refine ac.aj.2 ⟨b++[c],rfl,j.snoc h U,?_,by simp;omega⟩;rw[nj,aq,i,nq,H,Int.pow_add];grind
def RG (h:aH d) (i:aH f) (p:dq d) (q:dq f) (u:d.length<=10000000) (v:f.length<=10000000):xW (d,f,())=some (dI (ae d) (ae f),()):=by
 unfold xW;refine ac.eq_iff.1 ?_;simp only[dA,a1];by_cases t:d.length=f.length
 ·rw[aC (U:(d.length:Int)=f.length)];simp only[kp,cond_false];refine ac.aX (P:=λl=>match l with|.inl _=>ae d=ae f|.inr n=>n=(dI (ae d) (ae f),())) ?_ ?_
  ·refine ac.steps d.length (λb o=>o=(((d.length:Nat):Int)-1-b,())/\ae (d.drop (d.length-b))=ae (f.drop (d.length-b))) ⟨?_,?_⟩ ?_ ?_
   ·rw[bf U U];simp
   ·rw[nv U,nv U]
   ·rintro b _ r ⟨rfl,c⟩;obtain⟨a,s⟩:∃a,d.length=a+1+b:=⟨d.length-1-b,U⟩;have ai:((d.length:Nat):Int)-1-(b:Int)=(a:Int):=U;have j:a<d.length:=U;have k:a<f.length:=U;rw[(U:d.length-b=a+1)] at c;simp only[ai,aC (U:(a:Int)>=0),cond_true,da j,da k,aQ];by_cases m:d[a]=f[a]
    ·simp only[aC m,kp,cond_false];refine ac.aj.2 ⟨?_,?_⟩
     ·rw[bf U U];congr 1;omega
     rw[(U:d.length-(b+1)=a),jl j,jl k,m,c]
    simp only[ay m,lL,cond_true];rw[bo];refine ac.ite (λg=>?_) λg=>?_
    ·refine ac.aj.2 ?_;show((-1:Int),())=_;unfold dI;rw[al (zE h i j k c g)]
    refine ac.aj.2 ?_;show((1:Int),())=_;have:=zE i h k j c.symm U;unfold dI;rw[ah U,al this]
   rintro _ ⟨rfl,c⟩;have ai:¬(((d.length:Nat):Int)-1-(d.length:Int)>=0):=U;simp only[ay ai,cond_false];refine ac.aj.2 ?_;simpa using c
  rintro(l|l) e
  ·refine ac.aj.2 ?_;have e:ae d=ae f:=e;unfold dI;rw[e];simp
  have e:l=_:=e;rw[e];exact ac.aj.2 rfl
 rw[ay (U:¬(d.length:Int)=f.length)];simp only[lL,cond_true];rw[bo];unfold dI;refine ac.ite (λg=>ac.aj.2 ?_) λg=>ac.aj.2 ?_
 ·rw[al (ov h i q U)]
 have:=ov i h p U;rw[ah U,al this]
theorem NZ (j:aH d) (x:k<32) (w:c+a<d.length) (v:b=ae (d.drop c)):b/2^k/aF a %4294967296=(d[c+a]+4294967296*d.getD (c+a+1) 0)/2^k %4294967296:=by
 have s:=hT k;have t:=rc (p:=k) U;have u:b/aF a=(d[c+a]+4294967296*d.getD (c+a+1) 0)+4294967296*(4294967296*ae (d.drop (c+a+2))):=by
  have g:d.drop c=(d.drop c).take a++d.drop (c+a):=by
   conv=>lhs;rw[<-kv a (d.drop c)]
   rw[oD]
  have h:b=ae ((d.drop c).take a)+aF a*ae (d.drop (c+a)):=by
   rw[v]
   conv=>lhs;rw[g]
   rw[mx,eD,kt,fW U]
  have o:=dY ((j.drop c).take a);have i:=fq ((j.drop c).take a);rw[eD,kt,fW U] at i;have q:ae (d.drop (c+a))=d[c+a]+4294967296*ae (d.drop (c+a+1)):=jl U;have r:ae (d.drop (c+a+1))=d.getD (c+a+1) 0+4294967296*ae (d.drop (c+a+2)):=by
   rcases bj (c+a+1) d.length with f|f
   ·rw[iO f];exact jl f
   rw[mX f,nv f,nv U];rfl
  rw[h,rE _ _ (by have:=ev a;omega),nr o i,q,r];grind
 have g:b/2^k/aF a=b/aF a/2^k:=(by rw[p4 (eb s),p4 (eb (ev a)),gG]);rw[g,u];generalize d[c+a]+4294967296*d.getD (c+a+1) 0=l;have h:∀e:Int,l+4294967296*(4294967296*e)=l+2^k*(4294967296*(2^(32-k)*e)):=λe=>(by generalize(2:Int)^k=m at*;generalize(2:Int)^(32-k)=n at*;rw[show(4294967296:Int)*(4294967296*e)=(m*n)*(4294967296*e) by rw[<-t]];grind);rw[h,rE _ _ U,ts]
def N9 (f:aH d) (o:c<32) (j:a<d.length):(decide (ae d %(aF a*2^c)≠0))=(decide (ae (d.take a)≠0)||decide (d[a] %2^c≠0)):=by have l:=hT c;have m:=rc (p:=c) U;have n:=dY (f.take a);have g:=fq (f.take a);rw[eD,fW U] at g;have e:=FZ (x:=ae (d.take a)) (b:=aF a) (y:=ae (d.drop a)) (P:=2^c) (P':=0) (ev a) ⟨n,g⟩ l;rw[<-nk d a U] at e;have k:ae (d.drop a) %2^c=d[a] %2^c:=(by rw[jl j,m,fP,ts]);rw[k] at e;by_cases h:ae (d.take a)=0<;>by_cases i:d[a] %2^c=0<;>simp[h,i,e]
theorem Ih {n:Nat} (h:aH d) (bl:d.length<=10000000) (a4:n<=1000000000):ac (uH (d,(n:Int),())) (λi=>∃e,i=(e,decide (ae d %2^n≠0),())/\aH e/\ae e=ae d/2^n/\e.length<=d.length):=by
 unfold uH;obtain⟨a,c,ad,J,w,Y⟩:=HK (n:=n) U;have E:=hT c;have av:=rc (p:=c) U;have an:(2:Int)^c<=2147483648:=sZ U;have T:(2:Int)^n=aF a*2^c:=(by rw[nq,ad,Int.pow_add]);have K:=dY h;dsimp only;refine ac.aX (P:=λi=>i=(decide (ae (d.take a)≠0),())) ?_ ?_
 ·have M:∀b,min a d.length=b->decide (ae (d.take a)≠0)=decide (ae (d.take b)≠0):=λb l=>by
   rcases Nat.le_total a d.length with f|f
   ·rw[fW f] at l;rw[l]
   rw[Nat.min_eq_right f] at l;rw[<-l,dC f,dC (a2 _)]
  refine ac.steps (min a d.length) (λb s=>s=(decide (ae (d.take b)≠0),(b:Int),())) (by simp[ae]) ?_ ?_
  ·rintro b _ l rfl;have t:=h.get (n:=b) U;simp only[w,aQ,aC (U:(b:Int)<(a:Int)),beq_self_eq_true,cond_true,aC (show(b:Int)<au d by simp only[a1];omega),da (U:b<d.length),br (U:b<9223372036854775807),dA];have z:ae (d.take (b+1))=ae (d.take b)+aF b*d[b]:=fU U;have ap:=dY (h.take b);have C:=ev b;by_cases f:ae (d.take b)=0
   ·rw[ay (show¬(ae (d.take b)≠0) fromλo=>o f)];refine ac.aj.2 ?_;show((!decide (d[b]=0)),_,())=_;congr 1;rw[z,f];by_cases k:d[b]=0
    ·simp[k]
    have:=mA C (U:0<d[b]);rw[ay k,aC (U:(0:Int)+aF b*d[b]≠0)];rfl
   rw[aC (show ae (d.take b)≠0 from f)];refine ac.aj.2 ?_;show(true,_,())=_;congr 1;have:=kq (eb C) t.1;rw[z,aC (U:ae (d.take b)+aF b*d[b]≠0)]
  rintro _ rfl;simp only[w,aQ];by_cases f:min a d.length<a
  ·simp only[aC (U:((min a d.length:Nat):Int)<(a:Int)),beq_self_eq_true,cond_true,ay (show¬(((min a d.length:Nat):Int)<au d) by simp only[a1];omega),cond_false,aQ];refine ac.aj.2 ?_;rw[M _ rfl]
  simp only[ay (U:¬(((min a d.length:Nat):Int)<(a:Int))),show(false==true)=false from rfl,cond_false,aQ];refine ac.aj.2 ?_;rw[M _ rfl]
 rintro _ rfl;dsimp only;refine ac.bs Y (ac.bs w ?_);rw[T];rcases Nat.lt_or_ge a d.length with o|o
 ·obtain⟨g,v⟩:∃g,g=ae (d.drop a):=⟨_,rfl⟩;have F:0<=g:=(by rw[v];exact dY (h.drop a));have Z:ae d=ae (d.take a)+aF a*g:=(by rw[v];exact nk d a U);have W:=dY (h.take a);have I:=fq (h.take a);rw[eD,fW U] at I;have V:ae d/(aF a*2^c)=g/2^c:=by
   rw[<-p4 (eb (ev a)),Z,rE _ _ (by have:=ev a;omega),nr W I,Int.zero_add]
  obtain⟨m,a3⟩:∃m,d.length=a+m:=⟨d.length-a,U⟩;have a0:g<aF m:=(by have:=fq (h.drop a);rw[kt,(U:d.length-a=m),<-v] at this;exact this);have S:=N9 h J o;refine ac.aX (P:=λi=>∃e,i=(decide (ae d %(aF a*2^c)≠0),e,())/\e.length=m/\aH e/\ae e=g/2^c) ?_ ?_
  ·refine ac.steps m (λb s=>∃e,s=(if b=0 then decide (ae (d.take a)≠0) else decide (ae d %(aF a*2^c)≠0),((a+b:Nat):Int),e,())/\e.length=b/\aH e/\ae e+aF b*(g/2^c/aF b)=g/2^c) ⟨[],rfl,rfl,aH.nil,by simp[ae,tp]⟩ ?_ ?_
   ·rintro b _ l ⟨e,rfl,aq,u,r⟩;have t:=h.get (n:=a+b) U;have L:=h.getD (a+b+1);obtain⟨j,q,N,am⟩:∃j,j=d[a+b]+4294967296*d.getD (a+b+1) 0/\0<=j/\j<18446744073709551616:=⟨_,rfl,U,U⟩;have G:g/2^c/aF b %4294967296=j/2^c %4294967296:=(by rw[q];exact NZ h J U v);have X:0<=j/2^c:=Int.ediv_nonneg N (Int.le_of_lt E);have y:aZ ((a+b:Nat):Int)=((a+b+1:Nat):Int):=br U;dsimp only;rw[bw (aC (show((a+b:Nat):Int)<au d by simp only[a1];omega))];refine ac.aX (P:=λi=>i=(decide (ae d %(aF a*2^c)≠0),e++[j/2^c %4294967296],())) ?_ ?_
    ·refine ac.bs (da U) ?_;refine ac.aX (P:=λi=>i=(j,e,())) ?_ ?_
     ·rw[y,bo];refine ac.ite (λf=>?_) λf=>?_
      ·have f:a+b+1<d.length:=(by simp only[a1] at f;omega);rw[da f,aQ,bM (x:=d[a+b+1]) (by have:=h.get f;omega) (by have:=h.get f;omega),kZ aa aa];rw[iO f] at q L;have O:d[a+b+1]*2^(32:Int).toNat %18446744073709551616=4294967296*d[a+b+1]:=by
        rw[show(2:Int)^(32:Int).toNat=4294967296 from rfl];omega
       rw[aQ,O,bM U U,kh 32 t.1 t.2 U U U U];refine ac.aj.2 ?_;rw[<-q]
      have f:d.length<=a+b+1:=(by simp only[a1] at f;omega);rw[mX f] at q;rw[bM U U];refine ac.aj.2 ?_;rw[q];simp
     rintro _ rfl;dsimp only;refine ac.aX (P:=λi=>i=(decide (ae d %(aF a*2^c)≠0),e,())) ?_ ?_
     ·refine ac.bs w ?_;by_cases H:b=0
      ·subst H;have A:(((a+0:Nat):Int)==(a:Int))=true:=ab;rw[A];simp only[beq_self_eq_true,cond_true];refine ac.bs (da U) ?_;rw[Iw U U,aQ,du,Int.one_mul,ns U U,i4 U U,DM c (h.get (n:=a+0) U).1 (h.get (n:=a+0) U).2 U,dA,S];have Q:d[a+0]=d[a]:=rfl;rw[Q];by_cases k:d[a] %2^c=0
       ·rw[aC k];refine ac.aj.2 ?_;simp[k]
       rw[ay k];refine ac.aj.2 ?_;simp[k]
      have A:(((a+b:Nat):Int)==(a:Int))=false:=(by rw[dD];exact ay U);rw[A];simp only[show(false==true)=false from rfl,cond_false];refine ac.aj.2 ?_;rw[ah H]
     rintro _ rfl;dsimp only;rw[pO U U,Option.bind_some,Int.toNat_natCast,eF (by simp;omega),nl];exact ac.aj.2 rfl
    rintro _ rfl;dsimp only;refine ac.aj.2 ⟨e++[j/2^c %4294967296],by rw[y,if_neg U];rfl,by simp[aq],u.snoc U U,?_⟩;rw[nj,aq,<-G,fO,Int.mul_comm 4294967296 (aF b),<-Int.ediv_ediv_of_nonneg (Int.le_of_lt (ev b))];have D:=Int.emod_add_mul_ediv (g/2^c/aF b) 4294967296;generalize g/2^c/aF b %4294967296=i at*;generalize g/2^c/aF b/4294967296=ce at*;rw[<-D] at r;clear G D q N am X t L y;grind
   rintro _ ⟨e,rfl,aq,u,r⟩;dsimp only;rw[bq (ay (show¬(((a+m:Nat):Int)<au d) by simp only[a1];omega)),if_neg U];refine ac.aj.2 ⟨e,rfl,aq,u,?_⟩;have B:0<=g/2^c:=Int.ediv_nonneg F (Int.le_of_lt E);have R:g/2^c<=g:=Int.ediv_le_self _ F;rw[Int.ediv_eq_zero_of_lt B U] at r;simpa using r
  rintro _ ⟨e,rfl,aq,u,r⟩;exact ac.aj.2 ⟨e,rfl,u,by rw[r,V],U⟩
 have B:=fq h;have R:=mj o;have z:aF a*1<=aF a*2^c:=i7 U (eb (ev a));rw[nr K U,ns K U,dC o];refine ac.aX (P:=λi=>i=(decide (ae d≠0),[],())) ?_ ?_
 ·refine ac.steps 0 (λb s=>s=(decide (ae d≠0),(a:Int),[],())) rfl (λb s l=>by omega) ?_;rintro _ rfl;dsimp only;rw[bq (ay (show¬((a:Int)<au d) by simp only[a1];omega))];exact ac.aj.2 rfl
 rintro _ rfl;exact ac.aj.2 ⟨[],rfl,aH.nil,rfl,ab⟩
theorem RC (s:aH d) (t:aH f) (F:d.length<=10000000) (G:f.length<=10000000):ac (xV (d,f,())) (λh=>∃a,h=(a,())/\aH a/\ae a=ae d+ae f/\a.length<=d.length+f.length+1):=by
 unfold xV;dsimp only;obtain⟨i,E⟩:∃i,i=max d.length f.length:=⟨_,rfl⟩;have u:(if au f>au d then au f else au d)=(i:Int):=(by simp only[a1];split<;>omega);rw[u];refine ac.aX (P:=λh=>∃c a,h=(c,a,())/\a.length=i/\aH a/\0<=c/\c<=1/\ae a+aF i*c=ae d+ae f) ?_ ?_
 ·refine ac.steps i (λb z=>∃c a,z=(c,(b:Int),a,())/\a.length=b/\aH a/\0<=c/\c<=1/\ae a+aF b*c=ae (d.take b)+ae (f.take b)) ⟨0,[],rfl,rfl,aH.nil,U,U,by simp[ae]⟩ ?_ ?_
  ·rintro b _ D ⟨c,a,rfl,j,k,l,o,m⟩;have v:=s.getD b;have w:=t.getD b;obtain⟨g,n,A,B,p⟩:∃g,g=c+d.getD b 0+f.getD b 0/\0<=g/\g<18446744073709551616/\g/4294967296<=1:=⟨_,rfl,U,U,U⟩;dsimp only;rw[bw (aC (U:(b:Int)<(i:Int)))];refine ac.aX (P:=λh=>h=(g/4294967296,a++[g %4294967296],())) ?_ ?_
   ·refine ac.aX (P:=λh=>h=(c+d.getD b 0,a,())) ?_ ?_
    ·simp only[bo];refine ac.ite (λe=>?_) λe=>?_
     ·have e:b<d.length:=(by simp only[a1] at e;omega);rw[da e];rw[iO e] at v|-;refine ac.aj.2 ?_;rw[bM (x:=d[b]) U U,bM U U]
     have e:d.length<=b:=(by simp only[a1] at e;omega);rw[mX e,Int.add_zero];exact ac.aj.2 rfl
    rintro _ rfl;refine ac.aX (P:=λh=>h=(g,a,())) ?_ ?_
    ·simp only[bo];refine ac.ite (λe=>?_) λe=>?_
     ·have e:b<f.length:=(by simp only[a1] at e;omega);rw[da e];rw[iO e] at w n;refine ac.aj.2 ?_;rw[bM (x:=f[b]) U U,bM U U,n]
     have e:f.length<=b:=(by simp only[a1] at e;omega);rw[mX e,Int.add_zero] at n;rw[n];exact ac.aj.2 rfl
    rintro _ rfl;dsimp only;rw[eF (by simp;omega),nl,k1];exact ac.aj.2 rfl
   rintro _ rfl;dsimp only;refine ac.aj.2 ⟨g/4294967296,a++[g %4294967296],by rw[br U],by simp[j],k.snoc U U,U,p,?_⟩;rw[nj,j,fO,v7,v7];have:=Int.emod_add_mul_ediv g 4294967296;generalize g/4294967296=y at*;generalize g %4294967296=h at*;generalize d.getD b 0=q at*;generalize f.getD b 0=C at*;have r:h=c+q+C-4294967296*y:=U;clear this n A B p;subst r;grind
  rintro _ ⟨c,a,rfl,j,k,l,o,m⟩;dsimp only;rw[bq (ay (U:¬((i:Int)<(i:Int))))];rw[List.take_of_length_le U,List.take_of_length_le U] at m;exact ac.aj.2 ⟨c,a,rfl,j,k,l,o,m⟩
 rintro _ ⟨c,a,rfl,j,k,l,o,m⟩;dsimp only;rw[eF (by simp;omega),i4 l U];refine ac.aj.2 ⟨a++[c],rfl,k.snoc l U,?_,by simp;omega⟩;rw[nj,j,m]
def SA (a:Int):db .u64 a 63=some (a/9223372036854775808):=by have:db .u64 a 63=some (a.fdiv 9223372036854775808):=rfl;rw[this,wg _ aa]
theorem Ij (t:aH d) (u:aH f) (G:d.length<=10000000) (w:f.length<=d.length) (E:ae f<=ae d):ac (uI (d,f,())) (λh=>∃a,h=(a,())/\aH a/\ae a=ae d-ae f/\a.length=d.length):=by
 unfold uI;dsimp only;refine ac.aX (P:=λh=>∃a b,h=(a,())/\a.length=d.length/\aH a/\0<=b/\b<=1/\ae a-aF d.length*b=ae d-ae f) ?_ ?_
 ·refine ac.steps d.length (λe A=>∃b a,A=(b,(e:Int),a,())/\a.length=e/\aH a/\0<=b/\b<=1/\ae a-aF e*b=ae (d.take e)-ae (f.take e)) ⟨0,[],rfl,rfl,aH.nil,U,U,by simp[ae]⟩ ?_ ?_
  ·rintro e _ o ⟨b,a,rfl,i,j,m,n,l⟩;have F:=t.get o;have x:=u.getD e;obtain⟨c,k,p,q⟩:∃c,c=d[e]-b-f.getD e 0/\-4294967296<=c/\c<4294967296:=⟨_,rfl,U,U⟩;dsimp only;rw[bw (aC (show(e:Int)<au d by simp only[a1];omega))];refine ac.aX (P:=λh=>h=(-(c/4294967296),a++[c %4294967296],())) ?_ ?_
   ·refine ac.bs (da o) ?_;refine ac.aX (P:=λh=>h=(c %18446744073709551616,a,())) ?_ ?_
    ·simp only[bo];refine ac.ite (λg=>?_) λg=>?_
     ·have g:e<f.length:=(by simp only[a1] at g;omega);rw[da g];rw[iO g] at k x;refine ac.aj.2 ?_;simp only[kn];rw[k];congr 1;omega
     have g:f.length<=e:=(by simp only[a1] at g;omega);rw[mX g] at k;refine ac.aj.2 ?_;simp only[kn];rw[k];congr 1;omega
    rintro _ rfl;dsimp only;rw[eF (by simp;omega),nl,SA];refine ac.aj.2 ?_;have aq:c %18446744073709551616/9223372036854775808=-(c/4294967296):=U;have z:c %18446744073709551616 %4294967296=c %4294967296:=U;rw[aq,z]
   rintro _ rfl;dsimp only;refine ac.aj.2 ⟨-(c/4294967296),a++[c %4294967296],by rw[br U],by simp[i],j.snoc U U,U,U,?_⟩;rw[nj,i,fO,fU o,v7];have:=Int.emod_add_mul_ediv c 4294967296;generalize c/4294967296=y at*;generalize c %4294967296=h at*;generalize f.getD e 0=C at*;generalize d[e]=B at*;have r:h=B-b-C-4294967296*y:=U;clear this k p q;subst r;grind
  rintro _ ⟨b,a,rfl,i,j,m,n,l⟩;dsimp only;rw[bq (ay (show¬((d.length:Int)<au d) by simp only[a1];omega))];refine ac.aj.2 ⟨a,b,rfl,i,j,m,n,?_⟩;rw[l,List.take_of_length_le (Nat.le_refl _),List.take_of_length_le w]
 rintro _ ⟨a,b,rfl,i,j,m,n,l⟩;have s:=fq j;have D:=ev d.length;rw[i] at s;have v:b=0:=by
  rcases g7 0 b with g|g
  ·obtain rfl:b=1:=U;omega
  omega
 subst v;exact ac.aj.2 ⟨a,rfl,j,by rw[<-l];simp,i⟩
theorem Sa (L:aH f) (t:a<f.length) (M:aH d) (Z:a+d.length<c) (Y:c<=100000000) (I:g.length=c) (J:aH g) (P:gJ g (a+d.length)) {r:fX->Prop} (K:∀h e,e.length=c->aH e->gJ e (a+d.length)->0<=h->h<4294967296->ae e+aF (a+d.length)*h=ae g+aF a*(f[a]*ae d)->r (h,e,())):ac (loop (σ:=mM) (ρ:=fX) (λ(l,j,o,_)=>
 bif decide (j<au d) then
 (aL f (a:Int)).bind λE=>
 (aL d j).bind λC=>
 rd o (ax ((a:Int)+j)) λD=>
 wr o (ax ((a:Int)+j)) (bK (aA (aA (l+aA (aA E*aA C))+aA D))) λX=>
 (db IntKind.u64 (aA (aA (l+aA (aA E*aA C))+aA D)) 32).bind λW=>
 some (.inl (W,aZ j,X,())) else
 some (.inr (l,o,()))) (0,0,g,())) r:=by
 refine ac.steps d.length (λb T=>∃h e,T=(h,(b:Int),e,())/\e.length=c/\aH e/\gJ e (a+d.length)/\0<=h/\h<4294967296/\ae e+aF (a+b)*h=ae g+aF a*(f[a]*ae (d.take b))) ⟨0,g,rfl,I,J,P,U,U,by simp[ae]⟩ ?_ ?_
 ·rintro b _ m ⟨h,e,rfl,aq,k,p,y,z,q⟩;have v:=L.get t;have w:=M.get m;have O:=k.get (n:=a+b) U;have N:=yU v w;obtain⟨i,u,A,B⟩:∃i,i=h+f[a]*d[b]+e[a+b]/\0<=i/\i<18446744073709551616:=⟨_,rfl,U,U⟩;simp only[aC (show(b:Int)<au d by simp only[a1];omega),cond_true,da m,da t,aQ];have ai:ax ((a:Int)+(b:Int))=((a+b:Nat):Int):=(by rw[bf U U];simp);rw[ai,kS U];have s:aA (aA (h+aA (aA f[a]*aA d[b]))+aA e[a+b])=i:=by
   rw[bM (x:=f[a]) U U,bM (x:=d[b]) U U,bM (x:=e[a+b]) U U,bM (x:=f[a]*d[b]) U U,bM (x:=h+f[a]*d[b]) U U,<-u,bM A B]
  rw[s,nl,k4 U,k1];refine ac.aj.2 ⟨i/4294967296,e.set (a+b) (i %4294967296),by rw[br U],by simp[aq],k.set U U,p.CJ _ U,U,U,?_⟩;rw[k2 U,(U:a+(b+1)=(a+b)+1),fO,fU m];have G:=g6 i 4294967296;rw[rB] at q|-;generalize i/4294967296=R at*;generalize i %4294967296=S at*;generalize e[a+b]=Q at*;generalize d[b]=V at*;generalize f[a]=F at*;have H:S=h+F*V+Q-4294967296*R:=U;clear G s u A B N v w O;subst H;grind
 rintro _ ⟨h,e,rfl,aq,k,p,y,z,q⟩;simp only[ay (show¬((d.length:Int)<au d) by simp only[a1];omega),cond_false];refine ac.aj.2 (K h e aq k p y z ?_);rw[q,dC (a2 _)]
theorem RV (s:aH f) (t:aH d) (v:f.length<=10000000) (w:d.length<=10000000):ac (xX (f,d,())) (λh=>∃a,h=(a,())/\aH a/\ae a=ae f*ae d/\a.length=f.length+d.length):=by
 unfold xX;dsimp only;have r:ax (au f+au d)=((f.length+d.length:Nat):Int):=(by simp only[a1];rw[bf U U];simp);rw[r,hR U,Option.bind_some];refine ac.aX (P:=λh=>∃a,h=(a,())/\a.length=f.length+d.length/\aH a/\ae a=ae f*ae d) ?_ ?_
 ·refine ac.steps f.length (λb u=>∃a,u=((b:Int),a,())/\a.length=f.length+d.length/\aH a/\gJ a (b+d.length)/\ae a=ae (f.take b)*ae d) ⟨_,rfl,ab,aH.ko _,gJ.ko _ _,by simp[ae,ow]⟩ ?_ ?_
  ·rintro b _ q ⟨a,rfl,aq,g,l,p⟩;dsimp only;rw[bw (aC (show(b:Int)<au f by simp only[a1];omega))];refine ac.aX (P:=λh=>∃e c,h=(e,c,())/\c.length=f.length+d.length/\aH c/\gJ c (b+d.length)/\0<=e/\e<4294967296/\ae c+aF (b+d.length)*e=ae a+aF b*(f[b]*ae d)) (Sa s q t U U aq g l λe c m n i j k o=>⟨e,c,rfl,m,n,i,j,k,o⟩) ?_;rintro _ ⟨e,c,rfl,m,n,i,j,k,o⟩;have ai:ax ((b:Int)+au d)=((b+d.length:Nat):Int):=(by simp only[a1];rw[bf U U];simp);dsimp only;rw[ai,i4 j k,k4 U];refine ac.aj.2 ⟨c.set (b+d.length) e,by rw[br U],by simp[m],n.set j k,?_,?_⟩
   ·rw[(U:b+1+d.length=b+d.length+1)];exact i.set _
   rw[k2 U,i _ (a2 _) U,fU q,Int.sub_zero,o,p];grind
  rintro _ ⟨a,rfl,aq,g,l,p⟩;dsimp only;rw[bq (ay (show¬((f.length:Int)<au f) by simp only[a1];omega))];refine ac.aj.2 ⟨a,rfl,aq,g,?_⟩;rw[p,List.take_of_length_le (Nat.le_refl _)]
 rintro _ ⟨a,rfl,aq,g,l⟩;exact ac.aj.2 ⟨a,rfl,g,l,aq⟩
def vG {x y:Int} (t:aw x.natAbs<=3000000) (u:aw y.natAbs<=3000000):o5 (aD x,aD y,())=some (aD (x+y),()):=by
 obtain⟨c,l,z⟩:=fk t;obtain⟨d,m,A⟩:=fk u;unfold o5;dsimp only;refine ac.eq_iff.1 ?_;refine ac.bs (pN c l U) (ac.bs (pN d m U) ?_);dsimp only;have q:=gL x;have r:=gL y;have v:(aD x).1=decide (x<0):=rfl;have w:(aD y).1=decide (y<0):=rfl;rw[v,w];by_cases k:(decide (x<0)==decide (y<0))=true
 ·rw[bw k];refine ac.aX (RC c d U U) ?_;rintro _ ⟨h,rfl,i,j,s⟩;refine ac.bs (s2 i (by show h.length<=_;omega) j) (ac.aj.2 ?_);dsimp only;congr 2;have:decide (x<0)=decide (y<0):=(by simpa using k);have e:x<0↔y<0:=(by simpa using this);rw[q,r];by_cases a:x<0
  ·rw[al (aC a)];have:=e.1 a;omega
  rw[ah (by simpa using a)];have:=mt e.2 a;omega
 rw[bq (by simpa using k)];have e:¬(x<0↔y<0):=(by simpa using k);refine ac.bs (RG c d l m U U) ?_;dsimp only;rw[bo];refine ac.ite (λn=>?_) λn=>?_
 ·have p:=r3.1 n;have o:(aD y).2.1.length<=(aD x).2.1.length:=by
   rcases bj (aD x).2.1.length (aD y).2.1.length with g|g
   ·have:=ov c d m g;omega
   exact g
  refine ac.aX (Ij c d U o p) ?_;rintro _ ⟨h,rfl,i,j,s⟩;refine ac.bs (s2 i (by show h.length<=_;omega) j) (ac.aj.2 ?_);dsimp only;congr 2;rw[q,r] at*;by_cases a:x<0
  ·rw[al (aC a)];have:¬y<0:=λb=>e ⟨λ_=>b,λ_=>a⟩;omega
  rw[ah (by simpa using a)];have:y<0:=Decidable.byContradiction λb=>e ⟨λf=>absurd f a,λf=>absurd f b⟩;omega
 have p:ae (aD x).2.1<ae (aD y).2.1:=Int.not_le.1 (mt r3.2 n);have o:(aD x).2.1.length<=(aD y).2.1.length:=by
  rcases bj (aD y).2.1.length (aD x).2.1.length with g|g
  ·have:=ov d c l g;omega
  exact g
 refine ac.aX (Ij d c U o (Int.le_of_lt p)) ?_;rintro _ ⟨h,rfl,i,j,s⟩;refine ac.bs (s2 i (by show h.length<=_;omega) j) (ac.aj.2 ?_);dsimp only;congr 2;rw[q,r] at*;by_cases a:x<0
 ·have b:¬y<0:=λb=>e ⟨λ_=>b,λ_=>a⟩;rw[ah (by simpa using b)];omega
 have b:y<0:=Decidable.byContradiction λb=>e ⟨λf=>absurd f a,λf=>absurd f b⟩;rw[al (aC b)];omega
def Ii (c:aw b.natAbs<=3000000) (a:aw e.natAbs<=3000000):uG (aD b,aD e,())=some (aD (b-e),()):=by unfold uG;refine ao (H6 a) ?_;dsimp only;exact ao (vG c (by rw[Int.natAbs_neg];exact a)) (by rw[<-Int.sub_eq_add_neg])
theorem RU (j:aw b.natAbs<=3000000) (k:aw e.natAbs<=3000000):xU (aD b,aD e,())=some (aD (b*e),()):=by
 obtain⟨f,h,o⟩:=fk j;obtain⟨g,i,p⟩:=fk k;unfold xU;dsimp only;refine ac.eq_iff.1 ?_;refine ac.bs (pN f h U) (ac.bs (pN g i U) ?_);dsimp only;refine ac.aX (RV f g U U) ?_;rintro _ ⟨l,rfl,m,n,q⟩;refine ac.bs (s2 m (by show l.length<=_;omega) n) (ac.aj.2 ?_);dsimp only;rw[gL,gL];congr 2;show(if(!(decide (b<0)==decide (e<0)))=true then _ else _)=_;rcases Int.lt_or_le b 0 with c|c<;>rcases Int.lt_or_le e 0 with d|d
 ·rw[aC c,aC d];have ai:(b.natAbs:Int)=-b:=U;have a:(e.natAbs:Int)=-e:=U;rw[ai,a];simp<;>grind
 ·rw[aC c,ay (U:¬e<0)];have ai:(b.natAbs:Int)=-b:=U;have a:(e.natAbs:Int)=e:=U;rw[ai,a];simp<;>grind
 ·rw[aC d,ay (U:¬b<0)];have ai:(b.natAbs:Int)=b:=U;have a:(e.natAbs:Int)=-e:=U;rw[ai,a];simp<;>grind
 rw[ay (U:¬e<0),ay (U:¬b<0)];have ai:(b.natAbs:Int)=b:=U;have a:(e.natAbs:Int)=e:=U;rw[ai,a];simp
def CB {n:Int} (c:-9223372036854775808<=n) (d:n<=9223372036854775807):sj (n,())=some (aD n,()):=by
 unfold sj;dsimp only;obtain⟨a,e,f,g⟩:∃a:Int,a=n.natAbs/\0<=a/\a<=9223372036854775808:=⟨_,rfl,U,U⟩;refine ao (y:=(a,(false,([],())),())) ?_ ?_
 ·rw[bo];split
  ·rename_i b;have ai:aZ n=n+1:=(by unfold aZ;exact wrap64 U U);rw[ai,bf U U,bM (x:=0-(n+1)) U U,bM U U];congr 2;omega
  rename_i b;rw[bM U U];congr 2;omega
 dsimp only;rw[k1,Option.bind_some,nl a,i4 (x:=a/4294967296) U U];refine ao (vK (aH.cons.2 ⟨⟨U,U⟩,aH.cons.2 ⟨⟨U,U⟩,aH.nil⟩⟩) ab) ?_;dsimp only;congr 2;congr 1;unfold eB;simp only[ae];by_cases b:n<0
 ·simp[b];omega
 simp[b];omega
def Ig {z:Int} {n:Nat} (b:aw z.natAbs<=3000000) (i:n<=10000000):kG (aD z,(n:Int),())=some (aD (z*2^n),()):=by
 obtain⟨d,g,h⟩:=fk b;unfold kG;dsimp only;refine ac.eq_iff.1 ?_;refine ac.bs (zl b) ?_;dsimp only;rw[bw (aC (U:(n:Int)>=0))];refine ac.aX (Sd d U (n:=n) U) ?_;rintro _ ⟨e,rfl,f,c,j⟩;rw[gL] at c;refine ac.bs (s2 f (by show e.length<=_;omega) c) (ac.aj.2 ?_);dsimp only;congr 2;show(if decide (z<0)=true then _ else _)=_;by_cases a:z<0
 ·rw[al (aC a),<-Int.neg_mul];congr 1;omega
 rw[ah (by simpa using a)];congr 1;omega
def Sc (k:aw b.natAbs<=2900000) (s:a<=10000000) (t:0<a):kG (aD b,-(a:Int),())=some (aD (b/2^a),()):=by
 obtain⟨g,p,q⟩:=fk (z:=b) U;have j:=hT a;unfold kG;dsimp only;refine ac.eq_iff.1 ?_;refine ac.bs (zl U) ?_;dsimp only;have ai:ax (0- -(a:Int))=(a:Int):=(by rw[bf U U];omega);rw[bq (ay (U:¬(-(a:Int)>=0))),ai];refine ac.aX (Ih g U (n:=a) U) ?_;rintro _ ⟨w,rfl,l,f,x⟩;rw[gL] at f|-;dsimp only;refine ac.bs (s2 l U f) ?_;dsimp only;have o:(aD b).1=decide (b<0):=rfl;rw[o];have u:0<=(b.natAbs:Int)/2^a:=Int.ediv_nonneg U U;have v:(b.natAbs:Int)/2^a<=b.natAbs:=Int.ediv_le_self _ U;have c:=Gy (m:=b.natAbs) j U;refine ac.bs (y:=((false,([],())),aD (b/2^a),())) ?_ (ac.aj.2 rfl);by_cases e:b<0
 ·rw[aC e];rw[(U:-(b.natAbs:Int)=b)] at c;by_cases d:(b.natAbs:Int) %2^a=0
  ·rw[ay (show¬((b.natAbs:Int) %2^a≠0) fromλh=>h d)];refine ao rfl ?_;dsimp only[cond_false];rw[if_pos d] at c;rw[if_pos rfl,c]
  rw[aC (show(b.natAbs:Int) %2^a≠0 from d)];refine ao rfl ?_;dsimp only[cond_true];rw[if_neg d] at c;refine ao (CB aa aa) ?_;dsimp only;have i:aw (-((b.natAbs:Int)/2^a)).natAbs<=3000000:=(by rw[bY];have:=bY.1 k;have r:=gZ 2900000 3000000 aa;omega);rw[if_pos rfl];refine ao (Ii i aa) ?_;rw[c];dsimp only;congr 4;omega
 rw[ay e];refine ao rfl ?_;dsimp only[cond_false];rw[if_neg ab,(U:(b.natAbs:Int)=b)]
def RF (c:aw b.natAbs<=2900000) (d:aw e.natAbs<=2900000):xS (aD b,aD e,())=some (dI b e,()):=by
 unfold xS;refine ao (Ii U U) ?_;have a:aw (b-e).natAbs<=3000000:=(by have f:=Eg 2900000 c d;have g:=je (U:(b-e).natAbs<=b.natAbs+e.natAbs);omega);refine ao (kk a) ?_;dsimp only;congr 2;unfold dU dI;split
 ·rw[ah U,ah U]
 split
 ·rw[al U]
 rw[ah U,al U]
def Ef (b:aw c<=a) (d:aw k<=a):aw (c+k)<=a+1:=by rw[bY,hI];have:=bY.1 b;have:=bY.1 d;omega
def H1 {z:Int} {n:Nat} (c:aw z.natAbs<=3000000) (e:n<=10000000):uE (aD z,(n:Int),())=some (decide ((z.natAbs:Int) %2^n≠0),()):=by obtain⟨a,b,d⟩:=fk c;unfold uE;dsimp only;refine ac.eq_iff.1 ?_;refine ac.bs (pN a b U) ?_;dsimp only;refine ac.aX (Ih a U (n:=n) U) ?_;rintro _ ⟨f,rfl,g,h,i⟩;rw[gL];exact ac.aj.2 rfl
def RS {z:Int} (p:0<=z) (d:z<9223372036854775808):xT (aD z,())=some (z,true,()):=by
 have f:aw z.natAbs<=64:=bY.2 U;obtain⟨b,n,o⟩:=fk (z:=z) U;have q:(aD z).2.1.length<=2:=l7 U;unfold xT;dsimp only;refine ac.eq_iff.1 ?_;refine ac.bs (zl U) ?_;dsimp only;rw[bq (ay (show¬(au (aD z).2.1>2) by simp only[a1];omega))];refine ac.aX (P:=λl=>l=(z,aD z,())) ?_ ?_
 ·have k:=gL z;refine ac.steps (aD z).2.1.length (λa m=>m=(ae ((aD z).2.1.take a),(a:Int),aD z,())) rfl ?_ ?_
  ·rintro a _ c rfl;have h:=b.get c;dsimp only;rw[bw (aC (show(a:Int)<au (aD z).2.1 by simp only[a1];omega)),da c,Option.bind_some];have d:=dY (b.take a);have e:=fq (b.take a);rw[List.length_take,Nat.min_eq_left U,nq] at e;have ai:ax (32*(a:Int))=((32*a:Nat):Int):=(by rw[bf U U];simp);have f:(2:Int)^(32*a)<=4294967296:=by
    rcases(U:a=0\/a=1) with rfl|rfl<;>decide
   have j:=hT (32*a);have r:(aD z).2.1[a]*2^(32*a)<4294967296*4294967296:=(by have:=i7 f h.1;omega);have g:0<=(aD z).2.1[a]*2^(32*a):=kq h.1 (eb j);rw[ai,bM (x:=(aD z).2.1[a]) U U,kZ U U,aQ,du,ns g U,kh (32*a) d e g U U (Int.mul_emod_left _ _),br U];refine ac.aj.2 ?_;show(_,_,aD z,())=(_,_,aD z,());rw[fU c,nq,gG (2^(32*a))]
  rintro _ rfl;dsimp only;rw[bq (ay (show¬(((aD z).2.1.length:Int)<au (aD z).2.1) by simp only[a1];omega)),List.take_of_length_le (Nat.le_refl _),k];refine ac.aj.2 ?_;show(((z.natAbs:Nat):Int),aD z,())=_;rw[(U:((z.natAbs:Nat):Int)=z)]
 rintro _ rfl;have i:(aD z).1=false:=ay U;dsimp only;rw[i,cond_false,bq (ay (U:¬(z>9223372036854775807))),bf U U];exact ac.aj.2 rfl
def Iu (d:aw e.natAbs<=1900000) (g:-1048576<=b) (h:b<=1048576):nM (aD e,b,())=some (aD (mu e b),0,()):=by
 rcases g7 b 0 with f|f
 ·obtain⟨a,c⟩:∃a:Nat,b=-(a:Int):=⟨(-b).toNat,U⟩;subst c;rw[Sx d U U,s8]
 obtain⟨a,c⟩:∃a:Nat,b=(a:Int):=⟨b.toNat,U⟩;subst c;rw[Sy d U,kY]
def vM (f:aw e.natAbs<=2900000) (g:-10000000<=b) (h:b<=10000000):kG (aD e,b,())=some (aD (mu e b),()):=by
 rcases g7 b 0 with d|d
 ·obtain⟨a,c⟩:∃a:Nat,b=-(a:Int):=⟨(-b).toNat,U⟩;subst c;rw[Sc f U U,s8]
 obtain⟨a,c⟩:∃a:Nat,b=(a:Int):=⟨b.toNat,U⟩;subst c;rw[Ig U U,kY]
def bm (a:Int):Int:=if a=0 then 0 else bh a
def sS:aR 0=0:=rfl
def e4 (a:Int):a6 (some a)=(false,aD (aR a),bm a,()):=by
 by_cases b:a=0
 ·subst b;rfl
 rw[EQ b,bm,ah b]
def hV (a:dT b):aw (aR b).natAbs<=131072:=by
 by_cases c:b=0
 ·subst c;exact a
 rw[BW c];unfold dT at a;omega
def hU (a:dT b):-65536<=bm b/\bm b<=65536:=by
 unfold bm;split
 ·omega
 rename_i c;have:=pT (n:=b.natAbs) U;unfold dT at a;unfold bh;omega
def yQ (c:dT b):ed (aR b) (bm b)=some b:=by
 by_cases a:b=0
 ·subst a;rfl
 rw[bm,ah a,Oz c]
def O7 (c:b=0\/e<=bh b) (g:-65536<=e):aR b*2^(bm b-e).toNat*2^(e+65536).toNat=b:=by
 by_cases a:b=0
 ·subst a;rw[sS];simp
 have d:=mi b;have f:=c.resolve_left a;rw[bm,ah a,fP,<-iC];have:(bh b-e).toNat+(e+65536).toNat=bb b.natAbs:=(by unfold bh at*;omega);rw[this,d]
def EP (y:b≠0) (t:¬(e+bb b.natAbs< -65536\/65536<e+aw b.natAbs)):a6 (ed b e)=(false,aD (b/2^bb b.natAbs),e+bb b.natAbs,())/\(ed b e).isSome=true:=by
 obtain⟨a,o⟩:∃a,a=mu b (e+65536):=⟨_,rfl⟩;have B:ed b e=some a:=(by unfold ed;rw[ah y,ah t,o]);rw[B];refine⟨?_,rfl⟩;obtain⟨g,w⟩:=pU (n:=b.natAbs) U;have l:=(pv (n:=b.natAbs) (k:=bb b.natAbs) U).1 (a2 _);have A:b/2^bb b.natAbs*2^bb b.natAbs=b:=uR l;have z:(b/2^bb b.natAbs).natAbs=2*g+1:=by
  rw[vr l]
  conv=>lhs;lhs;rw[w]
  exact Nat.mul_div_cancel _ (e8 _)
 generalize G:bb b.natAbs=d at*;generalize F:b/2^d=j at*;have i:a=j*2^(e+d+65536).toNat:=by
  rw[o,<-A];rcases Int.le_total 0 (e+65536) with s|s
  ·obtain⟨c,h⟩:∃c:Nat,e+65536=c:=⟨(e+65536).toNat,U⟩;rw[h,kY,fP,<-iC];congr 2;omega
  obtain⟨c,h⟩:∃c:Nat,e+65536=-(c:Int):=⟨(-(e+65536)).toNat,U⟩;obtain⟨q,x⟩:∃q:Nat,d=q+c:=⟨d-c,U⟩;rw[h,s8,x,iC,<-fP,Int.mul_ediv_cancel _ (by have:=hT c;omega)];congr 2;omega
 obtain⟨f,v⟩:∃f:Nat,e+d+65536=f:=⟨(e+d+65536).toNat,U⟩;rw[v,du] at i;have p:a.natAbs=(2*g+1)*2^f:=(by rw[i,eR,z]);have m:bb a.natAbs=f:=td p;have C:a≠0:=(by intro u;rw[u] at p;have D:=Nat.mul_pos (U:0<2*g+1) (e8 f);have E:(0:Int).natAbs=0:=rfl;omega);rw[EQ C];have ai:aR a=j:=(by unfold aR;rw[m,i,Int.mul_ediv_cancel _ (by have:=hT f;omega)]);have r:bh a=e+d:=(by unfold bh;rw[m];omega);rw[ai,r]
def HZ {m:Int} {n:Nat} (b:aw m.natAbs<=1900000) (f:n<=1048576):ud (aD m,(n:Int),())=some (aD (m/2^n),()):=by
 unfold ud;dsimp only;refine ac.eq_iff.1 ?_;refine ac.aX (P:=λd=>d=((n:Int),aD m,(false,([],())),())) ?_ ?_
 ·refine ac.steps 0 (λc a=>a=((n:Int),aD m,(false,([],())),())) rfl (λc a e=>by omega) ?_;rintro _ rfl;dsimp only;rw[bq (ay (U:¬((n:Int)>1048576)))];exact ac.aj.2 rfl
 rintro _ rfl;dsimp only;rw[bf U U,Int.zero_sub];refine ac.bs (Iu b U U) (ac.aj.2 ?_);rw[s8]
def sE {m k:Int} (c:aw m.natAbs<=1900000) (a:0<=k) (b:k<=1048576):l4 (aD m,k,())=some (aD (m*2^k.toNat),()):=by unfold l4;refine ao (Iu c U b) ?_;obtain⟨d,rfl⟩:=ea a;show some (aD (mu m (d:Int)),())=_;rw[kY];rfl
def GB (q:aw e.natAbs<=900000) (o:-1000000000000<=v) (p:v<=1000000000000):l5 ((false,aD e,v,()),())=some (a6 (ed e v),(ed e v).isSome,()):=by
 obtain⟨h,l,m⟩:=fk (z:=e) U;unfold l5;dsimp only;rw[cond_false];have g:=O2 (b:=aD e) h U;rw[lH] at g;refine ao g ?_;refine ao (oo (gT U)) ?_;dsimp only;rw[dD,bo];split
 ·rename_i a;have:e=0:=by
   unfold dU at a;split at a
   ·assumption
   split at a<;>omega
  subst this;rfl
 rename_i a;have c:e≠0:=(by intro v;subst v;exact a rfl);have r:=pT (n:=e.natAbs) U;refine ao (I2 (gT U) c) ?_;dsimp only;by_cases f:v+bb e.natAbs< -65536\/65536<v+aw e.natAbs
 ·have k:ed e v=none:=(by unfold ed;rw[if_neg c,if_pos f]);rw[k];refine ao (y:=.inr (a6 none,false,())) ?_ rfl;refine ao (y:=(true,(false,((false,([],())),((0:Int),()))),aD e,())) ?_ rfl;refine ao (qq (gT U)) ?_;dsimp only;rw[bf (x:=65536-(aw e.natAbs:Int)) U U,bf U U];by_cases d:v>65536-(aw e.natAbs:Int)
  ·rw[aC d];rfl
  rw[ay d,aC (U:v< -65536-(bb e.natAbs:Int))];rfl
 obtain⟨i,j⟩:=EP c f;rw[i,j];refine ao (y:=.inl ((false,((false,([],())),((0:Int),()))),aD e,())) ?_ ?_
 ·refine ao (y:=(false,(false,((false,([],())),((0:Int),()))),aD e,())) ?_ rfl;refine ao (qq (gT U)) ?_;dsimp only;rw[bf (x:=65536-(aw e.natAbs:Int)) U U,bf U U];rw[ay (U:¬(v>65536-(aw e.natAbs:Int))),ay (U:¬(v< -65536-(bb e.natAbs:Int)))];rfl
 refine ao (HZ U U) ?_;dsimp only;rw[bf U U]
def sR (b:dx i):l5 (a6 i,())=some (a6 i,i.isSome,()):=by
 cases i with
 |none=>rfl
 |some c=>
  have a:=b c rfl;have d:=hV a;have e:=hU a;rw[e4,GB U U U,yQ a,e4]
def BJ (d:aw e.natAbs<=900000) (a:-1000000000000<=b) (c:b<=1000000000000):r5 (aD e,b,())=some (a6 (ed e b),()):=by unfold r5;exact ao (GB d a c) rfl
def AG (a:dx i):r6 (a6 i,())=some (a6 i,()):=by unfold r6;exact ao (sR a) rfl
def lC (a:cJ):Int:=dU (a.getD 0)
def Sv (a:Int):dU (aR a)=dU a:=by
 unfold dU;have:=q7 (v:=a);by_cases b:a=0
 ·subst b;rfl
 have:=gP b;rw[ah this,ah b];split<;>split<;>first|rfl|omega
def lq (a:dx i):nK (a6 i,())=some (lC i,()):=by
 unfold nK;refine ao (sR a) ?_;cases i with
 |none=>exact ao (oo (z:=0) (gT aa)) rfl
 |some b=>
  have c:=hV (a b rfl);rw[e4];refine ao (oo (gT U)) ?_;show some (dU (aR b),())=_;rw[Sv];rfl
def Tj (a:dx i) (b:dx r):w9 (a6 i,a6 r,())=some (a6 i,a6 r,i.isSome&&r.isSome,()):=by unfold w9;refine ao (sR a) (ao (sR b) ?_);cases i<;>rfl
def jH (c d:cJ):cJ:=c.bind λa=>d.bind λb=>ed (aR a*aR b) (bm a+bm b)
def rT (a b:cJ):cJ:=a.bind λc=>b.bind λd=>hN (c+d)
def n9 (a:cJ):cJ:=a.map λb=>-b
def lZ (a:cJ):cJ:=a.map λb=>(b.natAbs:Int)
def vq (b c:cJ):dx (jH b c):=by
 intro d a;unfold jH at a;cases b with
 |none=>cases a
 |some e=>cases c with
  |none=>cases a
  |some f=>exact yR _ _ d a
def Kc (b c:cJ):dx (rT b c):=by
 intro d a;unfold rT at a;cases b with
 |none=>cases a
 |some e=>cases c with
  |none=>cases a
  |some f=>exact Em _ d a
def BS (b:dx i):dx (n9 i):=by
 intro d a;cases i with
 |none=>cases a
 |some c=>cases a;have:=b c rfl;unfold dT at*;rw[nu];exact this
def zY (b:dx i):dx (lZ i):=by
 intro d a;cases i with
 |none=>cases a
 |some c=>cases a;have:=b c rfl;unfold dT at*;rw[h2];exact this
def LA (a:dx i) (b:dx r):w2 (a6 i,a6 r,())=some (a6 (jH i r),()):=by
 unfold w2;refine ao (Tj a b) ?_;cases i with
 |none=>rfl
 |some c=>
  cases r with
  |none=>rfl
  |some d=>
   have e:=hV (a c rfl);have f:=hV (b d rfl);have g:=hU (a c rfl);have h:=hU (b d rfl);rw[e4,e4];refine ao (Gq U U) ?_;dsimp only;rw[bf U U];refine ao (BJ ?_ U U) rfl;rw[Int.natAbs_mul];have:=nG e f;omega
def BX (a:Int):aR (-a)=-aR a:=by have c:=mi a;have b:=mi (-a);rw[nu] at b;have e:=hT (bb a.natAbs);have d:aR (-a)*2^bb a.natAbs=-aR a*2^bb a.natAbs:=(by rw[b,Int.neg_mul,c]);exact Int.eq_of_mul_eq_mul_right U d
def AP (a:Int):bm (-a)=bm a:=by
 unfold bm bh;rw[nu];by_cases b:a=0
 ·subst b;rfl
 rw[ah b,ah U]
def O6 (a:Int):aR (a.natAbs:Int)=((aR a).natAbs:Int):=by
 have c:=q7 (v:=a);rcases g7 a 0 with b|b
 ·rw[(U:(a.natAbs:Int)=-a),BX];have:=c.2 b;omega
 rw[(U:(a.natAbs:Int)=a)];have:=mt c.1 U;omega
def L9 (a:Int):bm (a.natAbs:Int)=bm a:=by
 rcases g7 a 0 with b|b
 ·rw[(U:(a.natAbs:Int)=-a),AP]
 rw[(U:(a.natAbs:Int)=a)]
def LB (b:dx i):w3 (a6 i,())=some (a6 (n9 i),()):=by
 unfold w3;refine ao (sR b) ?_;cases i with
 |none=>rfl
 |some a=>
  have c:=hV (b a rfl);rw[e4];refine ao (ao (Gz (gT U)) rfl) ?_;show some ((false,aD (-aR a),bm a,()),())=some (a6 (some (-a)),());rw[e4,BX,AP]
def g4 (a b:Int):Int:=aR a*2^(bm a-b).toNat
def ou {v e:Int} (a:v=0\/e<=bh v) (b:-65536<=e):g4 v e*2^(e+65536).toNat=v:=O7 a b
def te (a:b=0\/e<=bh b) (f:-65536<=e) (g:dT b):aw (g4 b e).natAbs<=131072:=by
 have c:=ou a f;have d:(g4 b e).natAbs<=b.natAbs:=by
  conv=>rhs;rw[<-c,eR]
  exact Nat.le_mul_of_pos_right _ (e8 _)
 exact bt (je d) g
def NV (c:b=0\/e<=bh b) (h:-65536<=e) (i:e<=65536) (a:dT b) (d:e<=bm b):l4 (aD (aR b),bm b-e,())=some (aD (g4 b e),()):=by have f:=hV a;have g:=hU a;exact sE U U U
def OA (a:-65536<=b) (c:e=0\/b<=bh e) (d:v=0\/b<=bh v):ed (g4 e b+g4 v b) b=hN (e+v):=by refine q3 a ?_;rw[Int.add_mul,ou c a,ou d a]
def kI (a:e<=bm b):b=0\/e<=bh b:=by
 by_cases c:b=0
 ·exact .inl c
 rw[bm,ah c] at a;exact .inr a
def I3 (c:-65536<=b) (h:e=0\/b<=bh e) (i:v=0\/b<=bh v):g4 e b<g4 v b↔e<v:=by
 have f:=ou h c;have g:=ou i c;have d:=hT (b+65536).toNat;constructor
 ·intro a;have:=rG a d;omega
 intro a;rw[<-f,<-g] at a;exact Int.lt_of_mul_lt_mul_right a (eb d)
def gV (a:Int):cJ:=ed a 0
def dr:cB->Int
 |[]=>0
 |d::a=>d.getD 0+dr a
def fa:cB->Bool
 |[]=>true
 |d::a=>d.isSome&&fa a
def e1 (a:cB):cJ:=if fa a=true then hN (dr a) else none
def CR (b:cB):dx (e1 b):=by
 intro c a;unfold e1 at a;split at a
 ·exact Em _ c a
 cases a
def vZ (a b:cB):dr (a++b)=dr a+dr b:=by
 induction a with
 |nil=>simp[dr]
 |cons d a c=>simp only[h3,dr,c];omega
def wG (a b:cB):fa (a++b)=(fa a&&fa b):=by
 induction a with
 |nil=>simp[fa]
 |cons d a c=>simp only[h3,fa,c,Bool.and_assoc]
def CV (b:a<x.length):dr (x.take (a+1))=dr (x.take a)+(x[a]).getD 0:=by rw[j1,bA b];show dr (x.take a++[x[a]])=_;rw[vZ];simp[dr]
def DH (b:a<x.length):fa (x.take (a+1))=(fa (x.take a)&&(x[a]).isSome):=by rw[j1,bA b];show fa (x.take a++[x[a]])=_;rw[wG];simp[fa]
def DG (b:fa x=true) (c:a<x.length):∃e,x[a]=some e:=by
 induction x generalizing a with
 |nil=>simp at c
 |cons f x d=>
  simp only[fa,a5] at b;cases a with
  |zero=>exact zP.1 b.1
  |succ a=>exact d b.2 (by simpa using c)
def DF (c:a<x.length) (b:x[a]=none):fa x=false:=by
 cases d:fa x with
 |false=>rfl
 |true=>obtain⟨f,e⟩:=DG d c;rw[e] at b;cases b
def LC (A:∀B∈x,dx B) (L:x.length<=1000000):w8 (x.map a6,())=some (a6 (e1 x),()):=by
 unfold w8;refine ac.eq_iff.1 ?_;dsimp only;refine ac.aX (P:=λr=>match r with
  |.inl o=>∃b,o=(b,(false,((false,([],())),((0:Int),()))),x.map a6,())/\fa x=true/\-65536<=b/\b<=0/\(∀a d,(C:a<x.length)->x[a]=some d->b<=bm d)
  |.inr o=>o=(a6 (e1 x),())) ?_ ?_
 ·refine ac.steps x.length (λa u=>∃b,u=(b,(a:Int),(false,((false,([],())),((0:Int),()))),(x.take a).map a6,())/\fa (x.take a)=true/\-65536<=b/\b<=0/\(∀h d,(C:h<x.length)->h<a->x[h]=some d->b<=bm d)) ⟨0,rfl,rfl,aa,aa,λh d f g=>by omega⟩ ?_ ?_
  ·rintro a _ e ⟨b,rfl,f,g,s,l⟩;have z:=A x[a] (List.getElem_mem e);dsimp only;rw[bw (aC (show(a:Int)<au (x.map a6) by simp only[a1,List.length_map];omega))];refine ac.bs (y:=a6 x[a]) ?_ (ac.bs (sR z) ?_)
   ·rw[da (by simpa using e),List.getElem_map]
   dsimp only;cases m:x[a] with
   |none=>
    refine ac.bs rfl (ac.aj.2 ?_);show(a6 none,())=_;rw[e1,ah];rw[DF e m];simp
   |some d=>
    have n:dT d:=z d m;have I:=hU n;show ac ((dd _).bind _) _;rw[eF (by simp;omega)];refine ac.aj.2 ⟨if bm d<b then bm d else b,?_,?_,by split<;>omega,by split<;>omega,?_⟩
    ·rw[br U,j1,bA e,m];simp only[Option.toList_some,h6,eH,List.map_nil,e4]
    ·rw[DH e,f,m];rfl
    intro h K J N t;rcases bj h a with v|v
    ·have:=l h K J v t;split<;>omega
    obtain rfl:h=a:=U;rw[m] at t;cases t;split<;>omega
  rintro _ ⟨b,rfl,f,g,s,l⟩;dsimp only;rw[bq (ay (show¬((x.length:Int)<au (x.map a6)) by simp only[a1,List.length_map];omega))];rw[List.take_of_length_le (Nat.le_refl _)] at f|-;exact ac.aj.2 ⟨b,rfl,f,g,s,λa d e j=>l a d e e j⟩
 rintro(r|r) q
 ·obtain⟨b,rfl,f,g,s,l⟩:=q;dsimp only;refine ac.aX (P:=λo=>∃c,o=((false,((false,([],())),((0:Int),()))),aD c,())/\c*2^(b+65536).toNat=dr x/\aw c.natAbs<=200000) ?_ ?_
  ·have w:∀c:Int,c.natAbs<=x.length*2^131072->aw c.natAbs<=200000:=λc G=>by
    refine bt (je G) ?_;have:aw x.length<=20:=bY.2 U;have D:aw (2^131072)<=131073:=bY.2 (y7 131072 131073 aa);have:=nG this D;omega
   refine ac.steps x.length (λa u=>∃c,u=((a:Int),(false,((false,([],())),((0:Int),()))),x.map a6,aD c,())/\c*2^(b+65536).toNat=dr (x.take a)/\c.natAbs<=a*2^131072) ⟨0,rfl,by rw[jW];simp[dr],(eL _:(0:Nat)<=_)⟩ ?_ ?_
   ·rintro a _ e ⟨c,rfl,i,k⟩;obtain⟨d,j⟩:=DG f e;have n:dT d:=A x[a] (List.getElem_mem e) d j;have p:=l a d e j;have H:=te (kI p) g n;have I:=hU n;have M:=w c (Nat.le_trans k (Nat.mul_le_mul_right _ U));dsimp only;rw[bw (aC (show(a:Int)<au (x.map a6) by simp only[a1,List.length_map];omega)),kS (by simpa using e),List.getElem_map,j,e4];dsimp only;rw[bf U U];refine ac.bs (NV (kI p) g U n p) (ac.bs (DB U U) (ac.aj.2 ⟨c+g4 d b,by rw[br U],?_,?_⟩))
    ·rw[Int.add_mul,i,ou (kI p) g,CV e,j];rfl
    have E:=bY.1 H;have F:=Int.natAbs_add_le c (g4 d b);exact bt F (Gr k E)
   rintro _ ⟨c,rfl,i,k⟩;dsimp only;rw[bq (ay (show¬((x.length:Int)<au (x.map a6)) by simp only[a1,List.length_map];omega))];rw[List.take_of_length_le (Nat.le_refl _)] at i;exact ac.aj.2 ⟨c,rfl,i,w c k⟩
  rintro _ ⟨c,rfl,i,k⟩;refine ac.bs (BJ U U U) (ac.aj.2 ?_);show(a6 (ed c b),())=_;rw[q3 g i.symm,e1,al f]
 have q:r=_:=q;rw[q];exact ac.aj.2 rfl
def hY:(dU b==0)=decide (b=0):=by
 rw[dD,decide_eq_decide];unfold dU;constructor
 ·intro a;split at a
  ·assumption
  split at a<;>omega
 intro a;rw[al a]
def Cy {m:Int} {n:Nat} (e:aw m.natAbs<=1900000) (f:n<=1048576):sm (aD m,(n:Int),())=some (aD (m/2^n),()):=by
 unfold sm;dsimp only;refine ac.eq_iff.1 ?_;refine ac.aX (P:=λc=>c=((n:Int),aD m,(false,([],())),())) ?_ ?_
 ·refine ac.steps 0 (λb a=>a=((n:Int),aD m,(false,([],())),())) rfl (λb a d=>by omega) ?_;rintro _ rfl;dsimp only;rw[bq (ay (U:¬((n:Int)>1048576)))];exact ac.aj.2 rfl
 rintro _ rfl;dsimp only;rw[bf U U,Int.zero_sub];refine ac.bs (vM U U U) (ac.aj.2 ?_);rw[s8]
def H2 {b:mz} {m:Int} (o:aH b.2.1) (w:b.2.1.length<=100000000) (c:eB b=m) (F:aw m.natAbs<=900000) (B:-1000000000000<=e) (C:e<=1000000000000):kH (b,e,())=some (a6 (ed m e),()):=by
 unfold kH;dsimp only;have p:=H7 o w;rw[c] at p;refine ao p ?_;dsimp only;rw[n2,bo];split
 ·rename_i d;have:=uT.1 d;subst this;rfl
 rename_i d;have a:m≠0:=λe=>d (uT.2 e);have G:=pT (n:=m.natAbs) U;have E:=nH (m:=m.natAbs) U;rw[bo];split
 ·rename_i q;have f:ed m e=none:=(by unfold ed;rw[ah a,al U]);rw[f];rfl
 rename_i q;refine ao (Il U a) (ao (Cs U) (ao (Cy (m:=(m.natAbs:Int)) (by rw[Int.natAbs_natCast];omega) U) ?_));have l:=(pv (n:=m.natAbs) (k:=bb m.natAbs) U).1 (Nat.le_refl _);have u:(m.natAbs:Int)/2^bb m.natAbs=(((m/2^bb m.natAbs).natAbs:Nat):Int):=(by rw[vr l,<-jI,<-Int.natCast_ediv]);have h:aw ((m/2^bb m.natAbs).natAbs)=aw m.natAbs-bb m.natAbs:=(by rw[vr l,tR]);rw[u];dsimp only;rw[bf (x:=e+(bb m.natAbs:Int)) U U];by_cases i:e+bb m.natAbs< -65536\/65536<e+aw m.natAbs
 ·have f:ed m e=none:=(by unfold ed;rw[ah a,al i]);rw[f];refine ao (y:=.inr (a6 none,())) ?_ rfl;refine ao (y:=(true,(false,((false,([],())),((0:Int),()))),aD ((m/2^bb m.natAbs).natAbs:Int),())) ?_ rfl;by_cases g:e+(bb m.natAbs:Int)< -65536
  ·rw[aC g];rfl
  rw[ay g];refine ao (Ct (by rw[Int.natAbs_natCast];omega)) ?_;rw[Int.natAbs_natCast,h];dsimp only;rw[bf U U,aC (U:e+(bb m.natAbs:Int)+((aw m.natAbs-bb m.natAbs:Nat):Int)>65536)]
 obtain⟨r,D⟩:=EP a i;rw[r];refine ao (y:=.inl ((false,((false,([],())),((0:Int),()))),aD ((m/2^bb m.natAbs).natAbs:Int),())) ?_ ?_
 ·refine ao (y:=(false,(false,((false,([],())),((0:Int),()))),aD ((m/2^bb m.natAbs).natAbs:Int),())) ?_ rfl;rw[ay (U:¬(e+(bb m.natAbs:Int)< -65536))];refine ao (Ct (by rw[Int.natAbs_natCast];omega)) ?_;rw[Int.natAbs_natCast,h];dsimp only;rw[bf U U,ay (U:¬(e+(bb m.natAbs:Int)+((aw m.natAbs-bb m.natAbs:Nat):Int)>65536))]
 dsimp only;congr 3;have z:b.1=decide (m/2^bb m.natAbs<0):=by
  have s:(m/2^bb m.natAbs<0)↔m<0:=q7 (v:=m);have t:b.1=decide (m<0):=by
   have A:=dY o;unfold eB at c;cases j:b.1 with
   |true=>rw[j,al rfl] at c;exact(aC U).symm
   |false=>rw[j,ah ab] at c;exact(ay U).symm
  rw[t,decide_eq_decide];exact s.symm
 rw[z];rfl
def pM {e:Int} (d:aw b.natAbs<=900000) (a:-1000000000000<=e) (c:e<=1000000000000):kH (aD b,e,())=some (a6 (ed b e),()):=
 H2 (jA b) (by have:=(fk (z:=b) U).2.2;omega) (lH b) d a c
def mn {d:cJ} (c:dx d):j8 (a6 d,())=some (a6 d,()):=by
 cases d with
 |none=>rfl
 |some b=>
  have a:=c b rfl;have f:=hV a;have g:=hU a;unfold j8;rw[e4];refine ao (pM (e:=bm b) U U U) ?_;rw[yQ a,e4]
def pb (a:cJ):(a6 a).1=!a.isSome:=by
 cases a with
 |none=>rfl
 |some b=>rw[e4];rfl
def HQ (c:dx i):uM (a6 i,())=some (a6 (n9 i),()):=by
 unfold uM;refine ao (mn c) ?_;cases i with
 |none=>rfl
 |some b=>
  have a:=c b rfl;have f:=hV a;have g:=hU a;rw[e4];refine ao (H6 U) (ao (pM (e:=bm b) (by rw[nu];omega) U U) ?_);have d:dT (-b):=(by unfold dT at*;rw[nu];exact a);rw[<-BX,<-AP,yQ d];rfl
def Cx (c:dx i):sk (a6 i,())=some (a6 (lZ i),()):=by
 unfold sk;refine ao (mn c) ?_;cases i with
 |none=>rfl
 |some b=>
  have a:=c b rfl;have f:=hV a;have g:=hU a;rw[e4];refine ao (Cs U) (ao (pM (e:=bm b) (by rw[h2];omega) U U) ?_);have d:dT (b.natAbs:Int):=(by unfold dT at*;rw[h2];exact a);rw[<-O6,<-L9,yQ d];rfl
def I4 (a:Int):g4 0 a=0:=by unfold g4;rw[sS,jW]
def tg (a:Int):g4 a (bm a)=aR a:=by unfold g4;simp
def GD:aR b=0↔b=0:=by
 constructor
 ·intro c;by_cases a:b=0
  ·exact a
  exact absurd c (gP a)
 rintro rfl;rfl
def DD (i:dT b) (j:dT e):∃a,(b=0\/a<=bh b)/\(e=0\/a<=bh e)/\-65536<=a/\a<=65536/\o8 (a6 (some b),a6 (some e),())=some (aD (g4 b a),aD (g4 e a),a,()):=by
 have m:=hU i;have n:=hU j;have k:=hV i;have l:=hV j;by_cases f:b=0
 ·subst f;refine⟨bm e,.inl rfl,kI (Int.le_refl _),U,U,?_⟩;unfold o8;rw[e4,e4];refine ao (kk U) ?_;dsimp only;rw[hY,aC (show aR 0=0 from rfl),I4,tg];rfl
 by_cases g:e=0
 ·subst g;refine⟨bm b,kI (Int.le_refl _),.inl rfl,U,U,?_⟩;unfold o8;rw[e4,e4];refine ao (kk U) ?_;dsimp only;rw[hY,ay (gP f)];refine ao (kk U) ?_;dsimp only;rw[hY,aC (show aR 0=0 from rfl),I4,tg];rfl
 by_cases h:bm b>bm e
 ·refine⟨bm e,kI U,kI (Int.le_refl _),U,U,?_⟩;unfold o8;rw[e4,e4];refine ao (kk U) ?_;dsimp only;rw[hY,ay (gP f)];refine ao (kk U) ?_;dsimp only;rw[hY,ay (gP g),aC h,bf U U,tg];refine ao (vM U U U) ?_;dsimp only;obtain⟨d,c⟩:∃d:Nat,bm b-bm e=d:=⟨(bm b-bm e).toNat,U⟩;rw[c,kY,g4,c];rfl
 refine⟨bm b,kI (Int.le_refl _),kI U,U,U,?_⟩;unfold o8;rw[e4,e4];refine ao (kk U) ?_;dsimp only;rw[hY,ay (gP f)];refine ao (kk U) ?_;dsimp only;rw[hY,ay (gP g),ay h,bf (x:=bm e-bm b) U U,tg];refine ao (vM U U U) ?_;dsimp only;obtain⟨d,c⟩:∃d:Nat,bm e-bm b=d:=⟨(bm e-bm b).toNat,U⟩;rw[c,kY,g4,c];rfl
def HN (h:dx i) (f:dx r):uJ (a6 i,a6 r,())=some (a6 (rT i r),()):=by
 unfold uJ;refine ao (mn h) (ao (mn f) ?_);cases i with
 |none=>rfl
 |some a=>
  cases r with
  |none=>dsimp only;rw[e4 a];rfl
  |some c=>
   have j:=h a rfl;have k:=f c rfl;obtain⟨b,ai,g,d,o,n⟩:=DD j k;have l:=te ai d j;have m:=te g d k;refine ao (y:=.inl (a6 (some a),a6 (some c),(false,((false,([],())),((0:Int),()))),())) ?_ ?_
   ·dsimp only;rw[pb,pb];rfl
   dsimp only;refine ao n (ao (vG U U) ?_);have f:aw (g4 a b+g4 c b).natAbs<=131073:=Nat.le_trans (je (Int.natAbs_add_le _ _)) (Ef l m);refine ao (pM (e:=b) U U U) ?_;rw[OA d ai g];rfl
def RN (b:dx i) (a:dx r):x1 (a6 i,a6 r,())=some (a6 (rT i (n9 r)),()):=by unfold x1;exact ao (HQ a) (ao (HN b (BS a)) rfl)
def HP (a:dx i) (b:dx r):uL (a6 i,a6 r,())=some (a6 (jH i r),()):=by
 unfold uL;refine ao (mn a) (ao (mn b) ?_);cases i with
 |none=>rfl
 |some c=>
  cases r with
  |none=>dsimp only;rw[e4 c];rfl
  |some d=>
   have e:=hV (a c rfl);have f:=hV (b d rfl);have g:=hU (a c rfl);have h:=hU (b d rfl);rw[e4,e4];refine ao rfl ?_;dsimp only;refine ao (RU U U) ?_;dsimp only;rw[bf U U];refine ao (pM ?_ U U) rfl;rw[Int.natAbs_mul];have:=nG e f;omega
def RM (g:dT e) (h:dT b):xZ (a6 (some e),a6 (some b),())=some (dI e b,true,()):=by
 unfold xZ;refine ao (mn (d:=some e) (λl f=>by cases f;exact g)) (ao (mn (d:=some b) (λl f=>by cases f;exact h)) ?_);obtain⟨o,ai,c,a,p,i⟩:=DD g h;have m:=te ai a g;have n:=te c a h;refine ao (y:=.inl (a6 (some e),a6 (some b),())) ?_ ?_
 ·dsimp only;rw[pb,pb];rfl
 dsimp only;refine ao i (ao (RF U U) ?_);have j:=I3 a ai c;have k:=I3 a c ai;dsimp only;unfold dI;simp only[j,k]
def HO (a:-9223372036854775808<=b) (c:b<=9223372036854775807):uK (b,())=some (a6 (gV b),()):=by unfold uK;have d:aw b.natAbs<=64:=bY.2 U;exact ao (CB a c) (ao (pM U aa aa) rfl)
def Cz {l:cB} (Q:∀F∈l,dx F) (r:l.length<=1000000):sl (l.map a6,())=some (a6 (e1 l),()):=by
 unfold sl;refine ac.eq_iff.1 ?_;dsimp only;have O:∀c:Int,c.natAbs<=l.length*2^131072->aw c.natAbs<=200000:=λc S=>(by refine Nat.le_trans (je S) ?_;have:aw l.length<=20:=bY.2 U;have L:aw (2^131072)<=131073:=bY.2 (y7 131072 131073 aa);have:=nG this L;omega);have z:∀(c a:Int) (d:Nat),-65536<=a->d<=l.length->(dr (l.take d)).natAbs<=d*2^131072->c*2^(a+65536).toNat=dr (l.take d)->aw c.natAbs<=200000:=λc a d W m j f=>(by refine O c (Nat.le_trans ?_ (Nat.mul_le_mul_right _ m));refine Nat.le_trans ?_ j;rw[<-f,eR];exact Nat.le_mul_of_pos_right _ (Nat.two_pow_pos _));refine ac.aX (P:=λi=>match i with
  |.inl o=>∃a c,o=(a,(false,((false,([],())),((0:Int),()))),aD c,())/\fa l=true/\-65536<=a/\a<=65536/\c*2^(a+65536).toNat=dr l/\aw c.natAbs<=200000
  |.inr o=>o=(a6 (e1 l),())) ?_ ?_
 ·refine ac.steps l.length (λd T=>∃a c,T=(a,(d:Int),(false,((false,([],())),((0:Int),()))),aD c,())/\fa (l.take d)=true/\-65536<=a/\a<=65536/\c*2^(a+65536).toNat=dr (l.take d)/\(dr (l.take d)).natAbs<=d*2^131072) ⟨0,0,rfl,rfl,aa,aa,by rw[jW];simp[dr],(eL _:(0:Nat)<=_)⟩ ?_ ?_
  ·rintro d _ m ⟨a,c,rfl,j,f,q,g,p⟩;have w:=Q l[d] (List.getElem_mem m);have D:=z c a d f U p g;dsimp only;rw[bw (aC (show(d:Int)<au (l.map a6) by simp only[a1,List.length_map];omega))];refine ac.aX (P:=λi=>match i with
    |.inl o=>∃b a c,l[d]=some b/\o=(a,(false,((false,([],())),((0:Int),()))),aD c,())/\-65536<=a/\a<=65536/\c*2^(a+65536).toNat=dr (l.take d)+b
    |.inr o=>o=.inr (.inr (a6 (e1 l),()))) ?_ ?_
   ·refine ac.bs (y:=a6 l[d]) ?_ (ac.bs (mn w) ?_)
    ·rw[da (by simpa using m),List.getElem_map]
    dsimp only;cases A:l[d] with
    |none=>
     refine ac.bs rfl (ac.aj.2 ?_);show _=Sum.inr (Sum.inr (a6 (e1 l),()));rw[e1,ah]
     ·rfl
     rw[DF m A];simp
    |some b=>
     have s:dT b:=w b A;have ad:=hU s;have Y:=hV s;rw[e4];refine ac.bs (kk U) ?_;dsimp only;rw[hY];by_cases E:b=0
     ·subst E;rw[aC (show aR 0=0 from rfl)];exact ac.aj.2 ⟨0,a,c,rfl,rfl,f,q,by rw[g];omega⟩
     rw[ay (gP E)];refine ac.bs (kk U) ?_;dsimp only;rw[hY];by_cases C:c=0
     ·subst C;rw[aC rfl];refine ac.aj.2 ⟨b,bm b,aR b,rfl,rfl,U,U,?_⟩;have:=ou (v:=b) (e:=bm b) (kI (jT _)) U;rw[tg] at this;rw[this,<-g];simp
     rw[ay C];by_cases t:bm b>=a
     ·rw[aC t,bf U U];refine ac.bs (vM U U U) ?_;have R:mu (aR b) (bm b-a)=g4 b a:=by
       obtain⟨n,r⟩:∃n:Nat,bm b-a=n:=⟨(bm b-a).toNat,U⟩;rw[r,kY,g4,r];rfl
      have Z:=te (kI t) f s;rw[R];refine ac.bs (vG U U) (ac.aj.2 ⟨b,a,c+g4 b a,rfl,rfl,f,q,?_⟩);rw[Int.add_mul,g,ou (kI t) f]
     rw[ay t,bf (x:=a-bm b) U U];obtain⟨n,r⟩:∃n:Nat,a-bm b=n:=⟨(a-bm b).toNat,U⟩;have B:c*2^n*2^(bm b+65536).toNat=dr (l.take d):=(by rw[<-g,fP,<-iC];congr 2;omega);have X:=z (c*2^n) (bm b) d U U p B;rw[r];refine ac.bs (vM U U U) ?_;rw[kY];refine ac.bs (vG U U) (ac.aj.2 ⟨b,bm b,c*2^n+aR b,rfl,rfl,U,U,?_⟩);have:=ou (v:=b) (e:=bm b) (kI (jT _)) U;rw[tg] at this;rw[Int.add_mul,B,this]
   rintro(i|i) h
   ·obtain⟨b,G,V,u,rfl,H,I,J⟩:=h;have s:dT b:=w b u;refine ac.aj.2 ⟨G,V,by rw[br U],by rw[DH m,j,u];rfl,H,I,by rw[CV m,u];exact J,?_⟩;rw[CV m,u];have M:=Int.natAbs_add_le (dr (l.take d)) b;have N:b.natAbs<2^131072:=(bY (k:=131072)).1 s;show(dr (l.take d)+b).natAbs<=_;have K:=Gr p N;exact bt M K
   have h:i=_:=h;rw[h];exact ac.aj.2 rfl
  rintro _ ⟨a,c,rfl,j,f,q,g,p⟩;dsimp only;rw[bq (ay (show¬((l.length:Int)<au (l.map a6)) by simp only[a1,List.length_map];omega))];have D:=z c a l.length f (Nat.le_refl _) p g;rw[List.take_of_length_le (Nat.le_refl _)] at j g;exact ac.aj.2 ⟨a,c,rfl,j,f,q,g,D⟩
 rintro(i|i) h
 ·obtain⟨a,c,rfl,j,f,q,g,p⟩:=h;refine ac.bs (pM U U U) (ac.aj.2 ?_);show(a6 (ed c a),())=_;rw[q3 f g.symm,e1,al j]
 have h:i=_:=h;rw[h];exact ac.aj.2 rfl
def a8 (a:Int):Int:=a/4503599627370496 %2048
def dE (a:Int):Int:=a %4503599627370496
def dN (a:Int):Prop:=0<=a/\a<18446744073709551616
def bE (a:Int):cJ:=
 if a8 a=2047 then none
 else ed (if a<9223372036854775808 then if a8 a=0 then dE a else dE a+4503599627370496 else-(if a8 a=0 then dE a else dE a+4503599627370496)) (if a8 a=0 then-1074 else a8 a-1075)
def ji (b:Int):dx (bE b):=by
 intro c a;unfold bE at a;split at a
 ·cases a
 exact yR _ _ c a
def Cj (a:dN b):r7 (b,())=some (a8 b,dE b,()):=by unfold r7;dsimp only;have c:=a.1;have d:=a.2;rw[pO aa aa,Option.bind_some,show(2:Int)^(52:Int).toNat=4503599627370496 from rfl,oO 11 U U 2047 aa aa,oO 52 U U 4503599627370495 aa aa,bf U U];rfl
def D9 (k:dN b):(bT IntKind.u64 b 9223372036854775808 !=0)=decide (9223372036854775808<=b):=by
 obtain⟨c,m⟩:=k;obtain⟨a,rfl⟩:=ea c;have j:a<18446744073709551616:=U;have h:(9223372036854775808:Int)=((2^63:Nat):Int):=rfl;rw[h,DL j aa,dA];rcases bj a (2^63) with d|d
 ·have f:a&&&2^63=0:=by
   refine Nat.eq_of_testBit_eq λl=>?_;rw[Nat.testBit_and,wm,Nat.zero_testBit];by_cases e:63=l
   ·subst e;rw[Nat.testBit_lt_two_pow d];rfl
   rw[ay e,Bool.and_false]
  rw[f,aC (show((0:Nat):Int)=0 from rfl),ay (U:¬(((2^63:Nat):Int)<=(a:Int)))];rfl
 have f:a&&&2^63≠0:=(by intro i;have c:(a&&&2^63).testBit 63=false:=(by rw[i];exact Nat.zero_testBit 63);rw[Nat.testBit_and,wm] at c;obtain⟨g,rfl⟩:∃g,a=2^63*1+g:=⟨a-2^63,U⟩;rw[Nat.testBit_two_pow_mul_add 1 U,ah U] at c;exact absurd c aa);rw[ay (U:¬(((a&&&2^63:Nat):Int)=0)),aC (U:(((2^63:Nat):Int)<=(a:Int)))];rfl
def OO (a:dN b):xg (b,())=some (decide (9223372036854775808<=b),()):=by unfold xg;dsimp only;rw[D9 a]
def yA (a:dN b):o0 (b,())=some (!decide (a8 b=2047),()):=by unfold o0;refine ao (Cj a) ?_;dsimp only;rw[dA]
def qU (a:Int):Int:=if a8 a=2047 then if dE a=0 then 2 else 3 else if a8 a=0/\dE a=0 then 0 else 1
def NI (f:dN b):xd (b,())=some (qU b,()):=by
 unfold xd qU;refine ao (Cj f) ?_;dsimp only;rw[dD,dA,dD,dD];by_cases c:a8 b=2047
 ·rw[aC c,al c];by_cases a:dE b=0
  ·rw[aC a,al a];rfl
  rw[ay a,ah a];rfl
 rw[ay c,ah c];by_cases d:a8 b=0
 ·rw[aC d];by_cases a:dE b=0
  ·rw[aC a,al ⟨d,a⟩];rfl
  rw[ay a,ah (λe=>a e.2)];rfl
 rw[ay d,ah (λe=>d e.1)];rfl
def sr (a:Int):0<=dE a/\dE a<4503599627370496:=by unfold dE;omega
def uZ (a:Int):0<=a8 a/\a8 a<2048:=by unfold a8;omega
def vx (g:dN b):o1 (b,())=some (a6 (bE b),()):=by
 unfold o1 bE;have o:=sr b;have n:=uZ b;refine ao (Cj g) ?_;dsimp only;rw[dD,dD];by_cases e:a8 b=2047
 ·rw[aC e,al e];rfl
 rw[ay e,ah e];obtain⟨c,d,h,i,j,k,l,f⟩:∃c d,(bif decide (a8 b=0) then some (Sum.inl ((-1074:Int),dE b,((false,((false,([],())),((0:Int),()))):bz),())) else some (.inl (ax (a8 b-1075),dP IntKind.u64 (dE b) 4503599627370496,(false,((false,([],())),((0:Int),()))),())):Option ((Int×Int×bz×Unit)⊕es))=some (.inl (d,c,(false,((false,([],())),((0:Int),()))),()))/\0<=c/\c<9007199254740992/\-1074<=d/\d<=972/\(c=(if a8 b=0 then dE b else dE b+4503599627370496)/\d=(if a8 b=0 then-1074 else a8 b-1075)):=by
  by_cases a:a8 b=0
  ·refine⟨dE b,-1074,?_,U,U,U,U,by rw[al a],by rw[al a]⟩;rw[aC a];rfl
  refine⟨dE b+4503599627370496,a8 b-1075,?_,U,U,U,U,by rw[ah a],by rw[ah a]⟩;rw[ay a,bf U U,kh 52 U U U U U aa];rfl
 rw[<-f.1,<-f.2];refine ao h ?_;dsimp only;rw[bf U U];have m:aw c.natAbs<=53:=bY.2 U;refine ao (A7 U U) ?_;refine ao (y:=((false,((false,([],())),((0:Int),()))),aD (if b<9223372036854775808 then c else-c),())) ?_ ?_
 ·refine ao (OO g) ?_;dsimp only;by_cases a:b<9223372036854775808
  ·rw[ay (U:¬(9223372036854775808<=b)),al a];rfl
  rw[aC (U:9223372036854775808<=b),ah a];exact ao (Gz (gT U)) rfl
 dsimp only;refine ao (BJ ?_ U U) rfl;split
 ·omega
 rw[nu];omega
def l8 (d:Bool) (a:Nat) (b:Int) (c:Bool):oN:=(d,aD (a:Int),b,c,())
def ee (a:Nat):(a:Int).natAbs=a:=by omega
def N4 (e:aw a<=900000) (c:-10000000<=b) (d:b<=10000000):w5 (l8 o a b l,())=some (b+aw a-1,()):=by unfold w5 l8;refine ao (qq (gT (by rw[ee];omega))) ?_;rw[ee];dsimp only;rw[bf (x:=b+(aw a:Int)) U U,bf U U]
def Lq (p:aw a<=900000) (w:0<a) (C:0<c) (D:c<=10000000):ub (l8 o a b l,(c:Int),())=some (aD ((a/2^c:Nat):Int),iJ a c l,decide (a %2^c=0)&&!l,()):=by
 unfold ub l8;refine ao (qq (gT (by rw[ee];omega))) ?_;rw[ee];dsimp only;have E:=Nat.two_pow_pos c;rw[bo];split
 ·rename_i g;have t:a<2^(c-1):=bY.1 U;obtain⟨d,rfl⟩:∃d,c=d+1:=⟨c-1,U⟩;simp only[tF] at t;have ai:a %2^(d+1)=a:=Nat.mod_eq_of_lt (by rw[hI];omega);have i:a/2^(d+1)=0:=Nat.div_eq_of_lt (by rw[hI];omega);rw[ai,i];have j:iJ a (d+1) l=-1:=(by unfold iJ;rw[ai,al (by rw[hI];omega)]);rw[j,ay (U:¬a=0)];rfl
 rename_i g;have A:=Nat.div_add_mod a (2^c);have F:aw (a/2^c)<=900000:=Nat.le_trans (je (Nat.div_le_self _ _)) p;have G:aw (a %2^c)<=900000:=Nat.le_trans (je (Nat.mod_le _ _)) p;have q:a/2^c*2^c<=a:=Nat.div_mul_le_self _ _;refine ao (HZ (m:=(a:Int)) (n:=c) (by rw[ee];omega) U) ?_;have ai:(a:Int)/2^c=((a/2^c:Nat):Int):=(by rw[<-jI,<-Int.natCast_ediv]);rw[ai];refine ao (sE (m:=((a/2^c:Nat):Int)) (k:=(c:Int)) (by rw[ee];omega) U U) ?_;have i:((a/2^c:Nat):Int)*2^(c:Int).toNat=((a/2^c*2^c:Nat):Int):=(by rw[Int.toNat_natCast,<-jI,<-Int.natCast_mul]);rw[i];refine ao (S4 (x:=(a:Int)) (y:=((a/2^c*2^c:Nat):Int)) (by rw[ee];omega) (by rw[ee];exact Nat.le_trans (je q) U)) ?_;have j:(a:Int)-((a/2^c*2^c:Nat):Int)=((a %2^c:Nat):Int):=(by rw[Nat.mul_comm] at q|-;omega);rw[j];refine ao (A7 (n:=1) aa aa) ?_;dsimp only;rw[bf (x:=(c:Int)-1) U U];refine ao (sE (m:=1) (k:=(c:Int)-1) aa U U) ?_;obtain⟨d,rfl⟩:∃d,c=d+1:=⟨c-1,U⟩;have r:(1:Int)*2^(((d+1:Nat):Int)-1).toNat=((2^d:Nat):Int):=(by rw[Int.one_mul,<-jI];congr 2;omega);rw[r];have B:aw (2^d)<=900000:=(by have:aw (2^d)<=d+1:=bY.2 (Nat.pow_lt_pow_right aa U);omega);refine ao (Er (x:=((a %2^(d+1):Nat):Int)) (y:=((2^d:Nat):Int)) (by rw[ee];omega) (by rw[ee];omega)) ?_;dsimp only;have s:(if dI ((a %2^(d+1):Nat):Int) ((2^d:Nat):Int)=0/\l=true then 1 else dI ((a %2^(d+1):Nat):Int) ((2^d:Nat):Int))=iJ a (d+1) l:=by
  unfold iJ dI;have u:2^(d+1)=2*2^d:=(by rw[hI,hj]);generalize a %2^(d+1)=e at*;rw[u];generalize 2^d=h at*;rcases qf e h with f|f|f
  ·rw[al (U:(e:Int)<(h:Int)),ah ab,al U]
  ·subst f;have v:(if(e:Int)<(e:Int) then(-1:Int) else if(e:Int)<(e:Int) then 1 else 0)=0:=ab;rw[v,ah (U:¬(2*e<2*e)),ah (U:¬(2*e<2*e))];cases l<;>simp
  rw[ah (U:¬((e:Int)<(h:Int))),al (U:(h:Int)<(e:Int)),ah ab,ah U,al U]
 refine ao (y:=(iJ a (d+1) l,aD ((a/2^(d+1):Nat):Int),aD ((a %2^(d+1):Nat):Int),())) ?_ ?_
 ·rw[<-s,dD];by_cases f:dI ((a %2^(d+1):Nat):Int) ((2^d:Nat):Int)=0
  ·rw[aC f];cases l
   ·rw[ah (λg=>Bool.false_ne_true g.2)];rfl
   rw[al ⟨f,rfl⟩];rfl
  rw[ay f,ah (λg=>f g.1)];rfl
 refine ao (oo (z:=((a %2^(d+1):Nat):Int)) (gT (by rw[ee];omega))) ?_;dsimp only;rw[hY];by_cases f:a %2^(d+1)=0
 ·rw[aC (U:((a %2^(d+1):Nat):Int)=0),aC f];cases l<;>rfl
 rw[ay (U:¬((a %2^(d+1):Nat):Int)=0),ay f];rfl
def vw {n:Nat}:(n≠0/\bb n=0)↔n %2=1:=by
 constructor
 ·rintro⟨c,a⟩;have:=pv (n:=n) (k:=1) U;rw[a,Nat.pow_one] at this;omega
 intro b;refine⟨U,?_⟩;have:=pv (n:=n) (k:=1) U;rw[Nat.pow_one] at this;omega
def OK (A:aw a<=900000) (E:0<a) (K:-1000000<=b-e) (w:b-e<=1000000):w6 (l8 o a b l,e,v,())=some (aD (if o then-((if e<=b then a*2^(b-e).toNat else eN o a (e-b).toNat l v:Nat):Int) else((if e<=b then a*2^(b-e).toNat else eN o a (e-b).toNat l v:Nat):Int)),()):=by
 unfold w6;have u:∀d:Nat,aw d<=2000000->(Option.bind (α:=jw) (
  bif o then
 (o2 (aD (d:Int),())).bind λ(J,_)=>
 some (((false,([],())):bX),J,()) else
 some ((false,([],())),aD (d:Int),())) λ(_,I,_)=>
 some (I,()))=some (aD (if o then-(d:Int) else(d:Int)),()):=λd M=>by
  cases o
  ·rfl
  refine ao (y:=((false,([],())),aD (-(d:Int)),())) ?_ rfl;have L:Fit (d:Int)\/True:=.inr trivial;have B:=fk (z:=(d:Int)) (by rw[ee];omega);refine ao (y:=(aD (-(d:Int)),())) ?_ rfl;unfold o2;refine ao (tV (by have:=B.2.2;omega)) (ao (rY (jA _) (by have:=B.2.2;omega)) ?_);have f:=zD (aD (d:Int)).1 (aD (d:Int)).2.1;have w:=lH (d:Int);rw[f];show some (aD (-eB (aD (d:Int))),())=_;rw[w]
 by_cases j:e<=b
 ·rw[al j];obtain⟨c,h⟩:∃c:Nat,b-e=c:=⟨(b-e).toNat,U⟩;rw[h,du];refine ao (y:=((-1:Int),true,(false,([],())),aD ((a*2^c:Nat):Int),())) ?_ ?_
  ·show(bif decide (e<=b) then _ else _)=_;rw[aC j];refine ao (y:=(aD ((a*2^c:Nat):Int),())) ?_ rfl;show l4 (aD (a:Int),ax (b-e),())=_;rw[bf U U,sE (by rw[ee];omega) U U,h,du,mB,jI]
  refine ao rfl (ao rfl ?_);exact u _ (bt wM U)
 rw[ah j];obtain⟨c,h⟩:∃c:Nat,e-b=c:=⟨(e-b).toNat,U⟩;rw[h,du];refine ao (y:=(iJ a c l,decide (a %2^c=0)&&!l,(false,([],())),aD ((a/2^c:Nat):Int),())) ?_ ?_
 ·show(bif decide (e<=b) then _ else _)=_;rw[ay j];refine ao (y:=(aD ((a/2^c:Nat):Int),iJ a c l,decide (a %2^c=0)&&!l,())) ?_ rfl;show ub (l8 o a b l,ax (e-b),())=_;rw[bf U U,h];exact Lq A E U U
 have F:aw (a/2^c)<=900000:=bt (je (rN _ _)) A;refine ao (y:=(!(decide (a %2^c=0)&&!l)&&pV o (iJ a c l) (decide (a/2^c %2=1)) v,(false,([],())),aD ((a/2^c:Nat):Int),())) ?_ ?_
 ·dsimp only;cases g:(decide (a %2^c=0)&&!l) with
  |true=>rfl
  |false=>
   show(bif v==1 then some (o,_,_,()) else _)=_;unfold pV;rw[dD,dD,dD];by_cases m:v=1
   ·rw[aC m,al m];rfl
   rw[ay m,ah m];by_cases p:v=2
   ·rw[aC p,al p];rfl
   rw[ay p,ah p];by_cases q:v=3
   ·rw[aC q,al q];rfl
   rw[ay q,ah q];generalize iJ a c l=i;show(bif decide (i>0)==false then _ else _)=_;by_cases t:i>0
   ·rw[aC t];rfl
   rw[ay t];show(bif (i==0)==true then _ else _)=_;rw[dD];by_cases s:i=0
   ·rw[aC s];refine ao (oo (z:=((a/2^c:Nat):Int)) (gT (by rw[ee];omega))) ?_;dsimp only;have C:=vw (n:=a/2^c);rw[dA];by_cases r:a/2^c=0
    ·rw[aC (show dU ((a/2^c:Nat):Int)=0 by rw[r];rfl),ay (show¬(a/2^c %2=1) by rw[r];decide)];rfl
    have G:dU ((a/2^c:Nat):Int)≠0:=(by unfold dU;rw[if_neg U];split<;>omega);rw[ay G];refine ao (I2 (z:=((a/2^c:Nat):Int)) (gT (by rw[ee];omega)) U) ?_;rw[ee];dsimp only;rw[dD];by_cases D:bb (a/2^c)=0
    ·rw[aC (U:(bb (a/2^c):Int)=0),aC (C.1 ⟨r,D⟩)];rfl
    rw[ay (U:¬(bb (a/2^c):Int)=0),ay (λf=>D (C.2 f).2)];rfl
   rw[ay s];rfl
 dsimp only;refine ao (y:=((false,([],())),aD ((eN o a c l v:Nat):Int),())) ?_ ?_
 ·unfold eN;by_cases g:a %2^c=0/\l=false
  ·rw[al g,aC g.1,g.2];rfl
  have H:(decide (a %2^c=0)&&!l)=false:=by
   by_cases f:a %2^c=0
   ·cases l
    ·exact absurd ⟨f,rfl⟩ g
    rw[aC f];rfl
   rw[ay f];rfl
  rw[ah g,H];by_cases k:pV o (iJ a c l) (decide (a/2^c %2=1)) v=true
  ·rw[al k,k];refine ao (A7 (n:=1) aa aa) ?_;refine ao (DB (x:=((a/2^c:Nat):Int)) (y:=1) (by rw[ee];omega) aa) ?_;rfl
  rw[ah k,Bool.eq_false_iff.2 k];rfl
 refine u _ ?_;have:eN o a c l v<=a/2^c+1:=by
  unfold eN;split
  ·omega
  split<;>omega
 exact bt (je this) (bt (Ef F (aa:aw 1<=900000)) U)
def vW (a:0<=b) (c:b<9223372036854775808):qx (b,l,())=some (gB l b,()):=by
 unfold qx gB;cases l
 ·rfl
 dsimp only;rw[kh 63 a (by exact c) aa U aa aa,Int.add_comm];rfl
def Hw:xh (l,b,())=some (kP l b,()):=by
 unfold xh kP;dsimp only;refine ao (y:=if(b=3\/(b=1/\l=false)\/(b=2/\l=true)) then .inr (gB l 9218868437227405311,()) else .inl ()) ?_ ?_
 ·refine ao (y:=(decide (b=3\/(b=1/\l=false)\/(b=2/\l=true)),())) ?_ ?_
  ·rw[dD,dD,dD];by_cases e:b=3
   ·subst e;simp
   by_cases c:b=1
   ·subst c;cases l<;>simp
   by_cases d:b=2
   ·subst d;cases l<;>simp
   simp[c,d,e]
  dsimp only;by_cases a:(b=3\/(b=1/\l=false)\/(b=2/\l=true))
  ·rw[aC a,al a];exact ao (vW aa aa) rfl
  rw[ay a,ah a];rfl
 by_cases a:(b=3\/(b=1/\l=false)\/(b=2/\l=true))
 ·rw[al a,al a]
 rw[ah a,ah a];exact ao (vW aa aa) rfl
def th {neg m3:Bool} {e m2:Int} (g:0<a):(if bg a e<=e then a*2^(e-bg a e).toNat else eN neg a (bg a e-e).toNat m3 m2)<=9007199254740992:=by
 have c:=bY.1 (a2 (aw a));have i:=nH g;have j:e+aw a-53<=bg a e:=(by unfold bg;omega);split
 ·rename_i d;have b:a*2^(e-bg a e).toNat<2^aw a*2^(e-bg a e).toNat:=zO c (e8 _);rw[<-dv] at b;have h:2^(aw a+(e-bg a e).toNat)<=2^53:=nz aa U;have f:(2:Nat)^53=9007199254740992:=aa;omega
 rename_i d;have b:a/2^(bg a e-e).toNat<2^53:=(by rw[Nat.div_lt_iff_lt_mul (e8 _),<-dv];exact fF c (nz aa U));have f:(2:Nat)^53=9007199254740992:=aa;unfold eN;split
 ·omega
 split<;>omega
def Ic (r:aw a<=800000) (h:0<a) (p:-500000<=b) (q:b<=500000):ue (l8 l a b o,v,())=some (g2 l a b o v,()):=by
 have s:=nH h;have t:=th (neg:=l) (m3:=o) (m2:=v) (e:=b) h;have m:g2 l a b o v=g0 l (if bg a b<=b then a*2^(b-bg a b).toNat else eN l a (bg a b-b).toNat o v) (bg a b) v:=(by unfold g2;split<;>rfl);have n:bg a b=if(-1074:Int)>b+aw a-1-52 then-1074 else b+aw a-1-52:=by unfold bg;split<;>omega
 have w:-1074<=bg a b:=(by unfold bg;omega);have A:bg a b<=1400000:=(by unfold bg;omega);unfold ue;refine ao (N4 U U U) ?_;dsimp only;rw[bf U U,<-n,m];refine ao (OK U h ?_ ?_) ?_
 ·unfold bg;omega
 ·unfold bg;omega
 generalize(if bg a b<=b then a*2^(b-bg a b).toNat else eN l a (bg a b-b).toNat o v)=c at*;generalize bg a b=d at*;have u:aw c<=54:=bY.2 U;have k:(if l then-(c:Int) else(c:Int)).natAbs=c:=(by cases l<;>simp);refine ao (zZ (gT (by rw[k];omega))) ?_;rw[k];refine ao (Ns (z:=(c:Int)) U U) ?_;dsimp only;rw[bM (x:=(c:Int)) U U,dD];show Option.bind _ _=some (g0 l c d v,());unfold g0;by_cases i:c=9007199254740992
 ·rw[aC (U:(c:Int)=9007199254740992),ah (U:¬c<4503599627370496),al i];refine ao (y:=(d+1,4503599627370496,())) ?_ ?_
  ·show some (aZ d,4503599627370496,())=_;unfold aZ;rw[wrap64 U U]
  dsimp only;rw[ay (U:¬((4503599627370496:Int)<4503599627370496)),bf U U,cond_false,bo];split
  ·rename_i g;exact ao Hw rfl
  rename_i g;rw[bM U U,kZ aa aa,show(2:Int)^(52:Int).toNat=4503599627370496 from rfl,aQ];have ai:aA (4503599627370496-4503599627370496)=0:=(by rw[bM U U];omega);have f:(d+1+1075)*4503599627370496 %18446744073709551616=(d+1+1075)*4503599627370496:=U;rw[ai,f,vB,kh 52 aa aa U aa U U,Int.zero_add];exact ao (vW U U) rfl
 rw[ay (U:¬(c:Int)=9007199254740992)];refine ao (y:=(d,(c:Int),())) rfl ?_;dsimp only;rw[bo];by_cases j:c<4503599627370496
 ·rw[al (U:(c:Int)<4503599627370496),al j];exact ao (vW U U) rfl
 rw[ah (U:¬(c:Int)<4503599627370496),ah j,ah i,bf U U,bo];split
 ·rename_i g;exact ao Hw rfl
 rename_i g;rw[bM (x:=d+1075) U U,kZ aa aa,show(2:Int)^(52:Int).toNat=4503599627370496 from rfl,Option.bind_some,bM (x:=(c:Int)-4503599627370496) U U];have f:(d+1075)*4503599627370496 %18446744073709551616=(d+1075)*4503599627370496:=U;rw[f,vB,kh 52 U U U U U U];refine ao (vW U U) ?_;dsimp only;congr 3;omega
def m7 (c d:cJ) (e:Int):Int:=match c,d with
 |some a,some b=>if b=0 then 9221120237041090560 else if a=0 then 0 else mm a b e
 |_,_=>9221120237041090560
def kT (b:cJ) (c:Int):Int:=match b with
 |some a=>if a<0 then 9221120237041090560 else if a=0 then 0 else iX a c
 |none=>9221120237041090560
def BZ (a:Int):(aD (aR a)).1=decide (a<0):=by show decide (aR a<0)=_;rw[decide_eq_decide];exact q7
def RD (i:dT b) (j:dT e) (o:b≠0) (p:e≠0) (k:Int):∃d f l,w4 (a6 (some b),a6 (some e),56,())=some (l8 (decide (b<0)!=decide (e<0)) d f l,())/\0<d/\aw d<=800000/\-500000<=f/\f<=500000/\g2 (decide (b<0)!=decide (e<0)) d f l k=mm b e k:=by
 have v:=hV i;have w:=hV j;have z:=hU i;have A:=hU j;have t:0<(aR b).natAbs:=(by have:=gP o;omega);have u:0<(aR e).natAbs:=(by have:=gP p;omega);obtain⟨a,g⟩:∃a,a=ml (aR b).natAbs (aR e).natAbs:=⟨_,rfl⟩;have C:a<=131131:=(by rw[g];unfold ml;omega);have h:58<=aw ((aR b).natAbs*2^a/(aR e).natAbs):=Cp t u (by rw[g];unfold ml;omega);have B:aw ((aR b).natAbs*2^a)<=262203:=(by have:=wM (m:=(aR b).natAbs) (n:=a);omega);refine⟨(aR b).natAbs*2^a/(aR e).natAbs,bm b-a-bm e,decide ((aR b).natAbs*2^a %(aR e).natAbs≠0),?_,?_,?_,U,U,?_⟩
 ·unfold w4;rw[e4,e4];refine ao (qq (gT U)) (ao (qq (gT U)) (ao (zZ (gT U)) ?_));dsimp only;have ai:(if ax (ax (ax (56+3)+(aw (aR e).natAbs:Int))-(aw (aR b).natAbs:Int))>0 then ax (ax (ax (56+3)+(aw (aR e).natAbs:Int))-(aw (aR b).natAbs:Int)) else 0)=(a:Int):=by
   rw[bf (x:=56+3) aa aa,bf (x:=56+3+(aw (aR e).natAbs:Int)) U U,bf U U,g];unfold ml;split<;>omega
  rw[ai];refine ao (sE (m:=((aR b).natAbs:Int)) (by rw[ee];omega) U U) (ao (zZ (gT U)) ?_);have q:((aR b).natAbs:Int)*2^(a:Int).toNat=(((aR b).natAbs*2^a:Nat):Int):=(by rw[Int.toNat_natCast,<-jI,<-Int.natCast_mul]);rw[q];refine ao (Lz (x:=(((aR b).natAbs*2^a:Nat):Int)) (y:=((aR e).natAbs:Int)) (by rw[ee];omega) (by rw[ee];omega) U U) ?_;rw[<-Int.natCast_ediv,<-Int.natCast_emod];have D:aw ((aR b).natAbs*2^a %(aR e).natAbs)<=900000:=Nat.le_trans (je (Nat.mod_le _ _)) U;refine ao (oo (gT (by rw[ee];omega))) ?_;dsimp only;rw[bf (x:=bm b-(a:Int)) U U,bf U U,BZ,BZ];unfold l8;have r:(dU (((aR b).natAbs*2^a %(aR e).natAbs:Nat):Int)!=0)=decide ((aR b).natAbs*2^a %(aR e).natAbs≠0):=by
   show(!(dU (((aR b).natAbs*2^a %(aR e).natAbs:Nat):Int)==0))=_;rw[hY];by_cases c:(aR b).natAbs*2^a %(aR e).natAbs=0
   ·rw[aC U,ay (λs=>s c)];rfl
   rw[ay U,aC c];rfl
  rw[r];rfl
 ·rcases hh ((aR b).natAbs*2^a/(aR e).natAbs) with c|c
  ·rw[c] at h;exact absurd h aa
  exact c
 ·exact bt (je (rN _ _)) U
 unfold mm vF;rw[<-g];congr 1;unfold bm;rw[ah o,ah p];omega
def MJ (f:dx r) (e:dx i):xe (a6 r,a6 i,b,())=some (m7 r i b,()):=by
 unfold xe;refine ao (AG f) (ao (AG e) ?_);dsimp only;rw[pb,pb];cases r with
 |none=>cases i<;>rfl
 |some c=>
  cases i with
  |none=>rfl
  |some a=>
   by_cases d:a=0
   ·subst d;refine ao (y:=.inr (9221120237041090560,())) ?_ rfl;refine ao (y:=(true,a6 (some c),a6 (some 0),())) ?_ rfl;refine ao (lq e) ?_;rfl
   by_cases g:c=0
   ·subst g;refine ao (y:=.inr (0,())) ?_ ?_
    ·refine ao (y:=(false,a6 (some 0),a6 (some a),())) ?_ ?_
     ·refine ao (lq e) ?_;dsimp only;rw[show lC (some a)=dU a from rfl,hY,ay d]
     refine ao (lq f) ?_;rfl
    unfold m7;simp only;rw[ah d];rfl
   obtain⟨o,p,q,h,j,k,l,m,n⟩:=RD (f c rfl) (e a rfl) g d b;refine ao (y:=.inl (a6 (some c),a6 (some a),())) ?_ ?_
   ·refine ao (y:=(false,a6 (some c),a6 (some a),())) ?_ ?_
    ·refine ao (lq e) ?_;dsimp only;rw[show lC (some a)=dU a from rfl,hY,ay d]
    refine ao (lq f) ?_;dsimp only;rw[show lC (some c)=dU c from rfl,hY,ay g];rfl
   refine ao h (ao (Ic k j l m) ?_);unfold m7;simp only;rw[ah d,ah g,n]
def RX (r:dT b) (I:0<b) (s:Int):∃g h t,w7 (a6 (some b),56,())=some (l8 false g h t,())/\0<g/\aw g<=800000/\-500000<=h/\h<=500000/\g2 false g h t s=iX b s:=by
 have A:=hV r;have J:=hU r;have u:b≠0:=U;have O:0<aR b:=(by have:=q7 (v:=b);have:=gP u;omega);obtain⟨a,B⟩:∃a:Nat,aR b=a:=⟨(aR b).toNat,U⟩;have o:(aR b).natAbs=a:=U;rw[o] at A;have C:0<a:=U;have E:bm b=bh b:=(by unfold bm;rw[ah u]);obtain⟨c,f⟩:∃c,c=hW a (bm b):=⟨_,rfl⟩;have L:c<=119:=(by rw[f];unfold hW;split<;>omega);have M:118<=aw a+c:=(by rw[f];unfold hW;split<;>omega);have N:(bm b-c) %2=0:=(by rw[f];unfold hW;split<;>omega);have K:aw (a*2^c)<=131191:=(by have:=wM (m:=a) (n:=c);omega);have q:58<=aw (bW (a*2^c)):=yB (by rw[ie C];omega);have F:bW (a*2^c)<=a*2^c:=by
  obtain⟨H,R⟩:=sB (a*2^c);rcases hh (bW (a*2^c)) with d|d
  ·omega
  exact bt (Nat.le_mul_of_pos_left _ d) H
 have P:=je F;refine⟨bW (a*2^c),(bm b-c)/2,decide (bW (a*2^c)*bW (a*2^c)≠a*2^c),?_,?_,U,U,U,?_⟩
 ·unfold w7;rw[e4,B];refine ao (qq (gT (by rw[ee];omega))) ?_;rw[ee];dsimp only;have ai:(if ax (ax (2*ax (56+3))-(aw a:Int))>0 then ax (ax (2*ax (56+3))-(aw a:Int)) else 0)=((118-aw a:Nat):Int):=by
   rw[bf (x:=56+3) aa aa,bf (x:=2*(56+3)) aa aa,bf U U];split<;>omega
  rw[ai];refine ao (y:=((c:Int),(false,((false,([],())),((0:Int),(false,())))),())) ?_ ?_
  ·rw[bf U U];refine ao (y:=(bm b-((118-aw a:Nat):Int)).tmod 2) (by unfold gj;rw[al aa]) ?_;rw[dA];have p:((bm b-((118-aw a:Nat):Int)).tmod 2=0)↔((bm b-((118-aw a:Nat):Int)) %2=0):=by
    constructor
    ·intro e;have:=Int.dvd_of_tmod_eq_zero e;omega
    intro e;exact Int.tmod_eq_zero_of_dvd (Int.dvd_of_emod_eq_zero e)
   by_cases d:(bm b-((118-aw a:Nat):Int)) %2=0
   ·rw[aC (p.2 d)];show some (((118-aw a:Nat):Int),_,())=_;rw[f];unfold hW;rw[al d]
   rw[ay (λe=>d (p.1 e))];show some (aZ ((118-aw a:Nat):Int),_,())=_;rw[br U,f];unfold hW;rw[ah d]
  dsimp only;refine ao (sE (m:=(a:Int)) (k:=(c:Int)) (by rw[ee];omega) U U) ?_;have w:(a:Int)*2^(c:Int).toNat=((a*2^c:Nat):Int):=(by rw[Int.toNat_natCast,<-jI,<-Int.natCast_mul]);rw[w];refine ao (SR (x:=((a*2^c:Nat):Int)) (by rw[ee];omega) U) ?_;rw[Int.toNat_natCast];dsimp only;rw[bf U U];refine ao (y:=(bm b-c)/2) ?_ ?_
  ·unfold g1;have:(bm b-(c:Int)).tdiv 2=(bm b-(c:Int))/2:=by
    obtain⟨j,D⟩:∃j,bm b-(c:Int)=2*j:=⟨(bm b-(c:Int))/2,U⟩;rw[D,Int.mul_tdiv_cancel_left _ aa,Int.mul_ediv_cancel_left _ aa]
   rw[al aa,this,wrap64 U U]
  refine ao (Gq (x:=(bW (a*2^c):Int)) (y:=(bW (a*2^c):Int)) (by rw[ee];omega) (by rw[ee];omega)) ?_;rw[<-Int.natCast_mul];have Q:aw (bW (a*2^c)*bW (a*2^c))<=900000:=(by have:=nG (k:=131191) (l:=131191) (U:aw (bW (a*2^c))<=131191) (U:aw (bW (a*2^c))<=131191);omega);refine ao (Er (x:=((bW (a*2^c)*bW (a*2^c):Nat):Int)) (y:=((a*2^c:Nat):Int)) (by rw[ee];omega) (by rw[ee];omega)) ?_;dsimp only;unfold l8;have z:(dI ((bW (a*2^c)*bW (a*2^c):Nat):Int) ((a*2^c:Nat):Int)!=0)=decide (bW (a*2^c)*bW (a*2^c)≠a*2^c):=by
   rw[dA];generalize bW (a*2^c)*bW (a*2^c)=i;generalize a*2^c=G;by_cases d:i=G
   ·subst d;rw[ay (show¬(i≠i) fromλe=>e rfl),aC (by unfold dI;rw[ah U,ah U])];rfl
   rw[aC d,ay (by unfold dI;split;omega;split<;>omega)];rfl
  rw[z]
 ·rcases hh (bW (a*2^c)) with d|d
  ·rw[d] at q;exact absurd q aa
  exact d
 unfold iX s5;rw[o,<-E,<-f]
def MN (c:dx i):xf (a6 i,b,())=some (kT i b,()):=by
 unfold xf;refine ao (AG c) ?_;dsimp only;rw[pb];cases i with
 |none=>rfl
 |some a=>
  have e:lC (some a)=dU a:=rfl;by_cases d:a<0
  ·refine ao (y:=.inr (9221120237041090560,())) ?_ ?_
   ·refine ao (y:=(true,a6 (some a),())) ?_ rfl;refine ao (lq c) ?_;dsimp only;rw[e,aC (show dU a<0 by unfold dU;rw[if_neg U,if_pos d];decide)]
   unfold kT;simp only;rw[al d]
  have n:decide (dU a<0)=false:=ay (by unfold dU;split;omega;first|decide|(split<;>omega));by_cases f:a=0
  ·subst f;refine ao (y:=.inr (0,())) ?_ rfl;refine ao (y:=(false,a6 (some 0),())) ?_ ?_
   ·exact ao (lq c) rfl
   exact ao (lq c) rfl
  obtain⟨o,p,q,g,h,j,k,l,m⟩:=RX (c a rfl) U b;refine ao (y:=.inl (a6 (some a),())) ?_ ?_
  ·refine ao (y:=(false,a6 (some a),())) ?_ ?_
   ·refine ao (lq c) ?_;dsimp only;rw[e,n]
   refine ao (lq c) ?_;dsimp only;rw[e,hY,ay f];rfl
  refine ao g (ao (Ic j h k l) ?_);unfold kT;simp only;rw[ah d,ah f,m]
def Se:nN (aD 0,())=some (0,()):=by
 unfold nN;refine ao (pN (l:=[]) aH.nil (λf b=>by cases b) aa) ?_;refine ac.eq_iff.1 (ac.aX (P:=λd=>d=.inl ()) ?_ ?_)
 ·refine ac.steps 0 (λc a=>a=((0:Int),())) rfl (λc a e=>by omega) ?_;rintro _ rfl;exact ac.aj.2 rfl
 rintro _ rfl;exact ac.aj.2 rfl
def H8 {n:Nat} (e:aw n<=900000):∃c,nN (aD (n:Int),())=some (c,())/\((c=0/\n≠0)↔n %2=1):=by
 by_cases d:n=0
 ·subst d;exact⟨0,Se,ab⟩
 refine⟨(bb n:Int),?_,?_⟩
 ·have:=Il (z:=(n:Int)) (by rw[ee];omega) U;rw[ee] at this;exact this
 rw[<-vw];constructor
 ·rintro⟨a,b⟩;exact⟨b,U⟩
 rintro⟨a,b⟩;exact⟨U,a⟩
def Ts:x2 (o,e,l,b,())=some (pV o e l b,()):=by
 unfold x2 pV;dsimp only;rw[dD,dD,dD,dD];by_cases a:b=1
 ·rw[aC a,al a];rfl
 rw[ay a,ah a];by_cases c:b=2
 ·rw[aC c,al c];rfl
 rw[ay c,ah c];by_cases d:b=3
 ·rw[aC d,al d];rfl
 rw[ay d,ah d];by_cases g:e>0
 ·rw[aC g];rfl
 rw[ay g];by_cases f:e=0
 ·rw[aC f];cases l<;>rfl
 rw[ay f];rfl
def RH (D:aw a<=800000) (F:c<=1000000):x0 (o,aD (a:Int),(c:Int),l,b,())=some (aD ((eN o a c l b:Nat):Int),()):=by
 unfold x0;have w:∀g:Nat,(a:Int)/2^g=((a/2^g:Nat):Int):=λg=>(by rw[<-jI,<-Int.natCast_ediv]);have A:∀g:Nat,decide (((a:Int).natAbs:Int) %2^g≠0)=decide (a %2^g≠0):=λg=>(by rw[ee,<-jI,<-Int.natCast_emod,decide_eq_decide];omega);have j:∀g,aw (a/2^g)<=800000:=λg=>Nat.le_trans (je (Nat.div_le_self _ _)) D;refine ao (Cy (m:=(a:Int)) (n:=c) (by rw[ee];omega) U) ?_;rw[w];refine ao (H1 (z:=(a:Int)) (n:=c) (by rw[ee];omega) U) ?_;rw[A];dsimp only;by_cases k:a %2^c=0/\l=false
 ·refine ao (y:=.inr (aD ((a/2^c:Nat):Int),())) ?_ ?_
  ·rw[ay (λe=>e k.1),k.2];rfl
  unfold eN;rw[al k]
 refine ao (y:=.inl ((false,([],())),aD ((a/2^c:Nat):Int),())) ?_ ?_
 ·by_cases e:a %2^c=0
  ·have:l=true:=by
    cases l
    ·exact absurd ⟨e,rfl⟩ k
    rfl
   rw[ay (λC=>C e),this];rfl
  rw[aC e];rfl
 dsimp only;refine ao (y:=(iJ a c l,(false,([],())),aD ((a/2^c:Nat):Int),())) ?_ ?_
 ·rw[bo];split
  ·rename_i e;obtain⟨d,rfl⟩:∃d,c=d+1:=⟨c-1,U⟩;have B:ax (((d+1:Nat):Int)-1)=(d:Int):=(by rw[bf U U];omega);rw[B];refine ao (Cy (m:=(a:Int)) (n:=d) (by rw[ee];omega) U) ?_;rw[w];obtain⟨v,u,i⟩:=H8 (n:=a/2^d) (by have:=j d;omega);have r:=OG a d 1;rw[Nat.pow_one] at r;have E:=Nat.mod_lt a (e8 d);have G:2^(d+1)=2*2^d:=(by rw[hI,hj]);refine ao (y:=(decide (a/2^d %2=1),(false,([],())),aD ((a/2^(d+1):Nat):Int),())) ?_ ?_
   ·refine ao u ?_;dsimp only;rw[dD];by_cases h:v=0
    ·rw[aC h];refine ao (kk (z:=((a/2^d:Nat):Int)) (by rw[ee];have:=j d;omega)) ?_;dsimp only;have q:(dU ((a/2^d:Nat):Int)!=0)=decide (a/2^d %2=1):=by
      show(!(dU ((a/2^d:Nat):Int)==0))=_;rw[hY];by_cases f:a/2^d=0
      ·rw[aC U,ay (λe=>(i.2 e).2 f)];rfl
      rw[ay U,aC (i.1 ⟨h,f⟩)];rfl
     rw[q]
    rw[ay h,ay (λe=>h (i.2 e).1)];rfl
   dsimp only;unfold iJ;by_cases s:a/2^d %2=1
   ·rw[aC s];have t:a %2^(d+1)=2^d+a %2^d:=(by rw[r,s,fG]);rw[t,ah U];cases l
    ·show(Option.bind _ _)=_;refine ao (H1 (z:=(a:Int)) (n:=d) (by rw[ee];omega) U) ?_;rw[A];dsimp only;by_cases f:a %2^d=0
     ·rw[ay (λe=>e f),f,ah U];rfl
     rw[aC f,al U];rfl
    show some (1,_,_,())=_;split<;>rfl
   rw[ay s];have t:a %2^(d+1)=a %2^d:=(by rw[r,(U:a/2^d %2=0),Nat.zero_mul,h8]);rw[t,al U];rfl
  rename_i e;obtain rfl:c=0:=U;unfold iJ;rw[al (by rw[Nat.pow_zero,Nat.mod_one];decide)]
 dsimp only;obtain⟨v,u,i⟩:=H8 (n:=a/2^c) (by have:=j c;omega);refine ao (y:=(decide (a/2^c %2=1),(false,([],())),aD ((a/2^c:Nat):Int),())) ?_ ?_
 ·refine ao (kk (z:=((a/2^c:Nat):Int)) (by rw[ee];have:=j c;omega)) ?_;dsimp only;have q:(dU ((a/2^c:Nat):Int)!=0)=decide (a/2^c≠0):=by
   show(!(dU ((a/2^c:Nat):Int)==0))=_;rw[hY];by_cases f:a/2^c=0
   ·rw[aC U,ay (λe=>e f)];rfl
   rw[ay U,aC f];rfl
  rw[q];by_cases f:a/2^c=0
  ·rw[ay (λe=>e f),ay (λe=>(i.2 e).2 f)];rfl
  rw[aC f];refine ao u ?_;dsimp only;rw[dD];by_cases h:v=0
  ·rw[aC h,aC (i.1 ⟨h,f⟩)]
  rw[ay h,ay (λe=>h (i.2 e).1)]
 dsimp only;refine ao (y:=((false,([],())),aD ((eN o a c l b:Nat):Int),())) ?_ rfl;refine ao Ts ?_;dsimp only;unfold eN;rw[if_neg k];by_cases p:pV o (iJ a c l) (decide (a/2^c %2=1)) b=true
 ·rw[al p,p];refine ao (CB (n:=1) aa aa) ?_;refine ao (vG (x:=((a/2^c:Nat):Int)) (y:=1) (by rw[ee];have:=j c;omega) aa) ?_;rfl
 rw[ah p,Bool.eq_false_iff.2 p];rfl
def vN (a:0<=b) (c:b<9223372036854775808):nQ (l,b,())=some (gB l b,()):=by
 unfold nQ gB;cases l
 ·rfl
 dsimp only;rw[kh 63 a (by exact c) aa U aa aa,Int.add_comm];rfl
def CE:uO (l,b,())=some (kP l b,()):=by
 unfold uO kP;dsimp only;refine ao (y:=if(b=3\/(b=1/\l=false)\/(b=2/\l=true)) then .inr (gB l 9218868437227405311,()) else .inl ()) ?_ ?_
 ·refine ao (y:=(decide (b=3\/(b=1/\l=false)\/(b=2/\l=true)),())) ?_ ?_
  ·rw[dD,dD,dD];by_cases e:b=3
   ·subst e;simp
   by_cases c:b=1
   ·subst c;cases l<;>simp
   by_cases d:b=2
   ·subst d;cases l<;>simp
   simp[c,d,e]
  dsimp only;by_cases a:(b=3\/(b=1/\l=false)\/(b=2/\l=true))
  ·rw[aC a,al a];exact ao (vN aa aa) rfl
  rw[ay a,ah a];rfl
 by_cases a:(b=3\/(b=1/\l=false)\/(b=2/\l=true))
 ·rw[al a,al a]
 rw[ah a,ah a];exact ao (vN aa aa) rfl
def Tr {neg m3:Bool} {e m2:Int} (c:0<a) (k:-1074<bg a e):4503599627370496<=(if bg a e<=e then a*2^(e-bg a e).toNat else eN neg a (bg a e-e).toNat m3 m2):=by
 obtain⟨d,i⟩:=nF c;have j:=nH c;have l:bg a e=e+aw a-53:=(by unfold bg at*;omega);have h:(2:Nat)^52=4503599627370496:=aa;split
 ·rename_i f;have b:2^(aw a-1)*2^(e-bg a e).toNat<=a*2^(e-bg a e).toNat:=dG _ d;rw[<-dv] at b;have g:2^52<=2^(aw a-1+(e-bg a e).toNat):=nz aa U;omega
 rename_i f;have b:2^52<=a/2^(bg a e-e).toNat:=(by rw[tH (e8 _),<-dv];exact bt (nz aa U) d);unfold eN;split
 ·omega
 split<;>omega
def R9 (t:aw a<=800000) (j:0<a) (E:-500000<=b) (F:b<=500000) (B:o=true->54<=aw a):x4 (l,aD (a:Int),b,o,v,())=some (g2 l a b o v,()):=by
 have G:=nH j;have H:=th (neg:=l) (m3:=o) (m2:=v) (e:=b) j;have p:=Tr (neg:=l) (m3:=o) (m2:=v) (e:=b) j;have q:g2 l a b o v=g0 l (if bg a b<=b then a*2^(b-bg a b).toNat else eN l a (bg a b-b).toNat o v) (bg a b) v:=(by unfold g2;split<;>rfl);have r:bg a b=if(-1074:Int)>b+aw a-1-52 then-1074 else b+aw a-1-52:=by unfold bg;split<;>omega
 have I:-1074<=bg a b:=(by unfold bg;omega);have J:bg a b<=1400000:=(by unfold bg;omega);have C:-1000000<=bg a b-b:=(by unfold bg;omega);have D:bg a b-b<=1000000:=(by unfold bg;omega);unfold x4;refine ao (Ct (z:=(a:Int)) (by rw[ee];omega)) ?_;rw[ee];dsimp only;rw[bf (x:=b+(aw a:Int)) U U,bf (x:=b+(aw a:Int)-1) U U,bf (x:=b+(aw a:Int)-1-52) U U,<-r,q,bo];split
 ·rename_i u;have K:972<=bg a b:=(by unfold bg;omega);have p:=p U;refine ao CE ?_;clear r q C D;generalize(if bg a b<=b then a*2^(b-bg a b).toNat else eN l a (bg a b-b).toNat o v)=d at*;unfold g0;rw[ah U];by_cases h:d=9007199254740992
  ·rw[al h,al U]
  rw[ah h,al U]
 rename_i u;refine ao (y:=(aD ((if bg a b<=b then a*2^(b-bg a b).toNat else eN l a (bg a b-b).toNat o v:Nat):Int),())) ?_ ?_
 ·rw[bo];split
  ·rename_i f;obtain⟨g,k⟩:∃g:Nat,bg a b-b=g:=⟨(bg a b-b).toNat,U⟩;rw[bf (x:=bg a b-b) U U,k,Int.toNat_natCast];refine ao (RH t U) ?_;dsimp only;by_cases s:bg a b<=b
   ·have w:g=0:=U;have A:o=false:=by
     cases o
     ·rfl
     have:=B rfl;exfalso;unfold bg at*;omega
    rw[al s,w];unfold eN;rw[al ⟨by rw[Nat.pow_zero,Nat.mod_one],A⟩,(U:(b-bg a b).toNat=0)];simp
   rw[ah s]
  rename_i f;obtain⟨g,k⟩:∃g:Nat,b-bg a b=g:=⟨(b-bg a b).toNat,U⟩;rw[bf (x:=b-bg a b) U U,al U,k,du];refine ao (Ig (z:=(a:Int)) (n:=g) (by rw[ee];omega) U) ?_;rw[mB,jI]
 generalize(if bg a b<=b then a*2^(b-bg a b).toNat else eN l a (bg a b-b).toNat o v)=d at*;generalize bg a b=c at*;dsimp only;refine ao (RS (z:=(d:Int)) U U) ?_;dsimp only;rw[dD];unfold g0;by_cases h:d=9007199254740992
 ·rw[aC (U:(d:Int)=9007199254740992),ah (U:¬d<4503599627370496),al h];refine ao (y:=(c+1,4503599627370496,())) ?_ ?_
  ·show some (aZ c,4503599627370496,())=_;unfold aZ;rw[wrap64 U U]
  dsimp only;rw[bf (x:=c+1+53) U U,aC (U:(4503599627370496:Int)>=4503599627370496)];by_cases f:c+1+1075>=2047
  ·rw[al f];refine ao (y:=.inr (kP l v,())) ?_ rfl;refine ao (y:=(true,())) ?_ (ao CE rfl);rw[aC (U:c+1+53>1024)];rfl
  rw[ah f];refine ao (y:=.inr (gB l ((c+1+1075)*4503599627370496),())) ?_ rfl;refine ao (y:=(false,())) ?_ ?_
  ·rw[ay (U:¬c+1+53>1024)];rfl
  dsimp only;rw[bf (x:=c+1+1075) U U,bM (x:=c+1+1075) U U,kZ aa aa,show(2:Int)^(52:Int).toNat=4503599627370496 from rfl];have ai:aA (ax (4503599627370496-4503599627370496))=0:=(by rw[bf U U,bM U U];omega);have i:(c+1+1075)*4503599627370496 %18446744073709551616=(c+1+1075)*4503599627370496:=U;rw[ai,i];show((nQ (l,dP IntKind.u64 ((c+1+1075)*4503599627370496) 0,())).bind _)=_;rw[vB,kh 52 aa aa U aa U U,Int.zero_add];exact ao (vN U U) rfl
 rw[ay (U:¬(d:Int)=9007199254740992)];refine ao (y:=(c,(d:Int),())) rfl ?_;dsimp only;rw[bf (x:=c+53) U U];by_cases m:d<4503599627370496
 ·rw[ay (U:¬((d:Int)>=4503599627370496)),al m,bM (x:=(d:Int)) U U];refine ao (y:=.inl ()) ?_ ?_
  ·exact ao rfl rfl
  exact ao (vN U U) rfl
 rw[aC (U:((d:Int)>=4503599627370496)),ah m,ah h];by_cases f:c+1075>=2047
 ·rw[al f];refine ao (y:=.inr (kP l v,())) ?_ rfl;refine ao (y:=(true,())) ?_ (ao CE rfl);rw[aC (U:c+53>1024)];rfl
 rw[ah f];refine ao (y:=.inr (gB l ((c+1075)*4503599627370496+((d:Int)-4503599627370496)),())) ?_ rfl;refine ao (y:=(false,())) ?_ ?_
 ·rw[ay (U:¬c+53>1024)];rfl
 dsimp only;rw[bf (x:=c+1075) U U,bM (x:=c+1075) U U,kZ aa aa,show(2:Int)^(52:Int).toNat=4503599627370496 from rfl];have ai:aA (ax ((d:Int)-4503599627370496))=(d:Int)-4503599627370496:=(by rw[bf U U,bM U U]);have i:(c+1075)*4503599627370496 %18446744073709551616=(c+1075)*4503599627370496:=U;rw[ai,i];show((nQ (l,dP IntKind.u64 ((c+1075)*4503599627370496) ((d:Int)-4503599627370496),())).bind _)=_;rw[vB,kh 52 U U U U U U];refine ao (vN U U) ?_;dsimp only;congr 4;omega
def DJ (a:dN b):db IntKind.u64 b 52=some (b/4503599627370496)/\bT IntKind.u64 (b/4503599627370496) 2047=a8 b/\bT IntKind.u64 b 4503599627370495=dE b:=by
 have c:=a.1;have d:=a.2;refine⟨?_,?_,?_⟩
 ·rw[pO aa aa];rfl
 ·rw[oO 11 U U 2047 aa aa];rfl
 rw[oO 52 U U 4503599627370495 aa aa];rfl
def H0 (d:dN b):sn (b,())=some (!decide (a8 b=2047),()):=by obtain⟨a,c,e⟩:=DJ d;unfold sn;refine ao a ?_;rw[c,dA]
def RT (a:dN b):x3 (b,())=some (decide (9223372036854775808<=b),()):=by unfold x3;dsimp only;rw[D9 a]
def s4 (g:dN e):nP (e,())=some (a6 (bE e),()):=by
 obtain⟨i,j,k⟩:=DJ g;have t:=sr e;have s:=uZ e;unfold nP bE;refine ao (H0 g) ?_;dsimp only;by_cases f:a8 e=2047
 ·rw[aC f,al f];rfl
 rw[ay f,ah f,show(!!false)=false from rfl,cond_false,i,aQ,j,k,bf (x:=a8 e) U U];obtain⟨a,d,l,n,o,p,q,h⟩:∃a d,(bif decide (a8 e>0) then some (dP IntKind.u64 (dE e) 4503599627370496,ax (a8 e-1075),((false,((false,([],())),((0:Int),()))):bz),()) else some (dE e,(-1074:Int),(false,((false,([],())),((0:Int),()))),()))=some (a,d,(false,((false,([],())),((0:Int),()))),())/\0<=a/\a<9007199254740992/\-1074<=d/\d<=972/\(a=(if a8 e=0 then dE e else dE e+4503599627370496)/\d=(if a8 e=0 then-1074 else a8 e-1075)):=by
  by_cases c:a8 e=0
  ·refine⟨dE e,-1074,?_,U,U,U,U,by rw[al c],by rw[al c]⟩;rw[ay (U:¬a8 e>0)];rfl
  refine⟨dE e+4503599627370496,a8 e-1075,?_,U,U,U,U,by rw[ah c],by rw[ah c]⟩;rw[aC (U:a8 e>0),bf U U,kh 52 U U U U U aa];rfl
 rw[<-h.1,<-h.2];refine ao l ?_;dsimp only;refine ao (RT g) ?_;rw[k1,Option.bind_some];dsimp only;rw[nl a,i4 (x:=a/4294967296) U U];have r:aw a.natAbs<=53:=bY.2 U;refine ao (H2 (b:=(decide (9223372036854775808<=e),[a %4294967296,a/4294967296],())) (m:=if e<9223372036854775808 then a else-a) (aH.cons.2 ⟨⟨U,U⟩,aH.cons.2 ⟨⟨U,U⟩,aH.nil⟩⟩) ab ?_ ?_ U U) rfl
 ·unfold eB;simp only[ae];by_cases c:e<9223372036854775808
  ·rw[ay (U:¬(9223372036854775808<=e)),al c,ah ab];omega
  rw[aC (U:9223372036854775808<=e),ah c,al rfl];omega
 split
 ·omega
 rw[nu];omega
def kj (a:cJ) (b:Int):Int:=match a with
 |none=>9221120237041090560
 |some c=>m9 c b
def If (d:dx i):uN (a6 i,b,())=some (kj i b,()):=by
 unfold uN;refine ao (mn d) ?_;dsimp only;rw[pb];cases i with
 |none=>rfl
 |some c=>
  have e:=d c rfl;have h:=hV e;have j:=hU e;rw[e4];refine ao (kk U) ?_;dsimp only;rw[hY];unfold kj m9;by_cases a:c=0
  ·subst a;rw[aC (show aR 0=0 from rfl)];rfl
  rw[ay (gP a)];simp only;rw[if_neg a,cond_false];have g:0<(aR c).natAbs:=(by have:=gP a;omega);refine ao (Cs U) ?_;dsimp only;rw[BZ];refine ao (R9 U g U U (λf=>by cases f)) ?_;unfold bm;rw[if_neg a]
def FE (a:Int):dx (gV a):=yR a 0
def zk (a:-9223372036854775808<=b) (c:b<=9223372036854775807):qD (b,e,())=some (kj (gV b) e,()):=by unfold qD;exact ao (HO a c) (ao (If (FE b)) rfl)
def kf (a:Int) (b:Nat):Nat:=((a %18446744073709551616) %(b:Int)).toNat
def vo (a:Int) {n:Nat} (b:0<n):kf a n<n:=by unfold kf;have c:=nt (a %18446744073709551616) (U:(n:Int)≠0);have d:=oC (a %18446744073709551616) (U:(0:Int)<(n:Int));omega
def vp (a:Int) {n:Nat} (c:0<n) (e:n<=9223372036854775807):o4 (a,(n:Int),())=some ((kf a n:Int),()):=by unfold o4;have d:=vo a c;have b:(a %18446744073709551616) %(n:Int)=(kf a n:Int):=(by unfold kf;have:=Int.emod_nonneg (a %18446744073709551616) (U:(n:Int)≠0);omega);dsimp only;rw[kn a,bM (x:=(n:Int)) U U,(Cq (x:=a %18446744073709551616) (y:=(n:Int)) ⟨U,U⟩ U).2,b];show some (ax (kf a n:Int),())=_;rw[TK U]
def T0 (a b:Int):dN (p0 IntKind.u64 a b):=by unfold p0 dN;rw[v9];omega
def Jg (e:cP) (h:e.length<=9223372036854775807) (d:Int):ac (uB (e,d,())) (λc=>dN c.1):=by
 have g:∀b c:Int,0<=c->∃f,db IntKind.u64 b c=some f:=λb c a=>(by unfold db;rw[if_pos a];exact⟨_,rfl⟩);unfold uB;dsimp only;refine ac.aX (P:=λ_=>True) ?_ ?_
 ·rw[bo];refine ac.ite (λa=>?_) λa=>ac.aj.2 trivial;have a:0<e.length:=(by simp only[a1] at a;omega);have i:=vo d a;refine ac.bs (vp d a h) (ac.bs (da i) (ac.aj.2 trivial))
 rintro⟨b,_⟩ _;dsimp only;obtain⟨f,j⟩:=g b 31 aa;refine ac.bs j ?_;obtain⟨l,k⟩:=g (aA (p0 IntKind.u64 b f*13787848793156543929)) 29 aa;exact ac.bs k (ac.aj.2 (T0 _ _))
def zq (a:0<=b) (c:b<9223372036854775808):dN (gB l b):=by unfold gB dN;cases l<;>simp<;>omega
def Hv (b:Bool) (a:Int):dN (kP b a):=by unfold kP;split<;>exact zq aa aa
def Q8 (c:a<=9007199254740992) (d:-1074<=b):dN (g0 l a b e):=by
 unfold g0;split
 ·exact zq U U
 split
 ·split
  ·exact Hv _ _
  exact zq U U
 split
 ·exact Hv _ _
 exact zq U U
def CC (c:0<a):dN (g2 l a b o v):=by have d:=th (neg:=l) (m3:=o) (m2:=v) (e:=b) c;have g:-1074<=bg a b:=(by unfold bg;omega);have f:g2 l a b o v=g0 l (if bg a b<=b then a*2^(b-bg a b).toNat else eN l a (bg a b-b).toNat o v) (bg a b) v:=(by unfold g2;split<;>rfl);rw[f];exact Q8 d g
def yV:dN 9221120237041090560:=⟨aa,aa⟩
def H3 (b:cJ) (c:Int):dN (kj b c):=by
 unfold kj;cases b with
 |none=>exact yV
 |some d=>
  simp only;unfold m9;by_cases a:d=0
  ·rw[al a];exact⟨aa,aa⟩
  rw[ah a];exact CC (by have:=gP a;omega)
def Rz (j:Int):dN (m7 i r j):=by
 unfold m7;cases i with
 |none=>exact yV
 |some a=>
  cases r with
  |none=>exact yV
  |some b=>
   simp only;by_cases c:b=0
   ·rw[al c];exact⟨aa,aa⟩
   by_cases e:a=0
   ·rw[ah c,al e];exact⟨aa,aa⟩
   rw[ah c,ah e];unfold mm vF;have g:0<(aR a).natAbs:=(by have:=gP e;omega);have h:0<(aR b).natAbs:=(by have:=gP c;omega);have f:58<=aw ((aR a).natAbs*2^ml (aR a).natAbs (aR b).natAbs/(aR b).natAbs):=Cp g h (by unfold ml;omega);refine CC ?_;rcases hh ((aR a).natAbs*2^ml (aR a).natAbs (aR b).natAbs/(aR b).natAbs) with d|d
   ·rw[d] at f;exact absurd f aa
   exact d
def RY (g:Int):dN (kT i g):=by
 unfold kT;cases i with
 |none=>exact yV
 |some a=>
  simp only;by_cases c:a<0
  ·rw[al c];exact⟨aa,aa⟩
  by_cases d:a=0
  ·rw[ah c,al d];exact⟨aa,aa⟩
  rw[ah c,ah d];unfold iX s5;have f:0<(aR a).natAbs:=(by have:=gP d;omega);have e:58<=aw (bW ((aR a).natAbs*2^hW (aR a).natAbs (bh a))):=yB (by rw[ie f];unfold hW;split<;>omega);refine CC ?_;rcases hh (bW ((aR a).natAbs*2^hW (aR a).natAbs (bh a))) with b|b
  ·rw[b] at e;exact absurd e aa
  exact b
def Hq (a b:Int):dN (dP IntKind.u64 a b):=by unfold dP dN;rw[v9];omega
structure dR (mr jg:Nat) (st lx pX:cP):Prop where
 len:st.length=jg+1
 first:st.getD 0 0=0
 mono:∀j,j<jg->st.getD j 0<=st.getD (j+1) 0
 last:st.getD jg 0=(lx.length:Int)
 val:pX.length=lx.length
 rng:∀j k:Nat,j<jg->st.getD j 0<=(k:Int)->(k:Int)<st.getD (j+1) 0->0<=lx.getD k 0/\lx.getD k 0<(mr:Int)
 asc:∀j k:Nat,j<jg->st.getD j 0<(k:Int)->(k:Int)<st.getD (j+1) 0->lx.getD (k-1) 0<lx.getD k 0
def eO {i:Nat} (a:i<d.length):aL d (i:Int)=some (d.getD i 0):=by rw[da a,iO a]
def SM (t:d.length<=1000000):xL (d,())=some (open Classical in decide (∀a,a+1<d.length->d.getD a 0<=d.getD (a+1) 0),()):=by
 classical
 unfold xL;dsimp only;refine ac.eq_iff.1 (ac.aX (P:=λg=>match g with|.inl _=>(∀a,a+1<d.length->d.getD a 0<=d.getD (a+1) 0)|.inr q=>q=(false,())/\¬(∀a,a+1<d.length->d.getD a 0<=d.getD (a+1) 0)) ?_ ?_)
 ·refine ac.loop (λh=>∃c:Nat,(h.1=(c:Int)\/(h.1=-1/\c=0))/\c<=d.length/\(c<d.length\/d.length=0)/\(∀a,c<=a->a+1<d.length->d.getD a 0<=d.getD (a+1) 0)) (λh=>h.1.toNat) ⟨d.length-1,?_,U,U,λa e i=>by omega⟩ ?_
  ·simp only[a1];rw[bf U U];omega
  rintro⟨r,_⟩ ⟨c,e,i,s,j⟩;dsimp only at e|-;rw[bo];refine ac.ite (λk=>?_) λk=>?_
  ·obtain rfl:r=(c:Int):=U;obtain⟨b,rfl⟩:∃b,c=b+1:=⟨c-1,U⟩;have ai:ax (((b+1:Nat):Int)-1)=(b:Int):=(by rw[bf U U];omega);rw[ai];refine ac.bs (eO U) (ac.bs (eO U) ?_);refine ac.bs (y:=(decide (d.getD (b+1) 0<d.getD b 0),())) (by unfold qw oZ;simp only[bne_self_eq_false,Option.bind_some];rfl) ?_;dsimp only;rw[bo];refine ac.ite (λp=>?_) λp=>?_
   ·refine ac.aj.2 ⟨rfl,λl=>?_⟩;have:=l b U;omega
   refine ac.aj.2 ⟨⟨b,.inl rfl,U,U,λa i1 n=>?_⟩,?_⟩
   ·rcases bj b a with o|o
    ·exact j a U n
    obtain rfl:a=b:=U;omega
   show(b:Int).toNat<((b+1:Nat):Int).toNat;omega
  refine ac.aj.2 ?_;intro a m;exact j a U m
 rintro(g|g) f
 ·have f:(∀a,a+1<d.length->d.getD a 0<=d.getD (a+1) 0):=f;rw[decide_eq_true f];exact ac.aj.2 rfl
 obtain⟨e,i⟩:g=(false,())/\¬(∀a,a+1<d.length->d.getD a 0<=d.getD (a+1) 0):=f;rw[e,decide_eq_false i];exact ac.aj.2 rfl
def gF (e:Int) (d b:cP) (c:Nat):Prop:=∀a:Nat,d.getD c 0<=(a:Int)->(a:Int)<d.getD (c+1) 0->(if(a:Int)=d.getD c 0 then-1 else b.getD (a-1) 0)<b.getD a 0/\b.getD a 0<e
def gF.pos (i:gF b d f a) (l:0<=d.getD a 0):∀c:Nat,d.getD a 0<=(c:Int)->(c:Int)<d.getD (a+1) 0->0<=f.getD c 0:=by
 intro c
 induction c with
 |zero=>
  intro e g;have:=(i 0 e g).1;rw[al U] at this;omega
 |succ c k=>
  intro e g;have j:=(i (c+1) e g).1;by_cases h:((c+1:Nat):Int)=d.getD a 0
  ·rw[al h] at j;omega
  rw[ah h,tF] at j;have:=k U U;omega
def gF.rng (k:0<=d.getD a 0):gF b d f a↔(∀c:Nat,d.getD a 0<=(c:Int)->(c:Int)<d.getD (a+1) 0->0<=f.getD c 0/\f.getD c 0<b)/\(∀c:Nat,d.getD a 0<(c:Int)->(c:Int)<d.getD (a+1) 0->f.getD (c-1) 0<f.getD c 0):=by
 constructor
 ·intro h;refine⟨λc e g=>⟨h.pos k c e g,(h c e g).2⟩,λc e g=>?_⟩;have:=(h c U g).1;rwa[ah U] at this
 rintro⟨e,g⟩ c j i;refine⟨?_,(e c j i).2⟩;split
 ·have:=(e c j i).1;omega
 exact g c U i
def SE {l:cP} {lo hi t:Nat} (a:hi<=l.length) (b:lo+t<hi):((l.take hi).drop lo).length=hi-lo/\((l.take hi).drop lo)[t]?=some (l.getD (lo+t) 0):=by refine⟨by simp;omega,?_⟩;rw[jX,rJ,al U,bA U,iO U]
def SF {l:cP} {lo:Nat} (b:a<=l.length):((l.take a).drop lo).length=a-lo:=by simp;omega
def dR.iff:dR c a d f g↔d.length=a+1/\d.getD 0 0=0/\(∀b,b<a->d.getD b 0<=d.getD (b+1) 0)/\d.getD a 0=(f.length:Int)/\g.length=f.length/\∀b,b<a->gF (c:Int) d f b:=by
 have o:(∀b,b<a->d.getD b 0<=d.getD (b+1) 0)->d.getD 0 0=0->∀b,b<=a->0<=d.getD b 0:=λq s b=>by
  induction b with
  |zero=>intro _;omega
  |succ b r=>intro e;have:=r U;have:=q b U;omega
 constructor
 ·rintro⟨l,i,j,m,n,k,p⟩;exact⟨l,i,j,m,n,λb e=>(gF.rng (o j i b U)).2 ⟨λh=>k b h e,λh=>p b h e⟩⟩
 rintro⟨l,i,j,m,n,k⟩;exact⟨l,i,j,m,n,λb h e=>((gF.rng (o j i b U)).1 (k b e)).1 h,λb h e=>((gF.rng (o j i b U)).1 (k b e)).2 h⟩
section
open Go.Proofs
def vY:List (String×DataW Unit):=[("math/bits.deBruijn32tab",Lib.tabData .u8 mP)]
def S9 (b:Os) (a:cG):laidMetH Tryz.prog vY ((World.doorLaid Tryz.prog 400 b).forCall (λ_ _=>0) ⟨#[],a,[]⟩).memory:=
 laidMetH_of_parts3 (fuel:=8) (laidMet_of_run' 8 (by kernel_rfl) (by kernel_rfl)) (by kernel_rfl) (by kernel_rfl)
def S8 {b:World} (c:laidMetH Tryz.prog vY b):iA E (λr=>r<b.heap.size) b:=by
 rw[MakeChecks.laidMetH_plain _ _ _ (by kernel_rfl)] at c;have f:Tryz.prog.globalNamed "math/bits.deBruijn32tab"=some 0:=(by kernel_rfl);have j:=Lib.tabIs_of_head (g:=0) (t:=266) (e:=5) (n:=32) f (by kernel_rfl) (by kernel_rfl) (by kernel_rfl) (by kernel_rfl) (by kernel_rfl) c;intro q h;have h:q∈[(⟨0,266,.u8,mP⟩:ql)]:=h;obtain rfl:=eV.1 h;have s:0<b.heap.size:=by
  have d:=j.cell f 0 aa;unfold World.cell? at d;split at d
  ·rename_i x w y v;exact(lK.1 v).1
  cases d
 refine⟨rfl,_,_,rfl,a2 _,(λc=>by cases c),.inr ⟨0,0,rfl,s,λa p i=>?_⟩⟩;obtain⟨l,i⟩:=ec.1 i;refine⟨[.int .u8 p],rfl,λo z m=>?_,rfl,rfl⟩;have k:=j.cell f a l;have u:(mP.getD a 0:Int)=p:=(by rw[iO l];exact i);rw[u] at k;cases o with
 |zero=>
  obtain rfl:=dp m;have:(⟨0,0+a*af.size (.int .u8)+0,none⟩:Addr)=⟨0,a,none⟩:=(by show(⟨0,0+a*1+0,none⟩:Addr)=_;congr 1;omega);rw[this];exact k
 |succ o=>cases m
end
section
def Lf (av:c<=200) (am:a<=200) (R:d.length<=10000) (Y:f.length<=1000000) (a3:g.length<=1000000):xD (((c:Int),(a:Int),f,d,g,()),())=some (open Classical in decide (dR c a f d g),()):=by
 classical
 unfold xD;refine ac.eq_iff.1 ?_;dsimp only;have X:aZ (a:Int)=((a+1:Nat):Int):=br U;have L:∀(j:¬dR c a f d g),(false,())=(decide (dR c a f d g),()):=λj=>(by rw[decide_eq_false j]);refine ac.aX (P:=λm=>match m with
  |.inl _=>f.length=a+1/\f.getD 0 0=0/\(∀b,b<a->f.getD b 0<=f.getD (b+1) 0)/\f.getD a 0=(d.length:Int)/\g.length=d.length
  |.inr q=>q=(false,())/\¬dR c a f d g) ?_ ?_
 ·rw[X,dA];by_cases z:f.length=a+1
  ·rw[aC (show au f=((a+1:Nat):Int) by simp only[a1];omega)];refine ac.bs (y:=f.getD 0 0) (eO (i:=0) U) ?_;rw[dA];by_cases v:f.getD 0 0=0
   ·rw[aC v];refine ac.bs (SM Y) ?_;dsimp only;by_cases o:∀r,r+1<f.length->f.getD r 0<=f.getD (r+1) 0
    ·rw[decide_eq_true o];refine ac.bs (y:=f.getD a 0) (eO U) ?_;rw[dA];by_cases w:f.getD a 0=(d.length:Int)
     ·rw[aC (show f.getD a 0=au d from w),dA];by_cases E:d.length=g.length
      ·rw[aC (show au d=au g by simp only[a1];omega)];exact ac.aj.2 ⟨z,v,λb s=>o b U,w,U⟩
      rw[ay (show¬au d=au g by simp only[a1];omega)];exact ac.aj.2 ⟨rfl,λj=>E j.val.symm⟩
     rw[ay (show¬f.getD a 0=au d from w)];exact ac.aj.2 ⟨rfl,λj=>w j.last⟩
    rw[decide_eq_false o];exact ac.aj.2 ⟨rfl,λj=>o λr R=>j.mono r (by have:=j.len;omega)⟩
   rw[ay v];exact ac.aj.2 ⟨rfl,λj=>v j.first⟩
  rw[ay (show¬au f=((a+1:Nat):Int) by simp only[a1];omega)];exact ac.aj.2 ⟨rfl,λj=>z j.len⟩
 rintro(m|m) D
 rotate_left
 ·obtain⟨rfl,j⟩:m=(false,())/\¬dR c a f d g:=D;exact ac.aj.2 (L j)
 obtain⟨z,v,o,w,E⟩:f.length=a+1/\f.getD 0 0=0/\(∀b,b<a->f.getD b 0<=f.getD (b+1) 0)/\f.getD a 0=(d.length:Int)/\g.length=d.length:=D;have N:∀b,b<=a->0<=f.getD b 0:=λb=>by
  induction b with
  |zero=>intro _;omega
  |succ b G=>intro s;have:=G U;have:=o b U;omega
 have D:∀A b,b+A=a->f.getD b 0<=(d.length:Int):=λA=>by
  induction A with
  |zero=>intro b s;obtain rfl:b=a:=s;omega
  |succ A G=>intro b s;have:=G (b+1) U;have:=o b U;omega
 dsimp only;refine ac.aX (P:=λm=>match m with
  |.inl _=>(∀b,b<a->gF (c:Int) f d b)
  |.inr q=>q=(false,())/\¬(∀b,b<a->gF (c:Int) f d b)) ?_ ?_
 ·refine ac.steps a (λr H=>H=((r:Int),())/\∀b,b<r->gF (c:Int) f d b) ⟨rfl,λb s=>by omega⟩ ?_ ?_
  ·rintro b _ s ⟨rfl,B⟩;dsimp only;rw[bw (aC (U:(b:Int)<(a:Int))),br U];obtain⟨e,M⟩:=Int.eq_ofNat_of_zero_le (N b U);obtain⟨p,T⟩:=Int.eq_ofNat_of_zero_le (N (b+1) U);have F:p<=d.length:=(by have:=D (a-(b+1)) (b+1) U;omega);have W:e<=p:=(by have:=o b s;omega);refine ac.bs (y:=(e:Int)) (by rw[eO U,M]) (ac.bs (y:=(p:Int)) (by rw[eO U,T]) (ac.bs (y:=(e,p)) (by rw[vt,Option.bind_some,vt,Option.bind_some,yG ⟨W,F⟩];rfl) ?_));dsimp only;have ap:=SF (l:=d) (lo:=e) F;refine ac.aX (P:=λm=>match m with
    |.inl _=>gF (c:Int) f d b
    |.inr q=>q=.inr (.inr (false,()))/\¬gF (c:Int) f d b) ?_ ?_
   ·refine ac.steps (p-e) (λh H=>H=((if h=0 then-1 else d.getD (e+h-1) 0),(h:Int),())/\∀k:Nat,e<=k->k<e+h->(if(k:Int)=f.getD b 0 then-1 else d.getD (k-1) 0)<d.getD k 0/\d.getD k 0<(c:Int)) ⟨rfl,λk B C=>by omega⟩ ?_ ?_
    ·rintro h _ a0 ⟨rfl,C⟩;have S:=(SE (l:=d) (lo:=e) (hi:=p) (t:=h) F U).2;have V:(if h=0 then-1 else d.getD (e+h-1) 0)=(if((e+h:Nat):Int)=f.getD b 0 then-1 else d.getD (e+h-1) 0):=by
      rw[M];by_cases Q:h=0
      ·subst Q;rw[al rfl,al U]
      rw[ah Q,ah U]
     dsimp only;rw[bw (aC (show(h:Int)<au ((d.take p).drop e) by simp only[a1];omega)),V];refine ac.aX (P:=λm=>match m with
      |.inl q=>q=(d.getD (e+h) 0,())/\((if((e+h:Nat):Int)=f.getD b 0 then-1 else d.getD (e+h-1) 0)<d.getD (e+h) 0/\d.getD (e+h) 0<(c:Int))
      |.inr q=>q=.inr (.inr (.inr (.inr (false,()))))/\¬((if((e+h:Nat):Int)=f.getD b 0 then-1 else d.getD (e+h-1) 0)<d.getD (e+h) 0/\d.getD (e+h) 0<(c:Int))) ?_ ?_
     ·refine ac.bs (y:=d.getD (e+h) 0) (iP S) ?_;generalize(if((e+h:Nat):Int)=f.getD b 0 then-1 else d.getD (e+h-1) 0)=ad;generalize d.getD (e+h) 0=I;by_cases J:I<=ad
      ·rw[aC J];exact ac.aj.2 ⟨rfl,λj=>by omega⟩
      rw[ay J];by_cases K:I>=(c:Int)
      ·rw[aC K];exact ac.aj.2 ⟨rfl,λj=>by omega⟩
      rw[ay K];exact ac.aj.2 ⟨rfl,U,U⟩
     rintro(m|m) n
     ·obtain⟨rfl,u⟩:=n;refine ac.aj.2 ⟨?_,?_⟩
      ·rw[br U,ah U];rfl
      intro k x Z;rcases bj k (e+h) with O|O
      ·exact C k x O
      obtain rfl:k=e+h:=U;exact u
     obtain⟨rfl,u⟩:=n;refine ac.aj.2 ⟨rfl,λj=>u ?_⟩;exact j (e+h) U U
    rintro _ ⟨rfl,C⟩;dsimp only;rw[bq (ay (show¬(((p-e:Nat):Int)<au ((d.take p).drop e)) by simp only[a1];omega))];refine ac.aj.2 ?_;intro k x Z;exact C k U U
   rintro(m|m) n
   ·have n:gF (c:Int) f d b:=n;refine ac.aj.2 ⟨rfl,λk an=>?_⟩;rcases bj k b with x|x
    ·exact B k x
    obtain rfl:k=b:=U;exact n
   obtain⟨rfl,u⟩:=n;exact ac.aj.2 ⟨rfl,λj=>u (j b s)⟩
  rintro _ ⟨rfl,B⟩;dsimp only;rw[bq (ay (U:¬((a:Int)<(a:Int))))];exact ac.aj.2 B
 rintro(m|m) n
 ·have n:(∀b,b<a->gF (c:Int) f d b):=n;refine ac.aj.2 ?_;show(true,())=_;rw[decide_eq_true (dR.iff.2 ⟨z,v,o,w,E,n⟩)]
 obtain⟨rfl,u⟩:m=(false,())/\¬(∀b,b<a->gF (c:Int) f d b):=n;exact ac.aj.2 (L λj=>u (dR.iff.1 j).2.2.2.2.2)
def iz (b:cP):Prop:=∀a,a<b.length->a8 (b.getD a 0)≠2047
open Classical in
def gK (d b:Nat) (e c a:cP):Int:=if dR d b e c a then if iz a then 0 else 4 else 1
def Dx.getD {b:cP} (d:∀e∈b,dN e) (c:Nat):dN (b.getD c 0):=by
 rcases bj c b.length with a|a
 ·rw[iO a];exact d _ (dj a)
 rw[mX a];exact⟨aa,aa⟩
def O3 (o:∀r∈d,dN r) (s:d.length<=1000000):xJ (d,(),())=some (open Classical in decide (¬iz d),()):=by
 classical
 unfold xJ;refine ac.eq_iff.1 ?_;refine ac.aX (P:=λj=>∃h,j=(h,())/\(0<=h↔¬iz d)) ?_ ?_
 ·unfold Aw;dsimp only;refine ac.aX (P:=λf=>match f with|.inl _=>iz d|.inr j=>0<=j.1/\¬iz d) ?_ ?_
  ·refine ac.steps d.length (λa q=>q=((a:Int),())/\∀b,b<a->a8 (d.getD b 0)≠2047) ⟨rfl,λb n=>by omega⟩ ?_ ?_
   ·rintro a _ k ⟨rfl,e⟩;dsimp only;rw[bw (aC (show(a:Int)<au d by simp only[a1];omega))];refine ac.bs (eO k) ?_;unfold Au;refine ac.bs (y:=(decide (a8 (d.getD a 0)=2047),())) (ao (yA (Dx.getD o a)) (by dsimp only;rw[Bool.not_not])) ?_;dsimp only;rw[bo];refine ac.ite (λi=>?_) λi=>?_
    ·exact ac.aj.2 ⟨by show(0:Int)<=(a:Int);omega,λc=>c a k i⟩
    refine ac.aj.2 ⟨by rw[br U],λb n=>?_⟩;rcases bj b a with l|l
    ·exact e b l
    obtain rfl:b=a:=U;exact i
   rintro _ ⟨rfl,e⟩;dsimp only;rw[bq (ay (show¬((d.length:Int)<au d) by simp only[a1];omega))];exact ac.aj.2 e
  rintro(f|f) g
  ·have g:iz d:=g;exact ac.aj.2 ⟨_,rfl,⟨λc=>absurd c aa,λc=>absurd g c⟩⟩
  obtain⟨e,m⟩:0<=f.1/\¬iz d:=g;exact ac.aj.2 ⟨f.1,rfl,λ_=>m,λ_=>e⟩
 rintro _ ⟨h,rfl,p⟩;refine ac.aj.2 ?_;show(decide (h>=0),())=_;congr 1;rw[decide_eq_decide];exact p
def Oj (l:c<=200) (j:a<=200) (k:f.length<=10000) (m:g.length<=1000000) (h:d.length<=1000000) (n:∀o∈d,dN o):o3 (((c:Int),(a:Int),g,f,d,()),())=some (gK c a g f d,()):=by
 classical
 unfold o3 gK;dsimp only;refine ao (y:=(false,())) ?_ ?_
 ·unfold xG;dsimp only;rw[aC (U:(c:Int)>=0),aC (U:(c:Int)<=200),aC (U:(a:Int)>=0),aC (U:(a:Int)<=200),ay (show¬(au f>10000) by simp only[a1];omega)];rfl
 dsimp only;rw[cond_false];refine ao (Lf l j k m h) ?_;dsimp only;by_cases b:dR c a g f d
 ·rw[decide_eq_true b,if_pos b];refine ao (O3 n h) ?_;dsimp only;by_cases e:iz d
  ·rw[decide_eq_false (λi=>i e),al e];rfl
  rw[decide_eq_true e,ah e];rfl
 rw[decide_eq_false b,ah b];rfl
end
def RR (m:∀p∈d,dN p) (q:d.length<=1000000):x5 (d,())=some (open Classical in decide (iz d),()):=by
 classical
 unfold x5;refine ac.eq_iff.1 ?_;dsimp only;refine ac.aX (P:=λf=>match f with|.inl _=>iz d|.inr n=>n=(false,())/\¬iz d) ?_ ?_
 ·refine ac.steps d.length (λa o=>o=((a:Int),())/\∀b,b<a->a8 (d.getD b 0)≠2047) ⟨rfl,λb l=>by omega⟩ ?_ ?_
  ·rintro a _ h ⟨rfl,c⟩;dsimp only;rw[bw (aC (show(a:Int)<au d by simp only[a1];omega))];refine ac.bs (eO h) (ac.bs (H0 (Dx.getD m a)) ?_);dsimp only;rw[Bool.not_not,bo];refine ac.ite (λg=>?_) λg=>?_
   ·exact ac.aj.2 ⟨rfl,λj=>j a h g⟩
   refine ac.aj.2 ⟨by rw[br U],λb l=>?_⟩;rcases bj b a with i|i
   ·exact c b i
   obtain rfl:b=a:=U;exact g
  rintro _ ⟨rfl,c⟩;dsimp only;rw[bq (ay (show¬((d.length:Int)<au d) by simp only[a1];omega))];exact ac.aj.2 c
 rintro(f|f) e
 ·have e:iz d:=e;rw[decide_eq_true e];exact ac.aj.2 rfl
 obtain⟨c,k⟩:f=(false,())/\¬iz d:=e;rw[c,decide_eq_false k];exact ac.aj.2 rfl
def RE (a3:c<=200) (an:a<=200) (ap:d.length<=10000) (a4:f.length<=1000000) (Y:g.length<=1000000) (Z:∀am∈g,dN am):uP (((c:Int),(a:Int),f,d,g,()),())=some (gK c a f d g,()):=by
 classical
 unfold uP;refine ac.eq_iff.1 ?_;dsimp only;have W:aZ (a:Int)=((a+1:Nat):Int):=br U;have H:∀(k:¬dR c a f d g),((1:Int),())=(gK c a f d g,()):=λk=>(by unfold gK;rw[if_neg k]);refine ac.bs (y:=.inl ()) ?_ ?_
 ·rw[ay (U:¬(c:Int)<0),ay (U:¬(c:Int)>200),ay (U:¬(a:Int)<0),ay (U:¬(a:Int)>200),ay (show¬(au d>10000) by simp only[a1];omega)];rfl
 dsimp only;refine ac.aX (P:=λl=>match l with
  |.inl _=>f.length=a+1/\f.getD 0 0=0/\f.getD a 0=(d.length:Int)/\g.length=d.length
  |.inr r=>r=((1:Int),())/\¬dR c a f d g) ?_ ?_
 ·rw[W,dA,dA];by_cases F:g.length=d.length
  ·rw[aC (show au g=au d by simp only[a1];omega)];by_cases D:f.length=a+1
   ·rw[aC (show au f=((a+1:Nat):Int) by simp only[a1];omega)];refine ac.bs (y:=f.getD 0 0) (eO (i:=0) U) ?_;rw[dA];by_cases v:f.getD 0 0=0
    ·rw[aC v];refine ac.bs (y:=f.getD a 0) (eO U) ?_;rw[dA];by_cases w:f.getD a 0=(d.length:Int)
     ·rw[aC (show f.getD a 0=au d from w)];exact ac.aj.2 ⟨D,v,w,F⟩
     rw[ay (show¬f.getD a 0=au d from w)];exact ac.aj.2 ⟨rfl,λk=>w k.last⟩
    rw[ay v];exact ac.aj.2 ⟨rfl,λk=>v k.first⟩
   rw[ay (show¬au f=((a+1:Nat):Int) by simp only[a1];omega)];exact ac.aj.2 ⟨rfl,λk=>D k.len⟩
  rw[ay (show¬au g=au d by simp only[a1];omega)];exact ac.aj.2 ⟨rfl,λk=>F k.val⟩
 rintro(l|l) u
 rotate_left
 ·obtain⟨rfl,k⟩:l=((1:Int),())/\¬dR c a f d g:=u;exact ac.aj.2 (H k)
 obtain⟨D,v,w,F⟩:f.length=a+1/\f.getD 0 0=0/\f.getD a 0=(d.length:Int)/\g.length=d.length:=u;dsimp only;refine ac.aX (P:=λl=>match l with
  |.inl _=>(∀b,b<a->f.getD b 0<=f.getD (b+1) 0)
  |.inr r=>r=((1:Int),())/\¬dR c a f d g) ?_ ?_
 ·refine ac.steps a (λz C=>C=((z:Int),())/\∀b,b<z->f.getD b 0<=f.getD (b+1) 0) ⟨rfl,λb q=>by omega⟩ ?_ ?_
  ·rintro b _ q ⟨rfl,s⟩;dsimp only;rw[bw (aC (U:(b:Int)<(a:Int))),br U];refine ac.bs (eO U) (ac.bs (eO U) ?_);rw[bo];refine ac.ite (λx=>?_) λx=>?_
   ·exact ac.aj.2 ⟨rfl,λk=>by have:=k.mono b q;omega⟩
   refine ac.aj.2 ⟨rfl,λh T=>?_⟩;rcases bj h b with o|o
   ·exact s h o
   obtain rfl:h=b:=U;omega
  rintro _ ⟨rfl,s⟩;dsimp only;rw[bq (ay (U:¬((a:Int)<(a:Int))))];exact ac.aj.2 s
 rintro(l|l) u
 rotate_left
 ·obtain⟨rfl,k⟩:l=((1:Int),())/\¬dR c a f d g:=u;exact ac.aj.2 (H k)
 have E:∀b,b<a->f.getD b 0<=f.getD (b+1) 0:=u;have O:∀b,b<=a->0<=f.getD b 0:=λb=>by
  induction b with
  |zero=>intro _;omega
  |succ b A=>intro q;have:=A U;have:=E b U;omega
 have u:∀G b,b+G=a->f.getD b 0<=(d.length:Int):=λG=>by
  induction G with
  |zero=>intro b q;obtain rfl:b=a:=q;omega
  |succ G A=>intro b q;have:=A (b+1) U;have:=E b U;omega
 dsimp only;refine ac.aX (P:=λl=>match l with
  |.inl _=>(∀b,b<a->gF (c:Int) f d b)
  |.inr r=>r=((1:Int),())/\¬(∀b,b<a->gF (c:Int) f d b)) ?_ ?_
 ·refine ac.steps a (λz C=>C=((z:Int),())/\∀b,b<z->gF (c:Int) f d b) ⟨rfl,λb q=>by omega⟩ ?_ ?_
  ·rintro b _ q ⟨rfl,s⟩;dsimp only;rw[bw (aC (U:(b:Int)<(a:Int))),br U];obtain⟨e,V⟩:=Int.eq_ofNat_of_zero_le (O b U);obtain⟨t,S⟩:=Int.eq_ofNat_of_zero_le (O (b+1) U);have av:t<=d.length:=(by have:=u (a-(b+1)) (b+1) U;omega);have a0:e<=t:=(by have:=E b q;omega);have M:aL f (b:Int)=some (e:Int):=(by rw[eO U,V]);have N:aL f ((b+1:Nat):Int)=some (t:Int):=(by rw[eO U,S]);refine ac.bs M ?_;refine ac.aX (P:=λl=>match l with
    |.inl _=>gF (c:Int) f d b
    |.inr r=>r=.inr (.inr ((1:Int),()))/\¬gF (c:Int) f d b) ?_ ?_
   ·refine ac.steps (t-e) (λj C=>C=(((e+j:Nat):Int),())/\∀h:Nat,e<=h->h<e+j->(if(h:Int)=f.getD b 0 then-1 else d.getD (h-1) 0)<d.getD h 0/\d.getD h 0<(c:Int)) ⟨rfl,λh s p=>by omega⟩ ?_ ?_
    ·rintro j _ bl ⟨rfl,p⟩;dsimp only;refine ac.bs N ?_;rw[bw (aC (U:((e+j:Nat):Int)<(t:Int)))];have I:aL d ((e+j:Nat):Int)=some (d.getD (e+j) 0):=eO U;have X:j≠0->0<=d.getD (e+j-1) 0:=λJ=>by
      have ad:∀h:Nat,e<=h->h<e+j->0<=d.getD h 0:=by
       intro h
       induction h with
       |zero=>
        intro o B;have:=(p 0 o B).1;rw[al U] at this;omega
       |succ h A=>
        intro o B;have m:=(p (h+1) o B).1;by_cases x:((h+1:Nat):Int)=f.getD b 0
        ·rw[al x] at m;omega
        rw[ah x,tF] at m;have:=A U U;omega
      exact ad _ U U
     refine ac.aX (P:=λl=>match l with
      |.inl _=>((if((e+j:Nat):Int)=f.getD b 0 then-1 else d.getD (e+j-1) 0)<d.getD (e+j) 0/\d.getD (e+j) 0<(c:Int))
      |.inr r=>r=.inr (.inr (.inr (.inr ((1:Int),()))))/\¬((if((e+j:Nat):Int)=f.getD b 0 then-1 else d.getD (e+j-1) 0)<d.getD (e+j) 0/\d.getD (e+j) 0<(c:Int))) ?_ ?_
     ·refine ac.bs I ?_;by_cases K:d.getD (e+j) 0<0
      ·rw[aC K];refine ac.aj.2 ⟨rfl,λk=>?_⟩;have m:=k.1;by_cases J:j=0
       ·rw[al U] at m;omega
       rw[ah U] at m;have:=X J;omega
      rw[ay K];refine ac.bs I ?_;by_cases L:d.getD (e+j) 0>=(c:Int)
      ·rw[aC L];exact ac.aj.2 ⟨rfl,λk=>by omega⟩
      rw[ay L];refine ac.bs M ?_;by_cases J:j=0
      ·rw[ay (U:¬((e+j:Nat):Int)>(e:Int))];refine ac.aj.2 ⟨?_,U⟩;rw[al U];omega
      rw[aC (U:((e+j:Nat):Int)>(e:Int))];have ai:ax (((e+j:Nat):Int)-1)=((e+j-1:Nat):Int):=(by rw[bf U U];omega);refine ac.bs I (ac.bs (y:=d.getD (e+j-1) 0) (by rw[ai];exact eO U) ?_);rw[bo];refine ac.ite (λx=>?_) λx=>?_
      ·refine ac.aj.2 ⟨rfl,λk=>?_⟩;have m:=k.1;rw[ah U] at m;omega
      refine ac.aj.2 ⟨?_,U⟩;rw[ah U];omega
     rintro(l|l) n
     ·refine ac.aj.2 ⟨by rw[br U];rfl,?_⟩;intro h o B;rcases bj h (e+j) with Q|Q
      ·exact p h o Q
      obtain rfl:h=e+j:=U;exact n
     obtain⟨rfl,m⟩:=n;exact ac.aj.2 ⟨rfl,λk=>m (k (e+j) U U)⟩
    rintro _ ⟨rfl,p⟩;dsimp only;refine ac.bs N ?_;rw[bq (ay (U:¬(((e+(t-e):Nat):Int)<(t:Int))))];refine ac.aj.2 ?_;intro h o B;exact p h U U
   rintro(l|l) n
   ·have n:gF (c:Int) f d b:=n;refine ac.aj.2 ⟨rfl,λh T=>?_⟩;rcases bj h b with o|o
    ·exact s h o
    obtain rfl:h=b:=U;exact n
   obtain⟨rfl,m⟩:=n;exact ac.aj.2 ⟨rfl,λk=>m (k b q)⟩
  rintro _ ⟨rfl,s⟩;dsimp only;rw[bq (ay (U:¬((a:Int)<(a:Int))))];exact ac.aj.2 s
 rintro(l|l) n
 ·have n:(∀b,b<a->gF (c:Int) f d b):=n;have R:dR c a f d g:=dR.iff.2 ⟨D,v,E,w,F,n⟩;refine ac.bs (RR Z Y) ?_;unfold gK;rw[al R];by_cases p:iz g
  ·rw[decide_eq_true p,al p];exact ac.aj.2 rfl
  rw[decide_eq_false p,ah p];exact ac.aj.2 rfl
 obtain⟨rfl,m⟩:l=((1:Int),())/\¬(∀b,b<a->gF (c:Int) f d b):=n;exact ac.aj.2 (H λk=>m (dR.iff.1 k).2.2.2.2.2)
abbrev bu:=Int×Int×Int×Unit
variable{q:List bu}{s:bu}
def gu (b d:cP) (c:Int) (a:Nat):Nat->List bu
 |0=>[]
 |n+1=>gu b d c a n++[(b.getD (a+n) 0,c,d.getD (a+n) 0,())]
def bU (a b c:cP):Nat->List bu
 |0=>[]
 |j+1=>bU a b c j++gu b c (j:Int) (a.getD j 0).toNat ((a.getD (j+1) 0).toNat-(a.getD j 0).toNat)
def ET (c f:cP) (d:Int) (e a:Nat):(gu c f d e a).length=a:=by
 induction a with
 |zero=>rfl
 |succ a b=>simp[gu,b]
def dR.pos (e:dR c a d f g):∀b,b<=a->0<=d.getD b 0:=λb=>by
 have:=e.first
 induction b with
 |zero=>intro _;omega
 |succ b h=>intro i;have:=h U;have:=e.mono b U;omega
def dR.pu (i:dR c a f d g):∀b,b<=a->f.getD b 0<=(d.length:Int):=by
 have k:∀e b,b+e=a->f.getD b 0<=(d.length:Int):=λe=>by
  have:=i.last
  induction e with
  |zero=>intro b h;obtain rfl:b=a:=h;omega
  |succ e j=>intro b h;have:=j (b+1) U;have:=i.mono b U;omega
 exactλb h=>k (a-b) b U
def AM (e:dR c a d f g):∀b,b<=a->(bU d f g b).length=(d.getD b 0).toNat:=λb=>by
 induction b with
 |zero=>intro _;have:=e.first;show 0=(d.getD 0 0).toNat;omega
 |succ b i=>
  intro l;have h:=i U;have j:=e.mono b U;have k:=e.pos b U;simp only[bU,jZ,ET,h];omega
def EU (i:dR c a f d g) (p:a<=200) (r:d.length<=10000):uu (((c:Int),(a:Int),f,d,g,()),())=some (bU f d g a,()):=by
 unfold uu;refine ac.eq_iff.1 ?_;dsimp only;refine ac.aX (P:=λl=>l=(bU f d g a,())) ?_ (by rintro _ rfl;exact ac.aj.2 rfl);refine ac.steps a (λb m=>m=((b:Int),bU f d g b,())) rfl ?_ ?_
 ·rintro b _ o rfl;have s:=i.len;obtain⟨h,n⟩:=Int.eq_ofNat_of_zero_le (i.pos b U);obtain⟨e,k⟩:=Int.eq_ofNat_of_zero_le (i.pos (b+1) U);have t:e<=d.length:=(by have:=i.pu (b+1) U;omega);have u:h<=e:=(by have:=i.mono b o;omega);have q:=AM i b U;have w:=i.val;dsimp only;rw[bw (aC (U:(b:Int)<(a:Int))),br U];refine ac.bs (y:=(h:Int)) (by rw[eO U,n]) ?_;refine ac.aX (P:=λl=>l=(bU f d g (b+1),())) ?_ (by rintro _ rfl;exact ac.aj.2 rfl);refine ac.steps (e-h) (λj m=>m=(((h+j:Nat):Int),bU f d g b++gu d g (b:Int) h j,())) (by simp[gu]) ?_ ?_
  ·rintro j _ v rfl;dsimp only;refine ac.bs (y:=(e:Int)) (by rw[eO U,k]) ?_;rw[bw (aC (U:((h+j:Nat):Int)<(e:Int)))];refine ac.bs (eO U) (ac.bs (eO U) ?_);rw[eF (by simp[ET];omega)];refine ac.aj.2 ?_;rw[br U,List.append_assoc];rfl
  rintro _ rfl;dsimp only;refine ac.bs (y:=(e:Int)) (by rw[eO U,k]) ?_;rw[bq (ay (U:¬((h+(e-h):Nat):Int)<(e:Int)))];refine ac.aj.2 ?_;show(_,())=(bU f d g b++gu d g (b:Int) (f.getD b 0).toNat ((f.getD (b+1) 0).toNat-(f.getD b 0).toNat),());rw[n,k];rfl
 rintro _ rfl;dsimp only;rw[bq (ay (U:¬((a:Int)<(a:Int))))];exact ac.aj.2 rfl
structure h9 (mr jg:Nat) (st lx pX:cP):Prop where
 hr:mr<=200
 hc:jg<=200
 hi:lx.length<=10000
 hs:st.length<=1000000
 hv:pX.length<=1000000
 hw:∀v∈pX,dN v
def h9.check (b:h9 c a f d g):o3 (((c:Int),(a:Int),f,d,g,()),())=some (gK c a f d g,()):=Oj b.hr b.hc b.hi b.hs b.hv b.hw
def h9.HM (b:h9 c a f d g):uP (((c:Int),(a:Int),f,d,g,()),())=some (gK c a f d g,()):=RE b.hr b.hc b.hi b.hs b.hv b.hw
def ll:gK c a g f d=0↔dR c a g f d/\iz d:=by
 unfold gK;constructor
 ·intro b;split at b
  ·split at b
   ·exact⟨by assumption,by assumption⟩
   omega
  omega
 rintro⟨e,h⟩;rw[al e,al h]
def Jv (b:h9 c a f d g) (e:gK c a f d g=0):xA (((c:Int),(a:Int),f,d,g,()),())=some (bU f d g a,()):=by unfold xA;refine ao b.check ?_;dsimp only;rw[e,dA,aC rfl];exact ao (EU (ll.1 e).1 b.hc b.hi) rfl
def fr (a b:bu):Prop:=a.2.1<b.2.1\/(a.2.1=b.2.1/\a.1<b.1)
def q2:s∈gu d f b c a↔∃e,e<a/\s=(d.getD (c+e) 0,b,f.getD (c+e) 0,()):=by
 induction a with
 |zero=>simp[gu]
 |succ a k=>
  simp only[gu,eI,k,eV];constructor
  ·rintro(⟨e,j,g⟩|i)
   ·exact⟨e,U,g⟩
   exact⟨a,U,i⟩
  rintro⟨e,j,g⟩;rcases bj e a with h|h
  ·exact .inl ⟨e,h,g⟩
  obtain rfl:e=a:=U;exact .inr g
def LR (h:∀g e,g<e->e<a->d.getD (c+g) 0<d.getD (c+e) 0):(gu d f b c a).Pairwise fr:=by
 induction a with
 |zero=>exact List.Pairwise.nil
 |succ a m=>
  refine List.pairwise_append.2 ⟨m λg e i p=>h g e i U,List.pairwise_singleton _ _,?_⟩;intro n j o k;obtain⟨e,l,rfl⟩:=q2.1 j;rw[eV.1 k];exact .inr ⟨rfl,h e a l U⟩
def vk:s∈bU d f g a↔∃b,b<a/\s∈gu f g (b:Int) (d.getD b 0).toNat ((d.getD (b+1) 0).toNat-(d.getD b 0).toNat):=by
 induction a with
 |zero=>simp[bU]
 |succ a j=>
  simp only[bU,eI,j];constructor
  ·rintro(⟨b,i,c⟩|h)
   ·exact⟨b,U,c⟩
   exact⟨a,U,h⟩
  rintro⟨b,i,c⟩;rcases bj b a with e|e
  ·exact .inl ⟨b,e,c⟩
  obtain rfl:b=a:=U;exact .inr c
def uV (k:dR c a d f g):∀b,b<=a->(bU d f g b).Pairwise fr:=by
 intro b
 induction b with
 |zero=>intro _;exact List.Pairwise.nil
 |succ b q=>
  intro p;have C:=k.pos b U;have D:=k.pos (b+1) p;refine List.pairwise_append.2 ⟨q U,LR ?_,?_⟩
  ·intro h i v w;have s:∀e,h+e<(d.getD (b+1) 0).toNat-(d.getD b 0).toNat->0<e->f.getD ((d.getD b 0).toNat+h) 0<f.getD ((d.getD b 0).toNat+(h+e)) 0:=by
    intro e
    induction e with
    |zero=>intro _ y;omega
    |succ e r=>
     intro x _;have m:=k.asc b ((d.getD b 0).toNat+(h+(e+1))) U U U;rw[(U:(d.getD b 0).toNat+(h+(e+1))-1=(d.getD b 0).toNat+(h+e))] at m;rcases hh e with j|j
     ·subst j;exact m
     have:=r U j;omega
   have:=s (i-h) U U;rwa[(U:h+(i-h)=i)] at this
  intro t l u o;obtain⟨n,z,l⟩:=vk.1 l;obtain⟨i,A,rfl⟩:=q2.1 l;obtain⟨E,B,rfl⟩:=q2.1 o;exact .inl (by show(n:Int)<(b:Int);omega)
def Q2 (a b:Int):wZ ([a,b],())=some (if a≠0 then a else b,()):=by
 unfold wZ;refine ac.eq_iff.1 ?_;dsimp only;refine ac.aX (P:=λf=>match f with|.inl _=>a=0/\b=0|.inr k=>k=(if a≠0 then a else b,())) ?_ ?_
 ·refine ac.steps 2 (λd l=>l=((d:Int),())/\(1<=d->a=0)/\(2<=d->b=0)) ⟨rfl,λh=>by omega,λh=>by omega⟩ ?_ ?_
  ·rintro d _ m ⟨rfl,g,i⟩;rcases(U:d=0\/d=1) with rfl|rfl
   ·show ac (bif a !=0 then _ else _) _;rw[dA];by_cases c:a=0
    ·rw[aC c];exact ac.aj.2 ⟨rfl,λ_=>c,λh=>by omega⟩
    rw[ay c];refine ac.aj.2 ?_;rw[al c]
   show ac (bif b !=0 then _ else _) _;have j:=g aa;rw[dA];by_cases c:b=0
   ·rw[aC c];exact ac.aj.2 ⟨rfl,λ_=>j,λ_=>c⟩
   rw[ay c];refine ac.aj.2 ?_;rw[ah (by simpa using j)]
  rintro _ ⟨rfl,g,i⟩;exact ac.aj.2 ⟨g aa,i aa⟩
 rintro(f|f) e
 ·obtain⟨rfl,rfl⟩:a=0/\b=0:=e;exact ac.aj.2 rfl
 have e:f=_:=e;rw[e];exact ac.aj.2 rfl
def LK {a:bu} (b:fr s a):xF (a,s,())=some (1,()):=by
 unfold xF;refine ao (Ao _ _) (ao (Ao _ _) (ao (Q2 _ _) ?_));dsimp only;congr 2;unfold dI;rcases b with b|⟨d,c⟩
 ·rw[ah (U:¬a.2.1<s.2.1),al b];rfl
 rw[ah (U:¬a.2.1<s.2.1),ah (U:¬s.2.1<a.2.1),ah ab,ah (U:¬a.1<s.1),al c]
def Np (j:q.length<=1000) (f:q.Pairwise fr) {lo:Nat} (g:lo<=a) (h:a<=q.length):ux (q,(lo:Int),(a:Int),(),())=some (q,()):=by
 unfold ux;refine ac.eq_iff.1 ?_;dsimp only;refine ac.aX (P:=λd=>d=(q,())) ?_ (by rintro _ rfl;exact ac.aj.2 rfl);refine ac.steps (a-lo-1) (λb c=>c=(((lo+1+b:Nat):Int),q,())) (by rw[br U]) ?_ ?_
 ·rintro b _ i rfl;dsimp only;rw[bw (aC (U:((lo+1+b:Nat):Int)<(a:Int)))];refine ac.aX (P:=λd=>d=(q,())) ?_ (by rintro _ rfl;refine ac.aj.2 ?_;dsimp only;rw[br U];rfl);refine ac.steps 0 (λ_ c=>c=(((lo+1+b:Nat):Int),q,())) rfl (λb c a=>by omega) ?_;rintro _ rfl;dsimp only;refine ac.bs (y:=.inr (.inr (q,()))) ?_ (ac.aj.2 rfl);rw[aC (U:((lo+1+b:Nat):Int)>(lo:Int))];have ai:ax (((lo+1+b:Nat):Int)-1)=((lo+b:Nat):Int):=(by rw[bf U U];omega);rw[beq_self_eq_true,cond_true,kS U,ai,kS U];have e:fr q[lo+b] q[lo+1+b]:=List.pairwise_iff_getElem.1 f _ _ U U U;exact ao (LK e) rfl
 rintro _ rfl;dsimp only;rw[bq (ay (U:¬((lo+1+(a-lo-1):Nat):Int)<(a:Int)))];exact ac.aj.2 rfl
def SK (h:q.length<=19) (f:q.Pairwise fr):xE (q,())=some (q,()):=by
 unfold xE;refine ao (y:=(q,())) ?_ ?_
 ·unfold Av;have c:((dd (([]:List bu).length+q.length)).bind λ_=>some (([]++q:List bu),()))=some (q,()):=by
   rw[eF (by simp;omega)];rfl
  show lz q.length (some ([],())) ((dd (([]:List bu).length+q.length)).bind λ_=>some (([]++q:List bu),()))=_;unfold lz;rw[c];split
  ·rename_i d;obtain rfl:=k7 d;rw[al rfl]
  rfl
 refine ao (y:=(q,())) ?_ rfl;unfold Az;refine ao (y:=(q,())) ?_ rfl;unfold AA;refine ac.eq_iff.1 ?_;dsimp only;refine ac.aX (P:=λb=>b=(0,q,())) ?_ ?_
 ·refine ac.steps 0 (λ_ a=>a=(0,20,q,())) rfl (λg a e=>by omega) ?_;rintro _ rfl;dsimp only;rw[bq (ay (show¬((20:Int)<=au q) by simp only[a1];omega))];exact ac.aj.2 rfl
 rintro _ rfl;refine ac.bs (Np (lo:=0) U f (Nat.zero_le _) (Nat.le_refl _)) ?_;refine ac.aX (P:=λb=>b=(q,())) ?_ (by rintro _ rfl;exact ac.aj.2 rfl);refine ac.steps 0 (λ_ a=>a=(20,q,())) rfl (λg a e=>by omega) ?_;rintro _ rfl;dsimp only;rw[bq (ay (show¬((20:Int)<au q) by simp only[a1];omega))];exact ac.aj.2 rfl
def gS (E:List bu) (a:Int):Nat:=(E.filter λb=>decide (b.2.1=a)).length
def e3 (E:List bu) (a:Int):Nat:=(E.filter λb=>decide (b.2.1<a)).length
def yO (d b:Nat) (E:List bu):bF:=((d:Int),(b:Int),aS (b+1) (λc=>(e3 E (c:Int):Int)),E.map (λa=>a.1),E.map (λa=>a.2.2.1),())
def Aj (E:List bu) (a:Int):e3 E (a+1)=e3 E a+gS E a:=by
 unfold e3 gS
 induction E with
 |nil=>rfl
 |cons b E d=>
  simp only[k8];rcases Int.lt_trichotomy b.2.1 a with c|c|c
  ·rw[al (by simpa using(by omega:b.2.1<a+1)),al (by simpa using c),ah (by simpa using(by omega:¬b.2.1=a))];simp only[g8];omega
  ·rw[al (by simpa using(by omega:b.2.1<a+1)),ah (by simpa using(by omega:¬b.2.1<a)),al (by simpa using c)];simp only[g8];omega
  rw[ah (by simpa using(by omega:¬b.2.1<a+1)),ah (by simpa using(by omega:¬b.2.1<a)),ah (by simpa using(by omega:¬b.2.1=a))];omega
def jR (c b:Nat) (E:List bu):Prop:=∀a∈E,0<=a.1/\a.1<(c:Int)/\0<=a.2.1/\a.2.1<(b:Int)
def Ex (E:List bu) (c:bu) (a:Int):gS (E++[c]) a=gS E a+if c.2.1=a then 1 else 0:=by
 unfold gS;rw[nw,jZ];congr 1;by_cases b:c.2.1=a
 ·rw[al b,wj (by simpa using b)];rfl
 rw[ah b,tx (by simpa using b)];rfl
def KS {E:List bu} (C:c<=200) (B:a<=200) (n:E.length<=19) (y:E.Pairwise fr) (t:jR c a E):xC ((c:Int),(a:Int),E,())=some (yO c a E,()):=by
 unfold xC;refine ac.eq_iff.1 ?_;dsimp only;rw[br U];refine ac.bs (hR U) (ac.bs (SK n y) ?_);dsimp only;refine ac.aX (P:=λr=>r=(((0:Int),((0:Int),([],([],([],()))))),((c:Int),(a:Int),aS (a+1) (λb=>if b=0 then(0:Int) else(gS E ((b:Int)-1):Int)),E.map (λe=>e.1),E.map (λe=>e.2.2.1),()),())) ?_ ?_
 ·refine ac.steps E.length (λd s=>s=((d:Int),((0:Int),((0:Int),([],([],([],()))))),((c:Int),(a:Int),aS (a+1) (λb=>if b=0 then(0:Int) else(gS (E.take d) ((b:Int)-1):Int)),(E.take d).map (λe=>e.1),(E.take d).map (λe=>e.2.2.1),()),E,())) ?_ ?_ ?_
  ·have j:(aS (a+1) λ_=>(0:Int))=aS (a+1) λb=>if b=0 then(0:Int) else(gS (E.take 0) ((b:Int)-1):Int):=fg λb l=>by split<;>rfl
   rw[mV,j];rfl
  ·rintro d _ k rfl;have q:=t E[d] (List.getElem_mem k);obtain⟨i,w⟩:=Int.eq_ofNat_of_zero_le q.2.2.1;dsimp only;rw[bw (aC (show(d:Int)<au E by simp only[a1];omega)),kS k];have ai:aZ E[d].2.1=((i+1:Nat):Int):=(by rw[w,br U]);have p:E.take (d+1)=E.take d++[E[d]]:=(by rw[List.take_add_one,List.getElem?_eq_getElem k];rfl);rw[eF (by simp;omega),Option.bind_some,eF (by simp;omega),Option.bind_some,ai];refine ac.bs (gU (by rw[dy];omega)) (ac.bs (iG U) (ac.bs (gU (by rw[dy];omega)) ?_));rw[iG U];refine ac.aj.2 ?_;have o:(aS (a+1) (λb=>if b=0 then(0:Int) else(gS (E.take d) ((b:Int)-1):Int))).set (i+1) (aZ (if i+1=0 then(0:Int) else(gS (E.take d) (((i+1:Nat):Int)-1):Int)))=aS (a+1) (λb=>if b=0 then(0:Int) else(gS (E.take (d+1)) ((b:Int)-1):Int)):=by
    rw[jh];refine fg λb l=>?_;have m:∀g,gS (E.take d) g<=19:=λg=>bt (jq _ _) (by rw[eD];omega);by_cases f:b=i+1
    ·subst f;rw[lG,ah U,ah U,br (by have:=m (((i+1:Nat):Int)-1);omega),p,Ex,al U]
    rw[lF _ _ f];by_cases h:b=0
    ·rw[al h,al h]
    rw[ah h,ah h,p,Ex,ah U,lT]
   dsimp only[Option.map_some];rw[br U,o,p,List.map_append,List.map_append];rfl
  rintro _ rfl;dsimp only;rw[bq (ay (show¬((E.length:Int)<au E) by simp only[a1];omega)),List.take_of_length_le (Nat.le_refl _)];exact ac.aj.2 rfl
 rintro _ rfl;dsimp only;refine ac.aX (P:=λr=>r=(((0:Int),((0:Int),([],([],([],()))))),yO c a E,())) ?_ (by rintro _ rfl;exact ac.aj.2 rfl);have x:∀g,e3 E g<=19:=λg=>Nat.le_trans (List.length_filter_le _ _) n;have m:∀g,gS E g<=19:=λg=>Nat.le_trans (List.length_filter_le _ _) n;have v:e3 E 0=0:=by
  unfold e3;rw[List.filter_eq_nil_iff.2]
  ·rfl
  intro e q;have:=t e q;simpa using this.2.2.1
 refine ac.steps a (λd s=>s=((d:Int),((0:Int),((0:Int),([],([],([],()))))),((c:Int),(a:Int),aS (a+1) (λb=>if b<=d then(e3 E (b:Int):Int) else(gS E ((b:Int)-1):Int)),E.map (λe=>e.1),E.map (λe=>e.2.2.1),()),())) ?_ ?_ ?_
 ·have j:(aS (a+1) λb=>if b=0 then(0:Int) else(gS E ((b:Int)-1):Int))=aS (a+1) (λb=>if b<=0 then(e3 E (b:Int):Int) else(gS E ((b:Int)-1):Int)):=fg λb l=>by
   by_cases f:b=0
   ·subst f;rw[al rfl,al (a2 _)];show(0:Int)=((e3 E 0:Nat):Int);rw[v];rfl
   rw[ah f,ah U]
  rw[j];rfl
 ·rintro d _ k rfl;dsimp only;rw[bw (aC (U:(d:Int)<(a:Int))),br U,kS (by rw[dy];omega),kS (by rw[dy];omega),iM,iM];refine ac.bs (gU (by rw[dy];omega)) ?_;rw[iG U];refine ac.aj.2 ?_;have o:(aS (a+1) (λb=>if b<=d then(e3 E (b:Int):Int) else(gS E ((b:Int)-1):Int))).set (d+1) (ax ((if d+1<=d then(e3 E ((d+1:Nat):Int):Int) else(gS E (((d+1:Nat):Int)-1):Int))+(if d<=d then(e3 E (d:Int):Int) else(gS E ((d:Int)-1):Int))))=aS (a+1) (λb=>if b<=d+1 then(e3 E (b:Int):Int) else(gS E ((b:Int)-1):Int)):=by
   rw[jh];refine fg λb l=>?_;by_cases f:b=d+1
   ·subst f;have u:=Aj E (d:Int);have z:=m (d:Int);have A:=x (d:Int);rw[lG,ah U,al (a2 _),al (a2 _),(U:(((d+1:Nat):Int)-1)=(d:Int)),bf U U,(U:((d+1:Nat):Int)=(d:Int)+1),u];omega
   rw[lF _ _ f];by_cases h:b<=d
   ·rw[al h,al U]
   rw[ah h,ah U]
  dsimp only[Option.map_some];rw[o]
 rintro _ rfl;dsimp only;rw[bq (ay (U:¬((a:Int)<(a:Int))))];have j:aS (a+1) (λb=>if b<=a then(e3 E (b:Int):Int) else(gS E ((b:Int)-1):Int))=aS (a+1) (λb=>(e3 E (b:Int):Int)):=fg λb l=>(by rw[if_pos U]);rw[j];exact ac.aj.2 rfl
def ia (b c:Int) (a:bu):Bool:=decide (a.2.1<b)||(decide (a.2.1=b)&&decide (a.1<c))
def D7 {a:bu} (c:fr s a) (g:ia e b a=true):ia e b s=true:=by
 unfold ia at*;simp only[gE,a5,decide_eq_true_eq] at*;rcases c with c|⟨d,f⟩
 ·omega
 omega
def E1 {j i:Int}:∀{E:List bu},E.Pairwise fr->E.filter (ia j i)=E.take (E.filter (ia j i)).length
 |[],_=>rfl
 |x::E,b=>by
  obtain⟨c,d⟩:=oG.1 b;by_cases a:ia j i x=true
  ·rw[wj a,g8,List.take_succ_cons];exact congrArg _ (E1 d)
  have e:E.filter (ia j i)=[]:=(by refine List.filter_eq_nil_iff.2 λh g f=>?_;exact a (D7 (c h g) f));rw[tx a,e];rfl
def KC {E:List bu} (d:jR c a E):E.filter (ia 0 0)=[]:=by refine List.filter_eq_nil_iff.2 λf e b=>?_;have:=d f e;unfold ia at b;simp only[gE,a5,decide_eq_true_eq] at b;omega
def D6 {E:List bu} (d:jR c a E) (b:Int):(E.filter (ia b 0)).length=e3 E b:=by unfold e3;congr 1;refine List.filter_congr λf e=>?_;have:=d f e;unfold ia;rw[np];simp only[gE,a5,decide_eq_true_eq];omega
def KD {j i:Int} {E:List bu} (g:E.Pairwise fr) (l:a<E.length):ia j i E[a]=true↔a<(E.filter (ia j i)).length:=by
 constructor
 ·intro b;have k:∀h∈E.take (a+1),ia j i h=true:=by
   intro h m;obtain⟨e,n,rfl⟩:=List.mem_take_iff_getElem.1 m;rcases bj e a with f|f
   ·exact D7 (hg.1 g e a U l f) b
   obtain rfl:e=a:=U;exact b
  have c:(E.take (a+1)).filter (ia j i)=E.take (a+1):=lN.2 k;have d:=(List.Sublist.filter (ia j i) (List.take_sublist (a+1) E)).length_le;rw[c,eD] at d;omega
 intro b;have c:=E1 (j:=j) (i:=i) g;have d:E[a]∈E.filter (ia j i):=(by rw[c];exact List.mem_take_iff_getElem.2 ⟨a,U,rfl⟩);exact(gp.1 d).2
def rX {E:List bu} (g:E.Pairwise fr) (e:jR k c E) (f:a<E.length) (b:Int):E[a].2.1<b↔a<e3 E b:=by have d:=KD (j:=b) (i:=0) g f;rw[D6 e] at d;rw[<-d];have:=e E[a] (dj f);unfold ia;simp only[gE,a5,decide_eq_true_eq];omega
def Et {E:List bu} (b:jR c a E):e3 E 0=0:=by rw[<-D6 b,KC b];rfl
def Es {E:List bu} (b:jR c a E):e3 E (a:Int)=E.length:=by unfold e3;rw[lN.2];intro e d;have:=b e d;simpa using this.2.2.2
def Mx {b:Nat->Int} (d:a<c):(aS c b).getD a 0=b a:=by rw[h5,ss d];rfl
def yx {E:List bu} (b:a<E.length):(E.map λc=>c.1).getD a 0=E[a].1:=by rw[h5,gn,bA b];rfl
def Fj {E:List bu} (b:a<E.length):(E.map λc=>c.2.2.1).getD a 0=E[a].2.2.1:=by rw[h5,gn,bA b];rfl
def rm (a:Nat) (E:List bu):cP:=aS (a+1) (λb=>(e3 E (b:Int):Int))
def pQ {E:List bu} (b:a<=c):(rm c E).getD a 0=(e3 E (a:Int):Int):=Mx U
def Ai (E:List bu) (a:Int):e3 E a<=E.length:=jq _ _
def S1 {E:List bu} (g:E.Pairwise fr) (e:jR c a E):dR c a (rm a E) (E.map λj=>j.1) (E.map λj=>j.2.2.1) where
 len:=dy _ _
 first:=by rw[pQ (eL _)];show((e3 E 0:Nat):Int)=0;rw[Et e];rfl
 mono:=λb k=>by rw[pQ U,pQ U,show((b+1:Nat):Int)=(b:Int)+1 from by omega,Aj];omega
 last:=by rw[pQ (a2 _),Es e,gR]
 val:=by simp
 rng:=λb d k h i=>by rw[pQ U] at h i;have f:d<E.length:=(by have:=Ai E ((b+1:Nat):Int);omega);rw[yx f];have:=e E[d] (dj f);exact⟨this.1,this.2.1⟩
 asc:=λb d k h i=>by rw[pQ U] at h i;have f:d<E.length:=(by have:=Ai E ((b+1:Nat):Int);omega);rw[yx f,yx U];have l:=rX g e f (b:Int);have m:=rX g e f ((b+1:Nat):Int);have n:=rX g e (U:d-1<E.length) (b:Int);have o:=rX g e (U:d-1<E.length) ((b+1:Nat):Int);have:=hg.1 g (d-1) d U f U;unfold fr at this;omega
def SH {mr jg:Nat} {E:List bu} (c:mr<=200) (b:jg<=200) (g:E.length<=10000) (e:∀a∈E,dN a.2.2.1):h9 mr jg (rm jg E) (E.map λa=>a.1) (E.map λa=>a.2.2.1) where
 hr:=c
 hc:=b
 hi:=by simp;omega
 hs:=by unfold rm;rw[dy];omega
 hv:=by simp;omega
 hw:=λh d=>by obtain⟨a,f,rfl⟩:=c4.1 d;exact e a f
def AL (c f:cP) (d:Int) (b a:Nat):gu c f d b a=aS a λe=>(c.getD (b+e) 0,d,f.getD (b+e) 0,()):=by
 induction a with
 |zero=>rfl
 |succ a g=>rw[gu,g,u0]
def LS {E:List bu} (l:E.Pairwise fr) (e:jR c a E):∀b,b<=a->bU (rm a E) (E.map λg=>g.1) (E.map λg=>g.2.2.1) b=E.take (e3 E (b:Int)):=by
 intro b
 induction b with
 |zero=>
  intro _;show[]=E.take (e3 E 0);rw[Et e];rfl
 |succ b q=>
  intro u;rw[bU,q U,pQ U,pQ U,AL,du,du];have n:e3 E ((b+1:Nat):Int)=e3 E (b:Int)+gS E (b:Int):=(by rw[show((b+1:Nat):Int)=(b:Int)+1 from by omega,Aj]);have o:=Ai E ((b+1:Nat):Int);have h:∀d,(f:d<E.length)->e3 E (b:Int)<=d->d<e3 E ((b+1:Nat):Int)->E[d].2.1=(b:Int):=λd f k m=>(by have s:=rX l e f (b:Int);have t:=rX l e f ((b+1:Nat):Int);omega);rw[n] at h o|-;generalize e3 E (b:Int)=i at*;generalize gS E (b:Int)=j at*;rw[lS,List.take_add];congr 1;have p:((E.drop i).take j).length=j:=(by rw[eD,kt];omega);refine List.ext_getElem (by rw[dy,p]) λr k m=>?_;rw[dy] at k;rw[iM,yx U,Fj U,List.getElem_take,List.getElem_drop,<-h (i+r) U U U]
def LU {E:List bu} (e:E.Pairwise fr) (d:jR c a E):bU (rm a E) (E.map λb=>b.1) (E.map λb=>b.2.2.1) a=E:=by rw[LS e d a (a2 _),Es d,dC (a2 _)]
def ME {E:List bu} (c:∀b∈E,a8 b.2.2.1≠2047):iz (E.map λb=>b.2.2.1):=by intro d a;rw[gR] at a;rw[Fj a];exact c _ (dj a)
def KZ {E:List bu} (f:E.Pairwise fr) (e:jR c a E) (d:∀b∈E,a8 b.2.2.1≠2047):gK c a (rm a E) (E.map λb=>b.1) (E.map λb=>b.2.2.1)=0:=
 ll.2 ⟨S1 f e,ME d⟩
def yk (e:dR c a d f g):jR c a (bU d f g a):=by intro n h;obtain⟨b,i,h⟩:=vk.1 h;obtain⟨j,k,rfl⟩:=q2.1 h;have l:=e.pos b U;have m:=e.pos (b+1) U;have:=e.rng b ((d.getD b 0).toNat+j) i U U;exact⟨this.1,this.2,by dsimp only;omega,by dsimp only;omega⟩
def sq (e:dR c a f g d) {i:Int->Prop} (k:∀m∈d,i m):∀j∈bU f g d a,i j.2.2.1:=by intro j h;obtain⟨b,n,h⟩:=vk.1 h;obtain⟨l,o,rfl⟩:=q2.1 h;have r:=e.pos b U;have s:=e.pos (b+1) U;have p:=e.pu (b+1) U;have q:=e.val;dsimp only;rw[iO (U:(f.getD b 0).toNat+l<d.length)];exact k _ (List.getElem_mem _)
def MD (c:iz d):∀b∈d,a8 b≠2047:=by intro b e;obtain⟨f,a,rfl⟩:=g9.1 e;have:=c f a;rwa[iO a] at this
def vh (a:bu):Bool:=decide (a.1>=a.2.1)
def gW (E:List bu):List bu:=E.filter vh
def yL {E:List bu} (a:E.Pairwise fr):(gW E).Pairwise fr:=List.Pairwise.sublist List.filter_sublist a
def yK {E:List bu} (b:jR c a E):jR c a (gW E):=λe d=>b e (gp.1 d).1
def F1 {E:List bu}:∀a∈gW E,a.2.1<=a.1:=λa b=>by have:=(gp.1 b).2;unfold vh at this;simpa using this
def IG {b:n->Bool} {E:List n} (d:a<E.length):(E.take (a+1)).filter b=(E.take a).filter b++(if b E[a]=true then[E[a]] else[]):=by
 rw[j1,bA d,nw];congr 1;show[E[a]].filter b=_;by_cases c:b E[a]=true
 ·rw[al c,wj c];rfl
 rw[ah c,tx c];rfl
def Gx:∀(a:cO) (b:Nat),a.Pairwise (· < ·)->(∀x∈a,x<b)->a.length<=b
 |[],_,_,_=>eL _
 |x::a,b,i,d=>by
  obtain⟨c,j⟩:=oG.1 i;have p:=d x ab;have:=Gx (a.map λf=>f-(x+1)) (b-(x+1)) (by
   rw[tC];refine List.Pairwise.imp_of_mem ?_ j;intro h m k o n;have:=c h k;omega) (by
   intro f l;obtain⟨g,e,rfl⟩:=c4.1 l;have:=c g e;have:=d g (by simp[e]);omega)
  rw[gR] at this;rw[g8];omega
def B0 (a:Int):Int:=if a=0 then 0 else if a=1 then 4 else if a=2 then 7 else if a=3 then 9 else 10
def F2 (s:a<=5) {E:List bu} (o:E.Pairwise fr) (c:jR a a E) (d:∀b∈E,b.2.1<=b.1):E.length<=15:=by
 have m:=Gx (E.map λb=>(B0 b.2.1+b.1).toNat) 15 (by
  rw[tC];refine List.Pairwise.imp_of_mem ?_ o;intro e f g h n;have k:=c e g;have q:=c f h;have l:=d e g;have r:=d f h;unfold fr at n;unfold B0;split<;>split<;>(try split)<;>(try split)<;>(try split)<;>(try split)<;>(try split)<;>(try split)<;>omega) (by
  intro t p;obtain⟨j,i,rfl⟩:=c4.1 p;have k:=c j i;have l:=d j i;unfold B0;split
  ·omega
  split
  ·omega
  split
  ·omega
  split<;>omega)
 rwa[gR] at m
def JH (n:a<=5) (b:h9 a a f d g) (m:gK a a f d g=0):xB (((a:Int),(a:Int),f,d,g,()),())=some (yO a a (gW (bU f d g a)),0,()):=by
 have h:=(ll.1 m).1;have j:=uV h a (Nat.le_refl _);have k:=yk h;have s:=F2 n (yL j) (yK k) F1;have r:(bU f d g a).length<=10000:=(by rw[AM h a (Nat.le_refl _)];have:=h.pu a (Nat.le_refl _);have:=b.hi;omega);unfold xB;refine ao b.check ?_;dsimp only;rw[m,dA,aC rfl];refine ao (EU h b.hc b.hi) ?_;dsimp only;generalize bU f d g a=E at*;refine ac.eq_iff.1 ?_;refine ac.aX (P:=λo=>o=(((0:Int),((0:Int),([],([],([],()))))),gW E,())) ?_ ?_
 ·refine ac.steps E.length (λc p=>p=((c:Int),((0:Int),((0:Int),([],([],([],()))))),gW (E.take c),E,())) rfl ?_ ?_
  ·rintro c _ l rfl;dsimp only;rw[bw (aC (show(c:Int)<au E by simp only[a1];omega)),kS l,br U];have q:(gW (E.take c)).length<=10000:=Nat.le_trans (List.length_filter_le _ _) (by rw[List.length_take];omega);unfold gW at*;rw[IG l];by_cases i:vh E[c]=true
   ·have e:=i;unfold vh at e;rw[bw e,al i,eF (by simp only[g8,oF];omega)];exact ac.aj.2 rfl
   have e:=i;unfold vh at e;rw[bq (by simpa using e),ah i,p7];exact ac.aj.2 rfl
  rintro _ rfl;dsimp only;rw[bq (ay (show¬((E.length:Int)<au E) by simp only[a1];omega)),List.take_of_length_le (Nat.le_refl _)];exact ac.aj.2 rfl
 rintro _ rfl;dsimp only;exact ac.bs (KS b.hr b.hc U (yL j) (yK k)) (ac.aj.2 rfl)
def po (b:cE) (a:cP):cC:=(List.range a.length).map λ(c:Nat)=>(List.range a.length).map λ(d:Nat)=>decide (a.getD d 0∈b.getD (a.getD c 0).toNat [])
def Bm (b:cE) (a:cP):(po b a).length=a.length:=by simp[po]
def Ec (b:a<d.length) (e:c<d.length):oT (po j d) a c=decide (d.getD c 0∈j.getD (d.getD a 0).toNat []):=by unfold oT po;simp[List.getD,b,e]
def Ah:jz j=0↔j.length<=200/\fj j:=by
 unfold jz;by_cases a:200<j.length
 ·rw[al a];constructor
  ·intro a;omega
  intro a;omega
 rw[ah a];by_cases b:fj j
 ·rw[al b];exact⟨λ_=>⟨U,b⟩,λ_=>rfl⟩
 rw[ah b];exact⟨λa=>by omega,λa=>absurd a.2 b⟩
section
section
variable {P Q:Nat->Prop} {k:Nat}
end
def Dl (n:Nat) (f:Nat->Int):Prop:=∀a,a<n->f a=-1\/((a:Int)<f a/\f a<n)
section
variable {n:Nat} {f:Nat->Int} (A:Dl n f)
include A
end
end
section
def fC (a:cO):cP:=a.map λ(b:Nat)=>(b:Int)
def Gv (a b:cO):fC (a++b)=fC a++fC b:=by simp[fC]
def sP (a:cO):(fC a).length=a.length:=by simp[fC]
section
variable {n:Nat} {f:Nat->Int} (A:Dl n f) (B:n<=200)
include A B
end
end
section
def l9 {b:List n} (d:a<b.length) (c:n):b.getD a c=b[a]:=by simp only[List.getD,bA d,rP]
section
variable {A:cE} (B:fj A) (C:A.length<=200)
include B C
end
end
structure qi {α:Type} (lt:α->α->Bool):Prop where
 KA:∀a b,lt a b=true->lt b a=false
 trans:∀a b c,lt b a=false->lt c b=false->lt c a=false
def qi.int:qi (λa b:Int=>decide (a<b)):=⟨λa b c=>by simp at c|-;omega,λa b f d e=>by simp at d e|-;omega⟩
def rD {b:Type} (g:b->b->Bool) (c:Nat->b) (e f:Nat):Prop:=∀d a,d<a->a<=e->a≠f->g (c a) (c d)=false
def qk {b:Type} (f:b->b->Bool) (c:Nat->b) (e:Nat):Prop:=∀d a,d<a->a<e->f (c a) (c d)=false
def swp {c:Type} (b:Nat->c) (a:Nat):Nat->c:=eT (eT b a (b (a-1))) (a-1) (b a)
def IF (b:Nat->n) (c:Nat):swp b a c=if c=a-1 then b a else if c=a then b (a-1) else b c:=rfl
def rD.swp {k:Type} {h:k->k->Bool} (m:qi h) {f:Nat->k} {j a:Nat} (g:rD h f j a) (q:0<a) (r:a<=j) (n:h (f a) (f (a-1))=true):rD h (swp f a) j (a-1):=by
 intro e b p i o;rw[IF,IF,ah o];by_cases c:b=a
 ·subst c;rw[al rfl];by_cases d:e=b-1
  ·rw[al d];exact m.KA _ _ n
  rw[ah d,ah U];exact g e (b-1) U U U
 rw[ah c];by_cases d:e=a-1
 ·rw[al d];exact g a b U i c
 rw[ah d];by_cases l:e=a
 ·rw[al l];exact g (a-1) b U i c
 rw[ah l];exact g e b p i c
def rD.done {e:n->n->Bool} (j:qi e) {d:Nat->n} (i:rD e d c a) (m:a<=c) (b:a=0\/e (d a) (d (a-1))=false):qk e d (c+1):=by
 intro g f l o;by_cases h:f=a
 ·subst h;rcases b with b|b
  ·omega
  by_cases k:g=f-1
  ·subst k;exact b
  exact j.trans _ _ _ (i g (f-1) U U U) b
 exact i g f l U h
def S6 {b:Nat->n} (g:0<a) (f:a<c):(aS c (swp b a)).Perm (aS c b):=by have d:a<(aS c b).length:=(by rw[dy];exact f);have e:a-1<(aS c b).length:=(by rw[dy];omega);have:=List.set_set_perm d e;rw[iM,iM,jh,jh] at this;exact this
def EZ [Inhabited n] (a:List n):a=aS a.length (λb=>a[b]?.getD default):=My a _ (λb c=>by simp[c])
def Nq (b:cP) (C:b.length<=1000):ac (xM (b,0,(b.length:Int),())) (λe=>∃a,e.1=aS b.length a/\qk (λf g=>decide (f<g)) a b.length/\e.1.Perm b):=by
 unfold xM;simp only[];generalize o:b.length=d at*;have u:IntKind.i64.wrap (0+1)=((1:Nat):Int):=(by rw[wrap64]<;>omega);rw[u];rcases hh d with z|w
 ·subst z;refine ac.aX (P:=λe=>e.1=b) ?_ ?_
  ·refine ac.loop (λk=>k=(((1:Nat):Int),b,())) (λ_=>0) rfl ?_;rintro _ rfl;simp only[bo];rw[ah U];exact ac.aj.2 rfl
  rintro⟨e,_⟩ rfl;refine ac.aj.2 ⟨λ_=>0,?_,λp q r s=>by omega,List.Perm.refl _⟩;show e=[];exact k7 o
 refine ac.aX (P:=λe=>∃a,e.1=aS d a/\qk (λf g=>decide (f<g)) a d/\e.1.Perm b) ?_ (λe y=>ac.aj.2 y);refine ac.for d (λi A=>∃a,A=(aS d a,())/\qk (λf g=>decide (f<g)) a i/\(aS d a).Perm b) rfl ⟨λi=>b[i]?.getD default,?_,λp q r s=>by omega,?_⟩ w ?_ ?_
 ·rw[<-o,<-EZ]
 ·rw[<-o,<-EZ]
 ·rintro i _ r s ⟨a,rfl,j,h⟩;simp only[bo];rw[al U];refine ac.aX (P:=λe=>∃a,e=(aS d a,())/\qk (λf g=>decide (f<g)) a (i+1)/\(aS d a).Perm b) ?_ ?_
  ·refine ac.loop (λk=>∃(c:Nat) (a:Nat->Int),k=((c:Int),aS d a,())/\c<=i/\rD (λf g=>decide (f<g)) a i c/\(aS d a).Perm b) (λk=>k.1.toNat) ⟨i,a,rfl,a2 _,λp q x E D=>j p q x U,h⟩ ?_;rintro _ ⟨c,a,rfl,n,m,h⟩;simp only[EA];by_cases t:0<c
   ·have B:c-1<d:=U;have v:c<d:=U;simp(disch:=omega) only[al,dy,Ji,gU,iG,aQ,Dh,bo];by_cases l:a c<a (c-1)
    ·rw[al l];simp(disch:=omega) only[aQ,dy,Ji,gU,iG,jh];refine ac.aj.2 ⟨⟨c-1,swp a c,rfl,U,m.swp qi.int t n (by simpa using l),(S6 t v).trans h⟩,?_⟩;show((c-1:Nat):Int).toNat<((c:Nat):Int).toNat;omega
    rw[ah l];exact ac.aj.2 ⟨a,rfl,m.done qi.int n (.inr (by simpa using l)),h⟩
   rw[ah U];exact ac.aj.2 ⟨a,rfl,m.done qi.int n (.inl U),h⟩
  rintro _ ⟨a,rfl,j,h⟩;simp(disch:=omega) only[rq];exact ac.aj.2 ⟨rfl,a,rfl,j,h⟩
 rintro _ ⟨a,rfl,j,h⟩;simp only[bo];rw[ah U];exact ac.aj.2 ⟨a,rfl,j,h⟩
def qk.pairwise {b:Nat->Int} (e:qk (λc d=>decide (c<d)) b a):(aS a b).Pairwise (· <= ·):=by rw[hg];intro h i j g f;rw[iM,iM];have:=e h i f (by simpa[dy] using g);simpa using this
def JE (a:Nat) (c:a<=12):∃b,At ((a:Int),())=some (b,()):=by
 have:a=0\/a=1\/a=2\/a=3\/a=4\/a=5\/a=6\/a=7\/a=8\/a=9\/a=10\/a=11\/a=12:=U;rcases this with rfl|rfl|rfl|rfl|rfl|rfl|rfl|rfl|rfl|rfl|rfl|rfl|rfl
 ·exact⟨0,by kernel_rfl⟩
 ·exact⟨1,by kernel_rfl⟩
 ·exact⟨2,by kernel_rfl⟩
 ·exact⟨2,by kernel_rfl⟩
 ·exact⟨3,by kernel_rfl⟩
 ·exact⟨3,by kernel_rfl⟩
 ·exact⟨3,by kernel_rfl⟩
 ·exact⟨3,by kernel_rfl⟩
 ·exact⟨4,by kernel_rfl⟩
 ·exact⟨4,by kernel_rfl⟩
 ·exact⟨4,by kernel_rfl⟩
 ·exact⟨4,by kernel_rfl⟩
 exact⟨4,by kernel_rfl⟩
def Re (a:cP) (c:Int) (j:a.length<=12):ac (xO (a,0,(a.length:Int),c,())) (λb=>b.1.Pairwise (· <= ·)/\b.1.Perm a):=by obtain⟨b,g,i,f,e,d⟩:=Nq a U;refine⟨b,?_,by rw[f];exact e.pairwise,d⟩;unfold xO;dsimp only;rw[N8];dsimp only;have h:IntKind.i64.wrap ((a.length:Int)-0)=((a.length:Nat):Int):=(by rw[Int.sub_zero];exact TN U);simp only[h,bo];rw[if_pos U,g];rfl
def JP (a:cP) (c:a.length<=12):ac (uw (a,())) (λb=>b.1.Pairwise (· <= ·)/\b.1.Perm a):=by unfold uw;simp only[];rw[Jh _ U U];obtain⟨d,e⟩:=JE a.length c;rw[e];simp only[aQ];exact ac.aX (Re a d c) (λb f=>ac.aj.2 f)
section
open Go
def Li (p:d.Pairwise (· <= ·)):(Lib.compact d).length<d.length↔¬d.Nodup:=by
 have n:(Lib.compact d).length=((List.range d.length).filter (Lib.keeps d.toArray)).length:=(by simp[Lib.compact,Lib.compactUpTo]);have l:(∀a,a<d.length->Lib.keeps d.toArray a=true)↔d.Nodup:=by
  have j:∀a,(b:a<d.length)->(Lib.keeps d.toArray a=true↔a=0\/d[a]≠d[a-1]):=λa b=>(by have g:a-1<d.length:=U;simp[Lib.keeps,b,g]);constructor
  ·intro b;have o:d.Pairwise (· < ·):=by
    rw[Ra];intro f i;have c:=(j (f+1) i).1 (b _ i);have g:=hg.1 p f (f+1) U i U;have q:d[f+1]≠d[f]:=by rcases c with c|c;omega;exact c
    omega
   exact o.imp (λb=>by omega)
  intro b a e;rw[j a e];by_cases k:a=0
  ·exact .inl k
  refine .inr λh=>?_;have:=(List.getElem_inj b).1 h;omega
 rw[<-l,n];have m:=jq (Lib.keeps d.toArray) (List.range d.length);rw[List.length_range] at m;constructor
 ·intro b g;rw[lN.2 (λa e=>g a (ha.1 e)),List.length_range] at b;omega
 intro b;rcases bj ((List.range d.length).filter (Lib.keeps d.toArray)).length d.length with c|c
 ·exact c
 refine absurd (λa e=>?_) b;have h:((List.range d.length).filter (Lib.keeps d.toArray)).length=(List.range d.length).length:=(by rw[List.length_range];omega);exact List.length_filter_eq_length_iff.1 h a (ha.2 e)
def Th (a:cP) (e:a.length<=12):xm (a,())=some (decide (¬a.Nodup),()):=by obtain⟨c,g,h,b⟩:=JP a e;have f:=b.length_eq;unfold xm v2;simp only[g,hl,aQ];rw[show Nat.ble a.length 1000000=true from Nat.ble_eq_true_of_le U];simp only[cond_true];rw[show Nat.ble c.1.length 1000000=true from Nat.ble_eq_true_of_le U];simp only[cond_true,hl];have d:decide ((Lib.compact c.1).length<a.length)=decide (¬a.Nodup):=(by rw[decide_eq_decide,<-f,Li h,b.nodup_iff]);rw[d]
def gX (a:Nat) (b:Nat->Nat->Bool):cC:=aS a λc=>aS a (b c)
def F8 (a:Nat) (b:Nat->Nat->Bool):(gX a b).length=a:=dy a _
def sL {d:Nat->Nat->Bool} (e:∀b c,b<a->c<a->m b c=d b c):gX a m=gX a d:=fg λb f=>fg λc g=>e b c f g
def Di (a:Nat) (g:a<=4294967296):uh ((a:Int),())=some (gX a λ_ _=>false,()):=by
 unfold uh;simp only[];rw[hR g];simp only[aQ];refine ao (y:=(gX a λ_ _=>false,())) (vf a (λc=>(aS a (λb=>if b<c then List.replicate a false else[]),())) 0 rfl ?_ (eL _) ?_ ?_) rfl
 ·rw[mV];simp
 ·intro c _ h;simp(disch:=omega) only[dy,ny,bo,al,aQ,gU,iG,jh,rq];congr 4;refine fg λb f=>?_;simp only[eT];by_cases d:b=c
  ·subst d;rw[al rfl,al U]
  rw[ah d];by_cases e:b<c
  ·rw[al e,al U]
  rw[ah e,ah U]
 simp only[ny,bo];rw[ah U];congr 2;refine congrArg (·,()) (fg λb f=>?_);rw[al f,mV]
def Df {n:Nat} {B:Nat->Nat->Bool} {i j:Nat} (o:i<n) (p:j<n):uk (gX n B,(i:Int),(j:Int),())=some (gX n (λb a=>B b a||(decide (i≠j)&&((decide (b=i)&&decide (a=j))||(decide (b=j)&&decide (a=i))))),()):=by
 unfold uk;simp only[dA];by_cases c:i=j
 ·subst c;simp only[decide_true,kp,cond_false];congr 2;exact sL λb a _ _=>by simp
 rw[ay (U:¬((i:Int)=(j:Int)))];unfold gX;simp(disch:=omega) only[lL,cond_true,dy,gU,aQ,iG,hl,jh];rw[show eT (λl=>aS n (B l)) i (aS n (eT (B i) j true)) j=aS n (B j) from lF _ _ (λf=>c f.symm)];simp(disch:=omega) only[dy,gU,aQ,iG,hl,jh];congr 2;refine fg λb m=>?_;simp only[eT];by_cases d:b=j
 ·rw[al d,d];refine fg λa k=>?_;simp only[eT];have h:¬j=i:=λf=>c f.symm;by_cases e:a=i
  ·simp[e,h,c]
  simp[e,h,c]
 rw[ah d];by_cases g:b=i
 ·subst g;rw[al rfl];refine fg λa k=>?_;simp only[eT];by_cases e:a=j
  ·simp[e,c]
  simp[e,d]
 rw[ah g];refine fg λa k=>?_;simp[d,g]
def JG (i:c<=4294967296) (f:a<c):xj (gX c m,(a:Int),())=some (fC ((List.range c).filter (m a)),()):=by
 unfold xj;simp only[];rw[show aL (gX c m) (a:Int)=some (aS c (m a)) from Fk f];simp only[aQ];refine ao (y:=(fC ((List.range c).filter (m a)),())) (vf c (λb=>(fC ((List.range b).filter (m a)),())) 0 rfl rfl (eL _) ?_ ?_) rfl
 ·intro b _ g;have h:(fC ((List.range b).filter (m a))).length<=b:=(by rw[sP];have:=jq (m a) (List.range b);simpa using this);have e:fC ((List.range (b+1)).filter (m a))=if m a b=true then fC ((List.range b).filter (m a))++[(b:Int)] else fC ((List.range b).filter (m a)):=by
   rw[oH,nw,Gv];by_cases d:m a b=true<;>simp[d,fC]
  simp(disch:=omega) only[dy,bo,al,Fk,aQ,rq];rw[e];by_cases d:m a b=true
  ·rw[al d,d,eF (by simp only[List.length_singleton];omega)];rfl
  rw[ah d,Bool.eq_false_iff.2 d];rfl
 simp only[dy,bo];rw[ah U]
def im (a:Nat) (b:Nat->Nat->Bool):cE:=aS a λc=>fC ((List.range a).filter (b c))
def Dd (g:a<=4294967296):uj (gX a m,())=some ((im a m,()),()):=by
 unfold uj;simp only[F8];rw[hR g];simp only[aQ];refine ao (y:=(([],()),(im a m,()),())) (vf a (λc=>(([],()),(aS a (λb=>if b<c then fC ((List.range a).filter (m b)) else[]),()),())) 0 rfl ?_ (eL _) ?_ ?_) rfl
 ·rw[mV];simp
 ·intro c _ h;simp(disch:=omega) only[bo,al,JG,aQ,dy,gU,iG,hl,jh,rq];congr 6;refine fg λb f=>?_;simp only[eT];by_cases d:b=c
  ·subst d;rw[al rfl,al U]
  rw[ah d];by_cases e:b<c
  ·rw[al e,al U]
  rw[ah e,ah U]
 simp only[bo];rw[ah U];have:(aS a λb=>if b<a then fC ((List.range a).filter (m b)) else[])=im a m:=fg λb f=>(by rw[al f]);rw[this]
end
section
open Go
def fc (a:cP) (b:Nat):Prop:=a.length=b/\(∀c∈a,0<=c/\c<(b:Int))/\a.Nodup
def od (a:cE) (b:cP):Int:=open Classical in if jz a≠0 then jz a else if b.length≠a.length then 2 else if fc b a.length then 0 else 90
def TG (d:cE) (c:Int):xn ((d,()),c,())=some (decide (0<=c/\c<(d.length:Int)),()):=by
 unfold xn;simp only[EA];by_cases b:c>=0
 ·rw[al b];congr 2;exact decide_eq_decide.2 ⟨λa=>⟨b,a⟩,λa=>a.2⟩
 rw[ah b,ay (λa=>b a.1)]
def Q6 (e:cE) (a:cP) (n:a.length<4611686018427387904):xK (a,(some (e,()),()),())=some (decide (¬∀d∈a,0<=d/\d<(e.length:Int)),()):=by
 classical
 unfold xK Ax;simp only[];rw[<-ac.eq_iff];have h:(∀d∈a,0<=d/\d<(e.length:Int))↔∀c,c<a.length->∀b:c<a.length,0<=a[c]/\a[c]<(e.length:Int):=
  ⟨λb c _ f=>b _ (dj f),λb d m=>by obtain⟨c,f,rfl⟩:=g9.1 m;exact b c f f⟩
 refine ac.aX (P:=λj=>decide (j.1>=0)=decide (¬∀d∈a,0<=d/\d<(e.length:Int))) ?_ (λj l=>ac.aj.2 (by rw[l]));refine ac.aX (N7 a.length (λc=>∀b:c<a.length,0<=a[c]/\a[c]<(e.length:Int)) ?_ ?_) ?_
 ·intro c f;simp(disch:=omega) only[bo,al,iP (bA f),aQ,rq];unfold Ar;simp only[aQ,TG];by_cases b:0<=a[c]/\a[c]<(e.length:Int)
  ·rw[aC b,al (λ_=>b)];rfl
  rw[ay b,ah (λk=>b (k f))];rfl
 ·simp(disch:=omega) only[bo,ah]
 rintro(i|i) g
 ·refine ac.aj.2 ?_;rw[ay aa,ay (λb=>b (h.2 g))]
 refine ac.aj.2 ?_;rw[aC (show i.1>=0 from g.1),aC (show¬∀d∈a,0<=d/\d<(e.length:Int) fromλb=>g.2 (h.1 b))]
def JL (i:∀n∈j,n.length<4611686018427387904) (a:cP) (l:j.length<=200->fj j->j.length<=12) (m:a.length<4611686018427387904):xi ((j,()),a,())=some (od j a,()):=by
 classical
 unfold xi od;simp only[C9 j i,aQ,dA];by_cases b:jz j=0
 ·obtain⟨k,h⟩:=Ah.1 b;have o:=l k h;rw[aC b];simp only[kp,cond_false,b,ne_eq,not_true_eq_false,if_false];by_cases f:a.length=j.length
  ·rw[aC (U:(((a.length:Nat):Int)=((j.length:Nat):Int)))];simp only[kp,cond_false,f,not_true_eq_false,if_false];rw[Q6 j a m];simp only[aQ];by_cases c:∀g∈a,0<=g/\g<(j.length:Int)
   ·rw[ay (not_not_intro c)];simp only[beq_self_eq_true,cond_true];rw[Th a U];simp only[aQ,bo];by_cases d:a.Nodup
    ·rw[ah (not_not_intro d),al ⟨f,c,d⟩]
    rw[al d,ah (λe=>d e.2.2)]
   rw[aC c,ah (λe=>c e.2.1)];rfl
  rw[ay (U:¬(((a.length:Nat):Int)=((j.length:Nat):Int)))];simp only[lL,cond_true,f,not_false_eq_true,if_true]
 rw[ay b];simp only[lL,cond_true,b,ne_eq,not_false_eq_true,if_true]
end
section
open Go
def mY (c:cE) (a:cP) (b d:Nat):Bool:=decide (a.getD d 0∈c.getD (a.getD b 0).toNat [])
def FD (r:fj j) (n:∀b∈d,0<=b/\b<(j.length:Int)) (l:a<d.length) (m:c<d.length):mY j d a c=mY j d c a:=by have i:=n _ (dj l);have k:=n _ (dj m);have p:∀b e:Int,0<=b/\b<(j.length:Int)->0<=e/\e<(j.length:Int)->e∈j.getD b.toNat []->b∈j.getD e.toNat []:=λb e t u h=>(by obtain⟨f,rfl⟩:∃f:Nat,b=(f:Int):=⟨b.toNat,U⟩;obtain⟨g,rfl⟩:∃g:Nat,e=(g:Int):=⟨e.toNat,U⟩;simp only[du] at h|-;have o:f<j.length:=U;have s:g<j.length:=U;rw[l9 o] at h;obtain⟨_,q⟩:=ey.symm r f g ⟨o,h⟩;rw[l9 s];exact q);unfold mY;rw[l9 l,l9 m];exact decide_eq_decide.2 ⟨p _ _ i k,p _ _ k i⟩
def MT (h:fj j) (i:∀f∈d,0<=f/\f<(j.length:Int)):im d.length (λc e=>decide (c≠e)&&mY j d c e)=il (po j d):=by unfold im il;rw[Bm];refine ht λk a=>?_;have a:=ha.1 a;unfold fC n1;refine congrArg _ (List.filter_congr λl b=>?_);have b:=ha.1 b;rw[Ec a b,Ec b a];have:=FD h i a b;unfold mY at this|-;rw[<-this,Bool.or_self];by_cases g:k=l<;>simp[g]
def Nn (u:fj j) (F:∀d∈j,d.length<4611686018427387904) (w:∀C∈d,0<=C/\C<(j.length:Int)) (K:d.length<=400):xl ((j,()),d,())=some ((il (po j d),()),()):=by
 generalize o:d.length=i at*
 let h:Nat->Nat->Nat->Nat->Bool:=λa b c e=>decide (c≠e)&&(mY j d c e&&((decide (c<a)&&decide (e<a))||((decide (c=a)&&decide (e<b))||(decide (e=a)&&decide (c<b)))))
 unfold xl;simp only[o];rw[Di i U];simp only[aQ];refine ao (y:=(([],()),gX i (h i 0),())) (vf i (λa=>(([],()),gX i (h a 0),())) 0 rfl ?_ (eL _) ?_ ?_) ?_
 ·refine congrArg (λl=>(([],()),l,())) (sL λc e _ _=>?_);simp[h]
 ·intro a _ I;have r:a<d.length:=U;have G:aL d (a:Int)=some d[a]:=iP (bA r);have g:=w _ (dj r);obtain⟨k,s⟩:∃k:Nat,d[a]=(k:Int):=⟨d[a].toNat,U⟩;have t:k<j.length:=U;simp(disch:=omega) only[bo,al,G,aQ,vt,o,yG,hl,s,mF];have B:(d.take a).length=a:=(by rw[eD];omega);refine ao (y:=(([],()),gX i (h a a),())) (vf a (λb=>(([],()),gX i (h a b),())) 0 rfl rfl (eL _) ?_ ?_) ?_
  ·intro b _ J;have v:b<d.length:=U;have H:aL (d.take a) (b:Int)=some d[b]:=iP (by rw[ks J];exact bA v);simp(disch:=omega) only[B,bo,al,H,aQ,rq];rw[Bp j k d[b] t (F _ (dj t)) ((Ka j).1 u k t).1];simp only[aQ,bo];have n:mY j d a b=decide (d[b]∈j[k]):=by
    unfold mY;rw[l9 r,l9 v,s,du,l9 t]
   have q:mY j d b a=decide (d[b]∈j[k]):=(by rw[<-n];exact FD u (by simpa[o] using w) v r);by_cases p:d[b]∈j[k]
   ·rw[al p,Df I U];simp only[aQ];refine congrArg (λl=>some (Sum.inl (((b+1:Nat):Int),([],()),l,()))) (sL λc e _ _=>?_);rw[aC p] at n q;simp only[h];rw[np];simp only[gE,a5,decide_eq_true_eq];constructor
    ·rintro(⟨g,f,m⟩|⟨g,⟨rfl,rfl⟩|⟨rfl,rfl⟩⟩)
     ·exact⟨g,f,U⟩
     ·exact⟨U,n,U⟩
     exact⟨U,q,U⟩
    rintro⟨g,f,m⟩;by_cases D:(c=a/\e=b)\/(c=b/\e=a)
    ·exact .inr ⟨U,D⟩
    exact .inl ⟨g,f,U⟩
   rw[ah p];simp only[aQ];refine congrArg (λl=>some (Sum.inl (((b+1:Nat):Int),([],()),l,()))) (sL λc e _ _=>?_);rw[ay p] at n q;simp only[h];rw[np];simp only[gE,a5,decide_eq_true_eq];constructor
   ·rintro⟨g,f,m⟩;exact⟨g,f,U⟩
   rintro⟨g,f,m⟩;refine⟨g,f,?_⟩;by_cases z:c=a/\e=b
   ·rw[z.1,z.2,n] at f;cases f
   by_cases A:c=b/\e=a
   ·rw[A.1,A.2,q] at f;cases f
   omega
  ·simp(disch:=omega) only[B,bo,ah]
  simp(disch:=omega) only[rq];refine congrArg (λl=>some (Sum.inl (((a+1:Nat):Int),([],()),l,()))) (sL λc e _ _=>?_);simp only[h];rw[np];simp only[gE,a5,decide_eq_true_eq];constructor
  ·rintro⟨g,f,m⟩;exact⟨g,f,U⟩
  rintro⟨g,f,m⟩;exact⟨g,f,U⟩
 ·simp(disch:=omega) only[bo,ah]
 rw[Dd U];simp only[aQ];have E:im i (h i 0)=im i (λc e=>decide (c≠e)&&mY j d c e):=(by refine fg λk s=>congrArg fC (List.filter_congr λL x=>?_);have x:=ha.1 x;simp[h,s,x]);rw[E,<-o,MT u (by simpa[o] using w)]
def JM (f:∀l∈j,l.length<4611686018427387904) (b:cP) (i:j.length<=200->fj j->j.length<=12) (k:b.length<4611686018427387904):ui ((j,()),b,())=some (if od j b=0 then((il (po j b),()),0,()) else(([],()),od j b,())):=by
 classical
 unfold ui;simp only[JL f b i k,aQ,dA];by_cases a:od j b=0
 ·rw[aC a,al a];simp only[kp,cond_false];have e:jz j=0:=by
   by_cases d:jz j=0
   ·exact d
   unfold od at a;rw[al d] at a;exact absurd a d
  obtain⟨m,h⟩:=Ah.1 e;have c:fc b j.length:=by
   unfold od at a;rw[ah (not_not_intro e)] at a;by_cases g:b.length=j.length
   ·rw[ah (not_not_intro g)] at a;by_cases c:fc b j.length
    ·exact c
    rw[ah c] at a;omega
   rw[al g] at a;omega
  rw[Nn h f c.2.1 (by have:=c.1;omega)];rfl
 rw[ay a,ah a];rfl
end
def iS (E:List bu) (b c:Nat):Bool:=E.any λa=>decide (a.1≠a.2.1)&&((decide ((b:Int)=a.1)&&decide ((c:Int)=a.2.1))||(decide ((b:Int)=a.2.1)&&decide ((c:Int)=a.1)))
def ro (E:List bu) (b c:Nat):Bool:=E.any λa=>decide ((b:Int)=a.1)&&decide ((c:Int)=a.2.1)
def Kl {b:n->Bool} {E:List n} (c:a<E.length):(E.take (a+1)).any b=((E.take a).any b||b E[a]):=by rw[j1,bA c,List.any_append];simp
def Ed (b:c<a) (d:k<a):oT (gX a m) c k=m c k:=by unfold oT gX;rw[h5,h5,ss b];show(aS a (m c))[k]?.getD false=_;rw[ss d];rfl
def MM (f:Nat) (d:Nat->Nat->Bool):il (gX f d)=im f λb c=>b !=c&&(d b c||d c b):=by unfold il;rw[F8];refine fg λb e=>?_;unfold n1 fC;congr 1;refine List.filter_congr λc a=>?_;have a:=ha.1 a;rw[Ed e a,Ed a e]
def Nx {E:List bu} (e f:Nat):(e !=f&&(ro E e f||ro E f e))=iS E e f:=by
 induction E with
 |nil=>simp[ro,iS]
 |cons h E g=>
  unfold ro iS at*;simp only[List.any_cons];rw[<-g,np];simp only[a5,gE,bne_iff_ne,decide_eq_true_eq];constructor
  ·rintro⟨d,(⟨b,c⟩|a)|(⟨b,c⟩|a)⟩
   ·exact .inl ⟨U,.inl ⟨b,c⟩⟩
   ·exact .inr ⟨d,.inl a⟩
   ·exact .inl ⟨U,.inr ⟨c,b⟩⟩
   exact .inr ⟨d,.inr a⟩
  rintro(⟨d,⟨b,c⟩|⟨b,c⟩⟩|⟨d,a|a⟩)
  ·exact⟨U,.inl (.inl ⟨b,c⟩)⟩
  ·exact⟨U,.inr (.inl ⟨c,b⟩)⟩
  ·exact⟨d,.inl (.inr a)⟩
  exact⟨d,.inr (.inr a)⟩
def JA (h:h9 a a f d g) (p:gK a a f d g=0):ug (((a:Int),(a:Int),f,d,g,()),())=some ((im a (iS (bU f d g a)),()),0,()):=by
 have m:=(ll.1 p).1;have u:=yk m;have y:(bU f d g a).length<=10000:=(by rw[AM m a (Nat.le_refl _)];have:=m.pu a (Nat.le_refl _);have:=h.hi;omega);unfold ug;refine ao h.check ?_;dsimp only;rw[p,dA,aC rfl,dA,aC rfl];have x:=h.hc;refine ao (Di a U) (ao (Jv h p) ?_);dsimp only;generalize bU f d g a=E at*;refine ac.eq_iff.1 ?_;refine ac.aX (P:=λv=>v=(([],()),gX a (iS E),())) ?_ ?_
 ·refine ac.steps E.length (λb w=>w=((b:Int),([],()),gX a (iS (E.take b)),E,())) rfl ?_ ?_
  ·rintro b _ o rfl;dsimp only;rw[bw (aC (show(b:Int)<au E by simp only[a1];omega)),kS o,br U];have t:=u E[b] (List.getElem_mem o);obtain⟨c,q⟩:=Int.eq_ofNat_of_zero_le t.1;obtain⟨e,r⟩:=Int.eq_ofNat_of_zero_le t.2.2.1;have s:=Df (n:=a) (B:=iS (E.take b)) (i:=c) (j:=e) U U;rw[<-q,<-r] at s;refine ac.bs s (ac.aj.2 ?_);dsimp only;have:gX a (λk l=>iS (E.take b) k l||(decide (c≠e)&&((decide (k=c)&&decide (l=e))||(decide (k=e)&&decide (l=c)))))=gX a (iS (E.take (b+1))):=by
    refine sL λz A _ _=>?_;unfold iS;rw[Kl o,q,r];congr 1;rw[np];simp only[a5,gE,decide_eq_true_eq];omega
   rw[this]
  rintro _ rfl;dsimp only;rw[bq (ay (show¬((E.length:Int)<au E) by simp only[a1];omega)),List.take_of_length_le (Nat.le_refl _)];exact ac.aj.2 rfl
 rintro _ rfl;dsimp only;exact ac.bs (Dd U) (ac.aj.2 rfl)
section
open Go
def iU (b:cP) (a:Nat):Nat:=(b.getD a 0).toNat
def fc.get {n:Nat} (c:fc d n) (f:a<n):aL d (a:Int)=some ((iU d a:Nat):Int)/\iU d a<n:=by have b:a<d.length:=(by rw[c.1];exact f);have g:=c.2.1 _ (dj b);have e:iU d a=d[a].toNat:=(by unfold iU;rw[l9 b]);exact⟨by rw[iP (bA b),e];congr 1;omega,U⟩
theorem fc.inj (b:fc d k) (h:a<k) (i:c<k) (e:iU d a=iU d c):a=c:=by have f:a<d.length:=(by rw[b.1];exact h);have g:c<d.length:=(by rw[b.1];exact i);have j:=b.2.1 _ (dj f);have l:=b.2.1 _ (dj g);unfold iU at e;rw[l9 f,l9 g] at e;exact(List.getElem_inj b.2.2).1 U
end
section
open Go
def O0:∀{n:Nat} {a:cO},a.Nodup->(∀b∈a,b<n)->a.length<=n:=by
 intro n
 induction n with
 |zero=>intro a _ c;cases a with
  |nil=>exact a2 _
  |cons h a=>exact absurd (c h (lR ..)) U
 |succ n l=>
  intro a e c;have j:(a.erase n).Nodup:=e.erase n;have k:∀b∈a.erase n,b<n:=λb g=>(by have d:=c b (List.mem_of_mem_erase g);have m:b≠n:=λi=>(by subst i;exact(e.mem_erase_iff.1 g).1 rfl);omega);have d:=l j k;by_cases f:n∈a
  ·rw[List.length_erase_of_mem f] at d;omega
  rw[List.erase_of_not_mem f] at d;omega
def Oo {b:cO}:(a:Int)∈fC b↔a∈b:=by
 unfold fC;rw[c4];constructor
 ·rintro⟨e,d,f⟩;obtain rfl:e=a:=U;exact d
 exactλc=>⟨a,c,rfl⟩
section
variable {A:cE} (B:fj A)
include B
end
end
section
open Go
def ya (A:cE) (a:Int):Nat:=(A.getD a.toNat []).length
section
variable {A:cE} (B:fj A) (C:A.length<=200)
include B C
end
end
section
open Go
def FV (a:cE) (b c:Int):Prop:=ya a b<ya a c\/(ya a b=ya a c/\b<c)
instance(a:cE) (b c:Int):Decidable (FV a b c):=by unfold FV;exact inferInstance
end
section
open Go
def eS (o:cP) (a:Nat):Nat:=o.idxOf (a:Int)
section
variable {o:cP} {n:Nat} (A:fc o n)
include A
theorem fc.mem (p:a<n):(a:Int)∈o:=by
 apply Classical.byContradiction;intro m;obtain⟨w,b,i⟩:=A;have h:o=fC (o.map Int.toNat):=by
  unfold fC;rw[qb]
  conv=>lhs;rw[<-List.map_id o]
  refine ht λg c=>?_;have:=b g c;simp only[id,Function.comp];omega
 have j:(o.map Int.toNat).Nodup:=(by rw[List.nodup_iff_pairwise_ne,tC];refine(hg.2 λr s e f k=>?_);have u:=b _ (dj e);have v:=b _ (dj f);have:=hg.1 (List.nodup_iff_pairwise_ne.1 i) r s e f k;omega);have l:a∉o.map Int.toNat:=λc=>m (by rw[h];exact Oo.2 c);have:=O0 (n:=n) (h7.2 ⟨l,j⟩) (λg d=>by
  rcases dk.1 d with rfl|d
  ·exact p
  obtain⟨t,q,rfl⟩:=c4.1 d;have:=b t q;omega)
 rw[g8,gR] at this;omega
theorem fc.pos (d:a<n):eS o a<n/\iU o (eS o a)=a:=by have c:=A.mem d;have b:eS o a<o.length:=List.idxOf_lt_length_iff.2 c;refine⟨by rw[<-A.1];exact b,?_⟩;unfold iU;rw[l9 b,show o[eS o a]=(a:Int) from List.getElem_idxOf b];simp
theorem fc.HD (b:a<n):eS o (iU o a)=a:=by have c:=(A.get b).2;obtain⟨d,e⟩:=A.pos c;exact A.inj d b e
end
section
variable {B:cE} (C:fj B) {o:cP} (A:fc o B.length)
include C A
end
end
def k3 (E:List bu) (b c:Int):Int:=match E.find? λa=>decide (a.1=b)&&decide (a.2.1=c) with
 |some a=>a.2.2.1
 |none=>0
def LX {E:List bu} (e:E.Pairwise fr) {b:bu} (h:s∈E) (i:b∈E) (j:s.1=b.1) (k:s.2.1=b.2.1):s=b:=by
 obtain⟨c,f,rfl⟩:=g9.1 h;obtain⟨d,g,rfl⟩:=g9.1 i;rcases qf c d with a|a|a
 ·have:=hg.1 e c d f g a;unfold fr at this;omega
 ·subst a;rfl
 have:=hg.1 e d c g f a;unfold fr at this;omega
def I9 {E:List bu} (f:E.Pairwise fr) (d:s∈E):k3 E s.1 s.2.1=s.2.2.1:=by
 unfold k3;cases a:E.find? λc=>decide (c.1=s.1)&&decide (c.2.1=s.2.1) with
 |none=>
  have:=wk.1 a s d;simp at this
 |some c=>
  have b:=List.find?_some a;have e:=List.mem_of_find?_eq_some a;simp only[Bool.and_eq_true,decide_eq_true_eq] at b;dsimp only;rw[LX f e d b.1 b.2]
def TB {E:List bu} (c:∀a∈E,¬(a.1=b/\a.2.1=e)):k3 E b e=0:=by unfold k3;rw[wk.2];intro a d;have:=c a d;simpa using this
def Ja {E:List bu} (f:(E++[s]).Pairwise fr) (b c:Int):k3 (E++[s]) b c=if s.1=b/\s.2.1=c then s.2.2.1 else k3 E b c:=by
 by_cases a:s.1=b/\s.2.1=c
 ·rw[al a,<-a.1,<-a.2,I9 f ab]
 rw[ah a];unfold k3;have e:List.find? (λd:bu=>decide (d.1=b)&&decide (d.2.1=c)) [s]=none:=(by refine wk.2 λd g=>?_;obtain rfl:=eV.1 g;simpa using a);rw[List.find?_append,e,Option.or_none]
def TA {E:List bu} (e:∀f∈E,dN f.2.2.1) (b c:Int):dN (k3 E b c):=by
 unfold k3;cases d:E.find? λa=>decide (a.1=b)&&decide (a.2.1=c) with
 |none=>exact⟨aa,aa⟩
 |some a=>exact e a (zN d)
def Ga (i:dR k c d f g) (m:a<c):s∈bU d f g c/\s.2.1=(a:Int)↔∃b:Nat,d.getD a 0<=(b:Int)/\(b:Int)<d.getD (a+1) 0/\s=(f.getD b 0,(a:Int),g.getD b 0,()):=by
 have t:=i.pos a U;have u:=i.pos (a+1) U;constructor
 ·rintro⟨e,j⟩;obtain⟨h,q,e⟩:=vk.1 e;obtain⟨n,r,rfl⟩:=q2.1 e;have l:h=a:=(by dsimp only at j;omega);subst l;exact⟨(d.getD h 0).toNat+n,U,U,rfl⟩
 rintro⟨b,o,p,rfl⟩;refine⟨vk.2 ⟨a,m,q2.2 ⟨b-(d.getD a 0).toNat,U,?_⟩⟩,rfl⟩;rw[(U:(d.getD a 0).toNat+(b-(d.getD a 0).toNat)=b)]
def HL (r:h9 k c f d g) (v:gK k c f d g=0) (n:Int) (q:a<c):nR (((k:Int),(c:Int),f,d,g,()),n,(a:Int),())=some (k3 (bU f d g c) n (a:Int),()):=by
 have h:=(ll.1 v).1;have C:=h.pos a U;have D:=h.pos (a+1) U;have K:=h.pu (a+1) U;have L:=h.val;have I:=h.mono a q;have H:=h.len;have G:=r.hi;have z:=uV h c (a2 _);have F:=r.hc;unfold nR;refine ao (y:=.inl ()) ?_ ?_
 ·refine ao r.HM ?_;dsimp only;rw[v,dA,aC rfl,ay (U:¬((a:Int)<0)),ay (U:¬((a:Int)>=(c:Int)))];rfl
 dsimp only;rw[eO (U:a<f.length),Option.bind_some];refine ac.eq_iff.1 ?_;obtain⟨e,B⟩:=Int.eq_ofNat_of_zero_le C;obtain⟨j,A⟩:=Int.eq_ofNat_of_zero_le D;have x:aL f (aZ (a:Int))=some (j:Int):=(by rw[br U,eO U,A]);rw[x,B];refine ac.aX (P:=λt=>(t=.inl ()/\∀b:Nat,e<=b->b<j->d.getD b 0≠n)\/∃b:Nat,e<=b/\b<j/\d.getD b 0=n/\t=.inr (g.getD b 0,())) ?_ ?_
 ·refine ac.steps (j-e) (λi E=>E=(((e+i:Nat):Int),())/\∀b:Nat,e<=b->b<e+i->d.getD b 0≠n) ⟨rfl,λb l o=>absurd o U⟩ ?_ ?_
  ·rintro i _ J ⟨rfl,p⟩;dsimp only;rw[Option.bind_some,bw (aC (U:((e+i:Nat):Int)<(j:Int)))];refine ac.bs (eO U) ?_;by_cases m:d.getD (e+i) 0=n
   ·rw[bw (by rw[m];simp)];refine ac.bs (eO U) (ac.aj.2 ?_);exact .inr ⟨e+i,U,U,m,rfl⟩
   rw[bq (by simpa using m),br U];refine ac.aj.2 ⟨rfl,λb l o=>?_⟩;rcases bj b (e+i) with u|u
   ·exact p b l u
   obtain rfl:b=e+i:=U;exact m
  rintro _ ⟨rfl,p⟩;dsimp only;rw[Option.bind_some,bq (ay (U:¬(((e+(j-e):Nat):Int)<(j:Int))))];exact ac.aj.2 (.inl ⟨rfl,λb l o=>p b l U⟩)
 rintro t (⟨rfl,p⟩|⟨b,l,o,m,rfl⟩)
 ·refine ac.aj.2 ?_;rw[TB];intro M s w;obtain⟨b,l,o,rfl⟩:=(Ga h q).1 ⟨s,w.2⟩;exact p b U U w.1
 refine ac.aj.2 ?_;have s:=((Ga h q).2 ⟨b,U,U,rfl⟩).1;have:=I9 z s;dsimp only at this;rw[m] at this;rw[this]
def Rr (g:a<d.length) (f:d[a]=(c:Int)) (e:(c:Int)∉d.take a):eS d c=a:=by unfold eS;have b:d=d.take a++(d[a]::d.drop (a+1)):=(by rw[List.getElem_cons_drop,kv]);rw[b,List.idxOf_append,ah e,f,List.idxOf_cons_self,eD];omega
def HC (H:a<=10000) (I:d.length<=1000000):x9 (d,(a:Int),())=some (open Classical in if fc d a then(aS a (λb=>(eS d b:Int)),true,()) else([],false,())):=by
 classical
 unfold x9;dsimp only;by_cases p:d.length=a
 ·rw[bq (by rw[dA,aC (show au d=(a:Int) by rw[a1,p])];rfl)];refine ao (hR U) (ao (hR U) ?_);refine ac.eq_iff.1 ?_;refine ac.aX (P:=λr=>(r=.inl (aS a (λb=>(eS d b:Int)),())/\fc d a)\/(r=.inr ([],false,())/\¬fc d a)) ?_ ?_
  ·refine ac.steps a (λc D=>D=((c:Int),aS a (λb=>if(b:Int)∈d.take c then(eS d b:Int) else 0),aS a (λb=>decide ((b:Int)∈d.take c)),())/\(∀g∈d.take c,0<=g/\g<(a:Int))/\(d.take c).Nodup) ?_ ?_ ?_
   ·refine⟨?_,ab,ab⟩;rw[mV,mV];simp
   ·rintro c _ G ⟨rfl,n,o⟩;dsimp only;rw[bw (aC (show(c:Int)<au d by rw[a1];omega)),da (U:c<d.length)];have u:d[c]'(by omega)∈d:=List.getElem_mem _
    have q:d.take (c+1)=d.take c++[d[c]'(by omega)]:=by rw[j1,bA U];rfl
    have j:∀g,g∈d.take (c+1)↔g∈d.take c\/g=d[c]'(by omega):=λg=>by rw[q,eI,eV]
    have A:(d.take (c+1)).Sublist d:=List.take_sublist _ _;have z:∀f:Nat,d[c]'(by omega)=(f:Int)->(f:Int)∉d.take c->eS d f=c:=λf=>Rr U
    generalize v:d[c]'(by omega)=b at*
    simp only[aQ];by_cases s:b<0
    ·rw[bq (show(decide (b<0)==false)=false by rw[aC s];rfl)];refine ac.aj.2 (.inr ⟨rfl,λh=>?_⟩);have:=h.2.1 b u;omega
    rw[bw (show(decide (b<0)==false)=true by rw[ay s];rfl)];by_cases t:b>=(a:Int)
    ·rw[bq (show(decide (b>=(a:Int))==false)=false by rw[aC t];rfl)];refine ac.aj.2 (.inr ⟨rfl,λh=>?_⟩);have:=h.2.1 b u;omega
    rw[bw (show(decide (b>=(a:Int))==false)=true by rw[ay t];rfl)];obtain⟨f,rfl⟩:=ea (U:0<=b);rw[kS (by rw[dy];omega),iM];by_cases l:(f:Int)∈d.take c
    ·simp only[aQ];rw[bw (aC l)];refine ac.aj.2 (.inr ⟨rfl,λh=>?_⟩);have:=List.Nodup.sublist A h.2.2;rw[q,hu] at this;exact this.2.2 _ l _ (eV.2 rfl) rfl
    simp only[aQ];rw[bq (ay l)];simp only[aQ];rw[k4 (by rw[dy];omega),jh,k4 (by rw[dy];omega),jh];refine ac.aj.2 ⟨?_,?_,?_⟩
    ·rw[br U];have:aS a (eT (λb=>decide ((b:Int)∈d.take c)) f true)=aS a (λb=>decide ((b:Int)∈d.take (c+1))):=by
      refine fg λk B=>?_;by_cases i:k=f
      ·subst i;rw[lG,aC ((j _).2 (.inr rfl))]
      rw[lF _ _ i];refine decide_eq_decide.2 ⟨λe=>(j _).2 (.inl e),λe=>((j _).1 e).resolve_right λe=>i U⟩
     rw[this];have:aS a (eT (λb=>if(b:Int)∈d.take c then(eS d b:Int) else 0) f (c:Int))=aS a (λb=>if(b:Int)∈d.take (c+1) then(eS d b:Int) else 0):=by
      refine fg λk B=>?_;by_cases i:k=f
      ·subst i;rw[lG,al ((j _).2 (.inr rfl)),z k rfl l]
      rw[lF _ _ i];have:(k:Int)∈d.take (c+1)↔(k:Int)∈d.take c:=⟨λe=>((j _).1 e).resolve_right λe=>i U,λe=>(j _).2 (.inl e)⟩;by_cases m:(k:Int)∈d.take c
      ·rw[al m,al (this.2 m)]
      rw[ah m,ah λe=>m (this.1 e)]
     rw[this]
    ·intro g C;rcases(j g).1 C with e|e
     ·exact n g e
     subst e;omega
    rw[q,hu];refine⟨o,ab,λE x F y w=>?_⟩;obtain rfl:=eV.1 y;exact l (w▸x)
   rintro _ ⟨rfl,n,o⟩;dsimp only;rw[bq (ay (show¬((a:Int)<au d) by rw[a1];omega))];rw[List.take_of_length_le U] at n o|-;have h:fc d a:=⟨p,n,o⟩;refine ac.aj.2 (.inl ⟨?_,h⟩);have:aS a (λb=>if(b:Int)∈d then(eS d b:Int) else 0)=aS a (λb=>(eS d b:Int)):=fg λb v=>if_pos (h.mem v);rw[this]
  rintro r (⟨rfl,e⟩|⟨rfl,e⟩)
  ·refine ac.aj.2 ?_;rw[al e]
  refine ac.aj.2 ?_;rw[ah e]
 rw[bw (by rw[dA,ay (show¬(au d=(a:Int)) by rw[a1];omega)];rfl),ah (λe=>p e.1)]
def pP (a b:Nat) (d c e f:cP):Int:=open Classical in if gK a b d c e≠0 then gK a b d c e else if a≠b then 5 else if fc f a then 0 else 90
def SO (b:pP a c g d t f=0):gK a c g d t=0/\a=c/\fc f a:=by
 unfold pP at b;split at b
 ·contradiction
 rename_i e;split at b
 ·cases b
 rename_i h;split at b
 ·rename_i i;exact⟨Classical.not_not.1 e,Classical.not_not.1 h,i⟩
 cases b
def JI (j:h9 a c g d t) (k:f.length<=1000000) (b:pP a c g d t f≠0):qE (((a:Int),(c:Int),g,d,t,()),f,())=some (none,pP a c g d t f,()):=by
 classical
 unfold qE;unfold pP at b|-;refine ao j.check ?_;dsimp only;have l:=j.hr;by_cases e:gK a c g d t=0
 ·rw[ah (not_not_intro e)] at b|-;rw[bq (by rw[e];rfl)];by_cases i:a=c
  ·subst i;rw[ah (not_not_intro rfl)] at b|-;rw[bq (by rw[dA,aC rfl];rfl)];refine ao (HC U k) ?_;by_cases h:fc f a
   ·exact absurd (al h) b
   rw[ah h,ah h];rfl
  rw[al i,bw (by rw[dA,ay (U:¬((a:Int)=(c:Int)))];rfl)]
 rw[al e,bw (by rw[dA,ay e];rfl)]
def kb (a:Nat) (E:List bu) (b:cP):cE:=il (po (im a (iS E)) b)
def MV (a:Nat) (b:Nat->Nat->Bool):∀d∈im a b,d.length<=a:=by intro d c;unfold im aS at c;obtain⟨e,_,rfl⟩:=c4.1 c;rw[sP];have:=jq (b e) (List.range a);simpa using this
def yw (a:Nat) (b:Nat->Nat->Bool):(im a b).length=a:=dy _ _
def MU (c:Nat) (E:List bu):im c (iS E)=il (gX c (ro E)):=by rw[MM];have:(λa b=>a !=b&&(ro E a b||ro E b a))=iS E:=(by funext a b;exact Nx a b);rw[this]
def Rg (e:a<=5) {E:List bu} (b:fc d a):od (im a (iS E)) d=0:=by unfold od;have c:jz (im a (iS E))=0:=Ah.2 ⟨by rw[yw];omega,by rw[MU];exact Fe _⟩;rw[ah (not_not_intro c),ah (not_not_intro (by rw[yw];exact b.1)),yw,al b]
def JN (e:a<=5) {E:List bu} (b:fc d a):ui ((im a (iS E),()),d,())=some ((kb a E d,()),0,()):=by rw[JM (λf c=>by have:=MV a _ f c;omega) d (λ_ _=>by rw[yw];omega) (by rw[b.1];omega),al (Rg e b)];rfl
def Fq {E:List bu} (b:fc d a):(kb a E d).length=a:=by unfold kb;rw[MK,Bm,b.1]
def M3 (a:Nat) (E:List bu) (b:cP):fj (kb a E b):=Fe _
def M2 (f:a<=5) {E:List bu} (e:fc d a):∀b∈kb a E d,b.length<4611686018427387904:=λb c=>by have:=ML _ b c;rw[Bm,e.1] at this;omega
def JC (s:a<=5) (q:h9 a a f d g) (k:gK a a f d g=0):ug (yO a a (gW (bU f d g a)),())=some ((im a (iS (gW (bU f d g a))),()),0,()):=by have b:=(ll.1 k).1;have m:=(ll.1 k).2;have h:=uV b a (a2 _);have i:=yk b;have t:=F2 s (yL h) (yK i) F1;have n:=sq b q.hw;have o:=sq b (MD m);have l:=yL h;have j:=yK i;have r:=SH (mr:=a) (jg:=a) (E:=gW (bU f d g a)) U U U (λe c=>n e (gp.1 c).1);have p:=KZ l j (λe c=>o e (gp.1 c).1);have:=JA r p;rw[LU l j] at this;exact this
def sp:bz:=(false,((false,([],())),((0:Int),())))
def LD:sp=a6 (some 0):=by rw[e4];rfl
def sT:bE 0=some 0:=by decide
def vi {k:Type}:∀(j:List (Int×k)) (c:Int) (e:k) (b:Int),dK (gh j c e) b=if b=c then some e else dK j b
 |[],c,e,b=>by
  show(if c=b then some e else none)=_;by_cases d:b=c
  ·rw[al d,al d.symm]
  rw[ah d,ah (λf=>d f.symm)];rfl
 |(a,u)::r,c,e,b=>by
  unfold gh;by_cases h:c<a
  ·rw[al h];show(if c=b then some e else dK ((a,u)::r) b)=_;by_cases d:b=c
   ·rw[al d,al d.symm]
   rw[ah d,ah (λf=>d f.symm)]
  rw[ah h];by_cases i:c=a
  ·rw[al i];show(if c=b then some e else dK r b)=_;by_cases d:b=c
   ·rw[al d,al d.symm]
   rw[ah d,ah (λf=>d f.symm)];show _=(if a=b then some u else dK r b);rw[ah U]
  rw[ah i];show(if a=b then some u else dK (gh r c e) b)=_;rw[vi r c e b];show _=if b=c then some e else(if a=b then some u else dK r b)
  by_cases g:a=b
  ·rw[al g,ah U,al g]
  rw[ah g,ah g]
abbrev gq:=Option (List (Int×bz)×Nat)
variable{p:List gq}
def hP (a b:Int):Int:=if b>a then b else a
def hA (a b:Int):Int:=if b<a then b else a
def bd (E:List bu) (a:cP) (b c:Nat):cJ:=bE (k3 E (hP (a.getD b 0) (a.getD c 0)) (hA (a.getD b 0) (a.getD c 0)))
def LW (E:List bu) (a:cP) (b c:Nat):bd E a b c=bd E a c b:=by unfold bd;rw[show hP (a.getD b 0) (a.getD c 0)=hP (a.getD c 0) (a.getD b 0) by unfold hP;split<;>split<;>omega,show hA (a.getD b 0) (a.getD c 0)=hA (a.getD c 0) (a.getD b 0) by unfold hA;split<;>split<;>omega]
structure hG (n:Nat) (o:cP) (D:List bu) (M:List gq):Prop where
 len:M.length=n
 get:∀p,p<n->∃l c,M[p]?=some (some (l,c))/\∀q,q<n->p<=q->(dK l (q:Int)).getD sp=a6 (bd D o p q)
def hG.nil:hG a d [] (aS a λ_=>some ([],0)) where
 len:=dy _ _
 get:=λc b=>⟨[],0,ss b,λe _ _=>by
  show sp=a6 (bE 0);rw[sT,LD]⟩
def y9 (e:fc d c) (f:a<c):d.getD a 0=(iU d a:Int)/\iU d a<c:=by have b:a<d.length:=(by rw[e.1];exact f);have:=e.2.1 d[a] (dj b);unfold iU;rw[iO b];omega
def Rt {i:Nat} (f:fc d i) {b:Nat} (r:b<i) (q:a<i) (u:a<=b) (l:c<i) (m:k<i) (v:c<=k):(hA (eS d b:Int) (eS d a:Int)=(c:Int)/\hP (eS d b:Int) (eS d a:Int)=(k:Int))↔(b:Int)=hP (d.getD c 0) (d.getD k 0)/\(a:Int)=hA (d.getD c 0) (d.getD k 0):=by
 obtain⟨s,w⟩:=y9 f l;obtain⟨aq,x⟩:=y9 f m;obtain⟨y,p⟩:=f.pos r;obtain⟨t,j⟩:=f.pos q;have n:=f.HD l;have o:=f.HD m;rw[s,aq];constructor
 ·rintro⟨g,h⟩;have:(eS d b=c/\eS d a=k)\/(eS d b=k/\eS d a=c):=by
   unfold hA at g;unfold hP at h;split at g<;>split at h<;>omega
  rcases this with⟨ai,e⟩|⟨ai,e⟩
  ·rw[ai] at p;rw[e] at j;unfold hP hA;split<;>split<;>omega
  rw[ai] at p;rw[e] at j;unfold hP hA;split<;>split<;>omega
 rintro⟨g,h⟩;have:(b=iU d c/\a=iU d k)\/(b=iU d k/\a=iU d c):=(by unfold hA at h;unfold hP at g;split at g<;>split at h<;>omega);rcases this with⟨ai,e⟩|⟨ai,e⟩
 ·rw[ai,e,n,o];unfold hP hA;split<;>split<;>omega
 rw[ai,e,n,o];unfold hP hA;split<;>split<;>omega
def hG.skip (b:hG a d q p) (l:(q++[s]).Pairwise fr) (r:s.1<s.2.1):hG a d (q++[s]) p where
 len:=b.len
 get:=λn i=>by obtain⟨m,f,g,h⟩:=b.get n i;refine⟨m,f,g,λo k j=>?_⟩;rw[h o k j];unfold bd;rw[Ja l,ah];rintro⟨c,e⟩;unfold hP at c;unfold hA at e;split at c<;>split at e<;>omega
def hG.add {l:Nat} (D:fc d l) (f:hG l d q p) {m:Nat} (F:(q++[((k:Int),(a:Int),b,())]).Pairwise fr) (E:k<l) (y:a<l) (z:a<=k) (B:(c:Int)=hA (eS d k:Int) (eS d a:Int)) (A:(m:Int)=hP (eS d k:Int) (eS d a:Int)) {G H:Nat} (v:p[c]?=some (some (u,G))):hG l d (q++[((k:Int),(a:Int),b,())]) (p.set c (some (gh u (m:Int) (a6 (bE b)),H))) where
 len:=by rw[List.length_set,f.len]
 get:=λg r=>by
  have C:c<p.length:=(ec.1 v).1;have w:∀e,e<l->g<=e->a6 (bd (q++[((k:Int),(a:Int),b,())]) d g e)=if c=g/\m=e then a6 (bE b) else a6 (bd q d g e):=by
   intro e j i;have:=Rt D E y z r j i;unfold bd;rw[Ja F];rw[<-B,<-A] at this;by_cases h:c=g/\m=e
   ·rw[al h,al (this.1 ⟨U,U⟩)]
   rw[ah h,ah (λf=>h (by have:=this.2 f;omega))]
  by_cases h:g=c
  ·subst h;refine⟨_,_,jY C,λe j i=>?_⟩;rw[vi,w e j i];by_cases t:m=e
   ·subst t;rw[al rfl,al ⟨rfl,rfl⟩];rfl
   rw[ah U,ah (λf=>t f.2)];obtain⟨x,s,n,o⟩:=f.get g r;rw[v] at n;cases n;exact o e j i
  obtain⟨x,s,n,o⟩:=f.get g r;refine⟨x,s,?_,λe j i=>?_⟩
  ·rw[kr (λf=>h f.symm),n]
  rw[w e j i,ah (λf=>h f.1.symm),o e j i]
def JJ (B:a<=5) (q:h9 a a g f d) (x:gK a a g f d=0) (r:fc t a):∃b,hG a t (bU g f d a) b/\qE (((a:Int),(a:Int),g,f,d,()),t,())=some (some ((a:Int),(kb a (gW (bU g f d a)) t,()),b,()),0,()):=by
 have j:=(ll.1 x).1;have ad:=uV j a (a2 _);have an:=yk j;have a4:=r.1;have ap:=sq j q.hw;suffices p:ac (qE (((a:Int),(a:Int),g,f,d,()),t,())) λh=>∃b,hG a t (bU g f d a) b/\h=(some ((a:Int),(kb a (gW (bU g f d a)) t,()),b,()),0,()) by obtain⟨h,O,b,Q,rfl⟩:=p;exact⟨b,Q,O⟩
 unfold qE;refine ac.bs q.check ?_;dsimp only;rw[bq (by rw[x];rfl),bq (by rw[dA,aC rfl];rfl)];refine ac.bs (HC U U) ?_;rw[if_pos r];dsimp only;rw[Bool.not_true,cond_false];refine ac.bs (JH B q x) (ac.bs (JC B q x) (ac.bs (JN B r) ?_));dsimp only;generalize am:kb a (gW (bU g f d a)) t=o;refine ac.bs (hR U) ?_;generalize T:(((a:Int),(a:Int),g,f,d,()):bF)=N;refine ac.aX (P:=λh=>h=(N,((a:Int),(o,()),aS a (λ_=>(some ([],0):gq)),()),())) ?_ ?_
 ·refine ac.steps a (λn s=>s=((n:Int),N,((a:Int),(o,()),aS a (λk=>if k<n then(some ([],0):gq) else none),()),())) ?_ ?_ ?_
  ·rw[mV];rfl
  ·rintro n _ S rfl;dsimp only;rw[bw (aC (show(n:Int)<au (List.replicate a (none:gq)) by rw[a1,List.length_replicate];omega)),br U];refine ac.bs (gU (by rw[dy];omega)) ?_;rw[iG S,jh];refine ac.aj.2 ?_;have:aS a (eT (λk=>if k<n then(some ([],0):gq) else none) n (some ([],0)))=aS a (λk=>if k<n+1 then(some ([],0):gq) else none):=by
    refine fg λk D=>?_;by_cases v:k=n
    ·subst v;rw[lG,al U]
    rw[lF _ _ v];by_cases F:k<n
    ·rw[al F,al U]
    rw[ah F,ah U]
   dsimp only[Option.map_some];rw[this]
  rintro _ rfl;dsimp only;rw[bq (ay (show¬((a:Int)<au (List.replicate a (none:gq))) by rw[a1,List.length_replicate];omega))];have:aS a (λk=>if k<a then(some ([],0):gq) else none)=aS a (λ_=>(some ([],0):gq)):=fg λk D=>if_pos D;rw[this];exact ac.aj.2 rfl
 rintro _ rfl;dsimp only;refine ac.aX (P:=λh=>∃b,hG a t (bU g f d a) b/\h=(((a:Int),(o,()),b,()),())) ?_ (by rintro _ ⟨b,p,rfl⟩;exact ac.aj.2 ⟨b,p,rfl⟩);subst T;refine ac.steps a (λc s=>∃b,hG a t (bU g f d c) b/\s=((c:Int),((a:Int),(a:Int),g,f,d,()),((a:Int),(o,()),b,()),())) ⟨_,hG.nil,rfl⟩ ?_ ?_
 ·rintro c _ w ⟨b,l,rfl⟩;have z:=j.len;obtain⟨e,J⟩:=Int.eq_ofNat_of_zero_le (j.pos c U);obtain⟨m,A⟩:=Int.eq_ofNat_of_zero_le (j.pos (c+1) U);have a0:m<=f.length:=(by have:=j.pu (c+1) U;omega);have a3:e<=m:=(by have:=j.mono c w;omega);have D:=j.val;have av:=q.hi;dsimp only;rw[bw (aC (U:(c:Int)<(a:Int))),br U];refine ac.bs (y:=(e:Int)) (by rw[eO U,J]) ?_;have K:bU g f d (c+1)=bU g f d c++gu f d (c:Int) e (m-e):=by
   rw[bU,J,A];rfl
  have W:(bU g f d (c+1)).Pairwise fr:=uV j (c+1) U;refine ac.aX (P:=λh=>∃b,hG a t (bU g f d (c+1)) b/\h=(((a:Int),(a:Int),g,f,d,()),((a:Int),(o,()),b,()),())) ?_ (by rintro _ ⟨b,p,rfl⟩;exact ac.aj.2 ⟨b,p,rfl⟩);refine ac.steps (m-e) (λi s=>∃b,hG a t (bU g f d c++gu f d (c:Int) e i) b/\s=(((e+i:Nat):Int),((a:Int),(a:Int),g,f,d,()),((a:Int),(o,()),b,()),())) ⟨b,by simpa[gu] using l,rfl⟩ ?_ ?_
  ·rintro i _ bl ⟨b,l,rfl⟩;dsimp only;refine ac.bs (y:=(m:Int)) (by rw[eO U,A]) ?_;rw[bw (aC (U:((e+i:Nat):Int)<(m:Int)))];have V:=j.rng c (e+i) w U U;obtain⟨h,C⟩:=Int.eq_ofNat_of_zero_le V.1;have M:(bU g f d c++gu f d (c:Int) e i++[((h:Int),(c:Int),d.getD (e+i) 0,())]).Pairwise fr:=by
    refine List.Pairwise.sublist ?_ W;rw[K,k6];refine List.Sublist.append (List.Sublist.refl _) ?_;have:gu f d (c:Int) e i++[((h:Int),(c:Int),d.getD (e+i) 0,())]=gu f d (c:Int) e (i+1):=(by rw[gu,C]);rw[this,AL,AL,<-Mz (m-e) (i+1) _ U];exact List.take_sublist _ _
   have R:bU g f d c++gu f d (c:Int) e (i+1)=bU g f d c++gu f d (c:Int) e i++[((h:Int),(c:Int),d.getD (e+i) 0,())]:=(by rw[k6,gu,C]);rw[R];refine ac.aX (P:=λZ=>∃b,hG a t (bU g f d c++gu f d (c:Int) e i++[((h:Int),(c:Int),d.getD (e+i) 0,())]) b/\Z=(((a:Int),(a:Int),g,f,d,()),((a:Int),(o,()),b,()),())) ?_ ?_
   ·refine ac.bs (y:=(h:Int)) (by rw[eO U,C]) ?_;rw[bo];refine ac.ite (λv=>?_) (λv=>?_)
    ·have L:h<a:=U;refine ac.bs (by rw[da (by rw[dy];omega),iM]) (ac.bs (by rw[da (by rw[dy];omega),iM]) ?_);obtain⟨u,G,H⟩:∃u:Nat,(u:Int)=hA (eS t h:Int) (eS t c:Int)/\u<a:=by
      have:=(r.pos L).1;have:=(r.pos w).1;unfold hA;split
      ·exact⟨_,rfl,U⟩
      exact⟨_,rfl,U⟩
     obtain⟨E,I⟩:∃E:Nat,(E:Int)=hP (eS t h:Int) (eS t c:Int):=by
      unfold hP;split
      ·exact⟨_,rfl⟩
      exact⟨_,rfl⟩
     change ac ((bL b.length (hA (eS t h:Int) (eS t c:Int))).bind _) _;rw[<-G];refine ac.bs (gU (by rw[l.len];exact H)) ?_;refine ac.bs (eO U) ?_;refine ac.bs (vx (q.hw _ (by rw[iO U];exact List.getElem_mem _))) ?_;dsimp only;obtain⟨Y,X,z,_⟩:=l.get u H;refine ac.bs (nD z) ?_;change ac ((n4 (some (Y,X)) (hP (eS t h:Int) (eS t c:Int)) _).bind _) _;rw[<-I];refine ac.bs rfl ?_;rw[nD z];exact ac.aj.2 ⟨_,l.add r M L w U G I z,rfl⟩
    exact ac.aj.2 ⟨b,l.skip M (by dsimp only;omega),rfl⟩
   rintro _ ⟨b,p,rfl⟩;dsimp only;rw[br U];exact ac.aj.2 ⟨b,p,rfl⟩
  rintro _ ⟨b,l,rfl⟩;dsimp only;refine ac.bs (y:=(m:Int)) (by rw[eO U,A]) ?_;rw[bq (ay (U:¬((e+(m-e):Nat):Int)<(m:Int)))];exact ac.aj.2 ⟨b,by rw[K];exact l,rfl⟩
 rintro _ ⟨b,l,rfl⟩;dsimp only;rw[bq (ay (U:¬((a:Int)<(a:Int))))];exact ac.aj.2 ⟨b,l,rfl⟩
def Sl {E:List bu} (m:hG k d E p) (f:a<k) (l:c<k):x8 (some ((k:Int),(j,()),p,()),(a:Int),(c:Int),())=some (a6 (bd E d a c),()):=by
 unfold x8;dsimp only;rw[Option.bind_some];have g:∀b e:Nat,b<k->e<k->b<=e->((aL p (b:Int)).bind λt=>some (((hB (α:=bz) t (e:Int)).getD (false,((false,([],())),((0:Int),())))),()))=some (a6 (bd E d b e),()):=(by intro b e q s r;obtain⟨v,u,n,o⟩:=m.get b q;refine ao (iP n) ?_;have:=o e s r;rw[<-this];rfl);by_cases h:(c:Int)<(a:Int)
 ·rw[al h,ah U,LW];exact g c a l f U
 rw[ah h];by_cases i:(c:Int)>(a:Int)
 ·rw[al i];exact g a c f l U
 rw[ah i];obtain rfl:a=c:=U;exact g a a f f (a2 _)
def yX (c:a8 b≠2047):∃e,bE b=some e:=by
 have ai:=uZ b;have g:=sr b;unfold bE;rw[ah c];unfold ed;generalize a:(if b<9223372036854775808 then if a8 b=0 then dE b else dE b+4503599627370496 else-(if a8 b=0 then dE b else dE b+4503599627370496))=d;have f:aw d.natAbs<=53:=bY.2 (by
  have:(2:Nat)^53=9007199254740992:=aa;rw[this];split at a<;>split at a<;>omega)
 split
 ·exact⟨_,rfl⟩
 rw[ah (by split<;>omega)];exact⟨_,rfl⟩
def OI:jH (some 0) (some b)=some 0:=by show ed (aR 0*aR b) _=some 0;rw[sS,jW];rfl
def OJ:jH (some b) (some 0)=some 0:=by show ed (aR b*aR 0) _=some 0;rw[sS,Int.mul_zero];rfl
def jL (a:Nat->Nat->Int) (c d b:Nat):cJ:=n9 (jH (bE (a b c)) (bE (a b d)))
def gA (c:Nat->Nat->cJ) (d:Nat->Nat->Int) (a b:Nat):cJ:=e1 (c b a::(List.range a).map (jL d b a))
def j6 (b:Nat->Nat->cJ) (e:Nat->Nat->Bool) (d:Nat->Nat->Int) (a c:Nat):Int:=
 if c=a then kT (gA b d a a) 0 else if e a c=true then m7 (gA b d a c) (bE (kT (gA b d a a) 0)) 0 else 0
def sI (a:Nat->Nat->cJ) (b:Nat->Nat->Bool):Nat->Nat->Nat->Int
 |0=>λ_ _=>0
 |j+1=>λd c=>if d=j then j6 a b (sI a b j) j c else sI a b j d c
def a9 (b:Nat->Nat->cJ) (d:Nat->Nat->Bool) (a c:Nat):Int:=sI b d (a+1) a c
def BF {b:Nat->Nat->cJ} {f:Nat->Nat->Bool} {a e:Nat}:∀{j},a<j->sI b f j a e=a9 b f a e
 |0,d=>absurd d U
 |j+1,d=>by
  by_cases c:a=j
  ·subst c;rfl
  rw[<-BF (j:=j) U];show(if a=j then _ else _)=_;rw[ah c]
def Ip {e l':Nat->Nat->Int} {i:Nat} (d:∀b,b<a->∀i,e b i=l' b i):gA h e a i=gA h l' a i:=by unfold gA;congr 2;refine ht λb c=>?_;have c:=ha.1 c;unfold jL;rw[d b c,d b c]
def md (a:Nat->Nat->cJ) (c:Nat->Nat->Bool) (b d:Nat):a9 a c b d=j6 a c (a9 a c) b d:=by show(if b=b then j6 a c (sI a c b) b d else sI a c b b d)=_;rw[al rfl];unfold j6;rw[Ip (l':=a9 a c) (λf e d=>BF e),Ip (i:=d) (l':=a9 a c) (λf e d=>BF e)]
def pA (a:Nat->Nat->cJ) (d:Nat->Nat->Bool) (c b:Nat):dN (a9 a d c b):=by
 rw[md];unfold j6;split
 ·exact RY 0
 split
 ·exact Rz 0
 exact⟨aa,aa⟩
def sJ (b:m c a=false) (d:a≠c):a9 h m c a=0:=by rw[md];unfold j6;rw[ah d,ah (by rw[b];decide)]
def IC {g:Type} {c:g->cJ} {e:g->Bool}:∀{L:List g},(∀m∈L,e m=false->c m=some 0)->dr ((L.filter e).map c)=dr (L.map c)/\fa ((L.filter e).map c)=fa (L.map c)
 |[],_=>⟨rfl,rfl⟩
 |m::L,h=>by
  obtain⟨i,j⟩:=IC (L:=L) λl k=>h l (by simp[k]);by_cases f:e m=true
  ·rw[wj f,eH,eH];have ai:∀a b,dr (a::b)=dr [a]+dr b:=λa b=>vZ [a] b;have d:∀a b,fa (a::b)=(fa [a]&&fa b):=λa b=>wG [a] b;rw[ai,ai _ (L.map c),d,d _ (L.map c),i,j];exact⟨rfl,rfl⟩
  rw[tx f,eH,h m ab (by simpa using f)];have ai:∀a b,dr (a::b)=dr [a]+dr b:=λa b=>vZ [a] b;have d:∀a b,fa (a::b)=(fa [a]&&fa b):=λa b=>wG [a] b;rw[ai,d,i,j];refine⟨?_,?_⟩
  ·show _=(0:Int)+0+_;omega
  show _=(true&&true&&_);simp
def ID {c:n->cJ} {f:n->Bool} {b:List n} (g:∀e∈b,f e=false->c e=some 0):e1 (i::(b.filter f).map c)=e1 (i::b.map c):=by obtain⟨h,j⟩:=IC g;have ai:∀i a,dr (i::a)=dr [i]+dr a:=λi a=>vZ [i] a;have d:∀i a,fa (i::a)=(fa [i]&&fa a):=λi a=>wG [i] a;unfold e1;rw[ai,ai _ (b.map c),d,d _ (b.map c),h,j]
def aU (a:cE) (c b:Nat):Bool:=decide ((b:Int)∈be a c)
def HH:aU j c a=true↔a<j.length/\iB j c a:=by unfold aU;rw[decide_eq_true_eq,BK]
def vE {G:cE} {j:Nat} (a:j<G.length):aU G j j=true:=HH.2 ⟨a,.inl rfl⟩
def tY {G:cE} {j:Nat} {x:Int} (b:x∈be G j):∃a:Nat,x=(a:Int)/\a<G.length/\j<=a/\aU G j a=true:=by have d:=b;unfold be jf at b;obtain⟨a,e,rfl⟩:=c4.1 b;have c:=BK.1 d;exact⟨a,rfl,c.1,c.2.le,HH.2 c⟩
def Ez {G:cE} {j:Nat} (i:j<G.length):∃b,be G j=(j:Int)::b/\∀g∈b,(j:Int)<g:=by
 have a:(j:Int)∈be G j:=BK.2 ⟨i,.inl rfl⟩;have f:=Am G j;cases d:be G j with
 |nil=>rw[d] at a;cases a
 |cons h b=>
  rw[d] at a f;obtain⟨e,k⟩:=oG.1 f;rcases dk.1 a with c|c
  ·subst c;exact⟨b,rfl,e⟩
  have:=e _ c;obtain⟨m,rfl,_,l,_⟩:=tY (G:=G) (j:=j) (x:=h) (by rw[d];simp);omega
def tX {G:cE} (a:Nat):(be G a).length<=G.length:=Ey _ _ _
def fE (b:cE) (d a:Nat):cP:=fC ((List.range (min d a)).filter λc=>aU b c a)
def KE (D:a<=5) (t:j.length=a) (u:fj j) (v:∀z∈j,z.length<4611686018427387904) (s:List gq):wT (some ((a:Int),(j,()),s,()),())=some ((aS a (be j),(aS a λ_=>[]),(aS a λ_=>none),(aS a λb=>fE j a b),()),()):=by
 unfold wT;dsimp only;rw[Option.bind_some];refine ao (Js u v U) ?_;rw[t];refine ao rfl (ao (hR U) (ao rfl (ao (hR U) (ao rfl (ao (hR U) ?_)))));refine ac.eq_iff.1 ?_;dsimp only;have w:(List.range a).map (be j)=aS a (be j):=rfl;rw[w];refine ac.aX (P:=λi=>i=((aS a (be j),(aS a λ_=>[]),(aS a λ_=>none),(aS a λb=>fE j a b),()),())) ?_ (by rintro _ rfl;exact ac.aj.2 rfl);refine ac.steps a (λc d=>d=((c:Int),(aS a (be j),(aS a λ_=>[]),(aS a λ_=>none),(aS a λb=>fE j c b),()),())) ?_ ?_ ?_
 ·rw[mV,mV];have:(aS a λ_=>([]:cP))=aS a λb=>fE j 0 b:=fg λb _=>by
   unfold fE;rw[Nat.zero_min];rfl
  rw[<-this];rfl
 ·rintro c _ F rfl;dsimp only;rw[bw (aC (show(c:Int)<au (aS a (be j)) by rw[a1,dy];omega)),br U];refine ac.bs (by rw[da (by rw[dy];omega),iM]) ?_;have C:=tX (G:=j) c;have x:∀c b,(fE j c b).length<=b:=λc b=>by
   unfold fE;rw[sP];refine bt (jq _ _) ?_;rw[List.length_range];omega
  refine ac.aX (P:=λi=>i=((aS a (be j),(aS a λ_=>[]),(aS a λ_=>none),(aS a λb=>fE j (c+1) b),()),())) ?_ (by rintro _ rfl;exact ac.aj.2 rfl);refine ac.steps (be j c).length (λd A=>A=((d:Int),(aS a (be j),(aS a λ_=>[]),(aS a λ_=>none),(aS a λb=>fE j c b++if(b:Int)∈(be j c).take d/\c<b then[(c:Int)] else[]),()),())) ?_ ?_ ?_
  ·have:(aS a λb=>fE j c b)=aS a λb=>fE j c b++if(b:Int)∈(be j c).take 0/\c<b then[(c:Int)] else[]:=fg λb _=>by simp
   rw[<-this];rfl
  ·rintro d _ n rfl;dsimp only;rw[bw (aC (show(d:Int)<au (be j c) by rw[a1];omega)),br U];obtain⟨g,r,J,H,E⟩:=tY (List.getElem_mem n);have q:(be j c).take (d+1)=(be j c).take d++[(g:Int)]:=(by rw[List.take_add_one,List.getElem?_eq_getElem n,r];rfl);have o:(g:Int)∉(be j c).take d:=λe=>by
    obtain⟨B,I,h⟩:=List.mem_take_iff_getElem.1 e;have:=hg.1 (Am j c) B d U n U;omega
   refine ac.aX (P:=λi=>i=((aS a (be j),(aS a λ_=>[]),(aS a λ_=>none),(aS a λb=>fE j c b++if(b:Int)∈(be j c).take (d+1)/\c<b then[(c:Int)] else[]),()),())) ?_ (by rintro _ rfl;exact ac.aj.2 rfl);refine ac.bs (y:=(g:Int)) (by rw[da n,r]) ?_;have p:∀b:Nat,b≠g->((b:Int)∈(be j c).take (d+1)↔(b:Int)∈(be j c).take d):=λb m=>(by rw[q,eI,eV];exact⟨λe=>e.resolve_right λe=>m U,.inl⟩);rw[bo];refine ac.ite (λk=>?_) (λk=>?_)
   ·refine ac.bs (gU (by rw[dy];omega)) ?_;rw[iG U,aQ,ah (λe=>o e.1),p7];have:=x c g;rw[eF (by simp;omega),aQ];refine ac.bs (gU (by rw[dy];omega)) ?_;rw[bw ab];rw[iG U,aQ,ah (λe=>o e.1),p7,iG U,jh];refine ac.aj.2 ?_;have:aS a (eT (λb=>fE j c b++if(b:Int)∈(be j c).take d/\c<b then[(c:Int)] else[]) g (fE j c g++[(c:Int)]))=aS a λb=>fE j c b++if(b:Int)∈(be j c).take (d+1)/\c<b then[(c:Int)] else[]:=by
     refine fg λb m=>?_;by_cases h:b=g
     ·subst h;rw[lG,al ⟨by rw[q];simp,U⟩]
     rw[lF _ _ h];have:=p b h;by_cases f:(b:Int)∈(be j c).take d/\c<b
     ·rw[al f,al ⟨this.2 f.1,f.2⟩]
     rw[ah f,ah λe=>f ⟨this.1 e.1,e.2⟩]
    rw[<-this]
   refine ac.aj.2 ?_;have:(aS a λb=>fE j c b++if(b:Int)∈(be j c).take d/\c<b then[(c:Int)] else[])=aS a λb=>fE j c b++if(b:Int)∈(be j c).take (d+1)/\c<b then[(c:Int)] else[]:=by
    refine fg λb m=>?_;by_cases h:b=g
    ·subst h;rw[ah U,ah U]
    have:=p b h;by_cases f:(b:Int)∈(be j c).take d/\c<b
    ·rw[al f,al ⟨this.2 f.1,f.2⟩]
    rw[ah f,ah λe=>f ⟨this.1 e.1,e.2⟩]
   rw[<-this]
  rintro _ rfl;dsimp only;rw[bq (ay (show¬(((be j c).length:Nat):Int)<au (be j c) by rw[a1];omega)),List.take_of_length_le (Nat.le_refl _)];refine ac.aj.2 ?_;have:(aS a λb=>fE j c b++if(b:Int)∈be j c/\c<b then[(c:Int)] else[])=aS a λb=>fE j (c+1) b:=by
   refine fg λb m=>?_;unfold fE;by_cases k:c<b
   ·rw[fW U,fW U,oH,nw,Gv];congr 1;by_cases l:(b:Int)∈be j c
    ·rw[al ⟨l,k⟩,wj (by unfold aU;exact aC l)];rfl
    rw[ah (λe=>l e.1),tx (by unfold aU;simpa using l)];rfl
   rw[Nat.min_eq_right U,Nat.min_eq_right U,ah (λe=>k e.2),p7]
  rw[this]
 rintro _ rfl;dsimp only;rw[bq (ay (show¬((a:Int)<au (aS a (be j))) by rw[a1,dy];omega))];exact ac.aj.2 rfl
def lM (d:Nat->Nat->cJ) (b:cE) (e:Nat):Prop:=∀a,a<e->∀c,aU b a c=true->a8 (a9 d (aU b) a c)≠2047
def lM.of (c:lM h j a) {m i:Nat} (d:m<a) (f:m<i):∃e,bE (a9 h (aU j) m i)=some e:=by
 by_cases b:aU j m i=true
 ·exact yX (c m d i b)
 rw[sJ (by simpa using b) U,sT];exact⟨0,rfl⟩
def IJ (d:lM h j a) {i:Nat} (e:c<a) (m:a<=i) (b:aU j c i=false\/aU j c a=false):jL (a9 h (aU j)) i a c=some 0:=by
 unfold jL;obtain⟨k,f⟩:=d.of e (i:=i) U;obtain⟨l,g⟩:=d.of e (i:=a) U;rcases b with b|b
 ·rw[sJ b U,sT,g,OI];rfl
 rw[sJ b U,sT,f,OJ];rfl
structure jQ (A:Nat->Nat->cJ) (G:cE) (n j:Nat) (X:List gq):Prop where
 len:X.length=n
 get:∀m,m<j->∃l c,X[m]?=some (some (l,c))/\∀i,i<n->dK l (i:Int)=if aU G m i=true then some (a6 (bE (a9 A (aU G) m i))) else none
def Tc (c:Nat->Nat->Int) (a b d:Nat):dx (jL c a b d):=BS (vq _ _)
def CG (a:Nat->Nat->cJ) (d:Nat->Nat->Int) (c b:Nat):dx (gA a d c b):=CR _
def Iq {g:Nat} (T:g<=5) {f:cP} {E:List bu} {q:List gq} (I:hG g f E q) {e D:cE} {b:Nat} (x:b<g) (v:lM (bd E f) e b) {r:List gq} (J:jQ (bd E f) e g b r) (O:cE) (G:cE) {c:Nat} (w:c<g) (z:b<=c):ua (some (G,O,r,(aS g λc=>fE e g c),()),some ((g:Int),(D,()),q,()),(c:Int),(b:Int),())=some (a6 (gA (bd E f) (a9 (bd E f) (aU e)) b c),()):=by
 unfold ua;refine ao (Sl I w x) ?_;refine ao rfl ?_;refine ao (by rw[da (by rw[dy];omega),iM]) ?_;dsimp only;have M:fE e g b=fC ((List.range b).filter λa=>aU e a b):=(by unfold fE;rw[Nat.min_eq_right U]);rw[M];generalize l:(List.range b).filter (λa=>aU e a b)=d;have u:∀a∈d,a<b/\aU e a b=true:=λa i=>(by rw[<-l] at i;exact⟨List.mem_range.1 (List.mem_filter.1 i).1,(List.mem_filter.1 i).2⟩);have S:d.length<=5:=by rw[<-l];refine Nat.le_trans (List.length_filter_le _ _) ?_;rw[List.length_range];omega
 let Q:=bd E f
 let j:=jL (a9 (bd E f) (aU e)) c b
 refine ac.eq_iff.1 ?_;refine ac.aX (P:=λp=>p=(sp,(bd E f c b::(d.filter λa=>aU e a c).map j).map a6,())) ?_ ?_
 ·refine ac.steps d.length (λh N=>N=((h:Int),sp,(bd E f c b::((d.take h).filter λa=>aU e a c).map j).map a6,())) rfl ?_ ?_
  ·rintro h _ n rfl;dsimp only;rw[bw (aC (show(h:Int)<au (fC d) by rw[a1,sP];omega)),br U];refine ac.aX (P:=λp=>p=(sp,(bd E f c b::((d.take (h+1)).filter λa=>aU e a c).map j).map a6,())) ?_ (by rintro _ rfl;exact ac.aj.2 rfl);obtain⟨K,L⟩:=u d[h] (List.getElem_mem n);refine ac.bs (y:=((d[h]:Nat):Int)) (by rw[da (by rw[sP];exact n)];simp[fC]) ?_;rw[IG n];generalize d[h]=a at*;obtain⟨C,F,s,t⟩:=J.get a K;refine ac.bs rfl (ac.bs (iP s) ?_);have A:∀B:Nat,hB (α:=bz) (some (C,F)) (B:Int)=dK C (B:Int):=λ_=>rfl;rw[A c,t c w];by_cases k:aU e a c=true
   ·rw[al k,al k,wq,cond_true];refine ac.bs rfl (ac.bs (iP s) ?_);rw[A b,t b x,al L];refine ac.bs (LA (ji _) (ji _)) (ac.bs (LB (vq _ _)) ?_);have:((d.take h).filter λa=>aU e a c).length<=5:=by
     refine bt (jq _ _) ?_;rw[eD];omega
    rw[eF (by simp;omega)];refine ac.aj.2 ?_;rw[h6,<-h3,h6];rfl
   rw[ah k,ah k,Option.isSome_none,cond_false,p7];exact ac.aj.2 rfl
  rintro _ rfl;dsimp only;rw[bq (ay (show¬((d.length:Int)<au (fC d)) by rw[a1,sP];omega)),List.take_of_length_le (Nat.le_refl _)];exact ac.aj.2 rfl
 rintro _ rfl;dsimp only;refine ac.bs (LC ?_ ?_) (ac.aj.2 ?_)
 ·intro R m;rcases dk.1 m with rfl|m
  ·exact ji _
  obtain⟨a,_,rfl⟩:=c4.1 m;exact Tc _ _ _ _
 ·have:=jq (λa=>aU e a c) d;simp only[g8,gR];omega
 have ai:e1 (bd E f c b::(d.filter λa=>aU e a c).map j)=e1 (bd E f c b::d.map j):=ID λa i o=>IJ v (u a i).1 z (.inl o);have H:e1 (bd E f c b::d.map j)=e1 (bd E f c b::(List.range b).map j):=(by rw[<-l];exact ID λa i o=>IJ v (ha.1 i) z (.inr o));rw[ai,H];rfl
def fi (c:Nat->Nat->cJ) (a:cE) (b:Nat):cP:=(be a b).map λd=>a9 c (aU a) b d.toNat
def fb (b:Nat->Nat->cJ) (c:cE) (a:Nat):Int:=open Classical in if lC (gA b (a9 b (aU c)) a a)<=0\/qU (a9 b (aU c) a a)=0 then 231 else if∀d,aU c a d=true->a8 (a9 b (aU c) a d)≠2047 then 0 else 233
def kw (d:Nat->Nat->cJ) (e:cE) (i b:Nat) (f:cP) (g:List gq):Prop:=∃c h,g[b]?=some (some (c,h))/\∀a,a<i->dK c ((a:Nat):Int)=if((a:Nat):Int)∈f then some (a6 (bE (a9 d (aU e) b a))) else none
def jQ.set {b:Nat->Nat->cJ} {c:cE} {f a:Nat} {d:List gq} (e:jQ b c f a d) (m:gq):jQ b c f a (d.set a m) where
 len:=by rw[List.length_set,e.len]
 get:=λl j=>by obtain⟨k,g,h,i⟩:=e.get l j;exact⟨k,g,by rw[kr U,h],i⟩
def jQ.next (f:jQ h j c a p) (n:kw h j c a (be j a) p):jQ h j c (a+1) p where
 len:=f.len
 get:=λd q=>by
  rcases bj d a with e|e
  ·exact f.get d e
  obtain rfl:d=a:=U;obtain⟨o,i,k,l⟩:=n;refine⟨o,i,k,λg m=>?_⟩;rw[l g m];unfold aU;by_cases b:(g:Int)∈be j d
  ·rw[al b,al (aC b)]
  rw[ah b,ah (by simpa using b)]
def kw.one {b:Nat->Nat->cJ} {c:cE} {i a:Nat} {d:List gq} (g:a<d.length) (e:Nat):kw b c i a [(a:Int)] (d.set a (some (gh [] (a:Int) (a6 (bE (a9 b (aU c) a a))),e))):=by
 refine⟨_,_,jY g,λh j=>?_⟩;rw[vi];by_cases f:h=a
 ·subst f;rw[al rfl,al ab]
 rw[ah U,ah (by simp;omega)];rfl
def kw.add (i:p[a]?=some (some (u,k))) (n:kw h j c a d p) (b:Nat) (s:bz) (l:Nat):kw h j c a (d++[(b:Int)]) (p.set a (some (gh (gh u (b:Int) s) (b:Int) (a6 (bE (a9 h (aU j) a b))),l))):=by
 have r:a<p.length:=(ec.1 i).1;obtain⟨v,t,g,o⟩:=n;rw[i] at g;cases g;refine⟨_,_,jY r,λf q=>?_⟩;rw[vi,vi,o f q];by_cases m:f=b
 ·subst m;rw[al rfl,al ab]
 rw[ah U,ah U];by_cases e:(f:Int)∈d
 ·rw[al e,al (by simp[e])]
 rw[ah e,ah (by simp[e];omega)]
def Lk (a3:c<=5) {E:List bu} {F:List gq} (Z:hG c d E F) {b V:cE} (em:b.length=c) (r:a<c) (an:lM (bd E d) b a) (M:jQ (bd E d) b c a p):ac (wU ((aS c (be b),(aS c λg=>if g<a then fi (bd E d) b g else[]),p,(aS c λe=>fE b c e),()),some ((c:Int),(V,()),F,()),(a:Int),())) λf=>f.2.1=fb (bd E d) b a/\(fb (bd E d) b a=0->∃k,jQ (bd E d) b c (a+1) k/\f.1=(aS c (be b),(aS c λg=>if g<a+1 then fi (bd E d) b g else[]),k,(aS c λe=>fE b c e),())):=by
 classical
 unfold wU;refine ac.bs (Iq a3 Z r an M _ _ r (Nat.le_refl _)) ?_;dsimp only;refine ac.bs (lq (CG _ _ _ _)) ?_;dsimp only;have a4:a9 (bd E d) (aU b) a a=kT (gA (bd E d) (a9 (bd E d) (aU b)) a a) 0:=(by rw[md];unfold j6;rw[if_pos rfl]);rw[bo];refine ac.ite (λH=>?_) (λH=>?_)
 ·refine ac.aj.2 ?_;have n:fb (bd E d) b a=231:=(by unfold fb;rw[al (.inl H)]);exact⟨n.symm,λh=>by rw[n] at h;cases h⟩
 refine ac.bs (MN (CG _ _ _ _)) ?_;dsimp only;rw[<-a4];have C:=pA (bd E d) (aU b) a a;refine ac.bs (NI C) ?_;dsimp only;rw[dD,bo];refine ac.ite (λI=>?_) (λI=>?_)
 ·refine ac.aj.2 ?_;have n:fb (bd E d) b a=231:=(by unfold fb;rw[al (.inr I)]);exact⟨n.symm,λh=>by rw[n] at h;cases h⟩
 have n:fb (bd E d) b a=if∀e,aU b a e=true->a8 (a9 (bd E d) (aU b) a e)≠2047 then 0 else 233:=by unfold fb;rw[ah (λh=>h.elim H I)]
 have d2:∀e,e≠a->aU b a e=true->a9 (bd E d) (aU b) a e=m7 (gA (bd E d) (a9 (bd E d) (aU b)) a e) (bE (a9 (bd E d) (aU b) a a)) 0:=λe z A=>(by rw[md];unfold j6;rw[ah z,al A,<-a4]);have d0:∀e,dx (gA (bd E d) (a9 (bd E d) (aU b)) a e):=λe=>CG _ _ _ _;have d4:=@Iq c a3 d E F Z b V a r an;have av:=pA (bd E d) (aU b);obtain⟨f,s,d3⟩:=Ez (G:=b) (j:=a) U;have a0:∀i∈f,∃e:Nat,i=(e:Int)/\e<c/\a<e/\aU b a e=true:=λi m=>(by obtain⟨e,rfl,z,A,L⟩:=tY (G:=b) (j:=a) (x:=i) (by rw[s];simp[m]);exact⟨e,rfl,U,by have:=d3 _ m;omega,L⟩);have O:(∀e,aU b a e=true->a8 (a9 (bd E d) (aU b) a e)≠2047)↔a8 (a9 (bd E d) (aU b) a a)≠2047/\∀i∈f,a8 (a9 (bd E d) (aU b) a i.toNat)≠2047:=by
  constructor
  ·intro h;refine⟨h a (vE U),λi m=>?_⟩;obtain⟨e,rfl,_,_,L⟩:=a0 i m;exact h e L
  rintro⟨z,A⟩ e ap;have:(e:Int)∈be b a:=(by unfold aU at ap;exact of_decide_eq_true ap);rw[s] at this;rcases dk.1 this with X|X
  ·obtain rfl:e=a:=U;exact z
  exact A _ X
 have d6:fi (bd E d) b a=a9 (bd E d) (aU b) a a::f.map λe=>a9 (bd E d) (aU b) a e.toNat:=(by unfold fi;rw[s,List.map_cons,Int.toNat_natCast]);have fn:f.length<=5:=(by have:=tX (G:=b) a;rw[s,List.length_cons] at this;omega);have ds:kw (bd E d) b c a (be b a)=kw (bd E d) b c a ((a:Int)::f):=(by rw[s]);refine ac.bs (vx C) ?_;dsimp only;refine ac.bs rfl ?_;refine ac.bs (gU (by rw[dy];omega)) ?_;rw[iG r,jh];refine ac.bs rfl ?_;dsimp only;have eq:=M.len;refine ac.bs (gU U) ?_;rw[nD (List.getElem?_eq_getElem (U:a<p.length))];refine ac.bs rfl ?_;dsimp only;have N:jQ (bd E d) b c a (p.set a (some (gh [] (a:Int) (a6 (bE (a9 (bd E d) (aU b) a a))),1))):=M.set _;have ad:kw (bd E d) b c a [(a:Int)] (p.set a (some (gh [] (a:Int) (a6 (bE (a9 (bd E d) (aU b) a a))),1))):=kw.one U 1;change ac ((o0 (a9 (bd E d) (aU b) a a,())).bind _) _;change jQ (bd E d) b c a (p.set a (some (gh [] (a:Int) (a6 (bE (a9 (bd E d) (aU b) a a))),1))) at N;generalize cv:p.set a (some (gh [] (a:Int) (a6 (bE (a9 (bd E d) (aU b) a a))),1))=co at N ad;refine ac.bs (yA C) ?_;dsimp only;rw[Bool.not_not,bo];refine ac.ite (λJ=>?_) (λJ=>?_)
 ·refine ac.aj.2 ?_;rw[n,ah (λh=>(O.1 h).1 J)];exact⟨rfl,λh=>by cases h⟩
 refine ac.bs (by rw[da (by rw[dy];omega),iM]) ?_;have bl:((fD 1).bind λce=>(some ((be b a).length)).bind λci=>(gg ce ci (be b a).length).map λ_=>(ce,ci))=some (1,(be b a).length):=(by rw[s];show((gg 1 (f.length+1) (f.length+1)).map λ_=>(1,f.length+1))=_;unfold gg;rw[if_pos ⟨U,U⟩];rfl);refine ac.bs bl ?_;dsimp only;have am:((be b a).take (be b a).length).drop 1=f:=(by rw[List.take_length,s];rfl);rw[am];clear bl am;refine ac.aX (P:=λT=>(∃k,jQ (bd E d) b c a k/\kw (bd E d) b c a ((a:Int)::f) k/\(∀i∈f,a8 (a9 (bd E d) (aU b) a i.toNat)≠2047)/\T=.inl ((aS c (be b),(aS c λg=>if g<a+1 then fi (bd E d) b g else[]),k,(aS c λe=>fE b c e),()),()))\/∃W,T=.inr (W,233,())/\∃i∈f,a8 (a9 (bd E d) (aU b) a i.toNat)=2047) ?_ ?_
 ·refine ac.steps f.length (λl el=>∃k,jQ (bd E d) b c a k/\kw (bd E d) b c a ((a:Int)::f.take l) k/\(∀i∈f.take l,a8 (a9 (bd E d) (aU b) a i.toNat)≠2047)/\el=((l:Int),(aS c (be b),aS c (eT (λg=>if g<a then fi (bd E d) b g else[]) a (a9 (bd E d) (aU b) a a::(f.take l).map λe=>a9 (bd E d) (aU b) a e.toNat)),k,(aS c λe=>fE b c e),()),())) ?_ ?_ ?_
  ·exact⟨co,N,ad,ab,by rw[<-cv];rfl⟩
  ·rintro l _ B ⟨k,u,t,v,rfl⟩;dsimp only;rw[bw (aC (show(l:Int)<au f by rw[a1];omega))];obtain⟨o,S,d7,ex,d1⟩:=a0 f[l] (List.getElem_mem B);have R:f.take (l+1)=f.take l++[(o:Int)]:=(by rw[List.take_add_one,List.getElem?_eq_getElem B,S];rfl);refine ac.bs (y:=(o:Int)) (by rw[da B,S]) ?_;refine ac.bs (d4 u _ _ d7 U) ?_;dsimp only;refine ac.bs (vx C) ?_;dsimp only;refine ac.bs (MJ (d0 o) (ji _)) ?_;dsimp only;rw[<-d2 o U d1];refine ac.bs (yA (av a o)) ?_;dsimp only;rw[Bool.not_not,bo];refine ac.ite (λK=>?_) (λK=>?_)
   ·exact ac.aj.2 (.inr ⟨_,rfl,(o:Int),by rw[<-S];exact dj B,K⟩)
   obtain⟨d9,cs,w,dl⟩:=t;have Q:a<k.length:=(List.getElem?_eq_some_iff.1 w).1;refine ac.bs (gU Q) (ac.bs (gU (by rw[dy];omega)) ?_);rw[iG r,lG];refine ac.bs rfl ?_;rw[eF (by simp;omega)];refine ac.bs rfl ?_;refine ac.bs (vx (av a o)) ?_;dsimp only;refine ac.bs (gU (by rw[dy];omega)) ?_;rw[bw ab,iG r,lG];refine ac.bs rfl ?_;rw[iG r,jh];refine ac.bs rfl ?_;dsimp only;refine ac.bs (nD w) ?_;refine ac.bs rfl ?_;rw[nD w];refine ac.bs rfl ?_;dsimp only;rw[bw ab];refine ac.bs (nD (List.getElem?_set_self Q)) ?_;refine ac.bs rfl ?_;rw[nD (List.getElem?_set_self Q)];refine ac.bs rfl ?_;dsimp only;rw[br U,List.set_set];have ai:aS c (eT (eT (λg=>if g<a then fi (bd E d) b g else[]) a (a9 (bd E d) (aU b) a a::(f.take l).map λe=>a9 (bd E d) (aU b) a e.toNat)) a (a9 (bd E d) (aU b) a a::((f.take l).map λe=>a9 (bd E d) (aU b) a e.toNat)++[a9 (bd E d) (aU b) a o]))=aS c (eT (λg=>if g<a then fi (bd E d) b g else[]) a (a9 (bd E d) (aU b) a a::(f.take (l+1)).map λe=>a9 (bd E d) (aU b) a e.toNat)):=by
    refine fg λD d5=>?_;by_cases q:D=a
    ·subst q;rw[lG,lG,R,h6];rfl
    rw[lF _ _ q,lF _ _ q,lF _ _ q]
   rw[ai];refine ac.aj.2 ⟨_,u.set _,?_,?_,rfl⟩
   ·rw[R,<-h3];exact kw.add w ⟨d9,cs,w,dl⟩ o _ _
   intro i m;rw[R,eI,eV] at m;rcases m with m|rfl
   ·exact v i m
   exact K
  rintro _ ⟨k,u,t,v,rfl⟩;dsimp only;rw[List.take_of_length_le (Nat.le_refl _)] at t v|-;rw[bq (ay (show¬((f.length:Int)<au f) by rw[a1];omega))];refine ac.aj.2 (.inl ⟨k,u,t,v,?_⟩);have ai:aS c (eT (λg=>if g<a then fi (bd E d) b g else[]) a (a9 (bd E d) (aU b) a a::f.map λe=>a9 (bd E d) (aU b) a e.toNat))=aS c λg=>if g<a+1 then fi (bd E d) b g else[]:=by
   refine fg λD d5=>?_;by_cases q:D=a
   ·subst q;rw[lG,al U,d6]
   rw[lF _ _ q];by_cases Y:D<a
   ·rw[al Y,al U]
   rw[ah Y,ah U]
  rw[ai]
 rintro T (⟨k,u,t,v,rfl⟩|⟨W,rfl,i,m,d8⟩)
 ·dsimp only;refine ac.aj.2 ?_;rw[n,if_pos (O.2 ⟨J,v⟩)];exact⟨rfl,λ_=>⟨k,u.next (by rw[ds];exact t),rfl⟩⟩
 dsimp only;refine ac.aj.2 ?_;rw[n,if_neg (λh=>(O.1 h).2 i m d8)];exact⟨rfl,λh=>by cases h⟩
end Go.h1
end
