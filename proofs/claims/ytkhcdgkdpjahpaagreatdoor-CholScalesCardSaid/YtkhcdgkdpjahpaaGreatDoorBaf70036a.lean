/-
  Parts of the proof: Pa9, Pa10, Pa11, Pa12, Pa13, Pa14, Pa15, Pa16, Pa17, Pa19, Pa20, Pa21, Pa22, Pa23, Pa24, Pa25, Pa26, Pa27, Pa28, Pa29, Pm1, Pm2, G24, Pm3, Pm4, Pm5, Pm6, Pm7, Pm8, Pm9, Pm11, Pm12, Pl13, Pl18, Th3, Pl29, Pl30, Pl40, Pl41, Pl42, Pl43, Pm13, Pl46, Pl48, Pl50, Pl51, Pl54, Pm14, Pm15, Pm16, Pm17, Pm18, Pm19, Pm20, Pm21, Pm23, Pm24, Pm25, Pm26: the framework (Fw), pure forms (Dn), plain laws (Pl, Th), calls of functions (Ok).
-/
import Derived.Test.YtkhcdgkdpjahpaaGreatDoorRows
import Derived.ProofKit
import Derived.Lib.LaidTab
import Derived.LaidMore
import Derived.KernelRfl
import Derived.Test.YtkhcdgkdpjahpaaGreatDoorB88bd483e

set_option linter.all false
set_option maxHeartbeats 1000000
noncomputable section
namespace Go.hX
variable{a c j:Nat}{b f:Int}{d g h q:cQ}{e:Nat->Nat->cK}{i:cF}{k:cK}{l o:Bool}{m:Nat->Nat->Bool}{n:Type}{t:cC}{u:List (Int×bX)}{v:(cz×Int×Int×a8×Unit)->Prop}{w:(cz×Int×a8×Unit)->Prop}{x:Int->Prop}
def jD (a:Nat):((2^a:Nat):Int)=(2:Int)^a:=by simp
def ip (a:Nat):(0:Int)<2^a:=jQ aa
def s5 (b:a<=31):(2:Int)^a<=2147483648:=by have c:=nD (aa:0<2) b;rw[<-jD];omega
def re {p:Nat} (a:p<=32):(4294967296:Int)=2^p*2^(32-p):=by rw[<-iy,(U:p+(32-p)=32)];rfl
def np (a:Nat):aI a=2^(32*a):=by unfold aI;rw[Int.pow_mul];rfl
theorem QS {k:Nat} {x y:Int} (j:k<=32) (e:0<=x) (f:x<2^k) (g:0<=y) (o:y<4294967296) (i:y %2^k=0):dQ .u32 x y=x+y/\x+y<4294967296:=by
 have c:=ip k;have u:=re j;have t:=ip (32-k);have s:y=2^k*(y/2^k):=(by have:=he y (2^k);omega);have r:y/2^k<2^(32-k):=by
  rcases hq (y/2^k) (2^(32-k)) with b|b
  ·exact b
  have:=iW b (ec c);omega
 have q:2^k*(y/2^k+1)<=2^k*2^(32-k):=iW U (ec c);have p:(2:Int)^k*(y/2^k+1)=2^k*(y/2^k)+2^k:=(by grind);have n:x+y<4294967296:=U;refine⟨?_,n⟩;obtain⟨d,rfl⟩:=dX e;obtain⟨a,rfl⟩:=dX g;have m:d<2^k:=(by have:((d:Nat):Int)<((2^k:Nat):Int):=(by simpa using f);omega);have l:a %2^k=0:=(by have:((a %2^k:Nat):Int)=0:=(by simpa using i);omega);rw[QQ U U];have h:a=(a/2^k)*2^k:=(by have:=p8 a (2^k);rw[l,hL] at this;omega);rw[h,DD k m];simp
theorem zt {a:cQ} {n:Nat} (F:aK a) (Y:a.length<=10000000) (W:n<=100000000):qz (a,(n:Int),())=some (bx (af a*2^n).toNat,()):=by
 unfold qz;simp only[n3,bo];split
 ·rename_i h;subst h;simp[af];rfl
 refine ac.eq_iff.1 ?_;obtain⟨b,e,K,X,I,J⟩:∃b e:Nat,n=32*b+e/\e<32/\gY IntKind.i64 (n:Int) 32=some (b:Int)/\gn (n:Int) 32=some (e:Int):=by
  refine⟨n/32,n %32,U,U,?_,?_⟩
  ·unfold gY;rw[ak aa,wb U,wrap64 U U];simp
  unfold gn;rw[ak aa,wc U];simp
 have l:=ip e;have E:=re (p:=e) U;have w:a7 (ax ((b:Int)+aw a))=((b+a.length+1:Nat):Int):=(by simp only[a5];rw[bh U U,(ab:(b:Int)+(a.length:Int)=((b+a.length:Nat):Int)),bA U]);rw[I,J,aP,aP,w,iN U,aP];refine ac.a1 (P:=λq=>∃d,q=(d,())/\d.length=b+a.length+1/\aK d/\af d=aI b*(2^e*af a)) ?_ ?_
 ·refine ac.steps a.length (λc M=>∃d,M=((c:Int),d,())/\d.length=b+a.length+1/\aK d/\h3 d (b+c+1)/\(∀h:b+c<d.length,d[b+c]<2^e)/\af d=aI b*(2^e*af (a.take c))) ⟨_,rfl,ab,aK.ls _,h3.ls _ _,λh=>by simp;exact l,by simp[af,pP]⟩ ?_ ?_
  ·rintro c _ m ⟨d,rfl,ao,g,i,t,o⟩;have s:=F.get m;have G:=g.get (n:=b+c) U;have H:=t U;dsimp only;rw[if_pos (show(c:Int)<aw a by simp only[a5];omega),dc m,Option.bind_some];have aj:ax ((b:Int)+(c:Int))=((b+c:Nat):Int):=(by rw[bh U U];simp);have V:a[c]*2^e<4294967296*2^e:=Int.mul_lt_mul_of_pos_right s.2 l;have T:(2:Int)^e<=2147483648:=s5 U;obtain⟨f,r,N,O⟩:∃f,f=a[c]*2^e/\0<=f/\f<18446744073709551616:=⟨_,rfl,Int.mul_nonneg s.1 (Int.le_of_lt l),U⟩;have z:fN IntKind.u64 (aH a[c]) (aH (e:Int))=some f:=by
    rw[bV (x:=a[c]) U U,bV (x:=(e:Int)) U U,kS U U,dk,<-r];congr 1;omega
   have A:f %4294967296 %2^e=0:=(by rw[Int.emod_emod_of_dvd _ ⟨_,E⟩,r,Int.mul_emod_left]);have B:f/4294967296<2^e:=(by refine pZ aa ?_;rw[fI];omega);obtain⟨C,R⟩:=QS (k:=e) (x:=d[b+c]) (y:=f %4294967296) U G.1 H U U A;rw[z];simp only[aP];rw[aj,mb U,n4 N O,C,nk U,ll,aP,bA U,jh U U,nk (by simp;omega)];refine ac.al.2 ⟨(d.set (b+c) (d[b+c]+f %4294967296)).set (b+c+1) (f/4294967296),by rw[bA U],by simp[ao],(g.set U U).set U U,?_,?_,?_⟩
   ·have:=(i.Ia (d[b+c]+f %4294967296) (j:=b+c) U).set (f/4294967296);exact this
   ·intro h;show((d.set (b+c) (d[b+c]+f %4294967296)).set (b+c+1) (f/4294967296))[b+c+1]'h<2^e
    rw[List.getElem_set_self];exact B
   have Q:(d.set (b+c) (d[b+c]+f %4294967296))[b+c+1]'(by simp;omega)=0:=by rw[rK U];exact i _ U U
   rw[ms (by simp;omega),Q,ms U,o,gC m,fZ,tu];have S:=he f 4294967296;generalize f/4294967296=L at*;generalize f %4294967296=q at*;generalize(2:Int)^e=u at*;generalize a[c]=v at*;generalize d[b+c]=Z at*;have D:q=v*u-4294967296*L:=U;subst D;grind
  rintro _ ⟨d,rfl,ao,g,i,t,o⟩;dsimp only;rw[if_neg (show¬((a.length:Int)<aw a) by simp only[a5];omega)];refine ac.al.2 ⟨d,rfl,ao,g,?_⟩;rw[o,List.take_of_length_le (Nat.le_refl _)]
 rintro _ ⟨d,rfl,ao,g,i⟩;refine ac.of_eq (aq (lq g (by show d.length<=_;omega)) rfl) ?_;show(fO d,())=_;rw[fO,i,np,K,iy];congr 3;grind
def La (k:aK d) (o:d.length<=10000000):uA (d,(),())=some (decide (af d≠0),()):=by
 unfold uA;refine ac.eq_iff.1 ?_;refine ac.a1 (P:=λi=>∃g,i=(g,())/\(0<=g↔af d≠0)) ?_ ?_
 ·unfold Aq;dsimp only;refine ac.a1 (P:=λc=>match c with|.inl _=>af d=0|.inr i=>0<=i.1/\af d≠0) ?_ ?_
  ·refine ac.steps d.length (λa m=>m=((a:Int),())/\af (d.take a)=0) ⟨rfl,rfl⟩ ?_ ?_
   ·rintro a _ e ⟨rfl,b⟩;have l:=k.get e;simp only[aB (show(a:Int)<aw d by simp only[a5];omega),cond_true,dc e,aP,Ak,dN];by_cases h:d[a]=0
    ·simp only[aB h,kf,cond_false];refine ac.al.2 ⟨by rw[bA U],?_⟩;rw[gC e,h,b];simp
    simp only[az h,ly,cond_true];refine ac.al.2 ⟨by show(0:Int)<=(a:Int);omega,?_⟩;rw[nj d a U,b,jf e];have j:=dW (k.drop (a+1));have n:0<aI a*(d[a]+4294967296*af (d.drop (a+1))):=nu (es a) U;omega
   rintro _ ⟨rfl,b⟩;simp only[az (show¬((d.length:Int)<aw d) by simp only[a5];omega),cond_false];refine ac.al.2 ?_;rw[dL (aZ _)] at b;exact b
  rintro(c|c) f
  ·have f:af d=0:=f;exact ac.al.2 ⟨_,rfl,by rw[f];simp⟩
  obtain⟨b,j⟩:0<=c.1/\af d≠0:=f;exact ac.al.2 ⟨c.1,rfl,λ_=>j,λ_=>b⟩
 rintro _ ⟨g,rfl,l⟩;refine ac.al.2 ?_;show(decide (g>=0),())=_;congr 1;rw[decide_eq_decide];exact l
def DB (a:Nat) (c:0<=b) (g:b<4294967296) (e:a<=32):bD .u32 b (2^a-1)=b %2^a:=by obtain⟨i,rfl⟩:=dX c;have f:0<2^a:=eT a;have d:(2:Int)^a-1=((2^a-1:Nat):Int):=(by rw[Int.natCast_sub f];simp);have h:2^a<=2^32:=nD aa e;rw[d,Dz U U,Nat.and_two_pow_sub_one_eq_mod];simp
def FN {x b y:Int} {P P':Int} (e:0<b) (f:0<=x/\x<b) (h:0<P):(x+b*y) %(b*P)=0↔x=0/\y %P=0:=by
 constructor
 ·intro a;have g:x=0:=by
   have c:(x+b*y) %b=0:=(by have:=Int.emod_emod_of_dvd (x+b*y) (show b∣b*P from⟨P,rfl⟩);rw[a] at this;simpa using this.symm);rw[tz,nr f.1 f.2] at c;exact c
  subst g;rw[Int.zero_add,Int.mul_emod_mul_of_pos _ _ e] at a;exact⟨rfl,by rcases Int.mul_eq_zero.1 a with d|d;omega;exact d⟩
 rintro⟨rfl,a⟩;rw[Int.zero_add,Int.mul_emod_mul_of_pos _ _ e,a,Int.mul_zero]
theorem Az {n:Nat} (i:aK d) (a4:dq d) (dl:d.length<=10000000) (co:n<=1000000000):sb (d,(n:Int),())=some (bx (af d/2^n).toNat,decide (af d %2^n≠0),()):=by
 unfold sb;dsimp only;refine ac.eq_iff.1 ?_;obtain⟨a,e,av,cs,am,ap⟩:∃a e:Nat,n=32*a+e/\e<32/\gY IntKind.i64 (n:Int) 32=some (a:Int)/\gn (n:Int) 32=some (e:Int):=by
  refine⟨n/32,n %32,U,U,?_,?_⟩
  ·unfold gY;rw[ak aa,wb U,wrap64 U U];simp
  unfold gn;rw[ak aa,wc U];simp
 have B:=ip e;have G:=re (p:=e) U;have X:(2:Int)^n=aI a*2^e:=(by rw[np,av,iy]);have K:=dW i;rw[am,ap,aP,aP,bo,X];refine ac.ite (λk=>?_) λk=>?_
 ·have k:d.length<=a:=(by simp only[a5] at k;omega);have m:=fu i;have r:=ma k;have F:aI a*1<=aI a*2^e:=iW U (ec (es a));rw[nq K U,nr K U];refine ac.al.2 ?_;show(([]:cQ),decide (aw d>0),())=(bx 0,_,());rw[ED];congr 2;rw[decide_eq_decide];simp only[a5];constructor
  ·intro o C;have:=dq.zero i a4 C;rw[this] at o;simp at o
  intro o;have:d≠[]:=λO=>(by rw[O] at o;exact o rfl);have:=List.length_pos_iff.2 this;omega
 have k:a<d.length:=(by simp only[a5] at k;omega);have w:=i.get k;obtain⟨f,u⟩:∃f,f=af (d.drop a):=⟨_,rfl⟩;have H:0<=f:=(by rw[u];exact dW (i.drop a));have J:af d=af (d.take a)+aI a*f:=(by rw[u];exact nj d a U);have I:=dW (i.take a);have E:=fu (i.take a);rw[eB,ga U] at E;have Z:af d/(aI a*2^e)=f/2^e:=(by rw[<-pY (ec (es a)),J,rE _ _ (by have:=es a;omega),nq I E,Int.zero_add]);refine ac.a1 (P:=λq=>q=(decide (af d %(aI a*2^e)≠0),())) ?_ ?_
 ·rw[zl U,aP];have aj:List.drop 0 (List.take a d)=d.take a:=mB;show ac ((uA (List.drop 0 (List.take a d),(),())).bind _) _;rw[aj,La (i.take a) (by simp;omega),aP];have D:(decide (af d %(aI a*2^e)≠0))=(decide (af (d.take a)≠0)||decide (d[a] %2^e≠0)):=by
   have m:=FN (x:=af (d.take a)) (b:=aI a) (y:=f) (P:=2^e) (P':=0) (es a) ⟨I,E⟩ B;rw[<-J] at m;have r:f %2^e=d[a] %2^e:=(by rw[u,jf k,G,e1,tz]);rw[r] at m;by_cases A:af (d.take a)=0<;>by_cases T:d[a] %2^e=0<;>simp[A,T,m]
  rw[D];dsimp only;by_cases A:af (d.take a)=0
  ·simp only[az (show¬(af (d.take a)≠0) fromλk=>k A),beq_self_eq_true,cond_true,dc k,aP];rw[bV (x:=(e:Int)) U U,If U U,aP,dk,Int.one_mul];have bl:(2:Int)^e<=2147483648:=s5 U;rw[nr U U,jh U U,DB e w.1 w.2 U,dN];refine ac.al.2 ?_;simp
  simp only[aB (show af (d.take a)≠0 from A)];exact ac.al.2 rfl
 rintro _ rfl;dsimp only;obtain⟨l,ci⟩:∃l,d.length=a+l:=⟨d.length-a,U⟩;have Q:ax (aw d-(a:Int))=((l:Nat):Int):=(by simp only[a5];rw[bh U U];omega);rw[Q,iN U,Option.bind_some];have bs:f<aI l:=(by have:=fu (i.drop a);rw[List.length_drop,(U:d.length-a=l),<-u] at this;exact this);refine ac.a1 (P:=λq=>∃g,q=(g,())/\g.length=l/\aK g/\af g=f/2^e) ?_ ?_
 ·refine ac.steps l (λc a3=>∃g,a3=((c:Int),g,())/\g.length=l/\aK g/\af (g.take c)+aI c*(f/2^e/aI c)=f/2^e) ⟨_,rfl,ab,aK.ls _,by simp[af,tv]⟩ ?_ ?_
  ·rintro c _ ce ⟨g,rfl,ao,z,s⟩;have w:=i.get (n:=a+c) U;have a0:=i.getD (a+c+1);have D:decide ((c:Int)<aw (List.replicate l (0:Int)))=true:=aB (by simp only[a5,nA];omega);have aj:ax ((a:Int)+(c:Int))=((a+c:Nat):Int):=(by rw[bh U U];simp);have R:a7 ((a+c:Nat):Int)=((a+c+1:Nat):Int):=bA U;simp only[D,cond_true,aj,R,dc (U:a+c<d.length),aP];obtain⟨j,v,L,d0⟩:∃j,j=d[a+c]+4294967296*d.getD (a+c+1) 0/\0<=j/\j<18446744073709551616:=⟨_,rfl,U,U⟩;have Y:f/aI c=j+4294967296*(4294967296*af (d.drop (a+c+2))):=by
    have m:d.drop a=(d.drop a).take c++d.drop (a+c):=by
     conv=>lhs;rw[<-km c (d.drop a)]
     rw[oH]
    have r:f=af ((d.drop a).take c)+aI c*af (d.drop (a+c)):=by
     rw[u]
     conv=>lhs;rw[m]
     rw[mr,eB,kk,ga U]
    have F:=dW ((i.drop a).take c);have o:=fu ((i.drop a).take c);rw[eB,kk,ga U] at o;have C:af (d.drop (a+c))=d[a+c]+4294967296*af (d.drop (a+c+1)):=jf U;have V:af (d.drop (a+c+1))=d.getD (a+c+1) 0+4294967296*af (d.drop (a+c+2)):=by
     rcases bi (a+c+1) d.length with h|h
     ·rw[ie h];exact jf h
     rw[mW h,nw h,nw U];rfl
    rw[r,rE _ _ (by have:=es c;omega),nq F o,C,V,v];grind
   have ad:f/2^e/aI c %4294967296=j/2^e %4294967296:=(by have m:f/2^e/aI c=f/aI c/2^e:=(by rw[pY (ec B),pY (ec (es c)),fI]);rw[m,Y];have r:∀t:Int,j+4294967296*(4294967296*t)=j+2^e*(4294967296*(2^(32-e)*t)):=λt=>(by generalize(2:Int)^e=M at*;generalize(2:Int)^(32-e)=N at*;rw[show(4294967296:Int)*(4294967296*t)=(M*N)*(4294967296*t) by rw[<-G]];grind);rw[r,rE _ _ U,tz]);have an:0<=j/2^e:=kT L (ec B);have cv:j/2^e<=j:=rF _ L;refine ac.a1 (P:=λq=>q=(g.set c (j/2^e %4294967296),())) ?_ ?_
   ·refine ac.a1 (P:=λq=>q=(j,g,())) ?_ ?_
    ·simp only[bo];refine ac.ite (λh=>?_) λh=>?_
     ·have h:a+c+1<d.length:=(by simp only[a5] at h;omega);rw[dc h,aP,bV (x:=d[a+c+1]) (by have:=i.get h;omega) (by have:=i.get h;omega),kS aa aa];rw[ie h] at v a0;have S:d[a+c+1]*2^(32:Int).toNat %18446744073709551616=4294967296*d[a+c+1]:=by
       rw[show(2:Int)^(32:Int).toNat=4294967296 from rfl];omega
      rw[aP,S,bV U U,j5 32 w.1 w.2 U U U U];refine ac.al.2 ?_;rw[<-v]
     have h:d.length<=a+c+1:=(by simp only[a5] at h;omega);rw[mW h] at v;rw[bV U U];refine ac.al.2 ?_;rw[v];simp
    rintro _ rfl;dsimp only;rw[bV (x:=(e:Int)) U U,pJ U U,Option.bind_some,Int.toNat_natCast,n4 an U,nk U];exact ac.al.2 rfl
   rintro _ rfl;dsimp only;refine ac.al.2 ⟨g.set c (j/2^e %4294967296),by rw[bA U],by simp[ao],z.set U U,?_⟩;rw[gC (by simp;omega)];simp only[List.getElem_set_self];rw[List.take_set_of_le U,<-ad,fZ,Int.mul_comm 4294967296 (aI c),<-Int.ediv_ediv_of_nonneg (Int.le_of_lt (es c))];have W:=Int.emod_add_mul_ediv (f/2^e/aI c) 4294967296;generalize f/2^e/aI c %4294967296=q at*;generalize f/2^e/aI c/4294967296=ds at*;rw[<-W] at s;grind
  rintro _ ⟨g,rfl,ao,z,s⟩;simp only[az (show¬((l:Int)<aw (List.replicate l (0:Int))) by simp only[a5,nA];omega),cond_false];refine ac.al.2 ⟨g,rfl,ao,z,?_⟩;have m:0<=f/2^e:=kT H (ec B);have r:f/2^e<=f:=rF _ H;rw[nq m U,dL U] at s;simpa using s
 rintro _ ⟨g,rfl,ao,z,s⟩;refine ac.of_eq (aq (lq z (by show g.length<=_;omega)) rfl) ?_;show(fO g,_,())=_;rw[fO,s,Z]
section
def vy (a:IntKind) (b c:Int):dQ a b c=dQ a c b:=by unfold dQ;rw[BitVec.or_comm]
def CN {x y:Int} (b:0<=x/\x<4294967296) (a:0<=y/\y<4294967296):fN .u64 x 32=some (4294967296*x)/\dQ .u64 (4294967296*x) (aH y)=4294967296*x+y:=by
 constructor
 ·rw[kS aa aa,show(2:Int)^(32:Int).toNat=4294967296 from rfl];congr 1;omega
 rw[bV a.1 U,vy,j5 32 a.1 a.2 U U U U,Int.add_comm]
def Ci {x y:Int} (a:0<=x/\x<18446744073709551616) (d:0<y):gY .u64 x y=some (x/y)/\gn x y=some (x %y):=by
 constructor
 ·unfold gY;rw[ak U,wb a.1];have c:x/y<=x:=rF _ a.1;have b:0<=x/y:=kT a.1 U;rw[rq b U]
 unfold gn;rw[ak U,wc a.1]
theorem Sm (n:aK d) (L:d.length<=10000000) (j:0<b) (I:b<4294967296):xl (d,b,())=some (bx (af d/b).toNat,af d %b,()):=by
 unfold xl;refine ac.eq_iff.1 ?_;simp only[a5,iN (U:d.length<=4294967296),aP];refine ac.a1 (P:=λr=>∃e,r=(af d %b,e,())/\e.length=d.length/\aK e/\af e=af d/b) ?_ ?_
 ·refine ac.steps d.length (λf C=>∃e,C=(af (d.drop (d.length-f)) %b,((d.length:Nat):Int)-1-f,e,())/\e.length=d.length/\aK e/\(∀a,a<d.length-f->(v:a<e.length)->e[a]=0)/\af e=aI (d.length-f)*(af (d.drop (d.length-f))/b)) ⟨List.replicate d.length 0,?_,ab,aK.ls _,ab,?_⟩ ?_ ?_
  ·rw[bh U U,nw U];simp[af]
  ·rw[nw U];simp[af,pP]
  ·rintro f _ J ⟨e,rfl,ao,g,h,i⟩;obtain⟨a,v⟩:∃a,d.length=a+1+f:=⟨d.length-1-f,U⟩;have aj:((d.length:Nat):Int)-1-(f:Int)=(a:Int):=U;have l:a<d.length:=U;rw[(U:d.length-f=a+1)] at*;have A:=n.get l;obtain⟨c,k⟩:∃c,c=af (d.drop (a+1)):=⟨_,rfl⟩;have H:0<=c:=(by rw[k];exact dW (n.drop _));rw[<-k] at i|-;have w:0<=c %b:=ns _ U;have K:c %b<b:=oE _ j;obtain⟨D,E⟩:=CN (x:=c %b) (y:=d[a]) ⟨w,U⟩ A;obtain⟨F,G⟩:=Ci (x:=4294967296*(c %b)+d[a]) (y:=b) ⟨U,U⟩ j;have p:(4294967296*(c %b)+d[a])/b<4294967296:=by
    refine pZ j ?_;have:4294967296*(c %b)+d[a]<4294967296*(c %b+1):=U;have m:4294967296*(c %b+1)<=4294967296*b:=U;omega
   have q:0<=(4294967296*(c %b)+d[a])/b:=kT U U;simp only[aj,aB (U:(a:Int)>=0),cond_true,dc l,D,aP];rw[E,bV (x:=b) U U,F,aP,jh q p,nk U,G,aP];have u:=he c b;have z:af (d.drop a)=d[a]+4294967296*c:=(by rw[k];exact jf l);have o:af (d.drop a)=(4294967296*(c %b)+d[a])+b*(4294967296*(c/b)):=(by rw[z];generalize c/b=M at*;generalize c %b=r at*;rw[<-u];grind);refine ac.al.2 ⟨e.set a ((4294967296*(c %b)+d[a])/b),?_,by simp[ao],g.set q p,?_,?_⟩
   ·rw[(U:d.length-(f+1)=a),bh U U,o,tz];congr 2;omega
   ·intro B t m;rw[rK U];exact h B U (by simpa using m)
   rw[(U:d.length-(f+1)=a),o,rE _ _ U,ms U,h a U U,i,fZ];grind
  rintro _ ⟨e,rfl,ao,g,h,i⟩;have aj:¬(((d.length:Nat):Int)-1-(d.length:Int)>=0):=U;simp only[az aj,cond_false];rw[Nat.sub_self] at i;refine ac.al.2 ⟨e,ab,ao,g,?_⟩;rw[i,tv];simp
 rintro _ ⟨e,rfl,ao,g,h⟩;have t:af d %b<b:=oE _ j;have s:0<=af d %b:=ns _ U;refine ac.of_eq (aq (lq g (by show e.length<=_;omega)) rfl) ?_;show(fO e,bL (af d %b),())=_;rw[fO,h,jh s U]
section
variable {α B:Type}
def nH {c b f:List α} (e:a<b.length) (d:α->Option B):bt (c++(b++f)) (c.length+a) d=d b[a]:=by refine nI ?_;rw[ny U,nC,mC e,bB e]
def zi {b c d:List α} (f:a<c.length) (e:α):(b++(c++d)).set (b.length+a) e=b++(c.set a e++d):=by rw[List.set_append_right _ _ U,nC,List.set_append_left _ _ f]
end
theorem LS {v1 dz e g a c d h:Int} (t:0<b) (k:e=(v1*4294967296+dz)*b+d) (r:g=(a*4294967296+c)*b+h) (l:0<=d) (s:h<b) (i:0<=f) (m:(a-f*v1)*4294967296+c<f*dz):g<f*e:=by have j:a*4294967296+c+1<=f*(v1*4294967296+dz):=(by grind);have n:(a*4294967296+c+1)*b<=f*(v1*4294967296+dz)*b:=jN j U;have o:0<=f*d:=kh i l;have p:f*e=f*(v1*4294967296+dz)*b+f*d:=(by rw[k];grind);have q:(a*4294967296+c+1)*b=(a*4294967296+c)*b+b:=(by grind);omega
theorem LU {v1 dz c g d e a h:Int} (u:0<f) (k:c=(v1*4294967296+dz)*f+a) (r:g=(d*4294967296+e)*f+h) (t:0<=a/\a<f) (s:0<=h) (i:0<=b/\b<4294967296) (v:1<=v1) (w:0<=dz) (l:b*dz<=(d-b*v1)*4294967296+e):b*c<g+c:=by have j:b*(v1*4294967296+dz)<=d*4294967296+e:=(by grind);have m:b*(v1*4294967296+dz)*f<=(d*4294967296+e)*f:=jN j U;have n:b*a<=b*f:=iW U i.1;have o:b*c=b*(v1*4294967296+dz)*f+b*a:=(by rw[k];grind);have p:b*f<=4294967295*f:=jN U U;have q:4294967296*f<=(v1*4294967296+dz)*f:=jN U U;omega
end
theorem CU (c:d.length=a+2):af d=(d[a+1]*4294967296+d[a])*aI a+af (d.take a):=by have b:af d=af (d.take (a+1))+aI (a+1)*d[a+1]:=(by rw[<-gC U,dL U]);rw[b,gC U,fZ];grind
theorem Tl (c:d.length=a+3):af d=((d[a+2]*4294967296+d[a+1])*4294967296+d[a])*aI a+af (d.take a):=by have b:af d=af (d.take (a+2))+aI (a+2)*d[a+2]:=(by rw[<-gC U,dL U]);rw[b,gC U,gC U];simp only[fZ];grind
structure tx (v w:cQ) (n:Nat):Prop where
 hv:aK v
 hw:aK w
 pR:v.length=n+2
 wn:w.length=n+3
 Gn:n<=10000000
 top:2147483648<=v[n+1]
 lt:af w<4294967296*af v
def tx.IY {n:Nat} (a:tx d g n):0<af d:=by
 have b:=CU a.pR;have c:=dW (a.hv.take n);have e:=a.hv.get (n:=n) (by have:=a.pR;omega);have f:=a.top;have h:0<(d[n+1]'(by have:=a.pR;omega)*4294967296+d[n]'(by have:=a.pR;omega))*aI n:=nu U (es n)
 omega
theorem LV {n:Nat} (e:tx g d n) (o:b=(4294967296*d[n+2]'(by have:=e.wn;omega)+d[n+1]'(by have:=e.wn;omega))/g[n+1]'(by have:=e.pR;omega)) (S:f=(4294967296*d[n+2]'(by have:=e.wn;omega)+d[n+1]'(by have:=e.wn;omega)) %g[n+1]'(by have:=e.pR;omega)):ac (loop (σ:=(cz×Int×Int×a8×Unit)) (ρ:=(cz×Int×a8×Unit)) (λ(p,s,E,A,_)=>
 Option.bind (α:=(cz×a8×Unit)⊕((cz×Int×Int×a8×Unit)⊕(cz×Int×a8×Unit))) (bif decide (s>4294967295)==false then(aQ g (ax (aw g-2))).bind λd7=>
 (fN IntKind.u64 E 32).bind λd8=>
 (bG (p.2-p.1) (ax (aw g-2))).bind λd3=>
 (bt A (p.1+d3) λbl=>some bl).bind λd9=>
  bif decide (aH (s*aH d7)>dQ IntKind.u64 d8 (aH d9)) then
 some (.inl (p,A,())) else
 some (.inr (.inr (p,s,A,()))) else some (.inl (p,A,()))) λa=>match a with
 |.inl (W,X,_)=>(
 (aQ g (ax (aw g-1))).bind λt=>
  bif decide (aH (E+aH t)>4294967295) then
 some (.inr (W,aH (s-1),X,())) else
 some (.inl (W,aH (s-1),aH (E+aH t),X,())))
 |.inr i=>some i) ((h.length,h.length+d.length),b,f,h++(d++q),())) (λi=>∃a,i=((h.length,h.length+d.length),a,h++(d++q),())/\0<=a/\a<4294967296/\af d/af g<=a/\a*af g<af d+af g):=by
 have d1:=e.pR;have d2:=e.wn;have fz:=e.Gn;have P:=e.IY;have gc:=e.hv.get (n:=n+1) U;have z:=e.hv.get (n:=n) U;have f3:=e.hw.get (n:=n+2) U;have f4:=e.hw.get (n:=n+1) U;have d0:=e.hw.get (n:=n) U;have f2:=e.top;have C:=CU d1;have u:=Tl d2;have H:=dW (e.hv.take n);have I:=fu (e.hv.take n);have Z:=dW (e.hw.take n);have J:=fu (e.hw.take n);rw[eB,ga U] at I J;have dl:=e.lt;have D:=es n;have aj:ax (aw g-1)=((n+1:Nat):Int):=(by simp only[a5];rw[bh U U];omega);have a4:ax (aw g-2)=((n:Nat):Int):=(by simp only[a5];rw[bh U U];omega);have bs:aQ g ((n+1:Nat):Int)=some g[n+1]:=dc U;have ce:aQ g ((n:Nat):Int)=some g[n]:=dc U;have ci:∀v:Int->cK,bt (h++(d++q)) (h.length+n) v=v d[n]:=λv=>nH U v;generalize f5:g[n+1]=v1 at*;generalize f6:g[n]=dz at*;generalize f7:d[n+2]=G at*;generalize f8:d[n+1]=d6 at*;generalize f9:d[n]=j at*;obtain⟨c,T⟩:∃c,c=4294967296*G+d6:=⟨_,rfl⟩;rw[<-T] at o S;have u:af d=(c*4294967296+j)*aI n+af (d.take n):=(by rw[u,T];grind);have fp:G<=v1:=by
  rcases hq v1 G with k|k
  ·exfalso;have ad:(v1*4294967296+dz+1)*aI n<=(v1*4294967296+4294967296)*aI n:=jN U U;have K:((v1+1)*4294967296*4294967296)*aI n<=(c*4294967296+j)*aI n:=jN U U;have am:(v1*4294967296+dz+1)*aI n=(v1*4294967296+dz)*aI n+aI n:=(by grind);have an:((v1+1)*4294967296*4294967296)*aI n=4294967296*((v1*4294967296+4294967296)*aI n):=(by grind);omega
  exact k
 have fa:0<=af d/af g:=kT (dW e.hw) U;have fb:af d/af g<4294967296:=pZ P dl;have ds:0<=c:=U;have fn:=he c v1;have f0:0<=c %v1:=ns _ U;have f1:c %v1<v1:=oE _ U;have fT:0<=c/v1:=kT ds U;have ap:∀a,0<=a->(c-a*v1)*4294967296+j<a*dz->af d/af g<a:=λa o e=>(by have:=LS D C u H J o e;exact pZ P this);have O:∀a,0<=a->a<4294967296->a*dz<=(c-a*v1)*4294967296+j->a*af g<af d+af g:=λa co cs e=>LU D C u ⟨H,I⟩ Z ⟨co,cs⟩ U z.1 e;refine ac.loop (λF=>∃a i,F=((h.length,h.length+d.length),a,i,h++(d++q),())/\0<=a/\a<=4294967297/\0<=i/\i<4294967296/\i=c-a*v1/\af d/af g<=a) (λF=>F.2.1.toNat) ⟨b,f,rfl,U,?_,U,U,?_,?_⟩ ?_
 ·rw[o];have:c<4294967298*v1:=U;have:=pZ U this;omega
 ·rw[o,S,fI];omega
 ·rcases hq (c/v1) (af d/af g) with k|k
  ·exfalso;have ad:(c/v1+1)*af g<=af d:=by
    have m:(c/v1+1)*af g<=af d/af g*af g:=jN U U;have av:=he (af d) (af g);have L:=ns (af d) (U:af g≠0);rw[fI (af d/af g)] at m;omega
   have K:(c+1)*4294967296<=(c/v1+1)*(v1*4294967296):=(by have:(c/v1+1)*(v1*4294967296)=(v1*(c/v1)+v1)*4294967296:=(by grind);omega);have am:(c+1)*4294967296*aI n<=(c/v1+1)*(v1*4294967296)*aI n:=jN K U;have an:0<=(c/v1+1)*(dz*aI n+af (g.take n)):=kh U (by have:=kh z.1 (ec D);omega);have el:(c/v1+1)*af g=(c/v1+1)*(v1*4294967296)*aI n+(c/v1+1)*(dz*aI n+af (g.take n)):=(by rw[C];grind);have em:(j+1)*aI n<=4294967296*aI n:=jN U U;have eq:(c*4294967296+j)*aI n+aI n=c*4294967296*aI n+(j+1)*aI n:=(by grind);have ex:(c+1)*4294967296*aI n=c*4294967296*aI n+4294967296*aI n:=(by grind);omega
  rw[o];exact k
 rintro _ ⟨a,i,rfl,m,av,L,a0,M,a3⟩;have w:∀a,(a-1)*v1=a*v1-v1:=λa=>(by grind);have N:af d/af g<a->ac ((aQ g (ax (aw g-1))).bind λt=>
  bif decide (aH (i+aH t)>4294967295) then
 some (.inr ((h.length,h.length+d.length),aH (a-1),h++(d++q),())) else
 some (
  .inl ((h.length,h.length+d.length),aH (a-1),aH (i+aH t),h++(d++q),()))) (λ(Y:(cz×Int×Int×a8×Unit)⊕(cz×Int×a8×Unit))=>match Y with
  |.inl V=>(∃a i,V=((h.length,h.length+d.length),a,i,h++(d++q),())/\0<=a/\a<=4294967297/\0<=i/\i<4294967296/\i=c-a*v1/\af d/af g<=a)/\V.2.1.toNat<a.toNat
  |.inr i=>∃a,i=((h.length,h.length+d.length),a,h++(d++q),())/\0<=a/\a<4294967296/\af d/af g<=a/\a*af g<af d+af g):=by
  intro fs;rw[aj,bs,aP,bV (x:=v1) U U,bV (x:=i+v1) U U,bV (x:=a-1) U U,bo];refine ac.ite (λk=>?_) λk=>?_
  ·refine ac.al.2 ⟨a-1,rfl,U,?_,U,?_⟩
   ·rcases hq (a-1) 4294967296 with l|l
    ·exact l
    exfalso;have:=jN l (U:0<=v1);rw[w] at this;omega
   have cv:a-1<4294967296:=by
    rcases hq (a-1) 4294967296 with l|l
    ·exact l
    exfalso;have:=jN l (U:0<=v1);rw[w] at this;omega
   refine O (a-1) U cv ?_;rw[w];have ge:(a-1)*dz<=4294967295*dz:=jN U z.1;omega
  refine ac.al.2 ⟨⟨a-1,i+v1,rfl,U,U,U,U,?_,U⟩,?_⟩
  ·rw[w];omega
  show(a-1).toNat<a.toNat;omega
 by_cases Q:a>4294967295
 ·simp only[aB Q,show(true==false)=false from rfl,cond_false,aP];refine(N U).mono ?_;rintro(B|B) r
  ·exact r
  exact r
 simp only[az Q,beq_self_eq_true,cond_true,a4,ce,aP];obtain⟨d4,d5⟩:=CN (x:=i) (y:=j) ⟨L,a0⟩ d0;have ft:=BG (x:=a) (y:=dz) ⟨m,U⟩ z;rw[d4,aP];simp only[nC,gR (U:n<d.length),aP,ci,d5];rw[bV (x:=dz) U U,bV (x:=a*dz) U U];by_cases R:a*dz>4294967296*i+j
 ·simp only[aB R,cond_true,aP];refine(N (ap a m (by rw[<-M];omega))).mono ?_;rintro(B|B) r
  ·exact r
  exact r
 simp only[az R,cond_false,aP];exact ac.al.2 ⟨a,rfl,m,U,a3,O a m U (by rw[<-M];omega)⟩
theorem SO (W:aK d) (X:aK g) (cv:d.length<g.length) (co:g.length<=100000000) (V:0<=b/\b<4294967296) (R:∀f e a,a.length=g.length->aK a->(∀(Q:d.length<a.length) (m:d.length<g.length),a[d.length]=g[d.length])->0<=f->f<4294967296->0<=e->e<=1->af a-aI d.length*(f+e)=af g-b*af d->v ((h.length,h.length+g.length),f,e,h++(a++q),())):ac (loop (σ:=(cz×Int×Int×Int×a8×Unit)) (ρ:=(cz×Int×Int×a8×Unit)) (λ(k,p,s,o,r,_)=>
 bif decide (o<aw d) then
 (aQ d o).bind λz=>
 (df IntKind.u64 (aH (aH (b*aH z)+p)) 32).bind λa0=>
 (bG (k.2-k.1) o).bind λad=>
 (bt r (k.1+ad) λO=>some O).bind λK=>
 (bG (k.2-k.1) o).bind λG=>
 (bt r (k.1+G) λ_=>some (r.set (k.1+G) (bL (bD IntKind.u64 (aH (aH (aH K-bD IntKind.u64 (aH (aH (b*aH z)+p)) 4294967295)-s)) 4294967295)))).bind λa4=>
 (df IntKind.u64 (aH (aH (aH K-bD IntKind.u64 (aH (aH (b*aH z)+p)) 4294967295)-s)) 32).bind λa3=>
 some (.inl (k,a0,bD IntKind.u64 a3 1,a7 o,a4,())) else
 some (.inr (k,p,s,r,()))) ((h.length,h.length+g.length),0,0,0,h++(g++q),())) v:=by
 refine ac.steps d.length (λc ap=>∃f e a,ap=((h.length,h.length+g.length),f,e,(c:Int),h++(a++q),())/\a.length=g.length/\aK a/\(∀l,c<=l->(Q:l<a.length)->(m:l<g.length)->a[l]=g[l])/\0<=f/\f<4294967296/\0<=e/\e<=1/\af a-aI c*(f+e)=af g-b*af (d.take c)) ⟨0,0,g,rfl,rfl,X,λ_ _ _ _=>rfl,U,U,U,U,by simp[af]⟩ ?_ ?_
 ·rintro c _ y ⟨f,e,a,rfl,t,m,u,A,B,C,D,w⟩;have Y:=W.get y;have dl:=m.get (n:=c) U;have cs:=BG V Y;obtain⟨j,T,H,I⟩:∃j,j=b*d[c]+f/\0<=j/\j<18446744073709551616:=⟨_,rfl,U,U⟩;simp only[aB (show(c:Int)<aw d by simp only[a5];omega),cond_true,dc y,aP];have aj:aH (aH (b*aH d[c])+f)=j:=by
   rw[bV (x:=d[c]) U U,bV (x:=b*d[c]) U U,<-T,bV H I]
  rw[aj];obtain⟨i,S,bs,ce⟩:∃i,i=a[c]-j %4294967296-e/\-4294967296<=i/\i<4294967296:=⟨_,rfl,U,U⟩;have N:aH (aH (aH a[c]-bD IntKind.u64 j 4294967295)-e)=i %18446744073709551616:=(by rw[and_low32 H I,ke,ke,ke,S];omega);have ao:i %18446744073709551616/4294967296 %2^1=-(i/4294967296):=(by rw[show(2:Int)^1=2 from rfl];omega);have an:i %18446744073709551616 %4294967296=i %4294967296:=U;simp only[ll,nC,gR (U:c<g.length),aP,nH (U:c<a.length),N,n4 (U:0<=i %18446744073709551616) U,zi (U:c<a.length)];rw[oT 1 U U 1 aa aa,ao,an];refine ac.al.2 ⟨j/4294967296,-(i/4294967296),a.set c (i %4294967296),by rw[bA U],by simp[t],m.set U U,?_,U,U,U,U,?_⟩
  ·intro l E F Z;rw[rK U];exact u l U U Z
  rw[ms U,fZ,gC y];have ci:=he i 4294967296;have f2:=he j 4294967296;generalize i/4294967296=L at*;generalize i %4294967296=M at*;generalize j/4294967296=am at*;generalize j %4294967296=J at*;generalize a[c]=av at*;have P:J=b*d[c]+f-4294967296*am:=U;generalize d[c]=bl at*;have f4:M=av-J-e-4294967296*L:=U;rw[f4,P];grind
 rintro _ ⟨f,e,a,rfl,t,m,u,A,B,C,D,w⟩;simp only[az (show¬((d.length:Int)<aw d) by simp only[a5];omega),cond_false];rw[dL (aZ _)] at w;exact ac.al.2 (R f e a t m (λE F=>u _ (aZ _) E F) A B C D w)
theorem JX (L:aK d) (M:aK g) (W:d.length<g.length) (V:g.length<=100000000) (J:∀c a,a.length=g.length->aK a->(∀(I:d.length<a.length) (j:d.length<g.length),a[d.length]=g[d.length])->0<=c->c<=1->af a+aI d.length*c=af g+af d->w ((h.length,h.length+g.length),c,h++(a++q),())):ac (loop (σ:=(cz×Int×Int×a8×Unit)) (ρ:=(cz×Int×a8×Unit)) (λ(f,m,k,l,_)=>
 bif decide (k<aw d) then
 (aQ d k).bind λB=>
 (bG (f.2-f.1) k).bind λO=>
 (bt l (f.1+O) λH=>some H).bind λC=>
 (bG (f.2-f.1) k).bind λz=>
 (bt l (f.1+z) λ_=>some (l.set (f.1+z) (bL (bD IntKind.u64 (aH (aH (aH C+aH B)+m)) 4294967295)))).bind λS=>
 (df IntKind.u64 (aH (aH (aH C+aH B)+m)) 32).bind λR=>
 some (.inl (f,R,a7 k,S,())) else
 some (.inr (f,m,l,()))) ((h.length,h.length+g.length),0,0,h++(g++q),())) w:=by
 refine ac.steps d.length (λb P=>∃c a,P=((h.length,h.length+g.length),c,(b:Int),h++(a++q),())/\a.length=g.length/\aK a/\(∀i,b<=i->(I:i<a.length)->(j:i<g.length)->a[i]=g[i])/\0<=c/\c<=1/\af a+aI b*c=af g+af (d.take b)) ⟨0,g,rfl,rfl,M,λ_ _ _ _=>rfl,U,U,by simp[af]⟩ ?_ ?_
 ·rintro b _ s ⟨c,a,rfl,o,j,p,t,u,r⟩;have X:=L.get s;have Y:=j.get (n:=b) U;obtain⟨e,K,A,Z⟩:∃e,e=a[b]+d[b]+c/\0<=e/\e<8589934592:=⟨_,rfl,U,U⟩;simp only[aB (show(b:Int)<aw d by simp only[a5];omega),cond_true,dc s,aP];have G:aH (aH (aH a[b]+aH d[b])+c)=e:=by
   rw[bV (x:=d[b]) U U,bV (x:=a[b]) U U,bV (x:=a[b]+d[b]) U U,<-K,bV A U]
  simp only[ll,nC,gR (U:b<g.length),aP,nH (U:b<a.length),G,n4 A (U:e<18446744073709551616),zi (U:b<a.length)];refine ac.al.2 ⟨e/4294967296,a.set b (e %4294967296),by rw[bA U],by simp[o],j.set U U,?_,U,U,?_⟩
  ·intro i v y N;rw[rK U];exact p i U U N
  rw[ms U,fZ,gC s];have T:=he e 4294967296;generalize e/4294967296=E at*;generalize e %4294967296=F at*;generalize a[b]=Q at*;generalize d[b]=D at*;have f4:F=Q+D+c-4294967296*E:=U;rw[f4];grind
 rintro _ ⟨c,a,rfl,o,j,p,t,u,r⟩;simp only[az (show¬((d.length:Int)<aw d) by simp only[a5];omega),cond_false];rw[dL (aZ _)] at r;exact ac.al.2 (J c a o j (λv y=>p _ (aZ _) v y) t u r)
theorem Li {h g c d i e a:Int} (n:h+b*c=g+f) (m:g=i-d*f-b*(4294967296*-1)):h+b*(e+c-4294967296*a-e)=i-(d-1)*f+b*(4294967296*(1-a)):=by have aj:b*(e+c-4294967296*a-e)=b*c-b*(4294967296*a):=(by grind);have j:(d-1)*f=d*f-f:=(by grind);have k:b*(4294967296*(1-a))=b*4294967296-b*(4294967296*a):=(by grind);have l:b*(4294967296*-1)=-(b*4294967296):=(by grind);omega
theorem Lj {e a i h g d c:Int} (j:e-b*(a+f)=g-i*h):e+b*(d-a-f-4294967296*c-d)=g-i*h-b*(4294967296*c):=by have aj:b*(d-a-f-4294967296*c-d)=-(b*(a+f))-b*(4294967296*c):=(by grind);omega
def ac.bs {d:Type} {c:Option n} {b:n->Option d} {a:d->Prop} {y:n} (e:c=some y) (f:ac (b y) a):ac (c.bind b) a:=by rw[e];exact f
theorem Lk {A C:cQ} {n:Nat} (i:tx d g n):ac (ux ((A++(g++C),A.length,A.length+g.length),d,())) (λq=>∃b,q=(A++(b++C),af g/af d,())/\b.length=g.length/\aK b/\af b=af g %af d):=by
 have H:=i.pR;have ds:=i.wn;have fb:=i.Gn;have k:=i.IY;have av:=dW i.hw;have fp:=i.top;have Q:=i.hv.get (n:=n+1) U;have O:=i.hw.get (n:=n+2) U;have cv:=i.hw.get (n:=n+1) U;have D:aw d=((n+2:Nat):Int):=(by simp only[a5];omega);have aj:ax (((n+2:Nat):Int)-1)=((n+1:Nat):Int):=(by rw[bh U U];omega);have an:aQ d ((n+1:Nat):Int)=some d[n+1]:=dc U;obtain⟨d0,ad⟩:=CN (x:=g[n+2]) (y:=g[n+1]) O cv;obtain⟨d1,d2⟩:=Ci (x:=4294967296*g[n+2]+g[n+1]) (y:=d[n+1]) ⟨U,U⟩ U;unfold ux;have m:bG (A.length+g.length-A.length) (aw d)=some (n+2):=(by rw[nC,D];exact gR U);have i1:bG (A.length+g.length-A.length) (ax (aw d-1))=some (n+1):=(by rw[nC,D,aj];exact gR U);have R:aQ d (ax (aw d-1))=some d[n+1]:=(by rw[D,aj];exact an);refine ac.bs m (ac.bs (nH U _) (ac.bs (by rw[bV O.1 U];exact d0) (ac.bs i1 (ac.bs (nH U _) (ac.bs R (ac.bs (by rw[ad,bV Q.1 U];exact d1) (ac.bs R (ac.bs (by rw[ad,bV Q.1 U];exact d2) ?_))))))));refine ac.a1 (LV i rfl rfl) ?_;rintro _ ⟨f,rfl,Z,ao,fT,f0⟩;refine ac.a1 (P:=λq=>∃e j b,q=((A.length,A.length+g.length),e,j,A++(b++C),())/\b.length=g.length/\aK b/\0<=e/\e<4294967296/\0<=j/\j<=1/\(∀(i:d.length<b.length) (L:d.length<g.length),b[d.length]=g[d.length])/\af b-aI d.length*(e+j)=af g-f*af d) (SO i.hv i.hw U U ⟨Z,ao⟩ λe j b p v T V W X Y w=>⟨e,j,b,rfl,p,v,V,W,X,Y,T,w⟩) ?_;rintro _ ⟨e,j,b,rfl,p,v,V,W,X,Y,T,w⟩;have fs:=v.get (n:=n+2) U;obtain⟨c,a0,d5,d6⟩:∃c,c=b[n+2]-e-j/\-4294967296<=c/\c<4294967296:=⟨_,rfl,U,U⟩;have K:aH (aH (aH b[n+2]-e)-j)=c %18446744073709551616:=(by rw[ke,ke,ke,a0];omega);have d3:c %18446744073709551616/4294967296 %2^1=-(c/4294967296):=(by rw[show(2:Int)^1=2 from rfl];omega);have d4:c %18446744073709551616 %4294967296=c %4294967296:=U;refine ac.bs m (ac.bs (nH U _) (ac.bs m (ac.bs (y:=A++(b.set (n+2) (c %4294967296)++C)) ?_ (ac.bs (y:=c %18446744073709551616/4294967296) ?_ ?_))))
 ·rw[nH U,K,n4 U U,zi U,d4]
 ·rw[K,ll]
 rw[oT 1 U U 1 aa aa,d3];have el:=es (n+2);have co:af (b.set (n+2) (c %4294967296))=af b+aI (n+2)*(c %4294967296-b[n+2]):=ms U _;have r:aK (b.set (n+2) (c %4294967296)):=v.set U U;rw[H] at w;have d7:=he c 4294967296;have s:af (b.set (n+2) (c %4294967296))=af g-f*af d-aI (n+2)*(4294967296*(c/4294967296)):=(by rw[co];generalize c/4294967296=z at*;generalize c %4294967296=B at*;have:B=b[n+2]-e-j-4294967296*z:=U;rw[this];exact Lj w);have bl:=fu r;have em:=dW r;rw[List.length_set,p,ds,(U:n+3=(n+2)+1),fZ] at bl;have M:=he (af g) (af d);have ex:=ns (af g) (U:af d≠0);have fa:=oE (af g) k;rw[dH,bo];refine ac.ite (λam=>?_) λam=>?_
 ·have F:c/4294967296=0:=U;rw[F] at s;have l:af g/af d=f:=by
   have E:f*af d<=af g:=U;have L:f<=af g/af d:=(Int.le_ediv_iff_mul_le k).2 E;omega
  rw[bT (by simp;omega),jh Z ao];refine ac.al.2 ⟨_,by rw[l],by simp[p],r,?_⟩;rw[s];rw[l] at M;rw[fI f];omega
 have F:c/4294967296=-1:=U;rw[F] at s;have l:af g/af d=f-1:=(by have E:af g<f*af d:=U;have L:af g/af d<f:=pZ k E;have d8:(f-1)*af d<af g+1:=(by have:(f-1)*af d=f*af d-af d:=(by grind);omega);have d9:f-1<=af g/af d:=(Int.le_ediv_iff_mul_le k).2 U;omega);have fn:=kT av (ec k);have G:(b.set (n+2) (c %4294967296)).length=g.length:=(by simp[p]);rw[<-G];refine ac.a1 (P:=λq=>∃e a,q=((A.length,A.length+(b.set (n+2) (c %4294967296)).length),e,A++(a++C),())/\a.length=g.length/\aK a/\0<=e/\e<=1/\af a+aI d.length*e=af (b.set (n+2) (c %4294967296))+af d) (JX i.hv r U U λe a I o fz J S u=>⟨e,a,rfl,by rw[I,G],o,J,S,u⟩) ?_;rintro _ ⟨h,a,rfl,I,o,J,S,u⟩;rw[G];have ft:=o.get (n:=n+2) U;refine ac.bs m (ac.bs (nH U _) (ac.bs m (ac.bs (y:=A++(a.set (n+2) ((a[n+2]+h) %4294967296)++C)) ?_ ?_)))
 ·rw[nH U,zi U,jh J U,oz]
 rw[bT (by simp;omega),bV U U,jh U U];refine ac.al.2 ⟨a.set (n+2) ((a[n+2]+h) %4294967296),by rw[l],by simp[I],o.set U U,?_⟩;have cs:af (a.set (n+2) ((a[n+2]+h) %4294967296))=af a+aI (n+2)*((a[n+2]+h) %4294967296-a[n+2]):=ms U _;have N:aK (a.set (n+2) ((a[n+2]+h) %4294967296)):=o.set U U;have ce:=fu N;have eq:=dW N;have a4:(a.set (n+2) ((a[n+2]+h) %4294967296)).length=(n+2)+1:=(by rw[List.length_set];omega);rw[a4,fZ] at ce;have f2:=he (a[n+2]+h) 4294967296;rw[H] at u;have t:af (a.set (n+2) ((a[n+2]+h) %4294967296))=af g-(f-1)*af d+aI (n+2)*(4294967296*(1-(a[n+2]+h)/4294967296)):=(by rw[cs];generalize(a[n+2]+h)/4294967296=z at*;generalize(a[n+2]+h) %4294967296=B at*;have:B=a[n+2]+h-4294967296*z:=U;rw[this];exact Li u s);rw[l] at M;have a3:af g-(f-1)*af d=af g %af d:=(by rw[fI (f-1)];omega);rw[a3] at t;have dl:=fu i.hv;rw[H] at dl;have ci:(a[n+2]+h)/4294967296=1:=by
  rcases hq 0 ((a[n+2]+h)/4294967296) with ap|ap
  ·omega
  exfalso;have:(a[n+2]+h)/4294967296=0:=U;rw[this] at t;omega
 rw[ci] at t;rw[t];simp
def uU (a:0<=b):af (bx b.toNat)=b:=by rw[iI];omega
def OT {n:Nat} (f:aK d) (m:dq d) (u:d.length=n+2):∃c:Nat,c<=31/\xn (d[n+1],())=some ((c:Int),())/\af d*2^c<aI (n+2)/\2147483648*aI (n+1)<=af d*2^c:=by
 have l:=f.get (n:=n+1) U;have q:d[n+1]≠0:=m _ (by rw[List.getLast?_eq_getElem?,bB U];congr 2;omega);have h:af d=af (d.take (n+1))+aI (n+1)*d[n+1]:=(by rw[<-gC U,dL U]);have r:=dW (f.take (n+1));have j:=fu (f.take (n+1));rw[eB,ga U] at j;generalize d[n+1]=v at*;obtain⟨a,rfl⟩:=dX l.1;have i:0<a:=U;have t:ar a<=32:=bN.2 U;have s:=lN i;obtain⟨g,o⟩:=jZ i;obtain⟨b,k⟩:∃b,ar a=b+1:=⟨ar a-1,U⟩;refine⟨32-ar a,U,?_,?_,?_⟩
 ·unfold xn;refine aq (FH (n:=a) U) ?_;show some (ax (32-(ar a:Int)),())=_;rw[bh U U];congr 2;omega
 ·have aj:af d<aI (n+1)*2^ar a:=by
   have:aI (n+1)*((a:Int)+1)<=aI (n+1)*2^ar a:=iW (by rw[<-jD];omega) (ec (es _));have p:aI (n+1)*((a:Int)+1)=aI (n+1)*(a:Int)+aI (n+1):=(by rw[Int.mul_add,Int.mul_one]);show af d<_;rw[h];show af (d.take (n+1))+aI (n+1)*(a:Int)<_;omega
  have e:af d*2^(32-ar a)<aI (n+1)*2^ar a*2^(32-ar a):=tA aj (ip _);rw[e1,<-iy,(U:ar a+(32-ar a)=32)] at e;rw[fZ,fI];rw[fI];have:aI (n+1)*2^32=4294967296*aI (n+1):=(by rw[fI];rfl);omega
 have aj:aI (n+1)*2^b<=af d:=(by have:aI (n+1)*2^b<=aI (n+1)*(a:Int):=iW (by rw[<-jD];rw[k] at g;simp only[tK] at g;omega) (ec (es _));rw[h];show _<=af (d.take (n+1))+aI (n+1)*(a:Int);omega);have e:aI (n+1)*2^b*2^(32-ar a)<=af d*2^(32-ar a):=jN aj (ec (ip _));rw[e1,<-iy,(U:b+(32-ar a)=31)] at e;have:aI (n+1)*2^31=2147483648*aI (n+1):=(by rw[fI];rfl);omega
def Lm (g:af d=b) (e:aK d) (l:dq d) (q:b<aI (a+2)) (r:2147483648*aI (a+1)<=b):∃c:d.length=a+2,2147483648<=d[a+1]:=by
 have t:=es (a+1);have k:d.length=a+2:=by
  have o:=fu e;have h:d≠[]:=λi=>(by rw[i] at g;simp only[af] at g;omega);have p:=dq.low e l h;rcases qb d.length (a+2) with c|c|c
  ·have:=ma (m:=d.length) (n:=a+1) U;omega
  ·exact c
  have:=ma (m:=a+2) (n:=d.length-1) U;omega
 refine⟨k,?_⟩;have s:af d=af (d.take (a+1))+aI (a+1)*d[a+1]:=(by rw[<-gC U,dL U]);have j:=fu (e.take (a+1));rw[eB,ga U] at j;rcases hq d[a+1] 2147483648 with f|f
 ·exfalso;have:aI (a+1)*(d[a+1]+1)<=aI (a+1)*2147483648:=iW U U;rw[Int.mul_add,Int.mul_one] at this;omega
 exact f
theorem Ln {h d i a g e c:Int} (l:(g+b*(i+c))+f*d=h) (j:i=f*a+e):(g+b*(e+c))+f*(d+b*(a-0))=h:=by subst j;have aj:b*(f*a+e+c)=b*(e+c)+b*(f*a):=(by grind);have k:f*(d+b*(a-0))=f*d+b*(f*a):=(by grind);omega
def Ll {n:Nat} (z:aK d) (J:af d=b) (d6:b<aI (n+2)) (L:d.length=n+2) (ap:2147483648<=d[n+1]) (ce:n<=10000000) (av:aK g) (Y:af g=f) (W:g.length=c) (eq:c=a+(n+2)) (d5:c<=10000000) (ad:af (g.drop a)<b) {H:jX->Prop} (X:∀i h,i.length=a->aK i->h.length=c->aK h->af h+b*af i=f->af h<b->H (i,h,())):ac (loop (σ:=(Int×a8×a8×Unit)) (ρ:=jX) (λ(r,P,u,_)=>
 bif decide (r>=0) then
 ((gW r).bind λM=>(gW (a7 (ax (r+aw d)))).bind λN=>(g9 M N u.length).bind λ_=>(y2 u.length).map λ_=>(M,N)).bind λt=>
  bif Nat.blt t.1 t.2 then
 (ux ((u,t.1,t.2),d,())).bind λ(bs,ci,_)=>
 wr P r ci λds=>
 some (.inl (ax (r-1),ds,bs,())) else none else
 some (.inr (P,u,()))) (ax (aw (List.replicate a (0:Int))-1),List.replicate a (0:Int),g,())) H:=by
 have K:0<b:=(by have o:=CU L;have q:=dW (z.take n);have d1:=z.get (n:=n) U;have d2:0<(d[n+1]*4294967296+d[n])*aI n:=nu U (es n);omega);refine ac.steps a (λl co=>∃i h,co=(((a:Nat):Int)-1-l,i,h,())/\i.length=a/\aK i/\(∀e,e<a-l->(Z:e<i.length)->i[e]=0)/\h.length=c/\aK h/\af h+b*af i=f/\af (h.drop (a-l))<b) ⟨List.replicate a 0,g,?_,ab,aK.ls _,ab,W,av,by rw[pP,Y];omega,ad⟩ ?_ ?_
 ·rw[show ax (aw (List.replicate a (0:Int))-1)=(a:Int)-1-((0:Nat):Int) from ?_];simp only[a5,nA];rw[bh U U];omega
 ·rintro l _ el ⟨i,h,rfl,ao,E,F,G,p,o,q⟩;obtain⟨e,Z⟩:∃e,a=e+1+l:=⟨a-1-l,U⟩;have aj:((a:Nat):Int)-1-(l:Int)=(e:Int):=U;rw[(U:a-l=e+1)] at q;have R:a7 (ax ((e:Int)+aw d))=((e+(n+3):Nat):Int):=by
   simp only[a5];rw[bh U U,(U:(e:Int)+(d.length:Int)=((e+(n+2):Nat):Int)),bA U];rfl
  simp only[aj,aB (U:(e:Int)>=0),cond_true,R,vl,aP,yz (U:e<=e+(n+3)/\e+(n+3)<=h.length),Re (U:0<h.length),hj,show Nat.blt e (e+(n+3))=true from by simp];obtain⟨m,v⟩:∃m,m=h.take e:=⟨_,rfl⟩;obtain⟨j,B⟩:∃j,j=(h.drop e).take (n+3):=⟨_,rfl⟩;obtain⟨k,x⟩:∃k,k=h.drop (e+(n+3)):=⟨_,rfl⟩;have w:m.length=e:=(by rw[v,eB];omega);have s:j.length=n+3:=(by rw[B,eB,kk];omega);have y:h=m++(j++k):=(by rw[v,B,x,<-oH,km,km]);have d3:k.length=c-(e+(n+3)):=(by rw[x,kk,G]);have bl:aK m:=(by rw[v];exact p.take e);have D:aK j:=(by rw[B];exact(p.drop e).take _);have O:aK k:=(by rw[x];exact p.drop _);have d7:af (h.drop e)=af j+aI (n+3)*af k:=(by rw[y,p3 U,p4 U,g4,mr,s]);have d8:af (h.drop e)=h[e]+4294967296*af (h.drop (e+1)):=jf U;have fa:=p.get (n:=e) U;have T:=dW O;have d4:0<=aI (n+3)*af k:=kh (ec (es _)) T;have em:af (h.drop e)<4294967296*b:=U;have V:af k=0:=by
   rcases hq 0 (af k) with S|S
   ·exfalso;have:=iW (U:1<=af k) (ec (es (n+3)));have d0:aI (n+3)=4294967296*aI (n+2):=fZ (n+2);have:=dW D;omega
   omega
  have Q:tx d j n:=⟨z,D,L,s,ce,ap,by rw[J];omega⟩;have am:0<=af j/b:=Int.ediv_nonneg (dW D) U;have an:af j/b<4294967296:=Int.ediv_lt_of_lt_mul K U;have d9:=Int.emod_add_mul_ediv (af j) b;have ex:=Int.emod_lt_of_pos (af j) K;have I:=Lk (A:=m) (C:=k) Q;rw[<-y,w,s,J] at I;refine ac.a1 I ?_;rintro _ ⟨cs,rfl,cv,dl,bL⟩;dsimp only;rw[nk U];refine ac.al.2 ⟨i.set e (af j/b),m++(cs++k),?_,by simp[ao],E.set am an,?_,by simp;omega,aK.append.2 ⟨bl,aK.append.2 ⟨dl,O⟩⟩,?_,?_⟩
  ·rw[bh U U];congr 1;omega
  ·intro a3 fb a4;rw[rK U];exact F a3 U (by simpa using a4)
  ·rw[ms U,F e U U,mr,mr,w,bL];rw[y,mr,mr,w] at o;rw[cv];rw[s] at o;have a0:af j=b*(af j/b)+af j %b:=U;exact Ln o a0
  rw[(U:a-(l+1)=e),p3 U,p4 U,g4,mr,V,bL];omega
 rintro _ ⟨i,h,rfl,ao,E,F,G,p,o,q⟩;have aj:¬(((a:Nat):Int)-1-(a:Int)>=0):=U;simp only[az aj,cond_false];rw[Nat.sub_self,mB] at q;exact ac.al.2 (X i h ao E G p o q)
def Cj {A B q r:Int} (f:0<B) (b:A=B*q+r) (c:0<=r) (d:r<B):A/B=q/\A %B=r:=by have e:=he A B;have a:A/B=q:=(by rw[b,Int.mul_add_ediv_left _ _ U,nq c d];omega);refine⟨a,?_⟩;rw[a] at e;omega
theorem Er (l:aK d) (p:aK g) (W:dq d) (F:dq g) (fn:d.length<=1000000) (fp:g.length<=1000000) (N:g≠[]):uy (d,g,())=some (bx (af d/af g).toNat,bx (af d %af g).toNat,()):=by
 unfold uy;refine ac.eq_iff.1 ?_;have K:=dW l;have I:0<af g:=(by have:=dW p;have:af g≠0:=λY=>N (dq.zero p F Y);omega);refine ac.bs (wK l p W F U U) ?_;dsimp only;rw[bo];refine ac.ite (λt=>?_) λt=>?_
 ·have C:af d<af g:=by
   unfold ee at t;split at t
   ·assumption
   split at t<;>omega
  refine ac.bs (uc U) (ac.al.2 ?_);rw[nq K C,nr K C];show(([]:cQ),d,())=(bx 0,bx (af d).toNat,());rw[ED,<-dq.eq l W]
 have ex:af g<=af d:=by
  unfold ee at t;split at t
  ·omega
  omega
 rw[dH,bo];refine ac.ite (λh=>?_) λh=>?_
 ·have h:g.length=1:=(by simp only[a5] at h;omega);obtain⟨o,rfl⟩:=List.length_eq_one_iff.1 h;have ce:=(aK.cons.1 p).1;have u:af [o]=o:=(by simp[af]);rw[u] at I|-;have d3:0<=af d %o:=Int.emod_nonneg _ U;have fb:af d %o<o:=Int.emod_lt_of_pos _ I;refine ac.bs (y:=o) rfl (ac.bs (Sm l U U ce.2) ?_);dsimp only;refine ac.bs (lq (aK.cons.2 ⟨⟨d3,U⟩,aK.nil⟩) ab) (ac.al.2 ?_);show(_,fO [af d %o],())=_;rw[fO];simp[af]
 obtain⟨b,co⟩:∃b,g.length=b+2:=(by have:=List.length_pos_iff.2 N;simp only[a5] at h;exact⟨g.length-2,U⟩);have aj:ax (aw g-1)=((b+1:Nat):Int):=(by simp only[a5];rw[bh U U];omega);obtain⟨a,T,d5,V,d6⟩:=OT p F co;have fa:b+2<=d.length:=by
  rcases bi d.length (b+2) with j|j
  ·have:=ow l p F U;omega
  exact j
 have D:=ip a;refine ac.bs (y:=g[b+1]) (by rw[aj];exact dc U) (ac.bs d5 ?_);refine ac.bs (zt p U U) ?_;obtain⟨s,u⟩:∃s,s=bx (af g*2^a).toNat:=⟨_,rfl⟩;have a0:0<=af g*2^a:=Int.mul_nonneg U U;have M:af s=af g*2^a:=(by rw[u,uU a0]);have bb:aK s:=(by rw[u];exact h7 _);have d7:dq s:=(by rw[u];exact k6 _);obtain⟨d0,cs⟩:=Lm M bb d7 V d6;rw[<-u];have Z:a7 (aw d)=((d.length+1:Nat):Int):=bA U;refine ac.bs (y:=d.length+1) (by rw[Z];exact iN U) ?_;refine ac.bs (zt l U U) ?_;have av:0<=af d*2^a:=Int.mul_nonneg U U;have em:af d*2^a<aI (d.length+1):=(by have w:af d*2^a<aI d.length*2^a:=Int.mul_lt_mul_of_pos_right (fu l) D;have x:aI d.length*2^a<=aI d.length*4294967296:=Int.mul_le_mul_of_nonneg_left (by have:=s5 T;omega) (Int.le_of_lt (es _));rw[fZ,Int.mul_comm 4294967296];omega);obtain⟨m,E⟩:∃m,m=bx (af d*2^a).toNat:=⟨_,rfl⟩;have R:m.length<=d.length+1:=(by rw[E];exact pa U);have d2:aK m:=(by rw[E];exact h7 _);have d1:af m=af d*2^a:=(by rw[E,uU av]);rw[<-E];obtain⟨i,O⟩:∃i,i=iF (List.replicate (d.length+1) (0:Int)) m 0 (List.replicate (d.length+1) (0:Int)).length:=⟨_,rfl⟩;have J:i=m++List.replicate (d.length+1-m.length) 0:=(by rw[O];unfold iF;rw[List.take_zero,List.nil_append,List.length_replicate,Nat.sub_zero,List.take_of_length_le R,Nat.zero_add,Nat.min_eq_left R,List.drop_replicate]);have dl:i.length=d.length+1:=(by rw[J];simp;omega);have S:aK i:=(by rw[J];exact aK.append.2 ⟨d2,aK.ls _⟩);have Q:af i=af d*2^a:=(by rw[J,mr,pP,d1];omega);dsimp only;rw[<-O];obtain⟨f,ci⟩:∃f,d.length+1=f+(b+2):=⟨d.length+1-(b+2),U⟩;have ad:ax (aw i-aw s)=((f:Nat):Int):=(by simp only[a5];rw[bh U U];omega);refine ac.bs (y:=f) (by rw[ad];exact iN U) ?_;have C:af (i.drop f)<af g*2^a:=(by have h:=nj i f U;have w:=dW (S.take f);rw[Q] at h;have x:af d*2^a<aI d.length*2^a:=Int.mul_lt_mul_of_pos_right (fu l) D;have H:aI d.length=aI f*aI (b+1):=(by rw[<-tu];congr 1;omega);have v:aI f*af (i.drop f)<aI f*(aI (b+1)*2^a):=(by rw[<-Int.mul_assoc,<-H];omega);have z:=Int.lt_of_mul_lt_mul_left v (Int.le_of_lt (es f));have el:aI (b+1)*2^a<=aI (b+1)*2147483648:=Int.mul_le_mul_of_nonneg_left (s5 T) (Int.le_of_lt (es _));omega);refine ac.a1 (P:=λX=>∃c e,X=(c,e,())/\c.length=f/\aK c/\e.length=d.length+1/\aK e/\af e+af g*2^a*af c=af d*2^a/\af e<af g*2^a) (Ll bb M V d0 cs U S Q dl ci U C λc e h w x H v z=>⟨c,e,rfl,h,w,x,H,v,z⟩) ?_;rintro _ ⟨c,e,rfl,ao,d4,fs,G,v,z⟩;have am:aw s=((b+2:Nat):Int):=(by simp only[a5];omega);dsimp only;rw[am];refine ac.bs (zl U) ?_;have cv:=dW G;have ds:af (e.take (b+2))=af e:=by
  have h:=nj e (b+2) U;have w:=dW (G.drop (b+2));have x:=dW (G.take (b+2));rcases hq 0 (af (e.drop (b+2))) with j|j
  ·exfalso;have:=iW (U:1<=af (e.drop (b+2))) (ec (es (b+2)));omega
  rw[(U:af (e.drop (b+2))=0)] at h;omega
 have L:af e=2^a*(af d-af g*af c):=(by have d8:af g*2^a*af c=2^a*(af g*af c):=(by grind);have d9:2^a*(af d-af g*af c)=2^a*af d-2^a*(af g*af c):=Int.mul_sub ..;rw[fI (af d)] at v;omega);have a3:0<=af d-af g*af c:=by
  rcases hq (af d-af g*af c) 0 with j|j
  ·have:=Int.mul_neg_of_pos_of_neg D j;omega
  exact j
 have a4:af d-af g*af c<af g:=(by have:2^a*(af d-af g*af c)<2^a*af g:=(by rw[<-L,Int.mul_comm (2^a)];exact z);exact Int.lt_of_mul_lt_mul_left this (Int.le_of_lt D));have bl:af e/2^a=af d-af g*af c:=(by rw[L];exact Int.mul_ediv_cancel_left _ U);obtain⟨ap,f2⟩:=Cj (A:=af d) (B:=af g) (q:=af c) (r:=af d-af g*af c) I U a3 a4;refine ac.bs (lq ((G.take _).drop _) (by simp;omega)) ?_;have an:fO (List.drop 0 (e.take (b+2)))=bx (af e).toNat:=(by rw[List.drop_zero,fO,ds]);dsimp only;rw[an];refine ac.bs (Az (h7 _) (k6 _) ?_ U) ?_
 ·have:=pa (n:=(af e).toNat) (k:=b+2) U;omega
 dsimp only;refine ac.bs (lq d4 U) (ac.al.2 ?_);show(fO c,_,())=_;rw[uU cv,bl,ap,f2,fO]
def pb (a:Nat):bx (a:Int).toNat=bx a:=by rw[dk]
def LG (c:0<a):bx a≠[]:=λb=>by have:=AB.1 b;omega
def lX {n k:Nat} (a:ar n<=32*k):(bx n).length<=k:=by refine pa ?_;have:=bN.1 a;rw[np,<-jD];omega
theorem OI (h:0<a) (i:c*c<=j):c<=(a+j/a)/2:=by
 rw[p9 aa];rcases bi (c*2) a with e|e
 ·exact bj (Nat.le_of_lt e) (tL _ _)
 have k:c*2-a<=j/a:=by
  rw[p9 h];obtain⟨b,f⟩:∃b,c*2=a+b:=⟨c*2-a,U⟩;rw[f,nC];have l:4*(c*c)=(a+b)*(a+b):=(by rw[<-f];grind);have m:(a+b)*(a+b)=a*a+2*(b*a)+b*b:=(by grind);rcases Nat.le_total a b with g|g
  ·obtain⟨d,rfl⟩:∃d,b=a+d:=⟨b-a,U⟩;have:(a+d)*(a+d)=a*a+2*(a*d)+d*d:=(by grind);have:(a+d)*a=a*a+a*d:=(by grind);omega
  obtain⟨d,rfl⟩:∃d,a=b+d:=⟨a-b,U⟩;have:(b+d)*(b+d)=b*b+2*(b*d)+d*d:=(by grind);have:b*(b+d)=b*b+b*d:=(by grind);omega
 omega
def OJ (d:0<a) (e:a<=(a+c/a)/2):a*a<=c:=by have b:a<=c/a:=U;rwa[p9 d] at b
def r2:ee b f>=0↔f<=b:=by
 unfold ee;split
 ·omega
 split<;>omega
def RR (m:ar c<=2000000):xk (bx c,())=some (bx (bF c),()):=by
 unfold xk;refine ac.eq_iff.1 ?_;dsimp only;rw[n3,bo];refine ac.ite (λe=>?_) λe=>?_
 ·have:=AB.1 e;subst this;exact ac.al.2 rfl
 have v:0<c:=by
  rcases gG c with d|d
  ·subst d;exact absurd rfl e
  exact d
 have x:(bx c).length<=62500:=lX U;obtain⟨h,r⟩:=qX c;have z:0<bF c:=by
  rcases gG (bF c) with d|d
  ·rw[d] at r;omega
  exact d
 refine ac.bs (Bo (h7 c) (k6 c) U) ?_;rw[iI,dk];have aj:gY IntKind.i64 (a7 (ar c:Int)) 2=some (((ar c+1)/2:Nat):Int):=(by unfold gY;rw[bA U,ak aa,wb U,wrap64 U U];simp);refine ac.bs aj ?_;refine ac.bs (zt (a:=[1]) (aK.cons.2 ⟨aa,aK.nil⟩) ab U) ?_;have i:(af [1]*2^((ar c+1)/2)).toNat=2^((ar c+1)/2):=(by rw[show af [1]=1 from by simp[af],Int.one_mul,<-jD,dk]);rw[i];refine ac.a1 (P:=λq=>q=(bx (bF c),())) ?_ (by rintro _ rfl;exact ac.al.2 rfl);refine ac.loop (λg=>∃b,g=(bx b,())/\bF c<=b/\ar b<=3000000) (λg=>(af g.1).toNat) ⟨_,rfl,?_,?_⟩ ?_
 ·refine CF h ?_;have k:=bN.1 (aZ (ar c));have l:2^ar c<=2^((ar c+1)/2)*2^((ar c+1)/2):=by
   rw[<-c4];exact nD aa U
  have t:=gO (tL (2^((ar c+1)/2)) 1) (tL (2^((ar c+1)/2)) 1);omega
 ·rw[bN];exact s2 _ 3000000 U
 rintro _ ⟨b,rfl,D,s⟩;have f:0<b:=U;have B:(bx b).length<=93750:=lX U;dsimp only;refine ac.bs (Er (h7 c) (h7 b) (k6 c) (k6 b) U U (LG f)) ?_;rw[iI,iI,<-Int.natCast_ediv,pb];dsimp only;have y:(bx (c/b)).length<=62500:=(by refine lX ?_;have:c/b<=c:=Nat.div_le_self _ _;have k:=bN.1 m;have:ar (c/b)<=2000000:=bN.2 U;omega);refine ac.bs (Cc (h7 b) (h7 (c/b)) U U) ?_;rw[iI,iI,<-Int.natCast_add,pb];dsimp only;have w:ar (b+c/b)<=3000001:=(by refine Ks 3000000 s ?_;have l:=j0 (Nat.div_le_self c b);omega);have A:(bx (b+c/b)).length<=93751:=lX U;refine ac.bs (Az (n:=1) (h7 _) (k6 _) U U) ?_;have j:(af (bx (b+c/b))/2^1).toNat=(b+c/b)/2:=(by rw[iI,show(2:Int)^1=((2:Nat):Int) from rfl,<-Int.natCast_ediv];rfl);rw[j];dsimp only;have p:ar ((b+c/b)/2)<=3000000:=(by have:=tY (b+c/b) 1;rw[Nat.pow_one] at this;omega);have C:(bx ((b+c/b)/2)).length<=93750:=lX U;refine ac.bs (wK (h7 _) (h7 b) (k6 _) (k6 b) U U) ?_;rw[iI,iI];dsimp only;rw[bo];refine ac.ite (λd=>?_) λd=>?_
 ·refine ac.al.2 ?_;have o:b<=(b+c/b)/2:=(by have:=r2.1 d;omega);have:=OJ f o;rw[Nn this (by
   have u:=gO (U:bF c+1<=b+1) (U:bF c+1<=b+1);omega)]
 refine ac.al.2 ⟨⟨(b+c/b)/2,rfl,OI f h,p⟩,?_⟩;show(af (bx ((b+c/b)/2))).toNat<(b:Int).toNat;rw[iI,dk,dk];have:=mt r2.2 d;omega
def v5 (a:mv):Prop:=aK a.2.1/\dq a.2.1/\a.2.1.length<=100000
def fJ {z:Int} (a:ar z.natAbs<=3000000):v5 (aC z):=⟨ju z,x9 z,lX U⟩
def ln (a:aK d) (c:dq d) (e:d.length<=1000000):fL (d,())=some (d,()):=by have b:=dq.eq a c;rw[lq a U];show some (bx (af d).toNat,())=_;rw[<-b]
def nJ {neg:Bool} {x:Int} (a:0<=x) (b:(bx x.toNat).length<=100000000):iH (neg,bx x.toNat,())=some (aC (if neg then-x else x),()):=by rw[rX (h7 _) b];unfold eA;simp only[uU a]
def LF {x y:Nat} {k:Nat} (a:(bx x).length<=k) (b:(bx y).length<=k):(bx (x+y)).length<=k+1:=by refine pa ?_;have c:=EC x;have d:=EC y;have e:=ma a;have f:=ma b;have g:=es k;rw[fZ];omega
def CT {l:cQ} (d:aK l) (c:l.length<=a) (g:b<=af l):(bx b.toNat).length<=a:=by refine pa ?_;have e:=fu d;have f:=ma c;have:=es a;omega
def Dt {a b:mv} (t:v5 a) (u:v5 b):qw (a,b,())=some (aC (eA a+eA b),()):=by
 obtain⟨i,a,_⟩:=a;obtain⟨h,b,_⟩:=b;obtain⟨c,j,r⟩:=t;obtain⟨d,k,s⟩:=u;dsimp only at c j r d k s;have y:=dW c;have z:=dW d;have ao:=fu c;have A:=fu d;have B:=ma (m:=a.length) (n:=100000) r;have C:=ma (m:=b.length) (n:=100000) s;have D:=es 100000;have x:∀e:Int,e<=af a+af b->(bx e.toNat).length<=100000001:=λe v=>(by have:(bx e.toNat).length<=100001:=(by refine pa ?_;rw[show(100001:Nat)=100000+1 from rfl,fZ];generalize aI 100000=w at*;omega);omega);have q:∀e:Int,e<=af a+af b->(bx e.toNat).length<=100000000:=λe v=>(by have:(bx e.toNat).length<=100001:=(by refine pa ?_;rw[show(100001:Nat)=100000+1 from rfl,fZ];generalize aI 100000=w at*;omega);omega);unfold qw;dsimp only;refine aq (ln c j U) (aq (ln d k U) ?_);dsimp only;cases f:(i==h) with
 |true=>
  have f:i=h:=(by simpa using f);subst f;refine aq (Cc c d U U) (aq (nJ U (q _ U)) ?_);dsimp only;congr 3;unfold eA;cases i<;>simp<;>omega
 |false=>
  have f:i=!h:=(by cases i<;>cases h<;>simp at f|-);refine aq (wK c d j k U U) ?_;dsimp only;rw[bo];split
  ·rename_i l;have p:af b<=af a:=r2.1 l;have o:b.length<=a.length:=by
    rcases bi a.length b.length with g|g
    ·have:=ow c d k g;omega
    exact g
   refine aq (F1 c d U o p) (aq (nJ U (q _ U)) ?_);dsimp only;congr 3;unfold eA;subst f;cases h<;>simp<;>omega
  rename_i l;have p:af a<af b:=Int.not_le.1 (mt r2.2 l);have o:a.length<=b.length:=by
   rcases bi b.length a.length with g|g
   ·have:=ow d c j g;omega
   exact g
  refine aq (F1 d c U o (Int.le_of_lt p)) (aq (nJ U (q _ U)) ?_);dsimp only;congr 3;unfold eA;subst f;cases h<;>simp<;>omega
def Ds {x y:Int} (a:ar x.natAbs<=3000000) (b:ar y.natAbs<=3000000):qw (aC x,aC y,())=some (aC (x+y),()):=by rw[Dt (fJ a) (fJ b),lr,lr]
def SN {x y:Int} (d:ar x.natAbs<=3000000) (e:ar y.natAbs<=3000000):xj (aC x,aC y,())=some (aC (x-y),()):=by unfold xj;have a:v5 ((!(aC y).1,(aC y).2):mv):=⟨ju y,x9 y,(fJ e).2.2⟩;refine aq (Dt (fJ d) a) ?_;rw[lr];have b:eA ((!(aC y).1,(aC y).2):mv)=-y:=(by have:=zx (aC y).1 (aC y).2.1;have c:=lr y;exact this.trans (congrArg _ c));rw[b];rfl
theorem Gf {x y:Int} (g:ar x.natAbs<=3000000) (h:ar y.natAbs<=3000000):uv (aC x,aC y,())=some (aC (x*y),()):=by
 unfold uv;dsimp only;obtain⟨d,i,l⟩:=fJ g;obtain⟨e,j,m⟩:=fJ h;refine aq (ln d i U) (aq (ln e j U) ?_);dsimp only;refine aq (SX d e U U) ?_;rw[g8,g8,<-Int.natCast_mul,pb];dsimp only;have k:(bx (x.natAbs*y.natAbs)).length<=100000000:=(by have:(bx (x.natAbs*y.natAbs)).length<=200000:=(by refine lX ?_;have:=oZ g h;omega);omega);have f:=nJ (neg:=!((aC x).1==(aC y).1)) (x:=((x.natAbs*y.natAbs:Nat):Int)) U (by rw[pb];exact k);rw[pb] at f;refine aq f ?_;dsimp only;congr 3;show(if(!(decide (x<0)==decide (y<0)))=true then _ else _)=_;rw[Int.natCast_mul];rcases Int.lt_or_le x 0 with b|b<;>rcases Int.lt_or_le y 0 with c|c
 ·rw[aB b,aB c];have aj:(x.natAbs:Int)=-x:=U;have a:(y.natAbs:Int)=-y:=U;rw[aj,a];simp<;>grind
 ·rw[aB b,az (U:¬y<0)];have aj:(x.natAbs:Int)=-x:=U;have a:(y.natAbs:Int)=y:=U;rw[aj,a];simp<;>grind
 ·rw[aB c,az (U:¬x<0)];have aj:(x.natAbs:Int)=x:=U;have a:(y.natAbs:Int)=-y:=U;rw[aj,a];simp<;>grind
 rw[az (U:¬y<0),az (U:¬x<0)];have aj:(x.natAbs:Int)=x:=U;have a:(y.natAbs:Int)=y:=U;rw[aj,a];simp
def Eb {x y:Int} (i:ar x.natAbs<=900000) (l:ar y.natAbs<=900000):uu (aC x,aC y,())=some (ee x y,()):=by
 obtain⟨d,e,m⟩:=fJ (z:=x) U;obtain⟨f,g,n⟩:=fJ (z:=y) U;unfold uu;refine aq (oq (gQ U)) (aq (oq (gQ U)) ?_);dsimp only;rw[bo,bo];have a:∀b:Int,b<0/\dY b=-1\/b=0/\dY b=0\/0<b/\dY b=1:=λb=>by
  unfold dY;split
  ·omega
  split<;>omega
 split
 ·rename_i o;unfold ee;rw[ak (by have:=a x;have:=a y;omega)]
 split
 ·rename_i j k;unfold ee;rw[ag (by have:=a x;have:=a y;omega),ak (by have:=a x;have:=a y;omega)]
 rename_i j k;have q:dY x=dY y:=U;refine aq (ln d e U) (aq (ln f g U) ?_);dsimp only;refine aq (wK d f e g U U) ?_;rw[g8,g8];dsimp only;have i:=a x;have l:=a y;have:dY x*ee (x.natAbs:Int) (y.natAbs:Int)=ee x y:=by
  rcases i with⟨h,c⟩|⟨h,c⟩|⟨h,c⟩<;>rw[c]
  ·unfold ee;split
   ·rw[ag U,ak U];rfl
   split
   ·rw[ak U];rfl
   rw[ag U,ag U];rfl
  ·rw[iX];unfold ee;rw[ag U,ag U]
  unfold ee;rw[Int.one_mul];split
  ·rw[ak U]
  split
  ·rw[ag U,ak U]
  rw[ag U,ag U]
 rw[this];have p:-1<=ee x y/\ee x y<=1:=by
  unfold ee;split
  ·omega
  split<;>omega
 rw[bh U U]
def Gi (b:Int) (a:Nat):(b.natAbs:Int)*2^a=((b.natAbs*2^a:Nat):Int):=by simp
def wF {m n:Nat}:ar (m*2^n)<=ar m+n:=by
 rcases gG m with a|a
 ·subst a;simp[Ku]
 rw[g7 a];exact aZ _
def Sl (j:ar b.natAbs<=1900000) (i:a<=1048576):nN (aC b,(a:Int),())=some (aC (b*2^a),0,()):=by
 obtain⟨c,e,g⟩:=fJ (z:=b) U;unfold nN;dsimp only;rw[az (U:¬((a:Int)< -1048576)),az (U:¬((a:Int)>1048576))];refine aq rfl (aq (ln c e U) ?_);dsimp only;rw[aB (U:(a:Int)>=0)];refine aq (zt c U U) ?_;rw[g8,Gi];have h:(bx (b.natAbs*2^a)).length<=100000:=lX (by have:=wF (m:=b.natAbs) (n:=a);omega);have f:=nJ (neg:=(aC b).1) (x:=((b.natAbs*2^a:Nat):Int)) U (by rw[pb];omega);refine aq f ?_;dsimp only;congr 3;show(if decide (b<0)=true then _ else _)=_;rw[<-Gi];by_cases d:b<0
 ·rw[ak (aB d),<-nv];congr 1;omega
 rw[ag (by simpa using d)];congr 1;omega
def Gl {m:Int} (a:0<b) (d:0<=m):-m/b=if m %b=0 then-(m/b) else-(m/b+1):=by
 have e:=he m b;have f:=ns m (U:b≠0);have g:=oE m a;split
 ·rename_i c;refine(Cj (A:=-m) (B:=b) (q:=-(m/b)) (r:=0) a ?_ (mw _) a).1;rw[Int.mul_neg];omega
 rename_i c;refine(Cj (A:=-m) (B:=b) (q:=-(m/b+1)) (r:=b-m %b) a ?_ U U).1;rw[Int.mul_neg,Int.mul_add,Int.mul_one];omega
def Sk (w:ar b.natAbs<=1900000) (u:a<=1048576) (v:0<a):nN (aC b,-(a:Int),())=some (aC (b/2^a),0,()):=by
 obtain⟨f,i,n⟩:=fJ (z:=b) U;have q:=ip a;unfold nN;dsimp only;rw[az (U:¬(-(a:Int)< -1048576)),az (U:¬(-(a:Int)>1048576))];refine aq rfl (aq (ln f i U) ?_);dsimp only;rw[az (U:¬(-(a:Int)>=0))];have aj:ax (0- -(a:Int))=(a:Int):=(by rw[bh U U];omega);rw[aj];refine aq (Az f i U U) ?_;rw[g8];have r:0<=(b.natAbs:Int)/2^a:=Int.ediv_nonneg U U;have h:(b.natAbs:Int)/2^a<=b.natAbs:=Int.ediv_le_self _ U;have g:∀e:Int,e<=b.natAbs->(bx e.toNat).length<=100000:=λe s=>CT (l:=(aC b).2.1) f n (by rw[g8];exact s);have t:(bx ((b.natAbs:Int)/2^a+1).toNat).length<=100001:=(by have p:=LF (x:=((b.natAbs:Int)/2^a).toNat) (y:=1) (k:=100000) (g _ h) aa;have o:((b.natAbs:Int)/2^a+1).toNat=((b.natAbs:Int)/2^a).toNat+1:=U;rw[o];exact p);dsimp only;refine aq (y:=(bx (if b<0/\(b.natAbs:Int) %2^a≠0 then(b.natAbs:Int)/2^a+1 else(b.natAbs:Int)/2^a).toNat,(false,([],())),())) ?_ ?_
 ·refine aq (y:=(decide (b<0/\(b.natAbs:Int) %2^a≠0),(false,([],())),())) ?_ ?_
  ·show(bif decide (b<0)==true then _ else _)=_;by_cases c:b<0
   ·simp[c]
   simp[c]
  dsimp only;by_cases c:b<0/\(b.natAbs:Int) %2^a≠0
  ·rw[aB c,ak c];refine aq (Cc (h7 _) (aK.cons.2 ⟨aa,aK.nil⟩) (by have:=g _ h;omega) ab) ?_;rw[uU r,show af [1]=1 from by simp[af]]
  rw[az c,ag c];rfl
 dsimp only;refine aq (nJ ?_ ?_) ?_
 ·split<;>omega
 ·split
  ·omega
  have:=g _ h;omega
 dsimp only;congr 3;show(if decide (b<0)=true then _ else _)=_;by_cases c:b<0
 ·rw[ak (aB c)];have j:=Gl (m:=b.natAbs) q U;rw[(U:-(b.natAbs:Int)=b)] at j;rw[j];by_cases d:(b.natAbs:Int) %2^a=0
  ·rw[ak d,ag (by simp[d])]
  rw[ag d,ak ⟨c,d⟩]
 rw[ag (by simpa using c),ag (by simp[c])];congr 1;omega
def Lp {x y:Int} (v:ar x.natAbs<=1900000) (A:ar y.natAbs<=1900000) (w:0<=x) (n:y≠0):xf (aC x,aC y,())=some (aC (x/y),aC (x %y),0,()):=by
 obtain⟨c,f,i⟩:=fJ (z:=x) U;obtain⟨d,g,j⟩:=fJ (z:=y) U;unfold xf;dsimp only;refine aq (ln d g U) ?_;dsimp only;have h:(aC y).2.1≠[]:=λk=>n (uT.1 k);rw[n3,az h];refine aq (ln c f U) ?_;dsimp only;refine aq (Er c d f g U U h) ?_;rw[g8,g8];dsimp only;have q:(aC x).1=false:=az U;have r:0<=(x.natAbs:Int)/(y.natAbs:Int):=Int.ediv_nonneg U U;have s:(x.natAbs:Int)/(y.natAbs:Int)<=x.natAbs:=Int.ediv_le_self _ U;have t:0<=(x.natAbs:Int) %(y.natAbs:Int):=Int.emod_nonneg _ U;have u:(x.natAbs:Int) %(y.natAbs:Int)<(y.natAbs:Int):=Int.emod_lt_of_pos _ U;have o:∀a:Int,a<=x.natAbs->(bx a.toNat).length<=100000:=λa e=>CT (l:=(aC x).2.1) c i (by rw[g8];exact e);have p:∀a:Int,a<=y.natAbs->(bx a.toNat).length<=100000:=λa e=>CT (l:=(aC y).2.1) d j (by rw[g8];exact e);rw[q];refine aq rfl ?_;dsimp only;refine aq (nJ r (by have:=o _ s;omega)) (aq (nJ t (by have:=p _ (Int.le_of_lt u);omega)) ?_);dsimp only;have aj:(x.natAbs:Int)=x:=U;rw[aj];have m:x %(y.natAbs:Int)=x %y:=by
  rcases hq y 0 with b|b
  ·rw[(U:(y.natAbs:Int)=-y),Int.emod_neg]
  rw[(U:(y.natAbs:Int)=y)]
 rw[m];congr 3;show(if(!(false==decide (y<0)))=true then _ else _)=_;rcases hq y 0 with b|b
 ·rw[aB b,(U:(y.natAbs:Int)=-y),Int.ediv_neg];simp
 rw[az (U:¬y<0),(U:(y.natAbs:Int)=y)];simp
def SD {x:Int} (f:ar x.natAbs<=900000) (i:0<=x):xi (aC x,())=some (aC (bF x.toNat),0,()):=by
 obtain⟨c,d,h⟩:=fJ (z:=x) U;unfold xi;refine aq (oq (gQ U)) ?_;dsimp only;rw[az (by unfold dY;split;omega;split<;>omega)];refine aq (ln c d U) ?_;have e:(aC x).2.1=bx x.toNat:=(by show bx x.natAbs=_;congr 1;omega);dsimp only;rw[e];refine aq (RR (by rw[(U:x.toNat=x.natAbs)];omega)) ?_;dsimp only;have l:bF x.toNat<=x.toNat:=by
  obtain⟨g,m⟩:=qX x.toNat;rcases gG (bF x.toNat) with a|a
  ·omega
  exact bj (wh _ a) g
 have b:=nJ (neg:=false) (x:=(bF x.toNat:Int)) U (by
  rw[pb];have:=lX (n:=bF x.toNat) (k:=100000) (by
   rw[bN];have:=bN.1 f;have j:=e9 900000 (32*100000) aa;omega)
  omega)
 rw[pb] at b;refine aq b ?_;rfl
def AV {n:Int} (d:-9223372036854775808<=n) (e:n<=9223372036854775807):sa (n,())=some (aC n,()):=by
 unfold sa;dsimp only;obtain⟨a,f,c,g⟩:∃a:Int,a=n.natAbs/\0<=a/\a<=9223372036854775808:=⟨_,rfl,U,U⟩;refine aq (y:=(a,(false,([],())),())) ?_ ?_
 ·rw[bo];split
  ·rename_i b;rw[ke n,ke];congr 2;omega
  rename_i b;rw[ke];congr 2;omega
 dsimp only;rw[ll,Option.bind_some,n4 c U,jh (x:=a/4294967296) U U];refine aq (rX (aK.cons.2 ⟨⟨U,U⟩,aK.cons.2 ⟨⟨U,U⟩,aK.nil⟩⟩) ab) ?_;dsimp only;congr 2;congr 1;unfold eA;simp only[af];by_cases b:n<0
 ·simp[b];omega
 simp[b];omega
def Ni (e:aK d) (s:d.length<=2) {f:be->Prop} (l:f (af d,())):ac (loop (σ:=kZ) (ρ:=be) (λ(j,b,_)=>
 bif decide (b<aw d) then
 (aQ d b).bind λp=>
 (fN IntKind.u64 (aH p) (ax (32*b))).bind λq=>
 some (.inl (dQ IntKind.u64 j q,a7 b,())) else
 some (.inr (j,()))) (0,0,())) f:=by
 refine ac.steps d.length (λa o=>o=(af (d.take a),(a:Int),())) rfl ?_ ?_
 ·rintro a _ c rfl;have i:=e.get c;simp only[aB (show(a:Int)<aw d by simp only[a5];omega),cond_true,dc c,aP];have k:=dW (e.take a);have g:=fu (e.take a);rw[eB,ga U,np] at g;have aj:ax (32*(a:Int))=((32*a:Nat):Int):=(by rw[bh U U];simp);have m:(2:Int)^(32*a)<=4294967296:=by
   rcases(U:a=0\/a=1) with rfl|rfl<;>decide
  have n:=ip (32*a);have r:d[a]*2^(32*a)<4294967296*4294967296:=(by have:=iW m i.1;omega);have h:0<=d[a]*2^(32*a):=kh i.1 (ec n);rw[aj,bV (x:=d[a]) U U,kS U U,aP,dk,nr h U,j5 (32*a) k g h U U (Int.mul_emod_left _ _),bA U];refine ac.al.2 ?_;rw[gC c,np,fI (2^(32*a))]
 rintro _ rfl;simp only[az (show¬((d.length:Int)<aw d) by simp only[a5];omega),cond_false];rw[dL (aZ _)];exact ac.al.2 l
def Nj {z:Int} (h:0<=z) (c:z<9223372036854775808):xg (aC z,())=some (z,true,()):=by have i:ar z.natAbs<=64:=bN.2 U;obtain⟨a,b,g⟩:=fJ (z:=z) U;have d:(aC z).2.1.length<=2:=lX U;unfold xg;dsimp only;refine ac.eq_iff.1 ?_;refine ac.bs (ln a b U) ?_;dsimp only;rw[az (show¬(aw (aC z).2.1>2) by simp only[a5];omega),cond_false];refine ac.a1 (P:=λf=>f=(z,())) (Ni a d (by rw[g8];congr 1;omega)) ?_;rintro _ rfl;have e:(aC z).1=false:=az U;dsimp only;rw[e];refine ac.bs (y:=.inr (z,true,())) ?_ (ac.al.2 rfl);refine aq rfl ?_;dsimp only[cond_false];rw[aB (show z<9223372036854775808 from c)];refine aq rfl ?_;dsimp only[cond_true];rw[bh U U]
def HZ (q:aK d) (s:d.length<=100000000):mS (d,())=some (fO d,()):=by
 unfold mS;refine ac.eq_iff.1 ?_;refine ac.a1 (P:=λj=>∃a:Nat,j.1=(a:Int)/\a<=d.length/\(∀b,a<=b->(l:b<d.length)->d[b]=0)/\dq (d.take a)) ?_ ?_
 ·refine ac.loop (λh=>∃a:Nat,h.1=(a:Int)/\a<=d.length/\(∀b,a<=b->(l:b<d.length)->d[b]=0)) (λh=>h.1.toNat) ⟨d.length,rfl,aZ _,λb e f=>by omega⟩ ?_;rintro⟨_,_⟩ ⟨a,rfl,e,f⟩;rcases a with _|a
  ·refine ac.al.2 ⟨0,rfl,eU _,f,λm c=>by simp at c⟩
  have aj:ax (((a+1:Nat):Int)-1)=(a:Int):=(by rw[bh U U];omega);have n:decide (((a+1:Nat):Int)>0)=true:=aB U;simp only[aj,n,beq_self_eq_true,cond_true,dc (show a<d.length from e),aP];by_cases i:d[a]=0
  ·rw[dH,aB i];refine ac.al.2 ⟨⟨a,rfl,U,λb l p=>?_⟩,?_⟩
   ·rcases bi a b with k|k
    ·exact f b k p
    obtain rfl:b=a:=U;exact i
   show(a:Int).toNat<((a+1:Nat):Int).toNat;omega
  rw[dH,az i];refine ac.al.2 ⟨a+1,rfl,e,f,λm c=>?_⟩;rw[jV,bB e] at c;have c:(d.take a++[d[a]]).getLast?=some m:=c;rw[List.getLast?_concat] at c;cases c;exact i
 rintro⟨_,_⟩ ⟨a,rfl,e,f,o⟩;dsimp only;refine ac.a1 (P:=λj=>j=(d.take a,())) ?_ ?_
 ·refine ac.steps a (λg h=>h=((g:Int),d.take g,())) rfl ?_ ?_
  ·rintro g _ r rfl;simp only[aB (U:(g:Int)<(a:Int)),cond_true,dc (U:g<d.length),aP];rw[eE (by simp;omega),bA U];refine ac.al.2 ?_;show _=(_,d.take (g+1),());rw[jV,bB U];rfl
  rintro _ rfl;simp only[az (U:¬((a:Int)<(a:Int))),cond_false];exact ac.al.2 rfl
 rintro _ rfl;refine ac.al.2 ?_;show(d.take a,())=_;rw[IB q e f o]
def vF (a:aK d) (e:d.length<=100000000):kA (l,d,())=some (aC (eA (l,d,())),()):=by
 unfold kA;refine aq (HZ a e) ?_;have b:=Ez (neg:=l) (Iy d) (Iz d);have c:eA (l,fO d,())=eA (l,d,()):=(by unfold eA;simp only[IA a]);rw[<-c,<-b];dsimp only;cases l
 ·simp
 simp only[beq_self_eq_true,cond_true,Bool.true_and];congr 3;rw[decide_eq_decide];simp only[a5];rw[<-List.length_pos_iff];omega
def vG (a:aK d) (c:d.length<=100000000) (e:af d=b):kA (l,d,())=some (aC (if l then-b else b),()):=by rw[vF a c];unfold eA;simp only[e]
def ta {l:cQ} (a:aK l) (c:dq l) (d:l.length<=1000000):mS (l,())=some (l,()):=by have b:=dq.eq a c;rw[HZ a U];show some (bx (af l).toNat,())=_;rw[<-b]
def HP {a:mv} (b:aK a.2.1) (c:a.2.1.length<=100000000):o7 (a,())=some (aC (eA a),()):=by unfold o7;exact aq (vF b c) rfl
def ze (a:ar b.natAbs<=3000000):o7 (aC b,())=some (aC b,()):=by rw[HP (ju b) (by have:=(fJ a).2.2;omega),lr]
def RI (a:ar b.natAbs<=3000000):xJ (aC b,())=some (aC (-b),()):=by unfold xJ;refine aq (vF (ju b) (by have:=(fJ a).2.2;omega)) ?_;rw[zx];show some (aC (-eA (aC b)),())=_;rw[lr]
def Ck (a:ar b.natAbs<=3000000):sj (aC b,())=some (aC b.natAbs,()):=by unfold sj;refine aq (vF (ju b) (by have:=(fJ a).2.2;omega)) ?_;rw[IR (ju b) (aC b).1];show some (aC ((eA (aC b)).natAbs:Int),())=_;rw[lr]
def s9 {z:Int} (a:ar z.natAbs<=3000000):nO (aC z,())=some (dY z,()):=by
 unfold nO;refine aq (ze a) ?_;simp only[n3,bo,uT];unfold dY;split
 ·rfl
 show(bif decide (z<0) then _ else _)=_;rw[bo];split<;>rfl
def Cl {z:Int} (d:ar z.natAbs<=3000000):uH (aC z,())=some ((ar z.natAbs:Int),()):=by obtain⟨b,c,e⟩:=fJ d;have a:=Bo b c U;rw[g8] at a;unfold sc at a;unfold uH;refine aq (ta b c U) ?_;dsimp only at a|-;simp only[Int.mul_comm 32];exact a
def H0 {z:Int} (v:ar z.natAbs<=900000) (s:z≠0):nP (aC z,())=some ((a9 z.natAbs:Int),()):=by
 obtain⟨i,k,r⟩:=fJ (z:=z) U;unfold nP;refine aq (ta i k U) ?_;have u:=g8 z;dsimp only;generalize(aC z).2.1=b at*;have o:z.natAbs=(af b).toNat:=U;rw[o];refine ac.eq_iff.1 (ac.a1 (P:=λg=>match g with|.inl _=>False|.inr p=>p=((a9 (af b).toNat:Int),())) ?_ ?_)
 ·refine ac.steps b.length (λa q=>q=((a:Int),())/\af (b.take a)=0) ⟨rfl,rfl⟩ ?_ ?_
  ·rintro a _ e ⟨rfl,d⟩;have j:=i.get e;simp only[aB (show(a:Int)<aw b by simp only[a5];omega),cond_true,dc e,aP,dN];by_cases c:b[a]=0
   ·simp only[aB c,kf,cond_false];refine ac.al.2 ⟨by rw[bA U],?_⟩;rw[gC e,c,d];simp
   simp only[az c,ly,cond_true];have l:=IK (x:=0) d e i c;rw[l];obtain⟨h,m⟩:=dX j.1;rw[m] at j c|-;have t:a9 h<32:=fA (ov U) (bN.2 U);refine ac.of_eq (aq (IJ (n:=h) U U) rfl) ?_;show(ax (ax (32*(a:Int))+(a9 h:Int)),())=_;rw[bh (x:=32*(a:Int)) U U,bh U U];congr 1
  rintro _ ⟨rfl,d⟩;exfalso;rw[dL (aZ _)] at d;omega
 rintro(g|g) f
 ·exact f.elim
 have f:g=_:=f;rw[f];exact ac.al.2 rfl
def Ht {n:Nat} (c:n<=1000000000):∃b a:Nat,n=32*b+a/\a<32/\gY IntKind.i64 (n:Int) 32=some (b:Int)/\gn (n:Int) 32=some (a:Int):=by
 refine⟨n/32,n %32,U,U,?_,?_⟩
 ·unfold gY;rw[ak aa,wb U,wrap64 U U];simp
 unfold gn;rw[ak aa,wc U];simp
theorem R0 {n:Nat} (C:aK d) (R:d.length<=10000000) (O:n<=100000000):ac (xN (d,(n:Int),())) (λk=>∃b,k=(b,())/\aK b/\af b=af d*2^n/\b.length=n/32+d.length+1):=by
 unfold xN;obtain⟨g,a,H,Q,F,G⟩:=Ht (n:=n) U;have m:=ip a;have B:=re (p:=a) U;have A:(2:Int)^a<=2147483648:=s5 U;dsimp only;refine ac.bs F (ac.bs (iN U) ?_);refine ac.a1 (P:=λk=>∃c b,k=(c,b,())/\b.length=g+d.length/\aK b/\0<=c/\c<2^a/\af b+aI (g+d.length)*c=aI g*(2^a*af d)) ?_ ?_
 ·refine ac.steps d.length (λe J=>∃c b,J=(c,(e:Int),b,())/\b.length=g+e/\aK b/\0<=c/\c<2^a/\af b+aI (g+e)*c=aI g*(2^a*af (d.take e))) ⟨0,List.replicate g 0,rfl,ab,aK.ls _,U,m,by simp[af,pP]⟩ ?_ ?_
  ·rintro e _ o ⟨c,b,rfl,ao,j,h,l,i⟩;have v:=C.get o;simp only[aB (show(e:Int)<aw d by simp only[a5];omega),cond_true,dc o,aP,G];have E:d[e]*2^a<4294967296*2^a:=tA v.2 m;have D:d[e]*2^a<=4294967295*2^a:=jN U U;have t:0<=d[e]*2^a:=kh v.1 (ec m);obtain⟨f,u,K,L,M⟩:∃f,f=c+d[e]*2^a/\0<=f/\f<18446744073709551616/\f<4294967296*2^a:=⟨_,rfl,U,U,U⟩;have q:fN IntKind.u64 (aH d[e]) (a:Int)=some (d[e]*2^a):=by
    rw[bV (x:=d[e]) U U,kS U U,dk];congr 1;omega
   have r:dQ IntKind.u64 c (d[e]*2^a)=f:=(by rw[j5 a h l t U U (Int.mul_emod_left _ _),u]);have s:f/4294967296<2^a:=pZ aa (by rw[fI];omega);rw[q,aP,r,eE (by simp;omega),ll,oz];refine ac.al.2 ⟨f/4294967296,b++[f %4294967296],by rw[bA U],by simp[ao];omega,j.snoc U U,U,s,?_⟩;rw[ni,ao,(U:g+(e+1)=(g+e)+1),fZ,gC o];have y:=he f 4294967296;rw[tu] at i|-;generalize f/4294967296=I at*;generalize f %4294967296=k at*;generalize(2:Int)^a=w at*;generalize d[e]=N at*;have z:k=c+N*w-4294967296*I:=U;clear y q r s u K L M E D t B A;subst z;grind
  rintro _ ⟨c,b,rfl,ao,j,h,l,i⟩;simp only[az (show¬((d.length:Int)<aw d) by simp only[a5];omega),cond_false];rw[dL (aZ _)] at i;exact ac.al.2 ⟨c,b,rfl,ao,j,h,l,i⟩
 rintro _ ⟨c,b,rfl,ao,j,h,l,i⟩;dsimp only;rw[jh h U,eE (by simp;omega)];refine ac.al.2 ⟨b++[c],rfl,j.snoc h U,?_,by simp;omega⟩;rw[ni,ao,i,np,H,Int.pow_add];grind
def Rt (h:aK d) (i:aK g) (p:dq d) (q:dq g) (u:d.length<=10000000) (v:g.length<=10000000):xM (d,g,())=some (ee (af d) (af g),()):=by
 unfold xM;refine ac.eq_iff.1 ?_;simp only[dN,a5];by_cases t:d.length=g.length
 ·rw[aB (U:(d.length:Int)=g.length)];simp only[kf,cond_false];refine ac.a1 (P:=λl=>match l with|.inl _=>af d=af g|.inr n=>n=(ee (af d) (af g),())) ?_ ?_
  ·refine ac.steps d.length (λb o=>o=(((d.length:Nat):Int)-1-b,())/\af (d.drop (d.length-b))=af (g.drop (d.length-b))) ⟨?_,?_⟩ ?_ ?_
   ·rw[bh U U];simp
   ·rw[nw U,nw U]
   ·rintro b _ r ⟨rfl,c⟩;obtain⟨a,s⟩:∃a,d.length=a+1+b:=⟨d.length-1-b,U⟩;have aj:((d.length:Nat):Int)-1-(b:Int)=(a:Int):=U;have j:a<d.length:=U;have k:a<g.length:=U;rw[(U:d.length-b=a+1)] at c;simp only[aj,aB (U:(a:Int)>=0),cond_true,dc j,dc k,aP];by_cases m:d[a]=g[a]
    ·simp only[aB m,kf,cond_false];refine ac.al.2 ⟨?_,?_⟩
     ·rw[bh U U];congr 1;omega
     rw[(U:d.length-(b+1)=a),jf j,jf k,m,c]
    simp only[az m,ly,cond_true];rw[bo];refine ac.ite (λf=>?_) λf=>?_
    ·refine ac.al.2 ?_;show((-1:Int),())=_;unfold ee;rw[ak (zy h i j k c f)]
    refine ac.al.2 ?_;show((1:Int),())=_;have:=zy i h k j c.symm U;unfold ee;rw[ag U,ak this]
   rintro _ ⟨rfl,c⟩;have aj:¬(((d.length:Nat):Int)-1-(d.length:Int)>=0):=U;simp only[az aj,cond_false];refine ac.al.2 ?_;simpa using c
  rintro(l|l) e
  ·refine ac.al.2 ?_;have e:af d=af g:=e;unfold ee;rw[e];simp
  have e:l=_:=e;rw[e];exact ac.al.2 rfl
 rw[az (U:¬(d.length:Int)=g.length)];simp only[ly,cond_true];rw[bo];unfold ee;refine ac.ite (λf=>ac.al.2 ?_) λf=>ac.al.2 ?_
 ·rw[ak (ow h i q U)]
 have:=ow i h p U;rw[ag U,ak this]
theorem NR (k:aK d) (x:j<32) (w:c+a<d.length) (v:b=af (d.drop c)):b/2^j/aI a %4294967296=(d[c+a]+4294967296*d.getD (c+a+1) 0)/2^j %4294967296:=by
 have s:=ip j;have t:=re (p:=j) U;have u:b/aI a=(d[c+a]+4294967296*d.getD (c+a+1) 0)+4294967296*(4294967296*af (d.drop (c+a+2))):=by
  have g:d.drop c=(d.drop c).take a++d.drop (c+a):=by
   conv=>lhs;rw[<-km a (d.drop c)]
   rw[oH]
  have h:b=af ((d.drop c).take a)+aI a*af (d.drop (c+a)):=by
   rw[v]
   conv=>lhs;rw[g]
   rw[mr,eB,kk,ga U]
  have o:=dW ((k.drop c).take a);have i:=fu ((k.drop c).take a);rw[eB,kk,ga U] at i;have q:af (d.drop (c+a))=d[c+a]+4294967296*af (d.drop (c+a+1)):=jf U;have r:af (d.drop (c+a+1))=d.getD (c+a+1) 0+4294967296*af (d.drop (c+a+2)):=by
   rcases bi (c+a+1) d.length with f|f
   ·rw[ie f];exact jf f
   rw[mW f,nw f,nw U];rfl
  rw[h,rE _ _ (by have:=es a;omega),nq o i,q,r];grind
 have g:b/2^j/aI a=b/aI a/2^j:=(by rw[pY (ec s),pY (ec (es a)),fI]);rw[g,u];generalize d[c+a]+4294967296*d.getD (c+a+1) 0=l;have h:∀e:Int,l+4294967296*(4294967296*e)=l+2^j*(4294967296*(2^(32-j)*e)):=λe=>(by generalize(2:Int)^j=m at*;generalize(2:Int)^(32-j)=n at*;rw[show(4294967296:Int)*(4294967296*e)=(m*n)*(4294967296*e) by rw[<-t]];grind);rw[h,rE _ _ U,tz]
def N1 (f:aK d) (o:c<32) (j:a<d.length):(decide (af d %(aI a*2^c)≠0))=(decide (af (d.take a)≠0)||decide (d[a] %2^c≠0)):=by have l:=ip c;have m:=re (p:=c) U;have n:=dW (f.take a);have g:=fu (f.take a);rw[eB,ga U] at g;have e:=FN (x:=af (d.take a)) (b:=aI a) (y:=af (d.drop a)) (P:=2^c) (P':=0) (es a) ⟨n,g⟩ l;rw[<-nj d a U] at e;have k:af (d.drop a) %2^c=d[a] %2^c:=(by rw[jf j,m,e1,tz]);rw[k] at e;by_cases h:af (d.take a)=0<;>by_cases i:d[a] %2^c=0<;>simp[h,i,e]
theorem HX {n:Nat} (h:aK d) (bl:d.length<=10000000) (a4:n<=1000000000):ac (uJ (d,(n:Int),())) (λi=>∃e,i=(e,decide (af d %2^n≠0),())/\aK e/\af e=af d/2^n/\e.length<=d.length):=by
 unfold uJ;obtain⟨a,c,ad,J,w,Y⟩:=Ht (n:=n) U;have E:=ip c;have av:=re (p:=c) U;have an:(2:Int)^c<=2147483648:=s5 U;have T:(2:Int)^n=aI a*2^c:=(by rw[np,ad,Int.pow_add]);have K:=dW h;dsimp only;refine ac.a1 (P:=λi=>i=(decide (af (d.take a)≠0),())) ?_ ?_
 ·have M:∀b,min a d.length=b->decide (af (d.take a)≠0)=decide (af (d.take b)≠0):=λb l=>by
   rcases Nat.le_total a d.length with f|f
   ·rw[ga f] at l;rw[l]
   rw[Nat.min_eq_right f] at l;rw[<-l,dL f,dL (aZ _)]
  refine ac.steps (min a d.length) (λb s=>s=(decide (af (d.take b)≠0),(b:Int),())) (by simp[af]) ?_ ?_
  ·rintro b _ l rfl;have t:=h.get (n:=b) U;simp only[w,aP,aB (U:(b:Int)<(a:Int)),beq_self_eq_true,cond_true,aB (show(b:Int)<aw d by simp only[a5];omega),dc (U:b<d.length),bA (U:b<9223372036854775807),dN];have z:af (d.take (b+1))=af (d.take b)+aI b*d[b]:=gC U;have ap:=dW (h.take b);have C:=es b;by_cases f:af (d.take b)=0
   ·rw[az (show¬(af (d.take b)≠0) fromλo=>o f)];refine ac.al.2 ?_;show((!decide (d[b]=0)),_,())=_;congr 1;rw[z,f];by_cases k:d[b]=0
    ·simp[k]
    have:=nu C (U:0<d[b]);rw[az k,aB (U:(0:Int)+aI b*d[b]≠0)];rfl
   rw[aB (show af (d.take b)≠0 from f)];refine ac.al.2 ?_;show(true,_,())=_;congr 1;have:=kh (ec C) t.1;rw[z,aB (U:af (d.take b)+aI b*d[b]≠0)]
  rintro _ rfl;simp only[w,aP];by_cases f:min a d.length<a
  ·simp only[aB (U:((min a d.length:Nat):Int)<(a:Int)),beq_self_eq_true,cond_true,az (show¬(((min a d.length:Nat):Int)<aw d) by simp only[a5];omega),cond_false,aP];refine ac.al.2 ?_;rw[M _ rfl]
  simp only[az (U:¬(((min a d.length:Nat):Int)<(a:Int))),show(false==true)=false from rfl,cond_false,aP];refine ac.al.2 ?_;rw[M _ rfl]
 rintro _ rfl;dsimp only;refine ac.bs Y (ac.bs w ?_);rw[T];rcases Nat.lt_or_ge a d.length with o|o
 ·obtain⟨g,v⟩:∃g,g=af (d.drop a):=⟨_,rfl⟩;have F:0<=g:=(by rw[v];exact dW (h.drop a));have Z:af d=af (d.take a)+aI a*g:=(by rw[v];exact nj d a U);have W:=dW (h.take a);have I:=fu (h.take a);rw[eB,ga U] at I;have V:af d/(aI a*2^c)=g/2^c:=by
   rw[<-pY (ec (es a)),Z,rE _ _ (by have:=es a;omega),nq W I,Int.zero_add]
  obtain⟨m,a3⟩:∃m,d.length=a+m:=⟨d.length-a,U⟩;have a0:g<aI m:=(by have:=fu (h.drop a);rw[kk,(U:d.length-a=m),<-v] at this;exact this);have S:=N1 h J o;refine ac.a1 (P:=λi=>∃e,i=(decide (af d %(aI a*2^c)≠0),e,())/\e.length=m/\aK e/\af e=g/2^c) ?_ ?_
  ·refine ac.steps m (λb s=>∃e,s=(if b=0 then decide (af (d.take a)≠0) else decide (af d %(aI a*2^c)≠0),((a+b:Nat):Int),e,())/\e.length=b/\aK e/\af e+aI b*(g/2^c/aI b)=g/2^c) ⟨[],rfl,rfl,aK.nil,by simp[af,tv]⟩ ?_ ?_
   ·rintro b _ l ⟨e,rfl,ao,u,r⟩;have t:=h.get (n:=a+b) U;have L:=h.getD (a+b+1);obtain⟨j,q,N,am⟩:∃j,j=d[a+b]+4294967296*d.getD (a+b+1) 0/\0<=j/\j<18446744073709551616:=⟨_,rfl,U,U⟩;have G:g/2^c/aI b %4294967296=j/2^c %4294967296:=(by rw[q];exact NR h J U v);have X:0<=j/2^c:=Int.ediv_nonneg N (Int.le_of_lt E);have y:a7 ((a+b:Nat):Int)=((a+b+1:Nat):Int):=bA U;dsimp only;rw[bT (aB (show((a+b:Nat):Int)<aw d by simp only[a5];omega))];refine ac.a1 (P:=λi=>i=(decide (af d %(aI a*2^c)≠0),e++[j/2^c %4294967296],())) ?_ ?_
    ·refine ac.bs (dc U) ?_;refine ac.a1 (P:=λi=>i=(j,e,())) ?_ ?_
     ·rw[y,bo];refine ac.ite (λf=>?_) λf=>?_
      ·have f:a+b+1<d.length:=(by simp only[a5] at f;omega);rw[dc f,aP,bV (x:=d[a+b+1]) (by have:=h.get f;omega) (by have:=h.get f;omega),kS aa aa];rw[ie f] at q L;have O:d[a+b+1]*2^(32:Int).toNat %18446744073709551616=4294967296*d[a+b+1]:=by
        rw[show(2:Int)^(32:Int).toNat=4294967296 from rfl];omega
       rw[aP,O,bV U U,j5 32 t.1 t.2 U U U U];refine ac.al.2 ?_;rw[<-q]
      have f:d.length<=a+b+1:=(by simp only[a5] at f;omega);rw[mW f] at q;rw[bV U U];refine ac.al.2 ?_;rw[q];simp
     rintro _ rfl;dsimp only;refine ac.a1 (P:=λi=>i=(decide (af d %(aI a*2^c)≠0),e,())) ?_ ?_
     ·refine ac.bs w ?_;by_cases H:b=0
      ·subst H;have A:(((a+0:Nat):Int)==(a:Int))=true:=ab;rw[A];simp only[beq_self_eq_true,cond_true];refine ac.bs (dc U) ?_;rw[If U U,aP,dk,Int.one_mul,nr U U,jh U U,DB c (h.get (n:=a+0) U).1 (h.get (n:=a+0) U).2 U,dN,S];have Q:d[a+0]=d[a]:=rfl;rw[Q];by_cases k:d[a] %2^c=0
       ·rw[aB k];refine ac.al.2 ?_;simp[k]
       rw[az k];refine ac.al.2 ?_;simp[k]
      have A:(((a+b:Nat):Int)==(a:Int))=false:=(by rw[dH];exact az U);rw[A];simp only[show(false==true)=false from rfl,cond_false];refine ac.al.2 ?_;rw[ag H]
     rintro _ rfl;dsimp only;rw[pJ U U,Option.bind_some,Int.toNat_natCast,eE (by simp;omega),oz];exact ac.al.2 rfl
    rintro _ rfl;dsimp only;refine ac.al.2 ⟨e++[j/2^c %4294967296],by rw[y,if_neg U];rfl,by simp[ao],u.snoc U U,?_⟩;rw[ni,ao,<-G,fZ,Int.mul_comm 4294967296 (aI b),<-Int.ediv_ediv_of_nonneg (Int.le_of_lt (es b))];have D:=Int.emod_add_mul_ediv (g/2^c/aI b) 4294967296;generalize g/2^c/aI b %4294967296=i at*;generalize g/2^c/aI b/4294967296=ce at*;rw[<-D] at r;clear G D q N am X t L y;grind
   rintro _ ⟨e,rfl,ao,u,r⟩;dsimp only;rw[bR (az (show¬(((a+m:Nat):Int)<aw d) by simp only[a5];omega)),if_neg U];refine ac.al.2 ⟨e,rfl,ao,u,?_⟩;have B:0<=g/2^c:=Int.ediv_nonneg F (Int.le_of_lt E);have R:g/2^c<=g:=Int.ediv_le_self _ F;rw[Int.ediv_eq_zero_of_lt B U] at r;simpa using r
  rintro _ ⟨e,rfl,ao,u,r⟩;exact ac.al.2 ⟨e,rfl,u,by rw[r,V],U⟩
 have B:=fu h;have R:=ma o;have z:aI a*1<=aI a*2^c:=iW U (ec (es a));rw[nq K U,nr K U,dL o];refine ac.a1 (P:=λi=>i=(decide (af d≠0),[],())) ?_ ?_
 ·refine ac.steps 0 (λb s=>s=(decide (af d≠0),(a:Int),[],())) rfl (λb s l=>by omega) ?_;rintro _ rfl;dsimp only;rw[bR (az (show¬((a:Int)<aw d) by simp only[a5];omega))];exact ac.al.2 rfl
 rintro _ rfl;exact ac.al.2 ⟨[],rfl,aK.nil,rfl,ab⟩
theorem Rq (s:aK d) (t:aK g) (F:d.length<=10000000) (G:g.length<=10000000):ac (xL (d,g,())) (λh=>∃a,h=(a,())/\aK a/\af a=af d+af g/\a.length<=d.length+g.length+1):=by
 unfold xL;dsimp only;obtain⟨i,E⟩:∃i,i=max d.length g.length:=⟨_,rfl⟩;have u:(if aw g>aw d then aw g else aw d)=(i:Int):=(by simp only[a5];split<;>omega);rw[u];refine ac.a1 (P:=λh=>∃c a,h=(c,a,())/\a.length=i/\aK a/\0<=c/\c<=1/\af a+aI i*c=af d+af g) ?_ ?_
 ·refine ac.steps i (λb z=>∃c a,z=(c,(b:Int),a,())/\a.length=b/\aK a/\0<=c/\c<=1/\af a+aI b*c=af (d.take b)+af (g.take b)) ⟨0,[],rfl,rfl,aK.nil,U,U,by simp[af]⟩ ?_ ?_
  ·rintro b _ D ⟨c,a,rfl,j,k,l,o,m⟩;have v:=s.getD b;have w:=t.getD b;obtain⟨f,n,A,B,p⟩:∃f,f=c+d.getD b 0+g.getD b 0/\0<=f/\f<18446744073709551616/\f/4294967296<=1:=⟨_,rfl,U,U,U⟩;dsimp only;rw[bT (aB (U:(b:Int)<(i:Int)))];refine ac.a1 (P:=λh=>h=(f/4294967296,a++[f %4294967296],())) ?_ ?_
   ·refine ac.a1 (P:=λh=>h=(c+d.getD b 0,a,())) ?_ ?_
    ·simp only[bo];refine ac.ite (λe=>?_) λe=>?_
     ·have e:b<d.length:=(by simp only[a5] at e;omega);rw[dc e];rw[ie e] at v|-;refine ac.al.2 ?_;rw[bV (x:=d[b]) U U,bV U U]
     have e:d.length<=b:=(by simp only[a5] at e;omega);rw[mW e,Int.add_zero];exact ac.al.2 rfl
    rintro _ rfl;refine ac.a1 (P:=λh=>h=(f,a,())) ?_ ?_
    ·simp only[bo];refine ac.ite (λe=>?_) λe=>?_
     ·have e:b<g.length:=(by simp only[a5] at e;omega);rw[dc e];rw[ie e] at w n;refine ac.al.2 ?_;rw[bV (x:=g[b]) U U,bV U U,n]
     have e:g.length<=b:=(by simp only[a5] at e;omega);rw[mW e,Int.add_zero] at n;rw[n];exact ac.al.2 rfl
    rintro _ rfl;dsimp only;rw[eE (by simp;omega),oz,ll];exact ac.al.2 rfl
   rintro _ rfl;dsimp only;refine ac.al.2 ⟨f/4294967296,a++[f %4294967296],by rw[bA U],by simp[j],k.snoc U U,U,p,?_⟩;rw[ni,j,fZ,vU,vU];have:=Int.emod_add_mul_ediv f 4294967296;generalize f/4294967296=y at*;generalize f %4294967296=h at*;generalize d.getD b 0=q at*;generalize g.getD b 0=C at*;have r:h=c+q+C-4294967296*y:=U;clear this n A B p;subst r;grind
  rintro _ ⟨c,a,rfl,j,k,l,o,m⟩;dsimp only;rw[bR (az (U:¬((i:Int)<(i:Int))))];rw[List.take_of_length_le U,List.take_of_length_le U] at m;exact ac.al.2 ⟨c,a,rfl,j,k,l,o,m⟩
 rintro _ ⟨c,a,rfl,j,k,l,o,m⟩;dsimp only;rw[eE (by simp;omega),jh l U];refine ac.al.2 ⟨a++[c],rfl,k.snoc l U,?_,by simp;omega⟩;rw[ni,j,m]
def Sn (a:Int):df .u64 a 63=some (a/9223372036854775808):=by have:df .u64 a 63=some (a.fdiv 9223372036854775808):=rfl;rw[this,v9 _ aa]
theorem HY (t:aK d) (u:aK g) (G:d.length<=10000000) (w:g.length<=d.length) (E:af g<=af d):ac (uK (d,g,())) (λh=>∃a,h=(a,())/\aK a/\af a=af d-af g/\a.length=d.length):=by
 unfold uK;dsimp only;refine ac.a1 (P:=λh=>∃a b,h=(a,())/\a.length=d.length/\aK a/\0<=b/\b<=1/\af a-aI d.length*b=af d-af g) ?_ ?_
 ·refine ac.steps d.length (λe A=>∃b a,A=(b,(e:Int),a,())/\a.length=e/\aK a/\0<=b/\b<=1/\af a-aI e*b=af (d.take e)-af (g.take e)) ⟨0,[],rfl,rfl,aK.nil,U,U,by simp[af]⟩ ?_ ?_
  ·rintro e _ o ⟨b,a,rfl,i,j,m,n,l⟩;have F:=t.get o;have x:=u.getD e;obtain⟨c,k,p,q⟩:∃c,c=d[e]-b-g.getD e 0/\-4294967296<=c/\c<4294967296:=⟨_,rfl,U,U⟩;dsimp only;rw[bT (aB (show(e:Int)<aw d by simp only[a5];omega))];refine ac.a1 (P:=λh=>h=(-(c/4294967296),a++[c %4294967296],())) ?_ ?_
   ·refine ac.bs (dc o) ?_;refine ac.a1 (P:=λh=>h=(c %18446744073709551616,a,())) ?_ ?_
    ·simp only[bo];refine ac.ite (λf=>?_) λf=>?_
     ·have f:e<g.length:=(by simp only[a5] at f;omega);rw[dc f];rw[ie f] at k x;refine ac.al.2 ?_;simp only[ke];rw[k];congr 1;omega
     have f:g.length<=e:=(by simp only[a5] at f;omega);rw[mW f] at k;refine ac.al.2 ?_;simp only[ke];rw[k];congr 1;omega
    rintro _ rfl;dsimp only;rw[eE (by simp;omega),oz,Sn];refine ac.al.2 ?_;have ao:c %18446744073709551616/9223372036854775808=-(c/4294967296):=U;have z:c %18446744073709551616 %4294967296=c %4294967296:=U;rw[ao,z]
   rintro _ rfl;dsimp only;refine ac.al.2 ⟨-(c/4294967296),a++[c %4294967296],by rw[bA U],by simp[i],j.snoc U U,U,U,?_⟩;rw[ni,i,fZ,gC o,vU];have:=Int.emod_add_mul_ediv c 4294967296;generalize c/4294967296=y at*;generalize c %4294967296=h at*;generalize g.getD e 0=C at*;generalize d[e]=B at*;have r:h=B-b-C-4294967296*y:=U;clear this k p q;subst r;grind
  rintro _ ⟨b,a,rfl,i,j,m,n,l⟩;dsimp only;rw[bR (az (show¬((d.length:Int)<aw d) by simp only[a5];omega))];refine ac.al.2 ⟨a,b,rfl,i,j,m,n,?_⟩;rw[l,List.take_of_length_le (Nat.le_refl _),List.take_of_length_le w]
 rintro _ ⟨a,b,rfl,i,j,m,n,l⟩;have s:=fu j;have D:=es d.length;rw[i] at s;have v:b=0:=by
  rcases hq 0 b with f|f
  ·obtain rfl:b=1:=U;omega
  omega
 subst v;exact ac.al.2 ⟨a,rfl,j,by rw[<-l];simp,i⟩
def y4 {x y:Int} (t:ar x.natAbs<=3000000) (u:ar y.natAbs<=3000000):qB (aC x,aC y,())=some (aC (x+y),()):=by
 obtain⟨c,l,z⟩:=fJ t;obtain⟨d,m,A⟩:=fJ u;unfold qB;dsimp only;refine ac.eq_iff.1 ?_;refine ac.bs (ta c l U) (ac.bs (ta d m U) ?_);dsimp only;have q:=g8 x;have r:=g8 y;have v:(aC x).1=decide (x<0):=rfl;have w:(aC y).1=decide (y<0):=rfl;rw[v,w];by_cases k:(decide (x<0)==decide (y<0))=true
 ·rw[bT k];refine ac.a1 (Rq c d U U) ?_;rintro _ ⟨h,rfl,i,j,s⟩;refine ac.bs (vG i (by show h.length<=_;omega) j) (ac.al.2 ?_);dsimp only;congr 2;have:decide (x<0)=decide (y<0):=(by simpa using k);have e:x<0↔y<0:=(by simpa using this);rw[q,r];by_cases a:x<0
  ·rw[ak (aB a)];have:=e.1 a;omega
  rw[ag (by simpa using a)];have:=mt e.2 a;omega
 rw[bR (by simpa using k)];have e:¬(x<0↔y<0):=(by simpa using k);refine ac.bs (Rt c d l m U U) ?_;dsimp only;rw[bo];refine ac.ite (λn=>?_) λn=>?_
 ·have p:=r2.1 n;have o:(aC y).2.1.length<=(aC x).2.1.length:=by
   rcases bi (aC x).2.1.length (aC y).2.1.length with g|g
   ·have:=ow c d m g;omega
   exact g
  refine ac.a1 (HY c d U o p) ?_;rintro _ ⟨h,rfl,i,j,s⟩;refine ac.bs (vG i (by show h.length<=_;omega) j) (ac.al.2 ?_);dsimp only;congr 2;rw[q,r] at*;by_cases a:x<0
  ·rw[ak (aB a)];have:¬y<0:=λb=>e ⟨λ_=>b,λ_=>a⟩;omega
  rw[ag (by simpa using a)];have:y<0:=Decidable.byContradiction λb=>e ⟨λf=>absurd f a,λf=>absurd f b⟩;omega
 have p:af (aC x).2.1<af (aC y).2.1:=Int.not_le.1 (mt r2.2 n);have o:(aC x).2.1.length<=(aC y).2.1.length:=by
  rcases bi (aC y).2.1.length (aC x).2.1.length with g|g
  ·have:=ow d c l g;omega
  exact g
 refine ac.a1 (HY d c U o (Int.le_of_lt p)) ?_;rintro _ ⟨h,rfl,i,j,s⟩;refine ac.bs (vG i (by show h.length<=_;omega) j) (ac.al.2 ?_);dsimp only;congr 2;rw[q,r] at*;by_cases a:x<0
 ·have b:¬y<0:=λb=>e ⟨λ_=>b,λ_=>a⟩;rw[ag (by simpa using b)];omega
 have b:y<0:=Decidable.byContradiction λb=>e ⟨λf=>absurd f a,λf=>absurd f b⟩;rw[ak (aB b)];omega
def R1 (c:ar b.natAbs<=3000000) (a:ar f.natAbs<=3000000):xK (aC b,aC f,())=some (aC (b-f),()):=by unfold xK;refine aq (RI a) ?_;dsimp only;exact aq (y4 c (by rw[Int.natAbs_neg];exact a)) (by rw[<-Int.sub_eq_add_neg])
def Cr {n:Int} (c:-9223372036854775808<=n) (d:n<=9223372036854775807):sk (n,())=some (aC n,()):=by
 unfold sk;dsimp only;obtain⟨a,e,f,g⟩:∃a:Int,a=n.natAbs/\0<=a/\a<=9223372036854775808:=⟨_,rfl,U,U⟩;refine aq (y:=(a,(false,([],())),())) ?_ ?_
 ·rw[bo];split
  ·rename_i b;have aj:a7 n=n+1:=(by unfold a7;exact wrap64 U U);rw[aj,bh U U,bV (x:=0-(n+1)) U U,bV U U];congr 2;omega
  rename_i b;rw[bV U U];congr 2;omega
 dsimp only;rw[ll,Option.bind_some,oz a,jh (x:=a/4294967296) U U];refine aq (vF (aK.cons.2 ⟨⟨U,U⟩,aK.cons.2 ⟨⟨U,U⟩,aK.nil⟩⟩) ab) ?_;dsimp only;congr 2;congr 1;unfold eA;simp only[af];by_cases b:n<0
 ·simp[b];omega
 simp[b];omega
def HW {z:Int} {n:Nat} (b:ar z.natAbs<=3000000) (i:n<=10000000):lU (aC z,(n:Int),())=some (aC (z*2^n),()):=by
 obtain⟨d,g,h⟩:=fJ b;unfold lU;dsimp only;refine ac.eq_iff.1 ?_;refine ac.bs (ze b) ?_;dsimp only;rw[bT (aB (U:(n:Int)>=0))];refine ac.a1 (R0 d U (n:=n) U) ?_;rintro _ ⟨e,rfl,f,c,j⟩;rw[g8] at c;refine ac.bs (vG f (by show e.length<=_;omega) c) (ac.al.2 ?_);dsimp only;congr 2;show(if decide (z<0)=true then _ else _)=_;by_cases a:z<0
 ·rw[ak (aB a),<-nv];congr 1;omega
 rw[ag (by simpa using a)];congr 1;omega
def RZ (k:ar b.natAbs<=2900000) (s:a<=10000000) (t:0<a):lU (aC b,-(a:Int),())=some (aC (b/2^a),()):=by
 obtain⟨g,p,q⟩:=fJ (z:=b) U;have j:=ip a;unfold lU;dsimp only;refine ac.eq_iff.1 ?_;refine ac.bs (ze U) ?_;dsimp only;have aj:ax (0- -(a:Int))=(a:Int):=(by rw[bh U U];omega);rw[bR (az (U:¬(-(a:Int)>=0))),aj];refine ac.a1 (HX g U (n:=a) U) ?_;rintro _ ⟨w,rfl,l,f,x⟩;rw[g8] at f|-;dsimp only;refine ac.bs (vG l U f) ?_;dsimp only;have o:(aC b).1=decide (b<0):=rfl;rw[o];have u:0<=(b.natAbs:Int)/2^a:=Int.ediv_nonneg U U;have v:(b.natAbs:Int)/2^a<=b.natAbs:=Int.ediv_le_self _ U;have c:=Gl (m:=b.natAbs) j U;refine ac.bs (y:=((false,([],())),aC (b/2^a),())) ?_ (ac.al.2 rfl);by_cases e:b<0
 ·rw[aB e];rw[(U:-(b.natAbs:Int)=b)] at c;by_cases d:(b.natAbs:Int) %2^a=0
  ·rw[az (show¬((b.natAbs:Int) %2^a≠0) fromλh=>h d)];refine aq rfl ?_;dsimp only[cond_false];rw[if_pos d] at c;rw[if_pos rfl,c]
  rw[aB (show(b.natAbs:Int) %2^a≠0 from d)];refine aq rfl ?_;dsimp only[cond_true];rw[if_neg d] at c;refine aq (Cr aa aa) ?_;dsimp only;have i:ar (-((b.natAbs:Int)/2^a)).natAbs<=3000000:=(by rw[bN];have:=bN.1 k;have r:=e9 2900000 3000000 aa;omega);rw[if_pos rfl];refine aq (R1 i aa) ?_;rw[c];dsimp only;congr 4;omega
 rw[az e];refine aq rfl ?_;dsimp only[cond_false];rw[if_neg ab,(U:(b.natAbs:Int)=b)]
def Kr (b:ar c<=a) (d:ar j<=a):ar (c+j)<=a+1:=by rw[bN,hy];have:=bN.1 b;have:=bN.1 d;omega
def HJ {z:Int} {n:Nat} (c:ar z.natAbs<=3000000) (e:n<=10000000):uI (aC z,(n:Int),())=some (decide ((z.natAbs:Int) %2^n≠0),()):=by obtain⟨a,b,d⟩:=fJ c;unfold uI;dsimp only;refine ac.eq_iff.1 ?_;refine ac.bs (ta a b U) ?_;dsimp only;refine ac.a1 (HX a U (n:=n) U) ?_;rintro _ ⟨f,rfl,g,h,i⟩;rw[g8];exact ac.al.2 rfl
def RF {z:Int} (p:0<=z) (d:z<9223372036854775808):xI (aC z,())=some (z,true,()):=by
 have f:ar z.natAbs<=64:=bN.2 U;obtain⟨b,n,o⟩:=fJ (z:=z) U;have q:(aC z).2.1.length<=2:=lX U;unfold xI;dsimp only;refine ac.eq_iff.1 ?_;refine ac.bs (ze U) ?_;dsimp only;rw[bR (az (show¬(aw (aC z).2.1>2) by simp only[a5];omega))];refine ac.a1 (P:=λl=>l=(z,aC z,())) ?_ ?_
 ·have k:=g8 z;refine ac.steps (aC z).2.1.length (λa m=>m=(af ((aC z).2.1.take a),(a:Int),aC z,())) rfl ?_ ?_
  ·rintro a _ c rfl;have h:=b.get c;dsimp only;rw[bT (aB (show(a:Int)<aw (aC z).2.1 by simp only[a5];omega)),dc c,Option.bind_some];have d:=dW (b.take a);have e:=fu (b.take a);rw[List.length_take,Nat.min_eq_left U,np] at e;have aj:ax (32*(a:Int))=((32*a:Nat):Int):=(by rw[bh U U];simp);have f:(2:Int)^(32*a)<=4294967296:=by
    rcases(U:a=0\/a=1) with rfl|rfl<;>decide
   have j:=ip (32*a);have r:(aC z).2.1[a]*2^(32*a)<4294967296*4294967296:=(by have:=iW f h.1;omega);have g:0<=(aC z).2.1[a]*2^(32*a):=kh h.1 (ec j);rw[aj,bV (x:=(aC z).2.1[a]) U U,kS U U,aP,dk,nr g U,j5 (32*a) d e g U U (Int.mul_emod_left _ _),bA U];refine ac.al.2 ?_;show(_,_,aC z,())=(_,_,aC z,());rw[gC c,np,fI (2^(32*a))]
  rintro _ rfl;dsimp only;rw[bR (az (show¬(((aC z).2.1.length:Int)<aw (aC z).2.1) by simp only[a5];omega)),List.take_of_length_le (Nat.le_refl _),k];refine ac.al.2 ?_;show(((z.natAbs:Nat):Int),aC z,())=_;rw[(U:((z.natAbs:Nat):Int)=z)]
 rintro _ rfl;have i:(aC z).1=false:=az U;dsimp only;rw[i,cond_false,bR (az (U:¬(z>9223372036854775807))),bh U U];exact ac.al.2 rfl
def Ic (d:ar f.natAbs<=1900000) (g:-1048576<=b) (h:b<=1048576):nN (aC f,b,())=some (aC (mg f b),0,()):=by
 rcases hq b 0 with e|e
 ·obtain⟨a,c⟩:∃a:Nat,b=-(a:Int):=⟨(-b).toNat,U⟩;subst c;rw[Sk d U U,td]
 obtain⟨a,c⟩:∃a:Nat,b=(a:Int):=⟨b.toNat,U⟩;subst c;rw[Sl d U,mh]
def Cw (e:ar f.natAbs<=2900000) (g:-10000000<=b) (h:b<=10000000):lU (aC f,b,())=some (aC (mg f b),()):=by
 rcases hq b 0 with d|d
 ·obtain⟨a,c⟩:∃a:Nat,b=-(a:Int):=⟨(-b).toNat,U⟩;subst c;rw[RZ e U U,td]
 obtain⟨a,c⟩:∃a:Nat,b=(a:Int):=⟨b.toNat,U⟩;subst c;rw[HW U U,mh]
def bz (a:Int):Int:=if a=0 then 0 else a6 a
def vp:aL 0=0:=rfl
def hB (a:Int):bf (some a)=(false,aC (aL a),bz a,()):=by
 by_cases b:a=0
 ·subst b;rfl
 rw[EB b,bz,ag b]
def j9 (a:e4 b):ar (aL b).natAbs<=131072:=by
 by_cases c:b=0
 ·subst c;exact a
 rw[yO c];unfold e4 at a;omega
def j8 (a:e4 b):-65536<=bz b/\bz b<=65536:=by
 unfold bz;split
 ·omega
 rename_i c;have:=ov (n:=b.natAbs) U;unfold e4 at a;unfold a6;omega
def BB (c:e4 b):eg (aL b) (bz b)=some b:=by
 by_cases a:b=0
 ·subst a;rfl
 rw[bz,ag a,Oq c]
def O0 (c:b=0\/f<=a6 b) (g:-65536<=f):aL b*2^(bz b-f).toNat*2^(f+65536).toNat=b:=by
 by_cases a:b=0
 ·subst a;rw[vp];simp
 have d:=lg b;have e:=c.resolve_left a;rw[bz,ag a,e1,<-iy];have:(a6 b-f).toNat+(f+65536).toNat=a9 b.natAbs:=(by unfold a6 at*;omega);rw[this,d]
def EA (y:b≠0) (t:¬(f+a9 b.natAbs< -65536\/65536<f+ar b.natAbs)):bf (eg b f)=(false,aC (b/2^a9 b.natAbs),f+a9 b.natAbs,())/\(eg b f).isSome=true:=by
 obtain⟨a,o⟩:∃a,a=mg b (f+65536):=⟨_,rfl⟩;have B:eg b f=some a:=(by unfold eg;rw[ag y,ag t,o]);rw[B];refine⟨?_,rfl⟩;obtain⟨g,w⟩:=pM (n:=b.natAbs) U;have l:=(pu (n:=b.natAbs) (k:=a9 b.natAbs) U).1 (aZ _);have A:b/2^a9 b.natAbs*2^a9 b.natAbs=b:=uR l;have z:(b/2^a9 b.natAbs).natAbs=2*g+1:=by
  rw[vk l]
  conv=>lhs;lhs;rw[w]
  exact Nat.mul_div_cancel _ (eT _)
 generalize G:a9 b.natAbs=d at*;generalize F:b/2^d=j at*;have i:a=j*2^(f+d+65536).toNat:=by
  rw[o,<-A];rcases Int.le_total 0 (f+65536) with s|s
  ·obtain⟨c,h⟩:∃c:Nat,f+65536=c:=⟨(f+65536).toNat,U⟩;rw[h,mh,e1,<-iy];congr 2;omega
  obtain⟨c,h⟩:∃c:Nat,f+65536=-(c:Int):=⟨(-(f+65536)).toNat,U⟩;obtain⟨q,x⟩:∃q:Nat,d=q+c:=⟨d-c,U⟩;rw[h,td,x,iy,<-e1,Int.mul_ediv_cancel _ (by have:=ip c;omega)];congr 2;omega
 obtain⟨e,v⟩:∃e:Nat,f+d+65536=e:=⟨(f+d+65536).toNat,U⟩;rw[v,dk] at i;have p:a.natAbs=(2*g+1)*2^e:=(by rw[i,ez,z]);have m:a9 a.natAbs=e:=tj p;have C:a≠0:=(by intro u;rw[u] at p;have D:=Nat.mul_pos (U:0<2*g+1) (eT e);have E:(0:Int).natAbs=0:=rfl;omega);rw[EB C];have aj:aL a=j:=(by unfold aL;rw[m,i,Int.mul_ediv_cancel _ (by have:=ip e;omega)]);have r:a6 a=f+d:=(by unfold a6;rw[m];omega);rw[aj,r]
def HH {m:Int} {n:Nat} (b:ar m.natAbs<=1900000) (f:n<=1048576):ui (aC m,(n:Int),())=some (aC (m/2^n),()):=by
 unfold ui;dsimp only;refine ac.eq_iff.1 ?_;refine ac.a1 (P:=λd=>d=((n:Int),aC m,(false,([],())),())) ?_ ?_
 ·refine ac.steps 0 (λc a=>a=((n:Int),aC m,(false,([],())),())) rfl (λc a e=>by omega) ?_;rintro _ rfl;dsimp only;rw[bR (az (U:¬((n:Int)>1048576)))];exact ac.al.2 rfl
 rintro _ rfl;dsimp only;rw[bh U U,Int.zero_sub];refine ac.bs (Ic b U U) (ac.al.2 ?_);rw[td]
def sG {m k:Int} (c:ar m.natAbs<=1900000) (a:0<=k) (b:k<=1048576):lR (aC m,k,())=some (aC (m*2^k.toNat),()):=by unfold lR;refine aq (Ic c U b) ?_;obtain⟨d,rfl⟩:=dX a;show some (aC (mg m (d:Int)),())=_;rw[mh];rfl
def Gp {a:Int} (r:ar f.natAbs<=900000) (p:-1000000000000<=a) (q:a<=1000000000000):lS ((false,aC f,a,()),())=some (bf (eg f a),(eg f a).isSome,()):=by
 obtain⟨i,m,o⟩:=fJ (z:=f) U;unfold lS;dsimp only;rw[cond_false];have h:=OU (b:=aC f) i U;rw[lr] at h;refine aq h ?_;refine aq (oq (gQ U)) ?_;dsimp only;rw[dH,bo];split
 ·rename_i c;have:f=0:=by
   unfold dY at c;split at c
   ·assumption
   split at c<;>omega
  subst this;rfl
 rename_i c;have d:f≠0:=(by intro a;subst a;exact c rfl);have s:=ov (n:=f.natAbs) U;refine aq (IL (gQ U) d) ?_;dsimp only;by_cases g:a+a9 f.natAbs< -65536\/65536<a+ar f.natAbs
 ·have l:eg f a=none:=(by unfold eg;rw[if_neg d,if_pos g]);rw[l];refine aq (y:=.inr (bf none,false,())) ?_ rfl;refine aq (y:=(true,(false,((false,([],())),((0:Int),()))),aC f,())) ?_ rfl;refine aq (qm (gQ U)) ?_;dsimp only;rw[bh (x:=65536-(ar f.natAbs:Int)) U U,bh U U];by_cases e:a>65536-(ar f.natAbs:Int)
  ·rw[aB e];rfl
  rw[az e,aB (U:a< -65536-(a9 f.natAbs:Int))];rfl
 obtain⟨j,k⟩:=EA d g;rw[j,k];refine aq (y:=.inl ((false,((false,([],())),((0:Int),()))),aC f,())) ?_ ?_
 ·refine aq (y:=(false,(false,((false,([],())),((0:Int),()))),aC f,())) ?_ rfl;refine aq (qm (gQ U)) ?_;dsimp only;rw[bh (x:=65536-(ar f.natAbs:Int)) U U,bh U U];rw[az (U:¬(a>65536-(ar f.natAbs:Int))),az (U:¬(a< -65536-(a9 f.natAbs:Int)))];rfl
 refine aq (HH U U) ?_;dsimp only;rw[bh U U]
def sW (b:e2 k):lS (bf k,())=some (bf k,k.isSome,()):=by
 cases k with
 |none=>rfl
 |some c=>
  have a:=b c rfl;have d:=j9 a;have e:=j8 a;rw[hB,Gp U U U,BB a,hB]
def By (d:ar f.natAbs<=900000) (a:-1000000000000<=b) (c:b<=1000000000000):r5 (aC f,b,())=some (bf (eg f b),()):=by unfold r5;exact aq (Gp d a c) rfl
def Ay (a:e2 k):r6 (bf k,())=some (bf k,()):=by unfold r6;exact aq (sW a) rfl
def om (a:cK):Int:=dY (a.getD 0)
def Si (a:Int):dY (aL a)=dY a:=by
 unfold dY;have:=l7 (v:=a);by_cases b:a=0
 ·subst b;rfl
 have:=ho b;rw[ag this,ag b];split<;>split<;>first|rfl|omega
def lW (a:e2 k):o4 (bf k,())=some (om k,()):=by
 unfold o4;refine aq (sW a) ?_;cases k with
 |none=>exact aq (oq (z:=0) (gQ aa)) rfl
 |some b=>
  have c:=j9 (a b rfl);rw[hB];refine aq (oq (gQ U)) ?_;show some (dY (aL b),())=_;rw[Si];rfl
def S5 {a:cK} (b:e2 k) (c:e2 a):wZ (bf k,bf a,())=some (bf k,bf a,k.isSome&&a.isSome,()):=by unfold wZ;refine aq (sW b) (aq (sW c) ?_);cases k<;>rfl
def kH (c d:cK):cK:=c.bind λa=>d.bind λb=>eg (aL a*aL b) (bz a+bz b)
def sV (a:cK):cK:=a.map λb=>-b
def mL (a:cK):cK:=a.map λb=>(b.natAbs:Int)
def Ge (b c:cK):e2 (kH b c):=by
 intro d a;unfold kH at a;cases b with
 |none=>cases a
 |some e=>cases c with
  |none=>cases a
  |some f=>exact BD _ _ d a
def OF (b:e2 k):e2 (sV k):=by
 intro d a;cases k with
 |none=>cases a
 |some c=>cases a;have:=b c rfl;unfold e4 at*;rw[oF];exact this
def JW (b:e2 k):e2 (mL k):=by
 intro d a;cases k with
 |none=>cases a
 |some c=>cases a;have:=b c rfl;unfold e4 at*;rw[jP];exact this
def Lq {a:cK} (b:e2 k) (c:e2 a):wS (bf k,bf a,())=some (bf (kH k a),()):=by
 unfold wS;refine aq (S5 b c) ?_;cases k with
 |none=>rfl
 |some d=>
  cases a with
  |none=>rfl
  |some e=>
   have f:=j9 (b d rfl);have g:=j9 (c e rfl);have h:=j8 (b d rfl);have i:=j8 (c e rfl);rw[hB,hB];refine aq (Gf U U) ?_;dsimp only;rw[bh U U];refine aq (By ?_ U U) rfl;rw[Int.natAbs_mul];have:=oZ f g;omega
def Gs (a:Int):aL (-a)=-aL a:=by have c:=lg a;have b:=lg (-a);rw[oF] at b;have e:=ip (a9 a.natAbs);have d:aL (-a)*2^a9 a.natAbs=-aL a*2^a9 a.natAbs:=(by rw[b,nv,c]);exact Int.eq_of_mul_eq_mul_right U d
def EJ (a:Int):bz (-a)=bz a:=by
 unfold bz a6;rw[oF];by_cases b:a=0
 ·subst b;rfl
 rw[ag b,ag U]
def OZ (a:Int):aL (a.natAbs:Int)=((aL a).natAbs:Int):=by
 have c:=l7 (v:=a);rcases hq a 0 with b|b
 ·rw[(U:(a.natAbs:Int)=-a),Gs];have:=c.2 b;omega
 rw[(U:(a.natAbs:Int)=a)];have:=mt c.1 U;omega
def L1 (a:Int):bz (a.natAbs:Int)=bz a:=by
 rcases hq a 0 with b|b
 ·rw[(U:(a.natAbs:Int)=-a),EJ]
 rw[(U:(a.natAbs:Int)=a)]
def Lr (b:e2 k):wT (bf k,())=some (bf (sV k),()):=by
 unfold wT;refine aq (sW b) ?_;cases k with
 |none=>rfl
 |some a=>
  have c:=j9 (b a rfl);rw[hB];refine aq (aq (Gm (gQ U)) rfl) ?_;show some ((false,aC (-aL a),bz a,()),())=some (bf (some (-a)),());rw[hB,Gs,EJ]
def mm (a b:Int):Int:=aL a*2^(bz a-b).toNat
def vT {v e:Int} (a:v=0\/e<=a6 v) (b:-65536<=e):mm v e*2^(e+65536).toNat=v:=O0 a b
def IM (a:b=0\/f<=a6 b) (e:-65536<=f) (g:e4 b):ar (mm b f).natAbs<=131072:=by
 have c:=vT a e;have d:(mm b f).natAbs<=b.natAbs:=by
  conv=>rhs;rw[<-c,ez]
  exact Nat.le_mul_of_pos_right _ (eT _)
 exact bj (j0 d) g
def NN (c:b=0\/f<=a6 b) (h:-65536<=f) (i:f<=65536) (a:e4 b) (d:f<=bz b):lR (aC (aL b),bz b-f,())=some (aC (mm b f),()):=by have e:=j9 a;have g:=j8 a;exact sG U U U
def qN (a:f<=bz b):b=0\/f<=a6 b:=by
 by_cases c:b=0
 ·exact .inl c
 rw[bz,ag c] at a;exact .inr a
def gS (a:Int):cK:=eg a 0
def dt:cC->Int
 |[]=>0
 |d::a=>d.getD 0+dt a
def e8:cC->Bool
 |[]=>true
 |d::a=>d.isSome&&e8 a
def fc (a:cC):cK:=if e8 a=true then ky (dt a) else none
def Io (b:cC):e2 (fc b):=by
 intro c a;unfold fc at a;split at a
 ·exact KM _ c a
 cases a
def vQ (a b:cC):dt (a++b)=dt a+dt b:=by
 induction a with
 |nil=>simp[dt]
 |cons d a c=>simp only[iA,dt,c];omega
def wA (a b:cC):e8 (a++b)=(e8 a&&e8 b):=by
 induction a with
 |nil=>simp[e8]
 |cons d a c=>simp only[iA,e8,c,Bool.and_assoc]
def CM (b:a<t.length):dt (t.take (a+1))=dt (t.take a)+(t[a]).getD 0:=by rw[jV,bB b];show dt (t.take a++[t[a]])=_;rw[vQ];simp[dt]
def Dx (b:a<t.length):e8 (t.take (a+1))=(e8 (t.take a)&&(t[a]).isSome):=by rw[jV,bB b];show e8 (t.take a++[t[a]])=_;rw[wA];simp[e8]
def Dw (b:e8 t=true) (c:a<t.length):∃e,t[a]=some e:=by
 induction t generalizing a with
 |nil=>simp at c
 |cons f t d=>
  simp only[e8,a2] at b;cases a with
  |zero=>exact zH.1 b.1
  |succ a=>exact d b.2 (by simpa using c)
def Dv (c:a<t.length) (b:t[a]=none):e8 t=false:=by
 cases d:e8 t with
 |false=>rfl
 |true=>obtain⟨f,e⟩:=Dw d c;rw[e] at b;cases b
def Ls (A:∀B∈t,e2 B) (L:t.length<=1000000):wY (t.map bf,())=some (bf (fc t),()):=by
 unfold wY;refine ac.eq_iff.1 ?_;dsimp only;refine ac.a1 (P:=λr=>match r with
  |.inl o=>∃b,o=(b,(false,((false,([],())),((0:Int),()))),t.map bf,())/\e8 t=true/\-65536<=b/\b<=0/\(∀a d,(C:a<t.length)->t[a]=some d->b<=bz d)
  |.inr o=>o=(bf (fc t),())) ?_ ?_
 ·refine ac.steps t.length (λa v=>∃b,v=(b,(a:Int),(false,((false,([],())),((0:Int),()))),(t.take a).map bf,())/\e8 (t.take a)=true/\-65536<=b/\b<=0/\(∀h d,(C:h<t.length)->h<a->t[h]=some d->b<=bz d)) ⟨0,rfl,rfl,aa,aa,λh d f g=>by omega⟩ ?_ ?_
  ·rintro a _ e ⟨b,rfl,f,g,s,l⟩;have z:=A t[a] (List.getElem_mem e);dsimp only;rw[bT (aB (show(a:Int)<aw (t.map bf) by simp only[a5,List.length_map];omega))];refine ac.bs (y:=bf t[a]) ?_ (ac.bs (sW z) ?_)
   ·rw[dc (by simpa using e),rJ]
   dsimp only;cases m:t[a] with
   |none=>
    refine ac.bs rfl (ac.al.2 ?_);show(bf none,())=_;rw[fc,ag];rw[Dv e m];simp
   |some d=>
    have n:e4 d:=z d m;have I:=j8 n;show ac ((dd _).bind _) _;rw[eE (by simp;omega)];refine ac.al.2 ⟨if bz d<b then bz d else b,?_,?_,by split<;>omega,by split<;>omega,?_⟩
    ·rw[bA U,jV,bB e,m];simp only[Option.toList_some,hf,eG,List.map_nil,hB]
    ·rw[Dx e,f,m];rfl
    intro h K J N u;rcases bi h a with w|w
    ·have:=l h K J w u;split<;>omega
    obtain rfl:h=a:=U;rw[m] at u;cases u;split<;>omega
  rintro _ ⟨b,rfl,f,g,s,l⟩;dsimp only;rw[bR (az (show¬((t.length:Int)<aw (t.map bf)) by simp only[a5,List.length_map];omega))];rw[List.take_of_length_le (Nat.le_refl _)] at f|-;exact ac.al.2 ⟨b,rfl,f,g,s,λa d e j=>l a d e e j⟩
 rintro(r|r) q
 ·obtain⟨b,rfl,f,g,s,l⟩:=q;dsimp only;refine ac.a1 (P:=λo=>∃c,o=((false,((false,([],())),((0:Int),()))),aC c,())/\c*2^(b+65536).toNat=dt t/\ar c.natAbs<=200000) ?_ ?_
  ·have x:∀c:Int,c.natAbs<=t.length*2^131072->ar c.natAbs<=200000:=λc G=>by
    refine bj (j0 G) ?_;have:ar t.length<=20:=bN.2 U;have D:ar (2^131072)<=131073:=bN.2 (s2 131072 131073 aa);have:=oZ this D;omega
   refine ac.steps t.length (λa v=>∃c,v=((a:Int),(false,((false,([],())),((0:Int),()))),t.map bf,aC c,())/\c*2^(b+65536).toNat=dt (t.take a)/\c.natAbs<=a*2^131072) ⟨0,rfl,by rw[iX];simp[dt],(eU _:(0:Nat)<=_)⟩ ?_ ?_
   ·rintro a _ e ⟨c,rfl,i,k⟩;obtain⟨d,j⟩:=Dw f e;have n:e4 d:=A t[a] (List.getElem_mem e) d j;have p:=l a d e j;have H:=IM (qN p) g n;have I:=j8 n;have M:=x c (Nat.le_trans k (Nat.mul_le_mul_right _ U));dsimp only;rw[bT (aB (show(a:Int)<aw (t.map bf) by simp only[a5,List.length_map];omega)),mb (by simpa using e),List.getElem_map,j,hB];dsimp only;rw[bh U U];refine ac.bs (NN (qN p) g U n p) (ac.bs (Ds U U) (ac.al.2 ⟨c+mm d b,by rw[bA U],?_,?_⟩))
    ·rw[Int.add_mul,i,vT (qN p) g,CM e,j];rfl
    have E:=bN.1 H;have F:=Int.natAbs_add_le c (mm d b);exact bj F (Gg k E)
   rintro _ ⟨c,rfl,i,k⟩;dsimp only;rw[bR (az (show¬((t.length:Int)<aw (t.map bf)) by simp only[a5,List.length_map];omega))];rw[List.take_of_length_le (Nat.le_refl _)] at i;exact ac.al.2 ⟨c,rfl,i,x c k⟩
  rintro _ ⟨c,rfl,i,k⟩;refine ac.bs (By U U U) (ac.al.2 ?_);show(bf (eg c b),())=_;rw[sO g i.symm,fc,ak f]
 have q:r=_:=q;rw[q];exact ac.al.2 rfl
def lj:(dY b==0)=decide (b=0):=by
 rw[dH,decide_eq_decide];unfold dY;constructor
 ·intro a;split at a
  ·assumption
  split at a<;>omega
 intro a;rw[ak a]
def Cp {m:Int} {n:Nat} (e:ar m.natAbs<=1900000) (f:n<=1048576):sl (aC m,(n:Int),())=some (aC (m/2^n),()):=by
 unfold sl;dsimp only;refine ac.eq_iff.1 ?_;refine ac.a1 (P:=λc=>c=((n:Int),aC m,(false,([],())),())) ?_ ?_
 ·refine ac.steps 0 (λb a=>a=((n:Int),aC m,(false,([],())),())) rfl (λb a d=>by omega) ?_;rintro _ rfl;dsimp only;rw[bR (az (U:¬((n:Int)>1048576)))];exact ac.al.2 rfl
 rintro _ rfl;dsimp only;rw[bh U U,Int.zero_sub];refine ac.bs (Cw U U U) (ac.al.2 ?_);rw[td]
def HK {b:mv} {m:Int} (o:aK b.2.1) (w:b.2.1.length<=100000000) (c:eA b=m) (F:ar m.natAbs<=900000) (B:-1000000000000<=f) (C:f<=1000000000000):mT (b,f,())=some (bf (eg m f),()):=by
 unfold mT;dsimp only;have p:=HP o w;rw[c] at p;refine aq p ?_;dsimp only;rw[n3,bo];split
 ·rename_i d;have:=uT.1 d;subst this;rfl
 rename_i d;have a:m≠0:=λf=>d (uT.2 f);have G:=ov (n:=m.natAbs) U;have E:=lN (m:=m.natAbs) U;rw[bo];split
 ·rename_i q;have e:eg m f=none:=(by unfold eg;rw[ag a,ak U]);rw[e];rfl
 rename_i q;refine aq (H0 U a) (aq (Ck U) (aq (Cp (m:=(m.natAbs:Int)) (by rw[Int.natAbs_natCast];omega) U) ?_));have l:=(pu (n:=m.natAbs) (k:=a9 m.natAbs) U).1 (Nat.le_refl _);have u:(m.natAbs:Int)/2^a9 m.natAbs=(((m/2^a9 m.natAbs).natAbs:Nat):Int):=(by rw[vk l,<-jD,<-Int.natCast_ediv]);have h:ar ((m/2^a9 m.natAbs).natAbs)=ar m.natAbs-a9 m.natAbs:=(by rw[vk l,tY]);rw[u];dsimp only;rw[bh (x:=f+(a9 m.natAbs:Int)) U U];by_cases i:f+a9 m.natAbs< -65536\/65536<f+ar m.natAbs
 ·have e:eg m f=none:=(by unfold eg;rw[ag a,ak i]);rw[e];refine aq (y:=.inr (bf none,())) ?_ rfl;refine aq (y:=(true,(false,((false,([],())),((0:Int),()))),aC ((m/2^a9 m.natAbs).natAbs:Int),())) ?_ rfl;by_cases g:f+(a9 m.natAbs:Int)< -65536
  ·rw[aB g];rfl
  rw[az g];refine aq (Cl (by rw[Int.natAbs_natCast];omega)) ?_;rw[Int.natAbs_natCast,h];dsimp only;rw[bh U U,aB (U:f+(a9 m.natAbs:Int)+((ar m.natAbs-a9 m.natAbs:Nat):Int)>65536)]
 obtain⟨r,D⟩:=EA a i;rw[r];refine aq (y:=.inl ((false,((false,([],())),((0:Int),()))),aC ((m/2^a9 m.natAbs).natAbs:Int),())) ?_ ?_
 ·refine aq (y:=(false,(false,((false,([],())),((0:Int),()))),aC ((m/2^a9 m.natAbs).natAbs:Int),())) ?_ rfl;rw[az (U:¬(f+(a9 m.natAbs:Int)< -65536))];refine aq (Cl (by rw[Int.natAbs_natCast];omega)) ?_;rw[Int.natAbs_natCast,h];dsimp only;rw[bh U U,az (U:¬(f+(a9 m.natAbs:Int)+((ar m.natAbs-a9 m.natAbs:Nat):Int)>65536))]
 dsimp only;congr 3;have z:b.1=decide (m/2^a9 m.natAbs<0):=by
  have s:(m/2^a9 m.natAbs<0)↔m<0:=l7 (v:=m);have t:b.1=decide (m<0):=by
   have A:=dW o;unfold eA at c;cases j:b.1 with
   |true=>rw[j,ak rfl] at c;exact(aB U).symm
   |false=>rw[j,ag ab] at c;exact(az U).symm
  rw[t,decide_eq_decide];exact s.symm
 rw[z];rfl
def vE {e:Int} (d:ar b.natAbs<=900000) (a:-1000000000000<=e) (c:e<=1000000000000):mT (aC b,e,())=some (bf (eg b e),()):=
 HK (ju b) (by have:=(fJ (z:=b) U).2.2;omega) (lr b) d a c
def y5 (c:e2 k):qD (bf k,())=some (bf k,()):=by
 cases k with
 |none=>rfl
 |some b=>
  have a:=c b rfl;have d:=j9 a;have f:=j8 a;unfold qD;rw[hB];refine aq (vE (e:=bz b) U U U) ?_;rw[BB a,hB]
def ya (a:cK):(bf a).1=!a.isSome:=by
 cases a with
 |none=>rfl
 |some b=>rw[hB];rfl
def Rz (c:e2 k):xO (bf k,())=some (bf (mL k),()):=by
 unfold xO;refine aq (y5 c) ?_;cases k with
 |none=>rfl
 |some b=>
  have a:=c b rfl;have f:=j9 a;have g:=j8 a;rw[hB];refine aq (Ck U) (aq (vE (e:=bz b) (by rw[jP];omega) U U) ?_);have d:e4 (b.natAbs:Int):=(by unfold e4 at*;rw[jP];exact a);rw[<-OZ,<-L1,BB d];rfl
def IN (a:Int):mm a (bz a)=aL a:=by unfold mm;simp
def Gr:aL b=0↔b=0:=by
 constructor
 ·intro c;by_cases a:b=0
  ·exact a
  exact absurd c (ho a)
 rintro rfl;rfl
def Hx (a:-9223372036854775808<=b) (c:b<=9223372036854775807):uL (b,())=some (bf (gS b),()):=by unfold uL;have d:ar b.natAbs<=64:=bN.2 U;exact aq (Cr a c) (aq (vE U aa aa) rfl)
def RA (Q:∀F∈t,e2 F) (q:t.length<=1000000):xR (t.map bf,())=some (bf (fc t),()):=by
 unfold xR;refine ac.eq_iff.1 ?_;dsimp only;have O:∀c:Int,c.natAbs<=t.length*2^131072->ar c.natAbs<=200000:=λc S=>(by refine Nat.le_trans (j0 S) ?_;have:ar t.length<=20:=bN.2 U;have L:ar (2^131072)<=131073:=bN.2 (s2 131072 131073 aa);have:=oZ this L;omega);have z:∀(c a:Int) (d:Nat),-65536<=a->d<=t.length->(dt (t.take d)).natAbs<=d*2^131072->c*2^(a+65536).toNat=dt (t.take d)->ar c.natAbs<=200000:=λc a d W l j f=>(by refine O c (Nat.le_trans ?_ (Nat.mul_le_mul_right _ l));refine Nat.le_trans ?_ j;rw[<-f,ez];exact Nat.le_mul_of_pos_right _ (Nat.two_pow_pos _));refine ac.a1 (P:=λi=>match i with
  |.inl n=>∃a c,n=(a,(false,((false,([],())),((0:Int),()))),aC c,())/\e8 t=true/\-65536<=a/\a<=65536/\c*2^(a+65536).toNat=dt t/\ar c.natAbs<=200000
  |.inr n=>n=(bf (fc t),())) ?_ ?_
 ·refine ac.steps t.length (λd T=>∃a c,T=(a,(d:Int),(false,((false,([],())),((0:Int),()))),aC c,())/\e8 (t.take d)=true/\-65536<=a/\a<=65536/\c*2^(a+65536).toNat=dt (t.take d)/\(dt (t.take d)).natAbs<=d*2^131072) ⟨0,0,rfl,rfl,aa,aa,by rw[iX];simp[dt],(eU _:(0:Nat)<=_)⟩ ?_ ?_
  ·rintro d _ l ⟨a,c,rfl,j,f,p,g,o⟩;have w:=Q t[d] (List.getElem_mem l);have D:=z c a d f U o g;dsimp only;rw[bT (aB (show(d:Int)<aw (t.map bf) by simp only[a5,List.length_map];omega))];refine ac.a1 (P:=λi=>match i with
    |.inl n=>∃b a c,t[d]=some b/\n=(a,(false,((false,([],())),((0:Int),()))),aC c,())/\-65536<=a/\a<=65536/\c*2^(a+65536).toNat=dt (t.take d)+b
    |.inr n=>n=.inr (.inr (bf (fc t),()))) ?_ ?_
   ·refine ac.bs (y:=bf t[d]) ?_ (ac.bs (y5 w) ?_)
    ·rw[dc (by simpa using l),rJ]
    dsimp only;cases A:t[d] with
    |none=>
     refine ac.bs rfl (ac.al.2 ?_);show _=Sum.inr (Sum.inr (bf (fc t),()));rw[fc,ag]
     ·rfl
     rw[Dv l A];simp
    |some b=>
     have r:e4 b:=w b A;have ad:=j8 r;have Y:=j9 r;rw[hB];refine ac.bs (s9 U) ?_;dsimp only;rw[lj];by_cases E:b=0
     ·subst E;rw[aB (show aL 0=0 from rfl)];exact ac.al.2 ⟨0,a,c,rfl,rfl,f,p,by rw[g];omega⟩
     rw[az (ho E)];refine ac.bs (s9 U) ?_;dsimp only;rw[lj];by_cases C:c=0
     ·subst C;rw[aB rfl];refine ac.al.2 ⟨b,bz b,aL b,rfl,rfl,U,U,?_⟩;have:=vT (v:=b) (e:=bz b) (qN (mw _)) U;rw[IN] at this;rw[this,<-g];simp
     rw[az C];by_cases s:bz b>=a
     ·rw[aB s,bh U U];refine ac.bs (Cw U U U) ?_;have R:mg (aL b) (bz b-a)=mm b a:=by
       obtain⟨m,q⟩:∃m:Nat,bz b-a=m:=⟨(bz b-a).toNat,U⟩;rw[q,mh,mm,q];rfl
      have Z:=IM (qN s) f r;rw[R];refine ac.bs (y4 U U) (ac.al.2 ⟨b,a,c+mm b a,rfl,rfl,f,p,?_⟩);rw[Int.add_mul,g,vT (qN s) f]
     rw[az s,bh (x:=a-bz b) U U];obtain⟨m,q⟩:∃m:Nat,a-bz b=m:=⟨(a-bz b).toNat,U⟩;have B:c*2^m*2^(bz b+65536).toNat=dt (t.take d):=(by rw[<-g,e1,<-iy];congr 2;omega);have X:=z (c*2^m) (bz b) d U U o B;rw[q];refine ac.bs (Cw U U U) ?_;rw[mh];refine ac.bs (y4 U U) (ac.al.2 ⟨b,bz b,c*2^m+aL b,rfl,rfl,U,U,?_⟩);have:=vT (v:=b) (e:=bz b) (qN (mw _)) U;rw[IN] at this;rw[Int.add_mul,B,this]
   rintro(i|i) h
   ·obtain⟨b,G,V,u,rfl,H,I,J⟩:=h;have r:e4 b:=w b u;refine ac.al.2 ⟨G,V,by rw[bA U],by rw[Dx l,j,u];rfl,H,I,by rw[CM l,u];exact J,?_⟩;rw[CM l,u];have M:=Int.natAbs_add_le (dt (t.take d)) b;have N:b.natAbs<2^131072:=(bN (k:=131072)).1 r;show(dt (t.take d)+b).natAbs<=_;have K:=Gg o N;exact bj M K
   have h:i=_:=h;rw[h];exact ac.al.2 rfl
  rintro _ ⟨a,c,rfl,j,f,p,g,o⟩;dsimp only;rw[bR (az (show¬((t.length:Int)<aw (t.map bf)) by simp only[a5,List.length_map];omega))];have D:=z c a t.length f (Nat.le_refl _) o g;rw[List.take_of_length_le (Nat.le_refl _)] at j g;exact ac.al.2 ⟨a,c,rfl,j,f,p,g,D⟩
 rintro(i|i) h
 ·obtain⟨a,c,rfl,j,f,p,g,o⟩:=h;refine ac.bs (vE U U U) (ac.al.2 ?_);show(bf (eg c a),())=_;rw[sO f g.symm,fc,ak j]
 have h:i=_:=h;rw[h];exact ac.al.2 rfl
def aW (a:Int):Int:=a/4503599627370496 %2048
def db (a:Int):Int:=a %4503599627370496
def dr (a:Int):Prop:=0<=a/\a<18446744073709551616
def bq (a:Int):cK:=
 if aW a=2047 then none
 else eg (if a<9223372036854775808 then if aW a=0 then db a else db a+4503599627370496 else-(if aW a=0 then db a else db a+4503599627370496)) (if aW a=0 then-1074 else aW a-1075)
def l8 (b:Int):e2 (bq b):=by
 intro c a;unfold bq at a;split at a
 ·cases a
 exact BD _ _ c a
def Ca (a:dr b):r7 (b,())=some (aW b,db b,()):=by unfold r7;dsimp only;have c:=a.1;have d:=a.2;rw[pJ aa aa,Option.bind_some,show(2:Int)^(52:Int).toNat=4503599627370496 from rfl,oT 11 U U 2047 aa aa,oT 52 U U 4503599627370495 aa aa,bh U U];rfl
def DZ (k:dr b):(bD IntKind.u64 b 9223372036854775808 !=0)=decide (9223372036854775808<=b):=by
 obtain⟨c,m⟩:=k;obtain⟨a,rfl⟩:=dX c;have j:a<18446744073709551616:=U;have h:(9223372036854775808:Int)=((2^63:Nat):Int):=rfl;rw[h,DA j aa,dN];rcases bi a (2^63) with d|d
 ·have f:a&&&2^63=0:=by
   refine Nat.eq_of_testBit_eq λl=>?_;rw[Nat.testBit_and,wi,Nat.zero_testBit];by_cases e:63=l
   ·subst e;rw[Nat.testBit_lt_two_pow d];rfl
   rw[az e,Bool.and_false]
  rw[f,aB (show((0:Nat):Int)=0 from rfl),az (U:¬(((2^63:Nat):Int)<=(a:Int)))];rfl
 have f:a&&&2^63≠0:=(by intro i;have c:(a&&&2^63).testBit 63=false:=(by rw[i];exact Nat.zero_testBit 63);rw[Nat.testBit_and,wi] at c;obtain⟨g,rfl⟩:∃g,a=2^63*1+g:=⟨a-2^63,U⟩;rw[Nat.testBit_two_pow_mul_add 1 U,ag U] at c;exact absurd c aa);rw[az (U:¬(((a&&&2^63:Nat):Int)=0)),aB (U:(((2^63:Nat):Int)<=(a:Int)))];rfl
def OG (a:dr b):w7 (b,())=some (decide (9223372036854775808<=b),()):=by unfold w7;dsimp only;rw[DZ a]
def Bb (a:dr b):qt (b,())=some (!decide (aW b=2047),()):=by unfold qt;refine aq (Ca a) ?_;dsimp only;rw[dN]
def iM (a:Int):Int:=if aW a=2047 then if db a=0 then 2 else 3 else if aW a=0/\db a=0 then 0 else 1
def NB (f:dr b):w4 (b,())=some (iM b,()):=by
 unfold w4 iM;refine aq (Ca f) ?_;dsimp only;rw[dH,dN,dH,dH];by_cases c:aW b=2047
 ·rw[aB c,ak c];by_cases a:db b=0
  ·rw[aB a,ak a];rfl
  rw[az a,ag a];rfl
 rw[az c,ag c];by_cases d:aW b=0
 ·rw[aB d];by_cases a:db b=0
  ·rw[aB a,ak ⟨d,a⟩];rfl
  rw[az a,ag (λe=>a e.2)];rfl
 rw[az d,ag (λe=>d e.1)];rfl
def pe (a:Int):0<=db a/\db a<4503599627370496:=by unfold db;omega
def ss (a:Int):0<=aW a/\aW a<2048:=by unfold aW;omega
def yQ (g:dr b):qu (b,())=some (bf (bq b),()):=by
 unfold qu bq;have o:=pe b;have n:=ss b;refine aq (Ca g) ?_;dsimp only;rw[dH,dH];by_cases e:aW b=2047
 ·rw[aB e,ak e];rfl
 rw[az e,ag e];obtain⟨c,d,h,i,j,k,l,f⟩:∃c d,(bif decide (aW b=0) then some (Sum.inl ((-1074:Int),db b,((false,((false,([],())),((0:Int),()))):bX),())) else some (.inl (ax (aW b-1075),dQ IntKind.u64 (db b) 4503599627370496,(false,((false,([],())),((0:Int),()))),())):Option ((Int×Int×bX×Unit)⊕e7))=some (.inl (d,c,(false,((false,([],())),((0:Int),()))),()))/\0<=c/\c<9007199254740992/\-1074<=d/\d<=972/\(c=(if aW b=0 then db b else db b+4503599627370496)/\d=(if aW b=0 then-1074 else aW b-1075)):=by
  by_cases a:aW b=0
  ·refine⟨db b,-1074,?_,U,U,U,U,by rw[ak a],by rw[ak a]⟩;rw[aB a];rfl
  refine⟨db b+4503599627370496,aW b-1075,?_,U,U,U,U,by rw[ag a],by rw[ag a]⟩;rw[az a,bh U U,j5 52 U U U U U aa];rfl
 rw[<-f.1,<-f.2];refine aq h ?_;dsimp only;rw[bh U U];have m:ar c.natAbs<=53:=bN.2 U;refine aq (AV U U) ?_;refine aq (y:=((false,((false,([],())),((0:Int),()))),aC (if b<9223372036854775808 then c else-c),())) ?_ ?_
 ·refine aq (OG g) ?_;dsimp only;by_cases a:b<9223372036854775808
  ·rw[az (U:¬(9223372036854775808<=b)),ak a];rfl
  rw[aB (U:9223372036854775808<=b),ag a];exact aq (Gm (gQ U)) rfl
 dsimp only;refine aq (By ?_ U U) rfl;split
 ·omega
 rw[oF];omega
def lY (d:Bool) (a:Nat) (b:Int) (c:Bool):oR:=(d,aC (a:Int),b,c,())
def eb (a:Nat):(a:Int).natAbs=a:=by omega
def NW (e:ar a<=900000) (c:-10000000<=b) (d:b<=10000000):wV (lY o a b l,())=some (b+ar a-1,()):=by unfold wV lY;refine aq (qm (gQ (by rw[eb];omega))) ?_;rw[eb];dsimp only;rw[bh (x:=b+(ar a:Int)) U U,bh U U]
def Lf (p:ar a<=900000) (w:0<a) (C:0<c) (D:c<=10000000):ug (lY o a b l,(c:Int),())=some (aC ((a/2^c:Nat):Int),iG a c l,decide (a %2^c=0)&&!l,()):=by
 unfold ug lY;refine aq (qm (gQ (by rw[eb];omega))) ?_;rw[eb];dsimp only;have E:=Nat.two_pow_pos c;rw[bo];split
 ·rename_i g;have t:a<2^(c-1):=bN.1 U;obtain⟨d,rfl⟩:∃d,c=d+1:=⟨c-1,U⟩;simp only[tK] at t;have aj:a %2^(d+1)=a:=Nat.mod_eq_of_lt (by rw[hy];omega);have i:a/2^(d+1)=0:=Nat.div_eq_of_lt (by rw[hy];omega);rw[aj,i];have j:iG a (d+1) l=-1:=(by unfold iG;rw[aj,ak (by rw[hy];omega)]);rw[j,az (U:¬a=0)];rfl
 rename_i g;have A:=Nat.div_add_mod a (2^c);have F:ar (a/2^c)<=900000:=Nat.le_trans (j0 (Nat.div_le_self _ _)) p;have G:ar (a %2^c)<=900000:=Nat.le_trans (j0 (Nat.mod_le _ _)) p;have q:a/2^c*2^c<=a:=Nat.div_mul_le_self _ _;refine aq (HH (m:=(a:Int)) (n:=c) (by rw[eb];omega) U) ?_;have aj:(a:Int)/2^c=((a/2^c:Nat):Int):=(by rw[<-jD,<-Int.natCast_ediv]);rw[aj];refine aq (sG (m:=((a/2^c:Nat):Int)) (k:=(c:Int)) (by rw[eb];omega) U U) ?_;have i:((a/2^c:Nat):Int)*2^(c:Int).toNat=((a/2^c*2^c:Nat):Int):=(by rw[Int.toNat_natCast,<-jD,<-Int.natCast_mul]);rw[i];refine aq (SN (x:=(a:Int)) (y:=((a/2^c*2^c:Nat):Int)) (by rw[eb];omega) (by rw[eb];exact Nat.le_trans (j0 q) U)) ?_;have j:(a:Int)-((a/2^c*2^c:Nat):Int)=((a %2^c:Nat):Int):=(by rw[Nat.mul_comm] at q|-;omega);rw[j];refine aq (AV (n:=1) aa aa) ?_;dsimp only;rw[bh (x:=(c:Int)-1) U U];refine aq (sG (m:=1) (k:=(c:Int)-1) aa U U) ?_;obtain⟨d,rfl⟩:∃d,c=d+1:=⟨c-1,U⟩;have r:(1:Int)*2^(((d+1:Nat):Int)-1).toNat=((2^d:Nat):Int):=(by rw[Int.one_mul,<-jD];congr 2;omega);rw[r];have B:ar (2^d)<=900000:=(by have:ar (2^d)<=d+1:=bN.2 (Nat.pow_lt_pow_right aa U);omega);refine aq (Eb (x:=((a %2^(d+1):Nat):Int)) (y:=((2^d:Nat):Int)) (by rw[eb];omega) (by rw[eb];omega)) ?_;dsimp only;have s:(if ee ((a %2^(d+1):Nat):Int) ((2^d:Nat):Int)=0/\l=true then 1 else ee ((a %2^(d+1):Nat):Int) ((2^d:Nat):Int))=iG a (d+1) l:=by
  unfold iG ee;have u:2^(d+1)=2*2^d:=(by rw[hy,hL]);generalize a %2^(d+1)=e at*;rw[u];generalize 2^d=h at*;rcases qb e h with f|f|f
  ·rw[ak (U:(e:Int)<(h:Int)),ag ab,ak U]
  ·subst f;have v:(if(e:Int)<(e:Int) then(-1:Int) else if(e:Int)<(e:Int) then 1 else 0)=0:=ab;rw[v,ag (U:¬(2*e<2*e)),ag (U:¬(2*e<2*e))];cases l<;>simp
  rw[ag (U:¬((e:Int)<(h:Int))),ak (U:(h:Int)<(e:Int)),ag ab,ag U,ak U]
 refine aq (y:=(iG a (d+1) l,aC ((a/2^(d+1):Nat):Int),aC ((a %2^(d+1):Nat):Int),())) ?_ ?_
 ·rw[<-s,dH];by_cases f:ee ((a %2^(d+1):Nat):Int) ((2^d:Nat):Int)=0
  ·rw[aB f];cases l
   ·rw[ag (λg=>Bool.false_ne_true g.2)];rfl
   rw[ak ⟨f,rfl⟩];rfl
  rw[az f,ag (λg=>f g.1)];rfl
 refine aq (oq (z:=((a %2^(d+1):Nat):Int)) (gQ (by rw[eb];omega))) ?_;dsimp only;rw[lj];by_cases f:a %2^(d+1)=0
 ·rw[aB (U:((a %2^(d+1):Nat):Int)=0),aB f];cases l<;>rfl
 rw[az (U:¬((a %2^(d+1):Nat):Int)=0),az f];rfl
def vt {n:Nat}:(n≠0/\a9 n=0)↔n %2=1:=by
 constructor
 ·rintro⟨c,a⟩;have:=pu (n:=n) (k:=1) U;rw[a,Nat.pow_one] at this;omega
 intro b;refine⟨U,?_⟩;have:=pu (n:=n) (k:=1) U;rw[Nat.pow_one] at this;omega
def OD {e:Int} (A:ar a<=900000) (E:0<a) (K:-1000000<=b-f) (w:b-f<=1000000):wW (lY o a b l,f,e,())=some (aC (if o then-((if f<=b then a*2^(b-f).toNat else eI o a (f-b).toNat l e:Nat):Int) else((if f<=b then a*2^(b-f).toNat else eI o a (f-b).toNat l e:Nat):Int)),()):=by
 unfold wW;have v:∀d:Nat,ar d<=2000000->(Option.bind (α:=ks) (
  bif o then
 (o5 (aC (d:Int),())).bind λ(J,_)=>
 some (((false,([],())):c6),J,()) else
 some ((false,([],())),aC (d:Int),())) λ(_,I,_)=>
 some (I,()))=some (aC (if o then-(d:Int) else(d:Int)),()):=λd M=>by
  cases o
  ·rfl
  refine aq (y:=((false,([],())),aC (-(d:Int)),())) ?_ rfl;have L:Fit (d:Int)\/True:=.inr trivial;have B:=fJ (z:=(d:Int)) (by rw[eb];omega);refine aq (y:=(aC (-(d:Int)),())) ?_ rfl;unfold o5;refine aq (uc (by have:=B.2.2;omega)) (aq (rX (ju _) (by have:=B.2.2;omega)) ?_);have g:=zx (aC (d:Int)).1 (aC (d:Int)).2.1;have w:=lr (d:Int);rw[g];show some (aC (-eA (aC (d:Int))),())=_;rw[w]
 by_cases k:f<=b
 ·rw[ak k];obtain⟨c,i⟩:∃c:Nat,b-f=c:=⟨(b-f).toNat,U⟩;rw[i,dk];refine aq (y:=((-1:Int),true,(false,([],())),aC ((a*2^c:Nat):Int),())) ?_ ?_
  ·show(bif decide (f<=b) then _ else _)=_;rw[aB k];refine aq (y:=(aC ((a*2^c:Nat):Int),())) ?_ rfl;show lR (aC (a:Int),ax (b-f),())=_;rw[bh U U,sG (by rw[eb];omega) U U,i,dk,mx,jD]
  refine aq rfl (aq rfl ?_);exact v _ (bj wF U)
 rw[ag k];obtain⟨c,i⟩:∃c:Nat,f-b=c:=⟨(f-b).toNat,U⟩;rw[i,dk];refine aq (y:=(iG a c l,decide (a %2^c=0)&&!l,(false,([],())),aC ((a/2^c:Nat):Int),())) ?_ ?_
 ·show(bif decide (f<=b) then _ else _)=_;rw[az k];refine aq (y:=(aC ((a/2^c:Nat):Int),iG a c l,decide (a %2^c=0)&&!l,())) ?_ rfl;show ug (lY o a b l,ax (f-b),())=_;rw[bh U U,i];exact Lf A E U U
 have F:ar (a/2^c)<=900000:=bj (j0 (rN _ _)) A;refine aq (y:=(!(decide (a %2^c=0)&&!l)&&pN o (iG a c l) (decide (a/2^c %2=1)) e,(false,([],())),aC ((a/2^c:Nat):Int),())) ?_ ?_
 ·dsimp only;cases h:(decide (a %2^c=0)&&!l) with
  |true=>rfl
  |false=>
   show(bif e==1 then some (o,_,_,()) else _)=_;unfold pN;rw[dH,dH,dH];by_cases p:e=1
   ·rw[aB p,ak p];rfl
   rw[az p,ag p];by_cases q:e=2
   ·rw[aB q,ak q];rfl
   rw[az q,ag q];by_cases r:e=3
   ·rw[aB r,ak r];rfl
   rw[az r,ag r];generalize iG a c l=j;show(bif decide (j>0)==false then _ else _)=_;by_cases u:j>0
   ·rw[aB u];rfl
   rw[az u];show(bif (j==0)==true then _ else _)=_;rw[dH];by_cases t:j=0
   ·rw[aB t];refine aq (oq (z:=((a/2^c:Nat):Int)) (gQ (by rw[eb];omega))) ?_;dsimp only;have C:=vt (n:=a/2^c);rw[dN];by_cases s:a/2^c=0
    ·rw[aB (show dY ((a/2^c:Nat):Int)=0 by rw[s];rfl),az (show¬(a/2^c %2=1) by rw[s];decide)];rfl
    have G:dY ((a/2^c:Nat):Int)≠0:=(by unfold dY;rw[if_neg U];split<;>omega);rw[az G];refine aq (IL (z:=((a/2^c:Nat):Int)) (gQ (by rw[eb];omega)) U) ?_;rw[eb];dsimp only;rw[dH];by_cases D:a9 (a/2^c)=0
    ·rw[aB (U:(a9 (a/2^c):Int)=0),aB (C.1 ⟨s,D⟩)];rfl
    rw[az (U:¬(a9 (a/2^c):Int)=0),az (λg=>D (C.2 g).2)];rfl
   rw[az t];rfl
 dsimp only;refine aq (y:=((false,([],())),aC ((eI o a c l e:Nat):Int),())) ?_ ?_
 ·unfold eI;by_cases h:a %2^c=0/\l=false
  ·rw[ak h,aB h.1,h.2];rfl
  have H:(decide (a %2^c=0)&&!l)=false:=by
   by_cases g:a %2^c=0
   ·cases l
    ·exact absurd ⟨g,rfl⟩ h
    rw[aB g];rfl
   rw[az g];rfl
  rw[ag h,H];by_cases m:pN o (iG a c l) (decide (a/2^c %2=1)) e=true
  ·rw[ak m,m];refine aq (AV (n:=1) aa aa) ?_;refine aq (Ds (x:=((a/2^c:Nat):Int)) (y:=1) (by rw[eb];omega) aa) ?_;rfl
  rw[ag m,Bool.eq_false_iff.2 m];rfl
 refine v _ ?_;have:eI o a c l e<=a/2^c+1:=by
  unfold eI;split
  ·omega
  split<;>omega
 exact bj (j0 this) (bj (Kr F (aa:ar 1<=900000)) U)
def vN (a:0<=b) (c:b<9223372036854775808):qv (b,l,())=some (fX l b,()):=by
 unfold qv fX;cases l
 ·rfl
 dsimp only;rw[j5 63 a (by exact c) aa U aa aa,Int.add_comm];rfl
def Hg:w8 (l,b,())=some (l9 l b,()):=by
 unfold w8 l9;dsimp only;refine aq (y:=if(b=3\/(b=1/\l=false)\/(b=2/\l=true)) then .inr (fX l 9218868437227405311,()) else .inl ()) ?_ ?_
 ·refine aq (y:=(decide (b=3\/(b=1/\l=false)\/(b=2/\l=true)),())) ?_ ?_
  ·rw[dH,dH,dH];by_cases e:b=3
   ·subst e;simp
   by_cases c:b=1
   ·subst c;cases l<;>simp
   by_cases d:b=2
   ·subst d;cases l<;>simp
   simp[c,d,e]
  dsimp only;by_cases a:(b=3\/(b=1/\l=false)\/(b=2/\l=true))
  ·rw[aB a,ak a];exact aq (vN aa aa) rfl
  rw[az a,ag a];rfl
 by_cases a:(b=3\/(b=1/\l=false)\/(b=2/\l=true))
 ·rw[ak a,ak a]
 rw[ag a,ag a];exact aq (vN aa aa) rfl
def tk {neg iO:Bool} {e gV:Int} (g:0<a):(if bd a e<=e then a*2^(e-bd a e).toNat else eI neg a (bd a e-e).toNat iO gV)<=9007199254740992:=by
 have c:=bN.1 (aZ (ar a));have i:=lN g;have j:e+ar a-53<=bd a e:=(by unfold bd;omega);split
 ·rename_i d;have b:a*2^(e-bd a e).toNat<2^ar a*2^(e-bd a e).toNat:=tN c (eT _);rw[<-c4] at b;have h:2^(ar a+(e-bd a e).toNat)<=2^53:=nD aa U;have f:(2:Nat)^53=9007199254740992:=aa;omega
 rename_i d;have b:a/2^(bd a e-e).toNat<2^53:=(by rw[wg (eT _),<-c4];exact fA c (nD aa U));have f:(2:Nat)^53=9007199254740992:=aa;unfold eI;split
 ·omega
 split<;>omega
def HU (s:ar a<=800000) (i:0<a) (q:-500000<=b) (r:b<=500000):uj (lY l a b o,f,())=some (gL l a b o f,()):=by
 have t:=lN i;have u:=tk (neg:=l) (iO:=o) (gV:=f) (e:=b) i;have n:gL l a b o f=eO l (if bd a b<=b then a*2^(b-bd a b).toNat else eI l a (bd a b-b).toNat o f) (bd a b) f:=(by unfold gL;split<;>rfl);have p:bd a b=if(-1074:Int)>b+ar a-1-52 then-1074 else b+ar a-1-52:=by unfold bd;split<;>omega
 have w:-1074<=bd a b:=(by unfold bd;omega);have A:bd a b<=1400000:=(by unfold bd;omega);unfold uj;refine aq (NW U U U) ?_;dsimp only;rw[bh U U,<-p,n];refine aq (OD U i ?_ ?_) ?_
 ·unfold bd;omega
 ·unfold bd;omega
 generalize(if bd a b<=b then a*2^(b-bd a b).toNat else eI l a (bd a b-b).toNat o f)=c at*;generalize bd a b=d at*;have v:ar c<=54:=bN.2 U;have m:(if l then-(c:Int) else(c:Int)).natAbs=c:=(by cases l<;>simp);refine aq (zR (gQ (by rw[m];omega))) ?_;rw[m];refine aq (Nj (z:=(c:Int)) U U) ?_;dsimp only;rw[bV (x:=(c:Int)) U U,dH];show Option.bind _ _=some (eO l c d f,());unfold eO;by_cases j:c=9007199254740992
 ·rw[aB (U:(c:Int)=9007199254740992),ag (U:¬c<4503599627370496),ak j];refine aq (y:=(d+1,4503599627370496,())) ?_ ?_
  ·show some (a7 d,4503599627370496,())=_;unfold a7;rw[wrap64 U U]
  dsimp only;rw[az (U:¬((4503599627370496:Int)<4503599627370496)),bh U U,cond_false,bo];split
  ·rename_i h;exact aq Hg rfl
  rename_i h;rw[bV U U,kS aa aa,show(2:Int)^(52:Int).toNat=4503599627370496 from rfl,aP];have aj:aH (4503599627370496-4503599627370496)=0:=(by rw[bV U U];omega);have g:(d+1+1075)*4503599627370496 %18446744073709551616=(d+1+1075)*4503599627370496:=U;rw[aj,g,vy,j5 52 aa aa U aa U U,Int.zero_add];exact aq (vN U U) rfl
 rw[az (U:¬(c:Int)=9007199254740992)];refine aq (y:=(d,(c:Int),())) rfl ?_;dsimp only;rw[bo];by_cases k:c<4503599627370496
 ·rw[ak (U:(c:Int)<4503599627370496),ak k];exact aq (vN U U) rfl
 rw[ag (U:¬(c:Int)<4503599627370496),ag k,ag j,bh U U,bo];split
 ·rename_i h;exact aq Hg rfl
 rename_i h;rw[bV (x:=d+1075) U U,kS aa aa,show(2:Int)^(52:Int).toNat=4503599627370496 from rfl,Option.bind_some,bV (x:=(c:Int)-4503599627370496) U U];have g:(d+1075)*4503599627370496 %18446744073709551616=(d+1075)*4503599627370496:=U;rw[g,vy,j5 52 U U U U U U];refine aq (vN U U) ?_;dsimp only;congr 3;omega
def m5 (c d:cK) (e:Int):Int:=match c,d with
 |some a,some b=>if b=0 then 9221120237041090560 else if a=0 then 0 else j6 a b e
 |_,_=>9221120237041090560
def m7 (b:cK) (c:Int):Int:=match b with
 |some a=>if a<0 then 9221120237041090560 else if a=0 then 0 else jc a c
 |none=>9221120237041090560
def BO (a:Int):(aC (aL a)).1=decide (a<0):=by show decide (aL a<0)=_;rw[decide_eq_decide];exact l7
def Rr (i:e4 b) (j:e4 f) (o:b≠0) (p:f≠0) (k:Int):∃d e l,wU (bf (some b),bf (some f),56,())=some (lY (decide (b<0)!=decide (f<0)) d e l,())/\0<d/\ar d<=800000/\-500000<=e/\e<=500000/\gL (decide (b<0)!=decide (f<0)) d e l k=j6 b f k:=by
 have v:=j9 i;have w:=j9 j;have z:=j8 i;have A:=j8 j;have t:0<(aL b).natAbs:=(by have:=ho o;omega);have u:0<(aL f).natAbs:=(by have:=ho p;omega);obtain⟨a,g⟩:∃a,a=kJ (aL b).natAbs (aL f).natAbs:=⟨_,rfl⟩;have C:a<=131131:=(by rw[g];unfold kJ;omega);have h:58<=ar ((aL b).natAbs*2^a/(aL f).natAbs):=Ch t u (by rw[g];unfold kJ;omega);have B:ar ((aL b).natAbs*2^a)<=262203:=(by have:=wF (m:=(aL b).natAbs) (n:=a);omega);refine⟨(aL b).natAbs*2^a/(aL f).natAbs,bz b-a-bz f,decide ((aL b).natAbs*2^a %(aL f).natAbs≠0),?_,?_,?_,U,U,?_⟩
 ·unfold wU;rw[hB,hB];refine aq (qm (gQ U)) (aq (qm (gQ U)) (aq (zR (gQ U)) ?_));dsimp only;have aj:(if ax (ax (ax (56+3)+(ar (aL f).natAbs:Int))-(ar (aL b).natAbs:Int))>0 then ax (ax (ax (56+3)+(ar (aL f).natAbs:Int))-(ar (aL b).natAbs:Int)) else 0)=(a:Int):=by
   rw[bh (x:=56+3) aa aa,bh (x:=56+3+(ar (aL f).natAbs:Int)) U U,bh U U,g];unfold kJ;split<;>omega
  rw[aj];refine aq (sG (m:=((aL b).natAbs:Int)) (by rw[eb];omega) U U) (aq (zR (gQ U)) ?_);have q:((aL b).natAbs:Int)*2^(a:Int).toNat=(((aL b).natAbs*2^a:Nat):Int):=(by rw[Int.toNat_natCast,<-jD,<-Int.natCast_mul]);rw[q];refine aq (Lp (x:=(((aL b).natAbs*2^a:Nat):Int)) (y:=((aL f).natAbs:Int)) (by rw[eb];omega) (by rw[eb];omega) U U) ?_;rw[<-Int.natCast_ediv,<-Int.natCast_emod];have D:ar ((aL b).natAbs*2^a %(aL f).natAbs)<=900000:=Nat.le_trans (j0 (Nat.mod_le _ _)) U;refine aq (oq (gQ (by rw[eb];omega))) ?_;dsimp only;rw[bh (x:=bz b-(a:Int)) U U,bh U U,BO,BO];unfold lY;have r:(dY (((aL b).natAbs*2^a %(aL f).natAbs:Nat):Int)!=0)=decide ((aL b).natAbs*2^a %(aL f).natAbs≠0):=by
   show(!(dY (((aL b).natAbs*2^a %(aL f).natAbs:Nat):Int)==0))=_;rw[lj];by_cases c:(aL b).natAbs*2^a %(aL f).natAbs=0
   ·rw[aB U,az (λs=>s c)];rfl
   rw[az U,aB c];rfl
  rw[r];rfl
 ·rcases gG ((aL b).natAbs*2^a/(aL f).natAbs) with c|c
  ·rw[c] at h;exact absurd h aa
  exact c
 ·exact bj (j0 (rN _ _)) U
 unfold j6 s6;rw[<-g];congr 1;unfold bz;rw[ag o,ag p];omega
def MB {f:cK} (g:e2 f) (e:e2 k):w5 (bf f,bf k,b,())=some (m5 f k b,()):=by
 unfold w5;refine aq (Ay g) (aq (Ay e) ?_);dsimp only;rw[ya,ya];cases f with
 |none=>cases k<;>rfl
 |some c=>
  cases k with
  |none=>rfl
  |some a=>
   by_cases d:a=0
   ·subst d;refine aq (y:=.inr (9221120237041090560,())) ?_ rfl;refine aq (y:=(true,bf (some c),bf (some 0),())) ?_ rfl;refine aq (lW e) ?_;rfl
   by_cases h:c=0
   ·subst h;refine aq (y:=.inr (0,())) ?_ ?_
    ·refine aq (y:=(false,bf (some 0),bf (some a),())) ?_ ?_
     ·refine aq (lW e) ?_;dsimp only;rw[show om (some a)=dY a from rfl,lj,az d]
     refine aq (lW g) ?_;rfl
    unfold m5;simp only;rw[ag d];rfl
   obtain⟨p,q,r,i,j,l,m,n,o⟩:=Rr (g c rfl) (e a rfl) h d b;refine aq (y:=.inl (bf (some c),bf (some a),())) ?_ ?_
   ·refine aq (y:=(false,bf (some c),bf (some a),())) ?_ ?_
    ·refine aq (lW e) ?_;dsimp only;rw[show om (some a)=dY a from rfl,lj,az d]
    refine aq (lW g) ?_;dsimp only;rw[show om (some c)=dY c from rfl,lj,az h];rfl
   refine aq i (aq (HU l j m n) ?_);unfold m5;simp only;rw[ag d,ag h,o]
def RK (r:e4 b) (I:0<b) (s:Int):∃g h t,wX (bf (some b),56,())=some (lY false g h t,())/\0<g/\ar g<=800000/\-500000<=h/\h<=500000/\gL false g h t s=jc b s:=by
 have A:=j9 r;have J:=j8 r;have u:b≠0:=U;have O:0<aL b:=(by have:=l7 (v:=b);have:=ho u;omega);obtain⟨a,B⟩:∃a:Nat,aL b=a:=⟨(aL b).toNat,U⟩;have o:(aL b).natAbs=a:=U;rw[o] at A;have C:0<a:=U;have E:bz b=a6 b:=(by unfold bz;rw[ag u]);obtain⟨c,f⟩:∃c,c=hb a (bz b):=⟨_,rfl⟩;have L:c<=119:=(by rw[f];unfold hb;split<;>omega);have M:118<=ar a+c:=(by rw[f];unfold hb;split<;>omega);have N:(bz b-c) %2=0:=(by rw[f];unfold hb;split<;>omega);have K:ar (a*2^c)<=131191:=(by have:=wF (m:=a) (n:=c);omega);have q:58<=ar (bF (a*2^c)):=Bd (by rw[g7 C];omega);have F:bF (a*2^c)<=a*2^c:=by
  obtain⟨H,R⟩:=qX (a*2^c);rcases gG (bF (a*2^c)) with d|d
  ·omega
  exact bj (wh _ d) H
 have P:=j0 F;refine⟨bF (a*2^c),(bz b-c)/2,decide (bF (a*2^c)*bF (a*2^c)≠a*2^c),?_,?_,U,U,U,?_⟩
 ·unfold wX;rw[hB,B];refine aq (qm (gQ (by rw[eb];omega))) ?_;rw[eb];dsimp only;have aj:(if ax (ax (2*ax (56+3))-(ar a:Int))>0 then ax (ax (2*ax (56+3))-(ar a:Int)) else 0)=((118-ar a:Nat):Int):=by
   rw[bh (x:=56+3) aa aa,bh (x:=2*(56+3)) aa aa,bh U U];split<;>omega
  rw[aj];refine aq (y:=((c:Int),(false,((false,([],())),((0:Int),(false,())))),())) ?_ ?_
  ·rw[bh U U];refine aq (y:=(bz b-((118-ar a:Nat):Int)).tmod 2) (by unfold gn;rw[ak aa]) ?_;rw[dN];have p:((bz b-((118-ar a:Nat):Int)).tmod 2=0)↔((bz b-((118-ar a:Nat):Int)) %2=0):=by
    constructor
    ·intro e;have:=Int.dvd_of_tmod_eq_zero e;omega
    intro e;exact Int.tmod_eq_zero_of_dvd (Int.dvd_of_emod_eq_zero e)
   by_cases d:(bz b-((118-ar a:Nat):Int)) %2=0
   ·rw[aB (p.2 d)];show some (((118-ar a:Nat):Int),_,())=_;rw[f];unfold hb;rw[ak d]
   rw[az (λe=>d (p.1 e))];show some (a7 ((118-ar a:Nat):Int),_,())=_;rw[bA U,f];unfold hb;rw[ag d]
  dsimp only;refine aq (sG (m:=(a:Int)) (k:=(c:Int)) (by rw[eb];omega) U U) ?_;have w:(a:Int)*2^(c:Int).toNat=((a*2^c:Nat):Int):=(by rw[Int.toNat_natCast,<-jD,<-Int.natCast_mul]);rw[w];refine aq (SD (x:=((a*2^c:Nat):Int)) (by rw[eb];omega) U) ?_;rw[Int.toNat_natCast];dsimp only;rw[bh U U];refine aq (y:=(bz b-c)/2) ?_ ?_
  ·unfold gY;have:(bz b-(c:Int)).tdiv 2=(bz b-(c:Int))/2:=by
    obtain⟨j,D⟩:∃j,bz b-(c:Int)=2*j:=⟨(bz b-(c:Int))/2,U⟩;rw[D,Int.mul_tdiv_cancel_left _ aa,Int.mul_ediv_cancel_left _ aa]
   rw[ak aa,this,wrap64 U U]
  refine aq (Gf (x:=(bF (a*2^c):Int)) (y:=(bF (a*2^c):Int)) (by rw[eb];omega) (by rw[eb];omega)) ?_;rw[<-Int.natCast_mul];have Q:ar (bF (a*2^c)*bF (a*2^c))<=900000:=(by have:=oZ (k:=131191) (l:=131191) (U:ar (bF (a*2^c))<=131191) (U:ar (bF (a*2^c))<=131191);omega);refine aq (Eb (x:=((bF (a*2^c)*bF (a*2^c):Nat):Int)) (y:=((a*2^c:Nat):Int)) (by rw[eb];omega) (by rw[eb];omega)) ?_;dsimp only;unfold lY;have z:(ee ((bF (a*2^c)*bF (a*2^c):Nat):Int) ((a*2^c:Nat):Int)!=0)=decide (bF (a*2^c)*bF (a*2^c)≠a*2^c):=by
   rw[dN];generalize bF (a*2^c)*bF (a*2^c)=i;generalize a*2^c=G;by_cases d:i=G
   ·subst d;rw[az (show¬(i≠i) fromλe=>e rfl),aB (by unfold ee;rw[ag U,ag U])];rfl
   rw[aB d,az (by unfold ee;split;omega;split<;>omega)];rfl
  rw[z]
 ·rcases gG (bF (a*2^c)) with d|d
  ·rw[d] at q;exact absurd q aa
  exact d
 unfold jc s8;rw[o,<-E,<-f]
def MF (c:e2 k):w6 (bf k,b,())=some (m7 k b,()):=by
 unfold w6;refine aq (Ay c) ?_;dsimp only;rw[ya];cases k with
 |none=>rfl
 |some a=>
  have e:om (some a)=dY a:=rfl;by_cases d:a<0
  ·refine aq (y:=.inr (9221120237041090560,())) ?_ ?_
   ·refine aq (y:=(true,bf (some a),())) ?_ rfl;refine aq (lW c) ?_;dsimp only;rw[e,aB (show dY a<0 by unfold dY;rw[if_neg U,if_pos d];decide)]
   unfold m7;simp only;rw[ak d]
  have n:decide (dY a<0)=false:=az (by unfold dY;split;omega;first|decide|(split<;>omega));by_cases f:a=0
  ·subst f;refine aq (y:=.inr (0,())) ?_ rfl;refine aq (y:=(false,bf (some 0),())) ?_ ?_
   ·exact aq (lW c) rfl
   exact aq (lW c) rfl
  obtain⟨o,p,q,g,h,i,j,l,m⟩:=RK (c a rfl) U b;refine aq (y:=.inl (bf (some a),())) ?_ ?_
  ·refine aq (y:=(false,bf (some a),())) ?_ ?_
   ·refine aq (lW c) ?_;dsimp only;rw[e,n]
   refine aq (lW c) ?_;dsimp only;rw[e,lj,az f];rfl
  refine aq g (aq (HU i h j l) ?_);unfold m7;simp only;rw[ag d,ag f,m]
def R2:nP (aC 0,())=some (0,()):=by
 unfold nP;refine aq (ta (l:=[]) aK.nil (λf b=>by cases b) aa) ?_;refine ac.eq_iff.1 (ac.a1 (P:=λd=>d=.inl ()) ?_ ?_)
 ·refine ac.steps 0 (λc a=>a=((0:Int),())) rfl (λc a e=>by omega) ?_;rintro _ rfl;exact ac.al.2 rfl
 rintro _ rfl;exact ac.al.2 rfl
def HQ {n:Nat} (e:ar n<=900000):∃c,nP (aC (n:Int),())=some (c,())/\((c=0/\n≠0)↔n %2=1):=by
 by_cases d:n=0
 ·subst d;exact⟨0,R2,ab⟩
 refine⟨(a9 n:Int),?_,?_⟩
 ·have:=H0 (z:=(n:Int)) (by rw[eb];omega) U;rw[eb] at this;exact this
 rw[<-vt];constructor
 ·rintro⟨a,b⟩;exact⟨b,U⟩
 rintro⟨a,b⟩;exact⟨U,a⟩
def Tf:xS (o,f,l,b,())=some (pN o f l b,()):=by
 unfold xS pN;dsimp only;rw[dH,dH,dH,dH];by_cases a:b=1
 ·rw[aB a,ak a];rfl
 rw[az a,ag a];by_cases c:b=2
 ·rw[aB c,ak c];rfl
 rw[az c,ag c];by_cases d:b=3
 ·rw[aB d,ak d];rfl
 rw[az d,ag d];by_cases g:f>0
 ·rw[aB g];rfl
 rw[az g];by_cases e:f=0
 ·rw[aB e];cases l<;>rfl
 rw[az e];rfl
def Ru (D:ar a<=800000) (F:c<=1000000):xP (o,aC (a:Int),(c:Int),l,b,())=some (aC ((eI o a c l b:Nat):Int),()):=by
 unfold xP;have w:∀g:Nat,(a:Int)/2^g=((a/2^g:Nat):Int):=λg=>(by rw[<-jD,<-Int.natCast_ediv]);have A:∀g:Nat,decide (((a:Int).natAbs:Int) %2^g≠0)=decide (a %2^g≠0):=λg=>(by rw[eb,<-jD,<-Int.natCast_emod,decide_eq_decide];omega);have j:∀g,ar (a/2^g)<=800000:=λg=>Nat.le_trans (j0 (Nat.div_le_self _ _)) D;refine aq (Cp (m:=(a:Int)) (n:=c) (by rw[eb];omega) U) ?_;rw[w];refine aq (HJ (z:=(a:Int)) (n:=c) (by rw[eb];omega) U) ?_;rw[A];dsimp only;by_cases k:a %2^c=0/\l=false
 ·refine aq (y:=.inr (aC ((a/2^c:Nat):Int),())) ?_ ?_
  ·rw[az (λe=>e k.1),k.2];rfl
  unfold eI;rw[ak k]
 refine aq (y:=.inl ((false,([],())),aC ((a/2^c:Nat):Int),())) ?_ ?_
 ·by_cases e:a %2^c=0
  ·have:l=true:=by
    cases l
    ·exact absurd ⟨e,rfl⟩ k
    rfl
   rw[az (λC=>C e),this];rfl
  rw[aB e];rfl
 dsimp only;refine aq (y:=(iG a c l,(false,([],())),aC ((a/2^c:Nat):Int),())) ?_ ?_
 ·rw[bo];split
  ·rename_i e;obtain⟨d,rfl⟩:∃d,c=d+1:=⟨c-1,U⟩;have B:ax (((d+1:Nat):Int)-1)=(d:Int):=(by rw[bh U U];omega);rw[B];refine aq (Cp (m:=(a:Int)) (n:=d) (by rw[eb];omega) U) ?_;rw[w];obtain⟨v,u,i⟩:=HQ (n:=a/2^d) (by have:=j d;omega);have r:=Ox a d 1;rw[Nat.pow_one] at r;have E:=Nat.mod_lt a (eT d);have G:2^(d+1)=2*2^d:=(by rw[hy,hL]);refine aq (y:=(decide (a/2^d %2=1),(false,([],())),aC ((a/2^(d+1):Nat):Int),())) ?_ ?_
   ·refine aq u ?_;dsimp only;rw[dH];by_cases h:v=0
    ·rw[aB h];refine aq (s9 (z:=((a/2^d:Nat):Int)) (by rw[eb];have:=j d;omega)) ?_;dsimp only;have q:(dY ((a/2^d:Nat):Int)!=0)=decide (a/2^d %2=1):=by
      show(!(dY ((a/2^d:Nat):Int)==0))=_;rw[lj];by_cases f:a/2^d=0
      ·rw[aB U,az (λe=>(i.2 e).2 f)];rfl
      rw[az U,aB (i.1 ⟨h,f⟩)];rfl
     rw[q]
    rw[az h,az (λe=>h (i.2 e).1)];rfl
   dsimp only;unfold iG;by_cases s:a/2^d %2=1
   ·rw[aB s];have t:a %2^(d+1)=2^d+a %2^d:=(by rw[r,s,fQ]);rw[t,ag U];cases l
    ·show(Option.bind _ _)=_;refine aq (HJ (z:=(a:Int)) (n:=d) (by rw[eb];omega) U) ?_;rw[A];dsimp only;by_cases f:a %2^d=0
     ·rw[az (λe=>e f),f,ag U];rfl
     rw[aB f,ak U];rfl
    show some (1,_,_,())=_;split<;>rfl
   rw[az s];have t:a %2^(d+1)=a %2^d:=(by rw[r,(U:a/2^d %2=0),Nat.zero_mul,h1]);rw[t,ak U];rfl
  rename_i e;obtain rfl:c=0:=U;unfold iG;rw[ak (by rw[Nat.pow_zero,Nat.mod_one];decide)]
 dsimp only;obtain⟨v,u,i⟩:=HQ (n:=a/2^c) (by have:=j c;omega);refine aq (y:=(decide (a/2^c %2=1),(false,([],())),aC ((a/2^c:Nat):Int),())) ?_ ?_
 ·refine aq (s9 (z:=((a/2^c:Nat):Int)) (by rw[eb];have:=j c;omega)) ?_;dsimp only;have q:(dY ((a/2^c:Nat):Int)!=0)=decide (a/2^c≠0):=by
   show(!(dY ((a/2^c:Nat):Int)==0))=_;rw[lj];by_cases f:a/2^c=0
   ·rw[aB U,az (λe=>e f)];rfl
   rw[az U,aB f];rfl
  rw[q];by_cases f:a/2^c=0
  ·rw[az (λe=>e f),az (λe=>(i.2 e).2 f)];rfl
  rw[aB f];refine aq u ?_;dsimp only;rw[dH];by_cases h:v=0
  ·rw[aB h,aB (i.1 ⟨h,f⟩)]
  rw[az h,az (λe=>h (i.2 e).1)]
 dsimp only;refine aq (y:=((false,([],())),aC ((eI o a c l b:Nat):Int),())) ?_ rfl;refine aq Tf ?_;dsimp only;unfold eI;rw[if_neg k];by_cases p:pN o (iG a c l) (decide (a/2^c %2=1)) b=true
 ·rw[ak p,p];refine aq (Cr (n:=1) aa aa) ?_;refine aq (y4 (x:=((a/2^c:Nat):Int)) (y:=1) (by rw[eb];have:=j c;omega) aa) ?_;rfl
 rw[ag p,Bool.eq_false_iff.2 p];rfl
def vH (a:0<=b) (c:b<9223372036854775808):nQ (l,b,())=some (fX l b,()):=by
 unfold nQ fX;cases l
 ·rfl
 dsimp only;rw[j5 63 a (by exact c) aa U aa aa,Int.add_comm];rfl
def Cu:uO (l,b,())=some (l9 l b,()):=by
 unfold uO l9;dsimp only;refine aq (y:=if(b=3\/(b=1/\l=false)\/(b=2/\l=true)) then .inr (fX l 9218868437227405311,()) else .inl ()) ?_ ?_
 ·refine aq (y:=(decide (b=3\/(b=1/\l=false)\/(b=2/\l=true)),())) ?_ ?_
  ·rw[dH,dH,dH];by_cases e:b=3
   ·subst e;simp
   by_cases c:b=1
   ·subst c;cases l<;>simp
   by_cases d:b=2
   ·subst d;cases l<;>simp
   simp[c,d,e]
  dsimp only;by_cases a:(b=3\/(b=1/\l=false)\/(b=2/\l=true))
  ·rw[aB a,ak a];exact aq (vH aa aa) rfl
  rw[az a,ag a];rfl
 by_cases a:(b=3\/(b=1/\l=false)\/(b=2/\l=true))
 ·rw[ak a,ak a]
 rw[ag a,ag a];exact aq (vH aa aa) rfl
def Te {neg iO:Bool} {e gV:Int} (c:0<a) (k:-1074<bd a e):4503599627370496<=(if bd a e<=e then a*2^(e-bd a e).toNat else eI neg a (bd a e-e).toNat iO gV):=by
 obtain⟨d,i⟩:=jZ c;have j:=lN c;have l:bd a e=e+ar a-53:=(by unfold bd at*;omega);have h:(2:Nat)^52=4503599627370496:=aa;split
 ·rename_i f;have b:2^(ar a-1)*2^(e-bd a e).toNat<=a*2^(e-bd a e).toNat:=dD _ d;rw[<-c4] at b;have g:2^52<=2^(ar a-1+(e-bd a e).toNat):=nD aa U;omega
 rename_i f;have b:2^52<=a/2^(bd a e-e).toNat:=(by rw[p9 (eT _),<-c4];exact bj (nD aa U) d);unfold eI;split
 ·omega
 split<;>omega
def RX (u:ar a<=800000) (k:0<a) (E:-500000<=b) (F:b<=500000) (B:o=true->54<=ar a):xV (l,aC (a:Int),b,o,f,())=some (gL l a b o f,()):=by
 have G:=lN k;have H:=tk (neg:=l) (iO:=o) (gV:=f) (e:=b) k;have q:=Te (neg:=l) (iO:=o) (gV:=f) (e:=b) k;have r:gL l a b o f=eO l (if bd a b<=b then a*2^(b-bd a b).toNat else eI l a (bd a b-b).toNat o f) (bd a b) f:=(by unfold gL;split<;>rfl);have s:bd a b=if(-1074:Int)>b+ar a-1-52 then-1074 else b+ar a-1-52:=by unfold bd;split<;>omega
 have I:-1074<=bd a b:=(by unfold bd;omega);have J:bd a b<=1400000:=(by unfold bd;omega);have C:-1000000<=bd a b-b:=(by unfold bd;omega);have D:bd a b-b<=1000000:=(by unfold bd;omega);unfold xV;refine aq (Cl (z:=(a:Int)) (by rw[eb];omega)) ?_;rw[eb];dsimp only;rw[bh (x:=b+(ar a:Int)) U U,bh (x:=b+(ar a:Int)-1) U U,bh (x:=b+(ar a:Int)-1-52) U U,<-s,r,bo];split
 ·rename_i v;have K:972<=bd a b:=(by unfold bd;omega);have q:=q U;refine aq Cu ?_;clear s r C D;generalize(if bd a b<=b then a*2^(b-bd a b).toNat else eI l a (bd a b-b).toNat o f)=d at*;unfold eO;rw[ag U];by_cases i:d=9007199254740992
  ·rw[ak i,ak U]
  rw[ag i,ak U]
 rename_i v;refine aq (y:=(aC ((if bd a b<=b then a*2^(b-bd a b).toNat else eI l a (bd a b-b).toNat o f:Nat):Int),())) ?_ ?_
 ·rw[bo];split
  ·rename_i g;obtain⟨h,m⟩:∃h:Nat,bd a b-b=h:=⟨(bd a b-b).toNat,U⟩;rw[bh (x:=bd a b-b) U U,m,Int.toNat_natCast];refine aq (Ru u U) ?_;dsimp only;by_cases t:bd a b<=b
   ·have w:h=0:=U;have A:o=false:=by
     cases o
     ·rfl
     have:=B rfl;exfalso;unfold bd at*;omega
    rw[ak t,w];unfold eI;rw[ak ⟨by rw[Nat.pow_zero,Nat.mod_one],A⟩,(U:(b-bd a b).toNat=0)];simp
   rw[ag t]
  rename_i g;obtain⟨h,m⟩:∃h:Nat,b-bd a b=h:=⟨(b-bd a b).toNat,U⟩;rw[bh (x:=b-bd a b) U U,ak U,m,dk];refine aq (HW (z:=(a:Int)) (n:=h) (by rw[eb];omega) U) ?_;rw[mx,jD]
 generalize(if bd a b<=b then a*2^(b-bd a b).toNat else eI l a (bd a b-b).toNat o f)=d at*;generalize bd a b=c at*;dsimp only;refine aq (RF (z:=(d:Int)) U U) ?_;dsimp only;rw[dH];unfold eO;by_cases i:d=9007199254740992
 ·rw[aB (U:(d:Int)=9007199254740992),ag (U:¬d<4503599627370496),ak i];refine aq (y:=(c+1,4503599627370496,())) ?_ ?_
  ·show some (a7 c,4503599627370496,())=_;unfold a7;rw[wrap64 U U]
  dsimp only;rw[bh (x:=c+1+53) U U,aB (U:(4503599627370496:Int)>=4503599627370496)];by_cases g:c+1+1075>=2047
  ·rw[ak g];refine aq (y:=.inr (l9 l f,())) ?_ rfl;refine aq (y:=(true,())) ?_ (aq Cu rfl);rw[aB (U:c+1+53>1024)];rfl
  rw[ag g];refine aq (y:=.inr (fX l ((c+1+1075)*4503599627370496),())) ?_ rfl;refine aq (y:=(false,())) ?_ ?_
  ·rw[az (U:¬c+1+53>1024)];rfl
  dsimp only;rw[bh (x:=c+1+1075) U U,bV (x:=c+1+1075) U U,kS aa aa,show(2:Int)^(52:Int).toNat=4503599627370496 from rfl];have aj:aH (ax (4503599627370496-4503599627370496))=0:=(by rw[bh U U,bV U U];omega);have j:(c+1+1075)*4503599627370496 %18446744073709551616=(c+1+1075)*4503599627370496:=U;rw[aj,j];show((nQ (l,dQ IntKind.u64 ((c+1+1075)*4503599627370496) 0,())).bind _)=_;rw[vy,j5 52 aa aa U aa U U,Int.zero_add];exact aq (vH U U) rfl
 rw[az (U:¬(d:Int)=9007199254740992)];refine aq (y:=(c,(d:Int),())) rfl ?_;dsimp only;rw[bh (x:=c+53) U U];by_cases p:d<4503599627370496
 ·rw[az (U:¬((d:Int)>=4503599627370496)),ak p,bV (x:=(d:Int)) U U];refine aq (y:=.inl ()) ?_ ?_
  ·exact aq rfl rfl
  exact aq (vH U U) rfl
 rw[aB (U:((d:Int)>=4503599627370496)),ag p,ag i];by_cases g:c+1075>=2047
 ·rw[ak g];refine aq (y:=.inr (l9 l f,())) ?_ rfl;refine aq (y:=(true,())) ?_ (aq Cu rfl);rw[aB (U:c+53>1024)];rfl
 rw[ag g];refine aq (y:=.inr (fX l ((c+1075)*4503599627370496+((d:Int)-4503599627370496)),())) ?_ rfl;refine aq (y:=(false,())) ?_ ?_
 ·rw[az (U:¬c+53>1024)];rfl
 dsimp only;rw[bh (x:=c+1075) U U,bV (x:=c+1075) U U,kS aa aa,show(2:Int)^(52:Int).toNat=4503599627370496 from rfl];have aj:aH (ax ((d:Int)-4503599627370496))=(d:Int)-4503599627370496:=(by rw[bh U U,bV U U]);have j:(c+1075)*4503599627370496 %18446744073709551616=(c+1075)*4503599627370496:=U;rw[aj,j];show((nQ (l,dQ IntKind.u64 ((c+1075)*4503599627370496) ((d:Int)-4503599627370496),())).bind _)=_;rw[vy,j5 52 U U U U U U];refine aq (vH U U) ?_;dsimp only;congr 4;omega
def zW (a:dr b):df IntKind.u64 b 52=some (b/4503599627370496)/\bD IntKind.u64 (b/4503599627370496) 2047=aW b/\bD IntKind.u64 b 4503599627370495=db b:=by
 have c:=a.1;have d:=a.2;refine⟨?_,?_,?_⟩
 ·rw[pJ aa aa];rfl
 ·rw[oT 11 U U 2047 aa aa];rfl
 rw[oT 52 U U 4503599627370495 aa aa];rfl
def HI (d:dr b):sm (b,())=some (!decide (aW b=2047),()):=by obtain⟨a,c,e⟩:=zW d;unfold sm;refine aq a ?_;rw[c,dN]
def RG (a:dr b):xT (b,())=some (decide (9223372036854775808<=b),()):=by unfold xT;dsimp only;rw[DZ a]
def zd (i:dr b):uM (b,())=some (iM b,()):=by
 obtain⟨f,g,h⟩:=zW i;unfold uM iM;refine aq f ?_;dsimp only;rw[g,h,dH,dN,dH,dH];by_cases c:aW b=2047
 ·rw[aB c,ak c];by_cases a:db b=0
  ·rw[aB a,ak a];rfl
  rw[az a,ag a];rfl
 rw[az c,ag c];by_cases d:aW b=0
 ·rw[aB d];by_cases a:db b=0
  ·rw[aB a,ak ⟨d,a⟩];rfl
  rw[az a,ag (λe=>a e.2)];rfl
 rw[az d,ag (λe=>d e.1)];rfl
def HR (g:dr f):uN (f,())=some (bf (bq f),()):=by
 obtain⟨i,j,k⟩:=zW g;have t:=pe f;have s:=ss f;unfold uN bq;refine aq (HI g) ?_;dsimp only;by_cases e:aW f=2047
 ·rw[aB e,ak e];rfl
 rw[az e,ag e,show(!!false)=false from rfl,cond_false,i,aP,j,k,bh (x:=aW f) U U];obtain⟨a,d,l,n,o,p,q,h⟩:∃a d,(bif decide (aW f>0) then some (dQ IntKind.u64 (db f) 4503599627370496,ax (aW f-1075),((false,((false,([],())),((0:Int),()))):bX),()) else some (db f,(-1074:Int),(false,((false,([],())),((0:Int),()))),()))=some (a,d,(false,((false,([],())),((0:Int),()))),())/\0<=a/\a<9007199254740992/\-1074<=d/\d<=972/\(a=(if aW f=0 then db f else db f+4503599627370496)/\d=(if aW f=0 then-1074 else aW f-1075)):=by
  by_cases c:aW f=0
  ·refine⟨db f,-1074,?_,U,U,U,U,by rw[ak c],by rw[ak c]⟩;rw[az (U:¬aW f>0)];rfl
  refine⟨db f+4503599627370496,aW f-1075,?_,U,U,U,U,by rw[ag c],by rw[ag c]⟩;rw[aB (U:aW f>0),bh U U,j5 52 U U U U U aa];rfl
 rw[<-h.1,<-h.2];refine aq l ?_;dsimp only;refine aq (RG g) ?_;rw[ll,Option.bind_some];dsimp only;rw[oz a,jh (x:=a/4294967296) U U];have r:ar a.natAbs<=53:=bN.2 U;refine aq (HK (b:=(decide (9223372036854775808<=f),[a %4294967296,a/4294967296],())) (m:=if f<9223372036854775808 then a else-a) (aK.cons.2 ⟨⟨U,U⟩,aK.cons.2 ⟨⟨U,U⟩,aK.nil⟩⟩) ab ?_ ?_ U U) rfl
 ·unfold eA;simp only[af];by_cases c:f<9223372036854775808
  ·rw[az (U:¬(9223372036854775808<=f)),ak c,ag ab];omega
  rw[aB (U:9223372036854775808<=f),ag c,ak rfl];omega
 split
 ·omega
 rw[oF];omega
def j7 (a:cK) (b:Int):Int:=match a with
 |none=>9221120237041090560
 |some c=>kM c b
def Cv (d:e2 k):sn (bf k,b,())=some (j7 k b,()):=by
 unfold sn;refine aq (y5 d) ?_;dsimp only;rw[ya];cases k with
 |none=>rfl
 |some c=>
  have e:=d c rfl;have h:=j9 e;have i:=j8 e;rw[hB];refine aq (s9 U) ?_;dsimp only;rw[lj];unfold j7 kM;by_cases a:c=0
  ·subst a;rw[aB (show aL 0=0 from rfl)];rfl
  rw[az (ho a)];simp only;rw[if_neg a,cond_false];have g:0<(aL c).natAbs:=(by have:=ho a;omega);refine aq (Ck U) ?_;dsimp only;rw[BO];refine aq (RX U g U U (λf=>by cases f)) ?_;unfold bz;rw[if_neg a]
def Fr (a:Int):e2 (gS a):=BD a 0
def zc (a:-9223372036854775808<=b) (c:b<=9223372036854775807):qE (b,f,())=some (j7 (gS b) f,()):=by unfold qE;exact aq (Hx a c) (aq (Cv (Fr b)) rfl)
def gU (a:Int) (b:Nat):Nat:=((a %18446744073709551616) %(b:Int)).toNat
def sR (a:Int) {n:Nat} (b:0<n):gU a n<n:=by unfold gU;have c:=ns (a %18446744073709551616) (U:(n:Int)≠0);have d:=oE (a %18446744073709551616) (U:(0:Int)<(n:Int));omega
def q8 (a:Int) {n:Nat} (c:0<n) (e:n<=9223372036854775807):mR (a,(n:Int),())=some ((gU a n:Int),()):=by unfold mR;have d:=sR a c;have b:(a %18446744073709551616) %(n:Int)=(gU a n:Int):=(by unfold gU;have:=Int.emod_nonneg (a %18446744073709551616) (U:(n:Int)≠0);omega);dsimp only;rw[ke a,bV (x:=(n:Int)) U U,(Ci (x:=a %18446744073709551616) (y:=(n:Int)) ⟨U,U⟩ U).2,b];show some (ax (gU a n:Int),())=_;rw[Tu U]
def TJ (a b:Int):dr (pT IntKind.u64 a b):=by unfold pT dr;rw[vW];omega
def I1 (e:cQ) (h:e.length<=9223372036854775807) (d:Int):ac (uF (e,d,())) (λc=>dr c.1):=by
 have g:∀b c:Int,0<=c->∃f,df IntKind.u64 b c=some f:=λb c a=>(by unfold df;rw[if_pos a];exact⟨_,rfl⟩);unfold uF;dsimp only;refine ac.a1 (P:=λ_=>True) ?_ ?_
 ·rw[bo];refine ac.ite (λa=>?_) λa=>ac.al.2 trivial;have a:0<e.length:=(by simp only[a5] at a;omega);have i:=sR d a;refine ac.bs (q8 d a h) (ac.bs (dc i) (ac.al.2 trivial))
 rintro⟨b,_⟩ _;dsimp only;obtain⟨f,j⟩:=g b 31 aa;refine ac.bs j ?_;obtain⟨l,k⟩:=g (aH (pT IntKind.u64 b f*13787848793156543929)) 29 aa;exact ac.bs k (ac.al.2 (TJ _ _))
def zk (a:0<=b) (c:b<9223372036854775808):dr (fX l b):=by unfold fX dr;cases l<;>simp<;>omega
def Hf (b:Bool) (a:Int):dr (l9 b a):=by unfold l9;split<;>exact zk aa aa
def QV (c:a<=9007199254740992) (d:-1074<=b):dr (eO l a b f):=by
 unfold eO;split
 ·exact zk U U
 split
 ·split
  ·exact Hf _ _
  exact zk U U
 split
 ·exact Hf _ _
 exact zk U U
def Cs (c:0<a):dr (gL l a b o f):=by have d:=tk (neg:=l) (iO:=o) (gV:=f) (e:=b) c;have h:-1074<=bd a b:=(by unfold bd;omega);have g:gL l a b o f=eO l (if bd a b<=b then a*2^(b-bd a b).toNat else eI l a (bd a b-b).toNat o f) (bd a b) f:=(by unfold gL;split<;>rfl);rw[g];exact QV d h
def yN:dr 9221120237041090560:=⟨aa,aa⟩
def HL (b:cK) (c:Int):dr (j7 b c):=by
 unfold j7;cases b with
 |none=>exact yN
 |some d=>
  simp only;unfold kM;by_cases a:d=0
  ·rw[ak a];exact⟨aa,aa⟩
  rw[ag a];exact Cs (by have:=ho a;omega)
def Rk {f:cK} (j:Int):dr (m5 k f j):=by
 unfold m5;cases k with
 |none=>exact yN
 |some a=>
  cases f with
  |none=>exact yN
  |some b=>
   simp only;by_cases c:b=0
   ·rw[ak c];exact⟨aa,aa⟩
   by_cases e:a=0
   ·rw[ag c,ak e];exact⟨aa,aa⟩
   rw[ag c,ag e];unfold j6 s6;have h:0<(aL a).natAbs:=(by have:=ho e;omega);have i:0<(aL b).natAbs:=(by have:=ho c;omega);have g:58<=ar ((aL a).natAbs*2^kJ (aL a).natAbs (aL b).natAbs/(aL b).natAbs):=Ch h i (by unfold kJ;omega);refine Cs ?_;rcases gG ((aL a).natAbs*2^kJ (aL a).natAbs (aL b).natAbs/(aL b).natAbs) with d|d
   ·rw[d] at g;exact absurd g aa
   exact d
def RL (g:Int):dr (m7 k g):=by
 unfold m7;cases k with
 |none=>exact yN
 |some a=>
  simp only;by_cases c:a<0
  ·rw[ak c];exact⟨aa,aa⟩
  by_cases d:a=0
  ·rw[ag c,ak d];exact⟨aa,aa⟩
  rw[ag c,ag d];unfold jc s8;have f:0<(aL a).natAbs:=(by have:=ho d;omega);have e:58<=ar (bF ((aL a).natAbs*2^hb (aL a).natAbs (a6 a))):=Bd (by rw[g7 f];unfold hb;split<;>omega);refine Cs ?_;rcases gG (bF ((aL a).natAbs*2^hb (aL a).natAbs (a6 a))) with b|b
  ·rw[b] at e;exact absurd e aa
  exact b
def Ha (a b:Int):dr (dQ IntKind.u64 a b):=by unfold dQ dr;rw[vW];omega
structure dG (me i9:Nat) (st lc pQ:cQ):Prop where
 len:st.length=i9+1
 first:st.getD 0 0=0
 mono:∀j,j<i9->st.getD j 0<=st.getD (j+1) 0
 last:st.getD i9 0=(lc.length:Int)
 val:pQ.length=lc.length
 rng:∀j k:Nat,j<i9->st.getD j 0<=(k:Int)->(k:Int)<st.getD (j+1) 0->0<=lc.getD k 0/\lc.getD k 0<(me:Int)
 asc:∀j k:Nat,j<i9->st.getD j 0<(k:Int)->(k:Int)<st.getD (j+1) 0->lc.getD (k-1) 0<lc.getD k 0
def eX {i:Nat} (a:i<d.length):aQ d (i:Int)=some (d.getD i 0):=by rw[dc a,ie a]
def Sz (t:d.length<=1000000):xC (d,())=some (open Classical in decide (∀a,a+1<d.length->d.getD a 0<=d.getD (a+1) 0),()):=by
 classical
 unfold xC;dsimp only;refine ac.eq_iff.1 (ac.a1 (P:=λg=>match g with|.inl _=>(∀a,a+1<d.length->d.getD a 0<=d.getD (a+1) 0)|.inr q=>q=(false,())/\¬(∀a,a+1<d.length->d.getD a 0<=d.getD (a+1) 0)) ?_ ?_)
 ·refine ac.loop (λh=>∃c:Nat,(h.1=(c:Int)\/(h.1=-1/\c=0))/\c<=d.length/\(c<d.length\/d.length=0)/\(∀a,c<=a->a+1<d.length->d.getD a 0<=d.getD (a+1) 0)) (λh=>h.1.toNat) ⟨d.length-1,?_,U,U,λa e i=>by omega⟩ ?_
  ·simp only[a5];rw[bh U U];omega
  rintro⟨r,_⟩ ⟨c,e,i,s,j⟩;dsimp only at e|-;rw[bo];refine ac.ite (λk=>?_) λk=>?_
  ·obtain rfl:r=(c:Int):=U;obtain⟨b,rfl⟩:∃b,c=b+1:=⟨c-1,U⟩;have aj:ax (((b+1:Nat):Int)-1)=(b:Int):=(by rw[bh U U];omega);rw[aj];refine ac.bs (eX U) (ac.bs (eX U) ?_);refine ac.bs (y:=(decide (d.getD (b+1) 0<d.getD b 0),())) (by unfold qs o3;simp only[bne_self_eq_false,Option.bind_some];rfl) ?_;dsimp only;rw[bo];refine ac.ite (λp=>?_) λp=>?_
   ·refine ac.al.2 ⟨rfl,λl=>?_⟩;have:=l b U;omega
   refine ac.al.2 ⟨⟨b,.inl rfl,U,U,λa i1 n=>?_⟩,?_⟩
   ·rcases bi b a with o|o
    ·exact j a U n
    obtain rfl:a=b:=U;omega
   show(b:Int).toNat<((b+1:Nat):Int).toNat;omega
  refine ac.al.2 ?_;intro a m;exact j a U m
 rintro(g|g) f
 ·have f:(∀a,a+1<d.length->d.getD a 0<=d.getD (a+1) 0):=f;rw[decide_eq_true f];exact ac.al.2 rfl
 obtain⟨e,i⟩:g=(false,())/\¬(∀a,a+1<d.length->d.getD a 0<=d.getD (a+1) 0):=f;rw[e,decide_eq_false i];exact ac.al.2 rfl
def gF (e:Int) (d b:cQ) (c:Nat):Prop:=∀a:Nat,d.getD c 0<=(a:Int)->(a:Int)<d.getD (c+1) 0->(if(a:Int)=d.getD c 0 then-1 else b.getD (a-1) 0)<b.getD a 0/\b.getD a 0<e
def gF.pos (i:gF b d g a) (l:0<=d.getD a 0):∀c:Nat,d.getD a 0<=(c:Int)->(c:Int)<d.getD (a+1) 0->0<=g.getD c 0:=by
 intro c
 induction c with
 |zero=>
  intro e f;have:=(i 0 e f).1;rw[ak U] at this;omega
 |succ c k=>
  intro e f;have j:=(i (c+1) e f).1;by_cases h:((c+1:Nat):Int)=d.getD a 0
  ·rw[ak h] at j;omega
  rw[ag h,tK] at j;have:=k U U;omega
def gF.rng (k:0<=d.getD a 0):gF b d g a↔(∀c:Nat,d.getD a 0<=(c:Int)->(c:Int)<d.getD (a+1) 0->0<=g.getD c 0/\g.getD c 0<b)/\(∀c:Nat,d.getD a 0<(c:Int)->(c:Int)<d.getD (a+1) 0->g.getD (c-1) 0<g.getD c 0):=by
 constructor
 ·intro h;refine⟨λc e f=>⟨h.pos k c e f,(h c e f).2⟩,λc e f=>?_⟩;have:=(h c U f).1;rwa[ag U] at this
 rintro⟨e,f⟩ c j i;refine⟨?_,(e c j i).2⟩;split
 ·have:=(e c j i).1;omega
 exact f c U i
def Ss {l:cQ} {lo hi t:Nat} (a:hi<=l.length) (b:lo+t<hi):((l.take hi).drop lo).length=hi-lo/\((l.take hi).drop lo)[t]?=some (l.getD (lo+t) 0):=by refine⟨by simp;omega,?_⟩;rw[jS,rI,ak U,bB U,ie U]
def St {l:cQ} {lo:Nat} (b:a<=l.length):((l.take a).drop lo).length=a-lo:=by simp;omega
def dG.iff:dG c a d g h↔d.length=a+1/\d.getD 0 0=0/\(∀b,b<a->d.getD b 0<=d.getD (b+1) 0)/\d.getD a 0=(g.length:Int)/\h.length=g.length/\∀b,b<a->gF (c:Int) d g b:=by
 have o:(∀b,b<a->d.getD b 0<=d.getD (b+1) 0)->d.getD 0 0=0->∀b,b<=a->0<=d.getD b 0:=λq s b=>by
  induction b with
  |zero=>intro _;omega
  |succ b r=>intro e;have:=r U;have:=q b U;omega
 constructor
 ·rintro⟨l,i,j,m,n,k,p⟩;exact⟨l,i,j,m,n,λb e=>(gF.rng (o j i b U)).2 ⟨λf=>k b f e,λf=>p b f e⟩⟩
 rintro⟨l,i,j,m,n,k⟩;exact⟨l,i,j,m,n,λb f e=>((gF.rng (o j i b U)).1 (k b e)).1 f,λb f e=>((gF.rng (o j i b U)).1 (k b e)).2 f⟩
section
open Go.Proofs
def vP:List (String×DataW Unit):=[("math/bits.deBruijn32tab",Lib.tabData .u8 mN)]
def SS (b:Os) (a:cH):laidMetH Tryz.prog vP ((World.doorLaid Tryz.prog 400 b).forCall (λ_ _=>0) ⟨#[],a,[]⟩).memory:=
 laidMetH_of_parts3 (fuel:=8) (laidMet_of_run' 8 (by kernel_rfl) (by kernel_rfl)) (by kernel_rfl) (by kernel_rfl)
def SR {b:World} (c:laidMetH Tryz.prog vP b):iw E (λr=>r<b.heap.size) b:=by
 rw[MakeChecks.laidMetH_plain _ _ _ (by kernel_rfl)] at c;have f:Tryz.prog.globalNamed "math/bits.deBruijn32tab"=some 0:=(by kernel_rfl);have j:=Lib.tabIs_of_head (g:=0) (t:=266) (e:=5) (n:=32) f (by kernel_rfl) (by kernel_rfl) (by kernel_rfl) (by kernel_rfl) (by kernel_rfl) c;intro q h;have h:q∈[(⟨0,266,.u8,mN⟩:qh)]:=h;obtain rfl:=fe.1 h;have s:0<b.heap.size:=by
  have d:=j.cell f 0 aa;unfold World.cell? at d;split at d
  ·rename_i x w y v;exact(lw.1 v).1
  cases d
 refine⟨rfl,_,_,rfl,aZ _,(λc=>by cases c),.inr ⟨0,0,rfl,s,λa p i=>?_⟩⟩;obtain⟨l,i⟩:=ej.1 i;refine⟨[.int .u8 p],rfl,λo z m=>?_,rfl,rfl⟩;have k:=j.cell f a l;have u:(mN.getD a 0:Int)=p:=(by rw[ie l];exact i);rw[u] at k;cases o with
 |zero=>
  obtain rfl:=dF m;have:(⟨0,0+a*ae.size (.int .u8)+0,none⟩:Addr)=⟨0,a,none⟩:=(by show(⟨0,0+a*1+0,none⟩:Addr)=_;congr 1;omega);rw[this];exact k
 |succ o=>cases m
end
section
def K4 (av:c<=200) (am:a<=200) (R:d.length<=10000) (Y:g.length<=1000000) (a3:h.length<=1000000):xu (((c:Int),(a:Int),g,d,h,()),())=some (open Classical in decide (dG c a g d h),()):=by
 classical
 unfold xu;refine ac.eq_iff.1 ?_;dsimp only;have X:a7 (a:Int)=((a+1:Nat):Int):=bA U;have L:∀(j:¬dG c a g d h),(false,())=(decide (dG c a g d h),()):=λj=>(by rw[decide_eq_false j]);refine ac.a1 (P:=λm=>match m with
  |.inl _=>g.length=a+1/\g.getD 0 0=0/\(∀b,b<a->g.getD b 0<=g.getD (b+1) 0)/\g.getD a 0=(d.length:Int)/\h.length=d.length
  |.inr q=>q=(false,())/\¬dG c a g d h) ?_ ?_
 ·rw[X,dN];by_cases z:g.length=a+1
  ·rw[aB (show aw g=((a+1:Nat):Int) by simp only[a5];omega)];refine ac.bs (y:=g.getD 0 0) (eX (i:=0) U) ?_;rw[dN];by_cases v:g.getD 0 0=0
   ·rw[aB v];refine ac.bs (Sz Y) ?_;dsimp only;by_cases o:∀r,r+1<g.length->g.getD r 0<=g.getD (r+1) 0
    ·rw[decide_eq_true o];refine ac.bs (y:=g.getD a 0) (eX U) ?_;rw[dN];by_cases w:g.getD a 0=(d.length:Int)
     ·rw[aB (show g.getD a 0=aw d from w),dN];by_cases E:d.length=h.length
      ·rw[aB (show aw d=aw h by simp only[a5];omega)];exact ac.al.2 ⟨z,v,λb s=>o b U,w,U⟩
      rw[az (show¬aw d=aw h by simp only[a5];omega)];exact ac.al.2 ⟨rfl,λj=>E j.val.symm⟩
     rw[az (show¬g.getD a 0=aw d from w)];exact ac.al.2 ⟨rfl,λj=>w j.last⟩
    rw[decide_eq_false o];exact ac.al.2 ⟨rfl,λj=>o λr R=>j.mono r (by have:=j.len;omega)⟩
   rw[az v];exact ac.al.2 ⟨rfl,λj=>v j.first⟩
  rw[az (show¬aw g=((a+1:Nat):Int) by simp only[a5];omega)];exact ac.al.2 ⟨rfl,λj=>z j.len⟩
 rintro(m|m) D
 rotate_left
 ·obtain⟨rfl,j⟩:m=(false,())/\¬dG c a g d h:=D;exact ac.al.2 (L j)
 obtain⟨z,v,o,w,E⟩:g.length=a+1/\g.getD 0 0=0/\(∀b,b<a->g.getD b 0<=g.getD (b+1) 0)/\g.getD a 0=(d.length:Int)/\h.length=d.length:=D;have N:∀b,b<=a->0<=g.getD b 0:=λb=>by
  induction b with
  |zero=>intro _;omega
  |succ b G=>intro s;have:=G U;have:=o b U;omega
 have D:∀A b,b+A=a->g.getD b 0<=(d.length:Int):=λA=>by
  induction A with
  |zero=>intro b s;obtain rfl:b=a:=s;omega
  |succ A G=>intro b s;have:=G (b+1) U;have:=o b U;omega
 dsimp only;refine ac.a1 (P:=λm=>match m with
  |.inl _=>(∀b,b<a->gF (c:Int) g d b)
  |.inr q=>q=(false,())/\¬(∀b,b<a->gF (c:Int) g d b)) ?_ ?_
 ·refine ac.steps a (λr H=>H=((r:Int),())/\∀b,b<r->gF (c:Int) g d b) ⟨rfl,λb s=>by omega⟩ ?_ ?_
  ·rintro b _ s ⟨rfl,B⟩;dsimp only;rw[bT (aB (U:(b:Int)<(a:Int))),bA U];obtain⟨e,M⟩:=Int.eq_ofNat_of_zero_le (N b U);obtain⟨p,T⟩:=Int.eq_ofNat_of_zero_le (N (b+1) U);have F:p<=d.length:=(by have:=D (a-(b+1)) (b+1) U;omega);have W:e<=p:=(by have:=o b s;omega);refine ac.bs (y:=(e:Int)) (by rw[eX U,M]) (ac.bs (y:=(p:Int)) (by rw[eX U,T]) (ac.bs (y:=(e,p)) (by rw[vl,Option.bind_some,vl,Option.bind_some,yz ⟨W,F⟩];rfl) ?_));dsimp only;have ap:=St (l:=d) (lo:=e) F;refine ac.a1 (P:=λm=>match m with
    |.inl _=>gF (c:Int) g d b
    |.inr q=>q=.inr (.inr (false,()))/\¬gF (c:Int) g d b) ?_ ?_
   ·refine ac.steps (p-e) (λf H=>H=((if f=0 then-1 else d.getD (e+f-1) 0),(f:Int),())/\∀k:Nat,e<=k->k<e+f->(if(k:Int)=g.getD b 0 then-1 else d.getD (k-1) 0)<d.getD k 0/\d.getD k 0<(c:Int)) ⟨rfl,λk B C=>by omega⟩ ?_ ?_
    ·rintro f _ a0 ⟨rfl,C⟩;have S:=(Ss (l:=d) (lo:=e) (hi:=p) (t:=f) F U).2;have V:(if f=0 then-1 else d.getD (e+f-1) 0)=(if((e+f:Nat):Int)=g.getD b 0 then-1 else d.getD (e+f-1) 0):=by
      rw[M];by_cases Q:f=0
      ·subst Q;rw[ak rfl,ak U]
      rw[ag Q,ag U]
     dsimp only;rw[bT (aB (show(f:Int)<aw ((d.take p).drop e) by simp only[a5];omega)),V];refine ac.a1 (P:=λm=>match m with
      |.inl q=>q=(d.getD (e+f) 0,())/\((if((e+f:Nat):Int)=g.getD b 0 then-1 else d.getD (e+f-1) 0)<d.getD (e+f) 0/\d.getD (e+f) 0<(c:Int))
      |.inr q=>q=.inr (.inr (.inr (.inr (false,()))))/\¬((if((e+f:Nat):Int)=g.getD b 0 then-1 else d.getD (e+f-1) 0)<d.getD (e+f) 0/\d.getD (e+f) 0<(c:Int))) ?_ ?_
     ·refine ac.bs (y:=d.getD (e+f) 0) (mX S) ?_;generalize(if((e+f:Nat):Int)=g.getD b 0 then-1 else d.getD (e+f-1) 0)=ad;generalize d.getD (e+f) 0=I;by_cases J:I<=ad
      ·rw[aB J];exact ac.al.2 ⟨rfl,λj=>by omega⟩
      rw[az J];by_cases K:I>=(c:Int)
      ·rw[aB K];exact ac.al.2 ⟨rfl,λj=>by omega⟩
      rw[az K];exact ac.al.2 ⟨rfl,U,U⟩
     rintro(m|m) n
     ·obtain⟨rfl,u⟩:=n;refine ac.al.2 ⟨?_,?_⟩
      ·rw[bA U,ag U];rfl
      intro k x Z;rcases bi k (e+f) with O|O
      ·exact C k x O
      obtain rfl:k=e+f:=U;exact u
     obtain⟨rfl,u⟩:=n;refine ac.al.2 ⟨rfl,λj=>u ?_⟩;exact j (e+f) U U
    rintro _ ⟨rfl,C⟩;dsimp only;rw[bR (az (show¬(((p-e:Nat):Int)<aw ((d.take p).drop e)) by simp only[a5];omega))];refine ac.al.2 ?_;intro k x Z;exact C k U U
   rintro(m|m) n
   ·have n:gF (c:Int) g d b:=n;refine ac.al.2 ⟨rfl,λk an=>?_⟩;rcases bi k b with x|x
    ·exact B k x
    obtain rfl:k=b:=U;exact n
   obtain⟨rfl,u⟩:=n;exact ac.al.2 ⟨rfl,λj=>u (j b s)⟩
  rintro _ ⟨rfl,B⟩;dsimp only;rw[bR (az (U:¬((a:Int)<(a:Int))))];exact ac.al.2 B
 rintro(m|m) n
 ·have n:(∀b,b<a->gF (c:Int) g d b):=n;refine ac.al.2 ?_;show(true,())=_;rw[decide_eq_true (dG.iff.2 ⟨z,v,o,w,E,n⟩)]
 obtain⟨rfl,u⟩:m=(false,())/\¬(∀b,b<a->gF (c:Int) g d b):=n;exact ac.al.2 (L λj=>u (dG.iff.1 j).2.2.2.2.2)
def hW (b:cQ):Prop:=∀a,a<b.length->aW (b.getD a 0)≠2047
open Classical in
def gg (d b:Nat) (e c a:cQ):Int:=if dG d b e c a then if hW a then 0 else 4 else 1
def Do.getD {b:cQ} (d:∀e∈b,dr e) (c:Nat):dr (b.getD c 0):=by
 rcases bi c b.length with a|a
 ·rw[ie a];exact d _ (dm a)
 rw[mW a];exact⟨aa,aa⟩
def OV (o:∀r∈d,dr r) (s:d.length<=1000000):xA (d,(),())=some (open Classical in decide (¬hW d),()):=by
 classical
 unfold xA;refine ac.eq_iff.1 ?_;refine ac.a1 (P:=λj=>∃h,j=(h,())/\(0<=h↔¬hW d)) ?_ ?_
 ·unfold Ao;dsimp only;refine ac.a1 (P:=λf=>match f with|.inl _=>hW d|.inr j=>0<=j.1/\¬hW d) ?_ ?_
  ·refine ac.steps d.length (λa q=>q=((a:Int),())/\∀b,b<a->aW (d.getD b 0)≠2047) ⟨rfl,λb n=>by omega⟩ ?_ ?_
   ·rintro a _ k ⟨rfl,e⟩;dsimp only;rw[bT (aB (show(a:Int)<aw d by simp only[a5];omega))];refine ac.bs (eX k) ?_;unfold Am;refine ac.bs (y:=(decide (aW (d.getD a 0)=2047),())) (aq (Bb (Do.getD o a)) (by dsimp only;rw[Bool.not_not])) ?_;dsimp only;rw[bo];refine ac.ite (λi=>?_) λi=>?_
    ·exact ac.al.2 ⟨by show(0:Int)<=(a:Int);omega,λc=>c a k i⟩
    refine ac.al.2 ⟨by rw[bA U],λb n=>?_⟩;rcases bi b a with l|l
    ·exact e b l
    obtain rfl:b=a:=U;exact i
   rintro _ ⟨rfl,e⟩;dsimp only;rw[bR (az (show¬((d.length:Int)<aw d) by simp only[a5];omega))];exact ac.al.2 e
  rintro(f|f) g
  ·have g:hW d:=g;exact ac.al.2 ⟨_,rfl,⟨λc=>absurd c aa,λc=>absurd g c⟩⟩
  obtain⟨e,m⟩:0<=f.1/\¬hW d:=g;exact ac.al.2 ⟨f.1,rfl,λ_=>m,λ_=>e⟩
 rintro _ ⟨h,rfl,p⟩;refine ac.al.2 ?_;show(decide (h>=0),())=_;congr 1;rw[decide_eq_decide];exact p
def Oc (l:c<=200) (j:a<=200) (k:g.length<=10000) (m:h.length<=1000000) (f:d.length<=1000000) (n:∀o∈d,dr o):o6 (((c:Int),(a:Int),h,g,d,()),())=some (gg c a h g d,()):=by
 classical
 unfold o6 gg;dsimp only;refine aq (y:=(false,())) ?_ ?_
 ·unfold xx;dsimp only;rw[aB (U:(c:Int)>=0),aB (U:(c:Int)<=200),aB (U:(a:Int)>=0),aB (U:(a:Int)<=200),az (show¬(aw g>10000) by simp only[a5];omega)];rfl
 dsimp only;rw[cond_false];refine aq (K4 l j k m f) ?_;dsimp only;by_cases b:dG c a h g d
 ·rw[decide_eq_true b,if_pos b];refine aq (OV n f) ?_;dsimp only;by_cases e:hW d
  ·rw[decide_eq_false (λi=>i e),ak e];rfl
  rw[decide_eq_true e,ag e];rfl
 rw[decide_eq_false b,ag b];rfl
end
def RE (m:∀p∈d,dr p) (q:d.length<=1000000):xW (d,())=some (open Classical in decide (hW d),()):=by
 classical
 unfold xW;refine ac.eq_iff.1 ?_;dsimp only;refine ac.a1 (P:=λf=>match f with|.inl _=>hW d|.inr n=>n=(false,())/\¬hW d) ?_ ?_
 ·refine ac.steps d.length (λa o=>o=((a:Int),())/\∀b,b<a->aW (d.getD b 0)≠2047) ⟨rfl,λb l=>by omega⟩ ?_ ?_
  ·rintro a _ h ⟨rfl,c⟩;dsimp only;rw[bT (aB (show(a:Int)<aw d by simp only[a5];omega))];refine ac.bs (eX h) (ac.bs (HI (Do.getD m a)) ?_);dsimp only;rw[Bool.not_not,bo];refine ac.ite (λg=>?_) λg=>?_
   ·exact ac.al.2 ⟨rfl,λj=>j a h g⟩
   refine ac.al.2 ⟨by rw[bA U],λb l=>?_⟩;rcases bi b a with i|i
   ·exact c b i
   obtain rfl:b=a:=U;exact g
  rintro _ ⟨rfl,c⟩;dsimp only;rw[bR (az (show¬((d.length:Int)<aw d) by simp only[a5];omega))];exact ac.al.2 c
 rintro(f|f) e
 ·have e:hW d:=e;rw[decide_eq_true e];exact ac.al.2 rfl
 obtain⟨c,k⟩:f=(false,())/\¬hW d:=e;rw[c,decide_eq_false k];exact ac.al.2 rfl
def Rs (a3:c<=200) (an:a<=200) (ap:d.length<=10000) (a4:g.length<=1000000) (Y:h.length<=1000000) (Z:∀am∈h,dr am):uP (((c:Int),(a:Int),g,d,h,()),())=some (gg c a g d h,()):=by
 classical
 unfold uP;refine ac.eq_iff.1 ?_;dsimp only;have W:a7 (a:Int)=((a+1:Nat):Int):=bA U;have H:∀(k:¬dG c a g d h),((1:Int),())=(gg c a g d h,()):=λk=>(by unfold gg;rw[if_neg k]);refine ac.bs (y:=.inl ()) ?_ ?_
 ·rw[az (U:¬(c:Int)<0),az (U:¬(c:Int)>200),az (U:¬(a:Int)<0),az (U:¬(a:Int)>200),az (show¬(aw d>10000) by simp only[a5];omega)];rfl
 dsimp only;refine ac.a1 (P:=λl=>match l with
  |.inl _=>g.length=a+1/\g.getD 0 0=0/\g.getD a 0=(d.length:Int)/\h.length=d.length
  |.inr r=>r=((1:Int),())/\¬dG c a g d h) ?_ ?_
 ·rw[W,dN,dN];by_cases F:h.length=d.length
  ·rw[aB (show aw h=aw d by simp only[a5];omega)];by_cases D:g.length=a+1
   ·rw[aB (show aw g=((a+1:Nat):Int) by simp only[a5];omega)];refine ac.bs (y:=g.getD 0 0) (eX (i:=0) U) ?_;rw[dN];by_cases v:g.getD 0 0=0
    ·rw[aB v];refine ac.bs (y:=g.getD a 0) (eX U) ?_;rw[dN];by_cases w:g.getD a 0=(d.length:Int)
     ·rw[aB (show g.getD a 0=aw d from w)];exact ac.al.2 ⟨D,v,w,F⟩
     rw[az (show¬g.getD a 0=aw d from w)];exact ac.al.2 ⟨rfl,λk=>w k.last⟩
    rw[az v];exact ac.al.2 ⟨rfl,λk=>v k.first⟩
   rw[az (show¬aw g=((a+1:Nat):Int) by simp only[a5];omega)];exact ac.al.2 ⟨rfl,λk=>D k.len⟩
  rw[az (show¬aw h=aw d by simp only[a5];omega)];exact ac.al.2 ⟨rfl,λk=>F k.val⟩
 rintro(l|l) u
 rotate_left
 ·obtain⟨rfl,k⟩:l=((1:Int),())/\¬dG c a g d h:=u;exact ac.al.2 (H k)
 obtain⟨D,v,w,F⟩:g.length=a+1/\g.getD 0 0=0/\g.getD a 0=(d.length:Int)/\h.length=d.length:=u;dsimp only;refine ac.a1 (P:=λl=>match l with
  |.inl _=>(∀b,b<a->g.getD b 0<=g.getD (b+1) 0)
  |.inr r=>r=((1:Int),())/\¬dG c a g d h) ?_ ?_
 ·refine ac.steps a (λz C=>C=((z:Int),())/\∀b,b<z->g.getD b 0<=g.getD (b+1) 0) ⟨rfl,λb q=>by omega⟩ ?_ ?_
  ·rintro b _ q ⟨rfl,s⟩;dsimp only;rw[bT (aB (U:(b:Int)<(a:Int))),bA U];refine ac.bs (eX U) (ac.bs (eX U) ?_);rw[bo];refine ac.ite (λx=>?_) λx=>?_
   ·exact ac.al.2 ⟨rfl,λk=>by have:=k.mono b q;omega⟩
   refine ac.al.2 ⟨rfl,λf T=>?_⟩;rcases bi f b with o|o
   ·exact s f o
   obtain rfl:f=b:=U;omega
  rintro _ ⟨rfl,s⟩;dsimp only;rw[bR (az (U:¬((a:Int)<(a:Int))))];exact ac.al.2 s
 rintro(l|l) u
 rotate_left
 ·obtain⟨rfl,k⟩:l=((1:Int),())/\¬dG c a g d h:=u;exact ac.al.2 (H k)
 have E:∀b,b<a->g.getD b 0<=g.getD (b+1) 0:=u;have O:∀b,b<=a->0<=g.getD b 0:=λb=>by
  induction b with
  |zero=>intro _;omega
  |succ b A=>intro q;have:=A U;have:=E b U;omega
 have u:∀G b,b+G=a->g.getD b 0<=(d.length:Int):=λG=>by
  induction G with
  |zero=>intro b q;obtain rfl:b=a:=q;omega
  |succ G A=>intro b q;have:=A (b+1) U;have:=E b U;omega
 dsimp only;refine ac.a1 (P:=λl=>match l with
  |.inl _=>(∀b,b<a->gF (c:Int) g d b)
  |.inr r=>r=((1:Int),())/\¬(∀b,b<a->gF (c:Int) g d b)) ?_ ?_
 ·refine ac.steps a (λz C=>C=((z:Int),())/\∀b,b<z->gF (c:Int) g d b) ⟨rfl,λb q=>by omega⟩ ?_ ?_
  ·rintro b _ q ⟨rfl,s⟩;dsimp only;rw[bT (aB (U:(b:Int)<(a:Int))),bA U];obtain⟨e,V⟩:=Int.eq_ofNat_of_zero_le (O b U);obtain⟨t,S⟩:=Int.eq_ofNat_of_zero_le (O (b+1) U);have av:t<=d.length:=(by have:=u (a-(b+1)) (b+1) U;omega);have a0:e<=t:=(by have:=E b q;omega);have M:aQ g (b:Int)=some (e:Int):=(by rw[eX U,V]);have N:aQ g ((b+1:Nat):Int)=some (t:Int):=(by rw[eX U,S]);refine ac.bs M ?_;refine ac.a1 (P:=λl=>match l with
    |.inl _=>gF (c:Int) g d b
    |.inr r=>r=.inr (.inr ((1:Int),()))/\¬gF (c:Int) g d b) ?_ ?_
   ·refine ac.steps (t-e) (λj C=>C=(((e+j:Nat):Int),())/\∀f:Nat,e<=f->f<e+j->(if(f:Int)=g.getD b 0 then-1 else d.getD (f-1) 0)<d.getD f 0/\d.getD f 0<(c:Int)) ⟨rfl,λf s p=>by omega⟩ ?_ ?_
    ·rintro j _ bl ⟨rfl,p⟩;dsimp only;refine ac.bs N ?_;rw[bT (aB (U:((e+j:Nat):Int)<(t:Int)))];have I:aQ d ((e+j:Nat):Int)=some (d.getD (e+j) 0):=eX U;have X:j≠0->0<=d.getD (e+j-1) 0:=λJ=>by
      have ad:∀f:Nat,e<=f->f<e+j->0<=d.getD f 0:=by
       intro f
       induction f with
       |zero=>
        intro o B;have:=(p 0 o B).1;rw[ak U] at this;omega
       |succ f A=>
        intro o B;have m:=(p (f+1) o B).1;by_cases x:((f+1:Nat):Int)=g.getD b 0
        ·rw[ak x] at m;omega
        rw[ag x,tK] at m;have:=A U U;omega
      exact ad _ U U
     refine ac.a1 (P:=λl=>match l with
      |.inl _=>((if((e+j:Nat):Int)=g.getD b 0 then-1 else d.getD (e+j-1) 0)<d.getD (e+j) 0/\d.getD (e+j) 0<(c:Int))
      |.inr r=>r=.inr (.inr (.inr (.inr ((1:Int),()))))/\¬((if((e+j:Nat):Int)=g.getD b 0 then-1 else d.getD (e+j-1) 0)<d.getD (e+j) 0/\d.getD (e+j) 0<(c:Int))) ?_ ?_
     ·refine ac.bs I ?_;by_cases K:d.getD (e+j) 0<0
      ·rw[aB K];refine ac.al.2 ⟨rfl,λk=>?_⟩;have m:=k.1;by_cases J:j=0
       ·rw[ak U] at m;omega
       rw[ag U] at m;have:=X J;omega
      rw[az K];refine ac.bs I ?_;by_cases L:d.getD (e+j) 0>=(c:Int)
      ·rw[aB L];exact ac.al.2 ⟨rfl,λk=>by omega⟩
      rw[az L];refine ac.bs M ?_;by_cases J:j=0
      ·rw[az (U:¬((e+j:Nat):Int)>(e:Int))];refine ac.al.2 ⟨?_,U⟩;rw[ak U];omega
      rw[aB (U:((e+j:Nat):Int)>(e:Int))];have aj:ax (((e+j:Nat):Int)-1)=((e+j-1:Nat):Int):=(by rw[bh U U];omega);refine ac.bs I (ac.bs (y:=d.getD (e+j-1) 0) (by rw[aj];exact eX U) ?_);rw[bo];refine ac.ite (λx=>?_) λx=>?_
      ·refine ac.al.2 ⟨rfl,λk=>?_⟩;have m:=k.1;rw[ag U] at m;omega
      refine ac.al.2 ⟨?_,U⟩;rw[ag U];omega
     rintro(l|l) n
     ·refine ac.al.2 ⟨by rw[bA U];rfl,?_⟩;intro f o B;rcases bi f (e+j) with Q|Q
      ·exact p f o Q
      obtain rfl:f=e+j:=U;exact n
     obtain⟨rfl,m⟩:=n;exact ac.al.2 ⟨rfl,λk=>m (k (e+j) U U)⟩
    rintro _ ⟨rfl,p⟩;dsimp only;refine ac.bs N ?_;rw[bR (az (U:¬(((e+(t-e):Nat):Int)<(t:Int))))];refine ac.al.2 ?_;intro f o B;exact p f U U
   rintro(l|l) n
   ·have n:gF (c:Int) g d b:=n;refine ac.al.2 ⟨rfl,λf T=>?_⟩;rcases bi f b with o|o
    ·exact s f o
    obtain rfl:f=b:=U;exact n
   obtain⟨rfl,m⟩:=n;exact ac.al.2 ⟨rfl,λk=>m (k b q)⟩
  rintro _ ⟨rfl,s⟩;dsimp only;rw[bR (az (U:¬((a:Int)<(a:Int))))];exact ac.al.2 s
 rintro(l|l) n
 ·have n:(∀b,b<a->gF (c:Int) g d b):=n;have R:dG c a g d h:=dG.iff.2 ⟨D,v,E,w,F,n⟩;refine ac.bs (RE Z Y) ?_;unfold gg;rw[ak R];by_cases p:hW h
  ·rw[decide_eq_true p,ak p];exact ac.al.2 rfl
  rw[decide_eq_false p,ag p];exact ac.al.2 rfl
 obtain⟨rfl,m⟩:l=((1:Int),())/\¬(∀b,b<a->gF (c:Int) g d b):=n;exact ac.al.2 (H λk=>m (dG.iff.1 k).2.2.2.2.2)
abbrev bp:=Int×Int×Int×Unit
variable{r:List bp}{s:bp}
def fE (b d:cQ) (c:Int) (a:Nat):Nat->List bp
 |0=>[]
 |n+1=>fE b d c a n++[(b.getD (a+n) 0,c,d.getD (a+n) 0,())]
def bO (a b c:cQ):Nat->List bp
 |0=>[]
 |j+1=>bO a b c j++fE b c (j:Int) (a.getD j 0).toNat ((a.getD (j+1) 0).toNat-(a.getD j 0).toNat)
def EE (c f:cQ) (d:Int) (e a:Nat):(fE c f d e a).length=a:=by
 induction a with
 |zero=>rfl
 |succ a b=>simp[fE,b]
def dG.pos (e:dG c a d g h):∀b,b<=a->0<=d.getD b 0:=λb=>by
 have:=e.first
 induction b with
 |zero=>intro _;omega
 |succ b f=>intro i;have:=f U;have:=e.mono b U;omega
def dG.pt (i:dG c a g d h):∀b,b<=a->g.getD b 0<=(d.length:Int):=by
 have k:∀e b,b+e=a->g.getD b 0<=(d.length:Int):=λe=>by
  have:=i.last
  induction e with
  |zero=>intro b f;obtain rfl:b=a:=f;omega
  |succ e j=>intro b f;have:=j (b+1) U;have:=i.mono b U;omega
 exactλb f=>k (a-b) b U
def AE (e:dG c a d g h):∀b,b<=a->(bO d g h b).length=(d.getD b 0).toNat:=λb=>by
 induction b with
 |zero=>intro _;have:=e.first;show 0=(d.getD 0 0).toNat;omega
 |succ b i=>
  intro l;have f:=i U;have j:=e.mono b U;have k:=e.pos b U;simp only[bO,mD,EE,f];omega
def EH (i:dG c a g d h) (p:a<=200) (r:d.length<=10000):uz (((c:Int),(a:Int),g,d,h,()),())=some (bO g d h a,()):=by
 unfold uz;refine ac.eq_iff.1 ?_;dsimp only;refine ac.a1 (P:=λl=>l=(bO g d h a,())) ?_ (by rintro _ rfl;exact ac.al.2 rfl);refine ac.steps a (λb m=>m=((b:Int),bO g d h b,())) rfl ?_ ?_
 ·rintro b _ o rfl;have s:=i.len;obtain⟨f,n⟩:=Int.eq_ofNat_of_zero_le (i.pos b U);obtain⟨e,k⟩:=Int.eq_ofNat_of_zero_le (i.pos (b+1) U);have t:e<=d.length:=(by have:=i.pt (b+1) U;omega);have u:f<=e:=(by have:=i.mono b o;omega);have q:=AE i b U;have w:=i.val;dsimp only;rw[bT (aB (U:(b:Int)<(a:Int))),bA U];refine ac.bs (y:=(f:Int)) (by rw[eX U,n]) ?_;refine ac.a1 (P:=λl=>l=(bO g d h (b+1),())) ?_ (by rintro _ rfl;exact ac.al.2 rfl);refine ac.steps (e-f) (λj m=>m=(((f+j:Nat):Int),bO g d h b++fE d h (b:Int) f j,())) (by simp[fE]) ?_ ?_
  ·rintro j _ v rfl;dsimp only;refine ac.bs (y:=(e:Int)) (by rw[eX U,k]) ?_;rw[bT (aB (U:((f+j:Nat):Int)<(e:Int)))];refine ac.bs (eX U) (ac.bs (eX U) ?_);rw[eE (by simp[EE];omega)];refine ac.al.2 ?_;rw[bA U,List.append_assoc];rfl
  rintro _ rfl;dsimp only;refine ac.bs (y:=(e:Int)) (by rw[eX U,k]) ?_;rw[bR (az (U:¬((f+(e-f):Nat):Int)<(e:Int)))];refine ac.al.2 ?_;show(_,())=(bO g d h b++fE d h (b:Int) (g.getD b 0).toNat ((g.getD (b+1) 0).toNat-(g.getD b 0).toNat),());rw[n,k];rfl
 rintro _ rfl;dsimp only;rw[bR (az (U:¬((a:Int)<(a:Int))))];exact ac.al.2 rfl
structure h2 (me i9:Nat) (st lc pQ:cQ):Prop where
 hr:me<=200
 hc:i9<=200
 hi:lc.length<=10000
 hs:st.length<=1000000
 hv:pQ.length<=1000000
 hw:∀v∈pQ,dr v
def h2.check (b:h2 c a g d h):o6 (((c:Int),(a:Int),g,d,h,()),())=some (gg c a g d h,()):=Oc b.hr b.hc b.hi b.hs b.hv b.hw
def h2.Hw (b:h2 c a g d h):uP (((c:Int),(a:Int),g,d,h,()),())=some (gg c a g d h,()):=Rs b.hr b.hc b.hi b.hs b.hv b.hw
def k4:gg c a h g d=0↔dG c a h g d/\hW d:=by
 unfold gg;constructor
 ·intro b;split at b
  ·split at b
   ·exact⟨by assumption,by assumption⟩
   omega
  omega
 rintro⟨e,f⟩;rw[ak e,ak f]
def Jf (b:h2 c a g d h) (e:gg c a g d h=0):xo (((c:Int),(a:Int),g,d,h,()),())=some (bO g d h a,()):=by unfold xo;refine aq b.check ?_;dsimp only;rw[e,dN,aB rfl];exact aq (EH (k4.1 e).1 b.hc b.hi) rfl
def fv (a b:bp):Prop:=a.2.1<b.2.1\/(a.2.1=b.2.1/\a.1<b.1)
def q6:s∈fE d g b c a↔∃e,e<a/\s=(d.getD (c+e) 0,b,g.getD (c+e) 0,()):=by
 induction a with
 |zero=>simp[fE]
 |succ a k=>
  simp only[fE,eR,k,fe];constructor
  ·rintro(⟨e,j,f⟩|i)
   ·exact⟨e,U,f⟩
   exact⟨a,U,i⟩
  rintro⟨e,j,f⟩;rcases bi e a with h|h
  ·exact .inl ⟨e,h,f⟩
  obtain rfl:e=a:=U;exact .inr f
def LI (h:∀f e,f<e->e<a->d.getD (c+f) 0<d.getD (c+e) 0):(fE d g b c a).Pairwise fv:=by
 induction a with
 |zero=>exact List.Pairwise.nil
 |succ a m=>
  refine List.pairwise_append.2 ⟨m λf e i p=>h f e i U,List.pairwise_singleton _ _,?_⟩;intro n j o k;obtain⟨e,l,rfl⟩:=q6.1 j;rw[fe.1 k];exact .inr ⟨rfl,h e a l U⟩
def vi:s∈bO d g h a↔∃b,b<a/\s∈fE g h (b:Int) (d.getD b 0).toNat ((d.getD (b+1) 0).toNat-(d.getD b 0).toNat):=by
 induction a with
 |zero=>simp[bO]
 |succ a j=>
  simp only[bO,eR,j];constructor
  ·rintro(⟨b,i,c⟩|f)
   ·exact⟨b,U,c⟩
   exact⟨a,U,f⟩
  rintro⟨b,i,c⟩;rcases bi b a with e|e
  ·exact .inl ⟨b,e,c⟩
  obtain rfl:b=a:=U;exact .inr c
def uV (k:dG c a d g h):∀b,b<=a->(bO d g h b).Pairwise fv:=by
 intro b
 induction b with
 |zero=>intro _;exact List.Pairwise.nil
 |succ b q=>
  intro p;have C:=k.pos b U;have D:=k.pos (b+1) p;refine List.pairwise_append.2 ⟨q U,LI ?_,?_⟩
  ·intro f i v w;have s:∀e,f+e<(d.getD (b+1) 0).toNat-(d.getD b 0).toNat->0<e->g.getD ((d.getD b 0).toNat+f) 0<g.getD ((d.getD b 0).toNat+(f+e)) 0:=by
    intro e
    induction e with
    |zero=>intro _ y;omega
    |succ e r=>
     intro x _;have m:=k.asc b ((d.getD b 0).toNat+(f+(e+1))) U U U;rw[(U:(d.getD b 0).toNat+(f+(e+1))-1=(d.getD b 0).toNat+(f+e))] at m;rcases gG e with j|j
     ·subst j;exact m
     have:=r U j;omega
   have:=s (i-f) U U;rwa[(U:f+(i-f)=i)] at this
  intro t l u o;obtain⟨n,z,l⟩:=vi.1 l;obtain⟨i,A,rfl⟩:=q6.1 l;obtain⟨E,B,rfl⟩:=q6.1 o;exact .inl (by show(n:Int)<(b:Int);omega)
def QP (a b:Int):wQ ([a,b],())=some (if a≠0 then a else b,()):=by
 unfold wQ;refine ac.eq_iff.1 ?_;dsimp only;refine ac.a1 (P:=λf=>match f with|.inl _=>a=0/\b=0|.inr k=>k=(if a≠0 then a else b,())) ?_ ?_
 ·refine ac.steps 2 (λd l=>l=((d:Int),())/\(1<=d->a=0)/\(2<=d->b=0)) ⟨rfl,λh=>by omega,λh=>by omega⟩ ?_ ?_
  ·rintro d _ m ⟨rfl,g,i⟩;rcases(U:d=0\/d=1) with rfl|rfl
   ·show ac (bif a !=0 then _ else _) _;rw[dN];by_cases c:a=0
    ·rw[aB c];exact ac.al.2 ⟨rfl,λ_=>c,λh=>by omega⟩
    rw[az c];refine ac.al.2 ?_;rw[ak c]
   show ac (bif b !=0 then _ else _) _;have j:=g aa;rw[dN];by_cases c:b=0
   ·rw[aB c];exact ac.al.2 ⟨rfl,λ_=>j,λ_=>c⟩
   rw[az c];refine ac.al.2 ?_;rw[ag (by simpa using j)]
  rintro _ ⟨rfl,g,i⟩;exact ac.al.2 ⟨g aa,i aa⟩
 rintro(f|f) e
 ·obtain⟨rfl,rfl⟩:a=0/\b=0:=e;exact ac.al.2 rfl
 have e:f=_:=e;rw[e];exact ac.al.2 rfl
def LA {a:bp} (b:fv s a):xw (a,s,())=some (1,()):=by
 unfold xw;refine aq (Ag _ _) (aq (Ag _ _) (aq (QP _ _) ?_));dsimp only;congr 2;unfold ee;rcases b with b|⟨d,c⟩
 ·rw[ag (U:¬a.2.1<s.2.1),ak b];rfl
 rw[ag (U:¬a.2.1<s.2.1),ag (U:¬s.2.1<a.2.1),ag ab,ag (U:¬a.1<s.1),ak c]
def Ng (j:r.length<=1000) (f:r.Pairwise fv) {lo:Nat} (g:lo<=a) (h:a<=r.length):uC (r,(lo:Int),(a:Int),(),())=some (r,()):=by
 unfold uC;refine ac.eq_iff.1 ?_;dsimp only;refine ac.a1 (P:=λd=>d=(r,())) ?_ (by rintro _ rfl;exact ac.al.2 rfl);refine ac.steps (a-lo-1) (λb c=>c=(((lo+1+b:Nat):Int),r,())) (by rw[bA U]) ?_ ?_
 ·rintro b _ i rfl;dsimp only;rw[bT (aB (U:((lo+1+b:Nat):Int)<(a:Int)))];refine ac.a1 (P:=λd=>d=(r,())) ?_ (by rintro _ rfl;refine ac.al.2 ?_;dsimp only;rw[bA U];rfl);refine ac.steps 0 (λ_ c=>c=(((lo+1+b:Nat):Int),r,())) rfl (λb c a=>by omega) ?_;rintro _ rfl;dsimp only;refine ac.bs (y:=.inr (.inr (r,()))) ?_ (ac.al.2 rfl);rw[aB (U:((lo+1+b:Nat):Int)>(lo:Int))];have aj:ax (((lo+1+b:Nat):Int)-1)=((lo+b:Nat):Int):=(by rw[bh U U];omega);rw[beq_self_eq_true,cond_true,mb U,aj,mb U];have e:fv r[lo+b] r[lo+1+b]:=List.pairwise_iff_getElem.1 f _ _ U U U;exact aq (LA e) rfl
 rintro _ rfl;dsimp only;rw[bR (az (U:¬((lo+1+(a-lo-1):Nat):Int)<(a:Int)))];exact ac.al.2 rfl
def Sx (h:r.length<=19) (f:r.Pairwise fv):xv (r,())=some (r,()):=by
 unfold xv;refine aq (y:=(r,())) ?_ ?_
 ·unfold An;have c:((dd (([]:List bp).length+r.length)).bind λ_=>some (([]++r:List bp),()))=some (r,()):=by
   rw[eE (by simp;omega)];rfl
  show lf r.length (some ([],())) ((dd (([]:List bp).length+r.length)).bind λ_=>some (([]++r:List bp),()))=_;unfold lf;rw[c];split
  ·rename_i d;obtain rfl:=kU d;rw[ak rfl]
  rfl
 refine aq (y:=(r,())) ?_ rfl;unfold Ar;refine aq (y:=(r,())) ?_ rfl;unfold As;refine ac.eq_iff.1 ?_;dsimp only;refine ac.a1 (P:=λb=>b=(0,r,())) ?_ ?_
 ·refine ac.steps 0 (λ_ a=>a=(0,20,r,())) rfl (λg a e=>by omega) ?_;rintro _ rfl;dsimp only;rw[bR (az (show¬((20:Int)<=aw r) by simp only[a5];omega))];exact ac.al.2 rfl
 rintro _ rfl;refine ac.bs (Ng (lo:=0) U f (Nat.zero_le _) (Nat.le_refl _)) ?_;refine ac.a1 (P:=λb=>b=(r,())) ?_ (by rintro _ rfl;exact ac.al.2 rfl);refine ac.steps 0 (λ_ a=>a=(20,r,())) rfl (λg a e=>by omega) ?_;rintro _ rfl;dsimp only;rw[bR (az (show¬((20:Int)<aw r) by simp only[a5];omega))];exact ac.al.2 rfl
def gP (E:List bp) (a:Int):Nat:=(E.filter λb=>decide (b.2.1=a)).length
def e3 (E:List bp) (a:Int):Nat:=(E.filter λb=>decide (b.2.1<a)).length
def yJ (d b:Nat) (E:List bp):bQ:=((d:Int),(b:Int),aR (b+1) (λc=>(e3 E (c:Int):Int)),E.map (λa=>a.1),E.map (λa=>a.2.2.1),())
def Ad (E:List bp) (a:Int):e3 E (a+1)=e3 E a+gP E a:=by
 unfold e3 gP
 induction E with
 |nil=>rfl
 |cons b E d=>
  simp only[kV];rcases Int.lt_trichotomy b.2.1 a with c|c|c
  ·rw[ak (by simpa using(by omega:b.2.1<a+1)),ak (by simpa using c),ag (by simpa using(by omega:¬b.2.1=a))];simp only[g2];omega
  ·rw[ak (by simpa using(by omega:b.2.1<a+1)),ag (by simpa using(by omega:¬b.2.1<a)),ak (by simpa using c)];simp only[g2];omega
  rw[ag (by simpa using(by omega:¬b.2.1<a+1)),ag (by simpa using(by omega:¬b.2.1<a)),ag (by simpa using(by omega:¬b.2.1=a))];omega
def jL (c b:Nat) (E:List bp):Prop:=∀a∈E,0<=a.1/\a.1<(c:Int)/\0<=a.2.1/\a.2.1<(b:Int)
def Eh (E:List bp) (c:bp) (a:Int):gP (E++[c]) a=gP E a+if c.2.1=a then 1 else 0:=by
 unfold gP;rw[nx,mD];congr 1;by_cases b:c.2.1=a
 ·rw[ak b,wd (by simpa using b)];rfl
 rw[ag b,tE (by simpa using b)];rfl
def KF {E:List bp} (C:c<=200) (B:a<=200) (n:E.length<=19) (y:E.Pairwise fv) (t:jL c a E):xq ((c:Int),(a:Int),E,())=some (yJ c a E,()):=by
 unfold xq;refine ac.eq_iff.1 ?_;dsimp only;rw[bA U];refine ac.bs (iN U) (ac.bs (Sx n y) ?_);dsimp only;refine ac.a1 (P:=λr=>r=(((0:Int),((0:Int),([],([],([],()))))),((c:Int),(a:Int),aR (a+1) (λb=>if b=0 then(0:Int) else(gP E ((b:Int)-1):Int)),E.map (λe=>e.1),E.map (λe=>e.2.2.1),()),())) ?_ ?_
 ·refine ac.steps E.length (λd s=>s=((d:Int),((0:Int),((0:Int),([],([],([],()))))),((c:Int),(a:Int),aR (a+1) (λb=>if b=0 then(0:Int) else(gP (E.take d) ((b:Int)-1):Int)),(E.take d).map (λe=>e.1),(E.take d).map (λe=>e.2.2.1),()),E,())) ?_ ?_ ?_
  ·have j:(aR (a+1) λ_=>(0:Int))=aR (a+1) λb=>if b=0 then(0:Int) else(gP (E.take 0) ((b:Int)-1):Int):=fm λb l=>by split<;>rfl
   rw[nU,j];rfl
  ·rintro d _ k rfl;have q:=t E[d] (List.getElem_mem k);obtain⟨i,w⟩:=Int.eq_ofNat_of_zero_le q.2.2.1;dsimp only;rw[bT (aB (show(d:Int)<aw E by simp only[a5];omega)),mb k];have aj:a7 E[d].2.1=((i+1:Nat):Int):=(by rw[w,bA U]);have p:E.take (d+1)=E.take d++[E[d]]:=(by rw[List.take_add_one,List.getElem?_eq_getElem k];rfl);rw[eE (by simp;omega),Option.bind_some,eE (by simp;omega),Option.bind_some,aj];refine ac.bs (gR (by rw[dP];omega)) (ac.bs (iD U) (ac.bs (gR (by rw[dP];omega)) ?_));rw[iD U];refine ac.al.2 ?_;have o:(aR (a+1) (λb=>if b=0 then(0:Int) else(gP (E.take d) ((b:Int)-1):Int))).set (i+1) (a7 (if i+1=0 then(0:Int) else(gP (E.take d) (((i+1:Nat):Int)-1):Int)))=aR (a+1) (λb=>if b=0 then(0:Int) else(gP (E.take (d+1)) ((b:Int)-1):Int)):=by
    rw[jw];refine fm λb l=>?_;have m:∀g,gP (E.take d) g<=19:=λg=>bj (jk _ _) (by rw[eB];omega);by_cases f:b=i+1
    ·subst f;rw[mq,ag U,ag U,bA (by have:=m (((i+1:Nat):Int)-1);omega),p,Eh,ak U]
    rw[mn _ _ f];by_cases h:b=0
    ·rw[ak h,ak h]
    rw[ag h,ag h,p,Eh,ag U,lE]
   dsimp only[Option.map_some];rw[bA U,o,p,List.map_append,List.map_append];rfl
  rintro _ rfl;dsimp only;rw[bR (az (show¬((E.length:Int)<aw E) by simp only[a5];omega)),List.take_of_length_le (Nat.le_refl _)];exact ac.al.2 rfl
 rintro _ rfl;dsimp only;refine ac.a1 (P:=λr=>r=(((0:Int),((0:Int),([],([],([],()))))),yJ c a E,())) ?_ (by rintro _ rfl;exact ac.al.2 rfl);have x:∀g,e3 E g<=19:=λg=>Nat.le_trans (List.length_filter_le _ _) n;have m:∀g,gP E g<=19:=λg=>Nat.le_trans (List.length_filter_le _ _) n;have v:e3 E 0=0:=by
  unfold e3;rw[List.filter_eq_nil_iff.2]
  ·rfl
  intro e q;have:=t e q;simpa using this.2.2.1
 refine ac.steps a (λd s=>s=((d:Int),((0:Int),((0:Int),([],([],([],()))))),((c:Int),(a:Int),aR (a+1) (λb=>if b<=d then(e3 E (b:Int):Int) else(gP E ((b:Int)-1):Int)),E.map (λe=>e.1),E.map (λe=>e.2.2.1),()),())) ?_ ?_ ?_
 ·have j:(aR (a+1) λb=>if b=0 then(0:Int) else(gP E ((b:Int)-1):Int))=aR (a+1) (λb=>if b<=0 then(e3 E (b:Int):Int) else(gP E ((b:Int)-1):Int)):=fm λb l=>by
   by_cases f:b=0
   ·subst f;rw[ak rfl,ak (aZ _)];show(0:Int)=((e3 E 0:Nat):Int);rw[v];rfl
   rw[ag f,ag U]
  rw[j];rfl
 ·rintro d _ k rfl;dsimp only;rw[bT (aB (U:(d:Int)<(a:Int))),bA U,mb (by rw[dP];omega),mb (by rw[dP];omega),jv,jv];refine ac.bs (gR (by rw[dP];omega)) ?_;rw[iD U];refine ac.al.2 ?_;have o:(aR (a+1) (λb=>if b<=d then(e3 E (b:Int):Int) else(gP E ((b:Int)-1):Int))).set (d+1) (ax ((if d+1<=d then(e3 E ((d+1:Nat):Int):Int) else(gP E (((d+1:Nat):Int)-1):Int))+(if d<=d then(e3 E (d:Int):Int) else(gP E ((d:Int)-1):Int))))=aR (a+1) (λb=>if b<=d+1 then(e3 E (b:Int):Int) else(gP E ((b:Int)-1):Int)):=by
   rw[jw];refine fm λb l=>?_;by_cases f:b=d+1
   ·subst f;have u:=Ad E (d:Int);have z:=m (d:Int);have A:=x (d:Int);rw[mq,ag U,ak (aZ _),ak (aZ _),(U:(((d+1:Nat):Int)-1)=(d:Int)),bh U U,(U:((d+1:Nat):Int)=(d:Int)+1),u];omega
   rw[mn _ _ f];by_cases h:b<=d
   ·rw[ak h,ak U]
   rw[ag h,ag U]
  dsimp only[Option.map_some];rw[o]
 rintro _ rfl;dsimp only;rw[bR (az (U:¬((a:Int)<(a:Int))))];have j:aR (a+1) (λb=>if b<=a then(e3 E (b:Int):Int) else(gP E ((b:Int)-1):Int))=aR (a+1) (λb=>(e3 E (b:Int):Int)):=fm λb l=>(by rw[if_pos U]);rw[j];exact ac.al.2 rfl
def h4 (b c:Int) (a:bp):Bool:=decide (a.2.1<b)||(decide (a.2.1=b)&&decide (a.1<c))
def DX {a:bp} (c:fv s a) (g:h4 f b a=true):h4 f b s=true:=by
 unfold h4 at*;simp only[gE,a2,decide_eq_true_eq] at*;rcases c with c|⟨d,e⟩
 ·omega
 omega
def EP {j i:Int}:∀{E:List bp},E.Pairwise fv->E.filter (h4 j i)=E.take (E.filter (h4 j i)).length
 |[],_=>rfl
 |x::E,b=>by
  obtain⟨c,d⟩:=oK.1 b;by_cases a:h4 j i x=true
  ·rw[wd a,g2,List.take_succ_cons];exact congrArg _ (EP d)
  have e:E.filter (h4 j i)=[]:=(by refine List.filter_eq_nil_iff.2 λh g f=>?_;exact a (DX (c h g) f));rw[tE a,e];rfl
def Kn {E:List bp} (d:jL c a E):E.filter (h4 0 0)=[]:=by refine List.filter_eq_nil_iff.2 λf e b=>?_;have:=d f e;unfold h4 at b;simp only[gE,a2,decide_eq_true_eq] at b;omega
def DW {E:List bp} (d:jL c a E) (b:Int):(E.filter (h4 b 0)).length=e3 E b:=by unfold e3;congr 1;refine List.filter_congr λf e=>?_;have:=d f e;unfold h4;rw[nm];simp only[gE,a2,decide_eq_true_eq];omega
def Ko {j i:Int} {E:List bp} (g:E.Pairwise fv) (l:a<E.length):h4 j i E[a]=true↔a<(E.filter (h4 j i)).length:=by
 constructor
 ·intro b;have k:∀h∈E.take (a+1),h4 j i h=true:=by
   intro h m;obtain⟨e,n,rfl⟩:=List.mem_take_iff_getElem.1 m;rcases bi e a with f|f
   ·exact DX (hx.1 g e a U l f) b
   obtain rfl:e=a:=U;exact b
  have c:(E.take (a+1)).filter (h4 j i)=E.take (a+1):=lA.2 k;have d:=(List.Sublist.filter (h4 j i) (List.take_sublist (a+1) E)).length_le;rw[c,eB] at d;omega
 intro b;have c:=EP (j:=j) (i:=i) g;have d:E[a]∈E.filter (h4 j i):=(by rw[c];exact List.mem_take_iff_getElem.2 ⟨a,U,rfl⟩);exact(gu.1 d).2
def rW {h:Nat} {E:List bp} (g:E.Pairwise fv) (e:jL h c E) (f:a<E.length) (b:Int):E[a].2.1<b↔a<e3 E b:=by have d:=Ko (j:=b) (i:=0) g f;rw[DW e] at d;rw[<-d];have:=e E[a] (dm f);unfold h4;simp only[gE,a2,decide_eq_true_eq];omega
def Ed {E:List bp} (b:jL c a E):e3 E 0=0:=by rw[<-DW b,Kn b];rfl
def Ec {E:List bp} (b:jL c a E):e3 E (a:Int)=E.length:=by unfold e3;rw[lA.2];intro e d;have:=b e d;simpa using this.2.2.2
def Mp {b:Nat->Int} (d:a<c):(aR c b).getD a 0=b a:=by rw[ht,su d];rfl
def ys {E:List bp} (b:a<E.length):(E.map λc=>c.1).getD a 0=E[a].1:=by rw[ht,gq,bB b];rfl
def E7 {E:List bp} (b:a<E.length):(E.map λc=>c.2.2.1).getD a 0=E[a].2.2.1:=by rw[ht,gq,bB b];rfl
def rn (a:Nat) (E:List bp):cQ:=aR (a+1) (λb=>(e3 E (b:Int):Int))
def pK {E:List bp} (b:a<=c):(rn c E).getD a 0=(e3 E (a:Int):Int):=Mp U
def Ac (E:List bp) (a:Int):e3 E a<=E.length:=jk _ _
def SM {E:List bp} (g:E.Pairwise fv) (e:jL c a E):dG c a (rn a E) (E.map λj=>j.1) (E.map λj=>j.2.2.1) where
 len:=dP _ _
 first:=by rw[pK (eU _)];show((e3 E 0:Nat):Int)=0;rw[Ed e];rfl
 mono:=λb k=>by rw[pK U,pK U,show((b+1:Nat):Int)=(b:Int)+1 from by omega,Ad];omega
 last:=by rw[pK (aZ _),Ec e,gN]
 val:=by simp
 rng:=λb d k h i=>by rw[pK U] at h i;have f:d<E.length:=(by have:=Ac E ((b+1:Nat):Int);omega);rw[ys f];have:=e E[d] (dm f);exact⟨this.1,this.2.1⟩
 asc:=λb d k h i=>by rw[pK U] at h i;have f:d<E.length:=(by have:=Ac E ((b+1:Nat):Int);omega);rw[ys f,ys U];have l:=rW g e f (b:Int);have m:=rW g e f ((b+1:Nat):Int);have n:=rW g e (U:d-1<E.length) (b:Int);have o:=rW g e (U:d-1<E.length) ((b+1:Nat):Int);have:=hx.1 g (d-1) d U f U;unfold fv at this;omega
def Su {me i9:Nat} {E:List bp} (c:me<=200) (b:i9<=200) (g:E.length<=10000) (e:∀a∈E,dr a.2.2.1):h2 me i9 (rn i9 E) (E.map λa=>a.1) (E.map λa=>a.2.2.1) where
 hr:=c
 hc:=b
 hi:=by simp;omega
 hs:=by unfold rn;rw[dP];omega
 hv:=by simp;omega
 hw:=λh d=>by obtain⟨a,f,rfl⟩:=b0.1 d;exact e a f
def AD (c f:cQ) (d:Int) (b a:Nat):fE c f d b a=aR a λe=>(c.getD (b+e) 0,d,f.getD (b+e) 0,()):=by
 induction a with
 |zero=>rfl
 |succ a g=>rw[fE,g,uY]
def LJ {E:List bp} (l:E.Pairwise fv) (e:jL c a E):∀b,b<=a->bO (rn a E) (E.map λg=>g.1) (E.map λg=>g.2.2.1) b=E.take (e3 E (b:Int)):=by
 intro b
 induction b with
 |zero=>
  intro _;show[]=E.take (e3 E 0);rw[Ed e];rfl
 |succ b q=>
  intro u;rw[bO,q U,pK U,pK U,AD,dk,dk];have n:e3 E ((b+1:Nat):Int)=e3 E (b:Int)+gP E (b:Int):=(by rw[show((b+1:Nat):Int)=(b:Int)+1 from by omega,Ad]);have o:=Ac E ((b+1:Nat):Int);have h:∀d,(f:d<E.length)->e3 E (b:Int)<=d->d<e3 E ((b+1:Nat):Int)->E[d].2.1=(b:Int):=λd f k m=>(by have s:=rW l e f (b:Int);have t:=rW l e f ((b+1:Nat):Int);omega);rw[n] at h o|-;generalize e3 E (b:Int)=i at*;generalize gP E (b:Int)=j at*;rw[nC,List.take_add];congr 1;have p:((E.drop i).take j).length=j:=(by rw[eB,kk];omega);refine List.ext_getElem (by rw[dP,p]) λr k m=>?_;rw[dP] at k;rw[jv,ys U,E7 U,List.getElem_take,List.getElem_drop,<-h (i+r) U U U]
def LK {E:List bp} (e:E.Pairwise fv) (d:jL c a E):bO (rn a E) (E.map λb=>b.1) (E.map λb=>b.2.2.1) a=E:=by rw[LJ e d a (aZ _),Ec d,dL (aZ _)]
def Mv {E:List bp} (c:∀b∈E,aW b.2.2.1≠2047):hW (E.map λb=>b.2.2.1):=by intro d a;rw[gN] at a;rw[E7 a];exact c _ (dm a)
def KN {E:List bp} (f:E.Pairwise fv) (e:jL c a E) (d:∀b∈E,aW b.2.2.1≠2047):gg c a (rn a E) (E.map λb=>b.1) (E.map λb=>b.2.2.1)=0:=
 k4.2 ⟨SM f e,Mv d⟩
def yb (e:dG c a d g h):jL c a (bO d g h a):=by intro n f;obtain⟨b,i,f⟩:=vi.1 f;obtain⟨j,k,rfl⟩:=q6.1 f;have l:=e.pos b U;have m:=e.pos (b+1) U;have:=e.rng b ((d.getD b 0).toNat+j) i U U;exact⟨this.1,this.2,by dsimp only;omega,by dsimp only;omega⟩
def sq (e:dG c a g h d) (j:∀l∈d,x l):∀i∈bO g h d a,x i.2.2.1:=by intro i f;obtain⟨b,m,f⟩:=vi.1 f;obtain⟨k,n,rfl⟩:=q6.1 f;have q:=e.pos b U;have r:=e.pos (b+1) U;have o:=e.pt (b+1) U;have p:=e.val;dsimp only;rw[ie (U:(g.getD b 0).toNat+k<d.length)];exact j _ (List.getElem_mem _)
def Mu (c:hW d):∀b∈d,aW b≠2047:=by intro b e;obtain⟨f,a,rfl⟩:=g3.1 e;have:=c f a;rwa[ie a] at this
def vf (a:bp):Bool:=decide (a.1>=a.2.1)
def fW (E:List bp):List bp:=E.filter vf
def yF {E:List bp} (a:E.Pairwise fv):(fW E).Pairwise fv:=List.Pairwise.sublist List.filter_sublist a
def yE {E:List bp} (b:jL c a E):jL c a (fW E):=λe d=>b e (gu.1 d).1
def FO {E:List bp}:∀a∈fW E,a.2.1<=a.1:=λa b=>by have:=(gu.1 b).2;unfold vf at this;simpa using this
def It {b:n->Bool} {E:List n} (d:a<E.length):(E.take (a+1)).filter b=(E.take a).filter b++(if b E[a]=true then[E[a]] else[]):=by
 rw[jV,bB d,nx];congr 1;show[E[a]].filter b=_;by_cases c:b E[a]=true
 ·rw[ak c,wd c];rfl
 rw[ag c,tE c];rfl
def Gk:∀(a:cP) (b:Nat),a.Pairwise (· < ·)->(∀x∈a,x<b)->a.length<=b
 |[],_,_,_=>eU _
 |x::a,b,i,d=>by
  obtain⟨c,j⟩:=oK.1 i;have p:=d x ab;have:=Gk (a.map λf=>f-(x+1)) (b-(x+1)) (by
   rw[tH];refine List.Pairwise.imp_of_mem ?_ j;intro h m k o n;have:=c h k;omega) (by
   intro f l;obtain⟨g,e,rfl⟩:=b0.1 l;have:=c g e;have:=d g (by simp[e]);omega)
  rw[gN] at this;rw[g2];omega
def BP (a:Int):Int:=if a=0 then 0 else if a=1 then 4 else if a=2 then 7 else if a=3 then 9 else 10
def FP (s:a<=5) {E:List bp} (o:E.Pairwise fv) (c:jL a a E) (d:∀b∈E,b.2.1<=b.1):E.length<=15:=by
 have m:=Gk (E.map λb=>(BP b.2.1+b.1).toNat) 15 (by
  rw[tH];refine List.Pairwise.imp_of_mem ?_ o;intro e f g h n;have k:=c e g;have q:=c f h;have l:=d e g;have r:=d f h;unfold fv at n;unfold BP;split<;>split<;>(try split)<;>(try split)<;>(try split)<;>(try split)<;>(try split)<;>(try split)<;>omega) (by
  intro t p;obtain⟨j,i,rfl⟩:=b0.1 p;have k:=c j i;have l:=d j i;unfold BP;split
  ·omega
  split
  ·omega
  split
  ·omega
  split<;>omega)
 rwa[gN] at m
def Jq (n:a<=5) (b:h2 a a g d h) (m:gg a a g d h=0):xp (((a:Int),(a:Int),g,d,h,()),())=some (yJ a a (fW (bO g d h a)),0,()):=by
 have f:=(k4.1 m).1;have j:=uV f a (Nat.le_refl _);have k:=yb f;have s:=FP n (yF j) (yE k) FO;have r:(bO g d h a).length<=10000:=(by rw[AE f a (Nat.le_refl _)];have:=f.pt a (Nat.le_refl _);have:=b.hi;omega);unfold xp;refine aq b.check ?_;dsimp only;rw[m,dN,aB rfl];refine aq (EH f b.hc b.hi) ?_;dsimp only;generalize bO g d h a=E at*;refine ac.eq_iff.1 ?_;refine ac.a1 (P:=λo=>o=(((0:Int),((0:Int),([],([],([],()))))),fW E,())) ?_ ?_
 ·refine ac.steps E.length (λc p=>p=((c:Int),((0:Int),((0:Int),([],([],([],()))))),fW (E.take c),E,())) rfl ?_ ?_
  ·rintro c _ l rfl;dsimp only;rw[bT (aB (show(c:Int)<aw E by simp only[a5];omega)),mb l,bA U];have q:(fW (E.take c)).length<=10000:=Nat.le_trans (List.length_filter_le _ _) (by rw[List.length_take];omega);unfold fW at*;rw[It l];by_cases i:vf E[c]=true
   ·have e:=i;unfold vf at e;rw[bT e,ak i,eE (by simp only[g2,oJ];omega)];exact ac.al.2 rfl
   have e:=i;unfold vf at e;rw[bR (by simpa using e),ag i,p1];exact ac.al.2 rfl
  rintro _ rfl;dsimp only;rw[bR (az (show¬((E.length:Int)<aw E) by simp only[a5];omega)),List.take_of_length_le (Nat.le_refl _)];exact ac.al.2 rfl
 rintro _ rfl;dsimp only;exact ac.bs (KF b.hr b.hc U (yF j) (yE k)) (ac.al.2 rfl)
def pn (b:cF) (a:cQ):cD:=(List.range a.length).map λ(c:Nat)=>(List.range a.length).map λ(d:Nat)=>decide (a.getD d 0∈b.getD (a.getD c 0).toNat [])
def Ba (b:cF) (a:cQ):(pn b a).length=a.length:=by simp[pn]
def D2 (b:a<d.length) (e:c<d.length):oY (pn i d) a c=decide (d.getD c 0∈i.getD (d.getD a 0).toNat []):=by unfold oY pn;simp[List.getD,b,e]
def Ab:jr i=0↔i.length<=200/\fk i:=by
 unfold jr;by_cases a:200<i.length
 ·rw[ak a];constructor
  ·intro a;omega
  intro a;omega
 rw[ag a];by_cases b:fk i
 ·rw[ak b];exact⟨λ_=>⟨U,b⟩,λ_=>rfl⟩
 rw[ag b];exact⟨λa=>by omega,λa=>absurd a.2 b⟩
section
section
variable {P Q:Nat->Prop} {k:Nat}
end
def Dd (n:Nat) (f:Nat->Int):Prop:=∀a,a<n->f a=-1\/((a:Int)<f a/\f a<n)
section
variable {n:Nat} {f:Nat->Int} (A:Dd n f)
include A
end
end
section
def fG (a:cP):cQ:=a.map λ(b:Nat)=>(b:Int)
def Gj (a b:cP):fG (a++b)=fG a++fG b:=by simp[fG]
def sT (a:cP):(fG a).length=a.length:=by simp[fG]
section
variable {n:Nat} {f:Nat->Int} (A:Dd n f) (B:n<=200)
include A B
end
end
section
def l0 {b:List n} (d:a<b.length) (c:n):b.getD a c=b[a]:=by simp only[List.getD,bB d,rP]
section
variable {A:cF} (B:fk A) (C:A.length<=200)
include B C
end
end
structure qe {α:Type} (lt:α->α->Bool):Prop where
 Kk:∀a b,lt a b=true->lt b a=false
 trans:∀a b c,lt b a=false->lt c b=false->lt c a=false
def qe.int:qe (λa b:Int=>decide (a<b)):=⟨λa b c=>by simp at c|-;omega,λa b f d e=>by simp at d e|-;omega⟩
def rD {b:Type} (g:b->b->Bool) (c:Nat->b) (e f:Nat):Prop:=∀d a,d<a->a<=e->a≠f->g (c a) (c d)=false
def qg {b:Type} (f:b->b->Bool) (c:Nat->b) (e:Nat):Prop:=∀d a,d<a->a<e->f (c a) (c d)=false
def swp {c:Type} (b:Nat->c) (a:Nat):Nat->c:=e0 (e0 b a (b (a-1))) (a-1) (b a)
def Ir (b:Nat->n) (c:Nat):swp b a c=if c=a-1 then b a else if c=a then b (a-1) else b c:=rfl
def rD.swp {k:Type} {h:k->k->Bool} (m:qe h) {f:Nat->k} {j a:Nat} (g:rD h f j a) (q:0<a) (r:a<=j) (n:h (f a) (f (a-1))=true):rD h (swp f a) j (a-1):=by
 intro e b p i o;rw[Ir,Ir,ag o];by_cases c:b=a
 ·subst c;rw[ak rfl];by_cases d:e=b-1
  ·rw[ak d];exact m.Kk _ _ n
  rw[ag d,ag U];exact g e (b-1) U U U
 rw[ag c];by_cases d:e=a-1
 ·rw[ak d];exact g a b U i c
 rw[ag d];by_cases l:e=a
 ·rw[ak l];exact g (a-1) b U i c
 rw[ag l];exact g e b p i c
def rD.done {e:n->n->Bool} (j:qe e) {d:Nat->n} (i:rD e d c a) (m:a<=c) (b:a=0\/e (d a) (d (a-1))=false):qg e d (c+1):=by
 intro g f l o;by_cases h:f=a
 ·subst h;rcases b with b|b
  ·omega
  by_cases k:g=f-1
  ·subst k;exact b
  exact j.trans _ _ _ (i g (f-1) U U U) b
 exact i g f l U h
def SP {b:Nat->n} (g:0<a) (f:a<c):(aR c (swp b a)).Perm (aR c b):=by have d:a<(aR c b).length:=(by rw[dP];exact f);have e:a-1<(aR c b).length:=(by rw[dP];omega);have:=List.set_set_perm d e;rw[jv,jv,jw,jw] at this;exact this
def EN [Inhabited n] (a:List n):a=aR a.length (λb=>a[b]?.getD default):=Mq a _ (λb c=>by simp[c])
def Nh (b:cQ) (C:b.length<=1000):ac (xD (b,0,(b.length:Int),())) (λe=>∃a,e.1=aR b.length a/\qg (λf g=>decide (f<g)) a b.length/\e.1.Perm b):=by
 unfold xD;simp only[];generalize o:b.length=d at*;have u:IntKind.i64.wrap (0+1)=((1:Nat):Int):=(by rw[wrap64]<;>omega);rw[u];rcases gG d with z|w
 ·subst z;refine ac.a1 (P:=λe=>e.1=b) ?_ ?_
  ·refine ac.loop (λk=>k=(((1:Nat):Int),b,())) (λ_=>0) rfl ?_;rintro _ rfl;simp only[bo];rw[ag U];exact ac.al.2 rfl
  rintro⟨e,_⟩ rfl;refine ac.al.2 ⟨λ_=>0,?_,λp q r s=>by omega,List.Perm.refl _⟩;show e=[];exact kU o
 refine ac.a1 (P:=λe=>∃a,e.1=aR d a/\qg (λf g=>decide (f<g)) a d/\e.1.Perm b) ?_ (λe y=>ac.al.2 y);refine ac.for d (λi A=>∃a,A=(aR d a,())/\qg (λf g=>decide (f<g)) a i/\(aR d a).Perm b) rfl ⟨λi=>b[i]?.getD default,?_,λp q r s=>by omega,?_⟩ w ?_ ?_
 ·rw[<-o,<-EN]
 ·rw[<-o,<-EN]
 ·rintro i _ r s ⟨a,rfl,j,h⟩;simp only[bo];rw[ak U];refine ac.a1 (P:=λe=>∃a,e=(aR d a,())/\qg (λf g=>decide (f<g)) a (i+1)/\(aR d a).Perm b) ?_ ?_
  ·refine ac.loop (λk=>∃(c:Nat) (a:Nat->Int),k=((c:Int),aR d a,())/\c<=i/\rD (λf g=>decide (f<g)) a i c/\(aR d a).Perm b) (λk=>k.1.toNat) ⟨i,a,rfl,aZ _,λp q x E D=>j p q x U,h⟩ ?_;rintro _ ⟨c,a,rfl,n,m,h⟩;simp only[Ek];by_cases t:0<c
   ·have B:c-1<d:=U;have v:c<d:=U;simp(disch:=omega) only[ak,dP,I3,gR,iD,aP,C9,bo];by_cases l:a c<a (c-1)
    ·rw[ak l];simp(disch:=omega) only[aP,dP,I3,gR,iD,jw];refine ac.al.2 ⟨⟨c-1,swp a c,rfl,U,m.swp qe.int t n (by simpa using l),(SP t v).trans h⟩,?_⟩;show((c-1:Nat):Int).toNat<((c:Nat):Int).toNat;omega
    rw[ag l];exact ac.al.2 ⟨a,rfl,m.done qe.int n (.inr (by simpa using l)),h⟩
   rw[ag U];exact ac.al.2 ⟨a,rfl,m.done qe.int n (.inl U),h⟩
  rintro _ ⟨a,rfl,j,h⟩;simp(disch:=omega) only[rr];exact ac.al.2 ⟨rfl,a,rfl,j,h⟩
 rintro _ ⟨a,rfl,j,h⟩;simp only[bo];rw[ag U];exact ac.al.2 ⟨a,rfl,j,h⟩
def qg.pairwise {b:Nat->Int} (e:qg (λc d=>decide (c<d)) b a):(aR a b).Pairwise (· <= ·):=by rw[hx];intro h i j g f;rw[jv,jv];have:=e h i f (by simpa[dP] using g);simpa using this
def Jo (a:Nat) (c:a<=12):∃b,Al ((a:Int),())=some (b,()):=by
 have:a=0\/a=1\/a=2\/a=3\/a=4\/a=5\/a=6\/a=7\/a=8\/a=9\/a=10\/a=11\/a=12:=U;rcases this with rfl|rfl|rfl|rfl|rfl|rfl|rfl|rfl|rfl|rfl|rfl|rfl|rfl
 ·exact⟨0,by kernel_rfl⟩
 ·exact⟨1,by kernel_rfl⟩
 ·exact⟨2,by kernel_rfl⟩
 ·exact⟨2,by kernel_rfl⟩
 ·exact⟨3,by kernel_rfl⟩
 ·exact⟨3,by kernel_rfl⟩
 ·exact⟨3,by kernel_rfl⟩
 ·exact⟨3,by kernel_rfl⟩
 ·exact⟨4,by kernel_rfl⟩
 ·exact⟨4,by kernel_rfl⟩
 ·exact⟨4,by kernel_rfl⟩
 ·exact⟨4,by kernel_rfl⟩
 exact⟨4,by kernel_rfl⟩
def Q2 (a:cQ) (c:Int) (j:a.length<=12):ac (xF (a,0,(a.length:Int),c,())) (λb=>b.1.Pairwise (· <= ·)/\b.1.Perm a):=by obtain⟨b,g,i,f,e,d⟩:=Nh a U;refine⟨b,?_,by rw[f];exact e.pairwise,d⟩;unfold xF;dsimp only;rw[N0];dsimp only;have h:IntKind.i64.wrap ((a.length:Int)-0)=((a.length:Nat):Int):=(by rw[Int.sub_zero];exact Tx U);simp only[h,bo];rw[if_pos U,g];rfl
def Jy (a:cQ) (c:a.length<=12):ac (uB (a,())) (λb=>b.1.Pairwise (· <= ·)/\b.1.Perm a):=by unfold uB;simp only[];rw[I2 _ U U];obtain⟨d,e⟩:=Jo a.length c;rw[e];simp only[aP];exact ac.a1 (Q2 a d c) (λb f=>ac.al.2 f)
section
open Go
def K7 (p:d.Pairwise (· <= ·)):(Lib.compact d).length<d.length↔¬d.Nodup:=by
 have n:(Lib.compact d).length=((List.range d.length).filter (Lib.keeps d.toArray)).length:=(by simp[Lib.compact,Lib.compactUpTo]);have l:(∀a,a<d.length->Lib.keeps d.toArray a=true)↔d.Nodup:=by
  have j:∀a,(b:a<d.length)->(Lib.keeps d.toArray a=true↔a=0\/d[a]≠d[a-1]):=λa b=>(by have g:a-1<d.length:=U;simp[Lib.keeps,b,g]);constructor
  ·intro b;have o:d.Pairwise (· < ·):=by
    rw[QY];intro f i;have c:=(j (f+1) i).1 (b _ i);have g:=hx.1 p f (f+1) U i U;have q:d[f+1]≠d[f]:=by rcases c with c|c;omega;exact c
    omega
   exact o.imp (λb=>by omega)
  intro b a e;rw[j a e];by_cases k:a=0
  ·exact .inl k
  refine .inr λh=>?_;have:=(List.getElem_inj b).1 h;omega
 rw[<-l,n];have m:=jk (Lib.keeps d.toArray) (List.range d.length);rw[List.length_range] at m;constructor
 ·intro b g;rw[lA.2 (λa e=>g a (hg.1 e)),List.length_range] at b;omega
 intro b;rcases bi ((List.range d.length).filter (Lib.keeps d.toArray)).length d.length with c|c
 ·exact c
 refine absurd (λa e=>?_) b;have h:((List.range d.length).filter (Lib.keeps d.toArray)).length=(List.range d.length).length:=(by rw[List.length_range];omega);exact List.length_filter_eq_length_iff.1 h a (hg.2 e)
def S3 (a:cQ) (e:a.length<=12):xd (a,())=some (decide (¬a.Nodup),()):=by obtain⟨c,g,h,b⟩:=Jy a e;have f:=b.length_eq;unfold xd vR;simp only[g,hj,aP];rw[show Nat.ble a.length 1000000=true from Nat.ble_eq_true_of_le U];simp only[cond_true];rw[show Nat.ble c.1.length 1000000=true from Nat.ble_eq_true_of_le U];simp only[cond_true,hj];have d:decide ((Lib.compact c.1).length<a.length)=decide (¬a.Nodup):=(by rw[decide_eq_decide,<-f,K7 h,b.nodup_iff]);rw[d]
def gT (a:Nat) (b:Nat->Nat->Bool):cD:=aR a λc=>aR a (b c)
def FV (a:Nat) (b:Nat->Nat->Bool):(gT a b).length=a:=dP a _
def sM {d:Nat->Nat->Bool} (e:∀b c,b<a->c<a->m b c=d b c):gT a m=gT a d:=fm λb f=>fm λc g=>e b c f g
def Da (a:Nat) (g:a<=4294967296):uo ((a:Int),())=some (gT a λ_ _=>false,()):=by
 unfold uo;simp only[];rw[iN g];simp only[aP];refine aq (y:=(gT a λ_ _=>false,())) (vd a (λc=>(aR a (λb=>if b<c then List.replicate a false else[]),())) 0 rfl ?_ (eU _) ?_ ?_) rfl
 ·rw[nU];simp
 ·intro c _ h;simp(disch:=omega) only[dP,nA,bo,ak,aP,gR,iD,jw,rr];congr 4;refine fm λb f=>?_;simp only[e0];by_cases d:b=c
  ·subst d;rw[ak rfl,ak U]
  rw[ag d];by_cases e:b<c
  ·rw[ak e,ak U]
  rw[ag e,ag U]
 simp only[nA,bo];rw[ag U];congr 2;refine congrArg (·,()) (fm λb f=>?_);rw[ak f,nU]
def C7 {n:Nat} {B:Nat->Nat->Bool} {i j:Nat} (o:i<n) (p:j<n):us (gT n B,(i:Int),(j:Int),())=some (gT n (λb a=>B b a||(decide (i≠j)&&((decide (b=i)&&decide (a=j))||(decide (b=j)&&decide (a=i))))),()):=by
 unfold us;simp only[dN];by_cases c:i=j
 ·subst c;simp only[decide_true,kf,cond_false];congr 2;exact sM λb a _ _=>by simp
 rw[az (U:¬((i:Int)=(j:Int)))];unfold gT;simp(disch:=omega) only[ly,cond_true,dP,gR,aP,iD,hj,jw];rw[show e0 (λl=>aR n (B l)) i (aR n (e0 (B i) j true)) j=aR n (B j) from mn _ _ (λf=>c f.symm)];simp(disch:=omega) only[dP,gR,aP,iD,hj,jw];congr 2;refine fm λb m=>?_;simp only[e0];by_cases d:b=j
 ·rw[ak d,d];refine fm λa k=>?_;simp only[e0];have h:¬j=i:=λf=>c f.symm;by_cases e:a=i
  ·simp[e,h,c]
  simp[e,h,c]
 rw[ag d];by_cases g:b=i
 ·subst g;rw[ak rfl];refine fm λa k=>?_;simp only[e0];by_cases e:a=j
  ·simp[e,c]
  simp[e,d]
 rw[ag g];refine fm λa k=>?_;simp[d,g]
def Jp (i:c<=4294967296) (f:a<c):xa (gT c m,(a:Int),())=some (fG ((List.range c).filter (m a)),()):=by
 unfold xa;simp only[];rw[show aQ (gT c m) (a:Int)=some (aR c (m a)) from E8 f];simp only[aP];refine aq (y:=(fG ((List.range c).filter (m a)),())) (vd c (λb=>(fG ((List.range b).filter (m a)),())) 0 rfl rfl (eU _) ?_ ?_) rfl
 ·intro b _ g;have h:(fG ((List.range b).filter (m a))).length<=b:=(by rw[sT];have:=jk (m a) (List.range b);simpa using this);have e:fG ((List.range (b+1)).filter (m a))=if m a b=true then fG ((List.range b).filter (m a))++[(b:Int)] else fG ((List.range b).filter (m a)):=by
   rw[p6,nx,Gj];by_cases d:m a b=true<;>simp[d,fG]
  simp(disch:=omega) only[dP,bo,ak,E8,aP,rr];rw[e];by_cases d:m a b=true
  ·rw[ak d,d,eE (by simp only[List.length_singleton];omega)];rfl
  rw[ag d,Bool.eq_false_iff.2 d];rfl
 simp only[dP,bo];rw[ag U]
def ia (a:Nat) (b:Nat->Nat->Bool):cF:=aR a λc=>fG ((List.range a).filter (b c))
def C6 (g:a<=4294967296):ur (gT a m,())=some ((ia a m,()),()):=by
 unfold ur;simp only[FV];rw[iN g];simp only[aP];refine aq (y:=(([],()),(ia a m,()),())) (vd a (λc=>(([],()),(aR a (λb=>if b<c then fG ((List.range a).filter (m b)) else[]),()),())) 0 rfl ?_ (eU _) ?_ ?_) rfl
 ·rw[nU];simp
 ·intro c _ h;simp(disch:=omega) only[bo,ak,Jp,aP,dP,gR,iD,hj,jw,rr];congr 6;refine fm λb f=>?_;simp only[e0];by_cases d:b=c
  ·subst d;rw[ak rfl,ak U]
  rw[ag d];by_cases e:b<c
  ·rw[ak e,ak U]
  rw[ag e,ag U]
 simp only[bo];rw[ag U];have:(aR a λb=>if b<a then fG ((List.range a).filter (m b)) else[])=ia a m:=fm λb f=>(by rw[ak f]);rw[this]
end
section
open Go
def fx (a:cQ) (b:Nat):Prop:=a.length=b/\(∀c∈a,0<=c/\c<(b:Int))/\a.Nodup
def od (a:cF) (b:cQ):Int:=open Classical in if jr a≠0 then jr a else if b.length≠a.length then 2 else if fx b a.length then 0 else 90
def Tr (d:cF) (c:Int):xe ((d,()),c,())=some (decide (0<=c/\c<(d.length:Int)),()):=by
 unfold xe;simp only[Ek];by_cases b:c>=0
 ·rw[ak b];congr 2;exact decide_eq_decide.2 ⟨λa=>⟨b,a⟩,λa=>a.2⟩
 rw[ag b,az (λa=>b a.1)]
def QT (e:cF) (a:cQ) (n:a.length<4611686018427387904):xB (a,(some (e,()),()),())=some (decide (¬∀d∈a,0<=d/\d<(e.length:Int)),()):=by
 classical
 unfold xB Ap;simp only[];rw[<-ac.eq_iff];have h:(∀d∈a,0<=d/\d<(e.length:Int))↔∀c,c<a.length->∀b:c<a.length,0<=a[c]/\a[c]<(e.length:Int):=
  ⟨λb c _ f=>b _ (dm f),λb d m=>by obtain⟨c,f,rfl⟩:=g3.1 m;exact b c f f⟩
 refine ac.a1 (P:=λj=>decide (j.1>=0)=decide (¬∀d∈a,0<=d/\d<(e.length:Int))) ?_ (λj l=>ac.al.2 (by rw[l]));refine ac.a1 (NZ a.length (λc=>∀b:c<a.length,0<=a[c]/\a[c]<(e.length:Int)) ?_ ?_) ?_
 ·intro c f;simp(disch:=omega) only[bo,ak,mX (bB f),aP,rr];unfold Aj;simp only[aP,Tr];by_cases b:0<=a[c]/\a[c]<(e.length:Int)
  ·rw[aB b,ak (λ_=>b)];rfl
  rw[az b,ag (λk=>b (k f))];rfl
 ·simp(disch:=omega) only[bo,ag]
 rintro(i|i) g
 ·refine ac.al.2 ?_;rw[az aa,az (λb=>b (h.2 g))]
 refine ac.al.2 ?_;rw[aB (show i.1>=0 from g.1),aB (show¬∀d∈a,0<=d/\d<(e.length:Int) fromλb=>g.2 (h.1 b))]
def Ju (j:∀n∈i,n.length<4611686018427387904) (a:cQ) (l:i.length<=200->fk i->i.length<=12) (m:a.length<4611686018427387904):w9 ((i,()),a,())=some (od i a,()):=by
 classical
 unfold w9 od;simp only[C2 i j,aP,dN];by_cases b:jr i=0
 ·obtain⟨k,h⟩:=Ab.1 b;have o:=l k h;rw[aB b];simp only[kf,cond_false,b,ne_eq,not_true_eq_false,if_false];by_cases f:a.length=i.length
  ·rw[aB (U:(((a.length:Nat):Int)=((i.length:Nat):Int)))];simp only[kf,cond_false,f,not_true_eq_false,if_false];rw[QT i a m];simp only[aP];by_cases c:∀g∈a,0<=g/\g<(i.length:Int)
   ·rw[az (not_not_intro c)];simp only[beq_self_eq_true,cond_true];rw[S3 a U];simp only[aP,bo];by_cases d:a.Nodup
    ·rw[ag (not_not_intro d),ak ⟨f,c,d⟩]
    rw[ak d,ag (λe=>d e.2.2)]
   rw[aB c,ag (λe=>c e.2.1)];rfl
  rw[az (U:¬(((a.length:Nat):Int)=((i.length:Nat):Int)))];simp only[ly,cond_true,f,not_false_eq_true,if_true]
 rw[az b];simp only[ly,cond_true,b,ne_eq,not_false_eq_true,if_true]
end
section
open Go
def mY (c:cF) (a:cQ) (b d:Nat):Bool:=decide (a.getD d 0∈c.getD (a.getD b 0).toNat [])
def Fq (r:fk i) (n:∀b∈d,0<=b/\b<(i.length:Int)) (l:a<d.length) (m:c<d.length):mY i d a c=mY i d c a:=by have j:=n _ (dm l);have k:=n _ (dm m);have p:∀b e:Int,0<=b/\b<(i.length:Int)->0<=e/\e<(i.length:Int)->e∈i.getD b.toNat []->b∈i.getD e.toNat []:=λb e t u h=>(by obtain⟨f,rfl⟩:∃f:Nat,b=(f:Int):=⟨b.toNat,U⟩;obtain⟨g,rfl⟩:∃g:Nat,e=(g:Int):=⟨e.toNat,U⟩;simp only[dk] at h|-;have o:f<i.length:=U;have s:g<i.length:=U;rw[l0 o] at h;obtain⟨_,q⟩:=eu.symm r f g ⟨o,h⟩;rw[l0 s];exact q);unfold mY;rw[l0 l,l0 m];exact decide_eq_decide.2 ⟨p _ _ j k,p _ _ k j⟩
def ML (h:fk i) (j:∀f∈d,0<=f/\f<(i.length:Int)):ia d.length (λc e=>decide (c≠e)&&mY i d c e)=h9 (pn i d):=by unfold ia h9;rw[Ba];refine hu λk a=>?_;have a:=hg.1 a;unfold fG n2;refine congrArg _ (List.filter_congr λl b=>?_);have b:=hg.1 b;rw[D2 a b,D2 b a];have:=Fq h j a b;unfold mY at this|-;rw[<-this,Bool.or_self];by_cases g:k=l<;>simp[g]
def Nd (u:fk i) (F:∀d∈i,d.length<4611686018427387904) (w:∀C∈d,0<=C/\C<(i.length:Int)) (K:d.length<=400):xc ((i,()),d,())=some ((h9 (pn i d),()),()):=by
 generalize o:d.length=j at*
 let h:Nat->Nat->Nat->Nat->Bool:=λa b c e=>decide (c≠e)&&(mY i d c e&&((decide (c<a)&&decide (e<a))||((decide (c=a)&&decide (e<b))||(decide (e=a)&&decide (c<b)))))
 unfold xc;simp only[o];rw[Da j U];simp only[aP];refine aq (y:=(([],()),gT j (h j 0),())) (vd j (λa=>(([],()),gT j (h a 0),())) 0 rfl ?_ (eU _) ?_ ?_) ?_
 ·refine congrArg (λl=>(([],()),l,())) (sM λc e _ _=>?_);simp[h]
 ·intro a _ I;have r:a<d.length:=U;have G:aQ d (a:Int)=some d[a]:=mX (bB r);have g:=w _ (dm r);obtain⟨k,s⟩:∃k:Nat,d[a]=(k:Int):=⟨d[a].toNat,U⟩;have t:k<i.length:=U;simp(disch:=omega) only[bo,ak,G,aP,vl,o,yz,hj,s,mB];have B:(d.take a).length=a:=(by rw[eB];omega);refine aq (y:=(([],()),gT j (h a a),())) (vd a (λb=>(([],()),gT j (h a b),())) 0 rfl rfl (eU _) ?_ ?_) ?_
  ·intro b _ J;have v:b<d.length:=U;have H:aQ (d.take a) (b:Int)=some d[b]:=mX (by rw[kj J];exact bB v);simp(disch:=omega) only[B,bo,ak,H,aP,rr];rw[Be i k d[b] t (F _ (dm t)) ((JU i).1 u k t).1];simp only[aP,bo];have n:mY i d a b=decide (d[b]∈i[k]):=by
    unfold mY;rw[l0 r,l0 v,s,dk,l0 t]
   have q:mY i d b a=decide (d[b]∈i[k]):=(by rw[<-n];exact Fq u (by simpa[o] using w) v r);by_cases p:d[b]∈i[k]
   ·rw[ak p,C7 I U];simp only[aP];refine congrArg (λl=>some (Sum.inl (((b+1:Nat):Int),([],()),l,()))) (sM λc e _ _=>?_);rw[aB p] at n q;simp only[h];rw[nm];simp only[gE,a2,decide_eq_true_eq];constructor
    ·rintro(⟨g,f,m⟩|⟨g,⟨rfl,rfl⟩|⟨rfl,rfl⟩⟩)
     ·exact⟨g,f,U⟩
     ·exact⟨U,n,U⟩
     exact⟨U,q,U⟩
    rintro⟨g,f,m⟩;by_cases D:(c=a/\e=b)\/(c=b/\e=a)
    ·exact .inr ⟨U,D⟩
    exact .inl ⟨g,f,U⟩
   rw[ag p];simp only[aP];refine congrArg (λl=>some (Sum.inl (((b+1:Nat):Int),([],()),l,()))) (sM λc e _ _=>?_);rw[az p] at n q;simp only[h];rw[nm];simp only[gE,a2,decide_eq_true_eq];constructor
   ·rintro⟨g,f,m⟩;exact⟨g,f,U⟩
   rintro⟨g,f,m⟩;refine⟨g,f,?_⟩;by_cases z:c=a/\e=b
   ·rw[z.1,z.2,n] at f;cases f
   by_cases A:c=b/\e=a
   ·rw[A.1,A.2,q] at f;cases f
   omega
  ·simp(disch:=omega) only[B,bo,ag]
  simp(disch:=omega) only[rr];refine congrArg (λl=>some (Sum.inl (((a+1:Nat):Int),([],()),l,()))) (sM λc e _ _=>?_);simp only[h];rw[nm];simp only[gE,a2,decide_eq_true_eq];constructor
  ·rintro⟨g,f,m⟩;exact⟨g,f,U⟩
  rintro⟨g,f,m⟩;exact⟨g,f,U⟩
 ·simp(disch:=omega) only[bo,ag]
 rw[C6 U];simp only[aP];have E:ia j (h j 0)=ia j (λc e=>decide (c≠e)&&mY i d c e):=(by refine fm λk s=>congrArg fG (List.filter_congr λL x=>?_);have x:=hg.1 x;simp[h,s,x]);rw[E,<-o,ML u (by simpa[o] using w)]
def Jv (f:∀l∈i,l.length<4611686018427387904) (b:cQ) (j:i.length<=200->fk i->i.length<=12) (k:b.length<4611686018427387904):uq ((i,()),b,())=some (if od i b=0 then((h9 (pn i b),()),0,()) else(([],()),od i b,())):=by
 classical
 unfold uq;simp only[Ju f b j k,aP,dN];by_cases a:od i b=0
 ·rw[aB a,ak a];simp only[kf,cond_false];have e:jr i=0:=by
   by_cases d:jr i=0
   ·exact d
   unfold od at a;rw[ak d] at a;exact absurd a d
  obtain⟨m,h⟩:=Ab.1 e;have c:fx b i.length:=by
   unfold od at a;rw[ag (not_not_intro e)] at a;by_cases g:b.length=i.length
   ·rw[ag (not_not_intro g)] at a;by_cases c:fx b i.length
    ·exact c
    rw[ag c] at a;omega
   rw[ak g] at a;omega
  rw[Nd h f c.2.1 (by have:=c.1;omega)];rfl
 rw[az a,ag a];rfl
end
def hD (E:List bp) (b c:Nat):Bool:=E.any λa=>decide (a.1≠a.2.1)&&((decide ((b:Int)=a.1)&&decide ((c:Int)=a.2.1))||(decide ((b:Int)=a.2.1)&&decide ((c:Int)=a.1)))
def rp (E:List bp) (b c:Nat):Bool:=E.any λa=>decide ((b:Int)=a.1)&&decide ((c:Int)=a.2.1)
def J5 {b:n->Bool} {E:List n} (c:a<E.length):(E.take (a+1)).any b=((E.take a).any b||b E[a]):=by rw[jV,bB c,List.any_append];simp
def D3 (b:c<a) (d:j<a):oY (gT a m) c j=m c j:=by unfold oY gT;rw[ht,ht,su b];show(aR a (m c))[j]?.getD false=_;rw[su d];rfl
def ME (f:Nat) (d:Nat->Nat->Bool):h9 (gT f d)=ia f λb c=>b !=c&&(d b c||d c b):=by unfold h9;rw[FV];refine fm λb e=>?_;unfold n2 fG;congr 1;refine List.filter_congr λc a=>?_;have a:=hg.1 a;rw[D3 e a,D3 a e]
def Np {E:List bp} (e f:Nat):(e !=f&&(rp E e f||rp E f e))=hD E e f:=by
 induction E with
 |nil=>simp[rp,hD]
 |cons h E g=>
  unfold rp hD at*;simp only[List.any_cons];rw[<-g,nm];simp only[a2,gE,bne_iff_ne,decide_eq_true_eq];constructor
  ·rintro⟨d,(⟨b,c⟩|a)|(⟨b,c⟩|a)⟩
   ·exact .inl ⟨U,.inl ⟨b,c⟩⟩
   ·exact .inr ⟨d,.inl a⟩
   ·exact .inl ⟨U,.inr ⟨c,b⟩⟩
   exact .inr ⟨d,.inr a⟩
  rintro(⟨d,⟨b,c⟩|⟨b,c⟩⟩|⟨d,a|a⟩)
  ·exact⟨U,.inl (.inl ⟨b,c⟩)⟩
  ·exact⟨U,.inr (.inl ⟨c,b⟩)⟩
  ·exact⟨d,.inl (.inr a)⟩
  exact⟨d,.inr (.inr a)⟩
def Jk (f:h2 a a g d h) (p:gg a a g d h=0):um (((a:Int),(a:Int),g,d,h,()),())=some ((ia a (hD (bO g d h a)),()),0,()):=by
 have m:=(k4.1 p).1;have u:=yb m;have y:(bO g d h a).length<=10000:=(by rw[AE m a (Nat.le_refl _)];have:=m.pt a (Nat.le_refl _);have:=f.hi;omega);unfold um;refine aq f.check ?_;dsimp only;rw[p,dN,aB rfl,dN,aB rfl];have x:=f.hc;refine aq (Da a U) (aq (Jf f p) ?_);dsimp only;generalize bO g d h a=E at*;refine ac.eq_iff.1 ?_;refine ac.a1 (P:=λv=>v=(([],()),gT a (hD E),())) ?_ ?_
 ·refine ac.steps E.length (λb w=>w=((b:Int),([],()),gT a (hD (E.take b)),E,())) rfl ?_ ?_
  ·rintro b _ o rfl;dsimp only;rw[bT (aB (show(b:Int)<aw E by simp only[a5];omega)),mb o,bA U];have t:=u E[b] (List.getElem_mem o);obtain⟨c,q⟩:=Int.eq_ofNat_of_zero_le t.1;obtain⟨e,r⟩:=Int.eq_ofNat_of_zero_le t.2.2.1;have s:=C7 (n:=a) (B:=hD (E.take b)) (i:=c) (j:=e) U U;rw[<-q,<-r] at s;refine ac.bs s (ac.al.2 ?_);dsimp only;have:gT a (λk l=>hD (E.take b) k l||(decide (c≠e)&&((decide (k=c)&&decide (l=e))||(decide (k=e)&&decide (l=c)))))=gT a (hD (E.take (b+1))):=by
    refine sM λz A _ _=>?_;unfold hD;rw[J5 o,q,r];congr 1;rw[nm];simp only[a2,gE,decide_eq_true_eq];omega
   rw[this]
  rintro _ rfl;dsimp only;rw[bR (az (show¬((E.length:Int)<aw E) by simp only[a5];omega)),List.take_of_length_le (Nat.le_refl _)];exact ac.al.2 rfl
 rintro _ rfl;dsimp only;exact ac.bs (C6 U) (ac.al.2 rfl)
section
open Go
def iR (b:cQ) (a:Nat):Nat:=(b.getD a 0).toNat
def fx.get {n:Nat} (c:fx d n) (f:a<n):aQ d (a:Int)=some ((iR d a:Nat):Int)/\iR d a<n:=by have b:a<d.length:=(by rw[c.1];exact f);have g:=c.2.1 _ (dm b);have e:iR d a=d[a].toNat:=(by unfold iR;rw[l0 b]);exact⟨by rw[mX (bB b),e];congr 1;omega,U⟩
theorem fx.inj (b:fx d j) (h:a<j) (i:c<j) (e:iR d a=iR d c):a=c:=by have f:a<d.length:=(by rw[b.1];exact h);have g:c<d.length:=(by rw[b.1];exact i);have k:=b.2.1 _ (dm f);have l:=b.2.1 _ (dm g);unfold iR at e;rw[l0 f,l0 g] at e;exact(List.getElem_inj b.2.2).1 U
end
section
open Go
def OS:∀{n:Nat} {a:cP},a.Nodup->(∀b∈a,b<n)->a.length<=n:=by
 intro n
 induction n with
 |zero=>intro a _ c;cases a with
  |nil=>exact aZ _
  |cons h a=>exact absurd (c h (lD ..)) U
 |succ n l=>
  intro a e c;have j:(a.erase n).Nodup:=e.erase n;have k:∀b∈a.erase n,b<n:=λb g=>(by have d:=c b (List.mem_of_mem_erase g);have m:b≠n:=λi=>(by subst i;exact(e.mem_erase_iff.1 g).1 rfl);omega);have d:=l j k;by_cases f:n∈a
  ·rw[List.length_erase_of_mem f] at d;omega
  rw[List.erase_of_not_mem f] at d;omega
def Oh {b:cP}:(a:Int)∈fG b↔a∈b:=by
 unfold fG;rw[b0];constructor
 ·rintro⟨e,d,f⟩;obtain rfl:e=a:=U;exact d
 exactλc=>⟨a,c,rfl⟩
section
variable {A:cF} (B:fk A)
include B
end
end
section
open Go
def x1 (A:cF) (a:Int):Nat:=(A.getD a.toNat []).length
section
variable {A:cF} (B:fk A) (C:A.length<=200)
include B C
end
end
section
open Go
def FJ (a:cF) (b c:Int):Prop:=x1 a b<x1 a c\/(x1 a b=x1 a c/\b<c)
instance(a:cF) (b c:Int):Decidable (FJ a b c):=by unfold FJ;exact inferInstance
end
section
open Go
def eP (o:cQ) (a:Nat):Nat:=o.idxOf (a:Int)
section
variable {o:cQ} {n:Nat} (A:fx o n)
include A
theorem fx.mem (p:a<n):(a:Int)∈o:=by
 apply Classical.byContradiction;intro m;obtain⟨w,b,i⟩:=A;have h:o=fG (o.map Int.toNat):=by
  unfold fG;rw[nB]
  conv=>lhs;rw[<-List.map_id o]
  refine hu λg c=>?_;have:=b g c;simp only[id,Function.comp];omega
 have j:(o.map Int.toNat).Nodup:=(by rw[List.nodup_iff_pairwise_ne,tH];refine(hx.2 λr s e f k=>?_);have u:=b _ (dm e);have v:=b _ (dm f);have:=hx.1 (List.nodup_iff_pairwise_ne.1 i) r s e f k;omega);have l:a∉o.map Int.toNat:=λc=>m (by rw[h];exact Oh.2 c);have:=OS (n:=n) (hZ.2 ⟨l,j⟩) (λg d=>by
  rcases dw.1 d with rfl|d
  ·exact p
  obtain⟨t,q,rfl⟩:=b0.1 d;have:=b t q;omega)
 rw[g2,gN] at this;omega
theorem fx.pos (d:a<n):eP o a<n/\iR o (eP o a)=a:=by have c:=A.mem d;have b:eP o a<o.length:=List.idxOf_lt_length_iff.2 c;refine⟨by rw[<-A.1];exact b,?_⟩;unfold iR;rw[l0 b,show o[eP o a]=(a:Int) from List.getElem_idxOf b];simp
theorem fx.Ho (b:a<n):eP o (iR o a)=a:=by have c:=(A.get b).2;obtain⟨d,e⟩:=A.pos c;exact A.inj d b e
end
section
variable {B:cF} (C:fk B) {o:cQ} (A:fx o B.length)
include C A
end
end
def kc (E:List bp) (b c:Int):Int:=match E.find? λa=>decide (a.1=b)&&decide (a.2.1=c) with
 |some a=>a.2.2.1
 |none=>0
def LN {E:List bp} (e:E.Pairwise fv) {b:bp} (h:s∈E) (i:b∈E) (j:s.1=b.1) (k:s.2.1=b.2.1):s=b:=by
 obtain⟨c,f,rfl⟩:=g3.1 h;obtain⟨d,g,rfl⟩:=g3.1 i;rcases qb c d with a|a|a
 ·have:=hx.1 e c d f g a;unfold fv at this;omega
 ·subst a;rfl
 have:=hx.1 e d c g f a;unfold fv at this;omega
def IT {E:List bp} (f:E.Pairwise fv) (d:s∈E):kc E s.1 s.2.1=s.2.2.1:=by
 unfold kc;cases a:E.find? λc=>decide (c.1=s.1)&&decide (c.2.1=s.2.1) with
 |none=>
  have:=List.find?_eq_none.1 a s d;simp at this
 |some c=>
  have b:=List.find?_some a;have e:=List.mem_of_find?_eq_some a;simp only[Bool.and_eq_true,decide_eq_true_eq] at b;dsimp only;rw[LN f e d b.1 b.2]
def Tm {E:List bp} (c:∀a∈E,¬(a.1=b/\a.2.1=f)):kc E b f=0:=by unfold kc;rw[List.find?_eq_none.2];intro a d;have:=c a d;simpa using this
def IU {E:List bp} (f:(E++[s]).Pairwise fv) (b c:Int):kc (E++[s]) b c=if s.1=b/\s.2.1=c then s.2.2.1 else kc E b c:=by
 by_cases a:s.1=b/\s.2.1=c
 ·rw[ak a,<-a.1,<-a.2,IT f ab]
 rw[ag a];unfold kc;have e:List.find? (λd:bp=>decide (d.1=b)&&decide (d.2.1=c)) [s]=none:=(by refine List.find?_eq_none.2 λd g=>?_;obtain rfl:=fe.1 g;simpa using a);rw[List.find?_append,e,Option.or_none]
def FX (i:dG j c d g h) (m:a<c):s∈bO d g h c/\s.2.1=(a:Int)↔∃b:Nat,d.getD a 0<=(b:Int)/\(b:Int)<d.getD (a+1) 0/\s=(g.getD b 0,(a:Int),h.getD b 0,()):=by
 have t:=i.pos a U;have u:=i.pos (a+1) U;constructor
 ·rintro⟨e,k⟩;obtain⟨f,q,e⟩:=vi.1 e;obtain⟨n,r,rfl⟩:=q6.1 e;have l:f=a:=(by dsimp only at k;omega);subst l;exact⟨(d.getD f 0).toNat+n,U,U,rfl⟩
 rintro⟨b,o,p,rfl⟩;refine⟨vi.2 ⟨a,m,q6.2 ⟨b-(d.getD a 0).toNat,U,?_⟩⟩,rfl⟩;rw[(U:(d.getD a 0).toNat+(b-(d.getD a 0).toNat)=b)]
def Ro (r:h2 j c g d h) (v:gg j c g d h=0) (n:Int) (q:a<c):qF (((j:Int),(c:Int),g,d,h,()),n,(a:Int),())=some (kc (bO g d h c) n (a:Int),()):=by
 have f:=(k4.1 v).1;have C:=f.pos a U;have D:=f.pos (a+1) U;have K:=f.pt (a+1) U;have L:=f.val;have I:=f.mono a q;have H:=f.len;have G:=r.hi;have z:=uV f c (aZ _);have F:=r.hc;unfold qF;refine aq (y:=.inl ()) ?_ ?_
 ·refine aq r.Hw ?_;dsimp only;rw[v,dN,aB rfl,az (U:¬((a:Int)<0)),az (U:¬((a:Int)>=(c:Int)))];rfl
 dsimp only;rw[eX (U:a<g.length),Option.bind_some];refine ac.eq_iff.1 ?_;obtain⟨e,B⟩:=Int.eq_ofNat_of_zero_le C;obtain⟨k,A⟩:=Int.eq_ofNat_of_zero_le D;have x:aQ g (a7 (a:Int))=some (k:Int):=(by rw[bA U,eX U,A]);rw[x,B];refine ac.a1 (P:=λt=>(t=.inl ()/\∀b:Nat,e<=b->b<k->d.getD b 0≠n)\/∃b:Nat,e<=b/\b<k/\d.getD b 0=n/\t=.inr (h.getD b 0,())) ?_ ?_
 ·refine ac.steps (k-e) (λi E=>E=(((e+i:Nat):Int),())/\∀b:Nat,e<=b->b<e+i->d.getD b 0≠n) ⟨rfl,λb l o=>absurd o U⟩ ?_ ?_
  ·rintro i _ J ⟨rfl,p⟩;dsimp only;rw[Option.bind_some,bT (aB (U:((e+i:Nat):Int)<(k:Int)))];refine ac.bs (eX U) ?_;by_cases m:d.getD (e+i) 0=n
   ·rw[bT (by rw[m];simp)];refine ac.bs (eX U) (ac.al.2 ?_);exact .inr ⟨e+i,U,U,m,rfl⟩
   rw[bR (by simpa using m),bA U];refine ac.al.2 ⟨rfl,λb l o=>?_⟩;rcases bi b (e+i) with u|u
   ·exact p b l u
   obtain rfl:b=e+i:=U;exact m
  rintro _ ⟨rfl,p⟩;dsimp only;rw[Option.bind_some,bR (az (U:¬(((e+(k-e):Nat):Int)<(k:Int))))];exact ac.al.2 (.inl ⟨rfl,λb l o=>p b l U⟩)
 rintro t (⟨rfl,p⟩|⟨b,l,o,m,rfl⟩)
 ·refine ac.al.2 ?_;rw[Tm];intro M s w;obtain⟨b,l,o,rfl⟩:=(FX f q).1 ⟨s,w.2⟩;exact p b U U w.1
 refine ac.al.2 ?_;have s:=((FX f q).2 ⟨b,U,U,rfl⟩).1;have:=IT z s;dsimp only at this;rw[m] at this;rw[this]
def Rd (g:a<d.length) (f:d[a]=(c:Int)) (e:(c:Int)∉d.take a):eP d c=a:=by unfold eP;have b:d=d.take a++(d[a]::d.drop (a+1)):=(by rw[List.getElem_cons_drop,km]);rw[b,List.idxOf_append,ag e,f,List.idxOf_cons_self,eB];omega
def Hn (H:a<=10000) (I:d.length<=1000000):x0 (d,(a:Int),())=some (open Classical in if fx d a then(aR a (λb=>(eP d b:Int)),true,()) else([],false,())):=by
 classical
 unfold x0;dsimp only;by_cases p:d.length=a
 ·rw[bR (by rw[dN,aB (show aw d=(a:Int) by rw[a5,p])];rfl)];refine aq (iN U) (aq (iN U) ?_);refine ac.eq_iff.1 ?_;refine ac.a1 (P:=λr=>(r=.inl (aR a (λb=>(eP d b:Int)),())/\fx d a)\/(r=.inr ([],false,())/\¬fx d a)) ?_ ?_
  ·refine ac.steps a (λc D=>D=((c:Int),aR a (λb=>if(b:Int)∈d.take c then(eP d b:Int) else 0),aR a (λb=>decide ((b:Int)∈d.take c)),())/\(∀g∈d.take c,0<=g/\g<(a:Int))/\(d.take c).Nodup) ?_ ?_ ?_
   ·refine⟨?_,ab,ab⟩;rw[nU,nU];simp
   ·rintro c _ G ⟨rfl,n,o⟩;dsimp only;rw[bT (aB (show(c:Int)<aw d by rw[a5];omega)),dc (U:c<d.length)];have u:d[c]'(by omega)∈d:=List.getElem_mem _
    have q:d.take (c+1)=d.take c++[d[c]'(by omega)]:=by rw[jV,bB U];rfl
    have j:∀g,g∈d.take (c+1)↔g∈d.take c\/g=d[c]'(by omega):=λg=>by rw[q,eR,fe]
    have A:(d.take (c+1)).Sublist d:=List.take_sublist _ _;have z:∀f:Nat,d[c]'(by omega)=(f:Int)->(f:Int)∉d.take c->eP d f=c:=λf=>Rd U
    generalize v:d[c]'(by omega)=b at*
    simp only[aP];by_cases s:b<0
    ·rw[bR (show(decide (b<0)==false)=false by rw[aB s];rfl)];refine ac.al.2 (.inr ⟨rfl,λh=>?_⟩);have:=h.2.1 b u;omega
    rw[bT (show(decide (b<0)==false)=true by rw[az s];rfl)];by_cases t:b>=(a:Int)
    ·rw[bR (show(decide (b>=(a:Int))==false)=false by rw[aB t];rfl)];refine ac.al.2 (.inr ⟨rfl,λh=>?_⟩);have:=h.2.1 b u;omega
    rw[bT (show(decide (b>=(a:Int))==false)=true by rw[az t];rfl)];obtain⟨f,rfl⟩:=dX (U:0<=b);rw[mb (by rw[dP];omega),jv];by_cases l:(f:Int)∈d.take c
    ·simp only[aP];rw[bT (aB l)];refine ac.al.2 (.inr ⟨rfl,λh=>?_⟩);have:=List.Nodup.sublist A h.2.2;rw[q,hI] at this;exact this.2.2 _ l _ (fe.2 rfl) rfl
    simp only[aP];rw[bR (az l)];simp only[aP];rw[nk (by rw[dP];omega),jw,nk (by rw[dP];omega),jw];refine ac.al.2 ⟨?_,?_,?_⟩
    ·rw[bA U];have:aR a (e0 (λb=>decide ((b:Int)∈d.take c)) f true)=aR a (λb=>decide ((b:Int)∈d.take (c+1))):=by
      refine fm λk B=>?_;by_cases i:k=f
      ·subst i;rw[mq,aB ((j _).2 (.inr rfl))]
      rw[mn _ _ i];refine decide_eq_decide.2 ⟨λe=>(j _).2 (.inl e),λe=>((j _).1 e).resolve_right λe=>i U⟩
     rw[this];have:aR a (e0 (λb=>if(b:Int)∈d.take c then(eP d b:Int) else 0) f (c:Int))=aR a (λb=>if(b:Int)∈d.take (c+1) then(eP d b:Int) else 0):=by
      refine fm λk B=>?_;by_cases i:k=f
      ·subst i;rw[mq,ak ((j _).2 (.inr rfl)),z k rfl l]
      rw[mn _ _ i];have:(k:Int)∈d.take (c+1)↔(k:Int)∈d.take c:=⟨λe=>((j _).1 e).resolve_right λe=>i U,λe=>(j _).2 (.inl e)⟩;by_cases m:(k:Int)∈d.take c
      ·rw[ak m,ak (this.2 m)]
      rw[ag m,ag λe=>m (this.1 e)]
     rw[this]
    ·intro g C;rcases(j g).1 C with e|e
     ·exact n g e
     subst e;omega
    rw[q,hI];refine⟨o,ab,λE x F y w=>?_⟩;obtain rfl:=fe.1 y;exact l (w▸x)
   rintro _ ⟨rfl,n,o⟩;dsimp only;rw[bR (az (show¬((a:Int)<aw d) by rw[a5];omega))];rw[List.take_of_length_le U] at n o|-;have h:fx d a:=⟨p,n,o⟩;refine ac.al.2 (.inl ⟨?_,h⟩);have:aR a (λb=>if(b:Int)∈d then(eP d b:Int) else 0)=aR a (λb=>(eP d b:Int)):=fm λb v=>if_pos (h.mem v);rw[this]
  rintro r (⟨rfl,e⟩|⟨rfl,e⟩)
  ·refine ac.al.2 ?_;rw[ak e]
  refine ac.al.2 ?_;rw[ag e]
 rw[bT (by rw[dN,az (show¬(aw d=(a:Int)) by rw[a5];omega)];rfl),ag (λe=>p e.1)]
def mj (a b:Nat) (d c e f:cQ):Int:=open Classical in if gg a b d c e≠0 then gg a b d c e else if a≠b then 5 else if fx f a then 0 else 90
def SB (b:mj a c h d q g=0):gg a c h d q=0/\a=c/\fx g a:=by
 unfold mj at b;split at b
 ·contradiction
 rename_i e;split at b
 ·cases b
 rename_i f;split at b
 ·rename_i i;exact⟨Classical.not_not.1 e,Classical.not_not.1 f,i⟩
 cases b
def Jr (j:h2 a c h d q) (k:g.length<=1000000) (b:mj a c h d q g≠0):qG (((a:Int),(c:Int),h,d,q,()),g,())=some (none,mj a c h d q g,()):=by
 classical
 unfold qG;unfold mj at b|-;refine aq j.check ?_;dsimp only;have l:=j.hr;by_cases e:gg a c h d q=0
 ·rw[ag (not_not_intro e)] at b|-;rw[bR (by rw[e];rfl)];by_cases i:a=c
  ·subst i;rw[ag (not_not_intro rfl)] at b|-;rw[bR (by rw[dN,aB rfl];rfl)];refine aq (Hn U k) ?_;by_cases f:fx g a
   ·exact absurd (ak f) b
   rw[ag f,ag f];rfl
  rw[ak i,bT (by rw[dN,az (U:¬((a:Int)=(c:Int)))];rfl)]
 rw[ak e,bT (by rw[dN,az e];rfl)]
def jy (a:Nat) (E:List bp) (b:cQ):cF:=h9 (pn (ia a (hD E)) b)
def MN (a:Nat) (b:Nat->Nat->Bool):∀d∈ia a b,d.length<=a:=by intro d c;unfold ia aR at c;obtain⟨e,_,rfl⟩:=b0.1 c;rw[sT];have:=jk (b e) (List.range a);simpa using this
def yr (a:Nat) (b:Nat->Nat->Bool):(ia a b).length=a:=dP _ _
def MM (c:Nat) (E:List bp):ia c (hD E)=h9 (gT c (rp E)):=by rw[ME];have:(λa b=>a !=b&&(rp E a b||rp E b a))=hD E:=(by funext a b;exact Np a b);rw[this]
def Q4 (e:a<=5) {E:List bp} (b:fx d a):od (ia a (hD E)) d=0:=by unfold od;have c:jr (ia a (hD E))=0:=Ab.2 ⟨by rw[yr];omega,by rw[MM];exact E2 _⟩;rw[ag (not_not_intro c),ag (not_not_intro (by rw[yr];exact b.1)),yr,ak b]
def Jw (e:a<=5) {E:List bp} (b:fx d a):uq ((ia a (hD E),()),d,())=some ((jy a E d,()),0,()):=by rw[Jv (λf c=>by have:=MN a _ f c;omega) d (λ_ _=>by rw[yr];omega) (by rw[b.1];omega),ak (Q4 e b)];rfl
def Fe {E:List bp} (b:fx d a):(jy a E d).length=a:=by unfold jy;rw[MC,Ba,b.1]
def MV (a:Nat) (E:List bp) (b:cQ):fk (jy a E b):=E2 _
def MU (f:a<=5) {E:List bp} (e:fx d a):∀b∈jy a E d,b.length<4611686018427387904:=λb c=>by have:=MD _ b c;rw[Ba,e.1] at this;omega
def Jm (s:a<=5) (q:h2 a a g d h) (k:gg a a g d h=0):um (yJ a a (fW (bO g d h a)),())=some ((ia a (hD (fW (bO g d h a))),()),0,()):=by have b:=(k4.1 k).1;have m:=(k4.1 k).2;have f:=uV b a (aZ _);have i:=yb b;have t:=FP s (yF f) (yE i) FO;have n:=sq b q.hw;have o:=sq b (Mu m);have l:=yF f;have j:=yE i;have r:=Su (me:=a) (i9:=a) (E:=fW (bO g d h a)) U U U (λe c=>n e (gu.1 c).1);have p:=KN l j (λe c=>o e (gu.1 c).1);have:=Jk r p;rw[LK l j] at this;exact this
def sp:bX:=(false,((false,([],())),((0:Int),())))
def Lu:sp=bf (some 0):=by rw[hB];rfl
def pF:bq 0=some 0:=by decide
def vg {k:Type}:∀(j:List (Int×k)) (c:Int) (e:k) (b:Int),dJ (gk j c e) b=if b=c then some e else dJ j b
 |[],c,e,b=>by
  show(if c=b then some e else none)=_;by_cases d:b=c
  ·rw[ak d,ak d.symm]
  rw[ag d,ag (λf=>d f.symm)];rfl
 |(a,u)::r,c,e,b=>by
  unfold gk;by_cases h:c<a
  ·rw[ak h];show(if c=b then some e else dJ ((a,u)::r) b)=_;by_cases d:b=c
   ·rw[ak d,ak d.symm]
   rw[ag d,ag (λf=>d f.symm)]
  rw[ag h];by_cases i:c=a
  ·rw[ak i];show(if c=b then some e else dJ r b)=_;by_cases d:b=c
   ·rw[ak d,ak d.symm]
   rw[ag d,ag (λf=>d f.symm)];show _=(if a=b then some u else dJ r b);rw[ag U]
  rw[ag i];show(if a=b then some u else dJ (gk r c e) b)=_;rw[vg r c e b];show _=if b=c then some e else(if a=b then some u else dJ r b)
  by_cases g:a=b
  ·rw[ak g,ag U,ak g]
  rw[ag g,ag g]
abbrev gv:=Option (List (Int×bX)×Nat)
variable{p:List gv}
def ij (a b:Int):Int:=if b>a then b else a
def ik (a b:Int):Int:=if b<a then b else a
def bc (E:List bp) (a:cQ) (b c:Nat):cK:=bq (kc E (ij (a.getD b 0) (a.getD c 0)) (ik (a.getD b 0) (a.getD c 0)))
def LM (E:List bp) (a:cQ) (b c:Nat):bc E a b c=bc E a c b:=by unfold bc;rw[show ij (a.getD b 0) (a.getD c 0)=ij (a.getD c 0) (a.getD b 0) by unfold ij;split<;>split<;>omega,show ik (a.getD b 0) (a.getD c 0)=ik (a.getD c 0) (a.getD b 0) by unfold ik;split<;>split<;>omega]
structure hK (n:Nat) (o:cQ) (D:List bp) (M:List gv):Prop where
 len:M.length=n
 get:∀p,p<n->∃l c,M[p]?=some (some (l,c))/\∀q,q<n->p<=q->(dJ l (q:Int)).getD sp=bf (bc D o p q)
def hK.nil:hK a d [] (aR a λ_=>some ([],0)) where
 len:=dP _ _
 get:=λc b=>⟨[],0,su b,λe _ _=>by
  show sp=bf (bq 0);rw[pF,Lu]⟩
def Hl (e:fx d c) (f:a<c):d.getD a 0=(iR d a:Int)/\iR d a<c:=by have b:a<d.length:=(by rw[e.1];exact f);have:=e.2.1 d[a] (dm b);unfold iR;rw[ie b];omega
def Rf {i:Nat} (f:fx d i) {b:Nat} (r:b<i) (q:a<i) (u:a<=b) (l:c<i) (m:j<i) (v:c<=j):(ik (eP d b:Int) (eP d a:Int)=(c:Int)/\ij (eP d b:Int) (eP d a:Int)=(j:Int))↔(b:Int)=ij (d.getD c 0) (d.getD j 0)/\(a:Int)=ik (d.getD c 0) (d.getD j 0):=by
 obtain⟨s,w⟩:=Hl f l;obtain⟨ao,x⟩:=Hl f m;obtain⟨y,p⟩:=f.pos r;obtain⟨t,k⟩:=f.pos q;have n:=f.Ho l;have o:=f.Ho m;rw[s,ao];constructor
 ·rintro⟨g,h⟩;have:(eP d b=c/\eP d a=j)\/(eP d b=j/\eP d a=c):=by
   unfold ik at g;unfold ij at h;split at g<;>split at h<;>omega
  rcases this with⟨aj,e⟩|⟨aj,e⟩
  ·rw[aj] at p;rw[e] at k;unfold ij ik;split<;>split<;>omega
  rw[aj] at p;rw[e] at k;unfold ij ik;split<;>split<;>omega
 rintro⟨g,h⟩;have:(b=iR d c/\a=iR d j)\/(b=iR d j/\a=iR d c):=(by unfold ik at h;unfold ij at g;split at g<;>split at h<;>omega);rcases this with⟨aj,e⟩|⟨aj,e⟩
 ·rw[aj,e,n,o];unfold ij ik;split<;>split<;>omega
 rw[aj,e,n,o];unfold ij ik;split<;>split<;>omega
def hK.skip (b:hK a d r p) (l:(r++[s]).Pairwise fv) (q:s.1<s.2.1):hK a d (r++[s]) p where
 len:=b.len
 get:=λn i=>by obtain⟨m,f,g,h⟩:=b.get n i;refine⟨m,f,g,λo k j=>?_⟩;rw[h o k j];unfold bc;rw[IU l,ag];rintro⟨c,e⟩;unfold ij at c;unfold ik at e;split at c<;>split at e<;>omega
def hK.add {l:Nat} (D:fx d l) (f:hK l d r p) {m:Nat} (F:(r++[((j:Int),(a:Int),b,())]).Pairwise fv) (E:j<l) (y:a<l) (z:a<=j) (B:(c:Int)=ik (eP d j:Int) (eP d a:Int)) (A:(m:Int)=ij (eP d j:Int) (eP d a:Int)) {G H:Nat} (v:p[c]?=some (some (u,G))):hK l d (r++[((j:Int),(a:Int),b,())]) (p.set c (some (gk u (m:Int) (bf (bq b)),H))) where
 len:=by rw[List.length_set,f.len]
 get:=λg q=>by
  have C:c<p.length:=(ej.1 v).1;have w:∀e,e<l->g<=e->bf (bc (r++[((j:Int),(a:Int),b,())]) d g e)=if c=g/\m=e then bf (bq b) else bf (bc r d g e):=by
   intro e k i;have:=Rf D E y z q k i;unfold bc;rw[IU F];rw[<-B,<-A] at this;by_cases h:c=g/\m=e
   ·rw[ak h,ak (this.1 ⟨U,U⟩)]
   rw[ag h,ag (λf=>h (by have:=this.2 f;omega))]
  by_cases h:g=c
  ·subst h;refine⟨_,_,jT C,λe k i=>?_⟩;rw[vg,w e k i];by_cases t:m=e
   ·subst t;rw[ak rfl,ak ⟨rfl,rfl⟩];rfl
   rw[ag U,ag (λf=>t f.2)];obtain⟨x,s,n,o⟩:=f.get g q;rw[v] at n;cases n;exact o e k i
  obtain⟨x,s,n,o⟩:=f.get g q;refine⟨x,s,?_,λe k i=>?_⟩
  ·rw[ki (λf=>h f.symm),n]
  rw[w e k i,ag (λf=>h f.1.symm),o e k i]
def Js (B:a<=5) (r:h2 a a h g d) (x:gg a a h g d=0) (s:fx q a):∃b,hK a q (bO h g d a) b/\qG (((a:Int),(a:Int),h,g,d,()),q,())=some (some ((a:Int),(jy a (fW (bO h g d a)) q,()),b,()),0,()):=by
 have j:=(k4.1 x).1;have ad:=uV j a (aZ _);have an:=yb j;have a4:=s.1;have ap:=sq j r.hw;suffices p:ac (qG (((a:Int),(a:Int),h,g,d,()),q,())) λf=>∃b,hK a q (bO h g d a) b/\f=(some ((a:Int),(jy a (fW (bO h g d a)) q,()),b,()),0,()) by obtain⟨f,O,b,Q,rfl⟩:=p;exact⟨b,Q,O⟩
 unfold qG;refine ac.bs r.check ?_;dsimp only;rw[bR (by rw[x];rfl),bR (by rw[dN,aB rfl];rfl)];refine ac.bs (Hn U U) ?_;rw[if_pos s];dsimp only;rw[Bool.not_true,cond_false];refine ac.bs (Jq B r x) (ac.bs (Jm B r x) (ac.bs (Jw B s) ?_));dsimp only;generalize am:jy a (fW (bO h g d a)) q=o;refine ac.bs (iN U) ?_;generalize T:(((a:Int),(a:Int),h,g,d,()):bQ)=N;refine ac.a1 (P:=λf=>f=(N,((a:Int),(o,()),aR a (λ_=>(some ([],0):gv)),()),())) ?_ ?_
 ·refine ac.steps a (λn t=>t=((n:Int),N,((a:Int),(o,()),aR a (λk=>if k<n then(some ([],0):gv) else none),()),())) ?_ ?_ ?_
  ·rw[nU];rfl
  ·rintro n _ S rfl;dsimp only;rw[bT (aB (show(n:Int)<aw (List.replicate a (none:gv)) by rw[a5,List.length_replicate];omega)),bA U];refine ac.bs (gR (by rw[dP];omega)) ?_;rw[iD S,jw];refine ac.al.2 ?_;have:aR a (e0 (λk=>if k<n then(some ([],0):gv) else none) n (some ([],0)))=aR a (λk=>if k<n+1 then(some ([],0):gv) else none):=by
    refine fm λk D=>?_;by_cases v:k=n
    ·subst v;rw[mq,ak U]
    rw[mn _ _ v];by_cases F:k<n
    ·rw[ak F,ak U]
    rw[ag F,ag U]
   dsimp only[Option.map_some];rw[this]
  rintro _ rfl;dsimp only;rw[bR (az (show¬((a:Int)<aw (List.replicate a (none:gv))) by rw[a5,List.length_replicate];omega))];have:aR a (λk=>if k<a then(some ([],0):gv) else none)=aR a (λ_=>(some ([],0):gv)):=fm λk D=>if_pos D;rw[this];exact ac.al.2 rfl
 rintro _ rfl;dsimp only;refine ac.a1 (P:=λf=>∃b,hK a q (bO h g d a) b/\f=(((a:Int),(o,()),b,()),())) ?_ (by rintro _ ⟨b,p,rfl⟩;exact ac.al.2 ⟨b,p,rfl⟩);subst T;refine ac.steps a (λc t=>∃b,hK a q (bO h g d c) b/\t=((c:Int),((a:Int),(a:Int),h,g,d,()),((a:Int),(o,()),b,()),())) ⟨_,hK.nil,rfl⟩ ?_ ?_
 ·rintro c _ w ⟨b,l,rfl⟩;have z:=j.len;obtain⟨e,J⟩:=Int.eq_ofNat_of_zero_le (j.pos c U);obtain⟨m,A⟩:=Int.eq_ofNat_of_zero_le (j.pos (c+1) U);have a0:m<=g.length:=(by have:=j.pt (c+1) U;omega);have a3:e<=m:=(by have:=j.mono c w;omega);have D:=j.val;have av:=r.hi;dsimp only;rw[bT (aB (U:(c:Int)<(a:Int))),bA U];refine ac.bs (y:=(e:Int)) (by rw[eX U,J]) ?_;have K:bO h g d (c+1)=bO h g d c++fE g d (c:Int) e (m-e):=by
   rw[bO,J,A];rfl
  have W:(bO h g d (c+1)).Pairwise fv:=uV j (c+1) U;refine ac.a1 (P:=λf=>∃b,hK a q (bO h g d (c+1)) b/\f=(((a:Int),(a:Int),h,g,d,()),((a:Int),(o,()),b,()),())) ?_ (by rintro _ ⟨b,p,rfl⟩;exact ac.al.2 ⟨b,p,rfl⟩);refine ac.steps (m-e) (λi t=>∃b,hK a q (bO h g d c++fE g d (c:Int) e i) b/\t=(((e+i:Nat):Int),((a:Int),(a:Int),h,g,d,()),((a:Int),(o,()),b,()),())) ⟨b,by simpa[fE] using l,rfl⟩ ?_ ?_
  ·rintro i _ bl ⟨b,l,rfl⟩;dsimp only;refine ac.bs (y:=(m:Int)) (by rw[eX U,A]) ?_;rw[bT (aB (U:((e+i:Nat):Int)<(m:Int)))];have V:=j.rng c (e+i) w U U;obtain⟨f,C⟩:=Int.eq_ofNat_of_zero_le V.1;have M:(bO h g d c++fE g d (c:Int) e i++[((f:Int),(c:Int),d.getD (e+i) 0,())]).Pairwise fv:=by
    refine List.Pairwise.sublist ?_ W;rw[K,oG];refine List.Sublist.append (List.Sublist.refl _) ?_;have:fE g d (c:Int) e i++[((f:Int),(c:Int),d.getD (e+i) 0,())]=fE g d (c:Int) e (i+1):=(by rw[fE,C]);rw[this,AD,AD,<-Mr (m-e) (i+1) _ U];exact List.take_sublist _ _
   have R:bO h g d c++fE g d (c:Int) e (i+1)=bO h g d c++fE g d (c:Int) e i++[((f:Int),(c:Int),d.getD (e+i) 0,())]:=(by rw[oG,fE,C]);rw[R];refine ac.a1 (P:=λZ=>∃b,hK a q (bO h g d c++fE g d (c:Int) e i++[((f:Int),(c:Int),d.getD (e+i) 0,())]) b/\Z=(((a:Int),(a:Int),h,g,d,()),((a:Int),(o,()),b,()),())) ?_ ?_
   ·refine ac.bs (y:=(f:Int)) (by rw[eX U,C]) ?_;rw[bo];refine ac.ite (λv=>?_) (λv=>?_)
    ·have L:f<a:=U;refine ac.bs (by rw[dc (by rw[dP];omega),jv]) (ac.bs (by rw[dc (by rw[dP];omega),jv]) ?_);obtain⟨u,G,H⟩:∃u:Nat,(u:Int)=ik (eP q f:Int) (eP q c:Int)/\u<a:=by
      have:=(s.pos L).1;have:=(s.pos w).1;unfold ik;split
      ·exact⟨_,rfl,U⟩
      exact⟨_,rfl,U⟩
     obtain⟨E,I⟩:∃E:Nat,(E:Int)=ij (eP q f:Int) (eP q c:Int):=by
      unfold ij;split
      ·exact⟨_,rfl⟩
      exact⟨_,rfl⟩
     change ac ((bG b.length (ik (eP q f:Int) (eP q c:Int))).bind _) _;rw[<-G];refine ac.bs (gR (by rw[l.len];exact H)) ?_;refine ac.bs (eX U) ?_;refine ac.bs (yQ (r.hw _ (by rw[ie U];exact List.getElem_mem _))) ?_;dsimp only;obtain⟨Y,X,z,_⟩:=l.get u H;refine ac.bs (nI z) ?_;change ac ((n6 (some (Y,X)) (ij (eP q f:Int) (eP q c:Int)) _).bind _) _;rw[<-I];refine ac.bs rfl ?_;rw[nI z];exact ac.al.2 ⟨_,l.add s M L w U G I z,rfl⟩
    exact ac.al.2 ⟨b,l.skip M (by dsimp only;omega),rfl⟩
   rintro _ ⟨b,p,rfl⟩;dsimp only;rw[bA U];exact ac.al.2 ⟨b,p,rfl⟩
  rintro _ ⟨b,l,rfl⟩;dsimp only;refine ac.bs (y:=(m:Int)) (by rw[eX U,A]) ?_;rw[bR (az (U:¬((e+(m-e):Nat):Int)<(m:Int)))];exact ac.al.2 ⟨b,by rw[K];exact l,rfl⟩
 rintro _ ⟨b,l,rfl⟩;dsimp only;rw[bR (az (U:¬((a:Int)<(a:Int))))];exact ac.al.2 ⟨b,l,rfl⟩
def R9 {E:List bp} (m:hK j d E p) (f:a<j) (l:c<j):xZ (some ((j:Int),(i,()),p,()),(a:Int),(c:Int),())=some (bf (bc E d a c),()):=by
 unfold xZ;dsimp only;rw[Option.bind_some];have g:∀b e:Nat,b<j->e<j->b<=e->((aQ p (b:Int)).bind λt=>some (((hE (α:=bX) t (e:Int)).getD (false,((false,([],())),((0:Int),())))),()))=some (bf (bc E d b e),()):=(by intro b e q s r;obtain⟨v,u,n,o⟩:=m.get b q;refine aq (mX n) ?_;have:=o e s r;rw[<-this];rfl);by_cases h:(c:Int)<(a:Int)
 ·rw[ak h,ag U,LM];exact g c a l f U
 rw[ag h];by_cases k:(c:Int)>(a:Int)
 ·rw[ak k];exact g a c f l U
 rw[ag k];obtain rfl:a=c:=U;exact g a a f f (aZ _)
def yP (c:aW b≠2047):∃e,bq b=some e:=by
 have aj:=ss b;have g:=pe b;unfold bq;rw[ag c];unfold eg;generalize a:(if b<9223372036854775808 then if aW b=0 then db b else db b+4503599627370496 else-(if aW b=0 then db b else db b+4503599627370496))=d;have f:ar d.natAbs<=53:=bN.2 (by
  have:(2:Nat)^53=9007199254740992:=aa;rw[this];split at a<;>split at a<;>omega)
 split
 ·exact⟨_,rfl⟩
 rw[ag (by split<;>omega)];exact⟨_,rfl⟩
def Oz:kH (some 0) (some b)=some 0:=by show eg (aL 0*aL b) _=some 0;rw[vp,iX];rfl
def OA:kH (some b) (some 0)=some 0:=by show eg (aL b*aL 0) _=some 0;rw[vp,Int.mul_zero];rfl
def lm (a:Nat->Nat->Int) (c d b:Nat):cK:=sV (kH (bq (a b c)) (bq (a b d)))
def gZ (c:Nat->Nat->cK) (d:Nat->Nat->Int) (a b:Nat):cK:=fc (c b a::(List.range a).map (lm d b a))
def kz (b:Nat->Nat->cK) (e:Nat->Nat->Bool) (d:Nat->Nat->Int) (a c:Nat):Int:=
 if c=a then m7 (gZ b d a a) 0 else if e a c=true then m5 (gZ b d a c) (bq (m7 (gZ b d a a) 0)) 0 else 0
def sK (a:Nat->Nat->cK) (b:Nat->Nat->Bool):Nat->Nat->Nat->Int
 |0=>λ_ _=>0
 |j+1=>λd c=>if d=j then kz a b (sK a b j) j c else sK a b j d c
def bb (b:Nat->Nat->cK) (d:Nat->Nat->Bool) (a c:Nat):Int:=sK b d (a+1) a c
def Bu {b:Nat->Nat->cK} {f:Nat->Nat->Bool} {a e:Nat}:∀{j},a<j->sK b f j a e=bb b f a e
 |0,d=>absurd d U
 |j+1,d=>by
  by_cases c:a=j
  ·subst c;rfl
  rw[<-Bu (j:=j) U];show(if a=j then _ else _)=_;rw[ag c]
def H6 {f l':Nat->Nat->Int} {i:Nat} (d:∀b,b<a->∀i,f b i=l' b i):gZ e f a i=gZ e l' a i:=by unfold gZ;congr 2;refine hu λb c=>?_;have c:=hg.1 c;unfold lm;rw[d b c,d b c]
def m1 (a:Nat->Nat->cK) (c:Nat->Nat->Bool) (b d:Nat):bb a c b d=kz a c (bb a c) b d:=by show(if b=b then kz a c (sK a c b) b d else sK a c b b d)=_;rw[ak rfl];unfold kz;rw[H6 (l':=bb a c) (λf e d=>Bu e),H6 (i:=d) (l':=bb a c) (λf e d=>Bu e)]
def m0 (a:Nat->Nat->cK) (d:Nat->Nat->Bool) (c b:Nat):dr (bb a d c b):=by
 rw[m1];unfold kz;split
 ·exact RL 0
 split
 ·exact Rk 0
 exact⟨aa,aa⟩
def yG (b:m c a=false) (d:a≠c):bb e m c a=0:=by rw[m1];unfold kz;rw[ag d,ag (by rw[b];decide)]
def Im {g:Type} {c:g->cK} {e:g->Bool}:∀{L:List g},(∀m∈L,e m=false->c m=some 0)->dt ((L.filter e).map c)=dt (L.map c)/\e8 ((L.filter e).map c)=e8 (L.map c)
 |[],_=>⟨rfl,rfl⟩
 |m::L,h=>by
  obtain⟨i,j⟩:=Im (L:=L) λl k=>h l (by simp[k]);by_cases f:e m=true
  ·rw[wd f,eG,eG];have aj:∀a b,dt (a::b)=dt [a]+dt b:=λa b=>vQ [a] b;have d:∀a b,e8 (a::b)=(e8 [a]&&e8 b):=λa b=>wA [a] b;rw[aj,aj _ (L.map c),d,d _ (L.map c),i,j];exact⟨rfl,rfl⟩
  rw[tE f,eG,h m ab (by simpa using f)];have aj:∀a b,dt (a::b)=dt [a]+dt b:=λa b=>vQ [a] b;have d:∀a b,e8 (a::b)=(e8 [a]&&e8 b):=λa b=>wA [a] b;rw[aj,d,i,j];refine⟨?_,?_⟩
  ·show _=(0:Int)+0+_;omega
  show _=(true&&true&&_);simp
def In {c:n->cK} {f:n->Bool} {b:List n} (g:∀e∈b,f e=false->c e=some 0):fc (k::(b.filter f).map c)=fc (k::b.map c):=by obtain⟨h,i⟩:=Im g;have aj:∀k a,dt (k::a)=dt [k]+dt a:=λk a=>vQ [k] a;have d:∀k a,e8 (k::a)=(e8 [k]&&e8 a):=λk a=>wA [k] a;unfold fc;rw[aj,aj _ (b.map c),d,d _ (b.map c),h,i]
def aX (a:cF) (c b:Nat):Bool:=decide ((b:Int)∈bE a c)
def Cf:aX i c a=true↔a<i.length/\ix i c a:=by unfold aX;rw[decide_eq_true_eq,Bz]
def Hs (b:a<i.length):aX i a a=true:=Cf.2 ⟨b,.inl rfl⟩
def r3 {G:cF} {j:Nat} {x:Int} (b:x∈bE G j):∃a:Nat,x=(a:Int)/\a<G.length/\j<=a/\aX G j a=true:=by have d:=b;unfold bE i7 at b;obtain⟨a,e,rfl⟩:=b0.1 b;have c:=Bz.1 d;exact⟨a,rfl,c.1,c.2.le,Cf.2 c⟩
def K2 {G:cF} {j:Nat} (i:j<G.length):∃b,bE G j=(j:Int)::b/\∀g∈b,(j:Int)<g:=by
 have a:(j:Int)∈bE G j:=Bz.2 ⟨i,.inl rfl⟩;have f:=Ej G j;cases d:bE G j with
 |nil=>rw[d] at a;cases a
 |cons h b=>
  rw[d] at a f;obtain⟨e,k⟩:=oK.1 f;rcases dw.1 a with c|c
  ·subst c;exact⟨b,rfl,e⟩
  have:=e _ c;obtain⟨m,rfl,_,l,_⟩:=r3 (G:=G) (j:=j) (x:=h) (by rw[d];simp);omega
def wJ {G:cF} (a:Nat):(bE G a).length<=G.length:=Ei _ _ _
def fH (b:cF) (d a:Nat):cQ:=fG ((List.range (min d a)).filter λc=>aX b c a)
def Kp (D:a<=5) (t:i.length=a) (u:fk i) (v:∀z∈i,z.length<4611686018427387904) (s:List gv):wM (some ((a:Int),(i,()),s,()),())=some ((aR a (bE i),(aR a λ_=>[]),(aR a λ_=>none),(aR a λb=>fH i a b),()),()):=by
 unfold wM;dsimp only;rw[Option.bind_some];refine aq (Jc u v U) ?_;rw[t];refine aq rfl (aq (iN U) (aq rfl (aq (iN U) (aq rfl (aq (iN U) ?_)))));refine ac.eq_iff.1 ?_;dsimp only;have w:(List.range a).map (bE i)=aR a (bE i):=rfl;rw[w];refine ac.a1 (P:=λj=>j=((aR a (bE i),(aR a λ_=>[]),(aR a λ_=>none),(aR a λb=>fH i a b),()),())) ?_ (by rintro _ rfl;exact ac.al.2 rfl);refine ac.steps a (λc d=>d=((c:Int),(aR a (bE i),(aR a λ_=>[]),(aR a λ_=>none),(aR a λb=>fH i c b),()),())) ?_ ?_ ?_
 ·rw[nU,nU];have:(aR a λ_=>([]:cQ))=aR a λb=>fH i 0 b:=fm λb _=>by
   unfold fH;rw[Nat.zero_min];rfl
  rw[<-this];rfl
 ·rintro c _ F rfl;dsimp only;rw[bT (aB (show(c:Int)<aw (aR a (bE i)) by rw[a5,dP];omega)),bA U];refine ac.bs (by rw[dc (by rw[dP];omega),jv]) ?_;have C:=wJ (G:=i) c;have x:∀c b,(fH i c b).length<=b:=λc b=>by
   unfold fH;rw[sT];refine bj (jk _ _) ?_;rw[List.length_range];omega
  refine ac.a1 (P:=λj=>j=((aR a (bE i),(aR a λ_=>[]),(aR a λ_=>none),(aR a λb=>fH i (c+1) b),()),())) ?_ (by rintro _ rfl;exact ac.al.2 rfl);refine ac.steps (bE i c).length (λd A=>A=((d:Int),(aR a (bE i),(aR a λ_=>[]),(aR a λ_=>none),(aR a λb=>fH i c b++if(b:Int)∈(bE i c).take d/\c<b then[(c:Int)] else[]),()),())) ?_ ?_ ?_
  ·have:(aR a λb=>fH i c b)=aR a λb=>fH i c b++if(b:Int)∈(bE i c).take 0/\c<b then[(c:Int)] else[]:=fm λb _=>by simp
   rw[<-this];rfl
  ·rintro d _ n rfl;dsimp only;rw[bT (aB (show(d:Int)<aw (bE i c) by rw[a5];omega)),bA U];obtain⟨g,r,J,H,E⟩:=r3 (List.getElem_mem n);have q:(bE i c).take (d+1)=(bE i c).take d++[(g:Int)]:=(by rw[List.take_add_one,List.getElem?_eq_getElem n,r];rfl);have o:(g:Int)∉(bE i c).take d:=λe=>by
    obtain⟨B,I,h⟩:=List.mem_take_iff_getElem.1 e;have:=hx.1 (Ej i c) B d U n U;omega
   refine ac.a1 (P:=λj=>j=((aR a (bE i),(aR a λ_=>[]),(aR a λ_=>none),(aR a λb=>fH i c b++if(b:Int)∈(bE i c).take (d+1)/\c<b then[(c:Int)] else[]),()),())) ?_ (by rintro _ rfl;exact ac.al.2 rfl);refine ac.bs (y:=(g:Int)) (by rw[dc n,r]) ?_;have p:∀b:Nat,b≠g->((b:Int)∈(bE i c).take (d+1)↔(b:Int)∈(bE i c).take d):=λb m=>(by rw[q,eR,fe];exact⟨λe=>e.resolve_right λe=>m U,.inl⟩);rw[bo];refine ac.ite (λk=>?_) (λk=>?_)
   ·refine ac.bs (gR (by rw[dP];omega)) ?_;rw[iD U,aP,ag (λe=>o e.1),p1];have:=x c g;rw[eE (by simp;omega),aP];refine ac.bs (gR (by rw[dP];omega)) ?_;rw[bT ab];rw[iD U,aP,ag (λe=>o e.1),p1,iD U,jw];refine ac.al.2 ?_;have:aR a (e0 (λb=>fH i c b++if(b:Int)∈(bE i c).take d/\c<b then[(c:Int)] else[]) g (fH i c g++[(c:Int)]))=aR a λb=>fH i c b++if(b:Int)∈(bE i c).take (d+1)/\c<b then[(c:Int)] else[]:=by
     refine fm λb m=>?_;by_cases h:b=g
     ·subst h;rw[mq,ak ⟨by rw[q];simp,U⟩]
     rw[mn _ _ h];have:=p b h;by_cases f:(b:Int)∈(bE i c).take d/\c<b
     ·rw[ak f,ak ⟨this.2 f.1,f.2⟩]
     rw[ag f,ag λe=>f ⟨this.1 e.1,e.2⟩]
    rw[<-this]
   refine ac.al.2 ?_;have:(aR a λb=>fH i c b++if(b:Int)∈(bE i c).take d/\c<b then[(c:Int)] else[])=aR a λb=>fH i c b++if(b:Int)∈(bE i c).take (d+1)/\c<b then[(c:Int)] else[]:=by
    refine fm λb m=>?_;by_cases h:b=g
    ·subst h;rw[ag U,ag U]
    have:=p b h;by_cases f:(b:Int)∈(bE i c).take d/\c<b
    ·rw[ak f,ak ⟨this.2 f.1,f.2⟩]
    rw[ag f,ag λe=>f ⟨this.1 e.1,e.2⟩]
   rw[<-this]
  rintro _ rfl;dsimp only;rw[bR (az (show¬(((bE i c).length:Nat):Int)<aw (bE i c) by rw[a5];omega)),List.take_of_length_le (Nat.le_refl _)];refine ac.al.2 ?_;have:(aR a λb=>fH i c b++if(b:Int)∈bE i c/\c<b then[(c:Int)] else[])=aR a λb=>fH i (c+1) b:=by
   refine fm λb m=>?_;unfold fH;by_cases k:c<b
   ·rw[ga U,ga U,p6,nx,Gj];congr 1;by_cases l:(b:Int)∈bE i c
    ·rw[ak ⟨l,k⟩,wd (by unfold aX;exact aB l)];rfl
    rw[ag (λe=>l e.1),tE (by unfold aX;simpa using l)];rfl
   rw[Nat.min_eq_right U,Nat.min_eq_right U,ag (λe=>k e.2),p1]
  rw[this]
 rintro _ rfl;dsimp only;rw[bR (az (show¬((a:Int)<aw (aR a (bE i))) by rw[a5,dP];omega))];exact ac.al.2 rfl
def lz (d:Nat->Nat->cK) (b:cF) (e:Nat):Prop:=∀a,a<e->∀c,aX b a c=true->aW (bb d (aX b) a c)≠2047
def lz.of {b:cF} (f:lz e b c) {i:Nat} (g:a<c) (j:a<i):∃h,bq (bb e (aX b) a i)=some h:=by
 by_cases d:aX b a i=true
 ·exact yP (f a g i d)
 rw[yG (by simpa using d) U,pF];exact⟨0,rfl⟩
def Iw {d:cF} (f:lz e d a) {i:Nat} (g:c<a) (m:a<=i) (b:aX d c i=false\/aX d c a=false):lm (bb e (aX d)) i a c=some 0:=by
 unfold lm;obtain⟨k,h⟩:=f.of g (i:=i) U;obtain⟨l,j⟩:=f.of g (i:=a) U;rcases b with b|b
 ·rw[yG b U,pF,j,Oz];rfl
 rw[yG b U,pF,h,OA];rfl
structure jK (A:Nat->Nat->cK) (G:cF) (n j:Nat) (X:List gv):Prop where
 len:X.length=n
 get:∀m,m<j->∃l c,X[m]?=some (some (l,c))/\∀i,i<n->dJ l (i:Int)=if aX G m i=true then some (bf (bq (bb A (aX G) m i))) else none
def SW (c:Nat->Nat->Int) (a b d:Nat):e2 (lm c a b d):=OF (Ge _ _)
def Cz (a:Nat->Nat->cK) (d:Nat->Nat->Int) (c b:Nat):e2 (gZ a d c b):=Io _
def H7 {g:Nat} (T:g<=5) {f:cQ} {E:List bp} {q:List gv} (I:hK g f E q) {e D:cF} {b:Nat} (x:b<g) (v:lz (bc E f) e b) {r:List gv} (J:jK (bc E f) e g b r) (O:cF) (G:cF) {c:Nat} (w:c<g) (z:b<=c):uf (some (G,O,r,(aR g λc=>fH e g c),()),some ((g:Int),(D,()),q,()),(c:Int),(b:Int),())=some (bf (gZ (bc E f) (bb (bc E f) (aX e)) b c),()):=by
 unfold uf;refine aq (R9 I w x) ?_;refine aq rfl ?_;refine aq (by rw[dc (by rw[dP];omega),jv]) ?_;dsimp only;have M:fH e g b=fG ((List.range b).filter λa=>aX e a b):=(by unfold fH;rw[Nat.min_eq_right U]);rw[M];generalize l:(List.range b).filter (λa=>aX e a b)=d;have u:∀a∈d,a<b/\aX e a b=true:=λa i=>(by rw[<-l] at i;exact⟨List.mem_range.1 (List.mem_filter.1 i).1,(List.mem_filter.1 i).2⟩);have S:d.length<=5:=by rw[<-l];refine Nat.le_trans (List.length_filter_le _ _) ?_;rw[List.length_range];omega
 let Q:=bc E f
 let j:=lm (bb (bc E f) (aX e)) c b
 refine ac.eq_iff.1 ?_;refine ac.a1 (P:=λp=>p=(sp,(bc E f c b::(d.filter λa=>aX e a c).map j).map bf,())) ?_ ?_
 ·refine ac.steps d.length (λh N=>N=((h:Int),sp,(bc E f c b::((d.take h).filter λa=>aX e a c).map j).map bf,())) rfl ?_ ?_
  ·rintro h _ n rfl;dsimp only;rw[bT (aB (show(h:Int)<aw (fG d) by rw[a5,sT];omega)),bA U];refine ac.a1 (P:=λp=>p=(sp,(bc E f c b::((d.take (h+1)).filter λa=>aX e a c).map j).map bf,())) ?_ (by rintro _ rfl;exact ac.al.2 rfl);obtain⟨K,L⟩:=u d[h] (List.getElem_mem n);refine ac.bs (y:=((d[h]:Nat):Int)) (by rw[dc (by rw[sT];exact n)];simp[fG]) ?_;rw[It n];generalize d[h]=a at*;obtain⟨C,F,s,t⟩:=J.get a K;refine ac.bs rfl (ac.bs (mX s) ?_);have A:∀B:Nat,hE (α:=bX) (some (C,F)) (B:Int)=dJ C (B:Int):=λ_=>rfl;rw[A c,t c w];by_cases k:aX e a c=true
   ·rw[ak k,ak k,wk,cond_true];refine ac.bs rfl (ac.bs (mX s) ?_);rw[A b,t b x,ak L];refine ac.bs (Lq (l8 _) (l8 _)) (ac.bs (Lr (Ge _ _)) ?_);have:((d.take h).filter λa=>aX e a c).length<=5:=by
     refine bj (jk _ _) ?_;rw[eB];omega
    rw[eE (by simp;omega)];refine ac.al.2 ?_;rw[hf,<-iA,hf];rfl
   rw[ag k,ag k,Option.isSome_none,cond_false,p1];exact ac.al.2 rfl
  rintro _ rfl;dsimp only;rw[bR (az (show¬((d.length:Int)<aw (fG d)) by rw[a5,sT];omega)),List.take_of_length_le (Nat.le_refl _)];exact ac.al.2 rfl
 rintro _ rfl;dsimp only;refine ac.bs (Ls ?_ ?_) (ac.al.2 ?_)
 ·intro R m;rcases dw.1 m with rfl|m
  ·exact l8 _
  obtain⟨a,_,rfl⟩:=b0.1 m;exact SW _ _ _ _
 ·have:=jk (λa=>aX e a c) d;simp only[g2,gN];omega
 have aj:fc (bc E f c b::(d.filter λa=>aX e a c).map j)=fc (bc E f c b::d.map j):=In λa i o=>Iw v (u a i).1 z (.inl o);have H:fc (bc E f c b::d.map j)=fc (bc E f c b::(List.range b).map j):=(by rw[<-l];exact In λa i o=>Iw v (hg.1 i) z (.inr o));rw[aj,H];rfl
def gD (c:Nat->Nat->cK) (a:cF) (b:Nat):cQ:=(bE a b).map λd=>bb c (aX a) b d.toNat
def eJ (b:Nat->Nat->cK) (c:cF) (a:Nat):Int:=open Classical in if om (gZ b (bb b (aX c)) a a)<=0\/iM (bb b (aX c) a a)=0 then 231 else if∀d,aX c a d=true->aW (bb b (aX c) a d)≠2047 then 0 else 233
def kn (d:Nat->Nat->cK) (e:cF) (i b:Nat) (f:cQ) (g:List gv):Prop:=∃c h,g[b]?=some (some (c,h))/\∀a,a<i->dJ c ((a:Nat):Int)=if((a:Nat):Int)∈f then some (bf (bq (bb d (aX e) b a))) else none
def jK.set {b:Nat->Nat->cK} {c:cF} {f a:Nat} {d:List gv} (e:jK b c f a d) (m:gv):jK b c f a (d.set a m) where
 len:=by rw[List.length_set,e.len]
 get:=λl j=>by obtain⟨k,g,h,i⟩:=e.get l j;exact⟨k,g,by rw[ki U,h],i⟩
def jK.next (g:jK e i c a p) (n:kn e i c a (bE i a) p):jK e i c (a+1) p where
 len:=g.len
 get:=λd q=>by
  rcases bi d a with f|f
  ·exact g.get d f
  obtain rfl:d=a:=U;obtain⟨o,j,k,l⟩:=n;refine⟨o,j,k,λh m=>?_⟩;rw[l h m];unfold aX;by_cases b:(h:Int)∈bE i d
  ·rw[ak b,ak (aB b)]
  rw[ag b,ag (by simpa using b)]
def kn.one {b:Nat->Nat->cK} {c:cF} {i a:Nat} {d:List gv} (g:a<d.length) (e:Nat):kn b c i a [(a:Int)] (d.set a (some (gk [] (a:Int) (bf (bq (bb b (aX c) a a))),e))):=by
 refine⟨_,_,jT g,λh j=>?_⟩;rw[vg];by_cases f:h=a
 ·subst f;rw[ak rfl,ak ab]
 rw[ag U,ag (by simp;omega)];rfl
def kn.add (k:p[a]?=some (some (u,j))) (n:kn e i c a d p) (b:Nat) (s:bX) (l:Nat):kn e i c a (d++[(b:Int)]) (p.set a (some (gk (gk u (b:Int) s) (b:Int) (bf (bq (bb e (aX i) a b))),l))):=by
 have r:a<p.length:=(ej.1 k).1;obtain⟨v,t,h,o⟩:=n;rw[k] at h;cases h;refine⟨_,_,jT r,λg q=>?_⟩;rw[vg,vg,o g q];by_cases m:g=b
 ·subst m;rw[ak rfl,ak ab]
 rw[ag U,ag U];by_cases f:(g:Int)∈d
 ·rw[ak f,ak (by simp[f])]
 rw[ag f,ag (by simp[f];omega)]
def K9 (a3:c<=5) {E:List bp} {F:List gv} (Z:hK c d E F) {V:cF} (em:i.length=c) (r:a<c) (an:lz (bc E d) i a) (M:jK (bc E d) i c a p):ac (wN ((aR c (bE i),(aR c λf=>if f<a then gD (bc E d) i f else[]),p,(aR c λb=>fH i c b),()),some ((c:Int),(V,()),F,()),(a:Int),())) λe=>e.2.1=eJ (bc E d) i a/\(eJ (bc E d) i a=0->∃k,jK (bc E d) i c (a+1) k/\e.1=(aR c (bE i),(aR c λf=>if f<a+1 then gD (bc E d) i f else[]),k,(aR c λb=>fH i c b),())):=by
 classical
 unfold wN;refine ac.bs (H7 a3 Z r an M _ _ r (Nat.le_refl _)) ?_;dsimp only;refine ac.bs (lW (Cz _ _ _ _)) ?_;dsimp only;have a4:bb (bc E d) (aX i) a a=m7 (gZ (bc E d) (bb (bc E d) (aX i)) a a) 0:=(by rw[m1];unfold kz;rw[if_pos rfl]);rw[bo];refine ac.ite (λH=>?_) (λH=>?_)
 ·refine ac.al.2 ?_;have n:eJ (bc E d) i a=231:=(by unfold eJ;rw[ak (.inl H)]);exact⟨n.symm,λg=>by rw[n] at g;cases g⟩
 refine ac.bs (MF (Cz _ _ _ _)) ?_;dsimp only;rw[<-a4];have C:=m0 (bc E d) (aX i) a a;refine ac.bs (NB C) ?_;dsimp only;rw[dH,bo];refine ac.ite (λI=>?_) (λI=>?_)
 ·refine ac.al.2 ?_;have n:eJ (bc E d) i a=231:=(by unfold eJ;rw[ak (.inr I)]);exact⟨n.symm,λg=>by rw[n] at g;cases g⟩
 have n:eJ (bc E d) i a=if∀b,aX i a b=true->aW (bb (bc E d) (aX i) a b)≠2047 then 0 else 233:=by unfold eJ;rw[ag (λg=>g.elim H I)]
 have d2:∀b,b≠a->aX i a b=true->bb (bc E d) (aX i) a b=m5 (gZ (bc E d) (bb (bc E d) (aX i)) a b) (bq (bb (bc E d) (aX i) a a)) 0:=λb z A=>(by rw[m1];unfold kz;rw[ag z,ak A,<-a4]);have d0:∀b,e2 (gZ (bc E d) (bb (bc E d) (aX i)) a b):=λb=>Cz _ _ _ _;have d4:=@H7 c a3 d E F Z i V a r an;have av:=m0 (bc E d) (aX i);obtain⟨e,s,d3⟩:=K2 (G:=i) (j:=a) U;have a0:∀h∈e,∃b:Nat,h=(b:Int)/\b<c/\a<b/\aX i a b=true:=λh m=>(by obtain⟨b,rfl,z,A,L⟩:=r3 (G:=i) (j:=a) (x:=h) (by rw[s];simp[m]);exact⟨b,rfl,U,by have:=d3 _ m;omega,L⟩);have O:(∀b,aX i a b=true->aW (bb (bc E d) (aX i) a b)≠2047)↔aW (bb (bc E d) (aX i) a a)≠2047/\∀h∈e,aW (bb (bc E d) (aX i) a h.toNat)≠2047:=by
  constructor
  ·intro g;refine⟨g a (Hs U),λh m=>?_⟩;obtain⟨b,rfl,_,_,L⟩:=a0 h m;exact g b L
  rintro⟨z,A⟩ b ap;have:(b:Int)∈bE i a:=(by unfold aX at ap;exact of_decide_eq_true ap);rw[s] at this;rcases dw.1 this with X|X
  ·obtain rfl:b=a:=U;exact z
  exact A _ X
 have d6:gD (bc E d) i a=bb (bc E d) (aX i) a a::e.map λb=>bb (bc E d) (aX i) a b.toNat:=(by unfold gD;rw[s,List.map_cons,Int.toNat_natCast]);have fa:e.length<=5:=(by have:=wJ (G:=i) a;rw[s,List.length_cons] at this;omega);have ds:kn (bc E d) i c a (bE i a)=kn (bc E d) i c a ((a:Int)::e):=(by rw[s]);refine ac.bs (yQ C) ?_;dsimp only;refine ac.bs rfl ?_;refine ac.bs (gR (by rw[dP];omega)) ?_;rw[iD r,jw];refine ac.bs rfl ?_;dsimp only;have eq:=M.len;refine ac.bs (gR U) ?_;rw[nI (List.getElem?_eq_getElem (U:a<p.length))];refine ac.bs rfl ?_;dsimp only;have N:jK (bc E d) i c a (p.set a (some (gk [] (a:Int) (bf (bq (bb (bc E d) (aX i) a a))),1))):=M.set _;have ad:kn (bc E d) i c a [(a:Int)] (p.set a (some (gk [] (a:Int) (bf (bq (bb (bc E d) (aX i) a a))),1))):=kn.one U 1;change ac ((qt (bb (bc E d) (aX i) a a,())).bind _) _;change jK (bc E d) i c a (p.set a (some (gk [] (a:Int) (bf (bq (bb (bc E d) (aX i) a a))),1))) at N;generalize cv:p.set a (some (gk [] (a:Int) (bf (bq (bb (bc E d) (aX i) a a))),1))=co at N ad;refine ac.bs (Bb C) ?_;dsimp only;rw[Bool.not_not,bo];refine ac.ite (λJ=>?_) (λJ=>?_)
 ·refine ac.al.2 ?_;rw[n,ag (λg=>(O.1 g).1 J)];exact⟨rfl,λg=>by cases g⟩
 refine ac.bs (by rw[dc (by rw[dP];omega),jv]) ?_;have bl:((gW 1).bind λce=>(some ((bE i a).length)).bind λci=>(g9 ce ci (bE i a).length).map λ_=>(ce,ci))=some (1,(bE i a).length):=(by rw[s];show((g9 1 (e.length+1) (e.length+1)).map λ_=>(1,e.length+1))=_;unfold g9;rw[if_pos ⟨U,U⟩];rfl);refine ac.bs bl ?_;dsimp only;have am:((bE i a).take (bE i a).length).drop 1=e:=(by rw[List.take_length,s];rfl);rw[am];clear bl am;refine ac.a1 (P:=λT=>(∃k,jK (bc E d) i c a k/\kn (bc E d) i c a ((a:Int)::e) k/\(∀h∈e,aW (bb (bc E d) (aX i) a h.toNat)≠2047)/\T=.inl ((aR c (bE i),(aR c λf=>if f<a+1 then gD (bc E d) i f else[]),k,(aR c λb=>fH i c b),()),()))\/∃W,T=.inr (W,233,())/\∃h∈e,aW (bb (bc E d) (aX i) a h.toNat)=2047) ?_ ?_
 ·refine ac.steps e.length (λl el=>∃k,jK (bc E d) i c a k/\kn (bc E d) i c a ((a:Int)::e.take l) k/\(∀h∈e.take l,aW (bb (bc E d) (aX i) a h.toNat)≠2047)/\el=((l:Int),(aR c (bE i),aR c (e0 (λf=>if f<a then gD (bc E d) i f else[]) a (bb (bc E d) (aX i) a a::(e.take l).map λb=>bb (bc E d) (aX i) a b.toNat)),k,(aR c λb=>fH i c b),()),())) ?_ ?_ ?_
  ·exact⟨co,N,ad,ab,by rw[<-cv];rfl⟩
  ·rintro l _ B ⟨k,u,t,v,rfl⟩;dsimp only;rw[bT (aB (show(l:Int)<aw e by rw[a5];omega))];obtain⟨o,S,d7,ex,d1⟩:=a0 e[l] (List.getElem_mem B);have R:e.take (l+1)=e.take l++[(o:Int)]:=(by rw[List.take_add_one,List.getElem?_eq_getElem B,S];rfl);refine ac.bs (y:=(o:Int)) (by rw[dc B,S]) ?_;refine ac.bs (d4 u _ _ d7 U) ?_;dsimp only;refine ac.bs (yQ C) ?_;dsimp only;refine ac.bs (MB (d0 o) (l8 _)) ?_;dsimp only;rw[<-d2 o U d1];refine ac.bs (Bb (av a o)) ?_;dsimp only;rw[Bool.not_not,bo];refine ac.ite (λK=>?_) (λK=>?_)
   ·exact ac.al.2 (.inr ⟨_,rfl,(o:Int),by rw[<-S];exact dm B,K⟩)
   obtain⟨d9,cs,w,dl⟩:=t;have Q:a<k.length:=(List.getElem?_eq_some_iff.1 w).1;refine ac.bs (gR Q) (ac.bs (gR (by rw[dP];omega)) ?_);rw[iD r,mq];refine ac.bs rfl ?_;rw[eE (by simp;omega)];refine ac.bs rfl ?_;refine ac.bs (yQ (av a o)) ?_;dsimp only;refine ac.bs (gR (by rw[dP];omega)) ?_;rw[bT ab,iD r,mq];refine ac.bs rfl ?_;rw[iD r,jw];refine ac.bs rfl ?_;dsimp only;refine ac.bs (nI w) ?_;refine ac.bs rfl ?_;rw[nI w];refine ac.bs rfl ?_;dsimp only;rw[bT ab];refine ac.bs (nI (List.getElem?_set_self Q)) ?_;refine ac.bs rfl ?_;rw[nI (List.getElem?_set_self Q)];refine ac.bs rfl ?_;dsimp only;rw[bA U,List.set_set];have aj:aR c (e0 (e0 (λf=>if f<a then gD (bc E d) i f else[]) a (bb (bc E d) (aX i) a a::(e.take l).map λb=>bb (bc E d) (aX i) a b.toNat)) a (bb (bc E d) (aX i) a a::((e.take l).map λb=>bb (bc E d) (aX i) a b.toNat)++[bb (bc E d) (aX i) a o]))=aR c (e0 (λf=>if f<a then gD (bc E d) i f else[]) a (bb (bc E d) (aX i) a a::(e.take (l+1)).map λb=>bb (bc E d) (aX i) a b.toNat)):=by
    refine fm λD d5=>?_;by_cases q:D=a
    ·subst q;rw[mq,mq,R,hf];rfl
    rw[mn _ _ q,mn _ _ q,mn _ _ q]
   rw[aj];refine ac.al.2 ⟨_,u.set _,?_,?_,rfl⟩
   ·rw[R,<-iA];exact kn.add w ⟨d9,cs,w,dl⟩ o _ _
   intro h m;rw[R,eR,fe] at m;rcases m with m|rfl
   ·exact v h m
   exact K
  rintro _ ⟨k,u,t,v,rfl⟩;dsimp only;rw[List.take_of_length_le (Nat.le_refl _)] at t v|-;rw[bR (az (show¬((e.length:Int)<aw e) by rw[a5];omega))];refine ac.al.2 (.inl ⟨k,u,t,v,?_⟩);have aj:aR c (e0 (λf=>if f<a then gD (bc E d) i f else[]) a (bb (bc E d) (aX i) a a::e.map λb=>bb (bc E d) (aX i) a b.toNat))=aR c λf=>if f<a+1 then gD (bc E d) i f else[]:=by
   refine fm λD d5=>?_;by_cases q:D=a
   ·subst q;rw[mq,ak U,d6]
   rw[mn _ _ q];by_cases Y:D<a
   ·rw[ak Y,ak U]
   rw[ag Y,ag U]
  rw[aj]
 rintro T (⟨k,u,t,v,rfl⟩|⟨W,rfl,h,m,d8⟩)
 ·dsimp only;refine ac.al.2 ?_;rw[n,if_pos (O.2 ⟨J,v⟩)];exact⟨rfl,λ_=>⟨k,u.next (by rw[ds];exact t),rfl⟩⟩
 dsimp only;refine ac.al.2 ?_;rw[n,if_neg (λg=>(O.1 g).2 h m d8)];exact⟨rfl,λg=>by cases g⟩
def j2 (a:cF):Nat->cQ
 |0=>[]
 |j+1=>j2 a j++bE a j
def iU (a:Nat->Nat->cK) (b:cF):Nat->cQ
 |0=>[]
 |j+1=>iU a b j++gD a b j
def sv (c:Nat->Nat->cK) (a:cF) (e:cQ) (b:Nat):iZ:=(e,(aR (b+1) (λd=>((j2 a d).length:Int)),(j2 a b,(iU c a b,()))))
def kI:iZ:=(([]:a8),(([]:a8),(([]:a8),(([]:a8),()))))
def q0 (b:Nat->Nat->cK) (c:cF) (e:cQ) (d:Nat):zQ:=match(List.range d).find? λa=>decide (eJ b c a≠0) with
 |some a=>if eJ b c a=231 then(kI,(a:Int),231,()) else(kI,0,eJ b c a,())
 |none=>(sv b c e d,(d:Int),0,())
def Bn {o:cQ} (d:∀b,b<a->eJ e i b=0) (g:a<c) (f:eJ e i a≠0):q0 e i o c=if eJ e i a=231 then(kI,(a:Int),231,()) else(kI,0,eJ e i a,()):=by have:(List.range c).find? (λa=>decide (eJ e i a≠0))=some a:=(by rw[List.find?_eq_some_iff_getElem];refine⟨aB f,a,by simpa using g,ab,λb h=>?_⟩;simp only[List.getElem_range];simpa using d b h);unfold q0;rw[this]
def yA (c:∀b,b<a->eJ e i b=0):q0 e i d a=(sv e i d a,(a:Int),0,()):=by have:(List.range a).find? (λg=>decide (eJ e i g≠0))=none:=(by rw[List.find?_eq_none];intro b f;simpa using c b (hg.1 f));unfold q0;rw[this]
def EI (b:eJ e i a=0):∀c,aX i a c=true->aW (bb e (aX i) a c)≠2047:=by
 unfold eJ at b;split at b
 ·cases b
 split at b
 ·assumption
 cases b
def MT (c:∀b,b<a->eJ e i b=0):lz e i a:=λb d=>EI (c b d)
def A5 (a:cF):∀j,(j2 a j).length<=j*a.length
 |0=>eU _
 |j+1=>by rw[j2,mD,fy,fQ];have:=A5 a j;have:=wJ (G:=a) j;omega
def vV (b:Nat->Nat->cK) (a:cF):∀j,(iU b a j).length=(j2 a j).length
 |0=>rfl
 |j+1=>by rw[j2,iU,mD,mD,vV b a j];unfold gD;rw[gN]
def KX (c:d.length<=100000000):xz (d,())=some (d,()):=by
 unfold xz;have a:((dd (([]:cQ).length+d.length)).bind λ_=>some (([]++d:cQ),()))=some (d,()):=(by rw[eE (by simp;omega)];rfl);show lf d.length (some ([],())) ((dd (([]:cQ).length+d.length)).bind λ_=>some (([]++d:cQ),()))=_;unfold lf;rw[a];split
 ·rename_i b;obtain rfl:=kU b;rw[ak rfl]
 rfl
def Mt (r:a<=5) (p:i.length=a) (s:d.length<=1000000) (c:List gv) (h:cF):wO (some (aR a (bE i),aR a (gD e i),c,h,()),d,())=some (sv e i d a,()):=by
 unfold wO;refine aq (KX U) ?_;refine aq rfl ?_;refine ac.eq_iff.1 ?_;dsimp only;refine ac.a1 (P:=λg=>g=(kI,sv e i d a,())) ?_ (by rintro _ rfl;exact ac.al.2 rfl);refine ac.steps a (λb j=>j=((b:Int),kI,(d,(aR (b+1) (λf=>((j2 i f).length:Int)),(j2 i b,(iU e i b,())))),())) ?_ ?_ ?_
 ·rfl
 ·rintro b _ q rfl;dsimp only;rw[bT (aB (show(b:Int)<aw (aR a (bE i)) by rw[a5,dP];omega)),bA U];refine ac.bs rfl ?_;refine ac.bs (by rw[dc (by rw[dP];omega),jv]) ?_;have k:=A5 i b;have l:=wJ (G:=i) b;have m:=vV e i b;have n:b*i.length<=5*5:=Nat.mul_le_mul U U;have o:(gD e i b).length=(bE i b).length:=(by unfold gD;rw[List.length_map]);rw[eE U];refine ac.bs rfl (ac.bs rfl ?_);refine ac.bs (by rw[dc (by rw[dP];omega),jv]) ?_;rw[eE U];refine ac.bs rfl ?_;rw[eE (by rw[dP];simp;omega)];refine ac.bs rfl (ac.al.2 ?_);rw[uY (b+1)];rfl
 rintro _ rfl;dsimp only;rw[bR (az (show¬((a:Int)<aw (aR a (bE i))) by rw[a5,dP];omega))];exact ac.al.2 rfl
def zG {n:Nat} (i:n<=5) (e:h2 n n h g q) (H:gg n n h g q=0) (p:fx d n):lQ (((n:Int),(n:Int),h,g,q,()),d,())=some (q0 (bc (bO h g q n) d) (jy n (fW (bO h g q n)) d) d n):=by
 obtain⟨z,D,F⟩:=Js i e H p;have r:=Fe (E:=fW (bO h g q n)) p;have C:=MV n (fW (bO h g q n)) d;have B:=MU (E:=fW (bO h g q n)) i p;have L:=p.1;unfold lQ;refine aq F ?_;dsimp only;rw[bR (show((0:Int)!=0)=false from rfl)];generalize jy n (fW (bO h g q n)) d=b at*;generalize bO h g q n=E at*;refine aq (Kp i r C B z) (aq rfl ?_);refine ac.eq_iff.1 ?_;dsimp only;refine ac.a1 (P:=λt=>(t=.inr (q0 (bc E d) b d n))\/(∃c,t=.inl (kI,(aR n (bE b),aR n (gD (bc E d) b),c,(aR n λs=>fH b n s),()),()))/\q0 (bc E d) b d n=(sv (bc E d) b d n,(n:Int),0,())) ?_ ?_
 ·refine ac.steps n (λf I=>(∀a,a<f->eJ (bc E d) b a=0)/\∃c,jK (bc E d) b n f c/\I=((f:Int),kI,(aR n (bE b),(aR n λa=>if a<f then gD (bc E d) b a else[]),c,(aR n λs=>fH b n s),()),())) ?_ ?_ ?_
  ·exact⟨λa e=>absurd e U,aR n (λ_=>none),⟨dP _ _,λa e=>absurd e U⟩,rfl⟩
  ·rintro f _ y ⟨j,c,v,rfl⟩;dsimp only;rw[bT (aB (U:(f:Int)<(n:Int))),bA U];refine ac.a1 (K9 i D r y (MT j) v) ?_;rintro⟨J,K,_⟩ ⟨x,w⟩;dsimp only at x w|-;subst x;rw[dH,bo];refine ac.ite (λk=>?_) (λk=>?_)
   ·obtain⟨A,G,rfl⟩:=w k;refine ac.al.2 ⟨λa e=>?_,A,G,rfl⟩;rcases bi a f with m|m
    ·exact j a m
    obtain rfl:a=f:=U;exact k
   rw[dH,bo];have u:=Bn (o:=d) j y k;refine ac.ite (λl=>?_) (λl=>?_)
   ·refine ac.al.2 (.inl ?_);rw[u,ak l,l];rfl
   refine ac.al.2 (.inl ?_);rw[u,ag l];rfl
  rintro _ ⟨j,c,v,rfl⟩;dsimp only;rw[bR (az (U:¬((n:Int)<(n:Int))))];refine ac.al.2 (.inr ⟨⟨c,?_⟩,yA j⟩);have:(aR n λa=>if a<n then gD (bc E d) b a else[])=aR n (gD (bc E d) b):=fm λa e=>if_pos e;rw[this]
 rintro t (rfl|⟨⟨c,rfl⟩,m⟩)
 ·exact ac.al.2 rfl
 dsimp only;refine ac.bs (Mt i r U c _) ?_;rw[m];exact ac.al.2 rfl
def C8 (e:h2 c a h d q) (f:g.length<=1000000) (b:mj c a h d q g≠0):lQ (((c:Int),(a:Int),h,d,q,()),g,())=some (kI,0,mj c a h d q g,()):=by unfold lQ;refine aq (Jr e f b) ?_;dsimp only;rw[dN,az b];rfl
def tP (b:Nat->Nat->cK) (c:cF) (a:Nat):Prop:=om (gZ b (bb b (aX c)) a a)<=0\/iM (bb b (aX c) a a)=0
def LR (b:tP e i a):eJ e i a=231:=by unfold eJ;exact ak b
def yc (b:¬tP e i a) (d:∀g∈bE i a,aW (bb e (aX i) a g.toNat)≠2047):eJ e i a=0:=by unfold tP at b;unfold eJ;rw[ag b,ak];intro f c;exact d (f:Int) (by unfold aX at c;exact of_decide_eq_true c)
def vq {m:Int} {a k:Nat} (b:m.natAbs=2*a+1):aL (m*2^k)=m/\a6 (m*2^k)=(k:Int)-65536:=by have c:(m*2^k).natAbs=(2*a+1)*2^k:=(by rw[ez,b]);have d:=tj c;unfold aL a6;rw[d];exact⟨Int.mul_ediv_cancel _ (by have:(0:Int)<2^k:=jQ aa;omega),rfl⟩
def Cd (c:b≠0) (a:Nat):b*2^a≠0:=tB c (by have:(0:Int)<2^a:=jQ aa;omega)
def BC {m:Int} {a:Nat} (e:m.natAbs=2*a+1) {t:Nat} (n:b+t+65536=(c:Int)) (k:-65536<=b) (l:b+t+ar m.natAbs<=65536):eg (m*2^t) b=some (m*2^c):=by have j:m≠0:=U;have f:(m*2^t).natAbs=(2*a+1)*2^t:=(by rw[ez,e]);have g:=tj f;have h:ar (m*2^t).natAbs=ar m.natAbs+t:=(by rw[ez,g7 U]);unfold eg;rw[ag (Cd j t),g,h,ag U];obtain⟨d,i⟩:=dX (U:0<=b+65536);rw[i];show some (mg (m*2^t) (d:Int))=_;rw[mh,e1,<-iy,(U:t+d=c)]
def AH {m:Int} {a t k:Nat} (d:b=m*2^t) (c:m.natAbs=2*a+1) (f:(t:Int)+65536=(k:Int)) (e:t+ar m.natAbs<=65536):gS b=some (m*2^k):=by unfold gS;rw[d];exact BC c U aa U
def AL {a:Nat} (e:b.natAbs=2*a+1) (f:0<b) (d:Int):j7 (some (b*2^c)) d=gL false b.natAbs ((c:Int)-65536) false d:=by obtain⟨g,h⟩:=vq (k:=c) e;show kM (b*2^c) d=_;unfold kM;rw[ag (Cd U c),g,h,az];have:(0:Int)<b*2^c:=nu f (jQ aa);omega
def Mi {a:Nat} (d:b.natAbs=2*a+1) (e:0<b):m7 (some (b*2^c)) 0=s8 (hb b.natAbs ((c:Int)-65536)) b.natAbs ((c:Int)-65536) 0:=by obtain⟨f,g⟩:=vq (k:=c) d;have:(0:Int)<b*2^c:=nu e (jQ aa);show(if b*2^c<0 then(9221120237041090560:Int) else if b*2^c=0 then 0 else jc (b*2^c) 0)=_;rw[ag U,ag U];unfold jc;rw[f,g]
def Mh {d:Int} {a b:Nat} (h:f.natAbs=2*a+1) (i:0<f) (e:d.natAbs=2*b+1) (g:0<d):m5 (some (f*2^c)) (some (d*2^j)) 0=s6 (kJ f.natAbs d.natAbs) f.natAbs d.natAbs false ((c:Int)-65536-((j:Int)-65536)) 0:=by obtain⟨l,m⟩:=vq (k:=c) h;obtain⟨n,o⟩:=vq (k:=j) e;have p:(0:Int)<f*2^c:=nu i (jQ aa);have q:(0:Int)<d*2^j:=nu g (jQ aa);show(if d*2^j=0 then(9221120237041090560:Int) else if f*2^c=0 then 0 else j6 (f*2^c) (d*2^j) 0)=_;rw[ag U,ag U];unfold j6;rw[l,m,n,o,az U,az U];rfl
def yg {a t:Nat} (d:f.natAbs=2*a+1) (h:(if b<9223372036854775808 then if aW b=0 then db b else db b+4503599627370496 else-(if aW b=0 then db b else db b+4503599627370496))=f*2^t) (g:aW b≠2047) (i:(if aW b=0 then-1074 else aW b-1075)+(t:Int)+65536=(c:Int)) (e:(if aW b=0 then-1074 else aW b-1075)+(t:Int)+ar f.natAbs<=65536):bq b=some (f*2^c):=by unfold bq;rw[ag g,h];refine BC d i ?_ e;have:=ss b;split<;>omega
def f4:j7 (gS 4) 0=4616189618054758400:=by rw[AH (m:=1) (a:=0) (t:=2) (k:=65538) aa aa aa aa,AL (a:=0) aa aa];decide
def f2:j7 (gS 2) 0=4611686018427387904:=by rw[AH (m:=1) (a:=0) (t:=1) (k:=65537) aa aa aa aa,AL (a:=0) aa aa];decide
def f5:j7 (gS 5) 0=4617315517961601024:=by rw[AH (m:=5) (a:=2) (t:=0) (k:=65536) aa aa aa aa,AL (a:=2) aa aa];decide
def v4:bq 4616189618054758400=some (1*2^65538):=yg (a:=0) (t:=52) aa aa aa aa aa
def dz:bq 4611686018427387904=some (1*2^65537):=yg (a:=0) (t:=52) aa aa aa aa aa
def zw:bq 4617315517961601024=some (5*2^65536):=yg (a:=2) (t:=50) aa aa aa aa aa
def v1:bq 4607182418800017408=some (1*2^65536):=yg (a:=0) (t:=52) aa aa aa aa aa
def aT:m7 (some (1*2^65538)) 0=4611686018427387904:=by rw[Mi (a:=0) aa aa];decide+kernel
def ao:m5 (some (1*2^65537)) (some (1*2^65537)) 0=4607182418800017408:=by rw[Mh (a:=0) (b:=0) aa aa aa aa];decide
def uW:cQ:=[0,1,1]
def uX:cQ:=[0,2,3]
def qO:cQ:=[4616189618054758400,4611686018427387904,4617315517961601024]
def Mk:h2 2 2 uX uW qO where
 hr:=by decide
 hc:=by decide
 hi:=by decide
 hs:=by decide
 hv:=by decide
 hw:=λb a=>by unfold qO at a;simp only[dw,List.not_mem_nil,or_false] at a;rcases a with rfl|rfl|rfl<;>exact⟨aa,aa⟩
def Ml:dG 2 2 uX uW qO where
 len:=rfl
 first:=rfl
 mono:=λb e=>by have:b=0\/b=1:=U;rcases this with rfl|rfl<;>decide
 last:=rfl
 val:=rfl
 rng:=λb a e c d=>by
  have:b=0\/b=1:=U;rcases this with rfl|rfl
  ·change(0:Int)<=a at c;change(a:Int)<2 at d;have:a=0\/a=1:=U;rcases this with rfl|rfl<;>exact⟨aa,aa⟩
  change(2:Int)<=a at c;change(a:Int)<3 at d;have:a=2:=U;subst this;exact⟨aa,aa⟩
 asc:=λb a e c d=>by
  have:b=0\/b=1:=U;rcases this with rfl|rfl
  ·change(0:Int)<a at c;change(a:Int)<2 at d;have:a=1:=U;subst this;decide
  change(2:Int)<a at c;change(a:Int)<3 at d;omega
def L7:gg 2 2 uX uW qO=0:=by refine k4.2 ⟨Ml,λa b=>?_⟩;have:a=0\/a=1\/a=2:=(by have:qO.length=3:=rfl;omega);rcases this with rfl|rfl|rfl<;>decide
def Mf:fx [0,1] 2:=⟨rfl,λb a=>by
 simp only[dw,List.not_mem_nil,or_false] at a;rcases a with rfl|rfl<;>exact⟨aa,aa⟩,aa⟩
def nT:List bp:=[(0,0,4616189618054758400,()),(1,0,4611686018427387904,()),(1,1,4617315517961601024,())]
def Ma:bO uX uW qO 2=nT:=rfl
def eW:cF:=[[1],[0]]
def Mb:jy 2 (fW nT) [0,1]=eW:=by decide
def yf:bE eW 0=[0,1]:=by have a:ix eW 0 0:=.inl rfl;have b:ix eW 0 1:=.inr ⟨aa,.one ⟨aa,aa⟩⟩;unfold bE i7;show((List.filter _ [0,1]).map _)=_;simp[kV,a,b]
def AG:bE eW 1=[1]:=by have a:ix eW 1 1:=.inl rfl;unfold bE i7;show((List.filter _ [0,1]).map _)=_;simp[kV,a]
def L2:bc nT [0,1] 0 0=some (1*2^65538):=v4
def L3:bc nT [0,1] 1 0=some (1*2^65537):=dz
def L4:bc nT [0,1] 1 1=some (5*2^65536):=zw
def Ip (b:e2 k):fc [k]=k:=by
 cases k with
 |none=>rfl
 |some a=>
  have c:=b a rfl;show(if(true&&true)=true then ky (a+0) else none)=_;rw[ak (show(true&&true)=true from rfl),Int.add_zero];unfold ky;rw[ak c]
def Me (f:(c:Int)-65536=0):kH (some (1*2^c)) (some (1*2^c))=some (1*2^c):=by obtain⟨b,d⟩:=vq (m:=1) (a:=0) (k:=c) aa;have e:bz (1*2^c)=0:=(by unfold bz;rw[ag (Cd aa _),d,f]);show eg (aL (1*2^c)*aL (1*2^c)) (bz (1*2^c)+bz (1*2^c))=_;rw[b,e];exact BC (m:=1) (a:=0) (t:=0) aa U aa aa
def Md:kH (some (1*2^65536)) (some (1*2^65536))=some (1*2^65536):=Me aa
def L5 (a:Nat):(5:Int)*2^a+(-(1*2^a)+0)=1*2^(a+2):=by rw[Int.pow_succ,Int.pow_succ];generalize(2:Int)^a=b;omega
def L6 (b:a+2=c) (d:e2 (some (1*2^c))):fc [some ((5:Int)*2^a),sV (some (1*2^a))]=some (1*2^c):=by show(if(true&&(true&&true))=true then ky (5*2^a+(-(1*2^a)+0)) else none)=_;rw[ak (show(true&&(true&&true))=true from rfl),L5,b];unfold ky;rw[ak (d _ rfl)]
abbrev gI:Nat->Nat->cK:=bc nT [0,1]
def AM:gZ gI (bb gI (aX eW)) 0 0=some (1*2^65538):=by show fc [bc nT [0,1] 0 0]=_;rw[L2,<-v4];exact Ip (l8 _)
def Mj:gZ gI (bb gI (aX eW)) 0 1=some (1*2^65537):=by show fc [bc nT [0,1] 1 0]=_;rw[L3,<-dz];exact Ip (l8 _)
def AI:bb gI (aX eW) 0 0=4611686018427387904:=by rw[m1];unfold kz;rw[ak rfl,AM,aT]
def Mg:aX eW 0 1=true:=by unfold aX;rw[yf];decide
def AJ:bb gI (aX eW) 0 1=4607182418800017408:=by rw[m1];unfold kz;rw[ag aa,ak Mg,Mj,AM,aT,dz,ao]
def EK:gZ gI (bb gI (aX eW)) 1 1=some (1*2^65538):=by show fc [bc nT [0,1] 1 1,sV (kH (bq (bb gI (aX eW) 0 1)) (bq (bb gI (aX eW) 0 1)))]=_;rw[L4,AJ,v1,Md];exact L6 rfl (by rw[<-v4];exact l8 _)
def AK:bb gI (aX eW) 1 1=4611686018427387904:=by rw[m1];unfold kz;rw[ak rfl,EK,aT]
def zj (a:0<b):dY b=1:=by unfold dY;rw[ag U,ag U]
def Hq (a:Nat):(0:Int)<1*2^a:=nu aa (jQ aa)
def L8:eJ gI eW 0=0:=by
 refine yc ?_ ?_
 ·unfold tP;rw[AM,AI];rintro(b|b)
  ·have:om (some (1*2^65538))=1:=zj (Hq _);omega
  revert b;decide
 intro c a;rw[yf] at a;simp only[dw,List.not_mem_nil,or_false] at a;rcases a with rfl|rfl
 ·show aW (bb gI (aX eW) 0 0)≠2047;rw[AI];decide
 show aW (bb gI (aX eW) 0 1)≠2047;rw[AJ];decide
def L9:eJ gI eW 1=0:=by
 refine yc ?_ ?_
 ·unfold tP;rw[EK,AK];rintro(b|b)
  ·have:om (some (1*2^65538))=1:=zj (Hq _);omega
  revert b;decide
 intro c a;rw[AG] at a;simp only[dw,List.not_mem_nil,or_false] at a;subst a;show aW (bb gI (aX eW) 1 1)≠2047;rw[AK];decide
def Mc:lQ ((2,(2,(uX,(uW,(qO,()))))),[0,1],())=some (([0,1],([0,2,3],([0,1,1],([4611686018427387904,4607182418800017408,4611686018427387904],())))),2,0,()):=by
 have a:=zG (n:=2) aa Mk L7 Mf;rw[Ma,Mb,yA (λb g=>by
  have:b=0\/b=1:=U;rcases this with rfl|rfl
  ·exact L8
  exact L9)] at a
 refine a.trans ?_;have c:gD gI eW 0=[4611686018427387904,4607182418800017408]:=(by unfold gD;rw[yf,eG,eG,List.map_nil];show[bb gI (aX eW) 0 0,bb gI (aX eW) 0 1]=_;rw[AI,AJ]);have aj:gD gI eW 1=[4611686018427387904]:=(by unfold gD;rw[AG,eG,List.map_nil];show[bb gI (aX eW) 1 1]=_;rw[AK]);have d:j2 eW 0=[]:=rfl;have i1:j2 eW 1=[0,1]:=(by show[]++bE eW 0=_;rw[yf];rfl);have e:j2 eW 2=[0,1,1]:=(by show j2 eW 1++bE eW 1=_;rw[i1,AG];rfl);have f:iU gI eW 2=[4611686018427387904,4607182418800017408,4611686018427387904]:=(by show([]++gD gI eW 0)++gD gI eW 1=_;rw[c,aj];rfl);unfold sv;rw[uY,uY,uY,Ms,d,i1,e,f];rfl
def Jj (a b:cQ) (c:a.length<4611686018427387904):Au (a,b,())=some (a==b,()):=zC a b c
def Kl:xG ()=some (true,()):=by unfold xG;refine aq (zc aa aa) (aq (zc aa aa) (aq (zc aa aa) ?_));dsimp only;rw[f4,f2,f5];refine aq Mc ?_;dsimp only;rw[bT aa,bT aa];refine aq (zC _ _ aa) ?_;dsimp only;rw[bT aa];refine aq (Jj _ _ aa) ?_;rfl
def jl (g f e:Nat) (h a d:cQ):Prop:=∃c,c<=a.length/\dG g f h (a.take c) (d.take c)/\d.length=a.length/\(∀b,c<=b->b<a.length->0<=a.getD b 0/\a.getD b 0<(e:Int))/\(∀b,c<b->b<a.length->a.getD (b-1) 0<a.getD b 0)
def dG.open (b:dG c a g d h):jl c a 0 g d h:=
 ⟨d.length,aZ _,by rw[dL (aZ _),dL (Nat.le_of_eq b.val)];exact b,b.val,λi f e=>absurd e U,λi f e=>absurd e U⟩
def jl.skip (f:jl j c a g d h):jl j c (a+1) g d h:=by obtain⟨o,i,k,l,m,n⟩:=f;exact⟨o,i,k,l,λp b e=>by have:=m p b e;omega,n⟩
def u4 (c:a<d.length):(d++[b]).getD a 0=d.getD a 0:=by rw[ht,mC c,<-ht]
def AZ:(d++[b]).getD d.length 0=b:=by rw[ht,ny (aZ _)];simp
def jl.add (l:jl j c a g d h) (q:Int):jl j c (a+1) g (d++[(a:Int)]) (h++[q]):=by
 obtain⟨p,m,n,r,k,o⟩:=l;refine⟨p,by simp;omega,?_,by simp;omega,λe f i=>?_,λe f i=>?_⟩
 ·rw[p7 m,p7 U];exact n
 ·rw[mD,List.length_singleton] at i;rcases bi e d.length with b|b
  ·rw[u4 b];have:=k e f b;omega
  obtain rfl:e=d.length:=U;rw[AZ];omega
 rw[mD,List.length_singleton] at i;rcases bi e d.length with b|b
 ·rw[u4 b,u4 U];exact o e f b
 obtain rfl:e=d.length:=U;rw[AZ,u4 U];exact(k (d.length-1) U U).2
def A0 (b:a<c):(d.take c).getD a 0=d.getD a 0:=by rw[ht,kj b,<-ht]
def jl.close (s:jl c a c g d h):dG c (a+1) (g++[(d.length:Int)]) d h:=by
 obtain⟨x,o,k,t,u,v⟩:=s;have p:=k.len;have q:=k.last;rw[eB,ga o] at q;have n:(g++[(d.length:Int)]).getD (a+1) 0=(d.length:Int):=(by rw[<-p];exact AZ);have e:∀b,b<=a->(g++[(d.length:Int)]).getD b 0=g.getD b 0:=λb l=>u4 U;have r:∀b,b<=a->g.getD b 0<=(x:Int):=λb l=>(by have:=k.pt b l;rw[eB,ga o] at this;exact this);refine⟨by simp[p],by rw[e 0 U];exact k.first,λb l=>?_,n,t,λb m l i j=>?_,λb m l i j=>?_⟩
 ·rcases bi b a with f|f
  ·rw[e b U,e (b+1) U];exact k.mono b f
  obtain rfl:b=a:=U;rw[e b U,n,q];omega
 ·rcases bi b a with f|f
  ·rw[e b U] at i;rw[e (b+1) U] at j;have w:=r (b+1) U;have:=k.rng b m f i j;rw[A0 U] at this;exact this
  obtain rfl:b=a:=U;rw[e b U] at i;rw[n] at j;exact u m U U
 rcases bi b a with f|f
 ·rw[e b U] at i;rw[e (b+1) U] at j;have w:=r (b+1) U;have:=k.asc b m f i j;rw[A0 U,A0 U] at this;exact this
 obtain rfl:b=a:=U;rw[e b U] at i;rw[n] at j;exact v m U U
def dG.empty (d:Nat):dG d 0 [0] [] []:=⟨rfl,rfl,λb a=>absurd a U,rfl,rfl,λb c a=>absurd a U,λb c a=>absurd a U⟩
structure pX (P:Int->Prop) (me i9:Nat) (m:bQ):Prop where
 ex:∃st lc pQ,m=((me:Int),(i9:Int),st,lc,pQ,())/\dG me i9 st lc pQ/\(∀v∈pQ,P v)/\lc.length<=i9*me
abbrev v8:=pX dr
def v8.small (i:c<=5) (f:a<=5) (b:dG c a h d g) (e:∀j∈g,dr j) (k:d.length<=a*c):h2 c a h d g:=by have l:a*c<=5*5:=gO f i;exact⟨U,U,U,by rw[b.len];omega,by rw[b.val];omega,e⟩
def Jl (z:∀o,dr o->ac (si (o,b,())) λF=>x F.1) (C:d.length<=9223372036854775807) (D:a<=5) (A:c<=5):ac (sg (d,(a:Int),(c:Int),b,())) λl=>pX x a c l.1:=by
 have M:c*a<=5*5:=Nat.mul_le_mul A D;unfold sg;dsimp only;refine ac.a1 (P:=λl=>pX x a c l.2.1) ?_ (by rintro⟨G,H,_⟩ q;exact ac.al.2 q);refine ac.steps c (λg r=>∃h e f,r=((g:Int),((0:Int),((0:Int),([],([],([],()))))),((a:Int),(c:Int),h,e,f,()),())/\dG a g h e f/\(∀i∈f,x i)/\e.length<=g*a) ?_ ?_ ?_
 ·exact⟨[0],[],[],rfl,dG.empty a,ab,ab⟩
 ·rintro g _ B ⟨h,e,f,rfl,t,y,J⟩;have L:g*a+a<=5*5:=by
   have:(g+1)*a<=c*a:=dD _ B;rw[fy,fQ] at this;omega
  dsimp only;rw[bT (aB (U:(g:Int)<(c:Int))),bA U];refine ac.a1 (P:=λl=>∃e f,l=(((0:Int),((0:Int),([],([],([],()))))),((a:Int),(c:Int),h,e,f,()),())/\jl a g a h e f/\(∀i∈f,x i)/\e.length<=g*a+a) ?_ ?_
  ·refine ac.steps a (λj r=>∃e f,r=((j:Int),((0:Int),((0:Int),([],([],([],()))))),((a:Int),(c:Int),h,e,f,()),())/\jl a g j h e f/\(∀i∈f,x i)/\e.length<=g*a+j) ?_ ?_ ?_
   ·exact⟨e,f,rfl,t.open,y,U⟩
   ·rintro j _ K ⟨e,f,rfl,p,s,I⟩;have N:f.length=e.length:=by
     obtain⟨O,_,_,q,_⟩:=p;exact q
    dsimp only;rw[bT (aB (U:(j:Int)<(a:Int))),bA U];refine ac.a1 (P:=λl=>∃e f,l=(((0:Int),((0:Int),([],([],([],()))))),((a:Int),(c:Int),h,e,f,()),())/\jl a g (j+1) h e f/\(∀i∈f,x i)/\e.length<=g*a+(j+1)) ?_ ?_
    ·refine ac.a1 (I1 d C _) ?_;rintro⟨E,_⟩ v;dsimp only at v|-;rw[pJ aa aa,Option.bind_some];unfold gn;rw[if_pos aa,Option.bind_some,bo];refine ac.ite (λw=>?_) (λw=>?_)
     ·rw[eE (by simp;omega),Option.bind_some];refine ac.a1 (z E v) ?_;rintro⟨i,_⟩ u;dsimp only at u|-;rw[eE (by simp;omega),Option.bind_some];refine ac.al.2 ⟨_,_,rfl,p.add i,λo n=>?_,by simp;omega⟩;rcases List.mem_append.1 n with n|n
      ·exact s o n
      obtain rfl:=fe.1 n;exact u
     exact ac.al.2 ⟨_,_,rfl,p.skip,s,U⟩
    rintro _ ⟨e,f,rfl,ao,k,m⟩;exact ac.al.2 ⟨e,f,rfl,ao,k,m⟩
   rintro _ ⟨e,f,rfl,ao,k,m⟩;dsimp only;rw[bR (az (U:¬((a:Int)<(a:Int))))];exact ac.al.2 ⟨e,f,rfl,ao,k,m⟩
  rintro _ ⟨e,f,rfl,ao,k,m⟩;dsimp only;rw[eE (by rw[t.len];simp;omega),Option.bind_some];refine ac.al.2 ⟨_,_,_,rfl,ao.close,k,by rw[Nat.add_mul,Nat.one_mul];omega⟩
 rintro _ ⟨h,e,f,rfl,ao,k,m⟩;dsimp only;rw[bR (az (U:¬((c:Int)<(c:Int))))];exact ac.al.2 ⟨h,e,f,rfl,ao,k,m⟩
end Go.hX
end
