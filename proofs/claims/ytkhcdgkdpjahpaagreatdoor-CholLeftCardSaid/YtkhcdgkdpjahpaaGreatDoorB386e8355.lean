/-
  Parts of the proof: Pa16, Pa17, Pa18, Pa19, Pa20, Pa21, Pa22, Pa23, Pa24, Pa25, Pa26, Pa27, Pa28, Pa29, Pa30, Pm1, Pm2, G24, Pm3, Pm4, Pm5, Pm6, Pm7, Pm8, Pm9, Pm10, Pm11, Pm12, Pl13, Th2, Pl16, Pl18, Th3, Pl29, Pl30, Pl40, Pl41, Pl42, Pl43, Pm13, Pl46, Pl48, Pl50, Pl51, Pl54, Pm14, Pm15, Pm16, Pm17: the framework (Fw), pure forms (Dn), plain laws (Pl, Th), calls of functions (Ok).
-/
import Derived.Test.YtkhcdgkdpjahpaaGreatDoorRows
import Derived.ProofKit
import Derived.Lib.LaidTab
import Derived.LaidMore
import Derived.KernelRfl
import Derived.Test.YtkhcdgkdpjahpaaGreatDoorBf3ff080b

set_option linter.all false
noncomputable section
namespace Go.mz
theorem Jh {l:List Int} (ai:bi l) (ag:l.length<=100000000):oY (l,())=some (hz l,()):=by
 unfold oY;refine U.eq_iff.1 ?_;refine U.bJ (P:=fun r=>∃n:Nat,r.1=(n:Int)/\n<=l.length/\(∀k,n<=k->(ae:k<l.length)->l[k]=0)/\ec (l.take n)) ?_ ?_
 ·refine U.loop (fun s=>∃n:Nat,s.1=(n:Int)/\n<=l.length/\(∀k,n<=k->(ae:k<l.length)->l[k]=0)) (fun s=>s.1.toNat) ⟨l.length,rfl,bU _,fun k J R=>by omega⟩ ?_;rintro⟨_,_⟩ ⟨n,rfl,J,R⟩;rcases n with _|n
  ·refine U.ar.2 ⟨0,rfl,eX _,R,fun x ab=>by simp at ab⟩
  ·have aA:aQ (((n+1:Nat):Int)-1)=(n:Int):=(by rw[b4 (by omega) (by omega)];omega);have aX:decide (((n+1:Nat):Int)>0)=true:=a8 (by omega);simp only[aA,aX,beq_self_eq_true,cond_true,dC (show n<l.length from J),bq];by_cases aV:l[n]=0
   ·rw[eY,a8 aV];refine U.ar.2 ⟨⟨n,rfl,by omega,fun k ae gI=>?_⟩,?_⟩
    ·rcases ct n k with h|h
     ·exact R k h gI
     ·obtain rfl:k=n:=(by omega);exact aV
    ·show(n:Int).toNat<((n+1:Nat):Int).toNat;omega
   ·rw[eY,a1 aV];refine U.ar.2 ⟨n+1,rfl,J,R,fun x ab=>?_⟩;rw[lY,cr J] at ab;have ab:(l.take n++[l[n]]).getLast?=some x:=ab;rw[List.getLast?_concat] at ab;cases ab;exact aV
 ·rintro⟨_,_⟩ ⟨n,rfl,J,R,ac⟩;dsimp only;refine U.bJ (P:=fun r=>r=(l.take n,())) ?_ ?_
  ·refine U.steps n (fun i s=>s=((i:Int),l.take i,())) rfl ?_ ?_
   ·rintro i _ hi rfl;simp only[a8 (show(i:Int)<(n:Int) by omega),cond_true,dC (show i<l.length by omega),bq];rw[fo (by simp;omega),cO (by omega)];refine U.ar.2 ?_;show _=(_,l.take (i+1),());rw[lY,cr (by omega)];rfl
   ·rintro _ rfl;simp only[a1 (show¬((n:Int)<(n:Int)) by omega),cond_false];exact U.ar.2 rfl
  ·rintro _ rfl;refine U.ar.2 ?_;show(l.take n,())=_;rw[ae7 ai J R ac]
theorem Jc {neg:Bool} {l:List Int} (ai:bi l) (ag:l.length<=100000000):oe (neg,l,())=some (be (gM (neg,l,())),()):=by
 unfold oe;refine aI (Jh ai ag) ?_;have h:=YA (neg:=neg) (Vz l) (ae6 l);have R:gM (neg,hz l,())=gM (neg,l,()):=(by unfold gM;simp only[VA ai]);rw[<-R,<-h];dsimp only;cases neg
 ·simp
 ·simp only[beq_self_eq_true,cond_true,Bool.true_and];congr 3;rw[decide_eq_decide];simp only[bL];rw[<-J8];omega
theorem zk {neg:Bool} {l:List Int} {x:Int} (ai:bi l) (ag:l.length<=100000000) (ab:af l=x):oe (neg,l,())=some (be (if neg then-x else x),()):=by rw[Jc ai ag];unfold gM;simp only[ab]
theorem zn {l:List Int} (h:bi l) (ah:ec l) (ag:l.length<=1000000):oY (l,())=some (l,()):=by have J:=ec.eq h ah;rw[Jh h (by omega)];show some (c6 (af l).toNat,())=_;rw[<-J]
theorem aef {b:tJ} (ai:bi b.2.1) (ag:b.2.1.length<=100000000):ug (b,())=some (be (gM b),()):=by unfold ug;exact aI (Jc ai ag) rfl
theorem EU {z:Int} (a2:aU z.natAbs<=3000000):ug (be z,())=some (be z,()):=by rw[aef (o0 z) (by have:=(hM a2).2.2;omega),sb]
theorem aee {z:Int} (a2:aU z.natAbs<=3000000):Gq (be z,())=some (be (-z),()):=by unfold Gq;refine aI (Jc (o0 z) (by have:=(hM a2).2.2;omega)) ?_;rw[Pg];show some (be (-gM (be z)),())=_;rw[sb]
theorem I8 {z:Int} (a2:aU z.natAbs<=3000000):vO (be z,())=some (be z.natAbs,()):=by unfold vO;refine aI (Jc (o0 z) (by have:=(hM a2).2.2;omega)) ?_;rw[afp (o0 z) (be z).1];show some (be ((gM (be z)).natAbs:Int),())=_;rw[sb]
theorem oD {z:Int} (a2:aU z.natAbs<=3000000):nw (be z,())=some (eT z,()):=by
 unfold nw;refine aI (EU a2) ?_;simp only[wG,cC,Dz];unfold eT;split
 ·rfl
 ·show(bif decide (z<0) then _ else _)=_;rw[cC];split<;>rfl
theorem B7 {z:Int} (a2:aU z.natAbs<=3000000):vP (be z,())=some ((aU z.natAbs:Int),()):=by obtain⟨ch,c8,a3⟩:=hM a2;have h:=Ts ch c8 (by omega);rw[ih] at h;unfold Dl at h;unfold vP;refine aI (zn ch c8 (by omega)) ?_;dsimp only at h|-;simp only[Int.mul_comm 32];exact h
theorem aer {z:Int} (a2:aU z.natAbs<=900000) (aV:z≠0):vR (be z,())=some ((cP z.natAbs:Int),()):=by
 obtain⟨ch,c8,a3⟩:=hM (z:=z) (by omega);unfold vR;refine aI (zn ch c8 (by omega)) ?_;have hv:=ih z;dsimp only;generalize(be z).2.1=l at*;have ld:z.natAbs=(af l).toNat:=(by omega);rw[ld];refine U.eq_iff.1 (U.bJ (P:=fun q=>match q with|.inl _=>False|.inr r=>r=((cP (af l).toNat:Int),())) ?_ ?_)
 ·refine U.steps l.length (fun i s=>s=((i:Int),())/\af (l.take i)=0) ⟨rfl,rfl⟩ ?_ ?_
  ·rintro i _ hi ⟨rfl,J⟩;have ab:=ch.get hi;simp only[a8 (show(i:Int)<aS l by simp only[bL];omega),cond_true,dC hi,bq,ee];by_cases hc:l[i]=0
   ·simp only[a8 hc,mw,cond_false];refine U.ar.2 ⟨by rw[cO (by omega)],?_⟩;rw[h6 hi,hc,J];simp
   ·simp only[a1 hc,oH,cond_true];have R:=aff (x:=0) J hi ch hc;rw[R];obtain⟨n,iU⟩:=fL ab.1;rw[iU] at ab hc|-;have ah:cP n<32:=jn (Cp (by omega)) (es.2 (by omega));refine U.of_eq (aI (afe (n:=n) (by omega) (by omega)) rfl) ?_;show(aQ (aQ (32*(i:Int))+(cP n:Int)),())=_;rw[b4 (x:=32*(i:Int)) (by omega) (by omega),b4 (by omega) (by omega)];congr 1
  ·rintro _ ⟨rfl,J⟩;exfalso;rw[dW (bU _)] at J;omega
 ·rintro(q|q) aj
  ·exact aj.elim
  ·have aj:q=_:=aj;rw[aj];exact U.ar.2 rfl
theorem adF {n:Nat} (ag:n<=1000000000):∃w p:Nat,n=32*w+p/\p<32/\ip IntKind.i64 (n:Int) 32=some (w:Int)/\ji (n:Int) 32=some (p:Int):=by
 refine⟨n/32,n %32,by omega,by omega,?_,?_⟩
 ·unfold ip;rw[if_pos (by decide),Ft (by omega),wrap64 (by omega) (by omega)];simp
 ·unfold ji;rw[if_pos (by decide),J5 (by omega)];simp
theorem U3 {a:List Int} {n:Nat} (aC:bi a) (kY:a.length<=10000000) (ag:n<=100000000):U (Dr (a,(n:Int),())) (fun r=>∃out,r=(out,())/\bi out/\af out=af a*2^n/\out.length=n/32+a.length+1):=by
 unfold Dr;obtain⟨w,p,hw,aw,aj,hr⟩:=adF (n:=n) (by omega);have g8:=lj p;have bE:=B1 (p:=p) (by omega);have MN:(2:Int)^p<=2147483648:=B2 (by omega);dsimp only;refine U.bs aj (U.bs (jZ (by omega)) ?_);refine U.bJ (P:=fun r=>∃c out,r=(c,out,())/\out.length=w+a.length/\bi out/\0<=c/\c<2^p/\af out+a9 (w+a.length)*c=a9 w*(2^p*af a)) ?_ ?_
 ·refine U.steps a.length (fun i s=>∃c out,s=(c,(i:Int),out,())/\out.length=w+i/\bi out/\0<=c/\c<2^p/\af out+a9 (w+i)*c=a9 w*(2^p*af (a.take i))) ⟨0,List.replicate w 0,rfl,by simp,bi.n3 _,by omega,g8,by simp[af,tC]⟩ ?_ ?_
  ·rintro i _ hi ⟨c,out,rfl,aN,aM,bb,bH,dv⟩;have ab:=aC.get hi;simp only[a8 (show(i:Int)<aS a by simp only[bL];omega),cond_true,dC hi,bq,hr];have ca:a[i]*2^p<4294967296*2^p:=zP ab.2 g8;have fb:a[i]*2^p<=4294967295*2^p:=oK (by omega) (by omega);have jz:0<=a[i]*2^p:=qg ab.1 (eM g8);obtain⟨t,ah,t0,t1,t2⟩:∃t,t=c+a[i]*2^p/\0<=t/\t<18446744073709551616/\t<4294967296*2^p:=⟨_,rfl,by omega,by omega,by omega⟩;have aX:iq IntKind.u64 (bc a[i]) (p:Int)=some (a[i]*2^p):=by
    rw[dr (x:=a[i]) (by omega) (by omega),q1 (by omega) (by omega),d7];congr 1;omega
   have bY:fF IntKind.u64 c (a[i]*2^p)=t:=(by rw[p4 p bb bH jz (by omega) (by omega) (Int.mul_emod_left _ _),ah]);have e7:t/4294967296<2^p:=vj (by decide) (by rw[jl];omega);rw[aX,bq,bY,fo (by simp;omega),qe,tE];refine U.ar.2 ⟨t/4294967296,out++[t %4294967296],by rw[cO (by omega)],by simp[aN];omega,aM.snoc (by omega) (by omega),by omega,e7,?_⟩;rw[vd,aN,show w+(i+1)=(w+i)+1 by omega,ia,h6 hi];have Mk:=jM t 4294967296;rw[zM] at dv|-;generalize t/4294967296=q at*;generalize t %4294967296=r at*;generalize(2:Int)^p=P at*;generalize a[i]=y at*;have vY:r=c+y*P-4294967296*q:=(by omega);clear Mk aX bY e7 ah t0 t1 t2 ca fb jz bE MN;subst vY;grind
  ·rintro _ ⟨c,out,rfl,aN,aM,bb,bH,dv⟩;simp only[a1 (show¬((a.length:Int)<aS a) by simp only[bL];omega),cond_false];rw[dW (bU _)] at dv;exact U.ar.2 ⟨c,out,rfl,aN,aM,bb,bH,dv⟩
 ·rintro _ ⟨c,out,rfl,aN,aM,bb,bH,dv⟩;dsimp only;rw[m7 bb (by omega),fo (by simp;omega)];refine U.ar.2 ⟨out++[c],rfl,aM.snoc bb (by omega),?_,by simp;omega⟩;rw[vd,aN,dv,vi,hw,Int.pow_add];grind
theorem adT {a b:List Int} (aC:bi a) (aa:bi b) (ta:ec a) (tb:ec b) (kY:a.length<=10000000) (f5:b.length<=10000000):Gr (a,b,())=some (e2 (af a) (af b),()):=by
 unfold Gr;refine U.eq_iff.1 ?_;simp only[ee,bL];by_cases ag:a.length=b.length
 ·rw[a8 (show(a.length:Int)=b.length by omega)];simp only[mw,cond_false];refine U.bJ (P:=fun q=>match q with|.inl _=>af a=af b|.inr r=>r=(e2 (af a) (af b),())) ?_ ?_
  ·refine U.steps a.length (fun i s=>s=(((a.length:Nat):Int)-1-i,())/\af (a.drop (a.length-i))=af (b.drop (a.length-i))) ⟨?_,?_⟩ ?_ ?_
   ·rw[b4 (by omega) (by omega)];simp
   ·rw[tQ (by omega),tQ (by omega)]
   ·rintro i _ hi ⟨rfl,J⟩;obtain⟨k,ae⟩:∃k,a.length=k+1+i:=⟨a.length-1-i,by omega⟩;have aA:((a.length:Nat):Int)-1-(i:Int)=(k:Int):=(by omega);have qM:k<a.length:=(by omega);have wD:k<b.length:=(by omega);rw[show a.length-i=k+1 by omega] at J;simp only[aA,a8 (show(k:Int)>=0 by omega),cond_true,dC qM,dC wD,bq];by_cases aE:a[k]=b[k]
    ·simp only[a8 aE,mw,cond_false];refine U.ar.2 ⟨?_,?_⟩
     ·rw[b4 (by omega) (by omega)];congr 1;omega
     ·rw[show a.length-(i+1)=k by omega,n1 qM,n1 wD,aE,J]
    ·simp only[a1 aE,oH,cond_true];rw[cC];refine U.ite (fun h=>?_) fun h=>?_
     ·refine U.ar.2 ?_;show((-1:Int),())=_;unfold e2;rw[if_pos (Ph aC aa qM wD J h)]
     ·refine U.ar.2 ?_;show((1:Int),())=_;have:=Ph aa aC wD qM J.symm (by omega);unfold e2;rw[if_neg (by omega),if_pos this]
   ·rintro _ ⟨rfl,J⟩;have aA:¬(((a.length:Nat):Int)-1-(a.length:Int)>=0):=(by omega);simp only[a1 aA,cond_false];refine U.ar.2 ?_;simpa using J
  ·rintro(q|q) aj
   ·refine U.ar.2 ?_;have aj:af a=af b:=aj;unfold e2;rw[aj];simp
   ·have aj:q=_:=aj;rw[aj];exact U.ar.2 rfl
 ·rw[a1 (show¬(a.length:Int)=b.length by omega)];simp only[oH,cond_true];rw[cC];unfold e2;refine U.ite (fun h=>U.ar.2 ?_) fun h=>U.ar.2 ?_
  ·rw[if_pos (vc aC aa tb (by omega))]
  ·have:=vc aa aC ta (by omega);rw[if_neg (by omega),if_pos this]
theorem arK {a:List Int} {w p i:Nat} {X:Int} (aC:bi a) (aw:p<32) (hi:w+i<a.length) (iC:X=af (a.drop w)):X/2^p/a9 i %4294967296=(a[w+i]+4294967296*a.getD (w+i+1) 0)/2^p %4294967296:=by
 have g8:=lj p;have bE:=B1 (p:=p) (by omega);have bm:X/a9 i=(a[w+i]+4294967296*a.getD (w+i+1) 0)+4294967296*(4294967296*af (a.drop (w+i+2))):=by
  have J:a.drop w=(a.drop w).take i++a.drop (w+i):=by
   conv=>lhs;rw[<-oQ i (a.drop w)]
   rw[tP]
  have R:X=af ((a.drop w).take i)+a9 i*af (a.drop (w+i)):=by
   rw[iC]
   conv=>lhs;rw[J]
   rw[n0,eW,oO,hU (by omega)]
  have ac:=ej ((aC.drop w).take i);have aL:=gU ((aC.drop w).take i);rw[eW,oO,hU (by omega)] at aL;have aY:af (a.drop (w+i))=a[w+i]+4294967296*af (a.drop (w+i+1)):=n1 (by omega);have bG:af (a.drop (w+i+1))=a.getD (w+i+1) 0+4294967296*af (a.drop (w+i+2)):=by
   rcases ct (w+i+1) a.length with g|g
   ·rw[mJ g];exact n1 g
   ·rw[rz g,tQ g,tQ (by omega)];rfl
  rw[R,CO _ _ (by have:=eU i;omega),tK ac aL,aY,bG];grind
 have J:X/2^p/a9 i=X/a9 i/2^p:=(by rw[zN (eM g8),zN (eM (eU i)),jl]);rw[J,bm];generalize a[w+i]+4294967296*a.getD (w+i+1) 0=t;have R:∀Y:Int,t+4294967296*(4294967296*Y)=t+2^p*(4294967296*(2^(32-p)*Y)):=fun Y=>(by generalize(2:Int)^p=P at*;generalize(2:Int)^(32-p)=P' at*;rw[show(4294967296:Int)*(4294967296*Y)=(P*P')*(4294967296*Y) by rw[<-bE]];grind);rw[R,CO _ _ (by omega),Fs]
theorem ar1 {a:List Int} {w p:Nat} (aC:bi a) (aw:p<32) (h:w<a.length):(decide (af a %(a9 w*2^p)≠0))=(decide (af (a.take w)≠0)||decide (a[w] %2^p≠0)):=by have g8:=lj p;have bE:=B1 (p:=p) (by omega);have gp:=ej (aC.take w);have wl:=gU (aC.take w);rw[eW,hU (by omega)] at wl;have J:=abB (x:=af (a.take w)) (b:=a9 w) (y:=af (a.drop w)) (P:=2^p) (P':=0) (eU w) ⟨gp,wl⟩ g8;rw[<-sc a w (by omega)] at J;have R:af (a.drop w) %2^p=a[w] %2^p:=(by rw[n1 h,bE,ra,Fs]);rw[R] at J;by_cases bS:af (a.take w)=0<;>by_cases bt:a[w] %2^p=0<;>simp[bS,bt,J]
theorem U4 {a:List Int} {n:Nat} (aC:bi a) (kY:a.length<=10000000) (ag:n<=1000000000):U (Ds (a,(n:Int),())) (fun r=>∃out,r=(out,decide (af a %2^n≠0),())/\bi out/\af out=af a/2^n/\out.length<=a.length):=by
 unfold Ds;obtain⟨w,p,hw,aw,aj,hr⟩:=adF (n:=n) (by omega);have g8:=lj p;have bE:=B1 (p:=p) (by omega);have MN:(2:Int)^p<=2147483648:=B2 (by omega);have RO:(2:Int)^n=a9 w*2^p:=(by rw[vi,hw,Int.pow_add]);have s2:=ej aC;dsimp only;refine U.bJ (P:=fun r=>r=(decide (af (a.take w)≠0),())) ?_ ?_
 ·have key:∀i,min w a.length=i->decide (af (a.take w)≠0)=decide (af (a.take i)≠0):=fun i hi=>by
   rcases Nat.le_total w a.length with g|g
   ·rw[hU g] at hi;rw[hi]
   ·rw[Nat.min_eq_right g] at hi;rw[<-hi,dW g,dW (bU _)]
  refine U.steps (min w a.length) (fun i s=>s=(decide (af (a.take i)≠0),(i:Int),())) (by simp[af]) ?_ ?_
  ·rintro i _ hi rfl;have ab:=aC.get (n:=i) (by omega);simp only[aj,bq,a8 (show(i:Int)<(w:Int) by omega),beq_self_eq_true,cond_true,a8 (show(i:Int)<aS a by simp only[bL];omega),dC (show i<a.length by omega),cO (show i<9223372036854775807 by omega),ee];have ac:af (a.take (i+1))=af (a.take i)+a9 i*a[i]:=h6 (by omega);have aL:=ej (aC.take i);have aY:=eU i;by_cases g:af (a.take i)=0
   ·rw[a1 (show¬(af (a.take i)≠0) from fun h=>h g)];refine U.ar.2 ?_;show((!decide (a[i]=0)),_,())=_;congr 1;rw[ac,g];by_cases bt:a[i]=0
    ·simp[bt]
    ·have:=vk aY (show 0<a[i] by omega);rw[a1 bt,a8 (show(0:Int)+a9 i*a[i]≠0 by omega)];rfl
   ·rw[a8 (show af (a.take i)≠0 from g)];refine U.ar.2 ?_;show(true,_,())=_;congr 1;have:=qg (eM aY) ab.1;rw[ac,a8 (show af (a.take i)+a9 i*a[i]≠0 by omega)]
  ·rintro _ rfl;simp only[aj,bq];by_cases g:min w a.length<w
   ·simp only[a8 (show((min w a.length:Nat):Int)<(w:Int) by omega),beq_self_eq_true,cond_true,a1 (show¬(((min w a.length:Nat):Int)<aS a) by simp only[bL];omega),cond_false,bq];refine U.ar.2 ?_;rw[key _ rfl]
   ·simp only[a1 (show¬(((min w a.length:Nat):Int)<(w:Int)) by omega),show(false==true)=false from rfl,cond_false,bq];refine U.ar.2 ?_;rw[key _ rfl]
 rintro _ rfl;dsimp only;refine U.bs hr (U.bs aj ?_);rw[RO];rcases Nat.lt_or_ge w a.length with h|h
 ·obtain⟨X,iC⟩:∃X,X=af (a.drop w):=⟨_,rfl⟩;have uu:0<=X:=(by rw[iC];exact ej (aC.drop w));have me:af a=af (a.take w)+a9 w*X:=(by rw[iC];exact sc a w (by omega));have gp:=ej (aC.take w);have wl:=gU (aC.take w);rw[eW,hU (by omega)] at wl;have RS:af a/(a9 w*2^p)=X/2^p:=by
   rw[<-zN (eM (eU w)),me,CO _ _ (by have:=eU w;omega),tK gp wl,Int.zero_add]
  obtain⟨m,ak⟩:∃m,a.length=w+m:=⟨a.length-w,by omega⟩;have aoF:X<a9 m:=(by have:=gU (aC.drop w);rw[oO,show a.length-w=m by omega,<-iC] at this;exact this);have e4:=ar1 aC aw h;refine U.bJ (P:=fun r=>∃out,r=(decide (af a %(a9 w*2^p)≠0),out,())/\out.length=m/\bi out/\af out=X/2^p) ?_ ?_
  ·refine U.steps m (fun i s=>∃out,s=(if i=0 then decide (af (a.take w)≠0) else decide (af a %(a9 w*2^p)≠0),((w+i:Nat):Int),out,())/\out.length=i/\bi out/\af out+a9 i*(X/2^p/a9 i)=X/2^p) ⟨[],rfl,rfl,bi.nil,by simp[af,Fo]⟩ ?_ ?_
   ·rintro i _ hi ⟨out,rfl,aN,aM,bb⟩;have ab:=aC.get (n:=w+i) (by omega);have aB:=aC.getD (w+i+1);obtain⟨t,ah,t0,t1⟩:∃t,t=a[w+i]+4294967296*a.getD (w+i+1) 0/\0<=t/\t<18446744073709551616:=⟨_,rfl,by omega,by omega⟩;have MR:X/2^p/a9 i %4294967296=t/2^p %4294967296:=(by rw[ah];exact arK aC aw (by omega) iC);have fY:0<=t/2^p:=Int.ediv_nonneg t0 (Int.le_of_lt g8);have aX:bN ((w+i:Nat):Int)=((w+i+1:Nat):Int):=cO (by omega);dsimp only;rw[cT (a8 (show((w+i:Nat):Int)<aS a by simp only[bL];omega))];refine U.bJ (P:=fun r=>r=(decide (af a %(a9 w*2^p)≠0),out++[t/2^p %4294967296],())) ?_ ?_
    ·refine U.bs (dC (by omega)) ?_;refine U.bJ (P:=fun r=>r=(t,out,())) ?_ ?_
     ·rw[aX,cC];refine U.ite (fun g=>?_) fun g=>?_
      ·have g:w+i+1<a.length:=(by simp only[bL] at g;omega);rw[dC g,bq,dr (x:=a[w+i+1]) (by have:=aC.get g;omega) (by have:=aC.get g;omega),q1 (by decide) (by decide)];rw[mJ g] at ah aB;have pO:a[w+i+1]*2^(32:Int).toNat %18446744073709551616=4294967296*a[w+i+1]:=by
        rw[show(2:Int)^(32:Int).toNat=4294967296 from rfl];omega
       rw[bq,pO,dr (by omega) (by omega),p4 32 ab.1 ab.2 (by omega) (by omega) (by omega) (by omega)];refine U.ar.2 ?_;rw[<-ah]
      ·have g:a.length<=w+i+1:=(by simp only[bL] at g;omega);rw[rz g] at ah;rw[dr (by omega) (by omega)];refine U.ar.2 ?_;rw[ah];simp
     ·rintro _ rfl;dsimp only;refine U.bJ (P:=fun r=>r=(decide (af a %(a9 w*2^p)≠0),out,())) ?_ ?_
      ·refine U.bs aj ?_;by_cases Bk:i=0
       ·subst Bk;have aa:(((w+0:Nat):Int)==(w:Int))=true:=(by simp);rw[aa];simp only[beq_self_eq_true,cond_true];refine U.bs (dC (by omega)) ?_;rw[aeH (by omega) (by omega),bq,d7,Int.one_mul,xE (by omega) (by omega),m7 (by omega) (by omega),WY p (aC.get (n:=w+0) (by omega)).1 (aC.get (n:=w+0) (by omega)).2 (by omega),ee,e4];have uh:a[w+0]=a[w]:=rfl;rw[uh];by_cases bt:a[w] %2^p=0
        ·rw[a8 bt];refine U.ar.2 ?_;simp[bt]
        ·rw[a1 bt];refine U.ar.2 ?_;simp[bt]
       ·have aa:(((w+i:Nat):Int)==(w:Int))=false:=by
         rw[eY];exact a1 (by omega)
        rw[aa];simp only[show(false==true)=false from rfl,cond_false];refine U.ar.2 ?_;rw[if_neg Bk]
      ·rintro _ rfl;dsimp only;rw[zt (by omega) (by omega),Option.bind_some,Int.toNat_natCast,fo (by simp;omega),tE];exact U.ar.2 rfl
    ·rintro _ rfl;dsimp only;refine U.ar.2 ⟨out++[t/2^p %4294967296],by rw[aX,if_neg (by omega)];rfl,by simp[aN],aM.snoc (by omega) (by omega),?_⟩;rw[vd,aN,<-MR,ia,Int.mul_comm 4294967296 (a9 i),<-Int.ediv_ediv_of_nonneg (Int.le_of_lt (eU i))];have eF:=Int.emod_add_mul_ediv (X/2^p/a9 i) 4294967296;generalize X/2^p/a9 i %4294967296=r at*;generalize X/2^p/a9 i/4294967296=q at*;rw[<-eF] at bb;clear MR eF ah t0 t1 fY ab aB aX;grind
   ·rintro _ ⟨out,rfl,aN,aM,bb⟩;dsimp only;rw[c1 (a1 (show¬(((w+m:Nat):Int)<aS a) by simp only[bL];omega)),if_neg (by omega)];refine U.ar.2 ⟨out,rfl,aN,aM,?_⟩;have J:0<=X/2^p:=Int.ediv_nonneg uu (Int.le_of_lt g8);have R:X/2^p<=X:=Int.ediv_le_self _ uu;rw[Int.ediv_eq_zero_of_lt J (by omega)] at bb;simpa using bb
  ·rintro _ ⟨out,rfl,aN,aM,bb⟩;exact U.ar.2 ⟨out,rfl,aM,by rw[bb,RS],by omega⟩
 ·have J:=gU aC;have R:=tp h;have ac:a9 w*1<=a9 w*2^p:=kI (by omega) (eM (eU w));rw[tK s2 (by omega),xE s2 (by omega),dW h];refine U.bJ (P:=fun r=>r=(decide (af a≠0),[],())) ?_ ?_
  ·refine U.steps 0 (fun i s=>s=(decide (af a≠0),(w:Int),[],())) rfl (fun i s hi=>by omega) ?_;rintro _ rfl;dsimp only;rw[c1 (a1 (show¬((w:Int)<aS a) by simp only[bL];omega))];exact U.ar.2 rfl
  ·rintro _ rfl;exact U.ar.2 ⟨[],rfl,bi.nil,rfl,by simp⟩
theorem axj {a b:List Int} (aC:bi a) (aa:bi b) (kY:a.length<=10000000) (f5:b.length<=10000000):U (LJ (a,b,())) (fun r=>∃out,r=(out,())/\bi out/\af out=af a+af b/\out.length<=a.length+b.length+1):=by
 unfold LJ;dsimp only;obtain⟨n,ag⟩:∃n,n=max a.length b.length:=⟨_,rfl⟩;have apr:(if aS b>aS a then aS b else aS a)=(n:Int):=(by simp only[bL];split<;>omega);rw[apr];refine U.bJ (P:=fun r=>∃c out,r=(c,out,())/\out.length=n/\bi out/\0<=c/\c<=1/\af out+a9 n*c=af a+af b) ?_ ?_
 ·refine U.steps n (fun i s=>∃c out,s=(c,(i:Int),out,())/\out.length=i/\bi out/\0<=c/\c<=1/\af out+a9 i*c=af (a.take i)+af (b.take i)) ⟨0,[],rfl,rfl,bi.nil,by omega,by omega,by simp[af]⟩ ?_ ?_
  ·rintro i _ hi ⟨c,out,rfl,J,R,ac,aL,aY⟩;have ab:=aC.getD i;have aB:=aa.getD i;obtain⟨t,ah,t0,t1,t2⟩:∃t,t=c+a.getD i 0+b.getD i 0/\0<=t/\t<18446744073709551616/\t/4294967296<=1:=⟨_,rfl,by omega,by omega,by omega⟩;dsimp only;rw[cT (a8 (show(i:Int)<(n:Int) by omega))];refine U.bJ (P:=fun r=>r=(t/4294967296,out++[t %4294967296],())) ?_ ?_
   ·refine U.bJ (P:=fun r=>r=(c+a.getD i 0,out,())) ?_ ?_
    ·simp only[cC];refine U.ite (fun h=>?_) fun h=>?_
     ·have h:i<a.length:=(by simp only[bL] at h;omega);rw[dC h];rw[mJ h] at ab|-;refine U.ar.2 ?_;rw[dr (x:=a[i]) (by omega) (by omega),dr (by omega) (by omega)]
     ·have h:a.length<=i:=(by simp only[bL] at h;omega);rw[rz h,Int.add_zero];exact U.ar.2 rfl
    rintro _ rfl;refine U.bJ (P:=fun r=>r=(t,out,())) ?_ ?_
    ·simp only[cC];refine U.ite (fun h=>?_) fun h=>?_
     ·have h:i<b.length:=(by simp only[bL] at h;omega);rw[dC h];rw[mJ h] at aB ah;refine U.ar.2 ?_;rw[dr (x:=b[i]) (by omega) (by omega),dr (by omega) (by omega),ah]
     ·have h:b.length<=i:=(by simp only[bL] at h;omega);rw[rz h,Int.add_zero] at ah;rw[ah];exact U.ar.2 rfl
    ·rintro _ rfl;dsimp only;rw[fo (by simp;omega),tE,qe];exact U.ar.2 rfl
   ·rintro _ rfl;dsimp only;refine U.ar.2 ⟨t/4294967296,out++[t %4294967296],by rw[cO (by omega)],by simp[J],R.snoc (by omega) (by omega),by omega,t2,?_⟩;rw[vd,J,ia,E9,E9];have:=Int.emod_add_mul_ediv t 4294967296;generalize t/4294967296=q at*;generalize t %4294967296=r at*;generalize a.getD i 0=x at*;generalize b.getD i 0=y at*;have e:r=c+x+y-4294967296*q:=(by omega);clear this ah t0 t1 t2;subst e;grind
  ·rintro _ ⟨c,out,rfl,J,R,ac,aL,aY⟩;dsimp only;rw[c1 (a1 (show¬((n:Int)<(n:Int)) by omega))];rw[List.take_of_length_le (by omega),List.take_of_length_le (by omega)] at aY;exact U.ar.2 ⟨c,out,rfl,J,R,ac,aL,aY⟩
 ·rintro _ ⟨c,out,rfl,J,R,ac,aL,aY⟩;dsimp only;rw[fo (by simp;omega),m7 ac (by omega)];refine U.ar.2 ⟨out++[c],rfl,R.snoc ac (by omega),?_,by simp;omega⟩;rw[vd,J,aY]
theorem aeI (x:Int):d6 .u64 x 63=some (x/9223372036854775808):=by have:d6 .u64 x 63=some (x.fdiv 9223372036854775808):=rfl;rw[this,J3 _ (by decide)]
theorem aeq {a b:List Int} (aC:bi a) (aa:bi b) (kY:a.length<=10000000) (fb:b.length<=a.length) (hv:af b<=af a):U (Gs (a,b,())) (fun r=>∃out,r=(out,())/\bi out/\af out=af a-af b/\out.length=a.length):=by
 unfold Gs;dsimp only;refine U.bJ (P:=fun r=>∃out c,r=(out,())/\out.length=a.length/\bi out/\0<=c/\c<=1/\af out-a9 a.length*c=af a-af b) ?_ ?_
 ·refine U.steps a.length (fun i s=>∃c out,s=(c,(i:Int),out,())/\out.length=i/\bi out/\0<=c/\c<=1/\af out-a9 i*c=af (a.take i)-af (b.take i)) ⟨0,[],rfl,rfl,bi.nil,by omega,by omega,by simp[af]⟩ ?_ ?_
  ·rintro i _ hi ⟨c,out,rfl,J,R,ac,aL,aY⟩;have ab:=aC.get hi;have aB:=aa.getD i;obtain⟨d,aP,cK,cG⟩:∃d,d=a[i]-c-b.getD i 0/\-4294967296<=d/\d<4294967296:=⟨_,rfl,by omega,by omega⟩;dsimp only;rw[cT (a8 (show(i:Int)<aS a by simp only[bL];omega))];refine U.bJ (P:=fun r=>r=(-(d/4294967296),out++[d %4294967296],())) ?_ ?_
   ·refine U.bs (dC hi) ?_;refine U.bJ (P:=fun r=>r=(d %18446744073709551616,out,())) ?_ ?_
    ·simp only[cC];refine U.ite (fun h=>?_) fun h=>?_
     ·have h:i<b.length:=(by simp only[bL] at h;omega);rw[dC h];rw[mJ h] at aP aB;refine U.ar.2 ?_;simp only[n2];rw[aP];congr 1;omega
     ·have h:b.length<=i:=(by simp only[bL] at h;omega);rw[rz h] at aP;refine U.ar.2 ?_;simp only[n2];rw[aP];congr 1;omega
    ·rintro _ rfl;dsimp only;rw[fo (by simp;omega),tE,aeI];refine U.ar.2 ?_;have aN:d %18446744073709551616/9223372036854775808=-(d/4294967296):=(by omega);have aM:d %18446744073709551616 %4294967296=d %4294967296:=(by omega);rw[aN,aM]
   ·rintro _ rfl;dsimp only;refine U.ar.2 ⟨-(d/4294967296),out++[d %4294967296],by rw[cO (by omega)],by simp[J],R.snoc (by omega) (by omega),by omega,by omega,?_⟩;rw[vd,J,ia,h6 hi,E9];have:=Int.emod_add_mul_ediv d 4294967296;generalize d/4294967296=q at*;generalize d %4294967296=r at*;generalize b.getD i 0=y at*;generalize a[i]=x at*;have e:r=x-c-y-4294967296*q:=(by omega);clear this aP cK cG;subst e;grind
  ·rintro _ ⟨c,out,rfl,J,R,ac,aL,aY⟩;dsimp only;rw[c1 (a1 (show¬((a.length:Int)<aS a) by simp only[bL];omega))];refine U.ar.2 ⟨out,c,rfl,J,R,ac,aL,?_⟩;rw[aY,List.take_of_length_le (Nat.le_refl _),List.take_of_length_le fb]
 ·rintro _ ⟨out,c,rfl,J,R,ac,aL,aY⟩;have bG:=gU R;have eF:=eU a.length;rw[J] at bG;have hc:c=0:=by
   rcases iO 0 c with h|h
   ·obtain rfl:c=1:=(by omega);omega
   ·omega
  subst hc;exact U.ar.2 ⟨out,rfl,R,by rw[<-aY];simp,J⟩
theorem axX {a b pp:List Int} {i N:Nat} (aC:bi a) (Z0:i<a.length) (aa:bi b) (hi:i+b.length<N) (rB:N<=100000000) (J:pp.length=N) (R:bi pp) (a2:js pp (i+b.length)) {cd:jr->Prop} (aq:∀c out,out.length=N->bi out->js out (i+b.length)->0<=c->c<4294967296->af out+a9 (i+b.length)*c=af pp+a9 i*(a[i]*af b)->cd (c,out,())):U (loop (σ:=t7) (ρ:=jr) (fun(Am,jF,jI,_)=>
 bif decide (jF<aS b) then
 (bf a (i:Int)).bind fun dj=>
 (bf b jF).bind fun gN=>
 rd jI (aQ ((i:Int)+jF)) fun h7=>
 wr jI (aQ ((i:Int)+jF)) (dt (bc (bc (Am+bc (bc dj*bc gN))+bc h7))) fun CA=>
 (d6 IntKind.u64 (bc (bc (Am+bc (bc dj*bc gN))+bc h7)) 32).bind fun m9=>
 some (.inl (m9,bN jF,CA,())) else
 some (.inr (Am,jI,()))) (0,0,pp,())) cd:=by
 refine U.steps b.length (fun j s=>∃c out,s=(c,(j:Int),out,())/\out.length=N/\bi out/\js out (i+b.length)/\0<=c/\c<4294967296/\af out+a9 (i+j)*c=af pp+a9 i*(a[i]*af (b.take j))) ⟨0,pp,rfl,J,R,a2,by omega,by omega,by simp[af]⟩ ?_ ?_
 ·rintro j _ ao ⟨c,out,rfl,aN,aM,bb,bH,dv,p9⟩;have ab:=aC.get Z0;have aB:=aa.get ao;have aJ:=aM.get (n:=i+j) (by omega);have ak:=Iw ab aB;obtain⟨t,ah,t0,t1⟩:∃t,t=c+a[i]*b[j]+out[i+j]/\0<=t/\t<18446744073709551616:=⟨_,rfl,by omega,by omega⟩;simp only[a8 (show(j:Int)<aS b by simp only[bL];omega),cond_true,dC ao,dC Z0,bq];have aA:aQ ((i:Int)+(j:Int))=((i+j:Nat):Int):=(by rw[b4 (by omega) (by omega)];simp);rw[aA,oC (by omega)];have aX:bc (bc (c+bc (bc a[i]*bc b[j]))+bc out[i+j])=t:=by
   rw[dr (x:=a[i]) (by omega) (by omega),dr (x:=b[j]) (by omega) (by omega),dr (x:=out[i+j]) (by omega) (by omega),dr (x:=a[i]*b[j]) (by omega) (by omega),dr (x:=c+a[i]*b[j]) (by omega) (by omega),<-ah,dr t0 t1]
  rw[aX,tE,m8 (by omega),qe];refine U.ar.2 ⟨t/4294967296,out.set (i+j) (t %4294967296),by rw[cO (by omega)],by simp[aN],aM.set (by omega) (by omega),bb.Vh _ (by omega),by omega,by omega,?_⟩;rw[pC (by omega),show i+(j+1)=(i+j)+1 by omega,ia,h6 ao];have bY:=jM t 4294967296;rw[zM] at p9|-;generalize t/4294967296=q at*;generalize t %4294967296=r at*;generalize out[i+j]=o at*;generalize b[j]=y at*;generalize a[i]=x at*;have e7:r=c+x*y+o-4294967296*q:=(by omega);clear bY aX ah t0 t1 ak ab aB aJ;subst e7;grind
 ·rintro _ ⟨c,out,rfl,aN,aM,bb,bH,dv,p9⟩;simp only[a1 (show¬((b.length:Int)<aS b) by simp only[bL];omega),cond_false];refine U.ar.2 (aq c out aN aM bb bH dv ?_);rw[p9,dW (bU _)]
theorem axJ {a b:List Int} (aC:bi a) (aa:bi b) (kY:a.length<=10000000) (f5:b.length<=10000000):U (LL (a,b,())) (fun r=>∃out,r=(out,())/\bi out/\af out=af a*af b/\out.length=a.length+b.length):=by
 unfold LL;dsimp only;have ek:aQ (aS a+aS b)=((a.length+b.length:Nat):Int):=(by simp only[bL];rw[b4 (by omega) (by omega)];simp);rw[ek,jZ (by omega),Option.bind_some];refine U.bJ (P:=fun r=>∃out,r=(out,())/\out.length=a.length+b.length/\bi out/\af out=af a*af b) ?_ ?_
 ·refine U.steps a.length (fun i s=>∃out,s=((i:Int),out,())/\out.length=a.length+b.length/\bi out/\js out (i+b.length)/\af out=af (a.take i)*af b) ⟨_,rfl,by simp,bi.n3 _,js.n3 _ _,by simp[af,tC]⟩ ?_ ?_
  ·rintro i _ hi ⟨out,rfl,aN,aM,bb,bH⟩;dsimp only;rw[cT (a8 (show(i:Int)<aS a by simp only[bL];omega))];refine U.bJ (P:=fun r=>∃c ml,r=(c,ml,())/\ml.length=a.length+b.length/\bi ml/\js ml (i+b.length)/\0<=c/\c<4294967296/\af ml+a9 (i+b.length)*c=af out+a9 i*(a[i]*af b)) (axX aC hi aa (by omega) (by omega) aN aM bb fun c ml fy eu p8 w2 w3 BY=>⟨c,ml,rfl,fy,eu,p8,w2,w3,BY⟩) ?_;rintro _ ⟨c,ml,rfl,fy,eu,p8,w2,w3,BY⟩;have aA:aQ ((i:Int)+aS b)=((i+b.length:Nat):Int):=(by simp only[bL];rw[b4 (by omega) (by omega)];simp);dsimp only;rw[aA,m7 w2 w3,m8 (by omega)];refine U.ar.2 ⟨ml.set (i+b.length) c,by rw[cO (by omega)],by simp[fy],eu.set w2 w3,?_,?_⟩
   ·rw[show i+1+b.length=i+b.length+1 by omega];exact p8.set _
   ·rw[pC (by omega),p8 _ (bU _) (by omega),h6 hi,Int.sub_zero,BY,bH];grind
  ·rintro _ ⟨out,rfl,aN,aM,bb,bH⟩;dsimp only;rw[c1 (a1 (show¬((a.length:Int)<aS a) by simp only[bL];omega))];refine U.ar.2 ⟨out,rfl,aN,aM,?_⟩;rw[bH,List.take_of_length_le (Nat.le_refl _)]
 ·rintro _ ⟨out,rfl,aN,aM,bb⟩;exact U.ar.2 ⟨out,rfl,aM,bb,aN⟩
section
section
variable {α aT:Type}
theorem US {A w C:List α} {k:Nat} {i:Int} (h:k<w.length) (hi:i=((A.length+k:Nat):Int)) (f:α->Option aT):rd (A++(w++C)) i f=f w[k]:=by subst hi;refine axn (by omega) ?_ f;rw[d7,tR (by omega),sn,sk h,cr h]
theorem azX {A w C:List α} {k:Nat} {i:Int} (h:k<w.length) (hi:i=((A.length+k:Nat):Int)) (x:α) (f:List α->Option aT):wr (A++(w++C)) i x f=f (A++(w.set k x++C)):=by subst hi;rw[m8 (by simp;omega),Jp h]
end
theorem aza {A w C v:List Int} {g:Int} (hv:bi v) (hw:bi w) (ag:w.length=v.length+1) (rB:A.length+w.length<=100000000) (aG:0<=g/\g<4294967296):U (Gt (A++(w++C),v,(A.length:Int),g,())) (fun r=>(af w<g*af v/\r=(A++(w++C),false,()))\/(∃w',g*af v<=af w/\r=(A++(w'++C),true,())/\w'.length=w.length/\bi w'/\af w'=af w-g*af v)):=by
 unfold Gt;dsimp only;have ek:bN (aS v)=((v.length+1:Nat):Int):=(by simp only[bL];exact cO (by omega));rw[ek,jZ (by omega),Option.bind_some];have c4:=ej hv;have us:=ej hw;refine U.bJ (P:=fun r=>∃b out,r=(b,A++(w++C),out,())/\out.length=v.length+1/\bi out/\0<=b/\b<=1/\af out-a9 (v.length+1)*b=af w-g*af v) ?_ ?_
 ·refine U.steps (v.length+1) (fun i s=>∃b c out,s=(b,c,(i:Int),A++(w++C),out,())/\out.length=v.length+1/\bi out/\js out i/\0<=c/\c<4294967296/\(i=v.length+1->c=0)/\0<=b/\b<=1/\af out-a9 i*(b+c)=af (w.take i)-g*af (v.take i)) ⟨0,0,List.replicate (v.length+1) 0,rfl,by simp,bi.n3 _,js.n3 _ _,by omega,by omega,fun _=>rfl,by omega,by omega,by simp[af,tC]⟩ ?_ ?_
  ·rintro i _ hi ⟨b,c,out,rfl,J,R,ac,aL,aY,Zj,bG,eF,pS⟩;have ab:=hv.getD i;have aB:=hw.get (n:=i) (by omega);have ak:=Iw aG ab;obtain⟨p,aw,p7,fy⟩:∃p,p=c+g*v.getD i 0/\0<=p/\p<18446744073709551616:=⟨_,rfl,by omega,by omega⟩;obtain⟨d,aP,cK,cG⟩:∃d,d=w[i]-b-p %4294967296/\-4294967296<=d/\d<4294967296:=⟨_,rfl,by omega,by omega⟩;dsimp only;rw[cT (a8 (show(i:Int)<=aS v by simp only[bL];omega))];refine U.bJ (P:=fun r=>r=(-(d/4294967296),p/4294967296,A++(w++C),out.set i (d %4294967296),())) ?_ ?_
   ·refine U.bJ (P:=fun r=>r=(p,A++(w++C),out,())) ?_ ?_
    ·rw[cC];refine U.ite (fun h=>?_) fun h=>?_
     ·have h:i<v.length:=(by simp only[bL] at h;omega);rw[dC h];rw[mJ h] at ab aw ak;refine U.ar.2 ?_;rw[dr (x:=v[i]) (by omega) (by omega),dr (x:=g*v[i]) (by omega) (by omega),<-aw,dr p7 fy]
     ·have h:v.length<=i:=(by simp only[bL] at h;omega);rw[rz h] at aw;refine U.ar.2 ?_;rw[aw];simp
    ·rintro _ rfl;dsimp only;have aA:aQ ((i:Int)+(A.length:Int))=((A.length+i:Nat):Int):=(by rw[b4 (by omega) (by omega)];omega);have aX:bc (bc (bc w[i]-b)-ed IntKind.u64 p 4294967295)=d %18446744073709551616:=by
      rw[and_low32 p7 fy,n2,n2,n2,aP];omega
     rw[US (k:=i) (by omega) aA,qe,bq,aX,m8 (by omega),aeI,bq,tE];refine U.ar.2 ?_;have aN:d %18446744073709551616/9223372036854775808=-(d/4294967296):=(by omega);have aM:d %18446744073709551616 %4294967296=d %4294967296:=(by omega);rw[aN,aM]
   ·rintro _ rfl;dsimp only;refine U.ar.2 ⟨-(d/4294967296),p/4294967296,out.set i (d %4294967296),by rw[cO (by omega)],by simp[J],R.set (by omega) (by omega),ac.set _,by omega,by omega,?_,by omega,by omega,?_⟩
    ·intro kj;rw[rz (by omega)] at aw;omega
    ·rw[pC (by omega),ac i (bU _) (by omega),ia,h6 (show i<w.length by omega),E9];have f1:=jM d 4294967296;have cE:=jM p 4294967296;generalize d/4294967296=k4 at*;generalize d %4294967296=vW at*;generalize p/4294967296=UC at*;generalize p %4294967296=pr at*;generalize w[i]=y at*;generalize v.getD i 0=x at*;have g6:pr=c+g*x-4294967296*UC:=(by omega);have ny:vW=y-b-pr-4294967296*k4:=(by omega);clear f1 cE aP aw cK cG p7 fy ak ab aB;rw[ny,g6];grind
  ·rintro _ ⟨b,c,out,rfl,J,R,ac,aL,aY,Zj,bG,eF,pS⟩;dsimp only;rw[c1 (a1 (show¬(((v.length+1:Nat):Int)<=aS v) by simp only[bL];omega))];have hc:=Zj rfl;subst hc;rw[List.take_of_length_le (by omega),List.take_of_length_le (by omega),Int.add_zero] at pS;exact U.ar.2 ⟨b,out,rfl,J,R,bG,eF,pS⟩
 rintro _ ⟨b,out,rfl,J,R,ac,aL,aY⟩;have ca:=gU R;have kS:=ej R;have aw:=eU (v.length+1);rw[J] at ca;dsimp only;rw[ee];by_cases aa:b=0
 ·rw[a8 aa];subst aa;rw[Int.mul_zero] at aY;refine U.bJ (P:=fun r=>r=(A++(out++C),())) ?_ ?_
  ·refine U.steps (v.length+1) (fun i s=>s=((i:Int),A++((out.take i++w.drop i)++C),out,())) rfl ?_ ?_
   ·rintro i _ hi rfl;have aA:aQ ((i:Int)+(A.length:Int))=((A.length+i:Nat):Int):=(by rw[b4 (by omega) (by omega)];omega);dsimp only;rw[cT (a8 (show(i:Int)<=aS v by simp only[bL];omega)),oC (by omega),azX (k:=i) (by simp;omega) aA,cO (by omega)];refine U.ar.2 ?_;show(_,A++(List.set (out.take i++w.drop i) i out[i]++C),out,())=(_,A++((out.take (i+1)++w.drop (i+1))++C),out,());congr 4;have RB:out.take (i+1)=out.take i++[out[i]]:=(by rw[List.take_add_one,List.getElem?_eq_getElem (by omega)];rfl);rw[List.set_append_right _ _ (by simp;omega),RB,List.length_take,Nat.min_eq_left (by omega),Nat.sub_self,List.drop_eq_getElem_cons (show i<w.length by omega),List.set_cons_zero,List.append_assoc];rfl
   ·rintro _ rfl;dsimp only;rw[c1 (a1 (show¬(((v.length+1:Nat):Int)<=aS v) by simp only[bL];omega))];refine U.ar.2 ?_;show(A++((out.take (v.length+1)++w.drop (v.length+1))++C),())=_;rw[List.take_of_length_le (by omega),List.drop_eq_nil_of_le (by omega),List.append_nil]
  ·rintro _ rfl;exact U.ar.2 (.inr ⟨out,by omega,rfl,by omega,R,by omega⟩)
 ·rw[a1 aa];obtain rfl:b=1:=(by omega);refine U.ar.2 (.inl ⟨by omega,rfl⟩)
theorem axp {v fB:List Int} {V kr:Int} {n m N:Nat} (hv:bi v) (c4:af v=V) (mU:v.length=n+1) (aoD:V<a9 (n+1)) (aBb:1<=v[n]) (aR:bi fB) (us:af fB=kr) (rB:fB.length=N) (ak:N=m+(n+1)) (aoz:N<=10000000) (jz:1<=m) (ca:af (fB.drop m)<V) (b:List Int) (aa:b.length=n+1) {cd:k3->Prop} (aq:∀q u,q.length=m->bi q->u.length=N->bi u->af u+V*af q=kr->af u<V->cd (u,q,())):U (loop (σ:=(Int×bx×bx×Unit)) (ρ:=k3) (fun(qK,xm,IX,_)=>
 bif decide (qK>=0) then
 rd xm (aQ (qK+aS b)) fun VP=>
 (iq IntKind.u64 (bc VP) 32).bind fun VQ=>
 rd xm (aQ (aQ (qK+aS b)-1)) fun VR=>
 (bf v (aQ (aS b-1))).bind fun VS=>
 (ip IntKind.u64 (fF IntKind.u64 VQ (bc VR)) (bc VS)).bind fun JL=>
 (loop (σ:=(Int×bx×bx×Unit)) (ρ:=(Int×bx×bx×Unit)) (fun(A9,VC,IY,_)=>
 (
  Gt (VC,v,qK,A9,())).bind fun(Il,UJ,_)=>
  bif !UJ then
 some (.inl (bc (A9-1),Il,IY,())) else
 some (.inr (A9,Il,IY,()))) ((if 4294967295<JL then 4294967295 else JL),xm,IX,())).bind fun(Rz,VD,UG,_)=>
 wr UG qK (dt Rz) fun V1=>
 some (.inl (aQ (qK-1),VD,V1,())) else
 some (.inr (xm,IX,()))) (((m:Int)-1),fB,List.replicate m (0:Int),())) cd:=by
 have aBC:af v=af (v.take n)+a9 n*v[n]:=(by rw[<-h6 (by omega),dW (by omega)]);have s2:=ej (hv.take n);have pX:=gU (hv.take n);rw[eW,hU (by omega)] at pX;have uF:=hv.get (n:=n) (by omega);have om:0<V:=(by have:=vk (eU n) (show 0<v[n] by omega);omega);refine U.steps m (fun i s=>∃q u,s=(((m:Nat):Int)-1-i,u,q,())/\q.length=m/\bi q/\(∀k,k<m-i->(ae:k<q.length)->q[k]=0)/\u.length=N/\bi u/\af u+V*af q=kr/\af (u.drop (m-i))<V) ⟨List.replicate m 0,fB,by simp,by simp,bi.n3 _,by simp,rB,aR,by rw[tC,us];omega,ca⟩ ?_ ?_
 ·rintro i _ hi ⟨q,u,rfl,aN,aM,bb,m5,eS,J,R⟩;obtain⟨k,ae⟩:∃k,m=k+1+i:=⟨m-1-i,by omega⟩;have aA:((m:Nat):Int)-1-(i:Int)=(k:Int):=(by omega);rw[show m-i=k+1 by omega] at R;obtain⟨A,dY⟩:∃A,A=u.take k:=⟨_,rfl⟩;obtain⟨w,hw⟩:∃w,w=(u.drop k).take (n+2):=⟨_,rfl⟩;obtain⟨C,sQ⟩:∃C,C=u.drop (k+(n+2)):=⟨_,rfl⟩;have sO:A.length=k:=(by rw[dY,eW];omega);have pd:w.length=n+2:=(by rw[hw,eW,oO];omega);have mT:u=A++(w++C):=by
   rw[dY,hw,sQ,<-tP,oQ,oQ]
  have aom:C.length=N-(k+(n+2)):=(by rw[sQ,oO,m5]);have Tm:bi A:=(by rw[dY];exact eS.take k);have wJ:bi w:=(by rw[hw];exact(eS.drop k).take _);have H9:bi C:=(by rw[sQ];exact eS.drop _);have ao0:af (u.drop k)=af w+a9 (n+2)*af C:=(by rw[mT,vo (by omega),vp (by omega),hk,n0,pd]);have ao1:af (u.drop k)=u[k]+4294967296*af (u.drop (k+1)):=n1 (by omega);have ab:=eS.get (n:=k) (by omega);have RC:=ej H9;have aon:0<=a9 (n+2)*af C:=qg (eM (eU _)) RC;have M8:af (u.drop k)<4294967296*V:=(by omega);have aaC:=ej wJ;have RD:af C=0:=by
   rcases iO 0 (af C) with g|g
   ·exfalso;have:=kI (show 1<=af C by omega) (eM (eU (n+2)));have e:a9 (n+2)=4294967296*a9 (n+1):=ia (n+1);omega
   ·omega
  have fY:0<=af w/V:=Int.ediv_nonneg aaC (by omega);have kU:af w/V<4294967296:=Int.ediv_lt_of_lt_mul om (by omega);have DR:=Int.emod_add_mul_ediv (af w) V;have sW:=Int.emod_lt_of_pos (af w) om;have mQ:=Int.emod_nonneg (af w) (show V≠0 by omega);have aaE:=wJ.get (n:=n+1) (by omega);have aqB:=wJ.get (n:=n) (by omega);have i1:aQ ((k:Int)+aS b)=((A.length+(n+1):Nat):Int):=(by simp only[bL];rw[b4 (by omega) (by omega)];omega);have i2:aQ (aQ ((k:Int)+aS b)-1)=((A.length+n:Nat):Int):=(by rw[i1,b4 (by omega) (by omega)];omega);have i3:aQ (aS b-1)=((n:Nat):Int):=(by simp only[bL];rw[b4 (by omega) (by omega)];omega);obtain⟨t1,t2⟩:=O7 (x:=w[n+1]) (y:=w[n]) aaE aqB;obtain⟨t3,t4⟩:=OB (x:=4294967296*w[n+1]+w[n]) (y:=v[n]) ⟨by omega,by omega⟩ (by omega);have aBn:af w/V<=(4294967296*w[n+1]+w[n])/v[n]:=(by rw[Int.le_ediv_iff_mul_le (by omega)];have da:af w=af (w.take n)+a9 n*(4294967296*w[n+1]+w[n]):=(by have:=Pj (l:=w) (m:=n) pd;rw[this];grind);have cw:=gU (wJ.take n);rw[List.length_take,Nat.min_eq_left (by omega)] at cw;have ju:a9 n*(af w/V*v[n])<=af w:=(by have cK:af w/V*(a9 n*v[n])<=af w/V*V:=Int.mul_le_mul_of_nonneg_left (by omega) fY;have cG:a9 n*(af w/V*v[n])=af w/V*(a9 n*v[n]):=(by grind);rw[Int.mul_comm (af w/V) V] at cK;omega);have lB:a9 n*(af w/V*v[n])<a9 n*(4294967296*w[n+1]+w[n]+1):=(by rw[Int.mul_add (a9 n),Int.mul_one];omega);have:=Int.lt_of_mul_lt_mul_left lB (Int.le_of_lt (eU n));omega);dsimp only;rw[aA,cT (a8 (show(k:Int)>=0 by omega))]
  conv=>arg 1;rw[mT]
  rw[US (k:=n+1) (by omega) i1];refine U.bs (by rw[dr aaE.1 (by omega)];exact t1) ?_;rw[US (k:=n) (by omega) i2];refine U.bs (by rw[i3];exact dC (by omega)) ?_;refine U.bs (by rw[t2,dr uF.1 (by omega)];exact t3) ?_;refine U.bJ (P:=fun r=>∃w',r=(af w/V,A++(w'++C),q,())/\w'.length=n+2/\bi w'/\af w'=af w %V) ?_ ?_
  ·have ZW:0<=(4294967296*w[n+1]+w[n])/v[n]:=oJ (by omega) (by omega);refine U.loop (fun s=>∃g,s=(g,A++(w++C),q,())/\af w/V<=g/\g<4294967296) (fun s=>s.1.toNat) ⟨_,rfl,by split<;>omega,by split<;>omega⟩ ?_;rintro _ ⟨g,rfl,bS,bt⟩;have ae3:=aza (A:=A) (w:=w) (C:=C) (v:=v) (g:=g) hv wJ (by omega) (by omega) ⟨by omega,bt⟩;rw[sO] at ae3;refine U.bJ ae3 ?_;rintro _ (⟨bk,rfl⟩|⟨w',bk,rfl,bD,cm,fx⟩)
   ·have Hk:af w/V<g:=by
     rw[c4] at bk;exact vj om bk
    refine U.ar.2 ⟨⟨g-1,by rw[dr (by omega) (by omega)],by omega,by omega⟩,?_⟩;show(bc (g-1)).toNat<g.toNat;rw[dr (by omega) (by omega)];omega
   ·rw[c4] at bk fx;have fb:g<=af w/V:=(Int.le_ediv_iff_mul_le om).2 bk;have M4:g=af w/V:=(by omega);refine U.ar.2 ⟨w',by rw[M4],by omega,cm,?_⟩;rw[fx,M4,jl];omega
  rintro _ ⟨w',rfl,ve,fe,afA⟩;dsimp only;rw[m7 fY kU,m8 (by omega)];refine U.ar.2 ⟨q.set k (af w/V),A++(w'++C),?_,by simp[aN],aM.set fY kU,?_,by simp;omega,bi.append.2 ⟨Tm,bi.append.2 ⟨fe,H9⟩⟩,?_,?_⟩
  ·rw[b4 (by omega) (by omega)];congr 1;omega
  ·intro bD cm fx;rw[zV (by omega)];exact bb bD (by omega) (by simpa using fx)
  ·rw[pC (by omega),bb k (by omega) (by omega),n0,n0,sO,afA];rw[mT,n0,n0,sO,pd] at J;rw[ve];have No:af w=V*(af w/V)+af w %V:=(by omega);exact Yg J No
  ·rw[show m-(i+1)=k by omega,vo (by omega),vp (by omega),hk,n0,RD,afA];omega
 ·rintro _ ⟨q,u,rfl,aN,aM,bb,m5,eS,J,R⟩;have aA:¬(((m:Nat):Int)-1-(m:Int)>=0):=(by omega);simp only[a1 aA,cond_false];rw[Nat.sub_self,qh] at R;exact U.ar.2 (aq q u aN aM m5 eS J R)
end
theorem atx {b:List Int} {n:Nat} (aa:bi b) (tb:ec b) (ag:b.length=n+1):∃s:Nat,s<=31/\AC (b[n],())=some ((s:Int),())/\af b*2^s<a9 (n+1)/\2147483648*a9 n<=af b*2^s:=by
 have ab:=aa.get (n:=n) (by omega);have aV:b[n]≠0:=tb _ (by rw[List.getLast?_eq_getElem?,cr (by omega)];congr 2;omega);have ac:af b=af (b.take n)+a9 n*b[n]:=(by rw[<-h6 (by omega),dW (by omega)]);have aL:=ej (aa.take n);have aY:=gU (aa.take n);rw[eW,hU (by omega)] at aY;generalize b[n]=t at*;obtain⟨k,rfl⟩:=fL ab.1;have ae:0<k:=(by omega);have aoO:aU k<=32:=es.2 (by omega);have DP:=ub ae;obtain⟨da,cw⟩:=C9 ae;obtain⟨j,ao⟩:∃j,aU k=j+1:=⟨aU k-1,by omega⟩;refine⟨32-aU k,by omega,?_,?_,?_⟩
 ·unfold AC;refine aI (Tr (n:=k) (by omega)) ?_;show some (aQ (32-(aU k:Int)),())=_;rw[b4 (by omega) (by omega)];congr 2;omega
 ·have aA:af b<a9 n*2^aU k:=by
   have:a9 n*((k:Int)+1)<=a9 n*2^aU k:=kI (by rw[<-lR];omega) (eM (eU _));have aX:a9 n*((k:Int)+1)=a9 n*(k:Int)+a9 n:=(by rw[Int.mul_add,Int.mul_one]);show af b<_;rw[ac];show af (b.take n)+a9 n*(k:Int)<_;omega
  have bY:af b*2^(32-aU k)<a9 n*2^aU k*2^(32-aU k):=zP aA (lj _);rw[ra,<-pG,show aU k+(32-aU k)=32 by omega] at bY;rw[ia];have:a9 n*2^32=4294967296*a9 n:=(by rw[jl];rfl);omega
 ·have aA:a9 n*2^j<=af b:=by
   have:a9 n*2^j<=a9 n*(k:Int):=kI (by rw[<-lR];rw[ao] at da;simp only[CV] at da;omega) (eM (eU _));rw[ac];show _<=af (b.take n)+a9 n*(k:Int);omega
  have bY:a9 n*2^j*2^(32-aU k)<=af b*2^(32-aU k):=oK aA (eM (lj _));rw[ra,<-pG,show j+(32-aU k)=31 by omega] at bY;have:a9 n*2^31=2147483648*a9 n:=(by rw[jl];rfl);omega
theorem ay9 {l:List Int} {k:Nat} (ai:bi l) (ae:k<=l.length) (h:af l<a9 k):af (l.take k)=af l:=by
 have J:=sc l k ae;have R:=ej (ai.drop k);have ac:=ej (ai.take k);rcases iO 0 (af (l.drop k)) with g|g
 ·exfalso;have:=kI (show 1<=af (l.drop k) by omega) (eM (eU k));omega
 ·rw[show af (l.drop k)=0 by omega] at J;omega
theorem axq {a b:List Int} (aC:bi a) (aa:bi b) (ta:ec a) (tb:ec b) (kY:a.length<=1000000) (f5:b.length<=1000000) (k6:b≠[]):LK (a,b,())=some (c6 (af a/af b).toNat,c6 (af a %af b).toNat,()):=by
 unfold LK;refine U.eq_iff.1 ?_;have Bb:=ej aC;have kR:0<af b:=(by have:=ej aa;have:af b≠0:=fun e=>k6 (ec.zero aa tb e);omega);refine U.bs (adT aC aa ta tb (by omega) (by omega)) ?_;dsimp only;rw[cC];refine U.ite (fun h=>?_) fun h=>?_
 ·have ca:af a<af b:=XR.1 h;refine U.ar.2 ?_;rw[tK Bb ca,xE Bb ca];show(([]:List Int),a,())=(c6 0,c6 (af a).toNat,());rw[Q2,<-ec.eq aC ta]
 have kS:af b<=af a:=Int.not_lt.1 (mt XR.2 h);obtain⟨n,ag⟩:∃n,b.length=n+1:=(by have:=J8.2 k6;exact⟨b.length-1,by omega⟩);have aA:aQ (aS b-1)=((n:Nat):Int):=(by simp only[bL];rw[b4 (by omega) (by omega)];omega);obtain⟨s,fA,hx,lm,r1⟩:=atx aa tb ag;have apA:n+1<=a.length:=by
  rcases ct a.length (n+1) with g|g
  ·have:=vc aC aa tb (by omega);omega
  ·exact g
 have aw:=lj s;refine U.bs (y:=b[n]) (by rw[aA];exact dC (by omega)) (U.bs hx ?_);refine U.bJ (U3 aC (by omega) (n:=s) (by omega)) ?_;rintro _ ⟨fB,rfl,Ij,mT,qJ⟩;refine U.bJ (U3 aa (by omega) (n:=s) (by omega)) ?_;rintro _ ⟨v0,rfl,abE,aax,ld⟩;rw[show s/32=0 by omega,Nat.zero_add] at qJ ld;have e7:aS b=((n+1:Nat):Int):=(by simp only[bL];omega);dsimp only;refine U.bs (y:=(0,n+1)) ?_ ?_
 ·rw[e7,bq,EB,bq,Ie ⟨eX _,by omega⟩,bq,adt (by omega)];rfl
 obtain⟨v,hv⟩:∃v,v=(v0.take (n+1)).drop 0:=⟨_,rfl⟩;have kC:v=v0.take (n+1):=(by rw[hv,qh]);have cB:bi v:=(by rw[kC];exact abE.take _);have c4:af v=af b*2^s:=(by rw[kC,ay9 abE (by omega) (by rw[aax];exact lm),aax]);have mU:v.length=n+1:=(by rw[kC,eW];omega);have Br:1<=v[n]:=by
  have ac:af v=af (v.take n)+a9 n*v[n]:=(by rw[<-h6 (by omega),dW (by omega)]);have aY:=gU (cB.take n);rw[eW,hU (by omega)] at aY;have yD:=eU n;rcases iO v[n] 1 with g|g
  ·exfalso;have:v[n]=0:=(by have:=cB.get (n:=n) (by omega);omega);rw[this] at ac;omega
  ·exact g
 dsimp only;rw[<-hv];refine U.bs (y:=(v,fB,())) ?_ ?_
 ·rw[c1];rw[eY];exact a1 (by simp only[bL];omega)
 obtain⟨m,ak⟩:∃m,a.length+1=m+(n+1):=⟨a.length+1-(n+1),by omega⟩;have aX:aQ (aS a-aS b)=(m:Int)-1:=(by simp only[bL];rw[b4 (by omega) (by omega)];omega);have bY:bN (aQ (aS a-aS b))=((m:Nat):Int):=(by rw[aX];unfold bN;rw[wrap64 (by omega) (by omega)];omega);dsimp only;refine U.bs (y:=m) (by rw[bY];exact jZ (by omega)) ?_;have ca:af (fB.drop m)<af b*2^s:=(by have J:=sc fB m (by omega);have R:=ej (Ij.take m);rw[mT] at J;have ac:af a*2^s<a9 a.length*2^s:=Int.mul_lt_mul_of_pos_right (gU aC) aw;have aL:a9 a.length=a9 m*a9 n:=(by rw[<-zM];congr 1;omega);have aY:a9 m*af (fB.drop m)<a9 m*(a9 n*2^s):=(by rw[<-Int.mul_assoc,<-aL];omega);have bG:=Int.lt_of_mul_lt_mul_left aY (Int.le_of_lt (eU m));have eF:a9 n*2^s<=a9 n*2147483648:=Int.mul_le_mul_of_nonneg_left (B2 fA) (Int.le_of_lt (eU _));omega);rw[aX];refine U.bJ (P:=fun r=>∃q u,r=(u,q,())/\q.length=m/\bi q/\u.length=a.length+1/\bi u/\af u+af b*2^s*af q=af a*2^s/\af u<af b*2^s) (axp cB c4 mU lm Br Ij mT qJ ak (by omega) (by omega) ca b ag fun q u J R ac aL aY bG=>⟨q,u,rfl,J,R,ac,aL,aY,bG⟩) ?_;rintro _ ⟨q,u,rfl,aN,aM,m5,eS,aY,bG⟩;have aaw:=ej eS;have aq:af u=2^s*(af a-af b*af q):=(by have pO:af b*2^s*af q=2^s*(af b*af q):=(by grind);have uh:2^s*(af a-af b*af q)=2^s*af a-2^s*(af b*af q):=Int.mul_sub ..;rw[Int.mul_comm (af a)] at aY;omega);have RP:0<=af a-af b*af q:=by
  rcases iO (af a-af b*af q) 0 with g|g
  ·have:=Int.mul_neg_of_pos_of_neg aw g;omega
  ·exact g
 have DK:af a-af b*af q<af b:=(by have:2^s*(af a-af b*af q)<2^s*af b:=(by rw[<-aq,Int.mul_comm (2^s)];exact bG);exact Int.lt_of_mul_lt_mul_left this (Int.le_of_lt aw));have RQ:af u/2^s=af a-af b*af q:=(by rw[aq];exact Int.mul_ediv_cancel_left _ (by omega));obtain⟨f1,cE⟩:=OC (A:=af a) (B:=af b) (q:=af q) (r:=af a-af b*af q) kR (by omega) RP DK;dsimp only;refine U.bs (Jh eS (by omega)) ?_;dsimp only;refine U.bJ (U4 (a:=hz u) (n:=s) (Vz u) (by have:=ae5 eS;omega) (by omega)) ?_;rintro _ ⟨o,rfl,hu,kZ,uQ⟩;have acn:=ae5 eS;dsimp only;refine U.bs (Jh aM (by omega)) (U.bs (Jh hu (by omega)) (U.ar.2 ?_));show(hz q,hz o,())=_;rw[hz,hz,kZ,VA eS,RQ,f1,cE]
theorem I9 {x y:Int} (ab:aU x.natAbs<=3000000) (aB:aU y.natAbs<=3000000):uf (be x,be y,())=some (be (x+y),()):=by
 obtain⟨ch,c8,a3⟩:=hM ab;obtain⟨dg,dF,hE⟩:=hM aB;unfold uf;dsimp only;refine U.eq_iff.1 ?_;refine U.bs (zn ch c8 (by omega)) (U.bs (zn dg dF (by omega)) ?_);dsimp only;have pe:=ih x;have HE:=ih y;have E6:(be x).1=decide (x<0):=rfl;have Vq:(be y).1=decide (y<0):=rfl;rw[E6,Vq];by_cases hs:(decide (x<0)==decide (y<0))=true
 ·rw[cT hs];refine U.bJ (axj ch dg (by omega) (by omega)) ?_;rintro _ ⟨o,rfl,hu,kZ,uQ⟩;refine U.bs (zk hu (by show o.length<=_;omega) kZ) (U.ar.2 ?_);dsimp only;congr 2;have:decide (x<0)=decide (y<0):=(by simpa using hs);have ac:x<0↔y<0:=(by simpa using this);rw[pe,HE];by_cases h:x<0
  ·rw[if_pos (a8 h)];have:=ac.1 h;omega
  ·rw[if_neg (by simpa using h)];have:=mt ac.2 h;omega
 ·rw[c1 (by simpa using hs)];have ac:¬(x<0↔y<0):=(by simpa using hs);refine U.bs (adT ch dg c8 dF (by omega) (by omega)) ?_;dsimp only;rw[cC];refine U.ite (fun g=>?_) fun g=>?_
  ·have fb:=x2.1 g;have ai:(be y).2.1.length<=(be x).2.1.length:=by
    rcases ct (be x).2.1.length (be y).2.1.length with k|k
    ·have:=vc ch dg dF k;omega
    ·exact k
   refine U.bJ (aeq ch dg (by omega) ai fb) ?_;rintro _ ⟨o,rfl,hu,kZ,uQ⟩;refine U.bs (zk hu (by show o.length<=_;omega) kZ) (U.ar.2 ?_);dsimp only;congr 2;rw[pe,HE] at*;by_cases h:x<0
   ·rw[if_pos (a8 h)];have:¬y<0:=fun aL=>ac ⟨fun _=>aL,fun _=>h⟩;omega
   ·rw[if_neg (by simpa using h)];have:y<0:=Decidable.byContradiction fun aL=>ac ⟨fun aY=>absurd aY h,fun aY=>absurd aY aL⟩;omega
  ·have fb:af (be x).2.1<af (be y).2.1:=Int.not_le.1 (mt x2.2 g);have ai:(be x).2.1.length<=(be y).2.1.length:=by
    rcases ct (be y).2.1.length (be x).2.1.length with k|k
    ·have:=vc dg ch c8 k;omega
    ·exact k
   refine U.bJ (aeq dg ch (by omega) ai (Int.le_of_lt fb)) ?_;rintro _ ⟨o,rfl,hu,kZ,uQ⟩;refine U.bs (zk hu (by show o.length<=_;omega) kZ) (U.ar.2 ?_);dsimp only;congr 2;rw[pe,HE] at*;by_cases h:x<0
   ·have aL:¬y<0:=fun aL=>ac ⟨fun _=>aL,fun _=>h⟩;rw[if_neg (by simpa using aL)];omega
   ·have aL:y<0:=Decidable.byContradiction fun aL=>ac ⟨fun aY=>absurd aY h,fun aY=>absurd aY aL⟩;rw[if_pos (a8 aL)];omega
theorem aep {x y:Int} (ab:aU x.natAbs<=3000000) (aB:aU y.natAbs<=3000000):Dq (be x,be y,())=some (be (x-y),()):=by unfold Dq;refine aI (aee aB) ?_;dsimp only;exact aI (I9 ab (by rw[Int.natAbs_neg];exact aB)) (by rw[<-Int.sub_eq_add_neg])
theorem aeb {x y:Int} (ab:aU x.natAbs<=3000000) (aB:aU y.natAbs<=3000000):Gp (be x,be y,())=some (be (x*y),()):=by
 obtain⟨ch,c8,a3⟩:=hM ab;obtain⟨dg,dF,hE⟩:=hM aB;unfold Gp;dsimp only;refine U.eq_iff.1 ?_;refine U.bs (zn ch c8 (by omega)) (U.bs (zn dg dF (by omega)) ?_);dsimp only;refine U.bJ (axJ ch dg (by omega) (by omega)) ?_;rintro _ ⟨o,rfl,hu,kZ,uQ⟩;refine U.bs (zk hu (by show o.length<=_;omega) kZ) (U.ar.2 ?_);dsimp only;rw[ih,ih];congr 2;show(if(!(decide (x<0)==decide (y<0)))=true then _ else _)=_;rcases Int.lt_or_le x 0 with bS|bS<;>rcases Int.lt_or_le y 0 with bt|bt
 ·rw[a8 bS,a8 bt];have aA:(x.natAbs:Int)=-x:=(by omega);have aX:(y.natAbs:Int)=-y:=(by omega);rw[aA,aX];simp<;>grind
 ·rw[a8 bS,a1 (show¬y<0 by omega)];have aA:(x.natAbs:Int)=-x:=(by omega);have aX:(y.natAbs:Int)=y:=(by omega);rw[aA,aX];simp<;>grind
 ·rw[a8 bt,a1 (show¬x<0 by omega)];have aA:(x.natAbs:Int)=x:=(by omega);have aX:(y.natAbs:Int)=-y:=(by omega);rw[aA,aX];simp<;>grind
 ·rw[a1 (show¬y<0 by omega),a1 (show¬x<0 by omega)];have aA:(x.natAbs:Int)=x:=(by omega);have aX:(y.natAbs:Int)=y:=(by omega);rw[aA,aX];simp
theorem OO {n:Int} (J:-9223372036854775808<=n) (R:n<=9223372036854775807):vQ (n,())=some (be n,()):=by
 unfold vQ;dsimp only;obtain⟨u,aR,fB,m5⟩:∃u:Int,u=n.natAbs/\0<=u/\u<=9223372036854775808:=⟨_,rfl,by omega,by omega⟩;refine aI (y:=(u,(false,([],())),())) ?_ ?_
 ·rw[cC];split
  ·rename_i h;have aA:bN n=n+1:=(by unfold bN;exact wrap64 (by omega) (by omega));rw[aA,b4 (by omega) (by omega),dr (x:=0-(n+1)) (by omega) (by omega),dr (by omega) (by omega)];congr 2;omega
  ·rename_i h;rw[dr (by omega) (by omega)];congr 2;omega
 dsimp only;rw[qe,Option.bind_some,tE u,m7 (x:=u/4294967296) (by omega) (by omega)];refine aI (Jc (bi.cons.2 ⟨⟨by omega,by omega⟩,bi.cons.2 ⟨⟨by omega,by omega⟩,bi.nil⟩⟩) (by simp)) ?_;dsimp only;congr 2;congr 1;unfold gM;simp only[af];by_cases h:n<0
 ·simp[h];omega
 ·simp[h];omega
theorem Jf {z:Int} {n:Nat} (a2:aU z.natAbs<=3000000) (ag:n<=10000000):oX (be z,(n:Int),())=some (be (z*2^n),()):=by
 obtain⟨ch,c8,a3⟩:=hM a2;unfold oX;dsimp only;refine U.eq_iff.1 ?_;refine U.bs (EU a2) ?_;dsimp only;rw[cT (a8 (show(n:Int)>=0 by omega))];refine U.bJ (U3 ch (by omega) (n:=n) (by omega)) ?_;rintro _ ⟨o,rfl,hu,kZ,uQ⟩;rw[ih] at kZ;refine U.bs (zk hu (by show o.length<=_;omega) kZ) (U.ar.2 ?_);dsimp only;congr 2;show(if decide (z<0)=true then _ else _)=_;by_cases h:z<0
 ·rw[if_pos (a8 h),<-Int.neg_mul];congr 1;omega
 ·rw[if_neg (by simpa using h)];congr 1;omega
theorem aeo {z:Int} {n:Nat} (a2:aU z.natAbs<=2900000) (ag:n<=10000000) (Sn:0<n):oX (be z,-(n:Int),())=some (be (z/2^n),()):=by
 obtain⟨ch,c8,a3⟩:=hM (z:=z) (by omega);have aw:=lj n;unfold oX;dsimp only;refine U.eq_iff.1 ?_;refine U.bs (EU (by omega)) ?_;dsimp only;have aA:aQ (0- -(n:Int))=(n:Int):=(by rw[b4 (by omega) (by omega)];omega);rw[c1 (a1 (show¬(-(n:Int)>=0) by omega)),aA];refine U.bJ (U4 ch (by omega) (n:=n) (by omega)) ?_;rintro _ ⟨o,rfl,hu,kZ,uQ⟩;rw[ih] at kZ|-;dsimp only;refine U.bs (zk hu (by omega) kZ) ?_;dsimp only;have E6:(be z).1=decide (z<0):=rfl;rw[E6];have fY:0<=(z.natAbs:Int)/2^n:=Int.ediv_nonneg (by omega) (by omega);have kU:(z.natAbs:Int)/2^n<=z.natAbs:=Int.ediv_le_self _ (by omega);have R:=ace (m:=z.natAbs) aw (by omega);refine U.bs (y:=((false,([],())),be (z/2^n),())) ?_ (U.ar.2 rfl);by_cases h:z<0
 ·rw[a8 h];rw[show-(z.natAbs:Int)=z by omega] at R;by_cases ac:(z.natAbs:Int) %2^n=0
  ·rw[a1 (show¬((z.natAbs:Int) %2^n≠0) from fun g=>g ac)];refine aI rfl ?_;dsimp only[cond_false];rw[if_pos ac] at R;rw[if_pos rfl,R]
  ·rw[a8 (show(z.natAbs:Int) %2^n≠0 from ac)];refine aI rfl ?_;dsimp only[cond_true];rw[if_neg ac] at R;refine aI (OO (by decide) (by decide)) ?_;dsimp only;have aa:aU (-((z.natAbs:Int)/2^n)).natAbs<=3000000:=by
    rw[es];have:=es.1 a2;have aL:=adl 2900000 3000000 (by decide);omega
   rw[if_pos rfl];refine aI (aep aa (by decide)) ?_;rw[R];dsimp only;congr 4;omega
 ·rw[a1 h];refine aI rfl ?_;dsimp only[cond_false];rw[if_neg (by simp),show(z.natAbs:Int)=z by omega]
theorem adS {x y:Int} (ab:aU x.natAbs<=2900000) (aB:aU y.natAbs<=2900000):Gl (be x,be y,())=some (e2 x y,()):=by
 unfold Gl;refine aI (aep (by omega) (by omega)) ?_;have aa:aU (x-y).natAbs<=3000000:=(by have J:=Xw 2900000 ab aB;have R:=lA (show(x-y).natAbs<=x.natAbs+y.natAbs by omega);omega);refine aI (oD aa) ?_;dsimp only;congr 2;unfold eT e2;split
 ·rw[if_neg (by omega),if_neg (by omega)]
 ·split
  ·rw[if_pos (by omega)]
  ·rw[if_neg (by omega),if_pos (by omega)]
theorem Xv {a b k:Nat} (J:aU a<=k) (R:aU b<=k):aU (a+b)<=k+1:=by rw[es,mC];have:=es.1 J;have:=es.1 R;omega
theorem adV {x y:Int} (ab:aU x.natAbs<=3000000) (aB:aU y.natAbs<=3000000) (aaH:0<=x) (aV:y≠0):Gm (be x,be y,())=some (be (x/y),be (x %y),()):=by
 obtain⟨ch,c8,a3⟩:=hM ab;obtain⟨dg,dF,hE⟩:=hM aB;have k6:(be y).2.1≠[]:=fun e=>aV (Dz.1 e);unfold Gm;refine aI (EU ab) (aI (EU aB) ?_);dsimp only;refine aI (axq ch dg c8 dF (by omega) (by omega) k6) ?_;rw[ih,ih];have ag:(be x).1=false:=a1 (by omega);have Vq:(be y).1=decide (y<0):=rfl;rw[ag,Vq];have fY:0<=(x.natAbs:Int)/(y.natAbs:Int):=Int.ediv_nonneg (by omega) (by omega);have kU:(x.natAbs:Int)/(y.natAbs:Int)<=x.natAbs:=Int.ediv_le_self _ (by omega);have md:0<=(x.natAbs:Int) %(y.natAbs:Int):=Int.emod_nonneg _ (by omega);have kB:(x.natAbs:Int) %(y.natAbs:Int)<(y.natAbs:Int):=Int.emod_lt_of_pos _ (by omega);have ai:∀z:Int,z<=x.natAbs->(c6 z.toNat).length<=100000:=fun z a2=>JE (l:=(be x).2.1) ch a3 (by rw[ih];exact a2);have qC:∀z:Int,z<=y.natAbs->(c6 z.toNat).length<=100000:=fun z a2=>JE (l:=(be y).2.1) dg hE (by rw[ih];exact a2);dsimp only;refine aI (zk (lE _) (by have:=ai _ kU;omega) (AW fY)) (aI (zk (lE _) (by have:=qC _ (Int.le_of_lt kB);omega) (AW md)) ?_);dsimp only;rw[if_neg (show¬(false=true) by simp)];have aA:(x.natAbs:Int)=x:=(by omega);rw[aA] at*;have bY:x %(y.natAbs:Int)=x %y:=by
  rcases iO y 0 with g|g
  ·rw[show(y.natAbs:Int)=-y by omega,Int.emod_neg]
  ·rw[show(y.natAbs:Int)=y by omega]
 rw[bY] at*;have oh:0<=x %y:=q9 _ aV;have bS:x %y<y.natAbs:=Int.emod_lt x aV;have aoR:aU (x %y).natAbs<=3000000:=(by clear fY kU md kB ai qC;generalize x %y=m at*;exact d8 (lA (by omega)) aB);have e7:(if(!(false==decide (y<0)))=true then-(x/(y.natAbs:Int)) else x/(y.natAbs:Int))=x/y:=by
  rcases iO y 0 with g|g
  ·rw[a8 g,show(y.natAbs:Int)=-y by omega,Int.ediv_neg];simp
  ·rw[a1 (show¬y<0 by omega),show(y.natAbs:Int)=y by omega];simp
 rw[e7];refine aI (y:=((false,([],())),(false,([],())),be (x/y),be (x %y),())) ?_ rfl;refine aI (oD aoR) ?_;dsimp only;rw[c1 (a1 ?_)];clear fY kU md kB ai qC;generalize x %y=m at*;unfold eT;split;omega;split<;>omega
theorem axY {x:Int} (ab:aU x.natAbs<=900000) (aV:0<=x):LI (be x,())=some (be (cI x.toNat),()):=by
 unfold LI;refine U.eq_iff.1 ?_;refine U.bs (oD (by omega)) ?_;dsimp only;rw[eY,cC];refine U.ite (fun h=>?_) fun h=>?_
 ·have:x=0:=by
   unfold eT at h;split at h
   ·assumption
   ·split at h<;>omega
  subst this;exact U.ar.2 rfl
 have aaH:0<x:=by
  unfold eT at h;split at h
  ·exact absurd rfl h
  ·omega
 obtain⟨A,rfl⟩:=fL aV;have Bb:0<A:=(by omega);have dY:aU A<=900000:=ab;obtain⟨fA,hx⟩:=wB A;have Ni:0<cI A:=by
  rcases nl (cI A) with g|g
  ·rw[g] at hx;omega
  ·exact g
 refine U.bs (OO (by decide) (by decide)) (U.bs (B7 (by omega)) ?_);have aA:ip IntKind.i64 (bN (aU A:Int)) 2=some (((aU A+1)/2:Nat):Int):=(by unfold ip;rw[cO (by omega),if_pos (by decide),Int.tdiv_eq_ediv_of_nonneg (by omega),wrap64 (by omega) (by omega)];simp);dsimp only;refine U.bs aA (U.bs (Jf (z:=1) (by decide) (by omega)) ?_);have aX:(1:Int)*2^((aU A+1)/2)=((2^((aU A+1)/2):Nat):Int):=(by rw[lR,Int.one_mul]);rw[aX];refine U.bJ (P:=fun r=>r=(be (cI A:Int),())) ?_ (by rintro _ rfl;exact U.ar.2 rfl);refine U.loop (fun s=>∃x:Nat,s=((false,([],())),be (x:Int),())/\cI A<=x/\aU x<=1000000) (fun s=>(af s.2.1.2.1).toNat) ⟨_,rfl,?_,?_⟩ ?_
 ·refine OY fA ?_;have J:=es.1 (bU (aU A));have R:2^aU A<=2^((aU A+1)/2)*2^((aU A+1)/2):=by
   rw[<-jo];exact tW (by decide) (by omega)
  have ac:=l1 (Nat.le_add_right (2^((aU A+1)/2)) 1) (Nat.le_add_right (2^((aU A+1)/2)) 1);omega
 ·rw[es];exact Om _ 1000000 (by omega)
 ·rintro _ ⟨x,rfl,Cu,kp⟩;have ab:0<x:=(by omega);have ag:∀k:Nat,(k:Int).natAbs=k:=fun k=>(by omega);refine U.bs (adV (x:=(A:Int)) (y:=(x:Int)) (by rw[ag];omega) (by rw[ag];omega) (by omega) (by omega)) ?_;rw[<-Int.natCast_ediv];dsimp only;have aj:aU (A/x)<=900000:=Nat.le_trans (lA (Nat.div_le_self _ _)) dY;refine U.bs (I9 (x:=(x:Int)) (y:=((A/x:Nat):Int)) (by rw[ag];omega) (by rw[ag];omega)) ?_;rw[<-Int.natCast_add];dsimp only;have aqn:aU (x+A/x)<=1000001:=Xv kp (by omega);refine U.bs (aeo (z:=((x+A/x:Nat):Int)) (n:=1) (by rw[ag];omega) (by decide) (by decide)) ?_;have bY:((x+A/x:Nat):Int)/2^1=(((x+A/x)/2:Nat):Int):=by
   rw[show(2:Int)^1=((2:Nat):Int) from rfl,<-xG]
  rw[bY];dsimp only;have SP:aU ((x+A/x)/2)<=1000000:=(by have:=vG (x+A/x) 1;rw[Nat.pow_one] at this;omega);refine U.bs (adS (x:=(((x+A/x)/2:Nat):Int)) (y:=(x:Int)) (by rw[ag];omega) (by rw[ag];omega)) ?_;dsimp only;rw[cC];refine U.ite (fun g=>?_) fun g=>?_
  ·refine U.ar.2 ?_;have fb:x<=(x+A/x)/2:=(by have:=x2.1 g;omega);have:=ach ab fb;rw[NC this (by
    have aY:=l1 (show cI A+1<=x+1 by omega) (show cI A+1<=x+1 by omega);omega)]
  ·refine U.ar.2 ⟨⟨(x+A/x)/2,rfl,acg ab fA,SP⟩,?_⟩;show(af (be (((x+A/x)/2:Nat):Int)).2.1).toNat<(af (be (x:Int)).2.1).toNat;rw[ih,ih];have:=mt x2.2 g;generalize(x+A/x)/2=Y at*;omega
theorem ad9 {z:Int} {n:Nat} (a2:aU z.natAbs<=3000000) (ag:n<=10000000):Gn (be z,(n:Int),())=some (decide ((z.natAbs:Int) %2^n≠0),()):=by obtain⟨ch,c8,a3⟩:=hM a2;unfold Gn;dsimp only;refine U.eq_iff.1 ?_;refine U.bs (zn ch c8 (by omega)) ?_;dsimp only;refine U.bJ (U4 ch (by omega) (n:=n) (by omega)) ?_;rintro _ ⟨o,rfl,hu,kZ,uQ⟩;rw[ih];exact U.ar.2 rfl
theorem axH {z:Int} (aV:0<=z) (J:z<9223372036854775808):LH (be z,())=some (z,true,()):=by
 have aa:aU z.natAbs<=64:=es.2 (by omega);obtain⟨ch,c8,a3⟩:=hM (z:=z) (by omega);have ai:(be z).2.1.length<=2:=sG (by omega);unfold LH;dsimp only;refine U.eq_iff.1 ?_;refine U.bs (EU (by omega)) ?_;dsimp only;rw[c1 (a1 (show¬(aS (be z).2.1>2) by simp only[bL];omega))];refine U.bJ (P:=fun r=>r=(z,be z,())) ?_ ?_
 ·have hv:=ih z;refine U.steps (be z).2.1.length (fun i s=>s=(af ((be z).2.1.take i),(i:Int),be z,())) rfl ?_ ?_
  ·rintro i _ hi rfl;have ab:=ch.get hi;dsimp only;rw[cT (a8 (show(i:Int)<aS (be z).2.1 by simp only[bL];omega)),dC hi,Option.bind_some];have J:=ej (ch.take i);have R:=gU (ch.take i);rw[List.length_take,Nat.min_eq_left (by omega),vi] at R;have aA:aQ (32*(i:Int))=((32*i:Nat):Int):=(by rw[b4 (by omega) (by omega)];simp);have aa:(2:Int)^(32*i)<=4294967296:=by
    rcases(show i=0\/i=1 by omega) with rfl|rfl<;>decide
   have aw:=lj (32*i);have ak:(be z).2.1[i]*2^(32*i)<4294967296*4294967296:=(by have:=kI aa ab.1;omega);have jz:0<=(be z).2.1[i]*2^(32*i):=qg ab.1 (eM aw);rw[aA,dr (x:=(be z).2.1[i]) (by omega) (by omega),q1 (by omega) (by omega),bq,d7,xE jz (by omega),p4 (32*i) J R jz (by omega) (by omega) (Int.mul_emod_left _ _),cO (by omega)];refine U.ar.2 ?_;show(_,_,be z,())=(_,_,be z,());rw[h6 hi,vi,jl (2^(32*i))]
  ·rintro _ rfl;dsimp only;rw[c1 (a1 (show¬(((be z).2.1.length:Int)<aS (be z).2.1) by simp only[bL];omega)),List.take_of_length_le (Nat.le_refl _),hv];refine U.ar.2 ?_;show(((z.natAbs:Nat):Int),be z,())=_;rw[show((z.natAbs:Nat):Int)=z by omega]
 ·rintro _ rfl;have ag:(be z).1=false:=a1 (by omega);dsimp only;rw[ag,cond_false,c1 (a1 (show¬(z>9223372036854775807) by omega)),b4 (by omega) (by omega)];exact U.ar.2 rfl
theorem aeG {z k:Int} (a2:aU z.natAbs<=1900000) (J:-1048576<=k) (R:k<=1048576):vN (be z,k,())=some (be (tv z k),0,()):=by
 rcases iO k 0 with g|g
 ·obtain⟨n,ag⟩:∃n:Nat,k=-(n:Int):=⟨(-k).toNat,by omega⟩;subst ag;rw[ayx a2 (by omega) (by omega),E2]
 ·obtain⟨n,ag⟩:∃n:Nat,k=(n:Int):=⟨k.toNat,by omega⟩;subst ag;rw[ayy a2 (by omega),xf]
theorem U2 {z k:Int} (a2:aU z.natAbs<=2900000) (J:-10000000<=k) (R:k<=10000000):oX (be z,k,())=some (be (tv z k),()):=by
 rcases iO k 0 with g|g
 ·obtain⟨n,ag⟩:∃n:Nat,k=-(n:Int):=⟨(-k).toNat,by omega⟩;subst ag;rw[aeo a2 (by omega) (by omega),E2]
 ·obtain⟨n,ag⟩:∃n:Nat,k=(n:Int):=⟨k.toNat,by omega⟩;subst ag;rw[Jf (by omega) (by omega),xf]
def db (v:Int):Int:=if v=0 then 0 else gH v
theorem T4:bQ 0=0:=rfl
theorem jc (v:Int):b6 (some v)=(false,be (bQ v),db v,()):=by
 by_cases h:v=0
 ·subst h;rfl
 ·rw[YC h,db,if_neg h]
theorem lT {v:Int} (h:iL v):aU (bQ v).natAbs<=131072:=by
 by_cases aV:v=0
 ·subst aV;exact h
 ·rw[atE aV];unfold iL at h;omega
theorem mn {v:Int} (h:iL v):-65536<=db v/\db v<=65536:=by
 unfold db;split
 ·omega
 ·rename_i aV;have:=Cp (n:=v.natAbs) (by omega);unfold iL at h;unfold gH;omega
theorem N3 {v:Int} (h:iL v):hR (bQ v) (db v)=some v:=by
 by_cases aV:v=0
 ·subst aV;rfl
 ·rw[db,if_neg aV,asS h]
theorem atF {v:Int} {e:Int} (h:v=0\/e<=gH v) (aE:-65536<=e):bQ v*2^(db v-e).toNat*2^(e+65536).toNat=v:=by
 by_cases aV:v=0
 ·subst aV;rw[T4];simp
 ·have J:=EG v;have R:=h.resolve_left aV;rw[db,if_neg aV,ra,<-pG];have:(gH v-e).toNat+(e+65536).toNat=cP v.natAbs:=(by unfold gH at*;omega);rw[this,J]
theorem YB {m e:Int} (ak:m≠0) (h:¬(e+cP m.natAbs< -65536\/65536<e+aU m.natAbs)):b6 (hR m e)=(false,be (m/2^cP m.natAbs),e+cP m.natAbs,())/\(hR m e).isSome=true:=by
 obtain⟨v,hv⟩:∃v,v=tv m (e+65536):=⟨_,rfl⟩;have wm:hR m e=some v:=(by unfold hR;rw[if_neg ak,if_neg h,hv]);rw[wm];refine⟨?_,rfl⟩;obtain⟨a,aC⟩:=Cq (n:=m.natAbs) (by omega);have Hh:=(BE (n:=m.natAbs) (k:=cP m.natAbs) (by omega)).1 (bU _);have apJ:m/2^cP m.natAbs*2^cP m.natAbs=m:=QH Hh;have Sk:(m/2^cP m.natAbs).natAbs=2*a+1:=by
  rw[IA Hh]
  conv=>lhs;lhs;rw[aC]
  exact Nat.mul_div_cancel _ (kM _)
 generalize bm:cP m.natAbs=T at*;generalize bF:m/2^T=M at*;have ld:v=M*2^(e+T+65536).toNat:=by
  rw[hv,<-apJ];rcases Int.le_total 0 (e+65536) with g|g
  ·obtain⟨k,ae⟩:∃k:Nat,e+65536=k:=⟨(e+65536).toNat,by omega⟩;rw[ae,xf,ra,<-pG];congr 2;omega
  ·obtain⟨k,ae⟩:∃k:Nat,e+65536=-(k:Int):=⟨(-(e+65536)).toNat,by omega⟩;obtain⟨j,ao⟩:∃j:Nat,T=j+k:=⟨T-k,by omega⟩;rw[ae,E2,ao,pG,<-ra,Int.mul_ediv_cancel _ (by have:=lj k;omega)];congr 2;omega
 obtain⟨K,cA⟩:∃K:Nat,e+T+65536=K:=⟨(e+T+65536).toNat,by omega⟩;rw[cA,d7] at ld;have aay:v.natAbs=(2*a+1)*2^K:=(by rw[ld,wV,Sk]);have aav:cP v.natAbs=K:=Jz aay;have s2:v≠0:=(by intro aV;rw[aV] at aay;have J:=Nat.mul_pos (show 0<2*a+1 by omega) (kM K);have R:(0:Int).natAbs=0:=rfl;omega);rw[YC s2];have aA:bQ v=M:=(by unfold bQ;rw[aav,ld,Int.mul_ediv_cancel _ (by have:=lj K;omega)]);have aX:gH v=e+T:=(by unfold gH;rw[aav];omega);rw[aA,aX]
theorem ad8 {m:Int} {n:Nat} (ak:aU m.natAbs<=1900000) (ag:n<=1048576):FY (be m,(n:Int),())=some (be (m/2^n),()):=by
 unfold FY;dsimp only;refine U.eq_iff.1 ?_;refine U.bJ (P:=fun r=>r=((n:Int),be m,(false,([],())),())) ?_ ?_
 ·refine U.steps 0 (fun i s=>s=((n:Int),be m,(false,([],())),())) rfl (fun i s hi=>by omega) ?_;rintro _ rfl;dsimp only;rw[c1 (a1 (show¬((n:Int)>1048576) by omega))];exact U.ar.2 rfl
 ·rintro _ rfl;dsimp only;rw[b4 (by omega) (by omega),Int.zero_sub];refine U.bs (aeG ak (by omega) (by omega)) (U.ar.2 ?_);rw[E2]
theorem Em {m k:Int} (ak:aU m.natAbs<=1900000) (J:0<=k) (R:k<=1048576):sB (be m,k,())=some (be (m*2^k.toNat),()):=by unfold sB;refine aI (aeG ak (by omega) R) ?_;obtain⟨n,rfl⟩:=fL J;show some (be (tv m (n:Int)),())=_;rw[xf];rfl
theorem acj {m e:Int} (ak:aU m.natAbs<=900000) (J:-1000000000000<=e) (R:e<=1000000000000):sC ((false,be m,e,()),())=some (b6 (hR m e),(hR m e).isSome,()):=by
 obtain⟨ch,c8,a3⟩:=hM (z:=m) (by omega);unfold sC;dsimp only;rw[cond_false];have ag:=aty (b:=be m) ch (by omega);rw[sb] at ag;refine aI ag ?_;refine aI (xh (kw (by omega))) ?_;dsimp only;rw[eY,cC];split
 ·rename_i h;have:m=0:=by
   unfold eT at h;split at h
   ·assumption
   ·split at h<;>omega
  subst this;rfl
 rename_i h;have jz:m≠0:=(by intro e;subst e;exact h rfl);have ah:=Cp (n:=m.natAbs) (by omega);refine aI (afg (kw (by omega)) jz) ?_;dsimp only;by_cases aa:e+cP m.natAbs< -65536\/65536<e+aU m.natAbs
 ·have wm:hR m e=none:=(by unfold hR;rw[if_neg jz,if_pos aa]);rw[wm];refine aI (y:=.inr (b6 none,false,())) ?_ rfl;refine aI (y:=(true,(false,((false,([],())),((0:Int),()))),be m,())) ?_ rfl;refine aI (Ah (kw (by omega))) ?_;dsimp only;rw[b4 (x:=65536-(aU m.natAbs:Int)) (by omega) (by omega),b4 (by omega) (by omega)];by_cases g:e>65536-(aU m.natAbs:Int)
  ·rw[a8 g];rfl
  ·rw[a1 g,a8 (show e< -65536-(cP m.natAbs:Int) by omega)];rfl
 ·obtain⟨ac,aL⟩:=YB jz aa;rw[ac,aL];refine aI (y:=.inl ((false,((false,([],())),((0:Int),()))),be m,())) ?_ ?_
  ·refine aI (y:=(false,(false,((false,([],())),((0:Int),()))),be m,())) ?_ rfl;refine aI (Ah (kw (by omega))) ?_;dsimp only;rw[b4 (x:=65536-(aU m.natAbs:Int)) (by omega) (by omega),b4 (by omega) (by omega)];rw[a1 (show¬(e>65536-(aU m.natAbs:Int)) by omega),a1 (show¬(e< -65536-(cP m.natAbs:Int)) by omega)];rfl
  ·refine aI (ad8 (by omega) (by omega)) ?_;dsimp only;rw[b4 (by omega) (by omega)]
theorem EE {d:Option Int} (h:e5 d):sC (b6 d,())=some (b6 d,d.isSome,()):=by
 cases d with
 |none=>rfl
 |some v=>
  have hr:=h v rfl;have J:=lT hr;have R:=mn hr;rw[jc,acj (by omega) (by omega) (by omega),N3 hr,jc]
theorem TF {m e:Int} (ak:aU m.natAbs<=900000) (J:-1000000000000<=e) (R:e<=1000000000000):De (be m,e,())=some (b6 (hR m e),()):=by unfold De;exact aI (acj ak J R) rfl
theorem QI {d:Option Int} (h:e5 d):Df (b6 d,())=some (b6 d,()):=by unfold Df;exact aI (EE h) rfl
def u6 (d:Option Int):Int:=eT (d.getD 0)
theorem Vj (v:Int):eT (bQ v)=eT v:=by
 unfold eT;have:=EF (v:=v);by_cases h:v=0
 ·subst h;rfl
 ·have:=lP h;rw[if_neg this,if_neg h];split<;>split<;>first|rfl|omega
theorem sF {d:Option Int} (h:e5 d):x4 (b6 d,())=some (u6 d,()):=by
 unfold x4;refine aI (EE h) ?_;cases d with
 |none=>exact aI (xh (z:=0) (kw (by decide))) rfl
 |some v=>
  have J:=lT (h v rfl);rw[jc];refine aI (xh (kw (by omega))) ?_;show some (eT (bQ v),())=_;rw[Vj];rfl
theorem azo {a b:Option Int} (aC:e5 a) (aa:e5 b):KY (b6 a,b6 b,())=some (b6 a,b6 b,a.isSome&&b.isSome,()):=by unfold KY;refine aI (EE aC) (aI (EE aa) ?_);cases a<;>rfl
def te (a b:Option Int):Option Int:=a.bind fun x=>b.bind fun y=>hR (bQ x*bQ y) (db x+db y)
def ED (a:Option Int):Option Int:=a.map fun x=>-x
def PL (a:Option Int):Option Int:=a.map fun x=>(x.natAbs:Int)
theorem TQ (a b:Option Int):e5 (te a b):=by
 intro v hv;unfold te at hv;cases a with
 |none=>cases hv
 |some x=>cases b with
  |none=>cases hv
  |some y=>exact TK _ _ v hv
theorem atj {a:Option Int} (h:e5 a):e5 (ED a):=by
 intro v hv;cases a with
 |none=>cases hv
 |some x=>cases hv;have:=h x rfl;unfold iL at*;rw[zR];exact this
theorem aj2 {a:Option Int} (h:e5 a):e5 (PL a):=by
 intro v hv;cases a with
 |none=>cases hv
 |some x=>cases hv;have:=h x rfl;unfold iL at*;rw[zQ];exact this
theorem al0 {a b:Option Int} (aC:e5 a) (aa:e5 b):KR (b6 a,b6 b,())=some (b6 (te a b),()):=by
 unfold KR;refine aI (azo aC aa) ?_;cases a with
 |none=>rfl
 |some x=>
  cases b with
  |none=>rfl
  |some y=>
   have J:=lT (aC x rfl);have R:=lT (aa y rfl);have ac:=mn (aC x rfl);have aL:=mn (aa y rfl);rw[jc,jc];refine aI (ab2 (by omega) (by omega)) ?_;dsimp only;rw[b4 (by omega) (by omega)];refine aI (TF ?_ (by omega) (by omega)) rfl;rw[Int.natAbs_mul];have:=Aj J R;omega
theorem T3 (v:Int):bQ (-v)=-bQ v:=by have J:=EG v;have R:=EG (-v);rw[zR] at R;have aw:=lj (cP v.natAbs);have ac:bQ (-v)*2^cP v.natAbs=-bQ v*2^cP v.natAbs:=(by rw[R,Int.neg_mul,J]);exact Int.eq_of_mul_eq_mul_right (by omega) ac
theorem Q8 (v:Int):db (-v)=db v:=by
 unfold db gH;rw[zR];by_cases h:v=0
 ·subst h;rfl
 ·rw[if_neg h,if_neg (by omega)]
theorem atD (v:Int):bQ (v.natAbs:Int)=((bQ v).natAbs:Int):=by
 have h:=EF (v:=v);rcases iO v 0 with g|g
 ·rw[show(v.natAbs:Int)=-v by omega,T3];have:=h.2 g;omega
 ·rw[show(v.natAbs:Int)=v by omega];have:=mt h.1 (by omega);omega
theorem am1 (v:Int):db (v.natAbs:Int)=db v:=by
 rcases iO v 0 with g|g
 ·rw[show(v.natAbs:Int)=-v by omega,Q8]
 ·rw[show(v.natAbs:Int)=v by omega]
theorem al1 {a:Option Int} (aC:e5 a):KS (b6 a,())=some (b6 (ED a),()):=by
 unfold KS;refine aI (EE aC) ?_;cases a with
 |none=>rfl
 |some x=>
  have J:=lT (aC x rfl);rw[jc];refine aI (aI (acf (kw (by omega))) rfl) ?_;show some ((false,be (-bQ x),db x,()),())=some (b6 (some (-x)),());rw[jc,T3,Q8]
def tB (v e:Int):Int:=bQ v*2^(db v-e).toNat
theorem JD {v e:Int} (h:v=0\/e<=gH v) (aE:-65536<=e):tB v e*2^(e+65536).toNat=v:=atF h aE
theorem afk {v e:Int} (h:v=0\/e<=gH v) (aE:-65536<=e) (hr:iL v):aU (tB v e).natAbs<=131072:=by
 have J:=JD h aE;have R:(tB v e).natAbs<=v.natAbs:=by
  conv=>rhs;rw[<-J,wV]
  exact Nat.le_mul_of_pos_right _ (kM _)
 exact d8 (lA R) hr
theorem arG {v e:Int} (h:v=0\/e<=gH v) (aE:-65536<=e) (aBj:e<=65536) (hr:iL v) (aV:e<=db v):sB (be (bQ v),db v-e,())=some (be (tB v e),()):=by have J:=lT hr;have R:=mn hr;exact Em (by omega) (by omega) (by omega)
theorem A0 {x e:Int} (h:e<=db x):x=0\/e<=gH x:=by
 by_cases aV:x=0
 ·exact .inl aV
 ·rw[db,if_neg aV] at h;exact .inr h
def uJ (n:Int):Option Int:=hR n 0
def hg:List (Option Int)->Int
 |[]=>0
 |d::l=>d.getD 0+hg l
def ig:List (Option Int)->Bool
 |[]=>true
 |d::l=>d.isSome&&ig l
def j5 (l:List (Option Int)):Option Int:=if ig l=true then vI (hg l) else none
theorem aeS (l:List (Option Int)):e5 (j5 l):=by
 intro v hv;unfold j5 at hv;split at hv
 ·exact alg _ v hv
 ·cases hv
theorem O5 (a b:List (Option Int)):hg (a++b)=hg a+hg b:=by
 induction a with
 |nil=>simp[hg]
 |cons x a aZ=>simp only[mA,hg,aZ];omega
theorem Kr (a b:List (Option Int)):ig (a++b)=(ig a&&ig b):=by
 induction a with
 |nil=>simp[ig]
 |cons x a aZ=>simp only[mA,ig,aZ,Bool.and_assoc]
theorem Vy {l:List (Option Int)} {i:Nat} (h:i<l.length):hg (l.take (i+1))=hg (l.take i)+(l[i]).getD 0:=by rw[lY,cr h];show hg (l.take i++[l[i]])=_;rw[O5];simp[hg]
theorem WR {l:List (Option Int)} {i:Nat} (h:i<l.length):ig (l.take (i+1))=(ig (l.take i)&&(l[i]).isSome):=by rw[lY,cr h];show ig (l.take i++[l[i]])=_;rw[Kr];simp[ig]
theorem WQ {l:List (Option Int)} (h:ig l=true) {i:Nat} (hi:i<l.length):∃v,l[i]=some v:=by
 induction l generalizing i with
 |nil=>simp at hi
 |cons x l aZ=>
  simp only[ig,bW] at h;cases i with
  |zero=>exact Option.isSome_iff_exists.1 h.1
  |succ i=>exact aZ h.2 (by simpa using hi)
theorem WP {l:List (Option Int)} {i:Nat} (h:i<l.length) (ag:l[i]=none):ig l=false:=by
 cases hs:ig l with
 |false=>rfl
 |true=>obtain⟨v,hv⟩:=WQ hs h;rw[hv] at ag;cases ag
theorem al2 {l:List (Option Int)} (ai:∀d∈l,e5 d) (ag:l.length<=1000000):KX (l.map b6,())=some (b6 (j5 l),()):=by
 unfold KX;refine U.eq_iff.1 ?_;dsimp only;refine U.bJ (P:=fun q=>match q with
  |.inl r=>∃e,r=(e,(false,((false,([],())),((0:Int),()))),l.map b6,())/\ig l=true/\-65536<=e/\e<=0/\(∀i v,(h:i<l.length)->l[i]=some v->e<=db v)
  |.inr r=>r=(b6 (j5 l),())) ?_ ?_
 ·refine U.steps l.length (fun i s=>∃e,s=(e,(i:Int),(false,((false,([],())),((0:Int),()))),(l.take i).map b6,())/\ig (l.take i)=true/\-65536<=e/\e<=0/\(∀k v,(h:k<l.length)->k<i->l[k]=some v->e<=db v)) ⟨0,rfl,rfl,by decide,by decide,fun k v J R=>by omega⟩ ?_ ?_
  ·rintro i _ hi ⟨e,rfl,J,R,ac,aL⟩;have aP:=ai l[i] (List.getElem_mem hi);dsimp only;rw[cT (a8 (show(i:Int)<aS (l.map b6) by simp only[bL,List.length_map];omega))];refine U.bs (y:=b6 l[i]) ?_ (U.bs (EE aP) ?_)
   ·rw[dC (by simpa using hi),List.getElem_map]
   dsimp only;cases hc:l[i] with
   |none=>
    refine U.bs rfl (U.ar.2 ?_);show(b6 none,())=_;rw[j5,if_neg];rw[WP hi hc];simp
   |some v=>
    have hr:iL v:=aP v hc;have ab:=mn hr;show U ((di _).bind _) _;rw[fo (by simp;omega)];refine U.ar.2 ⟨if db v<e then db v else e,?_,?_,by split<;>omega,by split<;>omega,?_⟩
    ·rw[cO (by omega),lY,cr hi,hc];simp only[Option.toList_some,jm,ff,xL,jc]
    ·rw[WR hi,J,hc];rfl
    ·intro k w bk bD cm;rcases ct k i with g|g
     ·have:=aL k w bk g cm;split<;>omega
     ·obtain rfl:k=i:=(by omega);rw[hc] at cm;cases cm;split<;>omega
  ·rintro _ ⟨e,rfl,J,R,ac,aL⟩;dsimp only;rw[c1 (a1 (show¬((l.length:Int)<aS (l.map b6)) by simp only[bL,List.length_map];omega))];rw[List.take_of_length_le (Nat.le_refl _)] at J|-;exact U.ar.2 ⟨e,rfl,J,R,ac,fun i v hi hv=>aL i v hi hi hv⟩
 ·rintro(q|q) aj
  ·obtain⟨e,rfl,J,R,ac,aL⟩:=aj;dsimp only;refine U.bJ (P:=fun r=>∃t,r=((false,((false,([],())),((0:Int),()))),be t,())/\t*2^(e+65536).toNat=hg l/\aU t.natAbs<=200000) ?_ ?_
   ·have MU:∀t:Int,t.natAbs<=l.length*2^131072->aU t.natAbs<=200000:=fun t ah=>by
     refine d8 (lA ah) ?_;have:aU l.length<=20:=es.2 (by omega);have bG:aU (2^131072)<=131073:=es.2 (Om 131072 131073 (by decide));have:=Aj this bG;omega
    refine U.steps l.length (fun i s=>∃t,s=((i:Int),(false,((false,([],())),((0:Int),()))),l.map b6,be t,())/\t*2^(e+65536).toNat=hg (l.take i)/\t.natAbs<=i*2^131072) ⟨0,rfl,by rw[Int.zero_mul];simp[hg],(eX _:(0:Nat)<=_)⟩ ?_ ?_
    ·rintro i _ hi ⟨t,rfl,bS,bt⟩;obtain⟨v,hv⟩:=WQ J hi;have hr:iL v:=ai l[i] (List.getElem_mem hi) v hv;have aE:=aL i v hi hv;have aR:=afk (A0 aE) R hr;have ab:=mn hr;have SG:=MU t (Nat.le_trans bt (Nat.mul_le_mul_right _ (by omega)));dsimp only;rw[cT (a8 (show(i:Int)<aS (l.map b6) by simp only[bL,List.length_map];omega)),oC (by simpa using hi),List.getElem_map,hv,jc];dsimp only;rw[b4 (by omega) (by omega)];refine U.bs (arG (A0 aE) R (by omega) hr aE) (U.bs (WM (by omega) (by omega)) (U.ar.2 ⟨t+tB v e,by rw[cO (by omega)],?_,?_⟩))
     ·rw[Int.add_mul,bS,JD (A0 aE) R,Vy hi,hv];rfl
     ·have eF:=es.1 aR;have pS:=Int.natAbs_add_le t (tB v e);exact d8 pS (ab3 bt eF)
    ·rintro _ ⟨t,rfl,bS,bt⟩;dsimp only;rw[c1 (a1 (show¬((l.length:Int)<aS (l.map b6)) by simp only[bL,List.length_map];omega))];rw[List.take_of_length_le (Nat.le_refl _)] at bS;exact U.ar.2 ⟨t,rfl,bS,MU t bt⟩
   ·rintro _ ⟨t,rfl,bS,bt⟩;refine U.bs (TF (by omega) (by omega) (by omega)) (U.ar.2 ?_);show(b6 (hR t e),())=_;rw[TL R bS.symm,j5,if_pos J]
  ·have aj:q=_:=aj;rw[aj];exact U.ar.2 rfl
theorem px {z:Int}:(eT z==0)=decide (z=0):=by
 rw[eY,decide_eq_decide];unfold eT;constructor
 ·intro h;split at h
  ·assumption
  ·split at h<;>omega
 ·intro h;rw[if_pos h]
theorem UT {m:Int} {n:Nat} (ak:aU m.natAbs<=1900000) (ag:n<=1048576):Dt (be m,(n:Int),())=some (be (m/2^n),()):=by
 unfold Dt;dsimp only;refine U.eq_iff.1 ?_;refine U.bJ (P:=fun r=>r=((n:Int),be m,(false,([],())),())) ?_ ?_
 ·refine U.steps 0 (fun i s=>s=((n:Int),be m,(false,([],())),())) rfl (fun i s hi=>by omega) ?_;rintro _ rfl;dsimp only;rw[c1 (a1 (show¬((n:Int)>1048576) by omega))];exact U.ar.2 rfl
 ·rintro _ rfl;dsimp only;rw[b4 (by omega) (by omega),Int.zero_sub];refine U.bs (U2 (by omega) (by omega) (by omega)) (U.ar.2 ?_);rw[E2]
theorem aea {b:tJ} {m e:Int} (Z9:bi b.2.1) (ai:b.2.1.length<=100000000) (hv:gM b=m) (ak:aU m.natAbs<=900000) (J:-1000000000000<=e) (R:e<=1000000000000):sE (b,e,())=some (b6 (hR m e),()):=by
 unfold sE;dsimp only;have ag:=aef Z9 ai;rw[hv] at ag;refine aI ag ?_;dsimp only;rw[wG,cC];split
 ·rename_i h;have:=Dz.1 h;subst this;rfl
 rename_i h;have jz:m≠0:=fun e=>h (Dz.2 e);have ah:=Cp (n:=m.natAbs) (by omega);have yr:=ub (m:=m.natAbs) (by omega);rw[cC];split
 ·rename_i g;have wm:hR m e=none:=(by unfold hR;rw[if_neg jz,if_pos (by omega)]);rw[wm];rfl
 rename_i g;refine aI (aer (by omega) jz) (aI (I8 (by omega)) (aI (UT (m:=(m.natAbs:Int)) (by rw[Int.natAbs_natCast];omega) (by omega)) ?_));have Hh:=(BE (n:=m.natAbs) (k:=cP m.natAbs) (by omega)).1 (Nat.le_refl _);have o6:(m.natAbs:Int)/2^cP m.natAbs=(((m/2^cP m.natAbs).natAbs:Nat):Int):=(by rw[IA Hh,<-lR,<-Int.natCast_ediv]);have bF:aU ((m/2^cP m.natAbs).natAbs)=aU m.natAbs-cP m.natAbs:=(by rw[IA Hh,vG]);rw[o6];dsimp only;rw[b4 (x:=e+(cP m.natAbs:Int)) (by omega) (by omega)];by_cases aa:e+cP m.natAbs< -65536\/65536<e+aU m.natAbs
 ·have wm:hR m e=none:=(by unfold hR;rw[if_neg jz,if_pos aa]);rw[wm];refine aI (y:=.inr (b6 none,())) ?_ rfl;refine aI (y:=(true,(false,((false,([],())),((0:Int),()))),be ((m/2^cP m.natAbs).natAbs:Int),())) ?_ rfl;by_cases bt:e+(cP m.natAbs:Int)< -65536
  ·rw[a8 bt];rfl
  ·rw[a1 bt];refine aI (B7 (by rw[Int.natAbs_natCast];omega)) ?_;rw[Int.natAbs_natCast,bF];dsimp only;rw[b4 (by omega) (by omega),a8 (show e+(cP m.natAbs:Int)+((aU m.natAbs-cP m.natAbs:Nat):Int)>65536 by omega)]
 ·obtain⟨ac,aL⟩:=YB jz aa;rw[ac];refine aI (y:=.inl ((false,((false,([],())),((0:Int),()))),be ((m/2^cP m.natAbs).natAbs:Int),())) ?_ ?_
  ·refine aI (y:=(false,(false,((false,([],())),((0:Int),()))),be ((m/2^cP m.natAbs).natAbs:Int),())) ?_ rfl;rw[a1 (show¬(e+(cP m.natAbs:Int)< -65536) by omega)];refine aI (B7 (by rw[Int.natAbs_natCast];omega)) ?_;rw[Int.natAbs_natCast,bF];dsimp only;rw[b4 (by omega) (by omega),a1 (show¬(e+(cP m.natAbs:Int)+((aU m.natAbs-cP m.natAbs:Nat):Int)>65536) by omega)]
  ·dsimp only;congr 3;have hs:b.1=decide (m/2^cP m.natAbs<0):=by
    have aY:(m/2^cP m.natAbs<0)↔m<0:=EF (v:=m);have bG:b.1=decide (m<0):=by
     have aV:=ej Z9;unfold gM at hv;cases hc:b.1 with
     |true=>rw[hc,if_pos rfl] at hv;exact(a8 (by omega)).symm
     |false=>rw[hc,if_neg (by simp)] at hv;exact(a1 (by omega)).symm
    rw[bG,decide_eq_decide];exact aY.symm
   rw[hs];rfl
theorem ET {m e:Int} (ak:aU m.natAbs<=900000) (J:-1000000000000<=e) (R:e<=1000000000000):sE (be m,e,())=some (b6 (hR m e),()):=
 aea (o0 m) (by have:=(hM (z:=m) (by omega)).2.2;omega) (sb m) ak J R
theorem uX {d:Option Int} (h:e5 d):qv (b6 d,())=some (b6 d,()):=by
 cases d with
 |none=>rfl
 |some v=>
  have hr:=h v rfl;have J:=lT hr;have R:=mn hr;unfold qv;rw[jc];refine aI (ET (e:=db v) (by omega) (by omega) (by omega)) ?_;rw[N3 hr,jc]
theorem AU (d:Option Int):(b6 d).1=!d.isSome:=by
 cases d with
 |none=>rfl
 |some v=>rw[jc];rfl
theorem axt {d:Option Int} (h:e5 d):LR (b6 d,())=some (u6 d,()):=by
 unfold LR;refine aI (uX h) ?_;cases d with
 |none=>rfl
 |some v=>
  have J:=lT (h v rfl);rw[jc];refine aI (oD (by omega)) ?_;show some (eT (bQ v),())=_;rw[Vj];rfl
theorem axs {a:Option Int} (aC:e5 a):Gv (b6 a,())=some (b6 (ED a),()):=by
 unfold Gv;refine aI (uX aC) ?_;cases a with
 |none=>rfl
 |some x=>
  have hr:=aC x rfl;have J:=lT hr;have R:=mn hr;rw[jc];refine aI (aee (by omega)) (aI (ET (e:=db x) (by rw[zR];omega) (by omega) (by omega)) ?_);have ac:iL (-x):=(by unfold iL at*;rw[zR];exact hr);rw[<-T3,<-Q8,N3 ac];rfl
theorem axo {a:Option Int} (aC:e5 a):LM (b6 a,())=some (b6 (PL a),()):=by
 unfold LM;refine aI (uX aC) ?_;cases a with
 |none=>rfl
 |some x=>
  have hr:=aC x rfl;have J:=lT hr;have R:=mn hr;rw[jc];refine aI (I8 (by omega)) (aI (ET (e:=db x) (by rw[zQ];omega) (by omega) (by omega)) ?_);have ac:iL (x.natAbs:Int):=(by unfold iL at*;rw[zQ];exact hr);rw[<-atD,<-am1,N3 ac];rfl
theorem afl (v:Int):tB v (db v)=bQ v:=by unfold tB;simp
theorem axr {a b:Option Int} (aC:e5 a) (aa:e5 b):LO (b6 a,b6 b,())=some (b6 (te a b),()):=by
 unfold LO;refine aI (uX aC) (aI (uX aa) ?_);cases a with
 |none=>rfl
 |some x=>
  cases b with
  |none=>dsimp only;rw[jc x];rfl
  |some y=>
   have J:=lT (aC x rfl);have R:=lT (aa y rfl);have ac:=mn (aC x rfl);have aL:=mn (aa y rfl);rw[jc,jc];refine aI rfl ?_;dsimp only;refine aI (aeb (by omega) (by omega)) ?_;dsimp only;rw[b4 (by omega) (by omega)];refine aI (ET ?_ (by omega) (by omega)) rfl;rw[Int.natAbs_mul];have:=Aj J R;omega
theorem adU {n:Int} (J:-9223372036854775808<=n) (R:n<=9223372036854775807):Gu (n,())=some (b6 (uJ n),()):=by unfold Gu;have aa:aU n.natAbs<=64:=es.2 (by omega);exact aI (OO J R) (aI (ET (by omega) (by decide) (by decide)) rfl)
theorem adW {l:List (Option Int)} (ai:∀d∈l,e5 d) (ag:l.length<=1000000):Gw (l.map b6,())=some (b6 (j5 l),()):=by
 unfold Gw;refine U.eq_iff.1 ?_;dsimp only;have MU:∀t:Int,t.natAbs<=l.length*2^131072->aU t.natAbs<=200000:=fun t ah=>(by refine Nat.le_trans (lA ah) ?_;have:aU l.length<=20:=es.2 (by omega);have bG:aU (2^131072)<=131073:=es.2 (Om 131072 131073 (by decide));have:=Aj this bG;omega);have uD:∀(t e:Int) (i:Nat),-65536<=e->i<=l.length->(hg (l.take i)).natAbs<=i*2^131072->t*2^(e+65536).toNat=hg (l.take i)->aU t.natAbs<=200000:=fun t e i aE hi J R=>(by refine MU t (Nat.le_trans ?_ (Nat.mul_le_mul_right _ hi));refine Nat.le_trans ?_ J;rw[<-R,wV];exact Nat.le_mul_of_pos_right _ (Nat.two_pow_pos _));refine U.bJ (P:=fun q=>match q with
  |.inl r=>∃e t,r=(e,(false,((false,([],())),((0:Int),()))),be t,())/\ig l=true/\-65536<=e/\e<=65536/\t*2^(e+65536).toNat=hg l/\aU t.natAbs<=200000
  |.inr r=>r=(b6 (j5 l),())) ?_ ?_
 ·refine U.steps l.length (fun i s=>∃e t,s=(e,(i:Int),(false,((false,([],())),((0:Int),()))),be t,())/\ig (l.take i)=true/\-65536<=e/\e<=65536/\t*2^(e+65536).toNat=hg (l.take i)/\(hg (l.take i)).natAbs<=i*2^131072) ⟨0,0,rfl,rfl,by decide,by decide,by rw[Int.zero_mul];simp[hg],(eX _:(0:Nat)<=_)⟩ ?_ ?_
  ·rintro i _ hi ⟨e,t,rfl,J,R,ac,aL,aY⟩;have aP:=ai l[i] (List.getElem_mem hi);have SG:=uD t e i R (by omega) aY aL;dsimp only;rw[cT (a8 (show(i:Int)<aS (l.map b6) by simp only[bL,List.length_map];omega))];refine U.bJ (P:=fun q=>match q with
    |.inl r=>∃v e t,l[i]=some v/\r=(e,(false,((false,([],())),((0:Int),()))),be t,())/\-65536<=e/\e<=65536/\t*2^(e+65536).toNat=hg (l.take i)+v
    |.inr r=>r=.inr (.inr (b6 (j5 l),()))) ?_ ?_
   ·refine U.bs (y:=b6 l[i]) ?_ (U.bs (uX aP) ?_)
    ·rw[dC (by simpa using hi),List.getElem_map]
    dsimp only;cases hc:l[i] with
    |none=>
     refine U.bs rfl (U.ar.2 ?_);show _=Sum.inr (Sum.inr (b6 (j5 l),()));rw[j5,if_neg]
     ·rfl
     ·rw[WP hi hc];simp
    |some v=>
     have hr:iL v:=aP v hc;have ab:=mn hr;have aBt:=lT hr;rw[jc];refine U.bs (oD (by omega)) ?_;dsimp only;rw[px];by_cases s2:v=0
     ·subst s2;rw[a8 (show bQ 0=0 from rfl)];exact U.ar.2 ⟨0,e,t,rfl,rfl,R,ac,by rw[aL];omega⟩
     rw[a1 (lP s2)];refine U.bs (oD (by omega)) ?_;dsimp only;rw[px];by_cases HA:t=0
     ·subst HA;rw[a8 rfl];refine U.ar.2 ⟨v,db v,bQ v,rfl,rfl,by omega,by omega,?_⟩;have:=JD (v:=v) (e:=db v) (A0 (xF _)) (by omega);rw[afl] at this;rw[this,<-aL];simp
     rw[a1 HA];by_cases kS:db v>=e
     ·rw[a8 kS,b4 (by omega) (by omega)];refine U.bs (U2 (by omega) (by omega) (by omega)) ?_;have aqi:tv (bQ v) (db v-e)=tB v e:=by
       obtain⟨n,ag⟩:∃n:Nat,db v-e=n:=⟨(db v-e).toNat,by omega⟩;rw[ag,xf,tB,ag];rfl
      have aR:=afk (A0 kS) R hr;rw[aqi];refine U.bs (I9 (by omega) (by omega)) (U.ar.2 ⟨v,e,t+tB v e,rfl,rfl,R,ac,?_⟩);rw[Int.add_mul,aL,JD (A0 kS) R]
     ·rw[a1 kS,b4 (x:=e-db v) (by omega) (by omega)];obtain⟨n,ag⟩:∃n:Nat,e-db v=n:=⟨(e-db v).toNat,by omega⟩;have ak:t*2^n*2^(db v+65536).toNat=hg (l.take i):=by
       rw[<-aL,ra,<-pG];congr 2;omega
      have Ho:=uD (t*2^n) (db v) i (by omega) (by omega) aY ak;rw[ag];refine U.bs (U2 (by omega) (by omega) (by omega)) ?_;rw[xf];refine U.bs (I9 (by omega) (by omega)) (U.ar.2 ⟨v,db v,t*2^n+bQ v,rfl,rfl,by omega,by omega,?_⟩);have:=JD (v:=v) (e:=db v) (A0 (xF _)) (by omega);rw[afl] at this;rw[Int.add_mul,ak,this]
   ·rintro(q|q) aj
    ·obtain⟨v,dI,t',hv,rfl,bt,cY,c7⟩:=aj;have hr:iL v:=aP v hv;refine U.ar.2 ⟨dI,t',by rw[cO (by omega)],by rw[WR hi,J,hv];rfl,bt,cY,by rw[Vy hi,hv];exact c7,?_⟩;rw[Vy hi,hv];have pS:=Int.natAbs_add_le (hg (l.take i)) v;have RB:v.natAbs<2^131072:=(es (k:=131072)).1 hr;show(hg (l.take i)+v).natAbs<=_;have aoh:=ab3 aY RB;exact d8 pS aoh
    ·have aj:q=_:=aj;rw[aj];exact U.ar.2 rfl
  ·rintro _ ⟨e,t,rfl,J,R,ac,aL,aY⟩;dsimp only;rw[c1 (a1 (show¬((l.length:Int)<aS (l.map b6)) by simp only[bL,List.length_map];omega))];have SG:=uD t e l.length R (Nat.le_refl _) aY aL;rw[List.take_of_length_le (Nat.le_refl _)] at J aL;exact U.ar.2 ⟨e,t,rfl,J,R,ac,aL,SG⟩
 ·rintro(q|q) aj
  ·obtain⟨e,t,rfl,J,R,ac,aL,aY⟩:=aj;refine U.bs (ET (by omega) (by omega) (by omega)) (U.ar.2 ?_);show(b6 (hR t e),())=_;rw[TL R aL.symm,j5,if_pos J]
  ·have aj:q=_:=aj;rw[aj];exact U.ar.2 rfl
def dw (f:Int):Int:=f/4503599627370496 %2048
def hp (f:Int):Int:=f %4503599627370496
def eE (f:Int):Prop:=0<=f/\f<18446744073709551616
def gw (f:Int):Option Int:=
 if dw f=2047 then none
 else hR (if f<9223372036854775808 then if dw f=0 then hp f else hp f+4503599627370496 else-(if dw f=0 then hp f else hp f+4503599627370496)) (if dw f=0 then-1074 else dw f-1075)
theorem qS (f:Int):e5 (gw f):=by
 intro v hv;unfold gw at hv;split at hv
 ·cases hv
 ·exact TK _ _ v hv
theorem Uy {f:Int} (aH:eE f):Dg (f,())=some (dw f,hp f,()):=by unfold Dg;dsimp only;have J:=aH.1;have R:=aH.2;rw[zt (by decide) (by decide),Option.bind_some,show(2:Int)^(52:Int).toNat=4503599627370496 from rfl,xT 11 (by omega) (by omega) 2047 (by decide) (by decide),xT 52 (by omega) (by omega) 4503599627370495 (by decide) (by decide),b4 (by omega) (by omega)];rfl
theorem Xq {f:Int} (aH:eE f):(ed IntKind.u64 f 9223372036854775808 !=0)=decide (9223372036854775808<=f):=by
 obtain⟨J,R⟩:=aH;obtain⟨n,rfl⟩:=fL J;have ac:n<18446744073709551616:=(by omega);have e:(9223372036854775808:Int)=((2^63:Nat):Int):=rfl;rw[e,WX ac (by decide),ee];rcases ct n (2^63) with g|g
 ·have a2:n&&&2^63=0:=by
   refine Nat.eq_of_testBit_eq fun i=>?_;rw[Nat.testBit_and,Kb,Nat.zero_testBit];by_cases hi:63=i
   ·subst hi;rw[Nat.testBit_lt_two_pow g];rfl
   ·rw[a1 hi,Bool.and_false]
  rw[a2,a8 (show((0:Nat):Int)=0 from rfl),a1 (show¬(((2^63:Nat):Int)<=(n:Int)) by omega)];rfl
 ·have a2:n&&&2^63≠0:=by
   intro aV;have J:(n&&&2^63).testBit 63=false:=(by rw[aV];exact Nat.zero_testBit 63);rw[Nat.testBit_and,Kb] at J;obtain⟨m,rfl⟩:∃m,n=2^63*1+m:=⟨n-2^63,by omega⟩;rw[Nat.testBit_two_pow_mul_add 1 (by omega),if_neg (by omega)] at J;exact absurd J (by decide)
  rw[a1 (show¬(((n&&&2^63:Nat):Int)=0) by omega),a8 (show(((2^63:Nat):Int)<=(n:Int)) by omega)];rfl
theorem atl {f:Int} (aH:eE f):K5 (f,())=some (decide (9223372036854775808<=f),()):=by unfold K5;dsimp only;rw[Xq aH]
theorem SZ {f:Int} (aH:eE f):Av (f,())=some (!decide (dw f=2047),()):=by unfold Av;refine aI (Uy aH) ?_;dsimp only;rw[ee]
def yM (f:Int):Int:=if dw f=2047 then if hp f=0 then 2 else 3 else if dw f=0/\hp f=0 then 0 else 1
theorem arh {f:Int} (aH:eE f):K2 (f,())=some (yM f,()):=by
 unfold K2 yM;refine aI (Uy aH) ?_;dsimp only;rw[eY,ee,eY,eY];by_cases J:dw f=2047
 ·rw[a8 J,if_pos J];by_cases R:hp f=0
  ·rw[a8 R,if_pos R];rfl
  ·rw[a1 R,if_neg R];rfl
 ·rw[a1 J,if_neg J];by_cases ac:dw f=0
  ·rw[a8 ac];by_cases R:hp f=0
   ·rw[a8 R,if_pos ⟨ac,R⟩];rfl
   ·rw[a1 R,if_neg (fun h=>R h.2)];rfl
  ·rw[a1 ac,if_neg (fun h=>ac h.1)];rfl
theorem Rg (f:Int):0<=hp f/\hp f<4503599627370496:=by unfold hp;omega
theorem Mu (f:Int):0<=dw f/\dw f<2048:=by unfold dw;omega
theorem Ob {f:Int} (aH:eE f):Aw (f,())=some (b6 (gw f),()):=by
 unfold Aw gw;have ak:=Rg f;have aE:=Mu f;refine aI (Uy aH) ?_;dsimp only;rw[eY,eY];by_cases J:dw f=2047
 ·rw[a8 J,if_pos J];rfl
 rw[a1 J,if_neg J];obtain⟨m,e,Sl,R,ac,aL,aY,bG⟩:∃m e,(bif decide (dw f=0) then some (Sum.inl ((-1074:Int),hp f,((false,((false,([],())),((0:Int),()))):dO),())) else some (.inl (aQ (dw f-1075),fF IntKind.u64 (hp f) 4503599627370496,(false,((false,([],())),((0:Int),()))),())):Option ((Int×Int×dO×Unit)⊕gF))=some (.inl (e,m,(false,((false,([],())),((0:Int),()))),()))/\0<=m/\m<9007199254740992/\-1074<=e/\e<=972/\(m=(if dw f=0 then hp f else hp f+4503599627370496)/\e=(if dw f=0 then-1074 else dw f-1075)):=by
  by_cases g:dw f=0
  ·refine⟨hp f,-1074,?_,by omega,by omega,by omega,by omega,by rw[if_pos g],by rw[if_pos g]⟩;rw[a8 g];rfl
  ·refine⟨hp f+4503599627370496,dw f-1075,?_,by omega,by omega,by omega,by omega,by rw[if_neg g],by rw[if_neg g]⟩;rw[a1 g,b4 (by omega) (by omega),p4 52 (by omega) (by omega) (by omega) (by omega) (by omega) (by decide)];rfl
 rw[<-bG.1,<-bG.2];refine aI Sl ?_;dsimp only;rw[b4 (by omega) (by omega)];have aa:aU m.natAbs<=53:=es.2 (by omega);refine aI (Rr (by omega) (by omega)) ?_;refine aI (y:=((false,((false,([],())),((0:Int),()))),be (if f<9223372036854775808 then m else-m),())) ?_ ?_
 ·refine aI (atl aH) ?_;dsimp only;by_cases g:f<9223372036854775808
  ·rw[a1 (show¬(9223372036854775808<=f) by omega),if_pos g];rfl
  ·rw[a8 (show 9223372036854775808<=f by omega),if_neg g];exact aI (acf (kw (by omega))) rfl
 ·dsimp only;refine aI (TF ?_ (by omega) (by omega)) rfl;split
  ·omega
  ·rw[zR];omega
def sH (neg:Bool) (M:Nat) (e:Int) (more:Bool):xS:=(neg,be (M:Int),e,more,())
theorem eg (k:Nat):(k:Int).natAbs=k:=by omega
theorem arQ {neg more:Bool} {M:Nat} {e:Int} (bF:aU M<=900000) (J:-10000000<=e) (R:e<=10000000):KU (sH neg M e more,())=some (e+aU M-1,()):=by unfold KU sH;refine aI (Ah (kw (by rw[eg];omega))) ?_;rw[eg];dsimp only;rw[b4 (x:=e+(aU M:Int)) (by omega) (by omega),b4 (by omega) (by omega)]
theorem alJ {neg more:Bool} {M k:Nat} {e:Int} (bF:aU M<=900000) (nC:0<M) (ae:0<k) (gI:k<=10000000):FW (sH neg M e more,(k:Int),())=some (be ((M/2^k:Nat):Int),l6 M k more,decide (M %2^k=0)&&!more,()):=by
 unfold FW sH;refine aI (Ah (kw (by rw[eg];omega))) ?_;rw[eg];dsimp only;have aBv:=Nat.two_pow_pos k;rw[cC];split
 ·rename_i h;have ca:M<2^(k-1):=es.1 (by omega);obtain⟨j,rfl⟩:∃j,k=j+1:=⟨k-1,by omega⟩;simp only[CV] at ca;have aA:M %2^(j+1)=M:=Nat.mod_eq_of_lt (by rw[mC];omega);have aX:M/2^(j+1)=0:=Nat.div_eq_of_lt (by rw[mC];omega);rw[aA,aX];have bY:l6 M (j+1) more=-1:=(by unfold l6;rw[aA,if_pos (by rw[mC];omega)]);rw[bY,a1 (show¬M=0 by omega)];rfl
 rename_i h;have DR:=Nat.div_add_mod M (2^k);have aj:aU (M/2^k)<=900000:=Nat.le_trans (lA (Nat.div_le_self _ _)) bF;have hr:aU (M %2^k)<=900000:=Nat.le_trans (lA (Nat.mod_le _ _)) bF;have DZ:M/2^k*2^k<=M:=Nat.div_mul_le_self _ _;refine aI (ad8 (m:=(M:Int)) (n:=k) (by rw[eg];omega) (by omega)) ?_;have aA:(M:Int)/2^k=((M/2^k:Nat):Int):=(by rw[<-lR,<-Int.natCast_ediv]);rw[aA];refine aI (Em (m:=((M/2^k:Nat):Int)) (k:=(k:Int)) (by rw[eg];omega) (by omega) (by omega)) ?_;have aX:((M/2^k:Nat):Int)*2^(k:Int).toNat=((M/2^k*2^k:Nat):Int):=(by rw[Int.toNat_natCast,<-lR,<-Int.natCast_mul]);rw[aX];refine aI (ayY (x:=(M:Int)) (y:=((M/2^k*2^k:Nat):Int)) (by rw[eg];omega) (by rw[eg];exact Nat.le_trans (lA DZ) (by omega))) ?_;have bY:(M:Int)-((M/2^k*2^k:Nat):Int)=((M %2^k:Nat):Int):=(by rw[Nat.mul_comm] at DZ|-;omega);rw[bY];refine aI (Rr (n:=1) (by decide) (by decide)) ?_;dsimp only;rw[b4 (x:=(k:Int)-1) (by omega) (by omega)];refine aI (Em (m:=1) (k:=(k:Int)-1) (by decide) (by omega) (by omega)) ?_;obtain⟨j,rfl⟩:∃j,k=j+1:=⟨k-1,by omega⟩;have e7:(1:Int)*2^(((j+1:Nat):Int)-1).toNat=((2^j:Nat):Int):=(by rw[Int.one_mul,<-lR];congr 2;omega);rw[e7];have ao:aU (2^j)<=900000:=(by have:aU (2^j)<=j+1:=es.2 (Nat.pow_lt_pow_right (by decide) (by omega));omega);refine aI (XU (x:=((M %2^(j+1):Nat):Int)) (y:=((2^j:Nat):Int)) (by rw[eg];omega) (by rw[eg];omega)) ?_;dsimp only;have hc:(if e2 ((M %2^(j+1):Nat):Int) ((2^j:Nat):Int)=0/\more=true then 1 else e2 ((M %2^(j+1):Nat):Int) ((2^j:Nat):Int))=l6 M (j+1) more:=by
  unfold l6 e2;have sY:2^(j+1)=2*2^j:=(by rw[mC,pJ]);generalize M %2^(j+1)=r at*;rw[sY];generalize 2^j=P at*;rcases rf r P with g|g|g
  ·rw[if_pos (show(r:Int)<(P:Int) by omega),if_neg (by simp),if_pos (by omega)]
  ·subst g;have a2:(if(r:Int)<(r:Int) then(-1:Int) else if(r:Int)<(r:Int) then 1 else 0)=0:=(by simp);rw[a2,if_neg (show¬(2*r<2*r) by omega),if_neg (show¬(2*r<2*r) by omega)];cases more<;>simp
  ·rw[if_neg (show¬((r:Int)<(P:Int)) by omega),if_pos (show(P:Int)<(r:Int) by omega),if_neg (by simp),if_neg (by omega),if_pos (by omega)]
 refine aI (y:=(l6 M (j+1) more,be ((M/2^(j+1):Nat):Int),be ((M %2^(j+1):Nat):Int),())) ?_ ?_
 ·rw[<-hc,eY];by_cases g:e2 ((M %2^(j+1):Nat):Int) ((2^j:Nat):Int)=0
  ·rw[a8 g];cases more
   ·rw[if_neg (fun h=>Bool.false_ne_true h.2)];rfl
   ·rw[if_pos ⟨g,rfl⟩];rfl
  ·rw[a1 g,if_neg (fun h=>g h.1)];rfl
 ·refine aI (xh (z:=((M %2^(j+1):Nat):Int)) (kw (by rw[eg];omega))) ?_;dsimp only;rw[px];by_cases g:M %2^(j+1)=0
  ·rw[a8 (show((M %2^(j+1):Nat):Int)=0 by omega),a8 g];cases more<;>rfl
  ·rw[a1 (show¬((M %2^(j+1):Nat):Int)=0 by omega),a1 g];rfl
theorem acp {n:Nat}:(n≠0/\cP n=0)↔n %2=1:=by
 constructor
 ·rintro⟨J,R⟩;have:=BE (n:=n) (k:=1) (by omega);rw[R,Nat.pow_one] at this;omega
 ·intro h;refine⟨by omega,?_⟩;have:=BE (n:=n) (k:=1) (by omega);rw[Nat.pow_one] at this;omega
theorem as5 {neg more:Bool} {M:Nat} {e q mode:Int} (bF:aU M<=900000) (nC:0<M) (J:-1000000<=e-q) (R:e-q<=1000000):KV (sH neg M e more,q,mode,())=some (be (if neg then-((if q<=e then M*2^(e-q).toNat else jv neg M (q-e).toNat more mode:Nat):Int) else((if q<=e then M*2^(e-q).toNat else jv neg M (q-e).toNat more mode:Nat):Int)),()):=by
 unfold KV;have gm:∀n:Nat,aU n<=2000000->(Option.bind (α:=mG) (
  bif neg then
 (x5 (be (n:Int),())).bind fun(pq,_)=>
 some (((false,([],())):dB),pq,()) else
 some ((false,([],())),be (n:Int),())) fun(_,TW,_)=>
 some (TW,()))=some (be (if neg then-(n:Int) else(n:Int)),()):=fun n ag=>by
  cases neg
  ·rfl
  ·refine aI (y:=((false,([],())),be (-(n:Int)),())) ?_ rfl;have aH:Fit (n:Int)\/True:=.inr trivial;have hc:=hM (z:=(n:Int)) (by rw[eg];omega);refine aI (y:=(be (-(n:Int)),())) ?_ rfl;unfold x5;refine aI (FP (by have:=hc.2.2;omega)) (aI (C6 (o0 _) (by have:=hc.2.2;omega)) ?_);have h:=Pg (be (n:Int)).1 (be (n:Int)).2.1;have R:=sb (n:Int);rw[h];show some (be (-gM (be (n:Int))),())=_;rw[R]
 by_cases aj:q<=e
 ·rw[if_pos aj];obtain⟨k,ae⟩:∃k:Nat,e-q=k:=⟨(e-q).toNat,by omega⟩;rw[ae,d7];refine aI (y:=((-1:Int),true,(false,([],())),be ((M*2^k:Nat):Int),())) ?_ ?_
  ·show(bif decide (q<=e) then _ else _)=_;rw[a8 aj];refine aI (y:=(be ((M*2^k:Nat):Int),())) ?_ rfl;show sB (be (M:Int),aQ (e-q),())=_;rw[b4 (by omega) (by omega),Em (by rw[eg];omega) (by omega) (by omega),ae,d7,oL,lR]
  ·refine aI rfl (aI rfl ?_);exact gm _ (d8 xY (by omega))
 ·rw[if_neg aj];obtain⟨k,ae⟩:∃k:Nat,q-e=k:=⟨(q-e).toNat,by omega⟩;rw[ae,d7];refine aI (y:=(l6 M k more,decide (M %2^k=0)&&!more,(false,([],())),be ((M/2^k:Nat):Int),())) ?_ ?_
  ·show(bif decide (q<=e) then _ else _)=_;rw[a1 aj];refine aI (y:=(be ((M/2^k:Nat):Int),l6 M k more,decide (M %2^k=0)&&!more,())) ?_ rfl;show FW (sH neg M e more,aQ (q-e),())=_;rw[b4 (by omega) (by omega),ae];exact alJ bF nC (by omega) (by omega)
  ·have uA:aU (M/2^k)<=900000:=d8 (lA (zZ _ _)) bF;refine aI (y:=(!(decide (M %2^k=0)&&!more)&&Cr neg (l6 M k more) (decide (M/2^k %2=1)) mode,(false,([],())),be ((M/2^k:Nat):Int),())) ?_ ?_
   ·dsimp only;cases ab:(decide (M %2^k=0)&&!more) with
    |true=>rfl
    |false=>
     show(bif mode==1 then some (neg,_,_,()) else _)=_;unfold Cr;rw[eY,eY,eY];by_cases iH:mode=1
     ·rw[a8 iH,if_pos iH];rfl
     rw[a1 iH,if_neg iH];by_cases fE:mode=2
     ·rw[a8 fE,if_pos fE];rfl
     rw[a1 fE,if_neg fE];by_cases jg:mode=3
     ·rw[a8 jg,if_pos jg];rfl
     rw[a1 jg,if_neg jg];generalize l6 M k more=c;show(bif decide (c>0)==false then _ else _)=_;by_cases da:c>0
     ·rw[a8 da];rfl
     rw[a1 da];show(bif (c==0)==true then _ else _)=_;rw[eY];by_cases ks:c=0
     ·rw[a8 ks];refine aI (xh (z:=((M/2^k:Nat):Int)) (kw (by rw[eg];omega))) ?_;dsimp only;have uy:=acp (n:=M/2^k);rw[ee];by_cases z0:M/2^k=0
      ·rw[a8 (show eT ((M/2^k:Nat):Int)=0 by rw[z0];rfl),a1 (show¬(M/2^k %2=1) by rw[z0];decide)];rfl
      ·have hs:eT ((M/2^k:Nat):Int)≠0:=by
        unfold eT;rw[if_neg (by omega)];split<;>omega
       rw[a1 hs];refine aI (afg (z:=((M/2^k:Nat):Int)) (kw (by rw[eg];omega)) (by omega)) ?_;rw[eg];dsimp only;rw[eY];by_cases t0:cP (M/2^k)=0
       ·rw[a8 (show(cP (M/2^k):Int)=0 by omega),a8 (uy.1 ⟨z0,t0⟩)];rfl
       ·rw[a1 (show¬(cP (M/2^k):Int)=0 by omega),a1 (fun h=>t0 (uy.2 h).2)];rfl
     ·rw[a1 ks];rfl
   ·dsimp only;refine aI (y:=((false,([],())),be ((jv neg M k more mode:Nat):Int),())) ?_ ?_
    ·unfold jv;by_cases ab:M %2^k=0/\more=false
     ·rw[if_pos ab,a8 ab.1,ab.2];rfl
     ·have pe:(decide (M %2^k=0)&&!more)=false:=by
       by_cases h:M %2^k=0
       ·cases more
        ·exact absurd ⟨h,rfl⟩ ab
        ·rw[a8 h];rfl
       ·rw[a1 h];rfl
      rw[if_neg ab,pe];by_cases aR:Cr neg (l6 M k more) (decide (M/2^k %2=1)) mode=true
      ·rw[if_pos aR,aR];refine aI (Rr (n:=1) (by decide) (by decide)) ?_;refine aI (WM (x:=((M/2^k:Nat):Int)) (y:=1) (by rw[eg];omega) (by decide)) ?_;rfl
      ·rw[if_neg aR,Bool.eq_false_iff.2 aR];rfl
    ·refine gm _ ?_;have:jv neg M k more mode<=M/2^k+1:=by
      unfold jv;split
      ·omega
      ·split<;>omega
     exact d8 (lA this) (d8 (Xv uA (show aU 1<=900000 by decide)) (by omega))
theorem Jr {f:Int} {neg:Bool} (J:0<=f) (R:f<9223372036854775808):Ax (f,neg,())=some (py neg f,()):=by
 unfold Ax py;cases neg
 ·rfl
 ·dsimp only;rw[p4 63 J (by exact R) (by decide) (by omega) (by decide) (by decide),Int.add_comm];rfl
theorem adk {neg:Bool} {mode:Int}:K6 (neg,mode,())=some (uT neg mode,()):=by
 unfold K6 uT;dsimp only;refine aI (y:=if(mode=3\/(mode=1/\neg=false)\/(mode=2/\neg=true)) then .inr (py neg 9218868437227405311,()) else .inl ()) ?_ ?_
 ·refine aI (y:=(decide (mode=3\/(mode=1/\neg=false)\/(mode=2/\neg=true)),())) ?_ ?_
  ·rw[eY,eY,eY];by_cases jg:mode=3
   ·subst jg;simp
   ·by_cases iH:mode=1
    ·subst iH;cases neg<;>simp
    ·by_cases fE:mode=2
     ·subst fE;cases neg<;>simp
     ·simp[iH,fE,jg]
  ·dsimp only;by_cases h:(mode=3\/(mode=1/\neg=false)\/(mode=2/\neg=true))
   ·rw[a8 h,if_pos h];exact aI (Jr (by decide) (by decide)) rfl
   ·rw[a1 h,if_neg h];rfl
 ·by_cases h:(mode=3\/(mode=1/\neg=false)\/(mode=2/\neg=true))
  ·rw[if_pos h,if_pos h]
  ·rw[if_neg h,if_neg h];exact aI (Jr (by decide) (by decide)) rfl
theorem VI {neg more:Bool} {M:Nat} {e mode:Int} (nC:0<M):(if cM M e<=e then M*2^(e-cM M e).toNat else jv neg M (cM M e-e).toNat more mode)<=9007199254740992:=by
 have aa:=es.1 (bU (aU M));have R0:=ub nC;have s1:e+aU M-53<=cM M e:=(by unfold cM;omega);split
 ·rename_i h;have R:M*2^(e-cM M e).toNat<2^aU M*2^(e-cM M e).toNat:=Nat.mul_lt_mul_of_pos_right aa (kM _);rw[<-jo] at R;have ac:2^(aU M+(e-cM M e).toNat)<=2^53:=tW (by decide) (by omega);have aL:(2:Nat)^53=9007199254740992:=(by decide);omega
 ·rename_i h;have R:M/2^(cM M e-e).toNat<2^53:=by
   rw[Nat.div_lt_iff_lt_mul (kM _),<-jo];exact jn aa (tW (by decide) (by omega))
  have aL:(2:Nat)^53=9007199254740992:=(by decide);unfold jv;split
  ·omega
  ·split<;>omega
theorem aej {neg more:Bool} {M:Nat} {e mode:Int} (bF:aU M<=800000) (nC:0<M) (J:-500000<=e) (R:e<=500000):FZ (sH neg M e more,mode,())=some (m2 neg M e more mode,()):=by
 have R0:=ub nC;have fb:=VI (neg:=neg) (more:=more) (mode:=mode) (e:=e) nC;have D4:m2 neg M e more mode=tm neg (if cM M e<=e then M*2^(e-cM M e).toNat else jv neg M (cM M e-e).toNat more mode) (cM M e) mode:=(by unfold m2;split<;>rfl);have uD:cM M e=if(-1074:Int)>e+aU M-1-52 then-1074 else e+aU M-1-52:=by unfold cM;split<;>omega
 have uC:-1074<=cM M e:=(by unfold cM;omega);have s1:cM M e<=1400000:=(by unfold cM;omega);unfold FZ;refine aI (arQ (by omega) (by omega) (by omega)) ?_;dsimp only;rw[b4 (by omega) (by omega),<-uD,D4];refine aI (as5 (by omega) nC ?_ ?_) ?_
 ·unfold cM;omega
 ·unfold cM;omega
 generalize(if cM M e<=e then M*2^(e-cM M e).toNat else jv neg M (cM M e-e).toNat more mode)=n at*;generalize cM M e=u at*;have fX:aU n<=54:=es.2 (by omega);have Zz:(if neg then-(n:Int) else(n:Int)).natAbs=n:=(by cases neg<;>simp);refine aI (PM (kw (by rw[Zz];omega))) ?_;rw[Zz];refine aI (aqW (z:=(n:Int)) (by omega) (by omega)) ?_;dsimp only;rw[dr (x:=(n:Int)) (by omega) (by omega),eY];show Option.bind _ _=some (tm neg n u mode,());unfold tm;by_cases da:n=9007199254740992
 ·rw[a8 (show(n:Int)=9007199254740992 by omega),if_neg (show¬n<4503599627370496 by omega),if_pos da];refine aI (y:=(u+1,4503599627370496,())) ?_ ?_
  ·show some (bN u,4503599627370496,())=_;unfold bN;rw[wrap64 (by omega) (by omega)]
  dsimp only;rw[a1 (show¬((4503599627370496:Int)<4503599627370496) by omega),b4 (by omega) (by omega),cond_false,cC];split
  ·rename_i g;exact aI adk rfl
  ·rename_i g;rw[dr (by omega) (by omega),q1 (by decide) (by decide),show(2:Int)^(52:Int).toNat=4503599627370496 from rfl,bq];have aA:bc (4503599627370496-4503599627370496)=0:=(by rw[dr (by omega) (by omega)];omega);have aX:(u+1+1075)*4503599627370496 %18446744073709551616=(u+1+1075)*4503599627370496:=(by omega);rw[aA,aX,IR,p4 52 (by decide) (by decide) (by omega) (by decide) (by omega) (by omega),Int.zero_add];exact aI (Jr (by omega) (by omega)) rfl
 ·rw[a1 (show¬(n:Int)=9007199254740992 by omega)];refine aI (y:=(u,(n:Int),())) rfl ?_;dsimp only;rw[cC];by_cases cw:n<4503599627370496
  ·rw[if_pos (show(n:Int)<4503599627370496 by omega),if_pos cw];exact aI (Jr (by omega) (by omega)) rfl
  ·rw[if_neg (show¬(n:Int)<4503599627370496 by omega),if_neg cw,if_neg da,b4 (by omega) (by omega),cC];split
   ·rename_i g;exact aI adk rfl
   ·rename_i g;rw[dr (x:=u+1075) (by omega) (by omega),q1 (by decide) (by decide),show(2:Int)^(52:Int).toNat=4503599627370496 from rfl,Option.bind_some,dr (x:=(n:Int)-4503599627370496) (by omega) (by omega)];have aX:(u+1075)*4503599627370496 %18446744073709551616=(u+1075)*4503599627370496:=(by omega);rw[aX,IR,p4 52 (by omega) (by omega) (by omega) (by omega) (by omega) (by omega)];refine aI (Jr (by omega) (by omega)) ?_;dsimp only;congr 3;omega
def qb (a b:Option Int) (mode:Int):Int:=match a,b with
 |some x,some y=>if y=0 then 9221120237041090560 else if x=0 then 0 else B5 x y mode
 |_,_=>9221120237041090560
def pt (d:Option Int) (mode:Int):Int:=match d with
 |some v=>if v<0 then 9221120237041090560 else if v=0 then 0 else zl v mode
 |none=>9221120237041090560
theorem IE (v:Int):(be (bQ v)).1=decide (v<0):=by show decide (bQ v<0)=_;rw[decide_eq_decide];exact EF
theorem axk {x y:Int} (ab:iL x) (aB:iL y) (ko:x≠0) (fP:y≠0) (mode:Int):∃M e more,KT (b6 (some x),b6 (some y),56,())=some (sH (decide (x<0)!=decide (y<0)) M e more,())/\0<M/\aU M<=800000/\-500000<=e/\e<=500000/\m2 (decide (x<0)!=decide (y<0)) M e more mode=B5 x y mode:=by
 have J:=lT ab;have R:=lT aB;have ac:=mn ab;have aL:=mn aB;have dY:0<(bQ x).natAbs:=(by have:=lP ko;omega);have dZ:0<(bQ y).natAbs:=(by have:=lP fP;omega);obtain⟨n,ag⟩:∃n,n=qa (bQ x).natAbs (bQ y).natAbs:=⟨_,rfl⟩;have wo:n<=131131:=(by rw[ag];unfold qa;omega);have uA:58<=aU ((bQ x).natAbs*2^n/(bQ y).natAbs):=OA dY dZ (by rw[ag];unfold qa;omega);have Ho:aU ((bQ x).natAbs*2^n)<=262203:=(by have:=xY (m:=(bQ x).natAbs) (n:=n);omega);refine⟨(bQ x).natAbs*2^n/(bQ y).natAbs,db x-n-db y,decide ((bQ x).natAbs*2^n %(bQ y).natAbs≠0),?_,?_,?_,by omega,by omega,?_⟩
 ·unfold KT;rw[jc,jc];refine aI (Ah (kw (by omega))) (aI (Ah (kw (by omega))) (aI (PM (kw (by omega))) ?_));dsimp only;have aA:(if aQ (aQ (aQ (56+3)+(aU (bQ y).natAbs:Int))-(aU (bQ x).natAbs:Int))>0 then aQ (aQ (aQ (56+3)+(aU (bQ y).natAbs:Int))-(aU (bQ x).natAbs:Int)) else 0)=(n:Int):=by
   rw[b4 (x:=56+3) (by decide) (by decide),b4 (x:=56+3+(aU (bQ y).natAbs:Int)) (by omega) (by omega),b4 (by omega) (by omega),ag];unfold qa;split<;>omega
  rw[aA];refine aI (Em (m:=((bQ x).natAbs:Int)) (by rw[eg];omega) (by omega) (by omega)) (aI (PM (kw (by omega))) ?_);have aX:((bQ x).natAbs:Int)*2^(n:Int).toNat=(((bQ x).natAbs*2^n:Nat):Int):=(by rw[Int.toNat_natCast,<-lR,<-Int.natCast_mul]);rw[aX];refine aI (alZ (x:=(((bQ x).natAbs*2^n:Nat):Int)) (y:=((bQ y).natAbs:Int)) (by rw[eg];omega) (by rw[eg];omega) (by omega) (by omega)) ?_;rw[<-Int.natCast_ediv,<-Int.natCast_emod];have hr:aU ((bQ x).natAbs*2^n %(bQ y).natAbs)<=900000:=Nat.le_trans (lA (Nat.mod_le _ _)) (by omega);refine aI (xh (kw (by rw[eg];omega))) ?_;dsimp only;rw[b4 (x:=db x-(n:Int)) (by omega) (by omega),b4 (by omega) (by omega),IE,IE];unfold sH;have bY:(eT (((bQ x).natAbs*2^n %(bQ y).natAbs:Nat):Int)!=0)=decide ((bQ x).natAbs*2^n %(bQ y).natAbs≠0):=by
   show(!(eT (((bQ x).natAbs*2^n %(bQ y).natAbs:Nat):Int)==0))=_;rw[px];by_cases g:(bQ x).natAbs*2^n %(bQ y).natAbs=0
   ·rw[a8 (by omega),a1 (fun h=>h g)];rfl
   ·rw[a1 (by omega),a8 g];rfl
  rw[bY];rfl
 ·rcases nl ((bQ x).natAbs*2^n/(bQ y).natAbs) with g|g
  ·rw[g] at uA;exact absurd uA (by decide)
  ·exact g
 ·exact d8 (lA (zZ _ _)) (by omega)
 ·unfold B5 w6;rw[<-ag];congr 1;unfold db;rw[if_neg ko,if_neg fP];omega
theorem anN {a b:Option Int} {mode:Int} (aC:e5 a) (aa:e5 b):K3 (b6 a,b6 b,mode,())=some (qb a b mode,()):=by
 unfold K3;refine aI (QI aC) (aI (QI aa) ?_);dsimp only;rw[AU,AU];cases a with
 |none=>cases b<;>rfl
 |some x=>
  cases b with
  |none=>rfl
  |some y=>
   by_cases fP:y=0
   ·subst fP;refine aI (y:=.inr (9221120237041090560,())) ?_ rfl;refine aI (y:=(true,b6 (some x),b6 (some 0),())) ?_ rfl;refine aI (sF aa) ?_;rfl
   by_cases ko:x=0
   ·subst ko;refine aI (y:=.inr (0,())) ?_ ?_
    ·refine aI (y:=(false,b6 (some 0),b6 (some y),())) ?_ ?_
     ·refine aI (sF aa) ?_;dsimp only;rw[show u6 (some y)=eT y from rfl,px,a1 fP]
     ·refine aI (sF aC) ?_;rfl
    ·unfold qb;simp only;rw[if_neg fP];rfl
   ·obtain⟨M,e,more,bS,bt,cY,c7,g0,kx⟩:=axk (aC x rfl) (aa y rfl) ko fP mode;refine aI (y:=.inl (b6 (some x),b6 (some y),())) ?_ ?_
    ·refine aI (y:=(false,b6 (some x),b6 (some y),())) ?_ ?_
     ·refine aI (sF aa) ?_;dsimp only;rw[show u6 (some y)=eT y from rfl,px,a1 fP]
     ·refine aI (sF aC) ?_;dsimp only;rw[show u6 (some x)=eT x from rfl,px,a1 ko];rfl
    ·refine aI bS (aI (aej cY bt c7 g0) ?_);unfold qb;simp only;rw[if_neg fP,if_neg ko,kx]
theorem axL {v:Int} (hv:iL v) (aV:0<v) (mode:Int):∃M e more,KW (b6 (some v),56,())=some (sH false M e more,())/\0<M/\aU M<=800000/\-500000<=e/\e<=500000/\m2 false M e more mode=zl v mode:=by
 have J:=lT hv;have ac:=mn hv;have v0:v≠0:=(by omega);have mS:0<bQ v:=(by have:=EF (v:=v);have:=lP v0;omega);obtain⟨B,dZ⟩:∃B:Nat,bQ v=B:=⟨(bQ v).toNat,by omega⟩;have DI:(bQ v).natAbs=B:=(by omega);rw[DI] at J;have kR:0<B:=(by omega);have nE:db v=gH v:=(by unfold db;rw[if_neg v0]);obtain⟨n,ag⟩:∃n,n=m3 B (db v):=⟨_,rfl⟩;have lI:n<=119:=(by rw[ag];unfold m3;split<;>omega);have h1:118<=aU B+n:=(by rw[ag];unfold m3;split<;>omega);have o9:(db v-n) %2=0:=(by rw[ag];unfold m3;split<;>omega);have Ho:aU (B*2^n)<=131191:=(by have:=xY (m:=B) (n:=n);omega);have yG:58<=aU (cI (B*2^n)):=NB (by rw[vF kR];omega);have Hz:cI (B*2^n)<=B*2^n:=by
  obtain⟨fA,hx⟩:=wB (B*2^n);rcases nl (cI (B*2^n)) with g|g
  ·omega
  ·exact d8 (Nat.le_mul_of_pos_left _ g) fA
 have aam:=lA Hz;refine⟨cI (B*2^n),(db v-n)/2,decide (cI (B*2^n)*cI (B*2^n)≠B*2^n),?_,?_,by omega,by omega,by omega,?_⟩
 ·unfold KW;rw[jc,dZ];refine aI (Ah (kw (by rw[eg];omega))) ?_;rw[eg];dsimp only;have aA:(if aQ (aQ (2*aQ (56+3))-(aU B:Int))>0 then aQ (aQ (2*aQ (56+3))-(aU B:Int)) else 0)=((118-aU B:Nat):Int):=by
   rw[b4 (x:=56+3) (by decide) (by decide),b4 (x:=2*(56+3)) (by decide) (by decide),b4 (by omega) (by omega)];split<;>omega
  rw[aA];refine aI (y:=((n:Int),(false,((false,([],())),((0:Int),(false,())))),())) ?_ ?_
  ·rw[b4 (by omega) (by omega)];refine aI (y:=(db v-((118-aU B:Nat):Int)).tmod 2) (by unfold ji;rw[if_pos (by decide)]) ?_;rw[ee];have rI:((db v-((118-aU B:Nat):Int)).tmod 2=0)↔((db v-((118-aU B:Nat):Int)) %2=0):=by
    constructor
    ·intro h;have:=Int.dvd_of_tmod_eq_zero h;omega
    ·intro h;exact Int.tmod_eq_zero_of_dvd (Int.dvd_of_emod_eq_zero h)
   by_cases g:(db v-((118-aU B:Nat):Int)) %2=0
   ·rw[a8 (rI.2 g)];show some (((118-aU B:Nat):Int),_,())=_;rw[ag];unfold m3;rw[if_pos g]
   ·rw[a1 (fun h=>g (rI.1 h))];show some (bN ((118-aU B:Nat):Int),_,())=_;rw[cO (by omega),ag];unfold m3;rw[if_neg g]
  ·dsimp only;refine aI (Em (m:=(B:Int)) (k:=(n:Int)) (by rw[eg];omega) (by omega) (by omega)) ?_;have aX:(B:Int)*2^(n:Int).toNat=((B*2^n:Nat):Int):=by
    rw[d7,<-lR,<-oL]
   rw[aX];refine aI (ayM (x:=((B*2^n:Nat):Int)) (by rw[eg];omega) (by omega)) ?_;rw[Int.toNat_natCast];dsimp only;rw[b4 (by omega) (by omega)];refine aI (y:=(db v-n)/2) ?_ ?_
   ·unfold ip;have:(db v-(n:Int)).tdiv 2=(db v-(n:Int))/2:=by
     obtain⟨c,hc⟩:∃c,db v-(n:Int)=2*c:=⟨(db v-(n:Int))/2,by omega⟩;rw[hc,Int.mul_tdiv_cancel_left _ (by decide),Px _ (by decide)]
    rw[if_pos (by decide),this,wrap64 (by omega) (by omega)]
   refine aI (ab2 (x:=(cI (B*2^n):Int)) (y:=(cI (B*2^n):Int)) (by rw[eg];omega) (by rw[eg];omega)) ?_;rw[<-Int.natCast_mul];have SE:aU (cI (B*2^n)*cI (B*2^n))<=900000:=(by have:=Aj (k:=131191) (l:=131191) (show aU (cI (B*2^n))<=131191 by omega) (show aU (cI (B*2^n))<=131191 by omega);omega);refine aI (XU (x:=((cI (B*2^n)*cI (B*2^n):Nat):Int)) (y:=((B*2^n:Nat):Int)) (by rw[eg];omega) (by rw[eg];omega)) ?_;dsimp only;unfold sH;have bY:(e2 ((cI (B*2^n)*cI (B*2^n):Nat):Int) ((B*2^n:Nat):Int)!=0)=decide (cI (B*2^n)*cI (B*2^n)≠B*2^n):=by
    rw[ee];generalize cI (B*2^n)*cI (B*2^n)=p;generalize B*2^n=q;by_cases g:p=q
    ·subst g;rw[a1 (show¬(p≠p) from fun h=>h rfl),a8 (by unfold e2;rw[if_neg (by omega),if_neg (by omega)])];rfl
    ·rw[a8 g,a1 (by unfold e2;split;omega;split<;>omega)];rfl
   rw[bY]
 ·rcases nl (cI (B*2^n)) with g|g
  ·rw[g] at yG;exact absurd yG (by decide)
  ·exact g
 ·unfold zl w9;rw[DI,<-nE,<-ag]
theorem anR {d:Option Int} {mode:Int} (aP:e5 d):K4 (b6 d,mode,())=some (pt d mode,()):=by
 unfold K4;refine aI (QI aP) ?_;dsimp only;rw[AU];cases d with
 |none=>rfl
 |some v=>
  have hs:u6 (some v)=eT v:=rfl;by_cases aV:v<0
  ·refine aI (y:=.inr (9221120237041090560,())) ?_ ?_
   ·refine aI (y:=(true,b6 (some v),())) ?_ rfl;refine aI (sF aP) ?_;dsimp only;rw[hs,a8 (show eT v<0 by unfold eT;rw[if_neg (by omega),if_pos aV];decide)]
   ·unfold pt;simp only;rw[if_pos aV]
  ·have ag:decide (eT v<0)=false:=a1 (by unfold eT;split;omega;first|decide|(split<;>omega));by_cases z:v=0
   ·subst z;refine aI (y:=.inr (0,())) ?_ rfl;refine aI (y:=(false,b6 (some 0),())) ?_ ?_
    ·exact aI (sF aP) rfl
    ·exact aI (sF aP) rfl
   ·obtain⟨M,e,more,bS,bt,cY,c7,g0,kx⟩:=axL (aP v rfl) (by omega) mode;refine aI (y:=.inl (b6 (some v),())) ?_ ?_
    ·refine aI (y:=(false,b6 (some v),())) ?_ ?_
     ·refine aI (sF aP) ?_;dsimp only;rw[hs,ag]
     ·refine aI (sF aP) ?_;dsimp only;rw[hs,px,a1 z];rfl
    ·refine aI bS (aI (aej cY bt c7 g0) ?_);unfold pt;simp only;rw[if_neg aV,if_neg z,kx]
theorem ax1:vR (be 0,())=some (0,()):=by
 unfold vR;refine aI (zn (l:=[]) bi.nil (fun x ab=>by cases ab) (by decide)) ?_;refine U.eq_iff.1 (U.bJ (P:=fun q=>q=.inl ()) ?_ ?_)
 ·refine U.steps 0 (fun i s=>s=((0:Int),())) rfl (fun i s hi=>by omega) ?_;rintro _ rfl;exact U.ar.2 rfl
 ·rintro _ rfl;exact U.ar.2 rfl
theorem aeg {n:Nat} (ag:aU n<=900000):∃t,vR (be (n:Int),())=some (t,())/\((t=0/\n≠0)↔n %2=1):=by
 by_cases h:n=0
 ·subst h;exact⟨0,ax1,by simp⟩
 ·refine⟨(cP n:Int),?_,?_⟩
  ·have:=aer (z:=(n:Int)) (by rw[eg];omega) (by omega);rw[eg] at this;exact this
  ·rw[<-acp];constructor
   ·rintro⟨J,R⟩;exact⟨R,by omega⟩
   ·rintro⟨J,R⟩;exact⟨by omega,J⟩
theorem azD {neg IF:Bool} {c mode:Int}:LS (neg,c,IF,mode,())=some (Cr neg c IF mode,()):=by
 unfold LS Cr;dsimp only;rw[eY,eY,eY,eY];by_cases iH:mode=1
 ·rw[a8 iH,if_pos iH];rfl
 rw[a1 iH,if_neg iH];by_cases fE:mode=2
 ·rw[a8 fE,if_pos fE];rfl
 rw[a1 fE,if_neg fE];by_cases jg:mode=3
 ·rw[a8 jg,if_pos jg];rfl
 rw[a1 jg,if_neg jg];by_cases da:c>0
 ·rw[a8 da];rfl
 rw[a1 da];by_cases ks:c=0
 ·rw[a8 ks];cases IF<;>rfl
 ·rw[a1 ks];rfl
theorem axm {neg more:Bool} {M n:Nat} {mode:Int} (bF:aU M<=800000) (ag:n<=1000000):LN (neg,be (M:Int),(n:Int),more,mode,())=some (be ((jv neg M n more mode:Nat):Int),()):=by
 unfold LN;have Yw:∀k:Nat,(M:Int)/2^k=((M/2^k:Nat):Int):=fun k=>(by rw[<-lR,<-Int.natCast_ediv]);have Yy:∀k:Nat,decide (((M:Int).natAbs:Int) %2^k≠0)=decide (M %2^k≠0):=fun k=>(by rw[eg,<-lR,<-Int.natCast_emod,decide_eq_decide];omega);have aj:∀k,aU (M/2^k)<=800000:=fun k=>Nat.le_trans (lA (Nat.div_le_self _ _)) bF;refine aI (UT (m:=(M:Int)) (n:=n) (by rw[eg];omega) (by omega)) ?_;rw[Yw];refine aI (ad9 (z:=(M:Int)) (n:=n) (by rw[eg];omega) (by omega)) ?_;rw[Yy];dsimp only;by_cases ab:M %2^n=0/\more=false
 ·refine aI (y:=.inr (be ((M/2^n:Nat):Int),())) ?_ ?_
  ·rw[a1 (fun h=>h ab.1),ab.2];rfl
  ·unfold jv;rw[if_pos ab]
 refine aI (y:=.inl ((false,([],())),be ((M/2^n:Nat):Int),())) ?_ ?_
 ·by_cases h:M %2^n=0
  ·have:more=true:=by
    cases more
    ·exact absurd ⟨h,rfl⟩ ab
    ·rfl
   rw[a1 (fun R=>R h),this];rfl
  ·rw[a8 h];rfl
 dsimp only;refine aI (y:=(l6 M n more,(false,([],())),be ((M/2^n:Nat):Int),())) ?_ ?_
 ·rw[cC];split
  ·rename_i h;obtain⟨j,rfl⟩:∃j,n=j+1:=⟨n-1,by omega⟩;have amA:aQ (((j+1:Nat):Int)-1)=(j:Int):=(by rw[b4 (by omega) (by omega)];omega);rw[amA];refine aI (UT (m:=(M:Int)) (n:=j) (by rw[eg];omega) (by omega)) ?_;rw[Yw];obtain⟨t,ah,uy⟩:=aeg (n:=M/2^j) (by have:=aj j;omega);have Sm:=TN M j 1;rw[Nat.pow_one] at Sm;have ca:=Nat.mod_lt M (kM j);have sY:2^(j+1)=2*2^j:=(by rw[mC,pJ]);refine aI (y:=(decide (M/2^j %2=1),(false,([],())),be ((M/2^(j+1):Nat):Int),())) ?_ ?_
   ·refine aI ah ?_;dsimp only;rw[eY];by_cases t0:t=0
    ·rw[a8 t0];refine aI (oD (z:=((M/2^j:Nat):Int)) (by rw[eg];have:=aj j;omega)) ?_;dsimp only;have bY:(eT ((M/2^j:Nat):Int)!=0)=decide (M/2^j %2=1):=by
      show(!(eT ((M/2^j:Nat):Int)==0))=_;rw[px];by_cases g:M/2^j=0
      ·rw[a8 (by omega),a1 (fun h=>(uy.2 h).2 g)];rfl
      ·rw[a1 (by omega),a8 (uy.1 ⟨t0,g⟩)];rfl
     rw[bY]
    ·rw[a1 t0,a1 (fun h=>t0 (uy.2 h).1)];rfl
   ·dsimp only;unfold l6;by_cases aJ:M/2^j %2=1
    ·rw[a8 aJ];have hr:M %2^(j+1)=2^j+M %2^j:=(by rw[Sm,aJ,lx]);rw[hr,if_neg (by omega)];cases more
     ·show(Option.bind _ _)=_;refine aI (ad9 (z:=(M:Int)) (n:=j) (by rw[eg];omega) (by omega)) ?_;rw[Yy];dsimp only;by_cases g:M %2^j=0
      ·rw[a1 (fun h=>h g),g,if_neg (by omega)];rfl
      ·rw[a8 g,if_pos (by omega)];rfl
     ·show some (1,_,_,())=_;split<;>rfl
    ·rw[a1 aJ];have hr:M %2^(j+1)=M %2^j:=by
      rw[Sm,show M/2^j %2=0 by omega,Nat.zero_mul,kN]
     rw[hr,if_pos (by omega)];rfl
  ·rename_i h;obtain rfl:n=0:=(by omega);unfold l6;rw[if_pos (by rw[Nat.pow_zero,Nat.mod_one];decide)]
 ·dsimp only;obtain⟨t,ah,uy⟩:=aeg (n:=M/2^n) (by have:=aj n;omega);refine aI (y:=(decide (M/2^n %2=1),(false,([],())),be ((M/2^n:Nat):Int),())) ?_ ?_
  ·refine aI (oD (z:=((M/2^n:Nat):Int)) (by rw[eg];have:=aj n;omega)) ?_;dsimp only;have bY:(eT ((M/2^n:Nat):Int)!=0)=decide (M/2^n≠0):=by
    show(!(eT ((M/2^n:Nat):Int)==0))=_;rw[px];by_cases g:M/2^n=0
    ·rw[a8 (by omega),a1 (fun h=>h g)];rfl
    ·rw[a1 (by omega),a8 g];rfl
   rw[bY];by_cases g:M/2^n=0
   ·rw[a1 (fun h=>h g),a1 (fun h=>(uy.2 h).2 g)];rfl
   ·rw[a8 g];refine aI ah ?_;dsimp only;rw[eY];by_cases t0:t=0
    ·rw[a8 t0,a8 (uy.1 ⟨t0,g⟩)]
    ·rw[a1 t0,a1 (fun h=>t0 (uy.2 h).1)]
  ·dsimp only;refine aI (y:=((false,([],())),be ((jv neg M n more mode:Nat):Int),())) ?_ rfl;refine aI azD ?_;dsimp only;unfold jv;rw[if_neg ab];by_cases aR:Cr neg (l6 M n more) (decide (M/2^n %2=1)) mode=true
   ·rw[if_pos aR,aR];refine aI (OO (n:=1) (by decide) (by decide)) ?_;refine aI (I9 (x:=((M/2^n:Nat):Int)) (y:=1) (by rw[eg];have:=aj n;omega) (by decide)) ?_;rfl
   ·rw[if_neg aR,Bool.eq_false_iff.2 aR];rfl
theorem Jg {f:Int} {neg:Bool} (J:0<=f) (R:f<9223372036854775808):vS (neg,f,())=some (py neg f,()):=by
 unfold vS py;cases neg
 ·rfl
 ·dsimp only;rw[p4 63 J (by exact R) (by decide) (by omega) (by decide) (by decide),Int.add_comm];rfl
theorem UZ {neg:Bool} {mode:Int}:Gy (neg,mode,())=some (uT neg mode,()):=by
 unfold Gy uT;dsimp only;refine aI (y:=if(mode=3\/(mode=1/\neg=false)\/(mode=2/\neg=true)) then .inr (py neg 9218868437227405311,()) else .inl ()) ?_ ?_
 ·refine aI (y:=(decide (mode=3\/(mode=1/\neg=false)\/(mode=2/\neg=true)),())) ?_ ?_
  ·rw[eY,eY,eY];by_cases jg:mode=3
   ·subst jg;simp
   ·by_cases iH:mode=1
    ·subst iH;cases neg<;>simp
    ·by_cases fE:mode=2
     ·subst fE;cases neg<;>simp
     ·simp[iH,fE,jg]
  ·dsimp only;by_cases h:(mode=3\/(mode=1/\neg=false)\/(mode=2/\neg=true))
   ·rw[a8 h,if_pos h];exact aI (Jg (by decide) (by decide)) rfl
   ·rw[a1 h,if_neg h];rfl
 ·by_cases h:(mode=3\/(mode=1/\neg=false)\/(mode=2/\neg=true))
  ·rw[if_pos h,if_pos h]
  ·rw[if_neg h,if_neg h];exact aI (Jg (by decide) (by decide)) rfl
theorem azC {neg more:Bool} {M:Nat} {e mode:Int} (nC:0<M) (aR:-1074<cM M e):4503599627370496<=(if cM M e<=e then M*2^(e-cM M e).toNat else jv neg M (cM M e-e).toNat more mode):=by
 obtain⟨DP,je⟩:=C9 nC;have R0:=ub nC;have s1:cM M e=e+aU M-53:=(by unfold cM at*;omega);have aL:(2:Nat)^52=4503599627370496:=(by decide);split
 ·rename_i h;have R:2^(aU M-1)*2^(e-cM M e).toNat<=M*2^(e-cM M e).toNat:=jQ _ DP;rw[<-jo] at R;have ac:2^52<=2^(aU M-1+(e-cM M e).toNat):=tW (by decide) (by omega);omega
 ·rename_i h;have R:2^52<=M/2^(cM M e-e).toNat:=by
   rw[Ka (kM _),<-jo];exact d8 (tW (by decide) (by omega)) DP
  unfold jv;split
  ·omega
  ·split<;>omega
theorem U1 {neg more:Bool} {M:Nat} {e mode:Int} (bF:aU M<=800000) (nC:0<M) (J:-500000<=e) (R:e<=500000) (apM:more=true->54<=aU M):Du (neg,be (M:Int),e,more,mode,())=some (m2 neg M e more mode,()):=by
 have R0:=ub nC;have fb:=VI (neg:=neg) (more:=more) (mode:=mode) (e:=e) nC;have kS:=azC (neg:=neg) (more:=more) (mode:=mode) (e:=e) nC;have D4:m2 neg M e more mode=tm neg (if cM M e<=e then M*2^(e-cM M e).toNat else jv neg M (cM M e-e).toNat more mode) (cM M e) mode:=(by unfold m2;split<;>rfl);have uD:cM M e=if(-1074:Int)>e+aU M-1-52 then-1074 else e+aU M-1-52:=by unfold cM;split<;>omega
 have uC:-1074<=cM M e:=(by unfold cM;omega);have s1:cM M e<=1400000:=(by unfold cM;omega);have qJ:-1000000<=cM M e-e:=(by unfold cM;omega);have mT:cM M e-e<=1000000:=(by unfold cM;omega);unfold Du;refine aI (B7 (z:=(M:Int)) (by rw[eg];omega)) ?_;rw[eg];dsimp only;rw[b4 (x:=e+(aU M:Int)) (by omega) (by omega),b4 (x:=e+(aU M:Int)-1) (by omega) (by omega),b4 (x:=e+(aU M:Int)-1-52) (by omega) (by omega),<-uD,D4,cC];split
 ·rename_i MT;have aBz:972<=cM M e:=(by unfold cM;omega);have kS:=kS (by omega);refine aI UZ ?_;clear uD D4 qJ mT;generalize(if cM M e<=e then M*2^(e-cM M e).toNat else jv neg M (cM M e-e).toNat more mode)=n at*;unfold tm;rw[if_neg (by omega)];by_cases da:n=9007199254740992
  ·rw[if_pos da,if_pos (by omega)]
  ·rw[if_neg da,if_pos (by omega)]
 rename_i MT;refine aI (y:=(be ((if cM M e<=e then M*2^(e-cM M e).toNat else jv neg M (cM M e-e).toNat more mode:Nat):Int),())) ?_ ?_
 ·rw[cC];split
  ·rename_i g;obtain⟨k,ae⟩:∃k:Nat,cM M e-e=k:=⟨(cM M e-e).toNat,by omega⟩;rw[b4 (x:=cM M e-e) (by omega) (by omega),ae,Int.toNat_natCast];refine aI (axm bF (by omega)) ?_;dsimp only;by_cases k0:cM M e<=e
   ·have apy:k=0:=(by omega);have ak:more=false:=by
     cases more
     ·rfl
     ·have:=apM rfl;exfalso;unfold cM at*;omega
    rw[if_pos k0,apy];unfold jv;rw[if_pos ⟨by rw[Nat.pow_zero,Nat.mod_one],ak⟩,show(e-cM M e).toNat=0 by omega];simp
   ·rw[if_neg k0]
  ·rename_i g;obtain⟨k,ae⟩:∃k:Nat,e-cM M e=k:=⟨(e-cM M e).toNat,by omega⟩;rw[b4 (x:=e-cM M e) (by omega) (by omega),if_pos (by omega),ae,d7];refine aI (Jf (z:=(M:Int)) (n:=k) (by rw[eg];omega) (by omega)) ?_;rw[oL,lR]
 generalize(if cM M e<=e then M*2^(e-cM M e).toNat else jv neg M (cM M e-e).toNat more mode)=n at*;generalize cM M e=u at*;dsimp only;refine aI (axH (z:=(n:Int)) (by omega) (by omega)) ?_;dsimp only;rw[eY];unfold tm;by_cases da:n=9007199254740992
 ·rw[a8 (show(n:Int)=9007199254740992 by omega),if_neg (show¬n<4503599627370496 by omega),if_pos da];refine aI (y:=(u+1,4503599627370496,())) ?_ ?_
  ·show some (bN u,4503599627370496,())=_;unfold bN;rw[wrap64 (by omega) (by omega)]
  dsimp only;rw[b4 (x:=u+1+53) (by omega) (by omega),a8 (show(4503599627370496:Int)>=4503599627370496 by omega)];by_cases g:u+1+1075>=2047
  ·rw[if_pos g];refine aI (y:=.inr (uT neg mode,())) ?_ rfl;refine aI (y:=(true,())) ?_ (aI UZ rfl);rw[a8 (show u+1+53>1024 by omega)];rfl
  ·rw[if_neg g];refine aI (y:=.inr (py neg ((u+1+1075)*4503599627370496),())) ?_ rfl;refine aI (y:=(false,())) ?_ ?_
   ·rw[a1 (show¬u+1+53>1024 by omega)];rfl
   dsimp only;rw[b4 (x:=u+1+1075) (by omega) (by omega),dr (x:=u+1+1075) (by omega) (by omega),q1 (by decide) (by decide),show(2:Int)^(52:Int).toNat=4503599627370496 from rfl];have aA:bc (aQ (4503599627370496-4503599627370496))=0:=(by rw[b4 (by omega) (by omega),dr (by omega) (by omega)];omega);have aX:(u+1+1075)*4503599627370496 %18446744073709551616=(u+1+1075)*4503599627370496:=(by omega);rw[aA,aX];show((vS (neg,fF IntKind.u64 ((u+1+1075)*4503599627370496) 0,())).bind _)=_;rw[IR,p4 52 (by decide) (by decide) (by omega) (by decide) (by omega) (by omega),Int.zero_add];exact aI (Jg (by omega) (by omega)) rfl
 ·rw[a1 (show¬(n:Int)=9007199254740992 by omega)];refine aI (y:=(u,(n:Int),())) rfl ?_;dsimp only;rw[b4 (x:=u+53) (by omega) (by omega)];by_cases cw:n<4503599627370496
  ·rw[a1 (show¬((n:Int)>=4503599627370496) by omega),if_pos cw,dr (x:=(n:Int)) (by omega) (by omega)];refine aI (y:=.inl ()) ?_ ?_
   ·exact aI rfl rfl
   ·exact aI (Jg (by omega) (by omega)) rfl
  ·rw[a8 (show((n:Int)>=4503599627370496) by omega),if_neg cw,if_neg da];by_cases g:u+1075>=2047
   ·rw[if_pos g];refine aI (y:=.inr (uT neg mode,())) ?_ rfl;refine aI (y:=(true,())) ?_ (aI UZ rfl);rw[a8 (show u+53>1024 by omega)];rfl
   ·rw[if_neg g];refine aI (y:=.inr (py neg ((u+1075)*4503599627370496+((n:Int)-4503599627370496)),())) ?_ rfl;refine aI (y:=(false,())) ?_ ?_
    ·rw[a1 (show¬u+53>1024 by omega)];rfl
    dsimp only;rw[b4 (x:=u+1075) (by omega) (by omega),dr (x:=u+1075) (by omega) (by omega),q1 (by decide) (by decide),show(2:Int)^(52:Int).toNat=4503599627370496 from rfl];have aA:bc (aQ ((n:Int)-4503599627370496))=(n:Int)-4503599627370496:=(by rw[b4 (by omega) (by omega),dr (by omega) (by omega)]);have aX:(u+1075)*4503599627370496 %18446744073709551616=(u+1075)*4503599627370496:=(by omega);rw[aA,aX];show((vS (neg,fF IntKind.u64 ((u+1075)*4503599627370496) ((n:Int)-4503599627370496),())).bind _)=_;rw[IR,p4 52 (by omega) (by omega) (by omega) (by omega) (by omega) (by omega)];refine aI (Jg (by omega) (by omega)) ?_;dsimp only;congr 4;omega
theorem WV {f:Int} (aH:eE f):d6 IntKind.u64 f 52=some (f/4503599627370496)/\ed IntKind.u64 (f/4503599627370496) 2047=dw f/\ed IntKind.u64 f 4503599627370495=hp f:=by
 have J:=aH.1;have R:=aH.2;refine⟨?_,?_,?_⟩
 ·rw[zt (by decide) (by decide)];rfl
 ·rw[xT 11 (by omega) (by omega) 2047 (by decide) (by decide)];rfl
 ·rw[xT 52 (by omega) (by omega) 4503599627370495 (by decide) (by decide)];rfl
theorem OP {f:Int} (aH:eE f):AH (f,())=some (!decide (dw f=2047),()):=by obtain⟨ch,c8,a3⟩:=WV aH;unfold AH;refine aI ch ?_;rw[c8,ee]
theorem axI {f:Int} (aH:eE f):LU (f,())=some (decide (9223372036854775808<=f),()):=by unfold LU;dsimp only;rw[Xq aH]
theorem Je {f:Int} (aH:eE f):x8 (f,())=some (b6 (gw f),()):=by
 obtain⟨ch,c8,a3⟩:=WV aH;have ak:=Rg f;have aE:=Mu f;unfold x8 gw;refine aI (OP aH) ?_;dsimp only;by_cases J:dw f=2047
 ·rw[a8 J,if_pos J];rfl
 rw[a1 J,if_neg J,show(!!false)=false from rfl,cond_false,ch,bq,c8,a3,b4 (x:=dw f) (by omega) (by omega)];obtain⟨m,e,Sl,R,ac,aL,aY,bG⟩:∃m e,(bif decide (dw f>0) then some (fF IntKind.u64 (hp f) 4503599627370496,aQ (dw f-1075),((false,((false,([],())),((0:Int),()))):dO),()) else some (hp f,(-1074:Int),(false,((false,([],())),((0:Int),()))),()))=some (m,e,(false,((false,([],())),((0:Int),()))),())/\0<=m/\m<9007199254740992/\-1074<=e/\e<=972/\(m=(if dw f=0 then hp f else hp f+4503599627370496)/\e=(if dw f=0 then-1074 else dw f-1075)):=by
  by_cases g:dw f=0
  ·refine⟨hp f,-1074,?_,by omega,by omega,by omega,by omega,by rw[if_pos g],by rw[if_pos g]⟩;rw[a1 (show¬dw f>0 by omega)];rfl
  ·refine⟨hp f+4503599627370496,dw f-1075,?_,by omega,by omega,by omega,by omega,by rw[if_neg g],by rw[if_neg g]⟩;rw[a8 (show dw f>0 by omega),b4 (by omega) (by omega),p4 52 (by omega) (by omega) (by omega) (by omega) (by omega) (by decide)];rfl
 rw[<-bG.1,<-bG.2];refine aI Sl ?_;dsimp only;refine aI (axI aH) ?_;rw[qe,Option.bind_some];dsimp only;rw[tE m,m7 (x:=m/4294967296) (by omega) (by omega)];have aa:aU m.natAbs<=53:=es.2 (by omega);refine aI (aea (b:=(decide (9223372036854775808<=f),[m %4294967296,m/4294967296],())) (m:=if f<9223372036854775808 then m else-m) (bi.cons.2 ⟨⟨by omega,by omega⟩,bi.cons.2 ⟨⟨by omega,by omega⟩,bi.nil⟩⟩) (by simp) ?_ ?_ (by omega) (by omega)) rfl
 ·unfold gM;simp only[af];by_cases g:f<9223372036854775808
  ·rw[a1 (show¬(9223372036854775808<=f) by omega),if_pos g,if_neg (by simp)];omega
  ·rw[a8 (show 9223372036854775808<=f by omega),if_neg g,if_pos rfl];omega
 ·split
  ·omega
  ·rw[zR];omega
def uZ (d:Option Int) (mode:Int):Int:=match d with
 |none=>9221120237041090560
 |some v=>Jd v mode
theorem aen {d:Option Int} {mode:Int} (aP:e5 d):Gx (b6 d,mode,())=some (uZ d mode,()):=by
 unfold Gx;refine aI (uX aP) ?_;dsimp only;rw[AU];cases d with
 |none=>rfl
 |some v=>
  have hr:=aP v rfl;have J:=lT hr;have ac:=mn hr;rw[jc];refine aI (oD (by omega)) ?_;dsimp only;rw[px];unfold uZ Jd;by_cases z:v=0
  ·subst z;rw[a8 (show bQ 0=0 from rfl)];rfl
  ·rw[a1 (lP z)];simp only;rw[if_neg z,cond_false];have mS:0<(bQ v).natAbs:=(by have:=lP z;omega);refine aI (I8 (by omega)) ?_;dsimp only;rw[IE];refine aI (U1 (by omega) mS (by omega) (by omega) (fun h=>by cases h)) ?_;unfold db;rw[if_neg z]
theorem aaW (n:Int):e5 (uJ n):=TK n 0
theorem ON {n mode:Int} (J:-9223372036854775808<=n) (R:n<=9223372036854775807):AG (n,mode,())=some (uZ (uJ n) mode,()):=by unfold AG;exact aI (adU J R) (aI (aen (aaW n)) rfl)
theorem axV {A B:Nat} (dY:0<A) (dZ:0<B) (J:aU A<=131072) (R:aU B<=131072):∃k,qa A B<=k/\k<=140000/\LP (be (A:Int),be (B:Int),60,())=some (be ((A*2^k/B:Nat):Int),-(k:Int),decide (A*2^k %B≠0),()):=by
 obtain⟨k,ae⟩:∃k,k=62+aU B-aU A:=⟨_,rfl⟩;have Bm:k<=131134:=(by omega);have Ho:aU (A*2^k)<=262206:=(by have:=xY (m:=A) (n:=k);omega);refine⟨k,by unfold qa;omega,by omega,?_⟩;unfold LP;refine aI (B7 (z:=(B:Int)) (by rw[eg];omega)) (aI (B7 (z:=(A:Int)) (by rw[eg];omega)) ?_);rw[eg,eg];dsimp only;have aA:(if 0>aQ (aQ (aQ (60+2)+(aU B:Int))-(aU A:Int)) then 0 else aQ (aQ (aQ (60+2)+(aU B:Int))-(aU A:Int)))=(k:Int):=(by rw[b4 (x:=60+2) (by decide) (by decide),b4 (x:=60+2+(aU B:Int)) (by omega) (by omega),b4 (by omega) (by omega)];split<;>omega);rw[aA];refine aI (Jf (z:=(A:Int)) (n:=k) (by rw[eg];omega) (by omega)) ?_;have aX:(A:Int)*2^k=((A*2^k:Nat):Int):=(by rw[<-lR,<-Int.natCast_mul]);rw[aX];refine aI (adV (x:=((A*2^k:Nat):Int)) (y:=(B:Int)) (by rw[eg];omega) (by rw[eg];omega) (by omega) (by omega)) ?_;rw[<-Int.natCast_ediv,<-Int.natCast_emod];have hr:aU (A*2^k %B)<=900000:=Nat.le_trans (lA (Nat.mod_le _ _)) (by omega);refine aI (oD (by rw[eg];omega)) ?_;dsimp only;rw[b4 (by omega) (by omega),Int.zero_sub];have bY:(eT ((A*2^k %B:Nat):Int)!=0)=decide (A*2^k %B≠0):=by
  show(!(eT ((A*2^k %B:Nat):Int)==0))=_;rw[px];by_cases g:A*2^k %B=0
  ·rw[a8 (by omega),a1 (fun h=>h g)];rfl
  ·rw[a1 (by omega),a8 g];rfl
 rw[bY]
theorem axE {a b:Option Int} {mode:Int} (aC:e5 a) (aa:e5 b):LV (b6 a,b6 b,mode,())=some (qb a b mode,()):=by
 unfold LV;refine aI (uX aC) (aI (uX aa) ?_);dsimp only;rw[AU,AU];cases a with
 |none=>cases b<;>rfl
 |some x=>
  cases b with
  |none=>rfl
  |some y=>
   have J:=lT (aC x rfl);have R:=lT (aa y rfl);have ac:=mn (aC x rfl);have aL:=mn (aa y rfl);rw[jc,jc];by_cases fP:y=0
   ·subst fP;refine aI (y:=.inr (9221120237041090560,())) ?_ rfl;exact aI (oD (z:=bQ 0) (by decide)) rfl
   refine aI (y:=.inl ((false,be (bQ x),db x,()),(false,be (bQ y),db y,()),())) ?_ ?_
   ·refine aI (oD (z:=bQ y) (by omega)) ?_;dsimp only;rw[px,a1 (lP fP)];rfl
   dsimp only;refine aI (oD (z:=bQ x) (by omega)) ?_;dsimp only;rw[px];unfold qb;simp only;rw[if_neg fP];by_cases ko:x=0
   ·subst ko;rw[a8 (show bQ 0=0 from rfl)];rfl
   rw[a1 (lP ko),if_neg ko,cond_false];have dY:0<(bQ x).natAbs:=(by have:=lP ko;omega);have dZ:0<(bQ y).natAbs:=(by have:=lP fP;omega);refine aI (I8 (by omega)) (aI (I8 (by omega)) ?_);obtain⟨k,bk,bD,cm⟩:=axV dY dZ J R;refine aI cm ?_;dsimp only;rw[b4 (x:=db x-db y) (by omega) (by omega),b4 (by omega) (by omega),IE,IE];have uA:58<=aU ((bQ x).natAbs*2^k/(bQ y).natAbs):=OA dY dZ (by unfold qa at bk;omega);have fY:0<(bQ x).natAbs*2^k/(bQ y).natAbs:=by
    rcases nl ((bQ x).natAbs*2^k/(bQ y).natAbs) with g|g
    ·rw[g] at uA;exact absurd uA (by decide)
    ·exact g
   have kU:aU ((bQ x).natAbs*2^k/(bQ y).natAbs)<=800000:=Nat.le_trans (lA (Nat.div_le_self _ _)) (by have:=xY (m:=(bQ x).natAbs) (n:=k);omega);refine aI (U1 kU fY (by omega) (by omega) (fun _=>by omega)) ?_;have nF:=awG (mode:=mode) ko fP bk;dsimp only;rw[<-nF];unfold w6;have amz:db x-db y+-(k:Int)=gH x-gH y-k:=(by unfold db;rw[if_neg ko,if_neg fP];omega);rw[amz];rfl
theorem axW {B:Nat} {ex:Int} (kR:0<B) (J:aU B<=131072) (Bs:-70000<=ex) (pe:ex<=70000):∃k:Nat,118<=aU B+k/\k<=127/\(ex-k) %2=0/\LQ (be (B:Int),ex,60,())=some (be ((cI (B*2^k):Nat):Int),(ex-k)/2,decide (cI (B*2^k)*cI (B*2^k)≠B*2^k),()):=by
 obtain⟨n,ag⟩:∃n:Nat,n=if(ex-((126-aU B:Nat):Int)) %2=0 then 126-aU B else 126-aU B+1:=⟨_,rfl⟩
 have lI:n<=127:=(by rw[ag];split<;>omega);have h1:118<=aU B+n:=(by rw[ag];split<;>omega);have o9:(ex-n) %2=0:=(by rw[ag];split<;>omega);have Ho:aU (B*2^n)<=131199:=(by have:=xY (m:=B) (n:=n);omega);have Hz:cI (B*2^n)<=B*2^n:=by
  obtain⟨fA,hx⟩:=wB (B*2^n);rcases nl (cI (B*2^n)) with g|g
  ·omega
  ·exact d8 (Nat.le_mul_of_pos_left _ g) fA
 have aam:=lA Hz;refine⟨n,h1,lI,o9,?_⟩;unfold LQ;refine aI (B7 (z:=(B:Int)) (by rw[eg];omega)) ?_;rw[eg];dsimp only;have aA:(if 0>aQ (aQ (aQ (2*60)+6)-(aU B:Int)) then 0 else aQ (aQ (aQ (2*60)+6)-(aU B:Int)))=((126-aU B:Nat):Int):=(by rw[b4 (x:=2*60) (by decide) (by decide),b4 (x:=2*60+6) (by decide) (by decide),b4 (by omega) (by omega)];split<;>omega);rw[aA];refine aI (y:=((n:Int),(false,([],())),())) ?_ ?_
 ·rw[b4 (by omega) (by omega)];refine aI (y:=(ex-((126-aU B:Nat):Int)).tmod 2) (by unfold ji;rw[if_pos (by decide)]) ?_;rw[ee];have rI:((ex-((126-aU B:Nat):Int)).tmod 2=0)↔((ex-((126-aU B:Nat):Int)) %2=0):=by
   constructor
   ·intro h;have:=Int.dvd_of_tmod_eq_zero h;omega
   ·intro h;exact Int.tmod_eq_zero_of_dvd (Int.dvd_of_emod_eq_zero h)
  by_cases g:(ex-((126-aU B:Nat):Int)) %2=0
  ·rw[a8 (rI.2 g)];show some (((126-aU B:Nat):Int),_,())=_;rw[ag,if_pos g]
  ·rw[a1 (fun h=>g (rI.1 h))];show some (bN ((126-aU B:Nat):Int),_,())=_;rw[cO (by omega),ag,if_neg g]
 ·dsimp only;refine aI (Jf (z:=(B:Int)) (n:=n) (by rw[eg];omega) (by omega)) ?_;have aX:(B:Int)*2^n=((B*2^n:Nat):Int):=(by rw[<-lR,<-Int.natCast_mul]);rw[aX];refine aI (axY (x:=((B*2^n:Nat):Int)) (by rw[eg];omega) (by omega)) ?_;rw[Int.toNat_natCast];dsimp only;rw[b4 (by omega) (by omega)];refine aI (y:=(ex-n)/2) ?_ ?_
  ·unfold ip;have:(ex-(n:Int)).tdiv 2=(ex-(n:Int))/2:=by
    obtain⟨c,hc⟩:∃c,ex-(n:Int)=2*c:=⟨(ex-(n:Int))/2,by omega⟩;rw[hc,Int.mul_tdiv_cancel_left _ (by decide),Px _ (by decide)]
   rw[if_pos (by decide),this,wrap64 (by omega) (by omega)]
  refine aI (aeb (x:=(cI (B*2^n):Int)) (y:=(cI (B*2^n):Int)) (by rw[eg];omega) (by rw[eg];omega)) ?_;rw[<-Int.natCast_mul];have SE:aU (cI (B*2^n)*cI (B*2^n))<=900000:=(by have:=Aj (k:=131199) (l:=131199) (show aU (cI (B*2^n))<=131199 by omega) (show aU (cI (B*2^n))<=131199 by omega);omega);refine aI (adS (x:=((cI (B*2^n)*cI (B*2^n):Nat):Int)) (y:=((B*2^n:Nat):Int)) (by rw[eg];omega) (by rw[eg];omega)) ?_;dsimp only;have bY:(e2 ((cI (B*2^n)*cI (B*2^n):Nat):Int) ((B*2^n:Nat):Int)!=0)=decide (cI (B*2^n)*cI (B*2^n)≠B*2^n):=by
   rw[ee];generalize cI (B*2^n)*cI (B*2^n)=p;generalize B*2^n=q;by_cases g:p=q
   ·subst g;rw[a1 (show¬(p≠p) from fun h=>h rfl),a8 (by unfold e2;rw[if_neg (by omega),if_neg (by omega)])];rfl
   ·rw[a8 g,a1 (by unfold e2;split;omega;split<;>omega)];rfl
  rw[bY]
theorem axF {d:Option Int} {mode:Int} (aP:e5 d):LW (b6 d,mode,())=some (pt d mode,()):=by
 unfold LW;refine aI (uX aP) ?_;dsimp only;rw[AU];cases d with
 |none=>rfl
 |some v=>
  have hr:=aP v rfl;have J:=lT hr;have ac:=mn hr;rw[jc];have hs:=Vj v;by_cases aV:v<0
  ·refine aI (y:=.inr (9221120237041090560,())) ?_ ?_
   ·refine aI (oD (z:=bQ v) (by omega)) ?_;dsimp only;rw[hs,a8 (show eT v<0 by unfold eT;rw[if_neg (by omega),if_pos aV];decide)];rfl
   ·unfold pt;simp only;rw[if_pos aV]
  ·have ag:decide (eT v<0)=false:=a1 (by unfold eT;split;omega;first|decide|(split<;>omega));refine aI (y:=.inl ((false,be (bQ v),db v,()),())) ?_ ?_
   ·refine aI (oD (z:=bQ v) (by omega)) ?_;dsimp only;rw[hs,ag];rfl
   dsimp only;refine aI (oD (z:=bQ v) (by omega)) ?_;dsimp only;rw[px];unfold pt;simp only;rw[if_neg aV];by_cases z:v=0
   ·subst z;rw[a8 (show bQ 0=0 from rfl)];rfl
   rw[a1 (lP z),if_neg z,cond_false];have mS:0<bQ v:=(by have:=EF (v:=v);have:=lP z;omega);obtain⟨B,dZ⟩:∃B:Nat,bQ v=B:=⟨(bQ v).toNat,by omega⟩;have DI:(bQ v).natAbs=B:=(by omega);rw[DI] at J;have kR:0<B:=(by omega);have nE:db v=gH v:=(by unfold db;rw[if_neg z]);obtain⟨k,bk,bD,cm,fx⟩:=axW (B:=B) (ex:=db v) kR J (by omega) (by omega);have yG:58<=aU (cI (B*2^k)):=NB (by rw[vF kR];omega);have Ni:0<cI (B*2^k):=by
    rcases nl (cI (B*2^k)) with g|g
    ·rw[g] at yG;exact absurd yG (by decide)
    ·exact g
   have Hz:cI (B*2^k)<=B*2^k:=(by obtain⟨fA,hx⟩:=wB (B*2^k);exact Nat.le_trans (Nat.le_mul_of_pos_left _ Ni) fA);have aam:=lA Hz;have Ho:aU (B*2^k)<=131199:=(by have:=xY (m:=B) (n:=k);omega);rw[dZ];refine aI fx ?_;dsimp only;refine aI (U1 (by omega) Ni (by omega) (by omega) (fun _=>by omega)) ?_;have nF:=axO (v:=v) (mode:=mode) (k:=k) (by omega) (by rw[DI];omega) (by rw[<-nE];exact cm);dsimp only;rw[<-nF];unfold w9;rw[DI,nE]
def y0 (a:Int) (n:Nat):Nat:=((a %18446744073709551616) %(n:Int)).toNat
theorem N6 (a:Int) {n:Nat} (h:0<n):y0 a n<n:=by unfold y0;have J:=q9 (a %18446744073709551616) (show(n:Int)≠0 by omega);have R:=tL (a %18446744073709551616) (show(0:Int)<(n:Int) by omega);omega
theorem Iu (a:Int) {n:Nat} (h:0<n) (R:n<=9223372036854775807):x7 (a,(n:Int),())=some ((y0 a n:Int),()):=by unfold x7;have J:=N6 a h;have e:(a %18446744073709551616) %(n:Int)=(y0 a n:Int):=(by unfold y0;have:=Int.emod_nonneg (a %18446744073709551616) (show(n:Int)≠0 by omega);omega);dsimp only;rw[n2 a,dr (x:=(n:Int)) (by omega) (by omega),(OB (x:=a %18446744073709551616) (y:=(n:Int)) ⟨by omega,by omega⟩ (by omega)).2,e];show some (aQ (y0 a n:Int),())=_;rw[JG (by omega)]
theorem az6 (x y:Int):eE (zE IntKind.u64 x y):=by unfold zE eE;rw[JH];omega
theorem afD (lS:List Int) (ai:lS.length<=9223372036854775807) (k:Int):U (Gi (lS,k,())) (fun y=>eE y.1):=by
 have dx:∀x y:Int,0<=y->∃z,d6 IntKind.u64 x y=some z:=fun x y h=>(by unfold d6;rw[if_pos h];exact⟨_,rfl⟩);unfold Gi;dsimp only;refine U.bJ (P:=fun _=>True) ?_ ?_
 ·rw[cC];refine U.ite (fun h=>?_) fun h=>U.ar.2 trivial;have h:0<lS.length:=(by simp only[bL] at h;omega);have ak:=N6 k h;refine U.bs (Iu k h ai) (U.bs (dC ak) (U.ar.2 trivial))
 ·rintro⟨x,_⟩ _;dsimp only;obtain⟨z,a2⟩:=dx x 31 (by decide);refine U.bs a2 ?_;obtain⟨zH,SQ⟩:=dx (bc (zE IntKind.u64 x z*13787848793156543929)) 29 (by decide);exact U.bs SQ (U.ar.2 (az6 _ _))
theorem OV {neg:Bool} {f:Int} (J:0<=f) (R:f<9223372036854775808):eE (py neg f):=by unfold py eE;cases neg<;>simp<;>omega
theorem adj (neg:Bool) (mode:Int):eE (uT neg mode):=by unfold uT;split<;>exact OV (by decide) (by decide)
theorem av7 {neg:Bool} {n:Nat} {u mode:Int} (ag:n<=9007199254740992) (aR:-1074<=u):eE (tm neg n u mode):=by
 unfold tm;split
 ·exact OV (by omega) (by omega)
 ·split
  ·split
   ·exact adj _ _
   ·exact OV (by omega) (by omega)
  ·split
   ·exact adj _ _
   ·exact OV (by omega) (by omega)
theorem UX {neg more:Bool} {M:Nat} {e mode:Int} (nC:0<M):eE (m2 neg M e more mode):=by have fb:=VI (neg:=neg) (more:=more) (mode:=mode) (e:=e) nC;have uC:-1074<=cM M e:=(by unfold cM;omega);have D4:m2 neg M e more mode=tm neg (if cM M e<=e then M*2^(e-cM M e).toNat else jv neg M (cM M e-e).toNat more mode) (cM M e) mode:=(by unfold m2;split<;>rfl);rw[D4];exact av7 fb uC
theorem N8:eE 9221120237041090560:=⟨by decide,by decide⟩
theorem aec (d:Option Int) (mode:Int):eE (uZ d mode):=by
 unfold uZ;cases d with
 |none=>exact N8
 |some v=>
  simp only;unfold Jd;by_cases h:v=0
  ·rw[if_pos h];exact⟨by decide,by decide⟩
  ·rw[if_neg h];exact UX (by have:=lP h;omega)
theorem awE {a b:Option Int} (mode:Int):eE (qb a b mode):=by
 unfold qb;cases a with
 |none=>exact N8
 |some x=>
  cases b with
  |none=>exact N8
  |some y=>
   simp only;by_cases fP:y=0
   ·rw[if_pos fP];exact⟨by decide,by decide⟩
   by_cases ko:x=0
   ·rw[if_neg fP,if_pos ko];exact⟨by decide,by decide⟩
   rw[if_neg fP,if_neg ko];unfold B5 w6;have dY:0<(bQ x).natAbs:=(by have:=lP ko;omega);have dZ:0<(bQ y).natAbs:=(by have:=lP fP;omega);have uA:58<=aU ((bQ x).natAbs*2^qa (bQ x).natAbs (bQ y).natAbs/(bQ y).natAbs):=OA dY dZ (by unfold qa;omega);refine UX ?_;rcases nl ((bQ x).natAbs*2^qa (bQ x).natAbs (bQ y).natAbs/(bQ y).natAbs) with g|g
   ·rw[g] at uA;exact absurd uA (by decide)
   ·exact g
theorem axM {d:Option Int} (mode:Int):eE (pt d mode):=by
 unfold pt;cases d with
 |none=>exact N8
 |some v=>
  simp only;by_cases aV:v<0
  ·rw[if_pos aV];exact⟨by decide,by decide⟩
  by_cases z:v=0
  ·rw[if_neg aV,if_pos z];exact⟨by decide,by decide⟩
  rw[if_neg aV,if_neg z];unfold zl w9;have kR:0<(bQ v).natAbs:=(by have:=lP z;omega);have yG:58<=aU (cI ((bQ v).natAbs*2^m3 (bQ v).natAbs (gH v))):=NB (by rw[vF kR];unfold m3;split<;>omega);refine UX ?_;rcases nl (cI ((bQ v).natAbs*2^m3 (bQ v).natAbs (gH v))) with g|g
  ·rw[g] at yG;exact absurd yG (by decide)
  ·exact g
theorem adf (x y:Int):eE (fF IntKind.u64 x y):=by unfold fF eE;rw[JH];omega
theorem atA {x:Int} (ab:eE x) (pA:Int):U (LB (x,pA,())) (fun y=>eE y.1):=by
 have J:=ab.1;have R:=ab.2;unfold LB;dsimp only;refine U.bs (Iu pA (n:=4) (by decide) (by decide)) ?_;dsimp only;rw[eY,eY,eY,cC];refine U.ite (fun _=>?_) fun _=>?_
 ·rw[zt (by decide) (by decide),bq,q1 (by decide) (by decide),bq];exact U.ar.2 (adf _ _)
 rw[cC];refine U.ite (fun _=>?_) fun _=>?_
 ·rw[zt (by decide) (by decide),bq];unfold ji;rw[if_pos (by decide),bq,q1 (by decide) (by decide),bq];exact U.ar.2 (adf _ _)
 rw[cC];refine U.ite (fun _=>?_) fun _=>?_
 ·refine U.bs (OP ab) ?_;dsimp only;cases decide (dw x=2047)
  ·exact U.ar.2 ab
  ·exact U.ar.2 ⟨by decide,by decide⟩
 ·unfold QB;refine U.bs (y:=(uZ (uJ (x %19-9)) 0,())) ?_ (U.ar.2 ?_)
  ·refine aI (y:=x %19) ?_ ?_
   ·unfold ji;rw[if_pos (by decide),J5 J]
   dsimp only;rw[b4 (x:=x %19) (by omega) (by omega),b4 (by omega) (by omega)];exact aI (ON (by omega) (by omega)) rfl
  ·exact aec _ _
structure fk (rows cols:Nat) (st az aK:List Int):Prop where
 len:st.length=cols+1
 first:st.getD 0 0=0
 mono:∀j,j<cols->st.getD j 0<=st.getD (j+1) 0
 last:st.getD cols 0=(az.length:Int)
 val:aK.length=az.length
 rng:∀j k:Nat,j<cols->st.getD j 0<=(k:Int)->(k:Int)<st.getD (j+1) 0->0<=az.getD k 0/\az.getD k 0<(rows:Int)
 asc:∀j k:Nat,j<cols->st.getD j 0<(k:Int)->(k:Int)<st.getD (j+1) 0->az.getD (k-1) 0<az.getD k 0
theorem g1 {l:List Int} {i:Nat} (h:i<l.length):bf l (i:Int)=some (l.getD i 0):=by rw[dC h,mJ h]
theorem ayI {l:List Int} (ag:l.length<=1000000):Lw (l,())=some (open Classical in decide (∀i,i+1<l.length->l.getD i 0<=l.getD (i+1) 0),()):=by
 classical
 unfold Lw;dsimp only;refine U.eq_iff.1 (U.bJ (P:=fun q=>match q with|.inl _=>(∀i,i+1<l.length->l.getD i 0<=l.getD (i+1) 0)|.inr r=>r=(false,())/\¬(∀i,i+1<l.length->l.getD i 0<=l.getD (i+1) 0)) ?_ ?_)
 ·refine U.loop (fun s=>∃n:Nat,(s.1=(n:Int)\/(s.1=-1/\n=0))/\n<=l.length/\(n<l.length\/l.length=0)/\(∀i,n<=i->i+1<l.length->l.getD i 0<=l.getD (i+1) 0)) (fun s=>s.1.toNat) ⟨l.length-1,?_,by omega,by omega,fun i J R=>by omega⟩ ?_
  ·simp only[bL];rw[b4 (by omega) (by omega)];omega
  ·rintro⟨x,_⟩ ⟨n,J,R,ac,aL⟩;dsimp only at J|-;rw[cC];refine U.ite (fun g=>?_) fun g=>?_
   ·obtain rfl:x=(n:Int):=(by omega);obtain⟨m,rfl⟩:∃m,n=m+1:=⟨n-1,by omega⟩;have aA:aQ (((m+1:Nat):Int)-1)=(m:Int):=(by rw[b4 (by omega) (by omega)];omega);rw[aA];refine U.bs (g1 (by omega)) (U.bs (g1 (by omega)) ?_);refine U.bs (y:=(decide (l.getD (m+1) 0<l.getD m 0),())) (by unfold Au x3;simp only[bne_self_eq_false,Option.bind_some];rfl) ?_;dsimp only;rw[cC];refine U.ite (fun k=>?_) fun k=>?_
    ·refine U.ar.2 ⟨rfl,fun h=>?_⟩;have:=h m (by omega);omega
    ·refine U.ar.2 ⟨⟨m,.inl rfl,by omega,by omega,fun i i1 i2=>?_⟩,?_⟩
     ·rcases ct m i with i3|i3
      ·exact aL i (by omega) i2
      ·obtain rfl:i=m:=(by omega);omega
     ·show(m:Int).toNat<((m+1:Nat):Int).toNat;omega
   ·refine U.ar.2 ?_;intro i hi;exact aL i (by omega) hi
 ·rintro(q|q) aj
  ·have aj:(∀i,i+1<l.length->l.getD i 0<=l.getD (i+1) 0):=aj;rw[decide_eq_true aj];exact U.ar.2 rfl
  ·obtain⟨J,R⟩:q=(false,())/\¬(∀i,i+1<l.length->l.getD i 0<=l.getD (i+1) 0):=aj;rw[J,decide_eq_false R];exact U.ar.2 rfl
def j8 (rows:Int) (st az:List Int) (j:Nat):Prop:=∀k:Nat,st.getD j 0<=(k:Int)->(k:Int)<st.getD (j+1) 0->(if(k:Int)=st.getD j 0 then-1 else az.getD (k-1) 0)<az.getD k 0/\az.getD k 0<rows
theorem j8.pos {rows:Int} {st az:List Int} {j:Nat} (h:j8 rows st az j) (aV:0<=st.getD j 0):∀k:Nat,st.getD j 0<=(k:Int)->(k:Int)<st.getD (j+1) 0->0<=az.getD k 0:=by
 intro k
 induction k with
 |zero=>
  intro J R;have:=(h 0 J R).1;rw[if_pos (by omega)] at this;omega
 |succ k aZ=>
  intro J R;have ac:=(h (k+1) J R).1;by_cases g:((k+1:Nat):Int)=st.getD j 0
  ·rw[if_pos g] at ac;omega
  ·rw[if_neg g,CV] at ac;have:=aZ (by omega) (by omega);omega
theorem j8.rng {rows:Int} {st az:List Int} {j:Nat} (aV:0<=st.getD j 0):j8 rows st az j↔(∀k:Nat,st.getD j 0<=(k:Int)->(k:Int)<st.getD (j+1) 0->0<=az.getD k 0/\az.getD k 0<rows)/\(∀k:Nat,st.getD j 0<(k:Int)->(k:Int)<st.getD (j+1) 0->az.getD (k-1) 0<az.getD k 0):=by
 constructor
 ·intro h;refine⟨fun k J R=>⟨h.pos aV k J R,(h k J R).2⟩,fun k J R=>?_⟩;have:=(h k (by omega) R).1;rwa[if_neg (by omega)] at this
 ·rintro⟨J,R⟩ k bk bD;refine⟨?_,(J k bk bD).2⟩;split
  ·have:=(J k bk bD).1;omega
  ·exact R k (by omega) bD
theorem ayD {l:List Int} {lo hi t:Nat} (h:hi<=l.length) (ah:lo+t<hi):((l.take hi).drop lo).length=hi-lo/\((l.take hi).drop lo)[t]?=some (l.getD (lo+t) 0):=by refine⟨by simp;omega,?_⟩;rw[n6,zU,if_pos (by omega),cr (by omega),mJ (by omega)]
theorem ayE {l:List Int} {lo hi:Nat} (h:hi<=l.length):((l.take hi).drop lo).length=hi-lo:=by simp;omega
theorem fk.iff {rows cols:Nat} {st az aK:List Int}:fk rows cols st az aK↔st.length=cols+1/\st.getD 0 0=0/\(∀j,j<cols->st.getD j 0<=st.getD (j+1) 0)/\st.getD cols 0=(az.length:Int)/\aK.length=az.length/\∀j,j<cols->j8 (rows:Int) st az j:=by
 have aw:(∀j,j<cols->st.getD j 0<=st.getD (j+1) 0)->st.getD 0 0=0->∀j,j<=cols->0<=st.getD j 0:=fun ak aV j=>by
  induction j with
  |zero=>intro _;omega
  |succ j aZ=>intro ao;have:=aZ (by omega);have:=ak j (by omega);omega
 constructor
 ·rintro⟨J,R,ac,aL,aY,bG,eF⟩;exact⟨J,R,ac,aL,aY,fun j ao=>(j8.rng (aw ac R j (by omega))).2 ⟨fun k=>bG j k ao,fun k=>eF j k ao⟩⟩
 ·rintro⟨J,R,ac,aL,aY,bG⟩;exact⟨J,R,ac,aL,aY,fun j k ao=>((j8.rng (aw ac R j (by omega))).1 (bG j ao)).1 k,fun j k ao=>((j8.rng (aw ac R j (by omega))).1 (bG j ao)).2 k⟩
section
open Go.Proofs
def Jw:List (String×DataW Unit):=[("math/bits.deBruijn32tab",Lib.tabData .u8 uc)]
theorem ay7 (os:Os) (args:Array Value):laidMetH Tryz.prog Jw ((World.doorLaid Tryz.prog 400 os).forCall (fun _ _=>0) ⟨#[],args,[]⟩).memory:=
 laidMetH_of_parts3 (fuel:=8) (laidMet_of_run' 8 (by kernel_rfl) (by kernel_rfl)) (by kernel_rfl) (by kernel_rfl)
theorem ay6 {W:World} (h:laidMetH Tryz.prog Jw W):nf E (fun b=>b<W.heap.size) W:=by
 rw[MakeChecks.laidMetH_plain _ _ _ (by kernel_rfl)] at h;have aG:Tryz.prog.globalNamed "math/bits.deBruijn32tab"=some 0:=(by kernel_rfl);have bm:=Lib.tabIs_of_head (g:=0) (t:=266) (e:=5) (n:=32) aG (by kernel_rfl) (by kernel_rfl) (by kernel_rfl) (by kernel_rfl) (by kernel_rfl) h;intro g Sc;have Sc:g∈[(⟨0,266,.u8,uc⟩:z8)]:=Sc;obtain rfl:=fh.1 Sc;have aa:0<W.heap.size:=by
  have aV:=bm.cell aG 0 (by decide);unfold World.cell? at aV;split at aV
  ·rename_i c t Rq aj;exact(q7.1 aj).1
  ·cases aV
 refine⟨rfl,_,_,rfl,bU _,(fun h=>by cases h),.inr ⟨0,0,rfl,aa,fun i x ab=>?_⟩⟩;obtain⟨hi,ab⟩:=fu.1 ab;refine⟨[.int .u8 x],rfl,fun j v hv=>?_,rfl,rfl⟩;have hc:=bm.cell aG i hi;have aP:(uc.getD i 0:Int)=x:=(by rw[mJ hi];exact ab);rw[aP] at hc;cases j with
 |zero=>
  obtain rfl:=fH hv;have:(⟨0,0+i*au.size (.int .u8)+0,none⟩:Addr)=⟨0,i,none⟩:=(by show(⟨0,0+i*1+0,none⟩:Addr)=_;congr 1;omega);rw[this];exact hc
 |succ j=>cases hv
end
section
theorem alx {rows cols:Nat} {st az aK:List Int} (hr:rows<=200) (hc:cols<=200) (hi:az.length<=10000) (hs:st.length<=1000000) (hv:aK.length<=1000000):Lo (((rows:Int),(cols:Int),st,az,aK,()),())=some (open Classical in decide (fk rows cols st az aK),()):=by
 classical
 unfold Lo;refine U.eq_iff.1 ?_;dsimp only;have qG:bN (cols:Int)=((cols+1:Nat):Int):=cO (by omega);have bad:∀(h:¬fk rows cols st az aK),(false,())=(decide (fk rows cols st az aK),()):=fun h=>(by rw[decide_eq_false h]);refine U.bJ (P:=fun q=>match q with
  |.inl _=>st.length=cols+1/\st.getD 0 0=0/\(∀j,j<cols->st.getD j 0<=st.getD (j+1) 0)/\st.getD cols 0=(az.length:Int)/\aK.length=az.length
  |.inr r=>r=(false,())/\¬fk rows cols st az aK) ?_ ?_
 ·rw[qG,ee];by_cases da:st.length=cols+1
  ·rw[a8 (show aS st=((cols+1:Nat):Int) by simp only[bL];omega)];refine U.bs (y:=st.getD 0 0) (g1 (i:=0) (by omega)) ?_;rw[ee];by_cases cw:st.getD 0 0=0
   ·rw[a8 cw];refine U.bs (ayI hs) ?_;dsimp only;by_cases ju:∀i,i+1<st.length->st.getD i 0<=st.getD (i+1) 0
    ·rw[decide_eq_true ju];refine U.bs (y:=st.getD cols 0) (g1 (by omega)) ?_;rw[ee];by_cases lB:st.getD cols 0=(az.length:Int)
     ·rw[a8 (show st.getD cols 0=aS az from lB),ee];by_cases sw:az.length=aK.length
      ·rw[a8 (show aS az=aS aK by simp only[bL];omega)];exact U.ar.2 ⟨da,cw,fun j ao=>ju j (by omega),lB,by omega⟩
      ·rw[a1 (show¬aS az=aS aK by simp only[bL];omega)];exact U.ar.2 ⟨rfl,fun h=>sw h.val.symm⟩
     ·rw[a1 (show¬st.getD cols 0=aS az from lB)];exact U.ar.2 ⟨rfl,fun h=>lB h.last⟩
    ·rw[decide_eq_false ju];exact U.ar.2 ⟨rfl,fun h=>ju fun i hi=>h.mono i (by have:=h.len;omega)⟩
   ·rw[a1 cw];exact U.ar.2 ⟨rfl,fun h=>cw h.first⟩
  ·rw[a1 (show¬aS st=((cols+1:Nat):Int) by simp only[bL];omega)];exact U.ar.2 ⟨rfl,fun h=>da h.len⟩
 ·rintro(q|q) aj
  rotate_left
  ·obtain⟨rfl,h⟩:q=(false,())/\¬fk rows cols st az aK:=aj;exact U.ar.2 (bad h)
  obtain⟨da,cw,ju,lB,sw⟩:st.length=cols+1/\st.getD 0 0=0/\(∀j,j<cols->st.getD j 0<=st.getD (j+1) 0)/\st.getD cols 0=(az.length:Int)/\aK.length=az.length:=aj;have aw:∀j,j<=cols->0<=st.getD j 0:=fun j=>by
   induction j with
   |zero=>intro _;omega
   |succ j aZ=>intro ao;have:=aZ (by omega);have:=ju j (by omega);omega
  have aj:∀d j,j+d=cols->st.getD j 0<=(az.length:Int):=fun d=>by
   induction d with
   |zero=>intro j ao;obtain rfl:j=cols:=ao;omega
   |succ d aZ=>intro j ao;have:=aZ (j+1) (by omega);have:=ju j (by omega);omega
  dsimp only;refine U.bJ (P:=fun q=>match q with
   |.inl _=>(∀j,j<cols->j8 (rows:Int) st az j)
   |.inr r=>r=(false,())/\¬(∀j,j<cols->j8 (rows:Int) st az j)) ?_ ?_
  ·refine U.steps cols (fun i s=>s=((i:Int),())/\∀j,j<i->j8 (rows:Int) st az j) ⟨rfl,fun j ao=>by omega⟩ ?_ ?_
   ·rintro j _ ao ⟨rfl,J⟩;dsimp only;rw[cT (a8 (show(j:Int)<(cols:Int) by omega)),cO (by omega)];obtain⟨lo,gp⟩:=Int.eq_ofNat_of_zero_le (aw j (by omega));obtain⟨d0,kA⟩:=Int.eq_ofNat_of_zero_le (aw (j+1) (by omega));have fb:d0<=az.length:=(by have:=aj (cols-(j+1)) (j+1) (by omega);omega);have Hn:lo<=d0:=(by have:=ju j ao;omega);refine U.bs (y:=(lo:Int)) (by rw[g1 (by omega),gp]) (U.bs (y:=(d0:Int)) (by rw[g1 (by omega),kA]) (U.bs (y:=(lo,d0)) (by rw[EB,Option.bind_some,EB,Option.bind_some,Ie ⟨Hn,fb⟩];rfl) ?_));dsimp only;have d2:=ayE (l:=az) (lo:=lo) fb;refine U.bJ (P:=fun q=>match q with
     |.inl _=>j8 (rows:Int) st az j
     |.inr r=>r=.inr (.inr (false,()))/\¬j8 (rows:Int) st az j) ?_ ?_
    ·refine U.steps (d0-lo) (fun t s=>s=((if t=0 then-1 else az.getD (lo+t-1) 0),(t:Int),())/\∀k:Nat,lo<=k->k<lo+t->(if(k:Int)=st.getD j 0 then-1 else az.getD (k-1) 0)<az.getD k 0/\az.getD k 0<(rows:Int)) ⟨rfl,fun k J R=>by omega⟩ ?_ ?_
     ·rintro t _ ah ⟨rfl,R⟩;have aG:=(ayD (l:=az) (lo:=lo) (hi:=d0) (t:=t) fb (by omega)).2;have DX:(if t=0 then-1 else az.getD (lo+t-1) 0)=(if((lo+t:Nat):Int)=st.getD j 0 then-1 else az.getD (lo+t-1) 0):=by
       rw[gp];by_cases t0:t=0
       ·subst t0;rw[if_pos rfl,if_pos (by omega)]
       ·rw[if_neg t0,if_neg (by omega)]
      dsimp only;rw[cT (a8 (show(t:Int)<aS ((az.take d0).drop lo) by simp only[bL];omega)),DX];refine U.bJ (P:=fun q=>match q with
       |.inl r=>r=(az.getD (lo+t) 0,())/\((if((lo+t:Nat):Int)=st.getD j 0 then-1 else az.getD (lo+t-1) 0)<az.getD (lo+t) 0/\az.getD (lo+t) 0<(rows:Int))
       |.inr r=>r=.inr (.inr (.inr (.inr (false,()))))/\¬((if((lo+t:Nat):Int)=st.getD j 0 then-1 else az.getD (lo+t-1) 0)<az.getD (lo+t) 0/\az.getD (lo+t) 0<(rows:Int))) ?_ ?_
      ·refine U.bs (y:=az.getD (lo+t) 0) (mK aG) ?_;generalize(if((lo+t:Nat):Int)=st.getD j 0 then-1 else az.getD (lo+t-1) 0)=awy;generalize az.getD (lo+t) 0=y;by_cases dg:y<=awy
       ·rw[a8 dg];exact U.ar.2 ⟨rfl,fun h=>by omega⟩
       ·rw[a1 dg];by_cases dF:y>=(rows:Int)
        ·rw[a8 dF];exact U.ar.2 ⟨rfl,fun h=>by omega⟩
        ·rw[a1 dF];exact U.ar.2 ⟨rfl,by omega,by omega⟩
      ·rintro(q|q) im
       ·obtain⟨rfl,ac⟩:=im;refine U.ar.2 ⟨?_,?_⟩
        ·rw[cO (by omega),if_neg (by omega)];rfl
        ·intro k bk bD;rcases ct k (lo+t) with cm|cm
         ·exact R k bk cm
         ·obtain rfl:k=lo+t:=(by omega);exact ac
       ·obtain⟨rfl,ac⟩:=im;refine U.ar.2 ⟨rfl,fun h=>ac ?_⟩;exact h (lo+t) (by omega) (by omega)
     ·rintro _ ⟨rfl,R⟩;dsimp only;rw[c1 (a1 (show¬(((d0-lo:Nat):Int)<aS ((az.take d0).drop lo)) by simp only[bL];omega))];refine U.ar.2 ?_;intro k bk bD;exact R k (by omega) (by omega)
    ·rintro(q|q) im
     ·have im:j8 (rows:Int) st az j:=im;refine U.ar.2 ⟨rfl,fun k ae=>?_⟩;rcases ct k j with bk|bk
      ·exact J k bk
      ·obtain rfl:k=j:=(by omega);exact im
     ·obtain⟨rfl,ac⟩:=im;exact U.ar.2 ⟨rfl,fun h=>ac (h j ao)⟩
   ·rintro _ ⟨rfl,J⟩;dsimp only;rw[c1 (a1 (show¬((cols:Int)<(cols:Int)) by omega))];exact U.ar.2 J
  ·rintro(q|q) im
   ·have im:(∀j,j<cols->j8 (rows:Int) st az j):=im;refine U.ar.2 ?_;show(true,())=_;rw[decide_eq_true (fk.iff.2 ⟨da,cw,ju,lB,sw,im⟩)]
   ·obtain⟨rfl,ac⟩:q=(false,())/\¬(∀j,j<cols->j8 (rows:Int) st az j):=im;exact U.ar.2 (bad fun h=>ac (fk.iff.1 h).2.2.2.2.2)
def nc (aK:List Int):Prop:=∀i,i<aK.length->dw (aK.getD i 0)≠2047
open Classical in
def g5 (rows cols:Nat) (st az aK:List Int):Int:=if fk rows cols st az aK then if nc aK then 0 else 4 else 1
theorem WF.getD {l:List Int} (h:∀v∈l,eE v) (i:Nat):eE (l.getD i 0):=by
 rcases ct i l.length with g|g
 ·rw[mJ g];exact h _ (dy g)
 ·rw[rz g];exact⟨by decide,by decide⟩
theorem atz {aK:List Int} (hw:∀v∈aK,eE v) (hv:aK.length<=1000000):Lu (aK,(),())=some (open Classical in decide (¬nc aK),()):=by
 classical
 unfold Lu;refine U.eq_iff.1 ?_;refine U.bJ (P:=fun r=>∃x,r=(x,())/\(0<=x↔¬nc aK)) ?_ ?_
 ·unfold Qw;dsimp only;refine U.bJ (P:=fun q=>match q with|.inl _=>nc aK|.inr r=>0<=r.1/\¬nc aK) ?_ ?_
  ·refine U.steps aK.length (fun i s=>s=((i:Int),())/\∀k,k<i->dw (aK.getD k 0)≠2047) ⟨rfl,fun k ae=>by omega⟩ ?_ ?_
   ·rintro i _ hi ⟨rfl,J⟩;dsimp only;rw[cT (a8 (show(i:Int)<aS aK by simp only[bL];omega))];refine U.bs (g1 hi) ?_;unfold Qu;refine U.bs (y:=(decide (dw (aK.getD i 0)=2047),())) (aI (SZ (WF.getD hw i)) (by dsimp only;rw[Bool.not_not])) ?_;dsimp only;rw[cC];refine U.ite (fun g=>?_) fun g=>?_
    ·exact U.ar.2 ⟨by show(0:Int)<=(i:Int);omega,fun h=>h i hi g⟩
    ·refine U.ar.2 ⟨by rw[cO (by omega)],fun k ae=>?_⟩;rcases ct k i with bk|bk
     ·exact J k bk
     ·obtain rfl:k=i:=(by omega);exact g
   ·rintro _ ⟨rfl,J⟩;dsimp only;rw[c1 (a1 (show¬((aK.length:Int)<aS aK) by simp only[bL];omega))];exact U.ar.2 J
  ·rintro(q|q) aj
   ·have aj:nc aK:=aj;exact U.ar.2 ⟨_,rfl,⟨fun h=>absurd h (by decide),fun h=>absurd aj h⟩⟩
   ·obtain⟨J,R⟩:0<=q.1/\¬nc aK:=aj;exact U.ar.2 ⟨q.1,rfl,fun _=>R,fun _=>J⟩
 ·rintro _ ⟨x,rfl,ab⟩;refine U.ar.2 ?_;show(decide (x>=0),())=_;congr 1;rw[decide_eq_decide];exact ab
theorem asF {rows cols:Nat} {st az aK:List Int} (hr:rows<=200) (hc:cols<=200) (hi:az.length<=10000) (hs:st.length<=1000000) (hv:aK.length<=1000000) (hw:∀v∈aK,eE v):x6 (((rows:Int),(cols:Int),st,az,aK,()),())=some (g5 rows cols st az aK,()):=by
 classical
 unfold x6 g5;dsimp only;refine aI (y:=(false,())) ?_ ?_
 ·unfold Lr;dsimp only;rw[a8 (show(rows:Int)>=0 by omega),a8 (show(rows:Int)<=200 by omega),a8 (show(cols:Int)>=0 by omega),a8 (show(cols:Int)<=200 by omega),a1 (show¬(aS az>10000) by simp only[bL];omega)];rfl
 dsimp only;rw[cond_false];refine aI (alx hr hc hi hs hv) ?_;dsimp only;by_cases J:fk rows cols st az aK
 ·rw[decide_eq_true J,if_pos J];refine aI (atz hw hv) ?_;dsimp only;by_cases R:nc aK
  ·rw[decide_eq_false (fun h=>h R),if_pos R];rfl
  ·rw[decide_eq_true R,if_neg R];rfl
 ·rw[decide_eq_false J,if_neg J];rfl
end
theorem axD {aK:List Int} (hw:∀v∈aK,eE v) (hv:aK.length<=1000000):LX (aK,())=some (open Classical in decide (nc aK),()):=by
 classical
 unfold LX;refine U.eq_iff.1 ?_;dsimp only;refine U.bJ (P:=fun q=>match q with|.inl _=>nc aK|.inr r=>r=(false,())/\¬nc aK) ?_ ?_
 ·refine U.steps aK.length (fun i s=>s=((i:Int),())/\∀k,k<i->dw (aK.getD k 0)≠2047) ⟨rfl,fun k ae=>by omega⟩ ?_ ?_
  ·rintro i _ hi ⟨rfl,J⟩;dsimp only;rw[cT (a8 (show(i:Int)<aS aK by simp only[bL];omega))];refine U.bs (g1 hi) (U.bs (OP (WF.getD hw i)) ?_);dsimp only;rw[Bool.not_not,cC];refine U.ite (fun g=>?_) fun g=>?_
   ·exact U.ar.2 ⟨rfl,fun h=>h i hi g⟩
   ·refine U.ar.2 ⟨by rw[cO (by omega)],fun k ae=>?_⟩;rcases ct k i with bk|bk
    ·exact J k bk
    ·obtain rfl:k=i:=(by omega);exact g
  ·rintro _ ⟨rfl,J⟩;dsimp only;rw[c1 (a1 (show¬((aK.length:Int)<aS aK) by simp only[bL];omega))];exact U.ar.2 J
 ·rintro(q|q) aj
  ·have aj:nc aK:=aj;rw[decide_eq_true aj];exact U.ar.2 rfl
  ·obtain⟨J,R⟩:q=(false,())/\¬nc aK:=aj;rw[J,decide_eq_false R];exact U.ar.2 rfl
theorem axl {rows cols:Nat} {st az aK:List Int} (hr:rows<=200) (hc:cols<=200) (hi:az.length<=10000) (hs:st.length<=1000000) (hv:aK.length<=1000000) (hw:∀v∈aK,eE v):vT (((rows:Int),(cols:Int),st,az,aK,()),())=some (g5 rows cols st az aK,()):=by
 classical
 unfold vT;refine U.eq_iff.1 ?_;dsimp only;have qG:bN (cols:Int)=((cols+1:Nat):Int):=cO (by omega);have bad:∀(h:¬fk rows cols st az aK),((1:Int),())=(g5 rows cols st az aK,()):=fun h=>(by unfold g5;rw[if_neg h]);refine U.bs (y:=.inl ()) ?_ ?_
 ·rw[a1 (show¬(rows:Int)<0 by omega),a1 (show¬(rows:Int)>200 by omega),a1 (show¬(cols:Int)<0 by omega),a1 (show¬(cols:Int)>200 by omega),a1 (show¬(aS az>10000) by simp only[bL];omega)];rfl
 dsimp only;refine U.bJ (P:=fun q=>match q with
  |.inl _=>st.length=cols+1/\st.getD 0 0=0/\st.getD cols 0=(az.length:Int)/\aK.length=az.length
  |.inr r=>r=((1:Int),())/\¬fk rows cols st az aK) ?_ ?_
 ·rw[qG,ee,ee];by_cases sw:aK.length=az.length
  ·rw[a8 (show aS aK=aS az by simp only[bL];omega)];by_cases da:st.length=cols+1
   ·rw[a8 (show aS st=((cols+1:Nat):Int) by simp only[bL];omega)];refine U.bs (y:=st.getD 0 0) (g1 (i:=0) (by omega)) ?_;rw[ee];by_cases cw:st.getD 0 0=0
    ·rw[a8 cw];refine U.bs (y:=st.getD cols 0) (g1 (by omega)) ?_;rw[ee];by_cases lB:st.getD cols 0=(az.length:Int)
     ·rw[a8 (show st.getD cols 0=aS az from lB)];exact U.ar.2 ⟨da,cw,lB,sw⟩
     ·rw[a1 (show¬st.getD cols 0=aS az from lB)];exact U.ar.2 ⟨rfl,fun h=>lB h.last⟩
    ·rw[a1 cw];exact U.ar.2 ⟨rfl,fun h=>cw h.first⟩
   ·rw[a1 (show¬aS st=((cols+1:Nat):Int) by simp only[bL];omega)];exact U.ar.2 ⟨rfl,fun h=>da h.len⟩
  ·rw[a1 (show¬aS aK=aS az by simp only[bL];omega)];exact U.ar.2 ⟨rfl,fun h=>sw h.val⟩
 rintro(q|q) aj
 rotate_left
 ·obtain⟨rfl,h⟩:q=((1:Int),())/\¬fk rows cols st az aK:=aj;exact U.ar.2 (bad h)
 obtain⟨da,cw,lB,sw⟩:st.length=cols+1/\st.getD 0 0=0/\st.getD cols 0=(az.length:Int)/\aK.length=az.length:=aj;dsimp only;refine U.bJ (P:=fun q=>match q with
  |.inl _=>(∀j,j<cols->st.getD j 0<=st.getD (j+1) 0)
  |.inr r=>r=((1:Int),())/\¬fk rows cols st az aK) ?_ ?_
 ·refine U.steps cols (fun i s=>s=((i:Int),())/\∀j,j<i->st.getD j 0<=st.getD (j+1) 0) ⟨rfl,fun j ao=>by omega⟩ ?_ ?_
  ·rintro j _ ao ⟨rfl,J⟩;dsimp only;rw[cT (a8 (show(j:Int)<(cols:Int) by omega)),cO (by omega)];refine U.bs (g1 (by omega)) (U.bs (g1 (by omega)) ?_);rw[cC];refine U.ite (fun g=>?_) fun g=>?_
   ·exact U.ar.2 ⟨rfl,fun h=>by have:=h.mono j ao;omega⟩
   ·refine U.ar.2 ⟨rfl,fun k ae=>?_⟩;rcases ct k j with bk|bk
    ·exact J k bk
    ·obtain rfl:k=j:=(by omega);omega
  ·rintro _ ⟨rfl,J⟩;dsimp only;rw[c1 (a1 (show¬((cols:Int)<(cols:Int)) by omega))];exact U.ar.2 J
 rintro(q|q) aj
 rotate_left
 ·obtain⟨rfl,h⟩:q=((1:Int),())/\¬fk rows cols st az aK:=aj;exact U.ar.2 (bad h)
 have ju:∀j,j<cols->st.getD j 0<=st.getD (j+1) 0:=aj;have aw:∀j,j<=cols->0<=st.getD j 0:=fun j=>by
  induction j with
  |zero=>intro _;omega
  |succ j aZ=>intro ao;have:=aZ (by omega);have:=ju j (by omega);omega
 have aj:∀d j,j+d=cols->st.getD j 0<=(az.length:Int):=fun d=>by
  induction d with
  |zero=>intro j ao;obtain rfl:j=cols:=ao;omega
  |succ d aZ=>intro j ao;have:=aZ (j+1) (by omega);have:=ju j (by omega);omega
 dsimp only;refine U.bJ (P:=fun q=>match q with
  |.inl _=>(∀j,j<cols->j8 (rows:Int) st az j)
  |.inr r=>r=((1:Int),())/\¬(∀j,j<cols->j8 (rows:Int) st az j)) ?_ ?_
 ·refine U.steps cols (fun i s=>s=((i:Int),())/\∀j,j<i->j8 (rows:Int) st az j) ⟨rfl,fun j ao=>by omega⟩ ?_ ?_
  ·rintro j _ ao ⟨rfl,J⟩;dsimp only;rw[cT (a8 (show(j:Int)<(cols:Int) by omega)),cO (by omega)];obtain⟨lo,gp⟩:=Int.eq_ofNat_of_zero_le (aw j (by omega));obtain⟨d0,kA⟩:=Int.eq_ofNat_of_zero_le (aw (j+1) (by omega));have fb:d0<=az.length:=(by have:=aj (cols-(j+1)) (j+1) (by omega);omega);have Hn:lo<=d0:=(by have:=ju j ao;omega);have bS:bf st (j:Int)=some (lo:Int):=(by rw[g1 (by omega),gp]);have bt:bf st ((j+1:Nat):Int)=some (d0:Int):=(by rw[g1 (by omega),kA]);refine U.bs bS ?_;refine U.bJ (P:=fun q=>match q with
    |.inl _=>j8 (rows:Int) st az j
    |.inr r=>r=.inr (.inr ((1:Int),()))/\¬j8 (rows:Int) st az j) ?_ ?_
   ·refine U.steps (d0-lo) (fun t s=>s=(((lo+t:Nat):Int),())/\∀k:Nat,lo<=k->k<lo+t->(if(k:Int)=st.getD j 0 then-1 else az.getD (k-1) 0)<az.getD k 0/\az.getD k 0<(rows:Int)) ⟨rfl,fun k J R=>by omega⟩ ?_ ?_
    ·rintro t _ ah ⟨rfl,R⟩;dsimp only;refine U.bs bt ?_;rw[cT (a8 (show((lo+t:Nat):Int)<(d0:Int) by omega))];have DH:bf az ((lo+t:Nat):Int)=some (az.getD (lo+t) 0):=g1 (by omega);have mS:t≠0->0<=az.getD (lo+t-1) 0:=fun t0=>by
      have key:∀k:Nat,lo<=k->k<lo+t->0<=az.getD k 0:=by
       intro k
       induction k with
       |zero=>
        intro bk bD;have:=(R 0 bk bD).1;rw[if_pos (by omega)] at this;omega
       |succ k aZ=>
        intro bk bD;have ac:=(R (k+1) bk bD).1;by_cases g:((k+1:Nat):Int)=st.getD j 0
        ·rw[if_pos g] at ac;omega
        ·rw[if_neg g,CV] at ac;have:=aZ (by omega) (by omega);omega
      exact key _ (by omega) (by omega)
     refine U.bJ (P:=fun q=>match q with
      |.inl _=>((if((lo+t:Nat):Int)=st.getD j 0 then-1 else az.getD (lo+t-1) 0)<az.getD (lo+t) 0/\az.getD (lo+t) 0<(rows:Int))
      |.inr r=>r=.inr (.inr (.inr (.inr ((1:Int),()))))/\¬((if((lo+t:Nat):Int)=st.getD j 0 then-1 else az.getD (lo+t-1) 0)<az.getD (lo+t) 0/\az.getD (lo+t) 0<(rows:Int))) ?_ ?_
     ·refine U.bs DH ?_;by_cases ua:az.getD (lo+t) 0<0
      ·rw[a8 ua];refine U.ar.2 ⟨rfl,fun h=>?_⟩;have ac:=h.1;by_cases t0:t=0
       ·rw[if_pos (by omega)] at ac;omega
       ·rw[if_neg (by omega)] at ac;have:=mS t0;omega
      rw[a1 ua];refine U.bs DH ?_;by_cases dF:az.getD (lo+t) 0>=(rows:Int)
      ·rw[a8 dF];exact U.ar.2 ⟨rfl,fun h=>by omega⟩
      rw[a1 dF];refine U.bs bS ?_;by_cases t0:t=0
      ·rw[a1 (show¬((lo+t:Nat):Int)>(lo:Int) by omega)];refine U.ar.2 ⟨?_,by omega⟩;rw[if_pos (by omega)];omega
      ·rw[a8 (show((lo+t:Nat):Int)>(lo:Int) by omega)];have aA:aQ (((lo+t:Nat):Int)-1)=((lo+t-1:Nat):Int):=(by rw[b4 (by omega) (by omega)];omega);refine U.bs DH (U.bs (y:=az.getD (lo+t-1) 0) (by rw[aA];exact g1 (by omega)) ?_);rw[cC];refine U.ite (fun g=>?_) fun g=>?_
       ·refine U.ar.2 ⟨rfl,fun h=>?_⟩;have ac:=h.1;rw[if_neg (by omega)] at ac;omega
       ·refine U.ar.2 ⟨?_,by omega⟩;rw[if_neg (by omega)];omega
     ·rintro(q|q) im
      ·refine U.ar.2 ⟨by rw[cO (by omega)];rfl,?_⟩;intro k bk bD;rcases ct k (lo+t) with cm|cm
       ·exact R k bk cm
       ·obtain rfl:k=lo+t:=(by omega);exact im
      ·obtain⟨rfl,ac⟩:=im;exact U.ar.2 ⟨rfl,fun h=>ac (h (lo+t) (by omega) (by omega))⟩
    ·rintro _ ⟨rfl,R⟩;dsimp only;refine U.bs bt ?_;rw[c1 (a1 (show¬(((lo+(d0-lo):Nat):Int)<(d0:Int)) by omega))];refine U.ar.2 ?_;intro k bk bD;exact R k (by omega) (by omega)
   ·rintro(q|q) im
    ·have im:j8 (rows:Int) st az j:=im;refine U.ar.2 ⟨rfl,fun k ae=>?_⟩;rcases ct k j with bk|bk
     ·exact J k bk
     ·obtain rfl:k=j:=(by omega);exact im
    ·obtain⟨rfl,ac⟩:=im;exact U.ar.2 ⟨rfl,fun h=>ac (h j ao)⟩
  ·rintro _ ⟨rfl,J⟩;dsimp only;rw[c1 (a1 (show¬((cols:Int)<(cols:Int)) by omega))];exact U.ar.2 J
 ·rintro(q|q) im
  ·have im:(∀j,j<cols->j8 (rows:Int) st az j):=im;have bE:fk rows cols st az aK:=fk.iff.2 ⟨da,cw,ju,lB,sw,im⟩;refine U.bs (axD hw hv) ?_;unfold g5;rw[if_pos bE];by_cases R:nc aK
   ·rw[decide_eq_true R,if_pos R];exact U.ar.2 rfl
   ·rw[decide_eq_false R,if_neg R];exact U.ar.2 rfl
  ·obtain⟨rfl,ac⟩:q=((1:Int),())/\¬(∀j,j<cols->j8 (rows:Int) st az j):=im;exact U.ar.2 (bad fun h=>ac (fk.iff.1 h).2.2.2.2.2)
abbrev cD:=Int×Int×Int×Unit
def jU (az aK:List Int) (j:Int) (lo:Nat):Nat->List cD
 |0=>[]
 |n+1=>jU az aK j lo n++[(az.getD (lo+n) 0,j,aK.getD (lo+n) 0,())]
def du (st az aK:List Int):Nat->List cD
 |0=>[]
 |j+1=>du st az aK j++jU az aK (j:Int) (st.getD j 0).toNat ((st.getD (j+1) 0).toNat-(st.getD j 0).toNat)
theorem YE (az aK:List Int) (j:Int) (lo n:Nat):(jU az aK j lo n).length=n:=by
 induction n with
 |zero=>rfl
 |succ n aZ=>simp[jU,aZ]
theorem fk.pos {rows cols:Nat} {st az aK:List Int} (h:fk rows cols st az aK):∀j,j<=cols->0<=st.getD j 0:=fun j=>by
 have:=h.first
 induction j with
 |zero=>intro _;omega
 |succ j aZ=>intro ao;have:=aZ (by omega);have:=h.mono j (by omega);omega
theorem fk.uN {rows cols:Nat} {st az aK:List Int} (h:fk rows cols st az aK):∀j,j<=cols->st.getD j 0<=(az.length:Int):=by
 have key:∀d j,j+d=cols->st.getD j 0<=(az.length:Int):=fun d=>by
  have:=h.last
  induction d with
  |zero=>intro j ao;obtain rfl:j=cols:=ao;omega
  |succ d aZ=>intro j ao;have:=aZ (j+1) (by omega);have:=h.mono j (by omega);omega
 exact fun j ao=>key (cols-j) j (by omega)
theorem GU {rows cols:Nat} {st az aK:List Int} (h:fk rows cols st az aK):∀j,j<=cols->(du st az aK j).length=(st.getD j 0).toNat:=fun j=>by
 induction j with
 |zero=>intro _;have:=h.first;show 0=(st.getD 0 0).toNat;omega
 |succ j aZ=>
  intro ao;have J:=aZ (by omega);have R:=h.mono j (by omega);have ac:=h.pos j (by omega);simp only[du,tS,YE,J];omega
theorem Q4 {rows cols:Nat} {st az aK:List Int} (h:fk rows cols st az aK) (hc:cols<=200) (hi:az.length<=10000):Dp (((rows:Int),(cols:Int),st,az,aK,()),())=some (du st az aK cols,()):=by
 unfold Dp;refine U.eq_iff.1 ?_;dsimp only;refine U.bJ (P:=fun r=>r=(du st az aK cols,())) ?_ (by rintro _ rfl;exact U.ar.2 rfl);refine U.steps cols (fun j s=>s=((j:Int),du st az aK j,())) rfl ?_ ?_
 ·rintro j _ ao rfl;have ai:=h.len;obtain⟨lo,gp⟩:=Int.eq_ofNat_of_zero_le (h.pos j (by omega));obtain⟨d0,kA⟩:=Int.eq_ofNat_of_zero_le (h.pos (j+1) (by omega));have fb:d0<=az.length:=(by have:=h.uN (j+1) (by omega);omega);have Hn:lo<=d0:=(by have:=h.mono j ao;omega);have nD:=GU h j (by omega);have hv:=h.val;dsimp only;rw[cT (a8 (show(j:Int)<(cols:Int) by omega)),cO (by omega)];refine U.bs (y:=(lo:Int)) (by rw[g1 (by omega),gp]) ?_;refine U.bJ (P:=fun r=>r=(du st az aK (j+1),())) ?_ (by rintro _ rfl;exact U.ar.2 rfl);refine U.steps (d0-lo) (fun t s=>s=(((lo+t:Nat):Int),du st az aK j++jU az aK (j:Int) lo t,())) (by simp[jU]) ?_ ?_
  ·rintro t _ ah rfl;dsimp only;refine U.bs (y:=(d0:Int)) (by rw[g1 (by omega),kA]) ?_;rw[cT (a8 (show((lo+t:Nat):Int)<(d0:Int) by omega))];refine U.bs (g1 (by omega)) (U.bs (g1 (by omega)) ?_);rw[fo (by simp[YE];omega)];refine U.ar.2 ?_;rw[cO (by omega),List.append_assoc];rfl
  ·rintro _ rfl;dsimp only;refine U.bs (y:=(d0:Int)) (by rw[g1 (by omega),kA]) ?_;rw[c1 (a1 (show¬((lo+(d0-lo):Nat):Int)<(d0:Int) by omega))];refine U.ar.2 ?_;show(_,())=(du st az aK j++jU az aK (j:Int) (st.getD j 0).toNat ((st.getD (j+1) 0).toNat-(st.getD j 0).toNat),());rw[gp,kA];rfl
 ·rintro _ rfl;dsimp only;rw[c1 (a1 (show¬((cols:Int)<(cols:Int)) by omega))];exact U.ar.2 rfl
structure ja (rows cols:Nat) (st az aK:List Int):Prop where
 hr:rows<=200
 hc:cols<=200
 hi:az.length<=10000
 hs:st.length<=1000000
 hv:aK.length<=1000000
 hw:∀v∈aK,eE v
theorem ja.check {rows cols:Nat} {st az aK:List Int} (h:ja rows cols st az aK):x6 (((rows:Int),(cols:Int),st,az,aK,()),())=some (g5 rows cols st az aK,()):=asF h.hr h.hc h.hi h.hs h.hv h.hw
theorem ja.ER {rows cols:Nat} {st az aK:List Int} (h:ja rows cols st az aK):vT (((rows:Int),(cols:Int),st,az,aK,()),())=some (g5 rows cols st az aK,()):=axl h.hr h.hc h.hi h.hs h.hv h.hw
theorem od {rows cols:Nat} {st az aK:List Int}:g5 rows cols st az aK=0↔fk rows cols st az aK/\nc aK:=by
 unfold g5;constructor
 ·intro h;split at h
  ·split at h
   ·exact⟨by assumption,by assumption⟩
   ·omega
  ·omega
 ·rintro⟨J,R⟩;rw[if_pos J,if_pos R]
theorem af3 {rows cols:Nat} {st az aK:List Int} (ak:ja rows cols st az aK) (h:g5 rows cols st az aK=0):Ll (((rows:Int),(cols:Int),st,az,aK,()),())=some (du st az aK cols,()):=by unfold Ll;refine aI ak.check ?_;dsimp only;rw[h,ee,a8 rfl];exact aI (Q4 (od.1 h).1 ak.hc ak.hi) rfl
theorem adP {rows cols:Nat} {st az aK:List Int} (ak:ja rows cols st az aK) (ae:g5 rows cols st az aK=0):Gz (((rows:Int),(cols:Int),st,az,aK,()),())=some (du st az aK cols,()):=by have h:=(od.1 ae).1;have R:=Q4 h ak.hc ak.hi;unfold Dp at R;unfold Gz;refine aI ak.ER ?_;dsimp only at R|-;rw[ae,ee,a8 rfl];exact R
def hB (a b:cD):Prop:=a.2.1<b.2.1\/(a.2.1=b.2.1/\a.1<b.1)
theorem BN {az aK:List Int} {j:Int} {lo n:Nat} {x:cD}:x∈jU az aK j lo n↔∃t,t<n/\x=(az.getD (lo+t) 0,j,aK.getD (lo+t) 0,()):=by
 induction n with
 |zero=>simp[jU]
 |succ n aZ=>
  simp only[jU,fg,aZ,fh];constructor
  ·rintro(⟨t,J,R⟩|h)
   ·exact⟨t,by omega,R⟩
   ·exact⟨n,by omega,h⟩
  ·rintro⟨t,J,R⟩;rcases ct t n with g|g
   ·exact .inl ⟨t,g,R⟩
   ·obtain rfl:t=n:=(by omega);exact .inr R
theorem amI {az aK:List Int} {j:Int} {lo n:Nat} (h:∀s t,s<t->t<n->az.getD (lo+s) 0<az.getD (lo+t) 0):(jU az aK j lo n).Pairwise hB:=by
 induction n with
 |zero=>exact List.Pairwise.nil
 |succ n aZ=>
  refine List.pairwise_append.2 ⟨aZ fun s t J R=>h s t J (by omega),List.pairwise_singleton _ _,?_⟩;intro a aC b aa;obtain⟨t,ah,rfl⟩:=BN.1 aC;rw[fh.1 aa];exact .inr ⟨rfl,h t n ah (by omega)⟩
theorem Is {st az aK:List Int} {j:Nat} {x:cD}:x∈du st az aK j↔∃c,c<j/\x∈jU az aK (c:Int) (st.getD c 0).toNat ((st.getD (c+1) 0).toNat-(st.getD c 0).toNat):=by
 induction j with
 |zero=>simp[du]
 |succ j aZ=>
  simp only[du,fg,aZ];constructor
  ·rintro(⟨c,J,R⟩|h)
   ·exact⟨c,by omega,R⟩
   ·exact⟨j,by omega,h⟩
  ·rintro⟨c,J,R⟩;rcases ct c j with g|g
   ·exact .inl ⟨c,g,R⟩
   ·obtain rfl:c=j:=(by omega);exact .inr R
theorem AY {rows cols:Nat} {st az aK:List Int} (h:fk rows cols st az aK):∀j,j<=cols->(du st az aK j).Pairwise hB:=by
 intro j
 induction j with
 |zero=>intro _;exact List.Pairwise.nil
 |succ j aZ=>
  intro ao;have p7:=h.pos j (by omega);have fy:=h.pos (j+1) ao;refine List.pairwise_append.2 ⟨aZ (by omega),amI ?_,?_⟩
  ·intro s t J R;have step:∀d,s+d<(st.getD (j+1) 0).toNat-(st.getD j 0).toNat->0<d->az.getD ((st.getD j 0).toNat+s) 0<az.getD ((st.getD j 0).toNat+(s+d)) 0:=by
    intro d
    induction d with
    |zero=>intro _ aL;omega
    |succ d HJ=>
     intro ac _;have aY:=h.asc j ((st.getD j 0).toNat+(s+(d+1))) (by omega) (by omega) (by omega);rw[show(st.getD j 0).toNat+(s+(d+1))-1=(st.getD j 0).toNat+(s+d) by omega] at aY;rcases nl d with g|g
     ·subst g;exact aY
     ·have:=HJ (by omega) g;omega
   have:=step (t-s) (by omega) (by omega);rwa[show s+(t-s)=t by omega] at this
  ·intro a aC b aa;obtain⟨c,hc,aC⟩:=Is.1 aC;obtain⟨t,ah,rfl⟩:=BN.1 aC;obtain⟨t2,lc,rfl⟩:=BN.1 aa;exact .inl (by show(c:Int)<(j:Int);omega)
theorem avQ (a b:Int):KP ([a,b],())=some (if a≠0 then a else b,()):=by
 unfold KP;refine U.eq_iff.1 ?_;dsimp only;refine U.bJ (P:=fun q=>match q with|.inl _=>a=0/\b=0|.inr r=>r=(if a≠0 then a else b,())) ?_ ?_
 ·refine U.steps 2 (fun i s=>s=((i:Int),())/\(1<=i->a=0)/\(2<=i->b=0)) ⟨rfl,fun h=>by omega,fun h=>by omega⟩ ?_ ?_
  ·rintro i _ hi ⟨rfl,J,R⟩;rcases(show i=0\/i=1 by omega) with rfl|rfl
   ·show U (bif a !=0 then _ else _) _;rw[ee];by_cases g:a=0
    ·rw[a8 g];exact U.ar.2 ⟨rfl,fun _=>g,fun h=>by omega⟩
    ·rw[a1 g];refine U.ar.2 ?_;rw[if_pos g]
   ·show U (bif b !=0 then _ else _) _;have aC:=J (by decide);rw[ee];by_cases g:b=0
    ·rw[a8 g];exact U.ar.2 ⟨rfl,fun _=>aC,fun _=>g⟩
    ·rw[a1 g];refine U.ar.2 ?_;rw[if_neg (by simpa using aC)]
  ·rintro _ ⟨rfl,J,R⟩;exact U.ar.2 ⟨J (by decide),R (by decide)⟩
 ·rintro(q|q) aj
  ·obtain⟨rfl,rfl⟩:a=0/\b=0:=aj;exact U.ar.2 rfl
  ·have aj:q=_:=aj;rw[aj];exact U.ar.2 rfl
theorem amy {a b:cD} (h:hB a b):Lq (b,a,())=some (1,()):=by
 unfold Lq;refine aI (Qm _ _) (aI (Qm _ _) (aI (avQ _ _) ?_));dsimp only;congr 2;unfold e2;rcases h with h|⟨J,R⟩
 ·rw[if_neg (show¬b.2.1<a.2.1 by omega),if_pos h];rfl
 ·rw[if_neg (show¬b.2.1<a.2.1 by omega),if_neg (show¬a.2.1<b.2.1 by omega),if_neg (by simp),if_neg (show¬b.1<a.1 by omega),if_pos R]
theorem aqT {l:List cD} (ai:l.length<=1000) (hs:l.Pairwise hB) {lo hi:Nat} (J:lo<=hi) (R:hi<=l.length):Ge (l,(lo:Int),(hi:Int),(),())=some (l,()):=by
 unfold Ge;refine U.eq_iff.1 ?_;dsimp only;refine U.bJ (P:=fun r=>r=(l,())) ?_ (by rintro _ rfl;exact U.ar.2 rfl);refine U.steps (hi-lo-1) (fun i s=>s=(((lo+1+i:Nat):Int),l,())) (by rw[cO (by omega)]) ?_ ?_
 ·rintro i _ kj rfl;dsimp only;rw[cT (a8 (show((lo+1+i:Nat):Int)<(hi:Int) by omega))];refine U.bJ (P:=fun r=>r=(l,())) ?_ (by rintro _ rfl;refine U.ar.2 ?_;dsimp only;rw[cO (by omega)];rfl);refine U.steps 0 (fun _ s=>s=(((lo+1+i:Nat):Int),l,())) rfl (fun i s hi=>by omega) ?_;rintro _ rfl;dsimp only;refine U.bs (y:=.inr (.inr (l,()))) ?_ (U.ar.2 rfl);rw[a8 (show((lo+1+i:Nat):Int)>(lo:Int) by omega)];have aA:aQ (((lo+1+i:Nat):Int)-1)=((lo+i:Nat):Int):=(by rw[b4 (by omega) (by omega)];omega);rw[beq_self_eq_true,cond_true,oC (by omega),aA,oC (by omega)];have apZ:hB l[lo+i] l[lo+1+i]:=List.pairwise_iff_getElem.1 hs _ _ (by omega) (by omega) (by omega);exact aI (amy apZ) rfl
 ·rintro _ rfl;dsimp only;rw[c1 (a1 (show¬((lo+1+(hi-lo-1):Nat):Int)<(hi:Int) by omega))];exact U.ar.2 rfl
theorem ayF {l:List cD} (ai:l.length<=19) (hs:l.Pairwise hB):Lp (l,())=some (l,()):=by
 unfold Lp;refine aI (y:=(l,())) ?_ ?_
 ·unfold Qv;have e:((di (([]:List cD).length+l.length)).bind fun _=>some (([]++l:List cD),()))=some (l,()):=by
   rw[fo (by simp;omega)];rfl
  show rT l.length (some ([],())) ((di (([]:List cD).length+l.length)).bind fun _=>some (([]++l:List cD),()))=_;unfold rT;rw[e];split
  ·rename_i h;obtain rfl:=qi h;rw[if_pos rfl]
  ·rfl
 refine aI (y:=(l,())) ?_ rfl;unfold Qz;refine aI (y:=(l,())) ?_ rfl;unfold QA;refine U.eq_iff.1 ?_;dsimp only;refine U.bJ (P:=fun r=>r=(0,l,())) ?_ ?_
 ·refine U.steps 0 (fun _ s=>s=(0,20,l,())) rfl (fun i s hi=>by omega) ?_;rintro _ rfl;dsimp only;rw[c1 (a1 (show¬((20:Int)<=aS l) by simp only[bL];omega))];exact U.ar.2 rfl
 rintro _ rfl;refine U.bs (aqT (lo:=0) (by omega) hs (Nat.zero_le _) (Nat.le_refl _)) ?_;refine U.bJ (P:=fun r=>r=(l,())) ?_ (by rintro _ rfl;exact U.ar.2 rfl);refine U.steps 0 (fun _ s=>s=(20,l,())) rfl (fun i s hi=>by omega) ?_;rintro _ rfl;dsimp only;rw[c1 (a1 (show¬((20:Int)<aS l) by simp only[bL];omega))];exact U.ar.2 rfl
def kt (E:List cD) (c:Int):Nat:=(E.filter fun x=>decide (x.2.1=c)).length
def gG (E:List cD) (j:Int):Nat:=(E.filter fun x=>decide (x.2.1<j)).length
def wQ (rows cols:Nat) (E:List cD):cW:=((rows:Int),(cols:Int),bz (cols+1) (fun j=>(gG E (j:Int):Int)),E.map (fun x=>x.1),E.map (fun x=>x.2.2.1),())
theorem Qi (E:List cD) (j:Int):gG E (j+1)=gG E j+kt E j:=by
 unfold gG kt
 induction E with
 |nil=>rfl
 |cons x E aZ=>
  simp only[nj];rcases Int.lt_trichotomy x.2.1 j with g|g|g
  ·rw[if_pos (by simpa using(by omega:x.2.1<j+1)),if_pos (by simpa using g),if_neg (by simpa using(by omega:¬x.2.1=j))];simp only[kJ];omega
  ·rw[if_pos (by simpa using(by omega:x.2.1<j+1)),if_neg (by simpa using(by omega:¬x.2.1<j)),if_pos (by simpa using g)];simp only[kJ];omega
  ·rw[if_neg (by simpa using(by omega:¬x.2.1<j+1)),if_neg (by simpa using(by omega:¬x.2.1<j)),if_neg (by simpa using(by omega:¬x.2.1=j))];omega
def nh (rows cols:Nat) (E:List cD):Prop:=∀x∈E,0<=x.1/\x.1<(rows:Int)/\0<=x.2.1/\x.2.1<(cols:Int)
theorem X1 (E:List cD) (x:cD) (c:Int):kt (E++[x]) c=kt E c+if x.2.1=c then 1 else 0:=by
 unfold kt;rw[rb,tS];congr 1;by_cases g:x.2.1=c
 ·rw[if_pos g,J7 (by simpa using g)];rfl
 ·rw[if_neg g,Fx (by simpa using g)];rfl
theorem akT {rows cols:Nat} {E:List cD} (hr:rows<=200) (hc:cols<=200) (ai:E.length<=19) (hs:E.Pairwise hB) (hi:nh rows cols E):Ln ((rows:Int),(cols:Int),E,())=some (wQ rows cols E,()):=by
 unfold Ln;refine U.eq_iff.1 ?_;dsimp only;rw[cO (by omega)];refine U.bs (jZ (by omega)) (U.bs (ayF ai hs) ?_);dsimp only;refine U.bJ (P:=fun r=>r=(((0:Int),((0:Int),([],([],([],()))))),((rows:Int),(cols:Int),bz (cols+1) (fun j=>if j=0 then(0:Int) else(kt E ((j:Int)-1):Int)),E.map (fun x=>x.1),E.map (fun x=>x.2.2.1),()),())) ?_ ?_
 ·refine U.steps E.length (fun i s=>s=((i:Int),((0:Int),((0:Int),([],([],([],()))))),((rows:Int),(cols:Int),bz (cols+1) (fun j=>if j=0 then(0:Int) else(kt (E.take i) ((j:Int)-1):Int)),(E.take i).map (fun x=>x.1),(E.take i).map (fun x=>x.2.2.1),()),E,())) ?_ ?_ ?_
  ·have aV:(bz (cols+1) fun _=>(0:Int))=bz (cols+1) fun j=>if j=0 then(0:Int) else(kt (E.take 0) ((j:Int)-1):Int):=fl fun j ao=>by split<;>rfl
   rw[og,aV];rfl
  ·rintro i _ kj rfl;have ab:=hi E[i] (List.getElem_mem kj);obtain⟨c,MW⟩:=Int.eq_ofNat_of_zero_le ab.2.2.1;dsimp only;rw[cT (a8 (show(i:Int)<aS E by simp only[bL];omega)),oC kj];have aA:bN E[i].2.1=((c+1:Nat):Int):=(by rw[MW,cO (by omega)]);have ah:E.take (i+1)=E.take i++[E[i]]:=(by rw[List.take_add_one,List.getElem?_eq_getElem kj];rfl);rw[fo (by simp;omega),Option.bind_some,fo (by simp;omega),Option.bind_some,aA];refine U.bs (hb (by rw[dP];omega)) (U.bs (iz (by omega)) (U.bs (hb (by rw[dP];omega)) ?_));rw[iz (by omega)];refine U.ar.2 ?_;have qI:(bz (cols+1) (fun j=>if j=0 then(0:Int) else(kt (E.take i) ((j:Int)-1):Int))).set (c+1) (bN (if c+1=0 then(0:Int) else(kt (E.take i) (((c+1:Nat):Int)-1):Int)))=bz (cols+1) (fun j=>if j=0 then(0:Int) else(kt (E.take (i+1)) ((j:Int)-1):Int)):=by
    rw[kv];refine fl fun j ao=>?_;have mO:∀k,kt (E.take i) k<=19:=fun k=>d8 (lv _ _) (by rw[eW];omega);by_cases g:j=c+1
    ·subst g;rw[nZ,if_neg (by omega),if_neg (by omega),cO (by have:=mO (((c+1:Nat):Int)-1);omega),ah,X1,if_pos (by omega)]
    ·rw[nY _ _ g];by_cases oh:j=0
     ·rw[if_pos oh,if_pos oh]
     ·rw[if_neg oh,if_neg oh,ah,X1,if_neg (by omega),ql]
   dsimp only[Option.map_some];rw[cO (by omega),qI,ah,List.map_append,List.map_append];rfl
  ·rintro _ rfl;dsimp only;rw[c1 (a1 (show¬((E.length:Int)<aS E) by simp only[bL];omega)),List.take_of_length_le (Nat.le_refl _)];exact U.ar.2 rfl
 ·rintro _ rfl;dsimp only;refine U.bJ (P:=fun r=>r=(((0:Int),((0:Int),([],([],([],()))))),wQ rows cols E,())) ?_ (by rintro _ rfl;exact U.ar.2 rfl);have Hf:∀k,gG E k<=19:=fun k=>Nat.le_trans (List.length_filter_le _ _) ai;have mO:∀k,kt E k<=19:=fun k=>Nat.le_trans (List.length_filter_le _ _) ai;have o7:gG E 0=0:=by
   unfold gG;rw[List.filter_eq_nil_iff.2]
   ·rfl
   ·intro x ab;have:=hi x ab;simpa using this.2.2.1
  refine U.steps cols (fun i s=>s=((i:Int),((0:Int),((0:Int),([],([],([],()))))),((rows:Int),(cols:Int),bz (cols+1) (fun j=>if j<=i then(gG E (j:Int):Int) else(kt E ((j:Int)-1):Int)),E.map (fun x=>x.1),E.map (fun x=>x.2.2.1),()),())) ?_ ?_ ?_
  ·have aV:(bz (cols+1) fun j=>if j=0 then(0:Int) else(kt E ((j:Int)-1):Int))=bz (cols+1) (fun j=>if j<=0 then(gG E (j:Int):Int) else(kt E ((j:Int)-1):Int)):=fl fun j ao=>by
    by_cases g:j=0
    ·subst g;rw[if_pos rfl,if_pos (bU _)];show(0:Int)=((gG E 0:Nat):Int);rw[o7];rfl
    ·rw[if_neg g,if_neg (by omega)]
   rw[aV];rfl
  ·rintro i _ kj rfl;dsimp only;rw[cT (a8 (show(i:Int)<(cols:Int) by omega)),cO (by omega),oC (by rw[dP];omega),oC (by rw[dP];omega),l9,l9];refine U.bs (hb (by rw[dP];omega)) ?_;rw[iz (by omega)];refine U.ar.2 ?_;have qI:(bz (cols+1) (fun j=>if j<=i then(gG E (j:Int):Int) else(kt E ((j:Int)-1):Int))).set (i+1) (aQ ((if i+1<=i then(gG E ((i+1:Nat):Int):Int) else(kt E (((i+1:Nat):Int)-1):Int))+(if i<=i then(gG E (i:Int):Int) else(kt E ((i:Int)-1):Int))))=bz (cols+1) (fun j=>if j<=i+1 then(gG E (j:Int):Int) else(kt E ((j:Int)-1):Int)):=by
    rw[kv];refine fl fun j ao=>?_;by_cases g:j=i+1
    ·subst g;have J:=Qi E (i:Int);have R:=mO (i:Int);have ac:=Hf (i:Int);rw[nZ,if_neg (by omega),if_pos (bU _),if_pos (bU _),show(((i+1:Nat):Int)-1)=(i:Int) by omega,b4 (by omega) (by omega),show((i+1:Nat):Int)=(i:Int)+1 by omega,J];omega
    ·rw[nY _ _ g];by_cases oh:j<=i
     ·rw[if_pos oh,if_pos (by omega)]
     ·rw[if_neg oh,if_neg (by omega)]
   dsimp only[Option.map_some];rw[qI]
  ·rintro _ rfl;dsimp only;rw[c1 (a1 (show¬((cols:Int)<(cols:Int)) by omega))];have aV:bz (cols+1) (fun j=>if j<=cols then(gG E (j:Int):Int) else(kt E ((j:Int)-1):Int))=bz (cols+1) (fun j=>(gG E (j:Int):Int)):=fl fun j ao=>(by rw[if_pos (by omega)]);rw[aV];exact U.ar.2 rfl
def gh (j i:Int) (x:cD):Bool:=decide (x.2.1<j)||(decide (x.2.1=j)&&decide (x.1<i))
theorem Xo {j i:Int} {a b:cD} (h:hB a b) (aa:gh j i b=true):gh j i a=true:=by
 unfold gh at*;simp only[h9,bW,decide_eq_true_eq] at*;rcases h with h|⟨J,R⟩
 ·omega
 ·omega
theorem YQ {j i:Int}:∀{E:List cD},E.Pairwise hB->E.filter (gh j i)=E.take (E.filter (gh j i)).length
 |[],_=>rfl
 |x::E,h=>by
  obtain⟨J,R⟩:=sm.1 h;by_cases g:gh j i x=true
  ·rw[J7 g,kJ,List.take_succ_cons];exact congrArg _ (YQ R)
  ·have ac:E.filter (gh j i)=[]:=by
    refine List.filter_eq_nil_iff.2 fun y aB aa=>?_;exact g (Xo (J y aB) aa)
   rw[Fx g,ac];rfl
theorem P1 {rows cols:Nat} {E:List cD} (hi:nh rows cols E):E.filter (gh 0 0)=[]:=by refine List.filter_eq_nil_iff.2 fun x ab aa=>?_;have:=hi x ab;unfold gh at aa;simp only[h9,bW,decide_eq_true_eq] at aa;omega
theorem akv {rows cols:Nat} {E:List cD} (hi:nh rows cols E) (j:Int):E.filter (gh j (rows:Int))=E.filter (gh (j+1) 0):=by refine Fw fun x ab=>?_;have:=hi x ab;unfold gh;rw[q8];simp only[h9,bW,decide_eq_true_eq];omega
theorem Kx {rows cols:Nat} {E:List cD} (hi:nh rows cols E) (j:Int):(E.filter (gh j 0)).length=gG E j:=by unfold gG;congr 1;refine Fw fun x ab=>?_;have:=hi x ab;unfold gh;rw[q8];simp only[h9,bW,decide_eq_true_eq];omega
theorem P2 {j i:Int} {E:List cD} (hs:E.Pairwise hB) {k:Nat} (ae:k<E.length):gh j i E[k]=true↔k<(E.filter (gh j i)).length:=by
 constructor
 ·intro h;have gn:∀x∈E.take (k+1),gh j i x=true:=by
   intro x ab;obtain⟨s,SD,rfl⟩:=List.mem_take_iff_getElem.1 ab;rcases ct s k with g|g
   ·exact Xo (i7.1 hs s k (by omega) ae g) h
   ·obtain rfl:s=k:=(by omega);exact h
  have J:(E.take (k+1)).filter (gh j i)=E.take (k+1):=rc.2 gn;have R:=(List.Sublist.filter (gh j i) (List.take_sublist (k+1) E)).length_le;rw[J,eW] at R;omega
 ·intro h;have J:=YQ (j:=j) (i:=i) hs;have R:E[k]∈E.filter (gh j i):=by
   rw[J];exact List.mem_take_iff_getElem.2 ⟨k,by omega,rfl⟩
  exact(iv.1 R).2
theorem akw {j i:Int} {E:List cD} (hs:E.Pairwise hB):(∃h:(E.filter (gh j i)).length<E.length,E[(E.filter (gh j i)).length].1=i/\E[(E.filter (gh j i)).length].2.1=j/\(E.filter (gh j (i+1))).length=(E.filter (gh j i)).length+1)\/((∀t,(h:t<E.length)->¬(E[t].1=i/\E[t].2.1=j))/\(E.filter (gh j (i+1))).length=(E.filter (gh j i)).length):=by
 have key:∀x:cD,gh j (i+1) x=true↔gh j i x=true\/(x.1=i/\x.2.1=j):=fun x=>(by unfold gh;simp only[h9,bW,decide_eq_true_eq];omega);have f5:∀x:cD,x.1=i/\x.2.1=j->¬gh j i x=true:=fun x ab h=>(by unfold gh at h;simp only[h9,bW,decide_eq_true_eq] at h;omega);generalize ak:(E.filter (gh j i)).length=m;generalize mQ:(E.filter (gh j (i+1))).length=fE;have da:∀k,(ae:k<E.length)->(gh j i E[k]=true↔k<m):=fun k ae=>(by rw[<-ak];exact P2 hs ae);have cw:∀k,(ae:k<E.length)->(gh j (i+1) E[k]=true↔k<fE):=fun k ae=>(by rw[<-mQ];exact P2 hs ae);have dp:m<=E.length:=(by rw[<-ak];exact lv _ _);have l2:fE<=E.length:=(by rw[<-mQ];exact lv _ _);by_cases nE:∃t,∃h:t<E.length,E[t].1=i/\E[t].2.1=j
 ·obtain⟨t,ah,ab⟩:=nE;have cK:¬t<m:=fun h=>f5 _ ab ((da t ah).2 h);have cG:t<fE:=(cw t ah).1 ((key _).2 (.inr ab));have c9:∀k,(ae:k<E.length)->m<=k->k<fE->k=t:=fun k ae ac aL=>by
   have aY:=(key _).1 ((cw k ae).2 aL);have bG:E[k].1=i/\E[k].2.1=j:=aY.resolve_left fun h=>(by have:=(da k ae).1 h;omega);rcases rf k t with g|g|g
   ·have:=i7.1 hs k t ae ah g;rcases this with h|⟨h,a7⟩<;>omega
   ·exact g
   ·have:=i7.1 hs t k ah ae g;rcases this with h|⟨h,a7⟩<;>omega
  have apN:m=t:=c9 m (by omega) (bU _) (by omega);subst apN;refine .inl ⟨ah,ab.1,ab.2,?_⟩;rcases ct (m+1) fE with g|g
  ·have:=c9 (m+1) (by omega) (by omega) g;omega
  ·omega
 ·refine .inr ⟨fun t ah ab=>nE ⟨t,ah,ab⟩,?_⟩;have e:∀k,k<E.length->(k<fE↔k<m):=fun k ae=>by
   rw[<-da k ae,<-cw k ae,key];exact⟨fun h=>h.resolve_right fun ab=>nE ⟨k,ae,ab⟩,.inl⟩
  rcases rf fE m with g|g|g
  ·have:=(e fE (by omega)).2 g;omega
  ·exact g
  ·have:=(e m (by omega)).1 g;omega
def rY (rows:Nat) (x:cD):Nat:=x.2.1.toNat*rows+x.1.toNat
theorem awn {rows cols:Nat} {E:List cD} (hi:nh rows cols E) {x:cD} (ab:x∈E):rY rows x<rows*cols:=by have h:=hi x ab;unfold rY;have J:(x.2.1.toNat+1)*rows<=cols*rows:=jQ _ (by omega);rw[ie,lx] at J;rw[pJ rows cols];omega
theorem awm {rows:Nat} {a b:Int×Int} (aC:0<=a.1/\a.1<(rows:Int)/\0<=a.2) (aa:0<=b.1/\b.1<(rows:Int)/\0<=b.2) (h:a.2.toNat*rows+a.1.toNat=b.2.toNat*rows+b.1.toNat):a.1=b.1/\a.2=b.2:=by have J:(a.2.toNat*rows+a.1.toNat)/rows=a.2.toNat:=(by rw[pJ,Nat.mul_add_div (by omega),Nat.div_eq_of_lt (by omega),ql]);have R:(b.2.toNat*rows+b.1.toNat)/rows=b.2.toNat:=(by rw[pJ,Nat.mul_add_div (by omega),Nat.div_eq_of_lt (by omega),ql]);rw[h,R] at J;rw[J] at h;omega
def rv (rows:Nat) (E:List cD):Nat->Nat->Int
 |0,_=>0
 |i+1,p=>if p=rY rows (E.getD i (0,0,0,())) then((i+1:Nat):Int) else rv rows E i p
theorem XK (rows:Nat) (E:List cD) (p:Nat):∀i,(rv rows E i p=0/\∀k,k<i->rY rows (E.getD k (0,0,0,()))≠p)\/∃k,k<i/\rY rows (E.getD k (0,0,0,()))=p/\rv rows E i p=((k+1:Nat):Int)
 |0=>.inl ⟨rfl,fun k h=>absurd h (by omega)⟩
 |i+1=>by
  unfold rv;by_cases g:p=rY rows (E.getD i (0,0,0,()))
  ·exact .inr ⟨i,by omega,g.symm,if_pos g⟩
  ·rw[if_neg g];rcases XK rows E p i with⟨J,R⟩|⟨k,J,R,ac⟩
   ·refine .inl ⟨J,fun k ae=>?_⟩;rcases ct k i with h|h
    ·exact R k h
    ·obtain rfl:k=i:=(by omega);exact fun h=>g h.symm
   ·exact .inr ⟨k,by omega,R,ac⟩
theorem alb (rows:Nat) (E:List cD) (i:Nat):fO (rv rows E i) (rY rows (E.getD i (0,0,0,()))) ((i+1:Nat):Int)=rv rows E (i+1):=by funext p;unfold fO;rw[rv]
theorem adv {rows a c:Nat} (hr:rows<=200) (hc:c<=200) (aC:a<=200):aQ (aQ ((c:Int)*(rows:Int))+(a:Int))=((c*rows+a:Nat):Int):=by have h:c*rows<=200*200:=l1 hc hr;have e:(c:Int)*(rows:Int)=((c*rows:Nat):Int):=(by rw[oL]);rw[e,JG (by omega),<-Int.natCast_add,JG (by omega)]
theorem Rx {E:List cD} {i:Nat} (h:i<E.length):E.getD i (0,0,0,())=E[i]:=by rw[lW,cr h];rfl
def k1 (E:List cD) (j i:Int):Nat:=(E.filter (gh j i)).length
theorem ads (E:List cD) (j i:Int):k1 E j i<=E.length:=lv _ _
def tn (rows cols:Nat) (E:List cD) (j:Nat) (k:Nat):cW:=((rows:Int),(cols:Int),bz (j+1) (fun j=>(gG E (j:Int):Int)),(E.take k).map (fun x=>x.1),(E.take k).map (fun x=>x.2.2.1),())
theorem av8 {rows cols:Nat} {E:List cD} (hr:rows<=200) (hc:cols<=200) (ai:E.length<=10000) (hs:E.Pairwise hB) (hi:nh rows cols E):LZ ((rows:Int),(cols:Int),E,())=some (wQ rows cols E,()):=by
 unfold LZ;refine U.eq_iff.1 ?_;dsimp only;have aak:rows*cols<=200*200:=Nat.mul_le_mul hr hc;have ek:aQ ((rows:Int)*(cols:Int))=((rows*cols:Nat):Int):=(by rw[<-Int.natCast_mul,JG (by omega)]);rw[ek];refine U.bs (jZ (by omega)) ?_;have ks:gG E 0=0:=(by rw[<-Kx hi,P1 hi];rfl);refine U.bJ (P:=fun r=>r=(((0:Int),((0:Int),([],([],([],()))))),tn rows cols E 0 0,bz (rows*cols) (rv rows E E.length),())) ?_ ?_
 ·refine U.steps E.length (fun i s=>s=((i:Int),((0:Int),((0:Int),([],([],([],()))))),tn rows cols E 0 0,bz (rows*cols) (rv rows E i),())) ?_ ?_ ?_
  ·have:tn rows cols E 0 0=((rows:Int),((cols:Int),([0],(([]:bx),(([]:bx),()))))):=by
    unfold tn;rw[yi,YL];show(_,_,[((gG E 0:Nat):Int)],_)=_;rw[ks];rfl
   rw[og,this];rfl
  ·rintro i _ kj rfl;have ab:=hi E[i] (List.getElem_mem kj);obtain⟨a,aC⟩:=Int.eq_ofNat_of_zero_le ab.1;obtain⟨c,MW⟩:=Int.eq_ofNat_of_zero_le ab.2.2.1;dsimp only;rw[cT (a8 (show(i:Int)<aS E by simp only[bL];omega))];refine U.bs (dC kj) (U.bs (dC kj) ?_);have aw:aQ (aQ (E[i].2.1*(rows:Int))+E[i].1)=((rY rows E[i]:Nat):Int):=by
    unfold rY;rw[aC,MW,adv hr (by omega) (by omega),d7,d7]
   have ca:=awn hi (dy kj);rw[aw,m8 (by rw[dP];exact ca),kv,cO (by omega),<-Rx kj,alb];exact U.ar.2 rfl
  ·rintro _ rfl;dsimp only;rw[c1 (a1 (show¬((E.length:Int)<aS E) by simp only[bL];omega))];exact U.ar.2 rfl
 ·rintro _ rfl;dsimp only;refine U.bJ (P:=fun r=>r=(((0:Int),((0:Int),([],([],([],()))))),wQ rows cols E,())) ?_ (by rintro _ rfl;exact U.ar.2 rfl);refine U.steps cols (fun j s=>s=((j:Int),((0:Int),((0:Int),([],([],([],()))))),tn rows cols E j (k1 E (j:Int) 0),bz (rows*cols) (rv rows E E.length),())) ?_ ?_ ?_
  ·have:k1 E ((0:Nat):Int) 0=0:=by
    unfold k1;rw[show((0:Nat):Int)=0 from rfl,P1 hi];rfl
   rw[this];rfl
  ·rintro j _ ao rfl;dsimp only;rw[cT (a8 (show(j:Int)<(cols:Int) by omega))];refine U.bJ (P:=fun r=>r=(((0:Int),((0:Int),([],([],([],()))))),tn rows cols E j (k1 E (j:Int) (rows:Int)),bz (rows*cols) (rv rows E E.length),())) ?_ ?_
   ·refine U.steps rows (fun i s=>s=((i:Int),((0:Int),((0:Int),([],([],([],()))))),tn rows cols E j (k1 E (j:Int) (i:Int)),bz (rows*cols) (rv rows E E.length),())) rfl ?_ ?_
    ·rintro i _ kj rfl;dsimp only;rw[cT (a8 (show(i:Int)<(rows:Int) by omega)),adv hr (by omega) (by omega)];have aw:j*rows+i<rows*cols:=by
      have J:(j+1)*rows<=cols*rows:=jQ _ ao;rw[ie,lx] at J;rw[pJ rows cols];omega
     rw[oC (by rw[dP];exact aw),l9];have aag:=ads E (j:Int) (i:Int);have wt:=akw (j:=(j:Int)) (i:=(i:Int)) hs;change(∃h:k1 E (j:Int) (i:Int)<E.length,E[k1 E (j:Int) (i:Int)].1=(i:Int)/\E[k1 E (j:Int) (i:Int)].2.1=(j:Int)/\k1 E (j:Int) ((i:Int)+1)=k1 E (j:Int) (i:Int)+1)\/((∀t,(h:t<E.length)->¬(E[t].1=(i:Int)/\E[t].2.1=(j:Int)))/\k1 E (j:Int) ((i:Int)+1)=k1 E (j:Int) (i:Int)) at wt;rw[show(i:Int)+1=((i+1:Nat):Int) from by omega] at wt;generalize k1 E (j:Int) (i:Int)=m at*;rw[cO (by omega)];have ae:∀k,(h:k<E.length)->rY rows E[k]=j*rows+i->E[k].1=(i:Int)/\E[k].2.1=(j:Int):=(by intro k h ap1;have ab:=hi E[k] (List.getElem_mem h);exact awm (rows:=rows) (a:=(E[k].1,E[k].2.1)) (b:=((i:Int),(j:Int))) ⟨ab.1,ab.2.1,ab.2.2.1⟩ ⟨by omega,by dsimp only;omega,by dsimp only;omega⟩ (by simpa[rY] using ap1));rcases XK rows E (j*rows+i) E.length with⟨Cz,zH⟩|⟨k,bk,bD,cm⟩
     ·rw[Cz];rcases wt with⟨J,R,ac,aL⟩|⟨J,R⟩
      ·refine absurd ?_ (zH m J);rw[Rx J];unfold rY;rw[R,ac,d7,d7]
      ·rw[c1 (a1 (by omega))];refine U.bs rfl ?_;rw[R];exact U.ar.2 rfl
     ·rw[cm];rw[Rx bk] at bD;obtain⟨aN,aM⟩:=ae k bk bD;rcases wt with⟨J,R,ac,aL⟩|⟨J,R⟩
      ·have apx:k=m:=by
        rcases rf k m with g|g|g
        ·have:=i7.1 hs k m bk J g;unfold hB at this;omega
        ·exact g
        ·have:=i7.1 hs m k J bk g;unfold hB at this;omega
       subst apx;rw[cT (a8 (by omega)),show((k+1:Nat):Int)-1=(k:Int) by omega,JG (by omega)];unfold tn;dsimp only;rw[fo (by simp;omega),Option.bind_some];have ah:E.take (k+1)=E.take k++[E[k]]:=(by rw[List.take_add_one,List.getElem?_eq_getElem bk];rfl);rw[dC bk,Option.bind_some,fo (by simp;omega),Option.bind_some,Option.bind_some];rw[aL,ah,List.map_append,List.map_append,<-R];exact U.ar.2 rfl
      ·exact absurd ⟨aN,aM⟩ (J k bk)
    ·rintro _ rfl;dsimp only;rw[c1 (a1 (show¬((rows:Int)<(rows:Int)) by omega))];exact U.ar.2 rfl
   ·rintro _ rfl;have aag:=ads E (j:Int) (rows:Int);have aA:k1 E (j:Int) (rows:Int)=k1 E ((j+1:Nat):Int) 0:=by
     unfold k1;rw[akv hi,show((j+1:Nat):Int)=(j:Int)+1 by omega]
    have aX:k1 E ((j+1:Nat):Int) 0=gG E ((j+1:Nat):Int):=Kx hi _;rw[aA] at aag|-;unfold tn;dsimp only;have apG:aS ((E.take (k1 E ((j+1:Nat):Int) 0)).map fun x=>x.1)=(gG E ((j+1:Nat):Int):Int):=(by rw[bL,List.length_map,List.length_take,<-aX];omega);rw[fo (by rw[dP];simp;omega),Option.bind_some,apG,yi (j+1),cO (by omega)];exact U.ar.2 rfl
  ·rintro _ rfl;dsimp only;rw[c1 (a1 (show¬((cols:Int)<(cols:Int)) by omega))];have aA:k1 E (cols:Int) 0=E.length:=by
    unfold k1;rw[rc.2];intro x ab;have:=hi x ab;unfold gh;simp only[h9,bW,decide_eq_true_eq];omega
   have:tn rows cols E cols (k1 E (cols:Int) 0)=wQ rows cols E:=(by unfold tn wQ;rw[aA,dW (bU _)]);rw[this];exact U.ar.2 rfl
theorem C5 {rows cols:Nat} {E:List cD} (hs:E.Pairwise hB) (hi:nh rows cols E) {k:Nat} (ae:k<E.length) (j:Int):E[k].2.1<j↔k<gG E j:=by have h:=P2 (j:=j) (i:=0) hs ae;rw[Kx hi] at h;rw[<-h];have:=hi E[k] (dy ae);unfold gh;simp only[h9,bW,decide_eq_true_eq];omega
theorem XW {rows cols:Nat} {E:List cD} (hi:nh rows cols E):gG E 0=0:=by rw[<-Kx hi,P1 hi];rfl
theorem XV {rows cols:Nat} {E:List cD} (hi:nh rows cols E):gG E (cols:Int)=E.length:=by unfold gG;rw[rc.2];intro x ab;have:=hi x ab;simpa using this.2.2.2
theorem ans {n:Nat} {f:Nat->Int} {i:Nat} (h:i<n):(bz n f).getD i 0=f i:=by rw[lW,DA h];rfl
theorem ML {E:List cD} {k:Nat} (h:k<E.length):(E.map fun x=>x.1).getD k 0=E[k].1:=by rw[lW,gB,cr h];rfl
theorem Y8 {E:List cD} {k:Nat} (h:k<E.length):(E.map fun x=>x.2.2.1).getD k 0=E[k].2.2.1:=by rw[lW,gB,cr h];rfl
def Cn (cols:Nat) (E:List cD):List Int:=bz (cols+1) (fun j=>(gG E (j:Int):Int))
theorem zu {cols:Nat} {E:List cD} {j:Nat} (h:j<=cols):(Cn cols E).getD j 0=(gG E (j:Int):Int):=ans (by omega)
theorem Qh (E:List cD) (j:Int):gG E j<=E.length:=lv _ _
theorem ayV {rows cols:Nat} {E:List cD} (hs:E.Pairwise hB) (hi:nh rows cols E):fk rows cols (Cn cols E) (E.map fun x=>x.1) (E.map fun x=>x.2.2.1) where
 len:=dP _ _
 first:=by rw[zu (eX _)];show((gG E 0:Nat):Int)=0;rw[XW hi];rfl
 mono:=fun j ao=>by rw[zu (by omega),zu (by omega),show((j+1:Nat):Int)=(j:Int)+1 from by omega,Qi];omega
 last:=by rw[zu (bU _),XV hi,i6]
 val:=by simp
 rng:=fun j k ao J R=>by rw[zu (by omega)] at J R;have ae:k<E.length:=(by have:=Qh E ((j+1:Nat):Int);omega);rw[ML ae];have:=hi E[k] (dy ae);exact⟨this.1,this.2.1⟩
 asc:=fun j k ao J R=>by rw[zu (by omega)] at J R;have ae:k<E.length:=(by have:=Qh E ((j+1:Nat):Int);omega);rw[ML ae,ML (by omega)];have ch:=C5 hs hi ae (j:Int);have c8:=C5 hs hi ae ((j+1:Nat):Int);have a3:=C5 hs hi (show k-1<E.length by omega) (j:Int);have a4:=C5 hs hi (show k-1<E.length by omega) ((j+1:Nat):Int);have:=i7.1 hs (k-1) k (by omega) ae (by omega);unfold hB at this;omega
theorem aeM {rows cols:Nat} {E:List cD} (hr:rows<=200) (hc:cols<=200) (ai:E.length<=10000) (hw:∀x∈E,eE x.2.2.1):ja rows cols (Cn cols E) (E.map fun x=>x.1) (E.map fun x=>x.2.2.1) where
 hr:=hr
 hc:=hc
 hi:=by simp;omega
 hs:=by unfold Cn;rw[dP];omega
 hv:=by simp;omega
 hw:=fun v hv=>by obtain⟨x,ab,rfl⟩:=dz.1 hv;exact hw x ab
theorem Q3 (az aK:List Int) (j:Int) (lo n:Nat):jU az aK j lo n=bz n fun t=>(az.getD (lo+t) 0,j,aK.getD (lo+t) 0,()):=by
 induction n with
 |zero=>rfl
 |succ n aZ=>rw[jU,aZ,yi]
theorem amJ {rows cols:Nat} {E:List cD} (hs:E.Pairwise hB) (hi:nh rows cols E):∀j,j<=cols->du (Cn cols E) (E.map fun x=>x.1) (E.map fun x=>x.2.2.1) j=E.take (gG E (j:Int)):=by
 intro j
 induction j with
 |zero=>
  intro _;show[]=E.take (gG E 0);rw[XW hi];rfl
 |succ j aZ=>
  intro ao;rw[du,aZ (by omega),zu (by omega),zu (by omega),Q3,d7,d7];have J:gG E ((j+1:Nat):Int)=gG E (j:Int)+kt E (j:Int):=(by rw[show((j+1:Nat):Int)=(j:Int)+1 from by omega,Qi]);have fb:=Qh E ((j+1:Nat):Int);have a:∀k,(ae:k<E.length)->gG E (j:Int)<=k->k<gG E ((j+1:Nat):Int)->E[k].2.1=(j:Int):=fun k ae bS bt=>(by have ch:=C5 hs hi ae (j:Int);have c8:=C5 hs hi ae ((j+1:Nat):Int);omega);rw[J] at a fb|-;generalize gG E (j:Int)=c at*;generalize kt E (j:Int)=d at*;rw[sn,List.take_add];congr 1;have d2:((E.drop c).take d).length=d:=(by rw[eW,oO];omega);refine List.ext_getElem (by rw[dP,d2]) fun t bS bt=>?_;rw[dP] at bS;rw[l9,ML (by omega),Y8 (by omega),Fy,List.getElem_drop,<-a (c+t) (by omega) (by omega) (by omega)]
theorem YF {rows cols:Nat} {E:List cD} (hs:E.Pairwise hB) (hi:nh rows cols E):du (Cn cols E) (E.map fun x=>x.1) (E.map fun x=>x.2.2.1) cols=E:=by rw[amJ hs hi cols (bU _),XV hi,dW (bU _)]
theorem anF {E:List cD} (h:∀x∈E,dw x.2.2.1≠2047):nc (E.map fun x=>x.2.2.1):=by intro i hi;rw[i6] at hi;rw[Y8 hi];exact h _ (dy hi)
theorem XO {rows cols:Nat} {E:List cD} (hs:E.Pairwise hB) (hi:nh rows cols E) (h:∀x∈E,dw x.2.2.1≠2047):g5 rows cols (Cn cols E) (E.map fun x=>x.1) (E.map fun x=>x.2.2.1)=0:=
 od.2 ⟨ayV hs hi,anF h⟩
theorem AX {rows cols:Nat} {st az aK:List Int} (h:fk rows cols st az aK):nh rows cols (du st az aK cols):=by intro x ab;obtain⟨c,hc,ab⟩:=Is.1 ab;obtain⟨t,ah,rfl⟩:=BN.1 ab;have p7:=h.pos c (by omega);have fy:=h.pos (c+1) (by omega);have:=h.rng c ((st.getD c 0).toNat+t) hc (by omega) (by omega);exact⟨this.1,this.2,by dsimp only;omega,by dsimp only;omega⟩
theorem AZ {rows cols:Nat} {st az aK:List Int} (h:fk rows cols st az aK) {P:Int->Prop} (aw:∀v∈aK,P v):∀x∈du st az aK cols,P x.2.2.1:=by intro x ab;obtain⟨c,hc,ab⟩:=Is.1 ab;obtain⟨t,ah,rfl⟩:=BN.1 ab;have p7:=h.pos c (by omega);have fy:=h.pos (c+1) (by omega);have dp:=h.uN (c+1) (by omega);have l2:=h.val;dsimp only;rw[mJ (show(st.getD c 0).toNat+t<aK.length by omega)];exact aw _ (List.getElem_mem _)
theorem YU {aK:List Int} (h:nc aK):∀v∈aK,dw v≠2047:=by intro v hv;obtain⟨i,hi,rfl⟩:=jO.1 hv;have:=h i hi;rwa[mJ hi] at this
def yV (x:cD):Bool:=decide (x.1>=x.2.1)
def hQ (E:List cD):List cD:=E.filter yV
theorem yX {E:List cD} (h:E.Pairwise hB):(hQ E).Pairwise hB:=List.Pairwise.sublist List.filter_sublist h
theorem yW {rows cols:Nat} {E:List cD} (h:nh rows cols E):nh rows cols (hQ E):=fun x ab=>h x (iv.1 ab).1
theorem NV {E:List cD}:∀x∈hQ E,x.2.1<=x.1:=fun x ab=>by have:=(iv.1 ab).2;unfold yV at this;simpa using this
theorem Vv {α:Type} {p:α->Bool} {E:List α} {i:Nat} (h:i<E.length):(E.take (i+1)).filter p=(E.take i).filter p++(if p E[i]=true then[E[i]] else[]):=by
 rw[lY,cr h,rb];congr 1;show[E[i]].filter p=_;by_cases g:p E[i]=true
 ·rw[if_pos g,J7 g];rfl
 ·rw[if_neg g,Fx g];rfl
theorem acc:∀(l:List Nat) (N:Nat),l.Pairwise (· < ·)->(∀x∈l,x<N)->l.length<=N
 |[],_,_,_=>eX _
 |x::l,N,h,aa=>by
  obtain⟨J,R⟩:=sm.1 h;have ab:=aa x (by simp);have:=acc (l.map fun y=>y-(x+1)) (N-(x+1)) (by
   rw[CS];refine List.Pairwise.imp_of_mem ?_ R;intro a b aC cZ o6;have:=J a aC;omega) (by
   intro y aB;obtain⟨z,a2,rfl⟩:=dz.1 aB;have:=J z a2;have:=aa z (by simp[a2]);omega)
  rw[i6] at this;rw[kJ];omega
def T6 (j:Int):Int:=if j=0 then 0 else if j=1 then 4 else if j=2 then 7 else if j=3 then 9 else 10
theorem NW {n:Nat} (ag:n<=5) {E:List cD} (hs:E.Pairwise hB) (hi:nh n n E) (ah:∀x∈E,x.2.1<=x.1):E.length<=15:=by
 have h:=acc (E.map fun x=>(T6 x.2.1+x.1).toNat) 15 (by
  rw[CS];refine List.Pairwise.imp_of_mem ?_ hs;intro a b aC aa o6;have ch:=hi a aC;have c8:=hi b aa;have a3:=ah a aC;have a4:=ah b aa;unfold hB at o6;unfold T6;split<;>split<;>(try split)<;>(try split)<;>(try split)<;>(try split)<;>(try split)<;>(try split)<;>omega) (by
  intro y aB;obtain⟨z,a2,rfl⟩:=dz.1 aB;have ch:=hi z a2;have a3:=ah z a2;unfold T6;split
  ·omega
  split
  ·omega
  split
  ·omega
  split<;>omega)
 rwa[i6] at h
theorem ajG {n:Nat} {st az aK:List Int} (ag:n<=5) (ak:ja n n st az aK) (ae:g5 n n st az aK=0):Lm (((n:Int),(n:Int),st,az,aK,()),())=some (wQ n n (hQ (du st az aK n)),0,()):=by
 have bE:=(od.1 ae).1;have g7:=AY bE n (Nat.le_refl _);have cU:=AX bE;have yy:=NW ag (yX g7) (yW cU) NV;have d2:(du st az aK n).length<=10000:=(by rw[GU bE n (Nat.le_refl _)];have:=bE.uN n (Nat.le_refl _);have:=ak.hi;omega);unfold Lm;refine aI ak.check ?_;dsimp only;rw[ae,ee,a8 rfl];refine aI (Q4 bE ak.hc ak.hi) ?_;dsimp only;generalize du st az aK n=E at*;refine U.eq_iff.1 ?_;refine U.bJ (P:=fun r=>r=(((0:Int),((0:Int),([],([],([],()))))),hQ E,())) ?_ ?_
 ·refine U.steps E.length (fun i s=>s=((i:Int),((0:Int),((0:Int),([],([],([],()))))),hQ (E.take i),E,())) rfl ?_ ?_
  ·rintro i _ hi rfl;dsimp only;rw[cT (a8 (show(i:Int)<aS E by simp only[bL];omega)),oC hi,cO (by omega)];have fb:(hQ (E.take i)).length<=10000:=Nat.le_trans (List.length_filter_le _ _) (by rw[List.length_take];omega);unfold hQ at*;rw[Vv hi];by_cases g:yV E[i]=true
   ·have bt:=g;unfold yV at bt;rw[cT bt,if_pos g,fo (by simp only[kJ,vu];omega)];exact U.ar.2 rfl
   ·have bt:=g;unfold yV at bt;rw[c1 (by simpa using bt),if_neg g,oM];exact U.ar.2 rfl
  ·rintro _ rfl;dsimp only;rw[c1 (a1 (show¬((E.length:Int)<aS E) by simp only[bL];omega)),List.take_of_length_le (Nat.le_refl _)];exact U.ar.2 rfl
 ·rintro _ rfl;dsimp only;exact U.bs (akT ak.hr ak.hc (by omega) (yX g7) (yW cU)) (U.ar.2 rfl)
theorem axe {n:Nat} {st az aK:List Int} (ag:n<=5) (ak:ja n n st az aK) (ae:g5 n n st az aK=0):LY (((n:Int),(n:Int),st,az,aK,()),())=some (wQ n n (hQ (du st az aK n)),0,()):=by
 have bE:=(od.1 ae).1;have g7:=AY bE n (Nat.le_refl _);have cU:=AX bE;have yy:=NW ag (yX g7) (yW cU) NV;have d2:(du st az aK n).length<=10000:=(by rw[GU bE n (Nat.le_refl _)];have:=bE.uN n (Nat.le_refl _);have:=ak.hi;omega);unfold LY;refine aI ak.ER ?_;dsimp only;rw[ae,ee,a8 rfl];refine aI (adP ak ae) ?_;dsimp only;generalize du st az aK n=E at*;refine U.eq_iff.1 ?_;refine U.bJ (P:=fun r=>r=(((0:Int),((0:Int),([],([],([],()))))),hQ E,())) ?_ ?_
 ·refine U.steps E.length (fun i s=>s=((i:Int),((0:Int),((0:Int),([],([],([],()))))),hQ (E.take i),())) rfl ?_ ?_
  ·rintro i _ hi rfl;dsimp only;rw[cT (a8 (show(i:Int)<aS E by simp only[bL];omega)),dC hi,cO (by omega)];have fb:(hQ (E.take i)).length<=10000:=Nat.le_trans (List.length_filter_le _ _) (by rw[List.length_take];omega);unfold hQ at*;rw[Vv hi];by_cases g:yV E[i]=true
   ·have bt:=g;unfold yV at bt;rw[bq,bq,cT bt,if_pos g,bq,fo (by simp only[kJ,vu];omega)];exact U.ar.2 rfl
   ·have bt:=g;unfold yV at bt;rw[bq,bq,c1 (by simpa using bt),if_neg g,oM];exact U.ar.2 rfl
  ·rintro _ rfl;dsimp only;rw[c1 (a1 (show¬((E.length:Int)<aS E) by simp only[bL];omega)),List.take_of_length_le (Nat.le_refl _)];exact U.ar.2 rfl
 ·rintro _ rfl;dsimp only;exact U.bs (av8 ak.hr ak.hc (by omega) (yX g7) (yW cU)) (U.ar.2 rfl)
def kV (al:List (List Int)) (l:List Int):List (List Bool):=(List.range l.length).map fun(i:Nat)=>(List.range l.length).map fun(j:Nat)=>decide (l.getD j 0∈al.getD (l.getD i 0).toNat [])
theorem Ec (al:List (List Int)) (l:List Int):(kV al l).length=l.length:=by simp[kV]
theorem Kz {al:List (List Int)} {l:List Int} {i j:Nat} (hi:i<l.length) (ao:j<l.length):gY (kV al l) i j=decide (l.getD j 0∈al.getD (l.getD i 0).toNat []):=by unfold gY kV;simp[List.getD,hi,ao]
theorem ay5 {al:List (List Int)} {x y:Int} (ab:0<=x/\x<al.length) (aB:0<=y/\y<al.length):∃r,bf (r5 al) x=some r/\bf r y=some (decide (y∈al.getD x.toNat [])):=by
 have J:x.toNat<al.length:=(by omega);have R:y.toNat<al.length:=(by omega);refine⟨(List.range al.length).map fun(w:Nat)=>decide ((w:Int)∈al[x.toNat]),?_,?_⟩
 ·unfold bf;rw[if_pos ab.1,aeX J]
 ·unfold bf;rw[if_pos aB.1,gB,vt R,List.getD,cr J];simp only[hC,xO,Int.toNat_of_nonneg aB.1]
theorem ajC {al:List (List Int)} {l:List Int} (c4:gg al) (hc:∀l∈al,l.length<4611686018427387904) (ag:al.length<=200) (ai:∀x∈l,0<=x/\x<(al.length:Int)) (aP:l.Nodup) (yy:l.length<=400):L3 ((al,()),l,())=some ((kQ (kV al l),()),0,()):=by
 classical
 rw[<-U.eq_iff];unfold L3;have He:kc al=0:=(by unfold kc;rw[if_neg (by omega),if_pos c4]);have aA:decide (∀x∈l,0<=x/\x<(al.length:Int))=true:=decide_eq_true ai;have aX:decide (¬l.Nodup)=false:=decide_eq_false (fun h=>h aP);simp only[UV al hc,He,ajM l _ (by omega),aA,ajS l (by omega),aX,Wx hc ag (fun v hv=>(c4.asc v hv).2),Yz l.length (by omega),bq,bne_self_eq_false,cond_false,mw];simp only[U.dm];refine U.mono (P:=fun q=>q.2.1=kV al l) ?_ ?_
 ·refine U.for (i0:=0) l.length (fun i t=>t.2.1=(List.range l.length).map fun(v:Nat)=>if v<i then(kV al l).getD v [] else List.replicate l.length false) rfl ?_ (eX _) ?_ ?_
  ·apply jN;intro k;simp[qj];split<;>simp_all
  ·rintro i ⟨s,out,_⟩ _ hi aJ;simp only at aJ;simp only[U.dk,U.dm];refine⟨fun _=>?_,fun aH=>by simp at aH;omega⟩;refine U.mono (P:=fun q=>q.2.1=(List.range l.length).map fun(v:Nat)=>if v<i+1 then(kV al l).getD v [] else List.replicate l.length false) ?_ (by rintro⟨s,o,_⟩ h;simp only[U.ar];exact⟨hh (by omega),h⟩);refine U.for (i0:=0) l.length (fun j t=>t.2.1=out.set i ((List.range l.length).map fun(w:Nat)=>if w<j then gY (kV al l) i w else false)) rfl ?_ (eX _) ?_ ?_
   ·show out=_;apply jN;intro u;rw[xJ];by_cases aR:i=u
    ·subst aR;rw[if_pos rfl,aJ];simp[hi,List.map_const']
    ·rw[if_neg aR]
   ·rintro j ⟨s',o,_⟩ _ ao jY;simp only at jY;have aqG:=ai _ (dy hi);have aqH:=ai _ (dy ao);obtain⟨r,kB,fm⟩:=ay5 aqG aqH;have Ht:o.length=l.length:=(by rw[jY,aJ];simp);have M5:i<o.length:=(by omega);have jC:o[i]=(List.range l.length).map fun(w:Nat)=>if w<j then gY (kV al l) i w else false:=by
     have:o[i]?=some ((List.range l.length).map fun(w:Nat)=>if w<j then gY (kV al l) i w else false):=(by rw[jY,oN (by rw[aJ];simpa using hi)]);rw[cr M5] at this;exact fH this
    have apk:bf l (i:Int)=some l[i]:=mK (cr hi);have M2:bf l (j:Int)=some l[j]:=mK (cr ao);simp only[U.dk,U.dm,U.uH,apk,M2,kB,fm,U.ar,U.t9,U.Ir,d7];refine⟨fun _=>⟨⟨by omega,M5⟩,M5,⟨by omega,by rw[jC];simpa using ao⟩,M5,by rw[jC];simpa using ao,hh (by omega),?_⟩,fun aH=>by simp at aH;omega⟩;rw[jC,jY,List.set_set];congr 1;apply jN;intro u;rw[xJ,gB,gB];rcases ct u l.length with h|h
    ·rw[vt h];simp only[hC,i6,zW];by_cases aR:j=u
     ·subst aR;have cK:l.getD j 0=l[j]:=(by simp[List.getD,ao]);have cG:l.getD i 0=l[i]:=(by simp[List.getD,hi]);rw[if_pos rfl,if_pos h,if_pos (by omega),Kz hi ao,cK,cG]
     ·rw[if_neg aR];by_cases R:u<j
      ·rw[if_pos R,if_pos (by omega)]
      ·rw[if_neg R,if_neg (by omega)]
    ·rw[if_neg (by omega),gW (by simpa using h)];rfl
   ·rintro⟨s',o,_⟩ jY;simp only at jY;simp only[U.dk,U.ar];refine⟨fun aH=>by simp at aH,fun _=>?_⟩;rw[jY,aJ];apply jN;intro u;rw[xJ,gB,gB];rcases ct u l.length with h|h
    ·rw[vt h];simp only[hC,i6,zW];by_cases aR:i=u
     ·subst aR;rw[if_pos rfl,if_pos h,if_pos (by omega)];congr 1;have:(kV al l).getD i []=(List.range l.length).map fun(w:Nat)=>gY (kV al l) i w:=by
       have J:(kV al l).getD i []=(List.range l.length).map fun(j:Nat)=>decide (l.getD j 0∈al.getD (l.getD i 0).toNat []):=(by simp[kV,List.getD,hi]);rw[J];refine kK fun w hw=>?_;rw[Kz hi (j9.1 hw)]
      rw[this];refine kK fun w hw=>?_;rw[if_pos (j9.1 hw)]
     ·rw[if_neg aR];by_cases R:u<i
      ·rw[if_pos R,if_pos (by omega)]
      ·rw[if_neg R,if_neg (by omega)]
    ·rw[if_neg (by omega),gW (by simpa using h)];rfl
  ·rintro⟨s,out,_⟩ aJ;simp only at aJ;simp only[U.dk,U.ar];refine⟨fun aH=>by simp at aH,fun _=>?_⟩;rw[aJ];apply jN;intro u;rw[gB];rcases ct u l.length with h|h
   ·rw[vt h];simp only[hC];rw[if_pos h,List.getD,cr (by rw[Ec];exact h)];rfl
   ·rw[gW (by simpa using h),gW (by rw[Ec];exact h)];rfl
 ·rintro⟨s,out,_⟩ aJ;simp only at aJ;subst aJ;rw[We]
  ·simp only[U.ar]
  ·intro r hr;unfold kV at hr;simp only[dz] at hr;obtain⟨i,_,rfl⟩:=hr;simp[kV]
  ·rw[Ec];omega
section
inductive jq (A:Nat->Nat->Prop) (P:Nat->Prop):Nat->Nat->Prop
 |one {i j:Nat}:A i j->jq A P i j
 |step {i m j:Nat}:A i m->P m->jq A P m j->jq A P i j
section
variable {A:Nat->Nat->Prop} {P:Nat->Prop}
theorem jq.trans {i m j:Nat} (h:jq A P i m) (ak:P m) (R:jq A P m j):jq A P i j:=by
 induction h with
 |one h=>exact .step h ak R
 |step h ae _ aZ=>exact .step h ae (aZ ak R)
theorem jq.symm (dY:∀a b,A a b->A b a) {i j:Nat} (h:jq A P i j):jq A P j i:=by
 induction h with
 |one h=>exact .one (dY _ _ h)
 |step h ae _ aZ=>exact aZ.trans ae (.one (dY _ _ h))
theorem jq.mono {P':Nat->Prop} (g8:∀x,P x->P' x) {i j:Nat} (h:jq A P i j):jq A P' i j:=by
 induction h with
 |one h=>exact .one h
 |step h R _ aZ=>exact .step h (g8 _ R) aZ
theorem jq.insert_iff {v i j:Nat}:jq A (fun x=>P x\/x=v) i j↔jq A P i j\/(jq A P i v/\jq A P v j):=by
 constructor
 ·intro h
  induction h with
  |one h=>exact .inl (.one h)
  |@step i m j h ak _ aZ=>
   rcases ak with ak|rfl
   ·rcases aZ with aZ|⟨aqQ,HJ⟩
    ·exact .inl (.step h ak aZ)
    ·exact .inr ⟨.step h ak aqQ,HJ⟩
   ·rcases aZ with aZ|⟨_,HJ⟩
    ·exact .inr ⟨.one h,aZ⟩
    ·exact .inr ⟨.one h,HJ⟩
 ·rintro(h|⟨J,R⟩)
  ·exact h.mono fun x ab=>.inl ab
  ·exact(J.mono fun x ab=>.inl ab).trans (.inr rfl) (R.mono fun x ab=>.inl ab)
theorem jq.none {i j:Nat}:jq A (fun _=>False) i j↔A i j:=by
 constructor
 ·intro h;cases h with
  |one h=>exact h
  |step _ h _=>exact h.elim
 ·exact .one
theorem afB {k i j:Nat}:fS A k i j↔jq A (fun x=>x<k) i j:=by
 constructor
 ·intro h
  induction h with
  |one h=>exact .one h
  |step h R _ aZ=>exact .step h R aZ
 ·intro h
  induction h with
  |one h=>exact .one h
  |step h R _ aZ=>exact .step h R aZ
end
end
section
theorem ayG:∀{a b:List Int},a.Pairwise (· < ·)->b.Pairwise (· < ·)->(∀x,x∈a↔x∈b)->a=b:=by
 intro a
 induction a with
 |nil=>
  intro b _ _ h;cases b with
  |nil=>rfl
  |cons y b=>exact absurd ((h y).2 (nk ..)) (by simp)
 |cons x a aZ=>
  intro b aC aa h;cases b with
  |nil=>exact absurd ((h x).1 (nk ..)) (by simp)
  |cons y b=>
   rw[sm] at aC aa;have yI:x=y:=by
    have J:=(h x).1 (nk ..);have R:=(h y).2 (nk ..);rcases d4.1 J with J|J
    ·exact J
    ·rcases d4.1 R with R|R
     ·exact R.symm
     ·have:=aa.1 _ J;have:=aC.1 _ R;omega
   subst yI;rw[aZ aC.2 aa.2];intro z;have:=h z;simp only[d4] at this;constructor
   ·intro a2;have J:=aC.1 _ a2;rcases this.1 (.inr a2) with R|R
    ·omega
    ·exact R
   ·intro a2;have J:=aa.1 _ a2;rcases this.2 (.inr a2) with R|R
    ·omega
    ·exact R
structure Fr (al:List (List Int)) (S:Nat->Prop) (T:List (List Bool)) (gone:List Bool):Prop where
 O3:T.length=al.length
 rows:∀v,(h:v<T.length)->T[v].length=al.length
 uo:gone.length=al.length
 DH:∀v,(h:v<gone.length)->(gone[v]=true↔S v)
 zw:∀u w,(aR:u<T.length)->(hw:w<T[u].length)->¬S u->¬S w->(T[u][w]=true↔u≠w/\jq (fj al) S u w)
def nQ (T:List (List Bool)) (gone:List Bool) (v k:Nat):List Int:=((List.range k).filter fun w=>gY T v w&&!gone.getD w false).map fun(w:Nat)=>(w:Int)
theorem TI {al:List (List Int)} {S:Nat->Prop} {T:List (List Bool)} {gone:List Bool} (h:Fr al S T gone) {v w:Nat} (hv:v<al.length) (bE:¬S v):(w:Int)∈nQ T gone v al.length↔w<al.length/\¬S w/\v≠w/\jq (fj al) S v w:=by
 unfold nQ;simp only[dz,iv,j9,bW,Fm];have key:∀w,w<al.length->((gY T v w=true/\gone.getD w false=false)↔¬S w/\v≠w/\jq (fj al) S v w):=by
  intro w hw;have J:v<T.length:=(by rw[h.O3];exact hv);have R:w<T[v].length:=(by rw[h.rows v J];exact hw);have ac:w<gone.length:=(by rw[h.uo];exact hw);have aL:gone.getD w false=gone[w]:=(by simp[List.getD,ac]);rw[C8 J R,aL,Bool.eq_false_iff,ne_eq,h.DH w ac];constructor
  ·rintro⟨bS,bt⟩;exact⟨bt,(h.zw v w J R bE bt).1 bS⟩
  ·rintro⟨bS,bt⟩;exact⟨(h.zw v w J R bE bS).2 bt,bS⟩
 constructor
 ·rintro⟨a,⟨J,R⟩,ac⟩;obtain rfl:a=w:=(by omega);exact⟨J,(key a J).1 R⟩
 ·exact fun⟨J,R⟩=>⟨w,⟨J,(key w J).2 R⟩,rfl⟩
theorem TX (T:List (List Bool)) (gone:List Bool) (v k:Nat):(nQ T gone v k).length<=k:=by unfold nQ;rw[i6];exact d8 (lv _ _) (by simp)
theorem TY {T:List (List Bool)} {gone:List Bool} {v k:Nat} {x:Int} (h:x∈nQ T gone v k):∃w:Nat,x=(w:Int)/\w<k:=by unfold nQ at h;simp only[dz,iv,j9] at h;obtain⟨a,⟨J,_⟩,ac⟩:=h;exact⟨a,ac.symm,J⟩
theorem Wo {n:Nat} {T:List (List Bool)} {gone:List Bool} (bm:T.length=n) (hr:∀v,(h:v<T.length)->T[v].length=n) (aG:gone.length=n) (ag:n<=4294967296) {v:Nat} (hv:v<n):GH (some (T,gone,()),(v:Int),())=some (nQ T gone v n,()):=by
 rw[<-U.eq_iff];unfold GH;have g9:gS=4294967296:=rfl;simp only[U.dm,U.ar];refine U.mono (P:=fun q=>q.1=nQ T gone v n) ?_ (by rintro⟨o,_⟩ h;simp only at h;rw[h]);refine U.for (i0:=0) n (fun k t=>t.1=nQ T gone v k) rfl rfl (eX _) ?_ ?_
 ·rintro w ⟨o,_⟩ _ hw aJ;simp only at aJ;have Ht:=TX T gone v w;simp only[bq];rw[U.dk];refine⟨fun _=>?_,fun aH=>by simp at aH;omega⟩;rw[U.dm,U.dm];have SK:v<T.length:=(by omega);have aaG:w<T[v].length:=(by rw[hr v SK];exact hw);have yv:bf T (v:Int)=some T[v]:=mK (cr SK);have iE:bf T[v] (w:Int)=some T[v][w]:=mK (cr aaG);have Sa:bf gone (w:Int)=some (gone.getD w false):=mK (by rw[cr (by omega)];simp[List.getD,show w<gone.length by omega]);refine U.mono (P:=fun q=>q=((gY T v w&&!gone.getD w false),o,())) ?_ ?_
  ·simp only[yv,iE,Sa,U.dm,U.dk,U.ar,C8 SK aaG];refine⟨fun h=>?_,fun h=>?_⟩
   ·have h:T[v][w]=true:=(by simpa using h);rw[h];rfl
   ·have h:T[v][w]=false:=(by simpa using h);rw[h];rfl
  ·rintro _ rfl;simp only[U.dk,U.dm,U.ar,U.yR];refine⟨fun h=>⟨by rw[aJ];simp;omega,hh (by omega),?_⟩,fun h=>⟨hh (by omega),?_⟩⟩
   ·unfold nQ at aJ|-;rw[re,rb,jm,<-aJ];simp only[nj,List.filter_nil];rw[if_pos h];rfl
   ·unfold nQ at aJ|-;rw[re,rb,jm,<-aJ];simp only[nj,List.filter_nil];rw[if_neg (by rw[h];simp)];simp
 ·rintro⟨o,_⟩ aJ;simp only at aJ;simp only[bq,U.dk,U.ar];exact⟨fun aH=>by simp at aH;omega,fun _=>aJ⟩
theorem akA {T:List (List Bool)} {k bD:Nat} (h:k<T.length) (R:bD<T[k].length) (u w:Nat):gY (T.set k (T[k].set bD true)) u w=(gY T u w||(u==k&&w==bD)):=by
 unfold gY;simp only[List.getD,xJ];by_cases aR:k=u
 ·subst aR;rw[if_pos rfl,if_pos h,cr h];simp only[xO,xJ];by_cases hw:bD=w
  ·subst hw;rw[if_pos rfl,if_pos R];simp
  ·rw[if_neg hw];have:(w==bD)=false:=(by rw[beq_eq_false_iff_ne];omega);simp[this]
 ·rw[if_neg aR];have:(u==k)=false:=(by rw[beq_eq_false_iff_ne];omega);simp[this]
theorem acd (T:List (List Bool)) (gone:List Bool) (v k:Nat):(nQ T gone v k).Pairwise (· < ·):=OX _ _
theorem af2 {n:Nat} {T:List (List Bool)} {gone:List Bool} (bm:T.length=n) (hr:∀v,(h:v<T.length)->T[v].length=n) (aG:gone.length=n) (ag:n<=4294967296) {v:Nat} (hv:v<n):U (GG ((T,gone,()),(v:Int),())) (fun r=>r.1.2.1=gone.set v true/\r.1.1.length=n/\(∀v,(h:v<r.1.1.length)->r.1.1[v].length=n)/\∀u w,u<n->w<n->(gY r.1.1 u w=true↔gY T u w=true\/((u:Int)∈nQ T gone v n/\(w:Int)∈nQ T gone v n/\u≠w))):=by
 unfold GG;simp only[Wo bm hr aG ag hv,bq];have Zq:=TX T gone v n;have RL:∀x∈nQ T gone v n,∃w:Nat,x=(w:Int)/\w<n:=fun x ab=>TY ab;have RM:=acd T gone v n;generalize nQ T gone v n=L at Zq RL RM;have azy:∀k c0:Nat,(h:k<L.length)->(a7:c0<L.length)->L[k]=L[c0]->k=c0:=fun k c0 h a7 e=>by
  rcases rf k c0 with g|g|g
  ·have:=(i7.1 RM) k c0 h a7 g;omega
  ·exact g
  ·have:=(i7.1 RM) c0 k a7 h g;omega
 simp only[U.dm];refine U.mono (P:=fun q:aB8×Unit=>q.1.2.1=gone/\q.1.1.length=n/\(∀v,(h:v<q.1.1.length)->q.1.1[v].length=n)/\∀u w,u<n->w<n->(gY q.1.1 u w=true↔gY T u w=true\/((u:Int)∈L/\(w:Int)∈L/\u≠w))) ?_ ?_
 ·refine U.for (i0:=0) L.length (fun i q=>q.1.2.1=gone/\q.1.1.length=n/\(∀v,(h:v<q.1.1.length)->q.1.1[v].length=n)/\∀u w,u<n->w<n->(gY q.1.1 u w=true↔gY T u w=true\/((u:Int)∈L.take i/\(w:Int)∈L/\u≠w))) rfl ⟨rfl,bm,hr,fun u w _ _=>by simp⟩ (eX _) ?_ ?_
  ·rintro i ⟨⟨Kh,bS,_⟩,_⟩ _ hi ⟨J,R,ac,aL⟩;simp only at J R ac aL;simp only[U.dk,U.dm];refine⟨fun _=>?_,fun aH=>by simp at aH;omega⟩;refine U.mono (P:=fun q:aB8×Unit=>q.1.2.1=gone/\q.1.1.length=n/\(∀v,(h:v<q.1.1.length)->q.1.1[v].length=n)/\∀u w,u<n->w<n->(gY q.1.1 u w=true↔gY T u w=true\/((u:Int)∈L.take (i+1)/\(w:Int)∈L/\u≠w))) ?_ (by rintro⟨e,_⟩ h;simp only[U.ar];exact⟨hh (by omega),h⟩);obtain⟨a,aC,oo⟩:=RL _ (dy hi);refine U.for (i0:=0) L.length (fun j q=>q.1.2.1=gone/\q.1.1.length=n/\(∀v,(h:v<q.1.1.length)->q.1.1[v].length=n)/\∀u w,u<n->w<n->(gY q.1.1 u w=true↔gY T u w=true\/((u:Int)∈L.take i/\(w:Int)∈L/\u≠w)\/(u=a/\(w:Int)∈L.take j/\u≠w))) rfl ⟨J,R,ac,fun u w aR hw=>by rw[aL u w aR hw];simp⟩ (eX _) ?_ ?_
   ·rintro j ⟨⟨tZ,bt,_⟩,_⟩ _ ao ⟨bk,bD,cm,fx⟩;simp only at bk bD cm fx;obtain⟨b,aa,Hb⟩:=RL _ (dy ao);have an4:bf L (i:Int)=some (a:Int):=mK (by rw[cr hi,aC]);have an5:bf L (j:Int)=some (b:Int):=mK (by rw[cr ao,aa]);have DL:a<tZ.length:=(by omega);have RZ:b<tZ[a].length:=(by rw[cm a DL];exact Hb);simp only[U.dk,U.dm,an4,an5,U.ar,U.uH,U.t9,U.Ir,d7];refine⟨fun _=>⟨fun cX=>⟨⟨by omega,DL⟩,DL,⟨by omega,RZ⟩,DL,RZ,hh (by omega),bk,by simpa using bD,fun x ab=>?_,fun u w aR hw=>?_⟩,fun heq=>⟨hh (by omega),bk,bD,cm,fun u w aR hw=>?_⟩⟩,fun aH=>by simp at aH;omega⟩
    ·rw[List.getElem_set];split
     ·rw[Fz];exact cm a DL
     ·exact cm x (by simpa using ab)
    ·have cX:i≠j:=(by simp at cX;omega);have o6:a≠b:=fun e=>cX (azy i j hi ao (by rw[aC,aa,e]));rw[akA DL RZ,h9,fx u w aR hw,<-r6 ao,aa,fg,fh];simp only[bW,beq_iff_eq];constructor
     ·rintro((h|h|⟨h,a7,pR⟩)|⟨h,a7⟩)
      ·exact .inl h
      ·exact .inr (.inl h)
      ·exact .inr (.inr ⟨h,.inl a7,pR⟩)
      ·exact .inr (.inr ⟨h,.inr (by omega),by omega⟩)
     ·rintro(h|h|⟨h,a7|a7,pR⟩)
      ·exact .inl (.inl h)
      ·exact .inl (.inr (.inl h))
      ·exact .inl (.inr (.inr ⟨h,a7,pR⟩))
      ·exact .inr ⟨h,by omega⟩
    ·have dJ:i=j:=(by simp at heq;omega);have o6:a=b:=by
      subst dJ;rw[aC] at aa;omega
     rw[fx u w aR hw,<-r6 ao,aa,fg,fh];constructor
     ·rintro(h|h|⟨h,a7,pR⟩)
      ·exact .inl h
      ·exact .inr (.inl h)
      ·exact .inr (.inr ⟨h,.inl a7,pR⟩)
     ·rintro(h|h|⟨h,a7|a7,pR⟩)
      ·exact .inl h
      ·exact .inr (.inl h)
      ·exact .inr (.inr ⟨h,a7,pR⟩)
      ·omega
   ·rintro⟨⟨tZ,bt,_⟩,_⟩ ⟨bk,bD,cm,fx⟩;simp only at bk bD cm fx;simp only[U.dk,U.ar];refine⟨fun aH=>by simp at aH,fun _=>⟨bk,bD,cm,fun u w aR hw=>?_⟩⟩;rw[fx u w aR hw,vw,<-r6 hi,aC,fg,fh];constructor
    ·rintro(h|⟨h,a7,pR⟩|⟨h,a7,pR⟩)
     ·exact .inl h
     ·exact .inr ⟨.inl h,a7,pR⟩
     ·exact .inr ⟨.inr (by omega),a7,pR⟩
    ·rintro(h|⟨h|h,a7,pR⟩)
     ·exact .inl h
     ·exact .inr (.inl ⟨h,a7,pR⟩)
     ·exact .inr (.inr ⟨by omega,a7,pR⟩)
  ·rintro⟨⟨Kh,bS,_⟩,_⟩ ⟨J,R,ac,aL⟩;simp only at J R ac aL;simp only[U.dk,U.ar];refine⟨fun aH=>by simp at aH,fun _=>⟨J,R,ac,fun u w aR hw=>?_⟩⟩;rw[aL u w aR hw,vw]
 ·rintro⟨⟨Kh,bS,_⟩,_⟩ ⟨J,R,ac,aL⟩;simp only at J R ac aL;subst J;simp only[U.dm,U.uH,U.t9,U.ar,U.Ir,d7];exact⟨⟨by omega,by omega⟩,by omega,trivial,R,ac,aL⟩
theorem af1 {al:List (List Int)} (c4:gg al) (ag:al.length<=4294967296) {S:Nat->Prop} {T:List (List Bool)} {gone:List Bool} (h:Fr al S T gone) {v:Nat} (hv:v<al.length) (bE:¬S v):U (GG ((T,gone,()),(v:Int),())) (fun r=>Fr al (fun x=>S x\/x=v) r.1.1 r.1.2.1):=by
 refine(af2 h.O3 h.rows h.uo ag hv).mono ?_;rintro⟨⟨Kh,bS,_⟩,_⟩ ⟨J,R,ac,aL⟩;simp only at J R ac aL|-;subst J;have hs:=fj.symm c4;refine⟨R,ac,by rw[Fz];exact h.uo,fun x ab=>?_,fun u w aR hw Zv Zw=>?_⟩
 ·rw[List.getElem_set];by_cases iV:v=x
  ·rw[if_pos iV];simp[iV]
  ·rw[if_neg iV,h.DH];constructor
   ·exact .inl
   ·rintro(g|g)
    ·exact g
    ·exact absurd g.symm iV
 ·have pc:u<al.length:=(by omega);have s4:w<al.length:=(by rw[ac u aR] at hw;exact hw);have:=aL u w pc s4;rw[C8 aR hw] at this;have SI:u<T.length:=(by rw[h.O3];exact pc);have aaD:w<T[u].length:=(by rw[h.rows u SI];exact s4);have ack:¬S u:=fun g=>Zv (.inl g);have acm:¬S w:=fun g=>Zw (.inl g);have azJ:v≠u:=fun g=>Zv (.inr g.symm);have az1:v≠w:=fun g=>Zw (.inr g.symm);rw[this,C8 SI aaD,h.zw u w SI aaD ack acm,TI h hv bE,TI h hv bE,jq.insert_iff];constructor
  ·rintro(⟨bS,bt⟩|⟨⟨_,_,_,bt⟩,⟨_,_,_,c7⟩,g0⟩)
   ·exact⟨bS,.inl bt⟩
   ·exact⟨g0,.inr ⟨bt.symm hs,c7⟩⟩
  ·rintro⟨bS,bt|⟨bt,cY⟩⟩
   ·exact .inl ⟨bS,bt⟩
   ·exact .inr ⟨⟨pc,ack,azJ,bt.symm hs⟩,⟨s4,acm,az1,cY⟩,bS⟩
theorem afV {al:List (List Int)} (c4:gg al) (hc:∀l∈al,l.length<4611686018427387904) (ag:al.length<=200):U (L4 ((al,()),())) (fun r=>Fr al (fun _=>False) r.1.1 r.1.2.1):=by
 unfold L4;have g9:gS=4294967296:=rfl;simp only[Wx hc ag (fun v hv=>(c4.asc v hv).2),bq,U.dm,U.Eu,U.ar,d7];refine⟨⟨by omega,by omega,by omega⟩,Vu al,fun v h=>?_,by simp,fun v h=>by simp,fun u w aR hw _ _=>?_⟩
 ·simp[r5]
 ·rw[jq.none];have pc:u<al.length:=(by rw[Vu] at aR;exact aR);have s4:w<al.length:=(by simp[r5] at hw;exact hw);have e:(r5 al)[u][w]=decide ((w:Int)∈al[u]):=(by simp[r5,List.getD,pc]);rw[e,decide_eq_true_eq];constructor
  ·exact fun ak=>⟨fj.ne c4 ⟨pc,ak⟩,pc,ak⟩
  ·exact fun ak=>ak.2.2
open Classical in
theorem axu {al:List (List Int)} (c4:gg al) (hc:∀l∈al,l.length<4611686018427387904) (ag:al.length<=200):L5 ((al,()),())=some ((List.range al.length).map (ck al),0,()):=by
 rw[<-U.eq_iff];unfold L5;have g9:gS=4294967296:=rfl;have He:kc al=0:=(by unfold kc;rw[if_neg (by omega),if_pos c4]);simp only[UV al hc,He,bq,bne_self_eq_false,cond_false];simp only[U.dm];refine(afV c4 hc ag).mono ?_;rintro⟨⟨T,gone,_⟩,_⟩ g7;simp only at g7;simp only[U.dm];refine U.mono (P:=fun q=>q.1=(List.range al.length).map (ck al)) ?_ (by rintro⟨o,_⟩ h;simp only at h;simp only[U.ar,h]);refine U.for (i0:=0) al.length (fun j t=>t.2.1=(List.range j).map (ck al)/\Fr al (fun x=>x<j) t.1.1 t.1.2.1) rfl ⟨rfl,?_⟩ (eX _) ?_ ?_
 ·have:(fun x:Nat=>x<0)=fun _=>False:=(by funext x;simp);rw[this];exact g7
 ·rintro j ⟨⟨T,gone,_⟩,out,_⟩ _ ao ⟨aJ,g7⟩;simp only at aJ g7;have yy:=TX T gone j al.length;have aoU:[(j:Int)]++nQ T gone j al.length=ck al j:=by
   have kk:=fun w=>TI g7 (v:=j) (w:=w) ao (Nat.lt_irrefl j);refine ayG ?_ (KH al j) ?_
   ·rw[J9,sm];refine⟨fun x ab=>?_,acd _ _ _ _⟩;obtain⟨w,rfl,_⟩:=TY ab;have:=(kk w).1 ab;omega
   ·intro x;constructor
    ·intro ab;rw[J9,d4] at ab;rcases ab with rfl|ab
     ·exact Ev.2 ⟨ao,.inl rfl⟩
     ·obtain⟨w,rfl,_⟩:=TY ab;have:=(kk w).1 ab;exact Ev.2 ⟨this.1,.inr ⟨by omega,afB.2 this.2.2.2⟩⟩
    ·intro ab;rw[J9,d4];have ww:=ab;unfold ck nt at ab;simp only[dz] at ab;obtain⟨w,_,rfl⟩:=ab;obtain⟨J,R|⟨R,ac⟩⟩:=Ev.1 ww
     ·exact .inl (by omega)
     ·exact .inr ((kk w).2 ⟨J,by omega,by omega,afB.1 ac⟩)
  rw[U.dk];refine⟨fun _=>?_,fun aH=>by simp at aH;omega⟩;simp only[Wo g7.O3 g7.rows g7.uo (show al.length<=4294967296 by omega) ao,bq,U.dm,U.yR];refine⟨by simp;omega,by rw[aJ];simp;omega,?_⟩;refine(af1 c4 (by omega) g7 ao (Nat.lt_irrefl j)).mono ?_;rintro⟨⟨Kh,bS,_⟩,_⟩ Zm;simp only at Zm;simp only[U.ar];refine⟨hh (by omega),?_,?_⟩
  ·rw[aJ,aoU,re,jm];rfl
  ·have:(fun x:Nat=>x<j+1)=fun x=>x<j\/x=j:=(by funext x;apply propext;omega);rw[this];exact Zm
 ·rintro⟨⟨T,gone,_⟩,out,_⟩ ⟨aJ,_⟩;simp only at aJ;simp only[U.dk,U.ar];exact⟨fun aH=>by simp at aH,fun _=>aJ⟩
end
theorem KG {al:List (List Int)}:kc al=0↔al.length<=200/\gg al:=by
 unfold kc;by_cases h:200<al.length
 ·rw[if_pos h];constructor
  ·intro h;omega
  ·intro h;omega
 ·rw[if_neg h];by_cases R:gg al
  ·rw[if_pos R];exact⟨fun _=>⟨by omega,R⟩,fun _=>rfl⟩
  ·rw[if_neg R];exact⟨fun h=>by omega,fun h=>absurd h.2 R⟩
section
section
variable {P Q:Nat->Prop} {k:Nat}
end
def Ws (n:Nat) (f:Nat->Int):Prop:=∀j,j<n->f j=-1\/((j:Int)<f j/\f j<n)
section
variable {n:Nat} {f:Nat->Int} (aH:Ws n f)
include aH
end
end
section
def iJ (l:List Nat):List Int:=l.map fun(x:Nat)=>(x:Int)
theorem acb (a b:List Nat):iJ (a++b)=iJ a++iJ b:=by simp[iJ]
theorem EA (a:List Nat):(iJ a).length=a.length:=by simp[iJ]
section
variable {n:Nat} {f:Nat->Int} (aH:Ws n f) (ag:n<=200)
include aH ag
end
end
section
theorem sL {α:Type} {l:List α} {i:Nat} (h:i<l.length) (d:α):l.getD i d=l[i]:=by simp only[List.getD,cr h,xO]
section
variable {al:List (List Int)} (c4:gg al) (ag:al.length<=200)
include c4 ag
end
end
structure z5 {α:Type} (lt:α->α->Bool):Prop where
 akp:∀a b,lt a b=true->lt b a=false
 trans:∀a b c,lt b a=false->lt c b=false->lt c a=false
theorem z5.int:z5 (fun a b:Int=>decide (a<b)):=⟨fun a b h=>by simp at h|-;omega,fun a b c J R=>by simp at J R|-;omega⟩
def CN {α:Type} (lt:α->α->Bool) (g:Nat->α) (i j:Nat):Prop:=∀p q,p<q->q<=i->q≠j->lt (g q) (g p)=false
def z7 {α:Type} (lt:α->α->Bool) (g:Nat->α) (k:Nat):Prop:=∀p q,p<q->q<k->lt (g q) (g p)=false
def swp {α:Type} (g:Nat->α) (j:Nat):Nat->α:=fO (fO g j (g (j-1))) (j-1) (g j)
theorem aeV {α:Type} (g:Nat->α) {j:Nat} (k:Nat):swp g j k=if k=j-1 then g j else if k=j then g (j-1) else g k:=rfl
theorem CN.swp {α:Type} {lt:α->α->Bool} (h:z5 lt) {g:Nat->α} {i j:Nat} (cU:CN lt g i j) (ao:0<j) (o8:j<=i) (ai:lt (g j) (g (j-1))=true):CN lt (swp g j) i (j-1):=by
 intro p q jA aj cX;rw[aeV,aeV,if_neg cX];by_cases J:q=j
 ·subst J;rw[if_pos rfl];by_cases R:p=q-1
  ·rw[if_pos R];exact h.akp _ _ ai
  ·rw[if_neg R,if_neg (by omega)];exact cU p (q-1) (by omega) (by omega) (by omega)
 ·rw[if_neg J];by_cases R:p=j-1
  ·rw[if_pos R];exact cU j q (by omega) aj J
  ·rw[if_neg R];by_cases ac:p=j
   ·rw[if_pos ac];exact cU (j-1) q (by omega) aj J
   ·rw[if_neg ac];exact cU p q jA aj J
theorem CN.done {α:Type} {lt:α->α->Bool} (h:z5 lt) {g:Nat->α} {i j:Nat} (cU:CN lt g i j) (o8:j<=i) (ai:j=0\/lt (g j) (g (j-1))=false):z7 lt g (i+1):=by
 intro p q jA aj;by_cases J:q=j
 ·subst J;rcases ai with ai|ai
  ·omega
  ·by_cases R:p=q-1
   ·subst R;exact ai
   ·exact h.trans _ _ _ (cU p (q-1) (by omega) (by omega) (by omega)) ai
 ·exact cU p q jA (by omega) J
theorem ay1 {α:Type} {n:Nat} {g:Nat->α} {j:Nat} (ao:0<j) (ag:j<n):(bz n (swp g j)).Perm (bz n g):=by have J:j<(bz n g).length:=(by rw[dP];exact ag);have R:j-1<(bz n g).length:=(by rw[dP];omega);have:=List.set_set_perm J R;rw[l9,l9,kv,kv] at this;exact this
theorem YK {α:Type} [Inhabited α] (l:List α):l=bz l.length (fun i=>l[i]?.getD default):=ant l _ (fun i hi=>by simp[hi])
theorem aqU (l:List Int) (ai:l.length<=1000):U (Lx (l,0,(l.length:Int),())) (fun r=>∃g,r.1=bz l.length g/\z7 (fun a b=>decide (a<b)) g l.length/\r.1.Perm l):=by
 unfold Lx;simp only[];generalize ag:l.length=n at*;have aV:IntKind.i64.wrap (0+1)=((1:Nat):Int):=(by rw[wrap64]<;>omega);rw[aV];rcases nl n with a2|mS
 ·subst a2;refine U.bJ (P:=fun r=>r.1=l) ?_ ?_
  ·refine U.loop (fun s=>s=(((1:Nat):Int),l,())) (fun _=>0) rfl ?_;rintro _ rfl;simp only[cC];rw[if_neg (by omega)];exact U.ar.2 rfl
  ·rintro⟨r,_⟩ rfl;refine U.ar.2 ⟨fun _=>0,?_,fun p q J R=>by omega,List.Perm.refl _⟩;show r=[];exact qi ag
 refine U.bJ (P:=fun r=>∃g,r.1=bz n g/\z7 (fun a b=>decide (a<b)) g n/\r.1.Perm l) ?_ (fun r hr=>U.ar.2 hr);refine U.for n (fun i t=>∃g,t=(bz n g,())/\z7 (fun a b=>decide (a<b)) g i/\(bz n g).Perm l) rfl ⟨fun i=>l[i]?.getD default,?_,fun p q J R=>by omega,?_⟩ mS ?_ ?_
 ·rw[<-ag,<-YK]
 ·rw[<-ag,<-YK]
 ·rintro i _ J R ⟨g,rfl,bE,g8⟩;simp only[cC];rw[if_pos (by omega)];refine U.bJ (P:=fun r=>∃g,r=(bz n g,())/\z7 (fun a b=>decide (a<b)) g (i+1)/\(bz n g).Perm l) ?_ ?_
  ·refine U.loop (fun s=>∃(j:Nat) (g:Nat->Int),s=((j:Int),bz n g,())/\j<=i/\CN (fun a b=>decide (a<b)) g i j/\(bz n g).Perm l) (fun s=>s.1.toNat) ⟨i,g,rfl,bU _,fun p q jA aj cX=>bE p q jA (by omega),g8⟩ ?_;rintro _ ⟨j,g,rfl,ao,cU,g8⟩;simp only[X5];by_cases M6:0<j
   ·have aBq:j-1<n:=(by omega);have M7:j<n:=(by omega);simp(disch:=omega) only[if_pos,dP,afF,hb,iz,bq,Wn,cC];by_cases ca:g j<g (j-1)
    ·rw[if_pos ca];simp(disch:=omega) only[bq,dP,afF,hb,iz,kv];refine U.ar.2 ⟨⟨j-1,swp g j,rfl,by omega,cU.swp z5.int M6 ao (by simpa using ca),(ay1 M6 M7).trans g8⟩,?_⟩;show((j-1:Nat):Int).toNat<((j:Nat):Int).toNat;omega
    ·rw[if_neg ca];exact U.ar.2 ⟨g,rfl,cU.done z5.int ao (.inr (by simpa using ca)),g8⟩
   ·rw[if_neg (by omega)];exact U.ar.2 ⟨g,rfl,cU.done z5.int ao (.inl (by omega)),g8⟩
  ·rintro _ ⟨g,rfl,bE,g8⟩;simp(disch:=omega) only[zC];exact U.ar.2 ⟨rfl,g,rfl,bE,g8⟩
 ·rintro _ ⟨g,rfl,bE,g8⟩;simp only[cC];rw[if_neg (by omega)];exact U.ar.2 ⟨g,rfl,bE,g8⟩
theorem z7.pairwise {g:Nat->Int} {n:Nat} (h:z7 (fun a b=>decide (a<b)) g n):(bz n g).Pairwise (· <= ·):=by rw[i7];intro i j hi ao dJ;rw[l9,l9];have:=h i j dJ (by simpa[dP] using ao);simpa using this
theorem ajE (n:Nat) (ag:n<=12):∃b,Qt ((n:Int),())=some (b,()):=by
 have:n=0\/n=1\/n=2\/n=3\/n=4\/n=5\/n=6\/n=7\/n=8\/n=9\/n=10\/n=11\/n=12:=(by omega);rcases this with rfl|rfl|rfl|rfl|rfl|rfl|rfl|rfl|rfl|rfl|rfl|rfl|rfl
 ·exact⟨0,by kernel_rfl⟩
 ·exact⟨1,by kernel_rfl⟩
 ·exact⟨2,by kernel_rfl⟩
 ·exact⟨2,by kernel_rfl⟩
 ·exact⟨3,by kernel_rfl⟩
 ·exact⟨3,by kernel_rfl⟩
 ·exact⟨3,by kernel_rfl⟩
 ·exact⟨3,by kernel_rfl⟩
 ·exact⟨4,by kernel_rfl⟩
 ·exact⟨4,by kernel_rfl⟩
 ·exact⟨4,by kernel_rfl⟩
 ·exact⟨4,by kernel_rfl⟩
 ·exact⟨4,by kernel_rfl⟩
theorem awd (l:List Int) (b:Int) (ai:l.length<=12):U (Lz (l,0,(l.length:Int),b,())) (fun r=>r.1.Pairwise (· <= ·)/\r.1.Perm l):=by obtain⟨r,hr,g,aG,bE,g8⟩:=aqU l (by omega);refine⟨r,?_,by rw[aG];exact bE.pairwise,g8⟩;unfold Lz;dsimp only;rw[arU];dsimp only;have hw:IntKind.i64.wrap ((l.length:Int)-0)=((l.length:Nat):Int):=(by rw[Int.sub_zero];exact azZ (by omega));simp only[hw,cC];rw[if_pos (by omega),hr];rfl
theorem ajQ (l:List Int) (ai:l.length<=12):U (Gd (l,())) (fun r=>r.1.Pairwise (· <= ·)/\r.1.Perm l):=by unfold Gd;simp only[];rw[afE _ (by omega) (by omega)];obtain⟨b,aa⟩:=ajE l.length ai;rw[aa];simp only[bq];exact U.bJ (awd l b ai) (fun r hr=>U.ar.2 hr)
section
open Go
theorem alA {aW:List Int} (hs:aW.Pairwise (· <= ·)):(Lib.compact aW).length<aW.length↔¬aW.Nodup:=by
 have d2:(Lib.compact aW).length=((List.range aW.length).filter (Lib.keeps aW.toArray)).length:=(by simp[Lib.compact,Lib.compactUpTo]);have aoI:(∀j,j<aW.length->Lib.keeps aW.toArray j=true)↔aW.Nodup:=by
  have ae:∀j,(h:j<aW.length)->(Lib.keeps aW.toArray j=true↔j=0\/aW[j]≠aW[j-1]):=fun j h=>(by have R:j-1<aW.length:=(by omega);simp[Lib.keeps,h,R]);constructor
  ·intro h;have ca:aW.Pairwise (· < ·):=by
    rw[Ux];intro k gI;have J:=(ae (k+1) gI).1 (h _ gI);have R:=i7.1 hs k (k+1) (by omega) gI (by omega);have ac:aW[k+1]≠aW[k]:=by rcases J with J|J;omega;exact J
    omega
   exact ca.imp (fun h=>by omega)
  ·intro h j ao;rw[ae j ao];by_cases aV:j=0
   ·exact .inl aV
   ·refine .inr fun e=>?_;have:=(List.getElem_inj h).1 e;omega
 rw[<-aoI,d2];have fb:=lv (Lib.keeps aW.toArray) (List.range aW.length);rw[zW] at fb;constructor
 ·intro h R;rw[rc.2 (fun j ao=>R j (j9.1 ao)),zW] at h;omega
 ·intro h;rcases ct ((List.range aW.length).filter (Lib.keeps aW.toArray)).length aW.length with J|J
  ·exact J
  ·refine absurd (fun j ao=>?_) h;have e:((List.range aW.length).filter (Lib.keeps aW.toArray)).length=(List.range aW.length).length:=(by rw[zW];omega);exact List.length_filter_eq_length_iff.1 e j (j9.2 ao)
theorem azm (l:List Int) (ai:l.length<=12):Lb (l,())=some (decide (¬l.Nodup),()):=by obtain⟨r,hr,hs,aw⟩:=ajQ l ai;have d2:=aw.length_eq;unfold Lb Jy;simp only[hr,hC,bq];rw[show Nat.ble l.length 1000000=true from Nat.ble_eq_true_of_le (by omega)];simp only[cond_true];rw[show Nat.ble r.1.length 1000000=true from Nat.ble_eq_true_of_le (by omega)];simp only[cond_true,hC];have e:decide ((Lib.compact r.1).length<l.length)=decide (¬l.Nodup):=(by rw[decide_eq_decide,<-d2,alA hs,aw.nodup_iff]);rw[e]
def iI (n:Nat) (B:Nat->Nat->Bool):List (List Bool):=bz n fun v=>bz n (B v)
theorem In (n:Nat) (B:Nat->Nat->Bool):(iI n B).length=n:=dP n _
theorem Et {n:Nat} {B B':Nat->Nat->Bool} (h:∀v w,v<n->w<n->B v w=B' v w):iI n B=iI n B':=fl fun v hv=>fl fun w hw=>h v w hv hw
theorem Wp (n:Nat) (ag:n<=4294967296):F3 ((n:Int),())=some (iI n fun _ _=>false,()):=by
 unfold F3;simp only[];rw[jZ ag];simp only[bq];refine aI (y:=(iI n fun _ _=>false,())) (Ih n (fun i=>(bz n (fun v=>if v<i then List.replicate n false else[]),())) 0 rfl ?_ (eX _) ?_ ?_) rfl
 ·rw[og];simp
 ·intro i _ hi;simp(disch:=omega) only[dP,vv,cC,if_pos,bq,hb,iz,kv,zC];congr 4;refine fl fun v hv=>?_;simp only[fO];by_cases h:v=i
  ·subst h;rw[if_pos rfl,if_pos (by omega)]
  ·rw[if_neg h];by_cases R:v<i
   ·rw[if_pos R,if_pos (by omega)]
   ·rw[if_neg R,if_neg (by omega)]
 ·simp only[vv,cC];rw[if_neg (by omega)];congr 2;refine congrArg (·,()) (fl fun v hv=>?_);rw[if_pos hv,og]
theorem Wj {n:Nat} {B:Nat->Nat->Bool} {i j:Nat} (hi:i<n) (ao:j<n):F6 (iI n B,(i:Int),(j:Int),())=some (iI n (fun a b=>B a b||(decide (i≠j)&&((decide (a=i)&&decide (b=j))||(decide (a=j)&&decide (b=i))))),()):=by
 unfold F6;simp only[ee];by_cases h:i=j
 ·subst h;simp only[decide_true,mw,cond_false];congr 2;exact Et fun a b _ _=>by simp
 ·rw[a1 (show¬((i:Int)=(j:Int)) by omega)];unfold iI;simp(disch:=omega) only[oH,cond_true,dP,hb,bq,iz,hC,kv];rw[show fO (fun v=>bz n (B v)) i (bz n (fO (B i) j true)) j=bz n (B j) from nY _ _ (fun e=>h e.symm)];simp(disch:=omega) only[dP,hb,bq,iz,hC,kv];congr 2;refine fl fun a aC=>?_;simp only[fO];by_cases J:a=j
  ·rw[if_pos J,J];refine fl fun b aa=>?_;simp only[fO];have a7:¬j=i:=fun e=>h e.symm;by_cases R:b=i
   ·simp[R,a7,h]
   ·simp[R,a7,h]
  ·rw[if_neg J];by_cases ac:a=i
   ·subst ac;rw[if_pos rfl];refine fl fun b aa=>?_;simp only[fO];by_cases R:b=j
    ·simp[R,h]
    ·simp[R,J]
   ·rw[if_neg ac];refine fl fun b aa=>?_;simp[J,ac]
theorem ajF {n:Nat} (ag:n<=4294967296) {B:Nat->Nat->Bool} {v:Nat} (hv:v<n):K8 (iI n B,(v:Int),())=some (iJ ((List.range n).filter (B v)),()):=by
 unfold K8;simp only[];rw[show bf (iI n B) (v:Int)=some (bz n (B v)) from Y9 hv];simp only[bq];refine aI (y:=(iJ ((List.range n).filter (B v)),())) (Ih n (fun i=>(iJ ((List.range i).filter (B v)),())) 0 rfl rfl (eX _) ?_ ?_) rfl
 ·intro i _ hi;have d2:(iJ ((List.range i).filter (B v))).length<=i:=(by rw[EA];have:=lv (B v) (List.range i);simpa using this);have hs:iJ ((List.range (i+1)).filter (B v))=if B v i=true then iJ ((List.range i).filter (B v))++[(i:Int)] else iJ ((List.range i).filter (B v)):=by
   rw[re,rb,acb];by_cases h:B v i=true<;>simp[h,iJ]
  simp(disch:=omega) only[dP,cC,if_pos,Y9,bq,zC];rw[hs];by_cases h:B v i=true
  ·rw[if_pos h,h,fo (by simp only[List.length_singleton];omega)];rfl
  ·rw[if_neg h,Bool.eq_false_iff.2 h];rfl
 ·simp only[dP,cC];rw[if_neg (by omega)]
def lF (n:Nat) (B:Nat->Nat->Bool):List (List Int):=bz n fun v=>iJ ((List.range n).filter (B v))
theorem Wg {n:Nat} (ag:n<=4294967296) {B:Nat->Nat->Bool}:F5 (iI n B,())=some ((lF n B,()),()):=by
 unfold F5;simp only[In];rw[jZ ag];simp only[bq];refine aI (y:=(([],()),(lF n B,()),())) (Ih n (fun i=>(([],()),(bz n (fun v=>if v<i then iJ ((List.range n).filter (B v)) else[]),()),())) 0 rfl ?_ (eX _) ?_ ?_) rfl
 ·rw[og];simp
 ·intro i _ hi;simp(disch:=omega) only[cC,if_pos,ajF,bq,dP,hb,iz,hC,kv,zC];congr 6;refine fl fun v hv=>?_;simp only[fO];by_cases h:v=i
  ·subst h;rw[if_pos rfl,if_pos (by omega)]
  ·rw[if_neg h];by_cases R:v<i
   ·rw[if_pos R,if_pos (by omega)]
   ·rw[if_neg R,if_neg (by omega)]
 ·simp only[cC];rw[if_neg (by omega)];have:(bz n fun v=>if v<n then iJ ((List.range n).filter (B v)) else[])=lF n B:=fl fun v hv=>(by rw[if_pos hv]);rw[this]
end
section
open Go
def fr (l:List Int) (n:Nat):Prop:=l.length=n/\(∀x∈l,0<=x/\x<(n:Int))/\l.Nodup
open Classical in
theorem ajK (l:List Int) (n:Nat) (ag:n<=4294967296):LF (l,(n:Int),())=some (decide (fr l n),()):=by
 unfold LF;simp only[ee];by_cases ai:l.length=n
 ·rw[a8 (show(((l.length:Nat):Int)=(n:Int)) by omega)];simp only[mw,cond_false,jZ ag,bq,og];rw[<-U.eq_iff];refine U.bJ (P:=fun q=>match q with|.inl _=>fr l n|.inr r=>r=(false,())/\¬fr l n) ?_ ?_
  ·refine U.for n (fun i t=>t=(bz n (fun v=>decide ((v:Int)∈l.take i)),())/\(∀k,(h:k<l.length)->k<i->0<=l[k]/\l[k]<(n:Int))/\(l.take i).Nodup) (i0:=0) rfl ⟨by simp,fun k _ h=>by omega,by simp⟩ (eX _) ?_ ?_
   ·rintro i _ _ hi ⟨rfl,hr,aP⟩;have kT:i<l.length:=(by omega);have aG:bf l (i:Int)=some l[i]:=mK (cr kT);have kk:l[i]∈l:=dy kT;simp(disch:=omega) only[cC,if_pos,aG,bq,X6];by_cases da:l[i]<0
    ·rw[if_pos da];exact U.ar.2 ⟨rfl,fun h=>by have:=h.2.1 _ kk;omega⟩
    rw[if_neg da];by_cases cw:l[i]>=(n:Int)
    ·rw[if_pos cw];exact U.ar.2 ⟨rfl,fun h=>by have:=h.2.1 _ kk;omega⟩
    rw[if_neg cw];obtain⟨x,ab⟩:∃x:Nat,l[i]=(x:Int):=⟨l[i].toNat,by omega⟩;have HD:x<n:=(by omega);rw[ab];simp(disch:=omega) only[dP,hb,bq,iz,cC];by_cases ju:(x:Int)∈l.take i
    ·rw[if_pos ju];refine U.ar.2 ⟨rfl,fun h=>?_⟩;obtain⟨m,sW,mQ⟩:=jO.1 ju;simp only[eW] at sW;simp only[Fy] at mQ;have:=(List.getElem_inj h.2.2).1 (mQ.trans ab.symm);omega
    rw[if_neg ju];simp(disch:=omega) only[bq,aG,ab,dP,hb,iz,kv,zC];have ah:l.take (i+1)=l.take i++[(x:Int)]:=(by rw[<-r6 kT,ab]);refine U.ar.2 ⟨rfl,?_,fun k ae pV=>?_,?_⟩
    ·show((_,()):_×Unit)=_;refine congrArg (·,()) (fl fun v _=>?_);simp only[fO];rw[ah];by_cases h:v=x
     ·subst h;rw[if_pos rfl,a8 (pI _ (List.mem_singleton_self _))]
     ·rw[if_neg h,decide_eq_decide,fg,fh];exact⟨.inl,fun a7=>a7.resolve_right (by omega)⟩
    ·by_cases h:k=i
     ·subst h;omega
     ·exact hr k ae (by omega)
    ·rw[ah,kL];refine⟨aP,by simp,fun a aC b aa e=>?_⟩;rw[fh] at aa;rw[e,aa] at aC;exact ju aC
   ·rintro _ ⟨rfl,hr,aP⟩;simp(disch:=omega) only[cC,if_neg];refine U.ar.2 ⟨ai,fun y aB=>?_,?_⟩
    ·obtain⟨m,ak,rfl⟩:=jO.1 aB;exact hr m ak (by omega)
    ·rw[dW (by omega)] at aP;exact aP
  ·rintro(q|q) aj
   ·exact U.ar.2 (by rw[a8 (show fr l n from aj)])
   ·exact U.ar.2 (by rw[aj.1,a1 aj.2])
 ·rw[a1 (show¬(((l.length:Nat):Int)=(n:Int)) by omega)];simp only[oH,cond_true];rw[a1 (fun h=>ai h.1)]
def rX (al:List (List Int)) (o:List Int):Int:=open Classical in if kc al≠0 then kc al else if o.length≠al.length then 2 else if fr o al.length then 0 else 90
theorem axv {al:List (List Int)} (hc:∀l∈al,l.length<4611686018427387904) (o:List Int):GC ((al,()),o,())=some (if rX al o=0 then((kQ (kV al o),()),0,()) else(([],()),rX al o,())):=by
 classical
 unfold GC rX;simp only[UV al hc,bq,ee];by_cases aV:kc al=0
 ·obtain⟨ag,c4⟩:=KG.1 aV;rw[a8 aV];simp only[mw,cond_false,aV,ne_eq,not_true_eq_false,if_false];by_cases ai:o.length=al.length
  ·rw[a8 (show(((o.length:Nat):Int)=((al.length:Nat):Int)) by omega)];simp only[mw,cond_false,ai,not_true_eq_false,if_false];rw[ajK o al.length (by omega)];simp only[bq];by_cases aw:fr o al.length
   ·rw[a8 aw];simp only[mw,cond_false,if_pos aw,if_true];rw[ajC c4 hc ag aw.2.1 aw.2.2 (by omega)];rfl
   ·rw[a1 aw];simp only[oH,cond_true,if_neg aw];rw[if_neg (by omega)]
  ·rw[a1 (show¬(((o.length:Nat):Int)=((al.length:Nat):Int)) by omega)];simp only[oH,cond_true,ai,not_false_eq_true,if_true];rw[if_neg (by omega)]
 ·rw[a1 aV];simp only[oH,cond_true,aV,ne_eq,not_false_eq_true,if_true,if_false]
theorem azR (al:List (List Int)) (v:Int):Lc ((al,()),v,())=some (decide (0<=v/\v<(al.length:Int)),()):=by
 unfold Lc;simp only[X5];by_cases h:v>=0
 ·rw[if_pos h];congr 2;exact decide_eq_decide.2 ⟨fun R=>⟨h,R⟩,fun R=>R.2⟩
 ·rw[if_neg h,a1 (fun R=>h R.1)]
theorem av4 (al:List (List Int)) (o:List Int) (aJ:o.length<4611686018427387904):Lv (o,(some (al,()),()),())=some (decide (¬∀x∈o,0<=x/\x<(al.length:Int)),()):=by
 classical
 unfold Lv Qx;simp only[];rw[<-U.eq_iff];have gn:(∀x∈o,0<=x/\x<(al.length:Int))↔∀i,i<o.length->∀h:i<o.length,0<=o[i]/\o[i]<(al.length:Int):=
  ⟨fun h i _ hi=>h _ (dy hi),fun h x ab=>by obtain⟨i,hi,rfl⟩:=jO.1 ab;exact h i hi hi⟩
 refine U.bJ (P:=fun r=>decide (r.1>=0)=decide (¬∀x∈o,0<=x/\x<(al.length:Int))) ?_ (fun r hr=>U.ar.2 (by rw[hr]));refine U.bJ (arT o.length (fun i=>∀h:i<o.length,0<=o[i]/\o[i]<(al.length:Int)) ?_ ?_) ?_
 ·intro i hi;simp(disch:=omega) only[cC,if_pos,mK (cr hi),bq,zC];unfold Qr;simp only[bq,azR];by_cases h:0<=o[i]/\o[i]<(al.length:Int)
  ·rw[a8 h,if_pos (fun _=>h)];rfl
  ·rw[a1 h,if_neg (fun R=>h (R hi))];rfl
 ·simp(disch:=omega) only[cC,if_neg]
 ·rintro(q|q) aj
  ·refine U.ar.2 ?_;rw[a1 (by decide),a1 (fun h=>h (gn.2 aj))]
  ·refine U.ar.2 ?_;rw[a8 (show q.1>=0 from aj.1),a8 (show¬∀x∈o,0<=x/\x<(al.length:Int) from fun h=>aj.2 (gn.1 h))]
theorem ajL {al:List (List Int)} (hc:∀l∈al,l.length<4611686018427387904) (o:List Int) (aJ:al.length<=200->gg al->al.length<=12) (Hr:o.length<4611686018427387904):K7 ((al,()),o,())=some (rX al o,()):=by
 classical
 unfold K7 rX;simp only[Wa al hc,bq,ee];by_cases aV:kc al=0
 ·obtain⟨ag,c4⟩:=KG.1 aV;have aA7:=aJ ag c4;rw[a8 aV];simp only[mw,cond_false,aV,ne_eq,not_true_eq_false,if_false];by_cases ai:o.length=al.length
  ·rw[a8 (show(((o.length:Nat):Int)=((al.length:Nat):Int)) by omega)];simp only[mw,cond_false,ai,not_true_eq_false,if_false];rw[av4 al o Hr];simp only[bq];by_cases J:∀x∈o,0<=x/\x<(al.length:Int)
   ·rw[a1 (not_not_intro J)];simp only[beq_self_eq_true,cond_true];rw[azm o (by omega)];simp only[bq,cC];by_cases R:o.Nodup
    ·rw[if_neg (not_not_intro R),if_pos ⟨ai,J,R⟩]
    ·rw[if_pos R,if_neg (fun h=>R h.2.2)]
   ·rw[a8 J,if_neg (fun h=>J h.2.1)];rfl
  ·rw[a1 (show¬(((o.length:Nat):Int)=((al.length:Nat):Int)) by omega)];simp only[oH,cond_true,ai,not_false_eq_true,if_true]
 ·rw[a1 aV];simp only[oH,cond_true,aV,ne_eq,not_false_eq_true,if_true]
end
section
open Go
def uI (al:List (List Int)) (l:List Int) (a b:Nat):Bool:=decide (l.getD b 0∈al.getD (l.getD a 0).toNat [])
theorem aaV {al:List (List Int)} (c4:gg al) {l:List Int} (ai:∀x∈l,0<=x/\x<(al.length:Int)) {a b:Nat} (aC:a<l.length) (aa:b<l.length):uI al l a b=uI al l b a:=by have J:=ai _ (dy aC);have R:=ai _ (dy aa);have one:∀x y:Int,0<=x/\x<(al.length:Int)->0<=y/\y<(al.length:Int)->y∈al.getD x.toNat []->x∈al.getD y.toNat []:=fun x y ab aB h=>(by obtain⟨u,rfl⟩:∃u:Nat,x=(u:Int):=⟨x.toNat,by omega⟩;obtain⟨v,rfl⟩:∃v:Nat,y=(v:Int):=⟨y.toNat,by omega⟩;simp only[d7] at h|-;have aR:u<al.length:=(by omega);have hv:v<al.length:=(by omega);rw[sL aR] at h;obtain⟨_,ac⟩:=fj.symm c4 u v ⟨aR,h⟩;rw[sL hv];exact ac);unfold uI;rw[sL aC,sL aa];exact decide_eq_decide.2 ⟨one _ _ J R,one _ _ R J⟩
theorem anW {al:List (List Int)} (c4:gg al) {l:List Int} (ai:∀x∈l,0<=x/\x<(al.length:Int)):lF l.length (fun a b=>decide (a≠b)&&uI al l a b)=kQ (kV al l):=by unfold lF kQ;rw[Ec];refine kK fun v hv=>?_;have hv:=j9.1 hv;unfold iJ pj;refine congrArg _ (Fw fun w hw=>?_);have hw:=j9.1 hw;rw[Kz hv hw,Kz hw hv];have:=aaV c4 ai hv hw;unfold uI at this|-;rw[<-this,Bool.or_self];by_cases h:v=w<;>simp[h]
theorem aqR {al:List (List Int)} (c4:gg al) (hc:∀l∈al,l.length<4611686018427387904) {l:List Int} (ai:∀x∈l,0<=x/\x<(al.length:Int)) (yy:l.length<=400):La ((al,()),l,())=some ((kQ (kV al l),()),()):=by
 generalize ag:l.length=n at*
 let B:Nat->Nat->Nat->Nat->Bool:=fun i j a b=>decide (a≠b)&&(uI al l a b&&((decide (a<i)&&decide (b<i))||((decide (a=i)&&decide (b<j))||(decide (b=i)&&decide (a<j)))))
 unfold La;simp only[ag];rw[Wp n (by omega)];simp only[bq];refine aI (y:=(([],()),iI n (B n 0),())) (Ih n (fun i=>(([],()),iI n (B i 0),())) 0 rfl ?_ (eX _) ?_ ?_) ?_
 ·refine congrArg (fun t=>(([],()),t,())) (Et fun a b _ _=>?_);simp[B]
 ·intro i _ hi;have kT:i<l.length:=(by omega);have aG:bf l (i:Int)=some l[i]:=mK (cr kT);have J:=ai _ (dy kT);obtain⟨v,hv⟩:∃v:Nat,l[i]=(v:Int):=⟨l[i].toNat,by omega⟩;have mU:v<al.length:=(by omega);simp(disch:=omega) only[cC,if_pos,aG,bq,EB,ag,Ie,hC,hv,qh];have d2:(l.take i).length=i:=(by rw[eW];omega);refine aI (y:=(([],()),iI n (B i i),())) (Ih i (fun j=>(([],()),iI n (B i j),())) 0 rfl rfl (eX _) ?_ ?_) ?_
  ·intro j _ ao;have lH:j<l.length:=(by omega);have iE:bf (l.take i) (j:Int)=some l[j]:=mK (by rw[pH ao];exact cr lH);simp(disch:=omega) only[d2,cC,if_pos,iE,bq,zC];rw[S6 al v l[j] mU (hc _ (dy mU)) ((PG al).1 c4 v mU).1];simp only[bq,cC];have G9:uI al l i j=decide (l[j]∈al[v]):=by
    unfold uI;rw[sL kT,sL lH,hv,d7,sL mU]
   have MP:uI al l j i=decide (l[j]∈al[v]):=(by rw[<-G9];exact aaV c4 (by simpa[ag] using ai) lH kT);by_cases h:l[j]∈al[v]
   ·rw[if_pos h,Wj hi (by omega)];simp only[bq];refine congrArg (fun t=>some (Sum.inl (((j+1:Nat):Int),([],()),t,()))) (Et fun a b _ _=>?_);rw[a8 h] at G9 MP;simp only[B];rw[q8];simp only[h9,bW,decide_eq_true_eq];constructor
    ·rintro(⟨J,R,ac⟩|⟨J,⟨rfl,rfl⟩|⟨rfl,rfl⟩⟩)
     ·exact⟨J,R,by omega⟩
     ·exact⟨by omega,G9,by omega⟩
     ·exact⟨by omega,MP,by omega⟩
    ·rintro⟨J,R,ac⟩;by_cases c:(a=i/\b=j)\/(a=j/\b=i)
     ·exact .inr ⟨by omega,c⟩
     ·exact .inl ⟨J,R,by omega⟩
   ·rw[if_neg h];simp only[bq];refine congrArg (fun t=>some (Sum.inl (((j+1:Nat):Int),([],()),t,()))) (Et fun a b _ _=>?_);rw[a1 h] at G9 MP;simp only[B];rw[q8];simp only[h9,bW,decide_eq_true_eq];constructor
    ·rintro⟨J,R,ac⟩;exact⟨J,R,by omega⟩
    ·rintro⟨J,R,ac⟩;refine⟨J,R,?_⟩;by_cases da:a=i/\b=j
     ·rw[da.1,da.2,G9] at R;cases R
     ·by_cases cw:a=j/\b=i
      ·rw[cw.1,cw.2,MP] at R;cases R
      ·omega
  ·simp(disch:=omega) only[d2,cC,if_neg]
  ·simp(disch:=omega) only[zC];refine congrArg (fun t=>some (Sum.inl (((i+1:Nat):Int),([],()),t,()))) (Et fun a b _ _=>?_);simp only[B];rw[q8];simp only[h9,bW,decide_eq_true_eq];constructor
   ·rintro⟨J,R,ac⟩;exact⟨J,R,by omega⟩
   ·rintro⟨J,R,ac⟩;exact⟨J,R,by omega⟩
 ·simp(disch:=omega) only[cC,if_neg]
 ·rw[Wg (by omega)];simp only[bq];have e:lF n (B n 0)=lF n (fun a b=>decide (a≠b)&&uI al l a b):=by
   refine fl fun v hv=>congrArg iJ (Fw fun w hw=>?_);have hw:=j9.1 hw;simp[B,hv,hw]
  rw[e,<-ag,anW c4 (by simpa[ag] using ai)]
theorem ajN {al:List (List Int)} (hc:∀l∈al,l.length<4611686018427387904) (o:List Int) (aJ:al.length<=200->gg al->al.length<=12) (Hr:o.length<4611686018427387904):F4 ((al,()),o,())=some (if rX al o=0 then((kQ (kV al o),()),0,()) else(([],()),rX al o,())):=by
 classical
 unfold F4;simp only[ajL hc o aJ Hr,bq,ee];by_cases h:rX al o=0
 ·rw[a8 h,if_pos h];simp only[mw,cond_false];have aV:kc al=0:=by
   by_cases a2:kc al=0
   ·exact a2
   ·unfold rX at h;rw[if_pos a2] at h;exact absurd h a2
  obtain⟨ag,c4⟩:=KG.1 aV;have aw:fr o al.length:=by
   unfold rX at h;rw[if_neg (not_not_intro aV)] at h;by_cases ai:o.length=al.length
   ·rw[if_neg (not_not_intro ai)] at h;by_cases aw:fr o al.length
    ·exact aw
    ·rw[if_neg aw] at h;omega
   ·rw[if_pos ai] at h;omega
  rw[aqR c4 hc aw.2.1 (by have:=aw.1;omega)];rfl
 ·rw[a1 h,if_neg h];rfl
end
def lK (E:List cD) (a b:Nat):Bool:=E.any fun x=>decide (x.1≠x.2.1)&&((decide ((a:Int)=x.1)&&decide ((b:Int)=x.2.1))||(decide ((a:Int)=x.2.1)&&decide ((b:Int)=x.1)))
def nX (E:List cD) (a b:Nat):Bool:=E.any fun x=>decide ((a:Int)=x.1)&&decide ((b:Int)=x.2.1)
theorem PS {α:Type} {p:α->Bool} {E:List α} {i:Nat} (h:i<E.length):(E.take (i+1)).any p=((E.take i).any p||p E[i]):=by rw[lY,cr h,List.any_append];simp
theorem asf (n:Nat) (B:Nat->Nat->Bool) (h:∀v w,B v w=false):(List.replicate n (List.replicate n false))=iI n B:=by unfold iI;rw[og];refine fl fun v _=>?_;rw[og];exact fl fun w _=>(h v w).symm
theorem Xt {n:Nat} {B:Nat->Nat->Bool} {v w:Nat} (hv:v<n) (hw:w<n):gY (iI n B) v w=B v w:=by unfold gY iI;rw[lW,lW,DA hv];show(bz n (B v))[w]?.getD false=_;rw[DA hw];rfl
theorem Y1 (n:Nat) (B:Nat->Nat->Bool):kQ (iI n B)=lF n fun v w=>v !=w&&(B v w||B w v):=by unfold kQ;rw[In];refine fl fun v hv=>?_;unfold pj iJ;congr 1;refine Fw fun w hw=>?_;have hw:=j9.1 hw;rw[Xt hv hw,Xt hw hv]
theorem aa1 {E:List cD} (v w:Nat):(v !=w&&(nX E v w||nX E w v))=lK E v w:=by
 induction E with
 |nil=>simp[nX,lK]
 |cons x E aZ=>
  unfold nX lK at*;simp only[List.any_cons];rw[<-aZ,q8];simp only[bW,h9,bne_iff_ne,decide_eq_true_eq];constructor
  ·rintro⟨aV,(⟨J,R⟩|h)|(⟨J,R⟩|h)⟩
   ·exact .inl ⟨by omega,.inl ⟨J,R⟩⟩
   ·exact .inr ⟨aV,.inl h⟩
   ·exact .inl ⟨by omega,.inr ⟨R,J⟩⟩
   ·exact .inr ⟨aV,.inr h⟩
  ·rintro(⟨aV,⟨J,R⟩|⟨J,R⟩⟩|⟨aV,h|h⟩)
   ·exact⟨by omega,.inl (.inl ⟨J,R⟩)⟩
   ·exact⟨by omega,.inr (.inl ⟨R,J⟩)⟩
   ·exact⟨aV,.inl (.inr h)⟩
   ·exact⟨aV,.inr (.inr h)⟩
theorem ajA {n:Nat} {st az aK:List Int} (ak:ja n n st az aK) (ae:g5 n n st az aK=0):F2 (((n:Int),(n:Int),st,az,aK,()),())=some ((lF n (lK (du st az aK n)),()),0,()):=by
 have bE:=(od.1 ae).1;have cU:=AX bE;have d2:(du st az aK n).length<=10000:=(by rw[GU bE n (Nat.le_refl _)];have:=bE.uN n (Nat.le_refl _);have:=ak.hi;omega);unfold F2;refine aI ak.check ?_;dsimp only;rw[ae,ee,a8 rfl,ee,a8 rfl];have hc:=ak.hc;refine aI (Wp n (by omega)) (aI (af3 ak ae) ?_);dsimp only;generalize du st az aK n=E at*;refine U.eq_iff.1 ?_;refine U.bJ (P:=fun r=>r=(([],()),iI n (lK E),())) ?_ ?_
 ·refine U.steps E.length (fun i s=>s=((i:Int),([],()),iI n (lK (E.take i)),E,())) rfl ?_ ?_
  ·rintro i _ hi rfl;dsimp only;rw[cT (a8 (show(i:Int)<aS E by simp only[bL];omega)),oC hi,cO (by omega)];have ab:=cU E[i] (List.getElem_mem hi);obtain⟨a,aC⟩:=Int.eq_ofNat_of_zero_le ab.1;obtain⟨b,aa⟩:=Int.eq_ofNat_of_zero_le ab.2.2.1;have ao:=Wj (n:=n) (B:=lK (E.take i)) (i:=a) (j:=b) (by omega) (by omega);rw[<-aC,<-aa] at ao;refine U.bs ao (U.ar.2 ?_);dsimp only;have:iI n (fun ba PY=>lK (E.take i) ba PY||(decide (a≠b)&&((decide (ba=a)&&decide (PY=b))||(decide (ba=b)&&decide (PY=a)))))=iI n (lK (E.take (i+1))):=by
    refine Et fun v w _ _=>?_;unfold lK;rw[PS hi,aC,aa];congr 1;rw[q8];simp only[bW,h9,decide_eq_true_eq];omega
   rw[this]
  ·rintro _ rfl;dsimp only;rw[c1 (a1 (show¬((E.length:Int)<aS E) by simp only[bL];omega)),List.take_of_length_le (Nat.le_refl _)];exact U.ar.2 rfl
 ·rintro _ rfl;dsimp only;exact U.bs (Wg (by omega)) (U.ar.2 rfl)
theorem axa {n:Nat} {st az aK:List Int} (ak:ja n n st az aK) (ae:g5 n n st az aK=0):L2 (((n:Int),(n:Int),st,az,aK,()),())=some ((lF n (lK (du st az aK n)),()),0,()):=by
 have bE:=(od.1 ae).1;have cU:=AX bE;have d2:(du st az aK n).length<=10000:=(by rw[GU bE n (Nat.le_refl _)];have:=bE.uN n (Nat.le_refl _);have:=ak.hi;omega);unfold L2;refine aI ak.ER ?_;dsimp only;rw[ae,ee,a8 rfl,ee,a8 rfl];have hc:=ak.hc;refine aI (Yz n (by omega)) (aI (adP ak ae) ?_);dsimp only;generalize du st az aK n=E at*;refine U.eq_iff.1 ?_;refine U.bJ (P:=fun r=>r=(([],()),iI n (nX E),())) ?_ ?_
 ·refine U.steps E.length (fun i s=>s=((i:Int),([],()),iI n (nX (E.take i)),())) ?_ ?_ ?_
  ·rw[asf n (nX (E.take 0)) fun v w=>rfl];rfl
  ·rintro i _ hi rfl;dsimp only;rw[cT (a8 (show(i:Int)<aS E by simp only[bL];omega)),cO (by omega)];have ab:=cU E[i] (List.getElem_mem hi);obtain⟨a,aC⟩:=Int.eq_ofNat_of_zero_le ab.1;obtain⟨b,aa⟩:=Int.eq_ofNat_of_zero_le ab.2.2.1;have oo:a<n:=(by omega);have Hb:b<n:=(by omega);refine U.bs (dC hi) ?_;rw[aC];refine U.bs (hb (by rw[In];omega)) (U.bs (dC hi) ?_);rw[aa];unfold iI;rw[iz oo,Option.bind_some];refine U.bs (hb (by rw[dP];omega)) ?_;rw[iz oo,iz Hb,kv,Option.map_some,Option.bind_some,kv];refine U.ar.2 ?_;have:bz n (fO (fun v=>bz n (nX (E.take i) v)) a (bz n (fO (nX (E.take i) a) b true)))=bz n fun v=>bz n (nX (E.take (i+1)) v):=by
    refine fl fun v hv=>?_;by_cases g:v=a
    ·subst g;rw[nZ];refine fl fun w hw=>?_;unfold nX;rw[PS hi,aC,aa];by_cases bt:w=b
     ·subst bt;rw[nZ];simp
     ·rw[nY _ _ bt,a1 (show¬((w:Int)=(b:Int)) by omega)];simp
    ·rw[nY _ _ g];refine fl fun w hw=>?_;unfold nX;rw[PS hi,aC,aa,a1 (show¬((v:Int)=(a:Int)) by omega)];simp
   rw[this]
  ·rintro _ rfl;dsimp only;rw[c1 (a1 (show¬((E.length:Int)<aS E) by simp only[bL];omega)),List.take_of_length_le (Nat.le_refl _)];exact U.ar.2 rfl
 ·rintro _ rfl;dsimp only;refine U.bs (We _ (fun l ai=>?_) (by rw[In];omega)) (U.ar.2 ?_)
  ·rw[In];unfold iI bz at ai;obtain⟨v,_,rfl⟩:=dz.1 ai;simp
  ·dsimp only;rw[Y1];have:(fun v w=>v !=w&&(nX E v w||nX E w v))=lK E:=(by funext v w;exact aa1 v w);rw[this]
section
open Go
def nS (o:List Int) (k:Nat):Nat:=(o.getD k 0).toNat
theorem fr.get {o:List Int} {n:Nat} (h:fr o n) {k:Nat} (ae:k<n):bf o (k:Int)=some ((nS o k:Nat):Int)/\nS o k<n:=by have ai:k<o.length:=(by rw[h.1];exact ae);have J:=h.2.1 _ (dy ai);have R:nS o k=o[k].toNat:=(by unfold nS;rw[sL ai]);exact⟨by rw[mK (cr ai),R];congr 1;omega,by omega⟩
theorem fr.inj {o:List Int} {n:Nat} (h:fr o n) {j k:Nat} (ao:j<n) (ae:k<n) (e:nS o j=nS o k):j=k:=by have lH:j<o.length:=(by rw[h.1];exact ao);have qB:k<o.length:=(by rw[h.1];exact ae);have J:=h.2.1 _ (dy lH);have R:=h.2.1 _ (dy qB);unfold nS at e;rw[sL lH,sL qB] at e;exact(List.getElem_inj h.2.2).1 (by omega)
end
section
open Go
theorem atv:∀{n:Nat} {l:List Nat},l.Nodup->(∀x∈l,x<n)->l.length<=n:=by
 intro n
 induction n with
 |zero=>intro l _ h;cases l with
  |nil=>exact bU _
  |cons a l=>exact absurd (h a (nk ..)) (by omega)
 |succ n aZ=>
  intro l aP h;have J:(l.erase n).Nodup:=aP.erase n;have R:∀x∈l.erase n,x<n:=fun x ab=>(by have ac:=h x (List.mem_of_mem_erase ab);have aL:x≠n:=fun e=>(by subst e;exact(aP.mem_erase_iff.1 ab).1 rfl);omega);have ac:=aZ J R;by_cases ak:n∈l
  ·rw[List.length_erase_of_mem ak] at ac;omega
  ·rw[List.erase_of_not_mem ak] at ac;omega
theorem asK {l:List Nat} {x:Nat}:(x:Int)∈iJ l↔x∈l:=by
 unfold iJ;rw[dz];constructor
 ·rintro⟨y,J,R⟩;obtain rfl:y=x:=(by omega);exact J
 ·exact fun h=>⟨x,h,rfl⟩
section
variable {al:List (List Int)} (c4:gg al)
include c4
end
end
section
open Go
def Mg (al:List (List Int)) (x:Int):Nat:=(al.getD x.toNat []).length
section
variable {al:List (List Int)} (c4:gg al) (ag:al.length<=200)
include c4 ag
end
end
section
open Go
def abw (al:List (List Int)) (x y:Int):Prop:=Mg al x<Mg al y\/(Mg al x=Mg al y/\x<y)
instance(al:List (List Int)) (x y:Int):Decidable (abw al x y):=by unfold abw;exact inferInstance
end
section
open Go
def he (o:List Int) (x:Nat):Nat:=o.idxOf (x:Int)
section
variable {o:List Int} {n:Nat} (aw:fr o n)
include aw
theorem fr.mem {x:Nat} (ab:x<n):(x:Int)∈o:=by
 apply Classical.byContradiction;intro mR;obtain⟨J,R,ac⟩:=aw;have e:o=iJ (o.map Int.toNat):=by
  unfold iJ;rw[xK]
  conv=>lhs;rw[<-List.map_id o]
  refine kK fun y h=>?_;have:=R y h;simp only[id,Function.comp];omega
 have aP:(o.map Int.toNat).Nodup:=(by rw[List.nodup_iff_pairwise_ne,CS];refine(i7.2 fun i j hi ao dJ=>?_);have a:=R _ (dy hi);have b:=R _ (dy ao);have:=i7.1 (List.nodup_iff_pairwise_ne.1 ac) i j hi ao dJ;omega);have cX:x∉o.map Int.toNat:=fun h=>mR (by rw[e];exact asK.2 h);have:=atv (n:=n) (mB.2 ⟨cX,aP⟩) (fun y aB=>by
  rcases d4.1 aB with rfl|aB
  ·exact ab
  ·obtain⟨z,a2,rfl⟩:=dz.1 aB;have:=R z a2;omega)
 rw[kJ,i6] at this;omega
theorem fr.pos {x:Nat} (ab:x<n):he o x<n/\nS o (he o x)=x:=by have h:=aw.mem ab;have J:he o x<o.length:=List.idxOf_lt_length_iff.2 h;refine⟨by rw[<-aw.1];exact J,?_⟩;unfold nS;rw[sL J,show o[he o x]=(x:Int) from List.getElem_idxOf J];simp
theorem fr.adu {k:Nat} (ae:k<n):he o (nS o k)=k:=by have J:=(aw.get ae).2;obtain⟨R,ac⟩:=aw.pos J;exact aw.inj R ae ac
end
section
variable {al:List (List Int)} (c4:gg al) {o:List Int} (aw:fr o al.length)
include c4 aw
end
end
def tD (E:List cD) (i j:Int):Int:=match E.find? fun x=>decide (x.1=i)&&decide (x.2.1=j) with
 |some x=>x.2.2.1
 |none=>0
theorem amM {E:List cD} (hs:E.Pairwise hB) {x y:cD} (ab:x∈E) (aB:y∈E) (J:x.1=y.1) (R:x.2.1=y.2.1):x=y:=by
 obtain⟨s,SD,rfl⟩:=jO.1 ab;obtain⟨t,Nm,rfl⟩:=jO.1 aB;rcases rf s t with g|g|g
 ·have:=i7.1 hs s t SD Nm g;unfold hB at this;omega
 ·subst g;rfl
 ·have:=i7.1 hs t s Nm SD g;unfold hB at this;omega
theorem afs {E:List cD} (hs:E.Pairwise hB) {x:cD} (ab:x∈E):tD E x.1 x.2.1=x.2.2.1:=by
 unfold tD;cases h:E.find? fun y=>decide (y.1=x.1)&&decide (y.2.1=x.2.1) with
 |none=>
  have:=List.find?_eq_none.1 h x ab;simp at this
 |some y=>
  have J:=List.find?_some h;have R:=List.mem_of_find?_eq_some h;simp only[Bool.and_eq_true,decide_eq_true_eq] at J;dsimp only;rw[amM hs R ab J.1 J.2]
theorem azM {E:List cD} {i j:Int} (h:∀x∈E,¬(x.1=i/\x.2.1=j)):tD E i j=0:=by unfold tD;rw[List.find?_eq_none.2];intro x ab;have:=h x ab;simpa using this
theorem aft {E:List cD} {x:cD} (hs:(E++[x]).Pairwise hB) (i j:Int):tD (E++[x]) i j=if x.1=i/\x.2.1=j then x.2.2.1 else tD E i j:=by
 by_cases g:x.1=i/\x.2.1=j
 ·rw[if_pos g,<-g.1,<-g.2,afs hs (by simp)]
 ·rw[if_neg g];unfold tD;have J:List.find? (fun y:cD=>decide (y.1=i)&&decide (y.2.1=j)) [x]=none:=by
   refine List.find?_eq_none.2 fun y aB=>?_;obtain rfl:=fh.1 aB;simpa using g
  rw[List.find?_append,J,Option.or_none]
theorem afr {E:List cD} (h:∀x∈E,eE x.2.2.1) (i j:Int):eE (tD E i j):=by
 unfold tD;cases g:E.find? fun y=>decide (y.1=i)&&decide (y.2.1=j) with
 |none=>exact⟨by decide,by decide⟩
 |some y=>exact h y (List.mem_of_find?_eq_some g)
theorem abN {rows cols:Nat} {st az aK:List Int} (h:fk rows cols st az aK) {j:Nat} (ao:j<cols) {x:cD}:x∈du st az aK cols/\x.2.1=(j:Int)↔∃k:Nat,st.getD j 0<=(k:Int)/\(k:Int)<st.getD (j+1) 0/\x=(az.getD k 0,(j:Int),aK.getD k 0,()):=by
 have p7:=h.pos j (by omega);have fy:=h.pos (j+1) (by omega);constructor
 ·rintro⟨ab,e⟩;obtain⟨c,hc,ab⟩:=Is.1 ab;obtain⟨t,ah,rfl⟩:=BN.1 ab;have aoT:c=j:=(by dsimp only at e;omega);subst aoT;exact⟨(st.getD c 0).toNat+t,by omega,by omega,rfl⟩
 ·rintro⟨k,J,R,rfl⟩;refine⟨Is.2 ⟨j,ao,BN.2 ⟨k-(st.getD j 0).toNat,by omega,?_⟩⟩,rfl⟩;rw[show(st.getD j 0).toNat+(k-(st.getD j 0).toNat)=k by omega]
theorem adO {rows cols:Nat} {st az aK:List Int} (ak:ja rows cols st az aK) (ae:g5 rows cols st az aK=0) (i:Int) {j:Nat} (ao:j<cols):x9 (((rows:Int),(cols:Int),st,az,aK,()),i,(j:Int),())=some (tD (du st az aK cols) i (j:Int),()):=by
 have h:=(od.1 ae).1;have p7:=h.pos j (by omega);have fy:=h.pos (j+1) (by omega);have dp:=h.uN (j+1) (by omega);have l2:=h.val;have apL:=h.mono j ao;have d2:=h.len;have kj:=ak.hi;have g7:=AY h cols (bU _);have hc:=ak.hc;unfold x9;refine aI (y:=.inl ()) ?_ ?_
 ·refine aI ak.ER ?_;dsimp only;rw[ae,ee,a8 rfl,a1 (show¬((j:Int)<0) by omega),a1 (show¬((j:Int)>=(cols:Int)) by omega)];rfl
 ·dsimp only;rw[g1 (show j<st.length by omega),Option.bind_some];refine U.eq_iff.1 ?_;obtain⟨lo,gp⟩:=Int.eq_ofNat_of_zero_le p7;obtain⟨hi,kA⟩:=Int.eq_ofNat_of_zero_le fy;have bt:bf st (bN (j:Int))=some (hi:Int):=(by rw[cO (by omega),g1 (by omega),kA]);rw[bt,gp];refine U.bJ (P:=fun r=>(r=.inl ()/\∀k:Nat,lo<=k->k<hi->az.getD k 0≠i)\/∃k:Nat,lo<=k/\k<hi/\az.getD k 0=i/\r=.inr (aK.getD k 0,())) ?_ ?_
  ·refine U.steps (hi-lo) (fun t s=>s=(((lo+t:Nat):Int),())/\∀k:Nat,lo<=k->k<lo+t->az.getD k 0≠i) ⟨rfl,fun k a b=>absurd b (by omega)⟩ ?_ ?_
   ·rintro t _ ah ⟨rfl,mR⟩;dsimp only;rw[Option.bind_some,cT (a8 (show((lo+t:Nat):Int)<(hi:Int) by omega))];refine U.bs (g1 (by omega)) ?_;by_cases g:az.getD (lo+t) 0=i
    ·rw[cT (by rw[g];simp)];refine U.bs (g1 (by omega)) (U.ar.2 ?_);exact .inr ⟨lo+t,by omega,by omega,g,rfl⟩
    ·rw[c1 (by simpa using g),cO (by omega)];refine U.ar.2 ⟨rfl,fun k a b=>?_⟩;rcases ct k (lo+t) with c|c
     ·exact mR k a c
     ·obtain rfl:k=lo+t:=(by omega);exact g
   ·rintro _ ⟨rfl,mR⟩;dsimp only;rw[Option.bind_some,c1 (a1 (show¬(((lo+(hi-lo):Nat):Int)<(hi:Int)) by omega))];exact U.ar.2 (.inl ⟨rfl,fun k a b=>mR k a (by omega)⟩)
  ·rintro r (⟨rfl,mR⟩|⟨k,a,b,g,rfl⟩)
   ·refine U.ar.2 ?_;rw[azM];intro x ab aw;obtain⟨k,a,b,rfl⟩:=(abN h ao).1 ⟨ab,aw.2⟩;exact mR k (by omega) (by omega) aw.1
   ·refine U.ar.2 ?_;have ab:=((abN h ao).2 ⟨k,by omega,by omega,rfl⟩).1;have:=afs g7 ab;dsimp only at this;rw[g] at this;rw[this]
theorem axf {o:List Int} {n:Nat} (ag:n<=10000) (aJ:o.length<=1000000):Ma (o,(n:Int),())=some (open Classical in decide (fr o n),()):=by
 classical
 unfold Ma;dsimp only;by_cases ai:o.length=n
 ·rw[c1 (by rw[ee,a8 (show aS o=(n:Int) by rw[bL,ai])];rfl)];refine aI (jZ (by omega)) ?_;refine U.eq_iff.1 ?_;refine U.bJ (P:=fun r=>(r=.inl ()/\fr o n)\/(r=.inr (false,())/\¬fr o n)) ?_ ?_
  ·refine U.steps n (fun i s=>s=((i:Int),bz n (fun v=>decide ((v:Int)∈o.take i)),())/\(∀x∈o.take i,0<=x/\x<(n:Int))/\(o.take i).Nodup) ?_ ?_ ?_
   ·refine⟨?_,by simp,by simp⟩;rw[og];simp
   ·rintro i _ hi ⟨rfl,J,R⟩;dsimp only;rw[cT (a8 (show(i:Int)<(n:Int) by omega)),dC (show i<o.length by omega)];have kk:o[i]'(by omega)∈o:=List.getElem_mem _
    have ah:o.take (i+1)=o.take i++[o[i]'(by omega)]:=by rw[lY,cr (by omega)];rfl
    have aP:∀x,x∈o.take (i+1)↔x∈o.take i\/x=o[i]'(by omega):=fun x=>by rw[ah,fg,fh]
    have fw:(o.take (i+1)).Sublist o:=List.take_sublist _ _;generalize hv:o[i]'(by omega)=v at*
    simp only[bq];by_cases oh:v<0
    ·rw[c1 (show(decide (v<0)==false)=false by rw[a8 oh];rfl)];refine U.ar.2 (.inr ⟨rfl,fun aw=>?_⟩);have:=aw.2.1 v kk;omega
    ·rw[cT (show(decide (v<0)==false)=true by rw[a1 oh];rfl)];by_cases bS:v>=(n:Int)
     ·rw[c1 (show(decide (v>=(n:Int))==false)=false by rw[a8 bS];rfl)];refine U.ar.2 (.inr ⟨rfl,fun aw=>?_⟩);have:=aw.2.1 v kk;omega
     ·rw[cT (show(decide (v>=(n:Int))==false)=true by rw[a1 bS];rfl)];obtain⟨w,rfl⟩:=fL (show 0<=v by omega);rw[oC (by rw[dP];omega),l9];by_cases bt:(w:Int)∈o.take i
      ·rw[cT (a8 bt)];refine U.ar.2 (.inr ⟨rfl,fun aw=>?_⟩);have:=List.Nodup.sublist fw aw.2.2;rw[ah,kL] at this;exact this.2.2 _ bt _ (fh.2 rfl) rfl
      ·rw[c1 (a1 bt)];simp only[bq];rw[m8 (by rw[dP];omega),kv];refine U.ar.2 ⟨?_,?_,?_⟩
       ·rw[cO (by omega)];have:bz n (fO (fun v=>decide ((v:Int)∈o.take i)) w true)=bz n (fun v=>decide ((v:Int)∈o.take (i+1))):=by
         refine fl fun u aR=>?_;by_cases cY:u=w
         ·subst cY;rw[nZ,a8 ((aP _).2 (.inr rfl))]
         ·rw[nY _ _ cY];refine decide_eq_decide.2 ⟨fun h=>(aP _).2 (.inl h),fun h=>((aP _).1 h).resolve_right fun h=>cY (by omega)⟩
        rw[this]
       ·intro x ab;rcases(aP x).1 ab with h|h
        ·exact J x h
        ·subst h;omega
       ·rw[ah,kL];refine⟨R,by simp,fun a aC b aa e=>?_⟩;obtain rfl:=fh.1 aa;exact bt (e▸aC)
   ·rintro _ ⟨rfl,J,R⟩;dsimp only;rw[c1 (a1 (show¬((n:Int)<(n:Int)) by omega))];rw[List.take_of_length_le (by omega)] at J R;exact U.ar.2 (.inl ⟨rfl,ai,J,R⟩)
  ·rintro r (⟨rfl,h⟩|⟨rfl,h⟩)
   ·refine U.ar.2 ?_;rw[a8 h]
   ·refine U.ar.2 ?_;rw[a1 h]
 ·rw[cT (by rw[ee,a1 (show¬(aS o=(n:Int)) by rw[bL];omega)];rfl),a1 (fun h=>ai h.1)]
theorem adQ {rows cols:Nat} {st az aK:List Int} (ak:ja rows cols st az aK) {o:List Int} (aJ:o.length<=1000000):Mb (((rows:Int),(cols:Int),st,az,aK,()),o,())=some (open Classical in if g5 rows cols st az aK≠0 then g5 rows cols st az aK else if rows≠cols then 5 else if fr o rows then 0 else 90,()):=by
 classical
 unfold Mb;refine aI ak.ER ?_;dsimp only;have hr:=ak.hr;by_cases J:g5 rows cols st az aK=0
 ·rw[J,ee,a8 rfl,if_neg (not_not_intro rfl)];by_cases R:rows=cols
  ·subst R;rw[ee,a8 rfl,if_neg (not_not_intro rfl)];refine aI (axf (by omega) aJ) ?_;dsimp only;by_cases ac:fr o rows
   ·rw[a8 ac,if_pos ac];rfl
   ·rw[a1 ac,if_neg ac];rfl
  ·rw[ee,a1 (show¬((rows:Int)=(cols:Int)) by omega),if_pos R];rfl
 ·rw[ee,a1 J,if_pos J];rfl
theorem awo {o:List Int} {i w:Nat} (hi:i<o.length) (hw:o[i]=(w:Int)) (mR:(w:Int)∉o.take i):he o w=i:=by unfold he;have e:o=o.take i++(o[i]::o.drop (i+1)):=(by rw[List.getElem_cons_drop,oQ]);rw[e,List.idxOf_append,if_neg mR,hw,List.idxOf_cons_self,eW];omega
theorem adr {o:List Int} {n:Nat} (ag:n<=10000) (aJ:o.length<=1000000):Mf (o,(n:Int),())=some (open Classical in if fr o n then(bz n (fun v=>(he o v:Int)),true,()) else([],false,())):=by
 classical
 unfold Mf;dsimp only;by_cases ai:o.length=n
 ·rw[c1 (by rw[ee,a8 (show aS o=(n:Int) by rw[bL,ai])];rfl)];refine aI (jZ (by omega)) (aI (jZ (by omega)) ?_);refine U.eq_iff.1 ?_;refine U.bJ (P:=fun r=>(r=.inl (bz n (fun v=>(he o v:Int)),())/\fr o n)\/(r=.inr ([],false,())/\¬fr o n)) ?_ ?_
  ·refine U.steps n (fun i s=>s=((i:Int),bz n (fun v=>if(v:Int)∈o.take i then(he o v:Int) else 0),bz n (fun v=>decide ((v:Int)∈o.take i)),())/\(∀x∈o.take i,0<=x/\x<(n:Int))/\(o.take i).Nodup) ?_ ?_ ?_
   ·refine⟨?_,by simp,by simp⟩;rw[og,og];simp
   ·rintro i _ hi ⟨rfl,J,R⟩;dsimp only;rw[cT (a8 (show(i:Int)<aS o by rw[bL];omega)),dC (show i<o.length by omega)];have kk:o[i]'(by omega)∈o:=List.getElem_mem _
    have ah:o.take (i+1)=o.take i++[o[i]'(by omega)]:=by rw[lY,cr (by omega)];rfl
    have aP:∀x,x∈o.take (i+1)↔x∈o.take i\/x=o[i]'(by omega):=fun x=>by rw[ah,fg,fh]
    have fw:(o.take (i+1)).Sublist o:=List.take_sublist _ _;have mS:∀w:Nat,o[i]'(by omega)=(w:Int)->(w:Int)∉o.take i->he o w=i:=fun w=>awo (by omega)
    generalize hv:o[i]'(by omega)=v at*
    simp only[bq];by_cases oh:v<0
    ·rw[c1 (show(decide (v<0)==false)=false by rw[a8 oh];rfl)];refine U.ar.2 (.inr ⟨rfl,fun aw=>?_⟩);have:=aw.2.1 v kk;omega
    ·rw[cT (show(decide (v<0)==false)=true by rw[a1 oh];rfl)];by_cases bS:v>=(n:Int)
     ·rw[c1 (show(decide (v>=(n:Int))==false)=false by rw[a8 bS];rfl)];refine U.ar.2 (.inr ⟨rfl,fun aw=>?_⟩);have:=aw.2.1 v kk;omega
     ·rw[cT (show(decide (v>=(n:Int))==false)=true by rw[a1 bS];rfl)];obtain⟨w,rfl⟩:=fL (show 0<=v by omega);rw[oC (by rw[dP];omega),l9];by_cases bt:(w:Int)∈o.take i
      ·simp only[bq];rw[cT (a8 bt)];refine U.ar.2 (.inr ⟨rfl,fun aw=>?_⟩);have:=List.Nodup.sublist fw aw.2.2;rw[ah,kL] at this;exact this.2.2 _ bt _ (fh.2 rfl) rfl
      ·simp only[bq];rw[c1 (a1 bt)];simp only[bq];rw[m8 (by rw[dP];omega),kv,m8 (by rw[dP];omega),kv];refine U.ar.2 ⟨?_,?_,?_⟩
       ·rw[cO (by omega)];have:bz n (fO (fun v=>decide ((v:Int)∈o.take i)) w true)=bz n (fun v=>decide ((v:Int)∈o.take (i+1))):=by
         refine fl fun u aR=>?_;by_cases cY:u=w
         ·subst cY;rw[nZ,a8 ((aP _).2 (.inr rfl))]
         ·rw[nY _ _ cY];refine decide_eq_decide.2 ⟨fun h=>(aP _).2 (.inl h),fun h=>((aP _).1 h).resolve_right fun h=>cY (by omega)⟩
        rw[this];have:bz n (fO (fun v=>if(v:Int)∈o.take i then(he o v:Int) else 0) w (i:Int))=bz n (fun v=>if(v:Int)∈o.take (i+1) then(he o v:Int) else 0):=by
         refine fl fun u aR=>?_;by_cases cY:u=w
         ·subst cY;rw[nZ,if_pos ((aP _).2 (.inr rfl)),mS u rfl bt]
         ·rw[nY _ _ cY];have:(u:Int)∈o.take (i+1)↔(u:Int)∈o.take i:=⟨fun h=>((aP _).1 h).resolve_right fun h=>cY (by omega),fun h=>(aP _).2 (.inl h)⟩;by_cases c7:(u:Int)∈o.take i
          ·rw[if_pos c7,if_pos (this.2 c7)]
          ·rw[if_neg c7,if_neg fun h=>c7 (this.1 h)]
        rw[this]
       ·intro x ab;rcases(aP x).1 ab with h|h
        ·exact J x h
        ·subst h;omega
       ·rw[ah,kL];refine⟨R,by simp,fun a aC b aa e=>?_⟩;obtain rfl:=fh.1 aa;exact bt (e▸aC)
   ·rintro _ ⟨rfl,J,R⟩;dsimp only;rw[c1 (a1 (show¬((n:Int)<aS o) by rw[bL];omega))];rw[List.take_of_length_le (by omega)] at J R|-;have aw:fr o n:=⟨ai,J,R⟩;refine U.ar.2 (.inl ⟨?_,aw⟩);have:bz n (fun v=>if(v:Int)∈o then(he o v:Int) else 0)=bz n (fun v=>(he o v:Int)):=fl fun v hv=>if_pos (aw.mem hv);rw[this]
  ·rintro r (⟨rfl,h⟩|⟨rfl,h⟩)
   ·refine U.ar.2 ?_;rw[if_pos h]
   ·refine U.ar.2 ?_;rw[if_neg h]
 ·rw[cT (by rw[ee,a1 (show¬(aS o=(n:Int)) by rw[bL];omega)];rfl),if_neg (fun h=>ai h.1)]
def tx (rows cols:Nat) (st az aK o:List Int):Int:=open Classical in if g5 rows cols st az aK≠0 then g5 rows cols st az aK else if rows≠cols then 5 else if fr o rows then 0 else 90
theorem ayK {rows cols:Nat} {st az aK o:List Int} (h:tx rows cols st az aK o=0):g5 rows cols st az aK=0/\rows=cols/\fr o rows:=by
 unfold tx at h;split at h
 ·contradiction
 ·rename_i bS;split at h
  ·cases h
  ·rename_i bt;split at h
   ·rename_i cY;exact⟨Classical.not_not.1 bS,Classical.not_not.1 bt,cY⟩
   ·cases h
theorem ajH {rows cols:Nat} {st az aK:List Int} (ak:ja rows cols st az aK) {o:List Int} (aJ:o.length<=1000000) (h:tx rows cols st az aK o≠0):AI (((rows:Int),(cols:Int),st,az,aK,()),o,())=some (none,tx rows cols st az aK o,()):=by
 classical
 unfold AI;unfold tx at h|-;refine aI ak.check ?_;dsimp only;have hr:=ak.hr;by_cases J:g5 rows cols st az aK=0
 ·rw[if_neg (not_not_intro J)] at h|-;rw[c1 (by rw[J];rfl)];by_cases R:rows=cols
  ·subst R;rw[if_neg (not_not_intro rfl)] at h|-;rw[c1 (by rw[ee,a8 rfl];rfl)];refine aI (adr (by omega) aJ) ?_;by_cases ac:fr o rows
   ·exact absurd (if_pos ac) h
   ·rw[if_neg ac,if_neg ac];rfl
  ·rw[if_pos R,cT (by rw[ee,a1 (show¬((rows:Int)=(cols:Int)) by omega)];rfl)]
 ·rw[if_pos J,cT (by rw[ee,a1 J];rfl)]
def o2 (n:Nat) (E:List cD) (o:List Int):List (List Int):=kQ (kV (lF n (lK E)) o)
theorem Y7 (n:Nat) (B:Nat->Nat->Bool):∀l∈lF n B,l.length<=n:=by intro l ai;unfold lF bz at ai;obtain⟨v,_,rfl⟩:=dz.1 ai;rw[EA];have:=lv (B v) (List.range n);simpa using this
theorem MG (n:Nat) (B:Nat->Nat->Bool):(lF n B).length=n:=dP _ _
theorem anX (n:Nat) (E:List cD):lF n (lK E)=kQ (iI n (nX E)):=by rw[Y1];have:(fun v w=>v !=w&&(nX E v w||nX E w v))=lK E:=(by funext v w;exact aa1 v w);rw[this]
theorem adp {n:Nat} (ag:n<=5) {E:List cD} {o:List Int} (aw:fr o n):rX (lF n (lK E)) o=0:=by unfold rX;have hc:kc (lF n (lK E))=0:=KG.2 ⟨by rw[MG];omega,by rw[anX];exact Y2 _⟩;rw[if_neg (not_not_intro hc),if_neg (not_not_intro (by rw[MG];exact aw.1)),MG,if_pos aw]
theorem ajO {n:Nat} (ag:n<=5) {E:List cD} {o:List Int} (aw:fr o n):F4 ((lF n (lK E),()),o,())=some ((o2 n E o,()),0,()):=by rw[ajN (fun l ai=>by have:=Y7 n _ l ai;omega) o (fun _ _=>by rw[MG];omega) (by rw[aw.1];omega),if_pos (adp ag aw)];rfl
theorem axg {n:Nat} (ag:n<=5) {E:List cD} {o:List Int} (aw:fr o n):GC ((lF n (lK E),()),o,())=some ((o2 n E o,()),0,()):=by rw[axv (fun l ai=>by have:=Y7 n _ l ai;omega) o,if_pos (adp ag aw)];rfl
theorem Ry {n:Nat} {E:List cD} {o:List Int} (aw:fr o n):(o2 n E o).length=n:=by unfold o2;rw[anP,Ec,aw.1]
theorem Zg (n:Nat) (E:List cD) (o:List Int):gg (o2 n E o):=Y2 _
theorem Zf {n:Nat} (ag:n<=5) {E:List cD} {o:List Int} (aw:fr o n):∀l∈o2 n E o,l.length<4611686018427387904:=fun l ai=>by have:=anQ _ l ai;rw[Ec,aw.1] at this;omega
theorem axb {n:Nat} {st az aK:List Int} (ag:n<=5) (ak:ja n n st az aK) (ae:g5 n n st az aK=0) {o:List Int} (aw:fr o n):L9 (((n:Int),(n:Int),st,az,aK,()),o,())=some ((o2 n (hQ (du st az aK n)) o,()),()):=by have bE:=(od.1 ae).1;have dn:=(od.1 ae).2;have g7:=AY bE n (bU _);have cU:=AX bE;have yy:=NW ag (yX g7) (yW cU) NV;have k5:=AZ bE ak.hw;have nF:=AZ bE (YU dn);unfold L9;refine aI (axe ag ak ae) ?_;have h2:=yX g7;have kj:=yW cU;have mQ:=aeM (rows:=n) (cols:=n) (E:=hQ (du st az aK n)) (by omega) (by omega) (by omega) (fun x ab=>k5 x (iv.1 ab).1);have gI:=XO h2 kj (fun x ab=>nF x (iv.1 ab).1);have:=axa mQ gI;rw[YF h2 kj] at this;refine aI this ?_;exact aI (axg ag aw) rfl
theorem ajB {n:Nat} {st az aK:List Int} (ag:n<=5) (ak:ja n n st az aK) (ae:g5 n n st az aK=0):F2 (wQ n n (hQ (du st az aK n)),())=some ((lF n (lK (hQ (du st az aK n))),()),0,()):=by have bE:=(od.1 ae).1;have dn:=(od.1 ae).2;have g7:=AY bE n (bU _);have cU:=AX bE;have yy:=NW ag (yX g7) (yW cU) NV;have k5:=AZ bE ak.hw;have nF:=AZ bE (YU dn);have h2:=yX g7;have kj:=yW cU;have mQ:=aeM (rows:=n) (cols:=n) (E:=hQ (du st az aK n)) (by omega) (by omega) (by omega) (fun x ab=>k5 x (iv.1 ab).1);have gI:=XO h2 kj (fun x ab=>nF x (iv.1 ab).1);have:=ajA mQ gI;rw[YF h2 kj] at this;exact this
def Dw:dO:=(false,((false,([],())),((0:Int),())))
theorem al3:Dw=b6 (some 0):=by rw[jc];rfl
theorem Oa:gw 0=some 0:=by decide
theorem Im {α:Type}:∀(l:List (Int×α)) (k:Int) (v:α) (c0:Int),e9 (jH l k v) c0=if c0=k then some v else e9 l c0
 |[],k,v,c0=>by
  show(if k=c0 then some v else none)=_;by_cases g:c0=k
  ·rw[if_pos g,if_pos g.symm]
  ·rw[if_neg g,if_neg (fun h=>g h.symm)];rfl
 |(a,u)::r,k,v,c0=>by
  unfold jH;by_cases bS:k<a
  ·rw[if_pos bS];show(if k=c0 then some v else e9 ((a,u)::r) c0)=_;by_cases g:c0=k
   ·rw[if_pos g,if_pos g.symm]
   ·rw[if_neg g,if_neg (fun h=>g h.symm)]
  ·rw[if_neg bS];by_cases bt:k=a
   ·rw[if_pos bt];show(if k=c0 then some v else e9 r c0)=_;by_cases g:c0=k
    ·rw[if_pos g,if_pos g.symm]
    ·rw[if_neg g,if_neg (fun h=>g h.symm)];show _=(if a=c0 then some u else e9 r c0);rw[if_neg (by omega)]
   ·rw[if_neg bt];show(if a=c0 then some u else e9 (jH r k v) c0)=_;rw[Im r k v c0];show _=if c0=k then some v else(if a=c0 then some u else e9 r c0)
    by_cases cY:a=c0
    ·rw[if_pos cY,if_neg (by omega),if_pos cY]
    ·rw[if_neg cY,if_neg cY]
abbrev jP:=Option (List (Int×dO)×Nat)
def mW (a b:Int):Int:=if b>a then b else a
def mg (a b:Int):Int:=if b<a then b else a
def cl (E:List cD) (o:List Int) (p q:Nat):Option Int:=gw (tD E (mW (o.getD p 0) (o.getD q 0)) (mg (o.getD p 0) (o.getD q 0)))
theorem amL (E:List cD) (o:List Int) (p q:Nat):cl E o p q=cl E o q p:=by unfold cl;rw[show mW (o.getD p 0) (o.getD q 0)=mW (o.getD q 0) (o.getD p 0) by unfold mW;split<;>split<;>omega,show mg (o.getD p 0) (o.getD q 0)=mg (o.getD q 0) (o.getD p 0) by unfold mg;split<;>split<;>omega]
structure l0 (n:Nat) (o:List Int) (D:List cD) (M:List jP):Prop where
 len:M.length=n
 get:∀p,p<n->∃l c,M[p]?=some (some (l,c))/\∀q,q<n->p<=q->(e9 l (q:Int)).getD Dw=b6 (cl D o p q)
theorem l0.nil {n:Nat} {o:List Int}:l0 n o [] (bz n fun _=>some ([],0)) where
 len:=dP _ _
 get:=fun p aw=>⟨[],0,DA aw,fun q _ _=>by
  show Dw=b6 (gw 0);rw[Oa,al3]⟩
theorem Oo {o:List Int} {n:Nat} (aw:fr o n) {p:Nat} (h:p<n):o.getD p 0=(nS o p:Int)/\nS o p<n:=by have ai:p<o.length:=(by rw[aw.1];exact h);have:=aw.2.1 o[p] (dy ai);unfold nS;rw[mJ ai];omega
theorem awp {o:List Int} {n:Nat} (aw:fr o n) {r c p q:Nat} (hr:r<n) (hc:c<n) (ZL:c<=r) (yD:p<n) (aaj:q<n) (jA:p<=q):(mg (he o r:Int) (he o c:Int)=(p:Int)/\mW (he o r:Int) (he o c:Int)=(q:Int))↔(r:Int)=mW (o.getD p 0) (o.getD q 0)/\(c:Int)=mg (o.getD p 0) (o.getD q 0):=by
 obtain⟨fy,eu⟩:=Oo aw yD;obtain⟨aN,aM⟩:=Oo aw aaj;obtain⟨b2,bo⟩:=aw.pos hr;obtain⟨da,cw⟩:=aw.pos hc;have adx:=aw.adu yD;have adD:=aw.adu aaj;rw[fy,aN];constructor
 ·rintro⟨J,R⟩;have:(he o r=p/\he o c=q)\/(he o r=q/\he o c=p):=by
   unfold mg at J;unfold mW at R;split at J<;>split at R<;>omega
  rcases this with⟨aA,aX⟩|⟨aA,aX⟩
  ·rw[aA] at bo;rw[aX] at cw;unfold mW mg;split<;>split<;>omega
  ·rw[aA] at bo;rw[aX] at cw;unfold mW mg;split<;>split<;>omega
 ·rintro⟨J,R⟩;have:(r=nS o p/\c=nS o q)\/(r=nS o q/\c=nS o p):=by
   unfold mg at R;unfold mW at J;split at J<;>split at R<;>omega
  rcases this with⟨aA,aX⟩|⟨aA,aX⟩
  ·rw[aA,aX,adx,adD];unfold mW mg;split<;>split<;>omega
  ·rw[aA,aX,adx,adD];unfold mW mg;split<;>split<;>omega
theorem l0.skip {n:Nat} {o:List Int} {D:List cD} {M:List jP} (h:l0 n o D M) {x:cD} (hs:(D++[x]).Pairwise hB) (ab:x.1<x.2.1):l0 n o (D++[x]) M where
 len:=h.len
 get:=fun p aw=>by obtain⟨l,c,J,R⟩:=h.get p aw;refine⟨l,c,J,fun q aj jA=>?_⟩;rw[R q aj jA];unfold cl;rw[aft hs,if_neg];rintro⟨ac,aL⟩;unfold mW at ac;unfold mg at aL;split at ac<;>split at aL<;>omega
theorem l0.add {n:Nat} {o:List Int} (aw:fr o n) {D:List cD} {M:List jP} (h:l0 n o D M) {r c lo hi:Nat} {v:Int} (hs:(D++[((r:Int),(c:Int),v,())]).Pairwise hB) (hr:r<n) (hc:c<n) (ZL:c<=r) (gp:(lo:Int)=mg (he o r:Int) (he o c:Int)) (kA:(hi:Int)=mW (he o r:Int) (he o c:Int)) {l:List (Int×dO)} {k bD:Nat} (ai:M[lo]?=some (some (l,k))):l0 n o (D++[((r:Int),(c:Int),v,())]) (M.set lo (some (jH l (hi:Int) (b6 (gw v)),bD))) where
 len:=by rw[Fz,h.len]
 get:=fun p yD=>by
  have ca:lo<M.length:=(fu.1 ai).1;have key:∀q,q<n->p<=q->b6 (cl (D++[((r:Int),(c:Int),v,())]) o p q)=if lo=p/\hi=q then b6 (gw v) else b6 (cl D o p q):=by
   intro q aj jA;have:=awp aw hr hc ZL yD aj jA;unfold cl;rw[aft hs];rw[<-gp,<-kA] at this;by_cases g:lo=p/\hi=q
   ·rw[if_pos g,if_pos (this.1 ⟨by omega,by omega⟩)]
   ·rw[if_neg g,if_neg (fun h=>g (by have:=this.2 h;omega))]
  by_cases g:p=lo
  ·subst g;refine⟨_,_,oN ca,fun q aj jA=>?_⟩;rw[Im,key q aj jA];by_cases bt:hi=q
   ·subst bt;rw[if_pos rfl,if_pos ⟨rfl,rfl⟩];rfl
   ·rw[if_neg (by omega),if_neg (fun h=>bt h.2)];obtain⟨l',c',J,R⟩:=h.get p yD;rw[ai] at J;cases J;exact R q aj jA
  ·obtain⟨l',c',J,R⟩:=h.get p yD;refine⟨l',c',?_,fun q aj jA=>?_⟩
   ·rw[qk (fun h=>g h.symm),J]
   ·rw[key q aj jA,if_neg (fun h=>g h.1.symm),R q aj jA]
theorem aw9 {n:Nat} {st az aK o:List Int} (ak:ja n n st az aK) (ae:g5 n n st az aK=0) (aw:fr o n) {i j:Nat} (hi:i<n) (ao:j<n):L8 (((n:Int),(n:Int),st,az,aK,()),o,(i:Int),(j:Int),())=some (b6 (cl (du st az aK n) o i j),()):=by
 obtain⟨fy,eu⟩:=Oo aw hi;obtain⟨aN,aM⟩:=Oo aw ao;have ai:=aw.1;have k5:=AZ (od.1 ae).1 ak.hw;unfold L8;refine aI (g1 (by omega)) (aI (g1 (by omega)) ?_);obtain⟨c,hc,Hf⟩:∃c:Nat,mg (o.getD i 0) (o.getD j 0)=(c:Int)/\c<n:=by
  unfold mg;split
  ·exact⟨_,aN,aM⟩
  ·exact⟨_,fy,eu⟩
 have h:=adO ak ae (mW (o.getD i 0) (o.getD j 0)) Hf;rw[<-hc] at h;refine aI h ?_;dsimp only;refine aI (Je (afr k5 _ _)) rfl
theorem ajI {n:Nat} {st az aK:List Int} (ag:n<=5) (ak:ja n n st az aK) (ae:g5 n n st az aK=0) {o:List Int} (aw:fr o n):∃M,l0 n o (du st az aK n) M/\AI (((n:Int),(n:Int),st,az,aK,()),o,())=some (some ((n:Int),(o2 n (hQ (du st az aK n)) o,()),M,()),0,()):=by
 have bE:=(od.1 ae).1;have g7:=AY bE n (bU _);have cU:=AX bE;have nJ:=aw.1;have k5:=AZ bE ak.hw;suffices h:U (AI (((n:Int),(n:Int),st,az,aK,()),o,())) fun r=>∃M,l0 n o (du st az aK n) M/\r=(some ((n:Int),(o2 n (hQ (du st az aK n)) o,()),M,()),0,()) by obtain⟨r,J,M,R,rfl⟩:=h;exact⟨M,R,J⟩
 unfold AI;refine U.bs ak.check ?_;dsimp only;rw[c1 (by rw[ae];rfl),c1 (by rw[ee,a8 rfl];rfl)];refine U.bs (adr (by omega) (by omega)) ?_;rw[if_pos aw];dsimp only;rw[Bool.not_true,cond_false];refine U.bs (ajG ag ak ae) (U.bs (ajB ag ak ae) (U.bs (ajO ag aw) ?_));dsimp only;generalize nB:o2 n (hQ (du st az aK n)) o=G;refine U.bs (jZ (by omega)) ?_;generalize jz:(((n:Int),(n:Int),st,az,aK,()):cW)=wK;refine U.bJ (P:=fun r=>r=(wK,((n:Int),(G,()),bz n (fun _=>(some ([],0):jP)),()),())) ?_ ?_
 ·refine U.steps n (fun i s=>s=((i:Int),wK,((n:Int),(G,()),bz n (fun v=>if v<i then(some ([],0):jP) else none),()),())) ?_ ?_ ?_
  ·rw[og];rfl
  ·rintro i _ hi rfl;dsimp only;rw[cT (a8 (show(i:Int)<aS (List.replicate n (none:jP)) by rw[bL,List.length_replicate];omega)),cO (by omega)];refine U.bs (hb (by rw[dP];omega)) ?_;rw[iz hi,kv];refine U.ar.2 ?_;have:bz n (fO (fun v=>if v<i then(some ([],0):jP) else none) i (some ([],0)))=bz n (fun v=>if v<i+1 then(some ([],0):jP) else none):=by
    refine fl fun v hv=>?_;by_cases g:v=i
    ·subst g;rw[nZ,if_pos (by omega)]
    ·rw[nY _ _ g];by_cases bt:v<i
     ·rw[if_pos bt,if_pos (by omega)]
     ·rw[if_neg bt,if_neg (by omega)]
   dsimp only[Option.map_some];rw[this]
  ·rintro _ rfl;dsimp only;rw[c1 (a1 (show¬((n:Int)<aS (List.replicate n (none:jP))) by rw[bL,List.length_replicate];omega))];have:bz n (fun v=>if v<n then(some ([],0):jP) else none)=bz n (fun _=>(some ([],0):jP)):=fl fun v hv=>if_pos hv;rw[this];exact U.ar.2 rfl
 ·rintro _ rfl;dsimp only;refine U.bJ (P:=fun r=>∃M,l0 n o (du st az aK n) M/\r=(((n:Int),(G,()),M,()),())) ?_ (by rintro _ ⟨M,h,rfl⟩;exact U.ar.2 ⟨M,h,rfl⟩);subst jz;refine U.steps n (fun j s=>∃M,l0 n o (du st az aK j) M/\s=((j:Int),((n:Int),(n:Int),st,az,aK,()),((n:Int),(G,()),M,()),())) ⟨_,l0.nil,rfl⟩ ?_ ?_
  ·rintro j _ ao ⟨M,bF,rfl⟩;have ai:=bE.len;obtain⟨lo,gp⟩:=Int.eq_ofNat_of_zero_le (bE.pos j (by omega));obtain⟨d0,kA⟩:=Int.eq_ofNat_of_zero_le (bE.pos (j+1) (by omega));have fb:d0<=az.length:=(by have:=bE.uN (j+1) (by omega);omega);have Hn:lo<=d0:=(by have:=bE.mono j ao;omega);have hv:=bE.val;have kj:=ak.hi;dsimp only;rw[cT (a8 (show(j:Int)<(n:Int) by omega)),cO (by omega)];refine U.bs (y:=(lo:Int)) (by rw[g1 (by omega),gp]) ?_;have et:du st az aK (j+1)=du st az aK j++jU az aK (j:Int) lo (d0-lo):=by
    rw[du,gp,kA];rfl
   have aqj:(du st az aK (j+1)).Pairwise hB:=AY bE (j+1) (by omega);refine U.bJ (P:=fun r=>∃M,l0 n o (du st az aK (j+1)) M/\r=(((n:Int),(n:Int),st,az,aK,()),((n:Int),(G,()),M,()),())) ?_ (by rintro _ ⟨M,h,rfl⟩;exact U.ar.2 ⟨M,h,rfl⟩);refine U.steps (d0-lo) (fun t s=>∃M,l0 n o (du st az aK j++jU az aK (j:Int) lo t) M/\s=(((lo+t:Nat):Int),((n:Int),(n:Int),st,az,aK,()),((n:Int),(G,()),M,()),())) ⟨M,by simpa[jU] using bF,rfl⟩ ?_ ?_
   ·rintro t _ ah ⟨M,bF,rfl⟩;dsimp only;refine U.bs (y:=(d0:Int)) (by rw[g1 (by omega),kA]) ?_;rw[cT (a8 (show((lo+t:Nat):Int)<(d0:Int) by omega))];have aqc:=bE.rng j (lo+t) ao (by omega) (by omega);obtain⟨r,hr⟩:=Int.eq_ofNat_of_zero_le aqc.1;have aap:(du st az aK j++jU az aK (j:Int) lo t++[((r:Int),(j:Int),aK.getD (lo+t) 0,())]).Pairwise hB:=by
     refine List.Pairwise.sublist ?_ aqj;rw[et,sj];refine List.Sublist.append (List.Sublist.refl _) ?_;have:jU az aK (j:Int) lo t++[((r:Int),(j:Int),aK.getD (lo+t) 0,())]=jU az aK (j:Int) lo (t+1):=(by rw[jU,hr]);rw[this,Q3,Q3,<-anu (d0-lo) (t+1) _ (by omega)];exact List.take_sublist _ _
    have ao5:du st az aK j++jU az aK (j:Int) lo (t+1)=du st az aK j++jU az aK (j:Int) lo t++[((r:Int),(j:Int),aK.getD (lo+t) 0,())]:=(by rw[sj,jU,hr]);rw[ao5];refine U.bJ (P:=fun q=>∃M,l0 n o (du st az aK j++jU az aK (j:Int) lo t++[((r:Int),(j:Int),aK.getD (lo+t) 0,())]) M/\q=(((n:Int),(n:Int),st,az,aK,()),((n:Int),(G,()),M,()),())) ?_ ?_
    ·refine U.bs (y:=(r:Int)) (by rw[g1 (by omega),hr]) ?_;rw[cC];refine U.ite (fun g=>?_) (fun g=>?_)
     ·have D3:r<n:=(by omega);refine U.bs (by rw[dC (by rw[dP];omega),l9]) (U.bs (by rw[dC (by rw[dP];omega),l9]) ?_);obtain⟨a,aC,oo⟩:∃a:Nat,(a:Int)=mg (he o r:Int) (he o j:Int)/\a<n:=by
       have:=(aw.pos D3).1;have:=(aw.pos ao).1;unfold mg;split
       ·exact⟨_,rfl,by omega⟩
       ·exact⟨_,rfl,by omega⟩
      obtain⟨b,aa⟩:∃b:Nat,(b:Int)=mW (he o r:Int) (he o j:Int):=by
       unfold mW;split
       ·exact⟨_,rfl⟩
       ·exact⟨_,rfl⟩
      change U ((cH M.length (mg (he o r:Int) (he o j:Int))).bind _) _;rw[<-aC];refine U.bs (hb (by rw[bF.len];exact oo)) ?_;refine U.bs (g1 (by omega)) ?_;refine U.bs (Ob (ak.hw _ (by rw[mJ (by omega)];exact List.getElem_mem _))) ?_;dsimp only;obtain⟨l,k,ai,_⟩:=bF.get a oo;refine U.bs (vD ai) ?_;change U ((wL (some (l,k)) (mW (he o r:Int) (he o j:Int)) _).bind _) _;rw[<-aa];refine U.bs rfl ?_;rw[vD ai];exact U.ar.2 ⟨_,bF.add aw aap D3 ao (by omega) aC aa ai,rfl⟩
     ·exact U.ar.2 ⟨M,bF.skip aap (by dsimp only;omega),rfl⟩
    ·rintro _ ⟨M,h,rfl⟩;dsimp only;rw[cO (by omega)];exact U.ar.2 ⟨M,h,rfl⟩
   ·rintro _ ⟨M,bF,rfl⟩;dsimp only;refine U.bs (y:=(d0:Int)) (by rw[g1 (by omega),kA]) ?_;rw[c1 (a1 (show¬((lo+(d0-lo):Nat):Int)<(d0:Int) by omega))];exact U.ar.2 ⟨M,by rw[et];exact bF,rfl⟩
  ·rintro _ ⟨M,bF,rfl⟩;dsimp only;rw[c1 (a1 (show¬((n:Int)<(n:Int)) by omega))];exact U.ar.2 ⟨M,bF,rfl⟩
theorem ayd {n:Nat} {o:List Int} {E:List cD} {M:List jP} (h:l0 n o E M) {G:List (List Int)} {i j:Nat} (hi:i<n) (ao:j<n):Me (some ((n:Int),(G,()),M,()),(i:Int),(j:Int),())=some (b6 (cl E o i j),()):=by
 unfold Me;dsimp only;rw[Option.bind_some];have key:∀a b:Nat,a<n->b<n->a<=b->((bf M (a:Int)).bind fun eH=>some (((lM (α:=dO) eH (b:Int)).getD (false,((false,([],())),((0:Int),())))),()))=some (b6 (cl E o a b),()):=(by intro a b aC aa o6;obtain⟨l,c,J,R⟩:=h.get a aC;refine aI (mK J) ?_;have:=R b aa o6;rw[<-this];rfl);by_cases g:(j:Int)<(i:Int)
 ·rw[if_pos g,if_neg (by omega),amL];exact key j i ao hi (by omega)
 ·rw[if_neg g];by_cases bt:(j:Int)>(i:Int)
  ·rw[if_pos bt];exact key i j hi ao (by omega)
  ·rw[if_neg bt];obtain rfl:i=j:=(by omega);exact key i i hi hi (bU _)
end Go.mz
end
