/-
  Parts of the proof: Pm34, Pm35, Pm36: the framework (Fw), pure forms (Dn), plain laws (Pl, Th), calls of functions (Ok).
-/
import Derived.Test.YtkhcdgkdpjahpaaGreatDoorB1db839e3

set_option linter.all false
set_option maxHeartbeats 1000000
noncomputable section
namespace Go.ia
variable{a b:Nat}
section
def On (a b:ac8) (c:a.length<4611686018427387904):D4 (a,b,())=some (a==b,()):=tv a b c
def Gn {a:ac2} (b:dm a):r5 (aT a,aT a,())=some (true,()):=by
 unfold r5;refine ak (kl b) (ak (kl b) ?_);dsimp only;refine ak (y:=(true,())) ?_ rfl;unfold D3;dsimp only;rw[bb ab,bb ab];refine ak (y:=(true,())) ?_ rfl;unfold D2;dsimp only;rw[bb ab];refine ak (On _ _ ?_) ?_
 ·cases a with
  |none=>exact gM (Nat.zero_lt_succ 10) aa
  |some c=>
   have d:eR c:=b c rfl;have:=IX 4096 (hA d);rw[eK];show(aL (aZ c)).2.1.length<_;omega
 dsimp only;rw[beq_self_eq_true]
def MU {f:Nat->ac2} {d b:Int} {N:Nat} (j:N<=1000000) (e:∀a,dm (f a)):ur ((d,b,aF N (λa=>aT (f a)),()),(d,b,aF N (λa=>aT (f a)),()),())=some (true,()):=by
 unfold ur;refine ak (y:=.inl ()) ?_ ?_
 ·rw[bb ab,bb ab,a2 ab]
 dsimp only;refine ac.eq_iff.1 ?_;refine ac.aU (P:=λh=>h=.inl ()) ?_ (by rintro _ rfl;exact ac.af.2 rfl);refine ac.steps N (λa i=>i=((a:Int),())) rfl ?_ ?_
 ·rintro a _ g rfl;dsimp only;rw[bb (aA (show(a:Int)<ar (aF N λa=>aT (f a)) by rw[aV,bp];omega)),bi U];have c:ax (aF N λa=>aT (f a)) (a:Int)=some (aT (f a)):=(by rw[bL (by rw[bp];exact g),gx]);refine ac.bs c (ac.bs c (ac.bs (Gn (e a)) ?_));dsimp only;rw[a2 (show(!true)=false from rfl)];exact ac.af.2 rfl
 rintro _ rfl;dsimp only;rw[a2 (ay (show¬((N:Int)<ar (aF N λa=>aT (f a))) by rw[aV,bp];omega))];exact ac.af.2 rfl
def XO (b a:Int):ur ((b,a,[],()),(b,a,[],()),())=some (true,()):=MU (f:=λ_=>none) (N:=0) U (λd e c=>by cases c)
def hP (A:Nat->Nat->ac2) (n:Nat):List bw:=aF (n*n) λa=>aT (A (a %n) (a/n))
section
variable {n:Nat} {st C D o:ac8}
def Hg (i:n<=5) (r:ev n n st C D) (q:eA n n st C D=0) (s:dG o n):o5 (((n:Int),(n:Int),st,C,D,()),o,())=some (((n:Int),(n:Int),hP (bg (bt st C D n) o) n,()),0,()):=by
 obtain⟨t,m,p⟩:=yV i r q s;have v:=nB i;unfold o5;refine ak p ?_;dsimp only;rw[a2 (by rfl)];refine ak rfl ?_;dsimp only;rw[a2 (ay (U:¬(n:Int)>64))];refine ak rfl (ak rfl (ak rfl ?_));generalize bt st C D n=E at*;generalize g6 n (eb E) o=G at*;refine ac.eq_iff.1 ?_;dsimp only;generalize w:(((0:Int),(0:Int),[],()):dh)=d;refine ac.aU (P:=λe=>e=(d,((n:Int),(n:Int),hP (bg E o) n,()),())) ?_ (by rintro _ rfl;exact ac.af.2 rfl);refine ac.steps n (λa f=>f=((a:Int),d,((n:Int),(n:Int),aF (a*n) (λb=>aT (bg E o (b %n) (b/n))),()),())) ?_ ?_ ?_
 ·rw[p8];rfl
 ·rintro a _ h rfl;dsimp only;rw[bb (aA (U:(a:Int)<(n:Int))),bi U];have u:a*n+n<=n*n:=by
   have:(a+1)*n<=n*n:=gE _ h;rw[e2,gN] at this;omega
  refine ac.bs rfl ?_;refine ac.aU (P:=λe=>e=(d,((n:Int),(n:Int),aF (a*n+n) (λb=>aT (bg E o (b %n) (b/n))),()),())) ?_ (by rintro _ rfl;exact ac.af.2 (by rw[e2,gN]));refine ac.steps n (λc f=>f=((c:Int),d,((n:Int),(n:Int),aF (a*n+c) (λb=>aT (bg E o (b %n) (b/n))),()),())) rfl ?_ ?_
  ·rintro c _ g rfl;dsimp only;rw[bb (aA (U:(c:Int)<(n:Int))),bi U];refine ac.bs (MT m g h) ?_;dsimp only;refine ac.bs (Bd (jq _)) ?_;dsimp only;rw[er (by rw[bp];simp;omega),Option.bind_some];refine ac.af.2 ?_;obtain⟨k,l⟩:=sg (n:=n) (j:=a) g;rw[<-Nat.add_assoc,m8 (a*n+c),k,l]
  rintro _ rfl;dsimp only;rw[a2 (ay (U:¬((n:Int)<(n:Int))))];exact ac.af.2 rfl
 rintro _ rfl;dsimp only;rw[a2 (ay (U:¬((n:Int)<(n:Int))))];exact ac.af.2 rfl
def Hf (d:ev b a st C D) (e:o.length<=1000000) (c:fl b a st C D o≠0):o5 (((b:Int),(a:Int),st,C,D,()),o,())=some (((0:Int),(0:Int),[],()),fl b a st C D o,()):=by unfold o5;refine ak (Da d e c) ?_;dsimp only;rw[bH,ay c];rfl
def Mn (g:n<=5) (q:ev n n st C D) (l:eA n n st C D=0) (h:dG o n):pg (((n:Int),(n:Int),st,C,D,()),o,())=some (((n:Int),(n:Int),hP (bg (bt st C D n) o) n,()),0,()):=by
 classical
 have x:=nB g;have w:=h.1;have t:=λc b (d:c<n) (e:b<n)=>Mi q l h d e;unfold pg;refine ak (sZ q U) ?_;have u:(if eA n n st C D≠0 then eA n n st C D else if n≠n then 5 else if dG o n then 0 else 90)=0:=(by rw[if_neg (not_not_intro l),if_neg (not_not_intro rfl),if_pos h]);rw[u];dsimp only;rw[a2 (by rfl),a2 (ay (U:¬(n:Int)>64))];refine ak (Ml g) ?_;dsimp only;generalize bt st C D n=E at*;refine ac.eq_iff.1 ?_;generalize y:(((0:Int),(0:Int),[],()):dh)=f;refine ac.aU (P:=λi=>i=(f,((n:Int),(n:Int),hP (bg E o) n,()),())) ?_ (by rintro _ rfl;exact ac.af.2 rfl);refine ac.steps n (λb k=>k=((b:Int),f,((n:Int),(n:Int),aF (n*n) (li (λa=>aT (bg E o (a %n) (a/n))) (b*n)),()),())) ?_ ?_ ?_
 ·rw[p8];rfl
 ·rintro b _ e rfl;dsimp only;rw[bb (aA (U:(b:Int)<(n:Int))),bi U];refine ac.aU (P:=λi=>i=(f,((n:Int),(n:Int),aF (n*n) (li (λa=>aT (bg E o (a %n) (a/n))) (b*n+n)),()),())) ?_ (by rintro _ rfl;exact ac.af.2 (by rw[Nat.add_mul,Nat.one_mul]));refine ac.steps n (λc k=>k=((c:Int),f,((n:Int),(n:Int),aF (n*n) (li (λa=>aT (bg E o (a %n) (a/n))) (b*n+c)),()),())) rfl ?_ ?_
  ·rintro c _ d rfl;dsimp only;rw[bb (aA (U:(c:Int)<(n:Int))),bi U];refine ac.bs (t c b d e) ?_;dsimp only;have m:=tM e d;rw[yx g e d];refine ac.bs (eL (by rw[bp];exact m)) ?_;rw[fv m];refine ac.af.2 ?_;have:=Nz (λa=>aT (bg E o (a %n) (a/n))) (N:=n*n) (p:=b*n+c);obtain⟨r,s⟩:=sg (n:=n) (j:=b) d;rw[r,s] at this;rw[<-Nat.add_assoc,<-this]
  rintro _ rfl;dsimp only;rw[a2 (ay (U:¬((n:Int)<(n:Int))))];exact ac.af.2 rfl
 rintro _ rfl;dsimp only;rw[a2 (ay (U:¬((n:Int)<(n:Int))))];refine ac.af.2 ?_;have:aF (n*n) (li (λa=>aT (bg E o (a %n) (a/n))) (n*n))=hP (bg E o) n:=dy λa v=>if_pos v;rw[this]
def Mm (d:ev b a st C D) (e:o.length<=1000000) (c:fl b a st C D o≠0):pg (((b:Int),(a:Int),st,C,D,()),o,())=some (((0:Int),(0:Int),[],()),fl b a st C D o,()):=by unfold pg;refine ak (sZ d e) ?_;dsimp only;change(bif fl b a st C D o !=0 then _ else _)=_;rw[bH,ay c];rfl
end
section
variable {A B:Nat->Nat->ac2} {G:acX} {o:ac8} {n:Nat}
def qA (A B:Nat->Nat->ac2) (G:acX) (n a:Nat):ac2:=y6 (n3 (B (a %n) (a/n)) (ot (kk A G n a)))
def gj (A B:Nat->Nat->ac2) (G:acX) (n:Nat):Nat->Int
 |0=>0
 |t+1=>if gj A B G n t<(qA A B G n t).getD 0 then(qA A B G n t).getD 0 else gj A B G n t
def Ed (b:eD A G o n) (c:∀d e,fh 1 (B d e)) (a:Nat):fh 6 (qA A B G n a):=by unfold qA;exact(fh.add (c _ _) (Wz b a).neg aa).1.abs
def BZ (a:eD A G o n) (b:∀e f,fh 1 (B e f)):∀t,(gj A B G n t).natAbs<=6*nF
 |0=>bM _
 |t+1=>by
  unfold gj;obtain⟨g,d,c⟩:=Ed a b t;rw[d];split
  ·exact c
  exact BZ a b t
def Ij (a b:Int):dx a b>0↔b<a:=by
 unfold dx;split
 ·omega
 split<;>omega
def PW (a b:Int):dx a b<0↔a<b:=by
 unfold dx;split
 ·omega
 split<;>omega
def R0:ni 0=some 0:=rfl
def Of (b:eD A G o n) (e:∀u v,fh 1 (B u v)) {i:b0} (p:o5 (i,o,())=some (((n:Int),(n:Int),hP B n,()),0,())):rU (i,ey A G o n,())=some (aT (some (gj A B G n (n*n))),0,()):=by
 have w:=b.k7;have z:=nB w;unfold rU;refine ak (CZ b) ?_;dsimp only;rw[a2 (by rfl)];refine ak p ?_;dsimp only;rw[a2 (by rfl)];refine ak (OA b) ?_;dsimp only;refine ak (Qj aa aa) ?_;dsimp only;rw[R0];refine ac.eq_iff.1 ?_;generalize C:((false,((false,([],())),((0:Int),()))):bw)=c;refine ac.aU (P:=λg=>g=(c,aT (some (gj A B G n (n*n))),())) ?_ (by rintro _ rfl;exact ac.af.2 rfl);refine ac.steps (n*n) (λa y=>y=((a:Int),c,((n:Int),(n:Int),hP B n,()),((n:Int),(n:Int),lN A G n,()),aT (some (gj A B G n a)),())) rfl ?_ ?_
 ·rintro a _ j rfl;dsimp only;rw[bb (aA (show(a:Int)<ar (hP B n) by rw[aV];unfold hP;rw[bp];omega)),bi U];have al:ax (hP B n) (a:Int)=some (aT (B (a %n) (a/n))):=(by unfold hP;rw[bL (by rw[bp];exact j),gx]);have l:ax (lN A G n) (a:Int)=some (aT (kk A G n a)):=(by unfold lN;rw[bL (by rw[bp];exact j),gx]);obtain⟨h,f,t⟩:=Ed b e a;have r:dm (B (a %n) (a/n)):=λE k=>by
   obtain⟨D,s,q⟩:=e (a %n) (a/n);rw[s] at k;cases k;exact pI q aa
  refine ac.aU (P:=λg=>g=(c,((n:Int),(n:Int),hP B n,()),((n:Int),(n:Int),lN A G n,()),aT (some (gj A B G n (a+1))),())) ?_ (by rintro _ rfl;exact ac.af.2 rfl);refine ac.bs al (ac.bs l (ac.bs (Qq r (Mc a)) ?_));dsimp only;refine ac.bs (Qg (Ht _ _)) ?_;dsimp only;change ac ((wk (aT (qA A B G n a),aT (some (gj A B G n a)),())).bind _) _;rw[f];refine ac.bs (Qi (pI t aa) (pI (BZ b e a) aa)) ?_;have m:gj A B G n (a+1)=if gj A B G n a<h then h else gj A B G n a:=by rw[gj,f];rfl
  change ac (bif decide (dx h (gj A B G n a)>0) then some (c,((n:Int),(n:Int),hP B n,()),((n:Int),(n:Int),lN A G n,()),aT (qA A B G n a),()) else some (c,((n:Int),(n:Int),hP B n,()),((n:Int),(n:Int),lN A G n,()),aT (some (gj A B G n a)),())) _;rw[f,bj,m];refine ac.ite (λd=>?_) (λd=>?_)
  ·rw[aj ((Ij _ _).1 d)];exact ac.af.2 rfl
  rw[ag (λx=>d ((Ij _ _).2 x))];exact ac.af.2 rfl
 rintro _ rfl;dsimp only;rw[a2 (ay (show¬((n*n:Nat):Int)<ar (hP B n) by rw[aV];unfold hP;rw[bp];omega))];exact ac.af.2 rfl
def WM (b:eD A G o n) (e:∀u v,fh 1 (B u v)) {h:b0} (m:pg (h,o,())=some (((n:Int),(n:Int),hP B n,()),0,())):sb (h,ey A G o n,())=some (aT (some (gj A B G n (n*n))),0,()):=by
 have w:=b.k7;have z:=nB w;unfold sb;refine ak (F6 b) ?_;dsimp only;rw[a2 (by rfl)];refine ak m ?_;dsimp only;rw[a2 (by rfl)];refine ak (WQ b) ?_;dsimp only;refine ak (y:=(aT (some (gj A B G n (n*n))),())) ?_ rfl;unfold D6;refine ac.eq_iff.1 ?_;dsimp only;refine ac.aU (P:=λg=>g=(jg,aT (some (gj A B G n (n*n))),())) ?_ (by rintro _ rfl;exact ac.af.2 rfl);refine ac.steps (n*n) (λa x=>x=((a:Int),jg,aT (some (gj A B G n a)),())) ?_ ?_ ?_
 ·show(_:Int×bw×bw×Unit)=(_,jg,aT (some 0),());rw[<-Ee];rfl
 ·rintro a _ i rfl;dsimp only;rw[bb (aA (show(a:Int)<ar (hP B n) by rw[aV];unfold hP;rw[bp];omega)),bi U];have al:ax (hP B n) (a:Int)=some (aT (B (a %n) (a/n))):=(by unfold hP;rw[bL (by rw[bp];exact i),gx]);have k:ax (lN A G n) (a:Int)=some (aT (kk A G n a)):=(by unfold lN;rw[bL (by rw[bp];exact i),gx]);obtain⟨c,f,t⟩:=Ed b e a;have r:dm (B (a %n) (a/n)):=λD j=>by
   obtain⟨C,s,p⟩:=e (a %n) (a/n);rw[s] at j;cases j;exact pI p aa
  refine ac.aU (P:=λg=>g=(jg,aT (some (gj A B G n (a+1))),())) ?_ (by rintro _ rfl;exact ac.af.2 rfl);refine ac.bs al (ac.bs k (ac.bs (Xb r (Mc a)) ?_));dsimp only;refine ac.bs (W4 (Ht _ _)) ?_;dsimp only;change ac ((w4 (aT (some (gj A B G n a)),aT (qA A B G n a),())).bind _) _;rw[f];have q:w4 (aT (some (gj A B G n a)),aT (some c),())=some (decide (gj A B G n a<c),()):=(by unfold w4;refine ak (W6 (pI (BZ b e a) aa) (pI t aa)) ?_;dsimp only;rw[decide_eq_decide.2 (PW _ _)]);refine ac.bs q ?_;have l:gj A B G n (a+1)=if gj A B G n a<c then c else gj A B G n a:=by rw[gj,f];rfl
  change ac (bif decide (gj A B G n a<c) then some (jg,aT (qA A B G n a),()) else some (jg,aT (some (gj A B G n a)),())) _;rw[f,bj,l];refine ac.ite (λd=>?_) (λd=>?_)
  ·rw[aj d];exact ac.af.2 rfl
  rw[ag d];exact ac.af.2 rfl
 rintro _ rfl;dsimp only;rw[a2 (ay (show¬((n*n:Nat):Int)<ar (hP B n) by rw[aV];unfold hP;rw[bp];omega))];exact ac.af.2 rfl
def Tc (b:eD A G o n) (c:∀e f,fh 1 (B e f)) (a:Nat):dm (some (gj A B G n a)):=λg d=>by cases d;exact pI (BZ b c a) aa
end
end
section
def G7 (f:dq) (o:ac8):Prop:=(∃a b c,f=ey a b o c/\eD a b o c)\/f=fA
def Ok {d c e:ac8} (l:a<=5) (k:ev a b d c e) {o:ac8} (r:o.length<=1000000):∃f s h,vT f/\G7 f o/\o4 (((a:Int),(b:Int),d,c,e,()),o,())=some (f,s,h,())/\qx (((a:Int),(b:Int),d,c,e,()),o,())=some (f,s,h,()):=by
 by_cases m:fl a b d c e o=0
 ·obtain⟨p,rfl,g⟩:=CC m;have i:=Ha l k p g;have j:=Mk l k p g;have q:=J3 (A:=bg (bt d c e a) o) l (xm (E:=eb (bt d c e a)) g) (o:=o) (by rw[g.1];omega);rcases Sr (bg (bt d c e a) o) (g6 a (eb (bt d c e a)) o) o a with⟨h,n⟩|⟨u,h,t,n⟩
  ·rw[h] at i j q;exact⟨_,_,_,q,.inl ⟨_,_,_,rfl,l,xm g,g,n⟩,i,j⟩
  rw[t] at i j;exact⟨_,_,_,u7,.inr rfl,i,j⟩
 exact⟨_,_,_,u7,.inr rfl,Ol k r m,WN k r m⟩
section
variable {f:dq} {o:ac8}
def Oy {f e g:ac8} (i:a<=5) (d:ev a b f e g) (l:o.length<=1000000):∃c j,o5 (((a:Int),(b:Int),f,e,g,()),o,())=some (c,j,())/\pg (((a:Int),(b:Int),f,e,g,()),o,())=some (c,j,())/\ur (c,c,())=some (true,()):=by
 by_cases h:fl a b f e g o=0
 ·obtain⟨k,rfl,m⟩:=CC h;have:=nB i;exact⟨_,_,Hg i d k m,Mn i d k m,MU U (λn=>jq _)⟩
 exact⟨_,_,Hf d l h,Mm d l h,XO _ _⟩
def Og {d c e:ac8} (t:a<=5) (n:ev a b d c e) (s:o.length<=1000000) (g:G7 f o):∃l r,rU (((a:Int),(b:Int),d,c,e,()),f,())=some (l,r,())/\sb (((a:Int),(b:Int),d,c,e,()),f,())=some (l,r,())/\r5 (l,l,())=some (true,()):=by
 have u:r5 (jg,jg,())=some (true,()):=(by rw[Ee,<-sP];exact Gn (jq _));rcases g with⟨j,k,i,rfl,g⟩|rfl
 ·by_cases h:fl a b d c e o=0
  ·obtain⟨m,rfl,q⟩:=CC h;obtain rfl:a=i:=(by rw[<-q.1,<-g.op.1]);have y:=(jL.1 m).1;have x:=(jL.1 m).2;have p:∀v w,fh 1 (bg (bt d c e a) o v w):=λv w=>fh.Rp (Y7 (so y (Ex x)) _ _);exact⟨_,_,Of g p (Hg t n m q),WM g p (Mn t n m q),Gn (Tc g p _)⟩
  refine⟨jg,fl a b d c e o,?_,?_,u⟩
  ·unfold rU;refine ak (CZ g) ?_;dsimp only;rw[a2 (by rfl)];refine ak (Hf n s h) ?_;dsimp only;rw[bb (show(fl a b d c e (ey j k o i).1 !=0)=true by rw[bH,ay (show¬fl a b d c e (ey j k o i).1=0 from h)];rfl)];rfl
  unfold sb;refine ak (F6 g) ?_;dsimp only;rw[a2 (by rfl)];refine ak (Mm n s h) ?_;dsimp only;rw[bb (show(fl a b d c e (ey j k o i).1 !=0)=true by rw[bH,ay (show¬fl a b d c e (ey j k o i).1=0 from h)];rfl)];rfl
 refine⟨jg,2,?_,?_,u⟩
 ·unfold rU;exact ak NX rfl
 unfold sb;exact ak WI rfl
end
end
section
def WL {st C B:ac8} (d:ev b a st C B) {o:ac8} (e:o.length<=1000000) (c:fl b a st C B o≠0) (f:mW):uC (((b:Int),(a:Int),st,C,B,()),o,f,())=some (fl b a st C B o,()):=by unfold uC;refine ak (sZ d e) ?_;dsimp only;change(bif fl b a st C B o !=0 then some (fl b a st C B o,()) else _)=_;rw[bH,ay c];rfl
def Od {st C B:ac8} (d:ev b a st C B) {o:ac8} (e:o.length<=1000000) (c:fl b a st C B o≠0) (f:mW):o3 (((b:Int),(a:Int),st,C,B,()),o,f,())=some (fA,0,fl b a st C B o,()):=by unfold o3;refine ak (Da d e c) ?_;dsimp only;rw[bb (show(fl b a st C B o !=0)=true by rw[bH,ay c];rfl)];rfl
def Oc {st C B:ac8} (e:ev b a st C B) {o:ac8} (f:o.length<=1000000) (d:fl b a st C B o≠0) (c:mW):o3 (((b:Int),(a:Int),st,C,B,()),o,c,())=some (fA,0,fl b a st C B o,())/\qw (((b:Int),(a:Int),st,C,B,()),o,c,())=some (fA,0,fl b a st C B o,()):=by refine⟨Od e f d c,?_⟩;unfold qw;refine ak (WL e f d c) ?_;dsimp only;rw[bb (show(fl b a st C B o !=0)=true by rw[bH,ay d];rfl)];rfl
section
variable {n:Nat} {st C B o:ac8}
def Ob (e:n<=5) (d:ev n n st C B) (c:eA n n st C B=0) (a:dG o n) {l:mW} (k:l.length<4611686018427387904) (m:∀g∈l,g.2.2.1.length<4611686018427387904) (h:k4 (g6 n (eb (bt st C B n)) o) l≠0):o3 (((n:Int),(n:Int),st,C,B,()),o,l,())=some (fA,0,k4 (g6 n (eb (bt st C B n)) o) l,())/\qw (((n:Int),(n:Int),st,C,B,()),o,l,())=some (fA,0,k4 (g6 n (eb (bt st C B n)) o) l,()):=by
 classical
 obtain⟨q,r,j⟩:=yV e d c a;have i:=BD (E:=eb (bt st C B n)) e a;have f:=G2 i k m;have s:=a.1;have b:(k4 (g6 n (eb (bt st C B n)) o) l !=0)=true:=(by rw[bH,ay h];rfl);constructor
 ·unfold o3;refine ak j ?_;dsimp only;rw[a2 (by rfl)];refine ak rfl (ak f.1 ?_);dsimp only;rw[bb b];rfl
 unfold qw;refine ak (y:=(k4 (g6 n (eb (bt st C B n)) o) l,())) ?_ ?_
 ·unfold uC;refine ak (sZ d U) ?_;have p:(if eA n n st C B≠0 then eA n n st C B else if n≠n then 5 else if dG o n then 0 else 90)=0:=by
   rw[ag (not_not_intro c),ag (not_not_intro rfl),aj a]
  rw[p];dsimp only;rw[a2 (by rfl)];refine ak (F7 e d c a) (ak f.2 ?_);dsimp only;rw[bb b]
 dsimp only;rw[bb b];rfl
def Ri {b:acX} (a:k4 b []=0):b.length=0:=by
 unfold k4 at a;by_cases c:gw b=0
 ·rw[ag (not_not_intro c)] at a;by_cases d:lj b []
  ·have:=d.1.2;exact this.symm.trans rfl
  rw[ag d] at a;cases a
 rw[aj c] at a;exact absurd a c
end
def Oe {st C B:ac8} (e:a<=5) (c:ev a b st C B) {o:ac8} (u:o.length<=1000000):∃k h p,vT k/\o3 (((a:Int),(b:Int),st,C,B,()),o,[],())=some (k,h,p,())/\qw (((a:Int),(b:Int),st,C,B,()),o,[],())=some (k,h,p,()):=by
 classical
 by_cases q:fl a b st C B o=0
 ·obtain⟨f,rfl,d⟩:=CC q;by_cases n:k4 (g6 a (eb (bt st C B a)) o) []=0
  ·have g:=xm (E:=eb (bt st C B a)) d;obtain rfl:a=0:=(by rw[<-g];exact Ri n);obtain⟨v,F,x⟩:=yV e c f d;have r:=BD (E:=eb (bt st C B 0)) e d;have w:=EK 0 (eb (bt st C B 0)) o;have m:=G2 r (l:=[]) ab ab;have G:=d.1;rw[n] at m;have s:=Mk e c f d;rw[xA (λh c=>absurd c U)] at s;have t:=J3 (A:=bg (bt st C B 0) o) e g (o:=o) U;rw[xA (λh c=>absurd c U)] at t;refine⟨_,((0:Nat):Int),0,t,?_,?_⟩
   ·unfold o3;refine ak x ?_;dsimp only;rw[a2 (by rfl)];refine ak rfl (ak m.1 ?_);dsimp only;rw[a2 (by rfl)];refine ak (y:=.inl (fA,())) ?_ ?_
    ·rw[BO];rfl
    dsimp only;refine ak (H0 e g w r v) ?_;dsimp only;refine ak (y:=0) rfl (ak (y:=0) rfl ?_);refine ak (y:=.inl (fA,(aF 0 (aY (g6 0 (eb (bt st C B 0)) o)),aF 0 (fP (bg (bt st C B 0) o) (g6 0 (eb (bt st C B 0)) o)),(aF 0 λ_=>none),(aF 0 λD=>gm (g6 0 (eb (bt st C B 0)) o) 0 D),()),())) ?_ ?_
    ·rw[BO];rfl
    dsimp only;refine ak (Ja e g u _ _) ?_;rfl
   unfold qw;refine ak (y:=(0,())) ?_ ?_
   ·unfold uC;refine ak (sZ c U) ?_;have z:(if eA 0 0 st C B≠0 then eA 0 0 st C B else if 0≠0 then 5 else if dG o 0 then 0 else 90)=0:=by
     rw[ag (not_not_intro f),ag (not_not_intro rfl),aj d]
    rw[z];dsimp only;rw[a2 (by rfl)];refine ak (F7 e c f d) (ak m.2 ?_);dsimp only;rw[a2 (by rfl)];refine ak (y:=.inl ()) ?_ rfl;rw[BO];rfl
   dsimp only;rw[a2 (by rfl)];exact ak s rfl
  obtain⟨i,j⟩:=Ob e c f d (l:=[]) ab ab n;exact⟨_,_,_,u7,i,j⟩
 obtain⟨i,j⟩:=Oc c u q [];exact⟨_,_,_,u7,i,j⟩
def ev.XS {st C B:ac8} (c:ev b a st C B) (d:Nat) (e:Int):ev b a st (C.set d e) B:=⟨c.hr,c.hc,by rw[rz];exact c.hi,c.hs,c.hv,c.hw⟩
def ev.XV {st C B:ac8} (c:ev b a st C B) (g:Nat) {d:Int} (f:dU d):ev b a st C (B.set g d):=
 ⟨c.hr,c.hc,c.hi,c.hs,by rw[rz];exact c.hv,λi e=>by
  rcases List.mem_or_eq_of_mem_set e with h|rfl
  ·exact c.hw i h
  exact f⟩
def NY (t:ac8) (m i d y:Int) (r:t.length<=9223372036854775807):D5 (t,m,i,d,y,())=some (true,()):=by
 unfold D5;refine ac.eq_iff.1 ?_;refine ac.bs (pB m (n:=4) aa aa) (ac.bs (pB i (n:=4) aa aa) ?_);have ad:=sL m (n:=4) aa;have Z:=sL i (n:=4) aa;have M:=pB i (n:=4) aa aa;dsimp only;generalize nl m 4=e at*;generalize nl i 4=c at*;refine ac.aU (Oh r (rows:=e) (fF:=c) U U y) ?_;rintro⟨S,_⟩ s;dsimp only at s|-;obtain⟨st,C,B,rfl,aw,w,x⟩:=s.ex;have j:=yJ.small U U aw w x;clear s aw w x;refine ac.aU (P:=λf=>∃h,f=(((e:Int),(c:Int),st,h,B,()),())/\ev e c st h B) ?_ ?_
 ·refine ac.aU (P:=λf=>∃a,f=(a,((e:Int),(c:Int),st,C,B,()),())/\(a=true->0<C.length)) ?_ ?_
  ·by_cases b:0<C.length
   ·rw[bb (by rw[aV,aA (U:(C.length:Int)>0)];rfl)];unfold fS;rw[aj aa,aG];exact ac.af.2 ⟨_,rfl,λ_=>b⟩
   rw[a2 (by rw[aV,ay (U:¬(C.length:Int)>0)];rfl)];exact ac.af.2 ⟨_,rfl,λp=>by cases p⟩
  rintro _ ⟨a,rfl,q⟩;dsimp only;cases a with
  |false=>exact ac.af.2 ⟨C,rfl,j⟩
  |true=>
   have b:=q rfl;have O:=j.hi;rw[cond_true,aV];refine ac.bs (pB d b U) ?_;have g:=sL d b;dsimp only;generalize nl d C.length=R at*;rw[iZ g];refine ac.bs (pB d (n:=3) aa aa) (ac.bs (eL g) ?_);rw[mZ (List.getElem?_eq_getElem g)];exact ac.af.2 ⟨_,rfl,j.XS _ _⟩
 rintro _ ⟨h,rfl,k⟩;dsimp only;clear j;refine ac.aU (P:=λf=>∃u,f=(((e:Int),(c:Int),st,h,u,()),())/\ev e c st h u) ?_ ?_
 ·refine ac.aU (P:=λf=>∃a,f=(a,((e:Int),(c:Int),st,h,B,()),())/\(a=true->0<B.length)) ?_ ?_
  ·by_cases b:0<B.length
   ·rw[bb (by rw[aV,aA (U:(B.length:Int)>0)];rfl)];unfold fS;rw[aj aa,aG];exact ac.af.2 ⟨_,rfl,λ_=>b⟩
   rw[a2 (by rw[aV,ay (U:¬(B.length:Int)>0)];rfl)];exact ac.af.2 ⟨_,rfl,λp=>by cases p⟩
  rintro _ ⟨a,rfl,q⟩;dsimp only;cases a with
  |false=>exact ac.af.2 ⟨B,rfl,k⟩
  |true=>
   have b:=q rfl;have O:=k.hv;rw[cond_true,aV];refine ac.bs (pB d b U) ?_;have g:=sL d b;dsimp only;generalize nl d B.length=R at*;refine ac.aU (GQ t r _) ?_;rintro⟨ap,_⟩ v;dsimp only at v|-;refine ac.bs (eL g) ?_;rw[mZ (List.getElem?_eq_getElem g)];exact ac.af.2 ⟨_,rfl,k.XV _ v⟩
 rintro _ ⟨u,rfl,l⟩;dsimp only;clear k;refine ac.bs M ?_;dsimp only;refine ac.aU (Ou r (n:=c) U) ?_;rintro⟨o,_⟩ Q;dsimp only at Q|-;obtain⟨Y,S,V,H,N,f2,I⟩:=Ok U l (o:=o) U;obtain⟨b,am,an,J,K,L⟩:=Oe U l (o:=o) U;obtain⟨a,W,z,A,D⟩:=Oy U l (o:=o) U;obtain⟨T,X,E,F,G⟩:=Og U l (o:=o) U N;refine ac.bs f2 (ac.bs I (ac.bs K (ac.bs L (ac.bs z (ac.bs A (ac.bs E (ac.bs F ?_)))))));dsimp only;rw[bb ab,bb ab];refine ac.bs (MV H) ?_;dsimp only;rw[bb ab,bb ab,bb ab];refine ac.bs (MV J) ?_;dsimp only;rw[bb ab,bb ab];refine ac.bs D ?_;dsimp only;rw[bb ab,bb ab];refine ac.bs G ?_;dsimp only;rw[bb ab];exact ac.bs Pm (ac.af.2 rfl)
end
end Go.ia
end
