/-
  Parts of the proof: Pl6, Pl7, Pl8, Pl9, Pl10, Pl12, ThT, Pa2, Pa3, Pa4, Pa5, Pa6, Pa7, Pa8, Pa9, Pa10, Pa11, Pa12, Pa13, Pa14, Pa15, Pa16, Pa17, Pa18, Pa19, Pa20, Pa21, Pa22, Pa23, Pa24, Pa25, Pa26, Pa27, Pa28, Pa29, Pa30, Pm1, Pm2: the framework (Fw), pure forms (Dn), plain laws (Pl, Th), calls of functions (Ok).
-/
import Derived.Test.YtkhcdgkdpjahpaaGreatDoorB630d2e5d

set_option linter.all false
set_option maxHeartbeats 1000000
noncomputable section
namespace Go.h2
variable{a e:Int}{b c j:Nat}{d f:ad5}{g m:adZ}{h k:Bool}{i:adU}{l:Nat->Nat->Prop}{n:Prop}{o:Type}{p:adR}{q:(c7×Int×Int×aN×Unit)->Prop}{r:Nat->Prop}{s:(c7×Int×aN×Unit)->Prop}
section
def c9 (aD:adU) (a b:Nat):Prop:=∃c:a<aD.length,(b:Int)∈aD[a]
def c9.lt {aD:adU} (f:da aD) (d:c9 aD b c):b<aD.length/\c<aD.length:=by obtain⟨a,e⟩:=d;have:=(f.asc b a).2 _ e;exact⟨a,U⟩
def c9.symm {aD:adU} (e:da aD):∀a b,c9 aD a b->c9 aD b a:=λa b c=>by obtain⟨f,d⟩:=c.lt e;exact⟨d,e.sym a f b d c.2⟩
def c9.ne {aD:adU} (e:da aD) (a:c9 aD b c):b≠c:=λd=>by subst d;exact e.FU b a.1 a.2
def eP.lt {aD:adU} (b:da aD) {e c j:Nat} (a:eP (c9 aD) e c j):c<aD.length/\j<aD.length:=by
 induction a with
 |one a=>exact a.lt b
 |step a _ _ d=>exact⟨(a.lt b).1,d.2⟩
inductive gw (R:Nat->Nat->Prop):Nat->Nat->Prop
 |refl (u:Nat):gw R u u
 |step {u p v:Nat}:R u p->gw R p v->gw R u v
def gw.trans (a:gw l b c) (d:gw l c j):gw l b j:=by
 induction a with
 |refl=>exact d
 |step a _ e=>exact .step a (e d)
def gw.mono {d:Nat->Nat->Prop} (f:∀b e,l b e->d b e) (a:gw l b c):gw d b c:=by
 induction a with
 |refl=>exact .refl _
 |step a _ g=>exact .step (f _ _ a) g
def gw.comp (g:∀b a d,l b a->l b d->a=d) (h:gw l b c) (e:gw l b j):gw l c j\/gw l j c:=by
 induction h with
 |refl=>exact .inl e
 |@step b a c f k n=>
  cases e with
  |refl=>exact .inr (.step f k)
  |@step _ d _ i m=>
   obtain rfl:=g _ _ _ f i;exact n m
section
variable (aD:adU)
def pE (j:Nat) (T:Nat->Prop) (b c:Nat):Prop:=
 (c<j/\iN (c9 aD) b c)\/(c=j/\b<j/\(∀d,d<j->¬iN (c9 aD) b d)/\∃a,T a/\a<j/\c9 aD j a/\gP (c9 aD) a b)
def e5 (eA:ad5) (b a:Nat):Prop:=eA[b]?=some (a:Int)
structure kC (j:Nat) (T:Nat->Prop) (eA mP:ad5):Prop where
 tO:eA.length=aD.length
 K7:mP.length=aD.length
 i4:∀u p,e5 eA u p↔(u<aD.length/\pE aD j T u p)
 none:∀(u:Nat) (x:Int),eA[u]?=some x->x=-1\/∃p:Nat,x=(p:Int)
 Ag:∀u:Nat,mP[u]?=some (-1)↔eA[u]?=some (-1)
 Ah:∀(u:Nat) (x:Int),mP[u]?=some x->x=-1\/∃a p:Nat,x=(a:Int)/\e5 eA u p/\gw (e5 eA) p a
variable {aD} {j:Nat} {T:Nat->Prop} {eA mP:ad5}
theorem pE.lt (d:pE aD j T c b):c<b/\b<=j:=by
 rcases d with⟨e,a⟩|⟨e,a,_⟩
 ·exact⟨a.1,U⟩
 omega
theorem kC.sc (d:kC aD j T eA mP) (f:gw (e5 eA) c b):c<=b/\(c=b\/b<=j):=by
 induction f with
 |refl=>exact⟨a2 _,.inl rfl⟩
 |@step c k b e i g=>
  have h:=((d.i4 _ _).1 e).2.lt;rcases g.2 with a|a
  ·exact⟨U,.inr U⟩
  exact⟨U,.inr a⟩
theorem kC.HR (a:kC aD j T eA mP) (f:gw (e5 eA) c b) (h:b<j):gP (c9 aD) c b:=by
 induction f with
 |refl=>exact .refl _
 |@step c k b e g i=>
  have m:k<=b:=(a.sc g).1;rcases((a.i4 _ _).1 e).2 with⟨_,d⟩|⟨l,_⟩
  ·exact .up d (i h)
  omega
theorem kC.OT (d:kC aD j T eA mP) (g:gw (e5 eA) b j) (p:b<j):∃a,gP (c9 aD) b a/\a<j/\e5 eA a j:=by
 generalize i:j=l at g
 induction g with
 |refl=>omega
 |@step b h l c q k=>
  subst i;have o:=((d.i4 _ _).1 c).2.lt;rcases bg h j with f|f
  ·obtain⟨a,m,n,b3⟩:=k f rfl;rcases((d.i4 _ _).1 c).2 with⟨_,e⟩|⟨e,_⟩
   ·exact⟨a,.up e m,n,b3⟩
   omega
  obtain rfl:h=j:=U;exact⟨b,.refl _,U,c⟩
theorem Hi {j e:Nat} (k:gP (c9 aD) e b) (h:gP (c9 aD) e c) (i:∀a,a<j->¬iN (c9 aD) b a) (n:∀a,a<j->¬iN (c9 aD) c a) (m:b<j) (q:c<j):b=c:=by
 induction k with
 |refl e=>
  cases h with
  |refl=>rfl
  |@up _ g _ d f=>exact absurd d (i g (by have:=f.le;omega))
 |@up e g b d f p=>
  cases h with
  |refl=>exact absurd d (n g (by have:=f.le;omega))
  |@up _ a _ l o=>
   obtain rfl:=d.uniq l;exact p o i m
theorem e5.iF {eA:ad5}:∀d b c,e5 eA d b->e5 eA d c->b=c:=λd b c e a=>by unfold e5 at e a;rw[e] at a;simp at a;omega
theorem gw.tail (d:gw l b c) (f:b≠c):∃a,l b a/\gw l a c:=by
 cases d with
 |refl=>exact absurd rfl f
 |step e g=>exact⟨_,e,g⟩
theorem TA (ci:da aD) (d8:aD.length<=200) (e:kC aD j T eA mP) (d4:j<aD.length) (a4:c9 aD j b):ae (AR ((eA,(mP,())),(b:Int),(j:Int),())) (λg=>kC aD j (λc=>T c\/c=b) g.1.1 g.1.2.1):=by
 have c1:b<aD.length:=(a4.lt ci).2;unfold AR;simp only[ae.bZ]
 let av:ad5->ad5->Prop:=λF p=>
  (∀a,p[a]?=mP[a]?\/(p[a]?=some (j:Int)/\a<j/\gw (e5 eA) b a))/\p.length=aD.length/\
  ((F=eA/\(gw (e5 eA) b j\/j<=b))\/∃g,g<j/\eA[g]?=some (-1)/\gw (e5 eA) b g/\F=eA.set g (j:Int)/\p[g]?=some (j:Int))
 refine ae.mono (P:=λn=>av n.1.1 n.1.2.1) ?_ ?_
 ·refine ae.loop (λu=>(u.1=-1/\av u.2.1.1 u.2.1.2.1)\/∃c:Nat,u.1=(c:Int)/\c<aD.length/\gw (e5 eA) b c/\u.2.1.1=eA/\u.2.1.2.1.length=aD.length/\∀a,u.2.1.2.1[a]?=mP[a]?\/(u.2.1.2.1[a]?=some (j:Int)/\a<j/\a<c/\gw (e5 eA) b a)) (λu=>if u.1=-1 then 0 else 1000-u.1.toNat) (.inr ⟨b,rfl,c1,.refl _,rfl,e.K7,λa=>.inl rfl⟩) ?_;rintro⟨d9,⟨F,p,_⟩,_⟩ bs;simp only at bs;simp only[ae.bZ,ae.bY,ae.ag];rcases bs with⟨rfl,ce⟩|⟨c,rfl,cv,h,rfl,W,G⟩
  ·exact⟨λX=>by simp at X,λ_=>ce⟩
  refine⟨λ_=>⟨λk=>?_,λk=>?_⟩,λX=>by simp at X⟩
  ·have k:c<j:=(by simpa using k);simp only[ae.oU,ae.oE,ae.yN,ae.ag,db];have B:c<p.length:=U;have a3:p[c]?=mP[c]?:=by
    rcases G c with d|⟨_,_,d6,_⟩
    ·exact d
    omega
   refine⟨⟨U,B⟩,B,⟨U,B⟩,B,λx=>?_,λx=>?_⟩
   ·have x:p[c]=-1:=(by simpa using x);have J:F[c]?=some (-1):=(e.Ag c).1 (by rw[<-a3,a9 B,x]);have bl:c<F.length:=(by rw[e.tO];exact cv);refine⟨⟨U,bl⟩,bl,.inl ⟨x,?_,?_,.inr ⟨c,k,J,h,rfl,?_⟩⟩,?_⟩
    ·intro a;rcases kX a c with l|l|l
     ·rw[lZ U];exact(G a).imp id (λ⟨v,z,_,C⟩=>⟨v,z,C⟩)
     ·subst l;rw[kV B];exact .inr ⟨rfl,k,h⟩
     rw[lZ U];exact(G a).imp id (λ⟨v,z,_,C⟩=>⟨v,z,C⟩)
    ·simp[W]
    ·rw[kV B]
    rw[ai x,ah U];omega
   have x:p[c]≠-1:=(by simpa using x);rcases e.Ah c p[c] (by rw[<-a3,a9 B]) with d|⟨v,f,M,L,N⟩
   ·exact absurd d x
   have d7:=((e.i4 _ _).1 L).2.lt;have d0:=e.sc N;have co:v<aD.length:=by rcases d0.2 with d|d<;>omega
   refine⟨.inr ⟨v,M,co,h.trans (.step L N),trivial,by simp[W],λa=>?_⟩,?_⟩
   ·rcases kX a c with l|l|l
    ·rw[lZ U];exact(G a).imp id (λ⟨S,z,C,V⟩=>⟨S,z,U,V⟩)
    ·subst l;rw[kV B];exact .inr ⟨rfl,k,U,h⟩
    rw[lZ U];exact(G a).imp id (λ⟨S,z,C,V⟩=>⟨S,z,U,V⟩)
   rw[ah x,ah U,M];simp only[db];omega
  have k:j<=c:=(by simpa using k);refine⟨λa=>(G a).imp id (λ⟨v,z,_,C⟩=>⟨v,z,C⟩),W,.inl ⟨rfl,?_⟩⟩;rcases(e.sc h).2 with d|d
  ·exact .inr U
  obtain rfl:c=j:=U;exact .inl h
 rintro⟨⟨F,p,_⟩,_⟩ ⟨I,f2,a0⟩;simp only at I f2 a0;simp only[ae.ag];rcases a0 with⟨rfl,h⟩|⟨g,O,J,h,rfl,cs⟩
 ·have ds:∀a f,a<aD.length->(pE aD j (λc=>T c\/c=b) a f↔pE aD j T a f):=by
   intro a f _;constructor
   ·rintro(q|⟨rfl,r,A,c,s,k,D,t⟩)
    ·exact .inl q
    rcases s with s|rfl
    ·exact .inr ⟨rfl,r,A,c,s,k,D,t⟩
    rcases h with h|h
    ·obtain⟨d3,an,ap,b3⟩:=e.OT h k;have H:=((e.i4 _ _).1 b3).2;rcases H with⟨o,_⟩|H
     ·omega
     obtain rfl:=Hi an t H.2.2.1 A ap r;exact .inr H
    omega
   rintro(q|⟨rfl,r,A,c,s,k,D,t⟩)
   ·exact .inl q
   exact .inr ⟨rfl,r,A,c,.inl s,k,D,t⟩
  refine⟨e.tO,f2,λa f=>(e.i4 a f).trans (and_congr_right λl=>(ds a f l).symm),e.none,λa=>?_,λa K m=>?_⟩
  ·rcases I a with d|⟨d,l,w⟩
   ·rw[d];exact e.Ag a
   rw[d];constructor
   ·intro o;simp at o
   intro o;rcases h with h|h
   ·obtain⟨d3,an,ap,b3⟩:=e.OT h (by have:=(e.sc w).1;omega);have t:=e.HR w l;have d2:∀n,n<j->¬iN (c9 aD) a n:=λn Z i=>by
     have:e5 F a n:=(e.i4 a n).2 ⟨U,.inl ⟨Z,i⟩⟩;unfold e5 at this;rw[o] at this;simp at this
    rcases((e.i4 _ _).1 b3).2 with⟨d5,_⟩|H
    ·omega
    obtain rfl:=Hi an t H.2.2.1 d2 ap l;unfold e5 at b3;rw[o] at b3;simp at b3
   have:=(e.sc w).1;omega
  rcases I a with d|⟨d,l,w⟩
  ·rw[d] at m;exact e.Ah a K m
  rw[d] at m;cases m;right;have bd:b<j:=(by have:=(e.sc w).1;omega);rcases h with h|h
  ·rcases w.comp e5.iF h with E|E
   ·obtain⟨f,c2,dl⟩:=E.tail U;exact⟨j,f,rfl,c2,dl⟩
   have:=(e.sc E).1;omega
  omega
 have ad:g<eA.length:=by
  rcases bg g eA.length with o|o
  ·exact o
  rw[hR o] at J;cases J
 have am:∀f,¬e5 eA g f:=λf i=>(by unfold e5 at i;rw[J] at i;simp at i);have ab:∀n,n<j->¬iN (c9 aD) g n:=λn Z i=>am n ((e.i4 g n).2 ⟨by have:=e.tO;omega,.inl ⟨Z,i⟩⟩);have R:∀a f,e5 eA a f->e5 (eA.set g (j:Int)) a f:=λa f i=>(by have Y:a≠g:=λd=>am f (d▸i);unfold e5 at i|-;rw[lZ U];exact i);have Q:e5 (eA.set g (j:Int)) g j:=(by unfold e5;rw[kV ad]);have bd:b<j:=(by have:=(e.sc h).1;omega);have bB:∀a,gw (e5 eA) b a->a≠g->∃f,e5 eA a f/\gw (e5 eA) f g:=λa l Y=>by
  rcases l.comp e5.iF h with E|E
  ·exact E.tail Y
  obtain⟨f,i,_⟩:=E.tail (Ne.symm Y);exact absurd i (am f)
 refine⟨by simp[e.tO],f2,λa f=>?_,λa K m=>?_,λa=>?_,λa K m=>?_⟩
 ·by_cases y:a=g
  ·subst y;have d:e5 (eA.set a (j:Int)) a f↔f=j:=⟨λi=>e5.iF _ _ _ i Q,λd=>d▸Q⟩;rw[d];constructor
   ·rintro rfl;exact⟨by have:=e.tO;omega,.inr ⟨rfl,O,ab,b,.inr rfl,bd,a4,e.HR h O⟩⟩
   rintro⟨_,⟨q,r⟩|⟨q,_⟩⟩
   ·exact absurd r (ab f q)
   exact q
  have d:e5 (eA.set g (j:Int)) a f↔e5 eA a f:=(by unfold e5;rw[lZ U]);rw[d,e.i4];refine and_congr_right λ_=>?_;constructor
  ·rintro(q|⟨rfl,r,A,c,s,k,D,t⟩)
   ·exact .inl q
   exact .inr ⟨rfl,r,A,c,.inl s,k,D,t⟩
  rintro(q|⟨rfl,r,A,c,s,k,D,t⟩)
  ·exact .inl q
  rcases s with s|rfl
  ·exact .inr ⟨rfl,r,A,c,s,k,D,t⟩
  exact absurd (Hi t (e.HR h O) A ab r O) y
 ·by_cases y:a=g
  ·subst y;rw[kV ad] at m;cases m;exact .inr ⟨j,rfl⟩
  rw[lZ U] at m;exact e.none a K m
 ·by_cases y:a=g
  ·subst y;rw[cs,kV ad]
  rw[lZ U];rcases I a with d|⟨d,l,w⟩
  ·rw[d];exact e.Ag a
  rw[d];constructor
  ·intro o;simp at o
  intro o;obtain⟨f,i,_⟩:=bB a w y;unfold e5 at i;rw[o] at i;simp at i
 rcases I a with d|⟨d,l,w⟩
 ·rw[d] at m;rcases e.Ah a K m with d|⟨v,f,M,L,N⟩
  ·exact .inl d
  exact .inr ⟨v,f,M,R _ _ L,N.mono R⟩
 rw[d] at m;cases m;right;by_cases y:a=g
 ·subst y;exact⟨j,j,rfl,Q,.refl _⟩
 obtain⟨f,i,d1⟩:=bB a w y;exact⟨j,f,rfl,R _ _ i,(d1.mono R).trans (.step Q (.refl _))⟩
end
end
def Ob (c a:Nat) (g:ad5) (e:Int) (i:g=List.replicate a e++List.replicate (c-a) 0) (j:a<c):g.set a e=List.replicate (a+1) e++List.replicate (c-(a+1)) 0:=by
 subst i;apply g4;intro b;rw[qM];simp only[oi,nu,zT,lY];split
 ·rename_i h;subst h;rw[ai U,ai U];split<;>first|rfl|omega
 by_cases d:b<a
 ·rw[ai d,ai d,ai (U:b<a+1),ai (U:b<a+1)]
 rw[ah d,ah (U:¬b<a+1)];by_cases f:b-a<c-a
 ·rw[ai f,ai (U:b-(a+1)<c-(a+1))]
 rw[ah f,ah (U:¬b-(a+1)<c-(a+1))]
def UM (a:Nat) (k:a<=200):AS ((a:Int),())=some ((List.replicate a (-1),(List.replicate a (-1),())),()):=by
 rw[<-ae.eq_iff];unfold AS;have j:fm=4294967296:=rfl;simp only[ae.bZ,ae.v5,ae.ag,db];refine⟨⟨U,U,U⟩,⟨U,U,U⟩,?_⟩;refine ae.for (i0:=0) a (λb i=>i.1.1=List.replicate b (-1)++List.replicate (a-b) 0/\i.1.2.1=List.replicate b (-1)++List.replicate (a-b) 0) rfl ⟨ac,ac⟩ (bE _) ?_ ?_
 ·rintro b ⟨⟨g,e,_⟩,_⟩ _ h ⟨c,d⟩;simp only at c d;have l:g.length=a:=(by rw[c];simp;omega);have m:e.length=a:=(by rw[d];simp;omega);simp only[ae.bY,ae.bZ,ae.ag,ae.oU,ae.oE,ae.yN,db];exact⟨λ_=>⟨⟨U,U⟩,U,⟨U,U⟩,U,fJ U,Ob a b g _ c h,Ob a b e _ d h⟩,λf=>by simp at f;omega⟩
 rintro⟨⟨g,e,_⟩,_⟩ ⟨c,d⟩;simp only at c d;simp only[ae.bY,ae.ag];refine⟨λf=>by simp at f,λ_=>?_⟩;rw[c,d];simp
structure sk (aD:adU) (eA:ad5):Prop where
 len:eA.length=aD.length
 i4:∀u p:Nat,eA[u]?=some (p:Int)↔iN (c9 aD) u p
 none:∀(u:Nat) (x:Int),eA[u]?=some x->x=-1\/∃p:Nat,x=(p:Int)
def Zv (c:adU):kC c 0 (λ_=>False) (List.replicate c.length (-1)) (List.replicate c.length (-1)):=by
 refine⟨ac,ac,λd f=>?_,λd e a=>?_,λd=>Iff.rfl,λd e a=>?_⟩
 ·constructor
  ·intro b;unfold e5 at b;rw[lY] at b;split at b
   ·simp at b
   cases b
  rintro⟨_,⟨b,_⟩|⟨_,b,_⟩⟩<;>omega
 ·rw[lY] at a;split at a
  ·cases a;exact .inl rfl
  cases a
 rw[lY] at a;split at a
 ·cases a;exact .inl rfl
 cases a
def kC.OM {h:Nat->Prop} (a:kC i b r f d) (j:∀e g,e<i.length->(pE i b r e g↔pE i c h e g)):kC i c h f d:=
 ⟨a.tO,a.K7,λe g=>(a.i4 e g).trans (and_congr_right λk=>j e g k),a.none,a.Ag,a.Ah⟩
def Xy (s:da i) (q:∀d,c9 i b d->r d) (m c:Nat):pE i b r m c↔pE i (b+1) (λ_=>False) m c:=by
 have e:=c9.symm s;constructor
 ·rintro(⟨o,a⟩|⟨rfl,a,p,d,_,v,u,t⟩)
  ·exact .inl ⟨U,a⟩
  refine .inl ⟨U,a,?_,λz x C f=>?_⟩
  ·have g:eP (c9 i) c d c:=.one (e _ _ u);rcases t.walk with rfl|f
   ·exact g
   exact((f.symm e).mono U).trans v g
  obtain⟨A,D,y⟩:=GX x f;exact p A U y
 rintro(⟨o,a⟩|⟨_,_,_,_,n,_⟩)
 ·rcases bg c b with k|k
  ·exact .inl ⟨k,a⟩
  obtain rfl:c=b:=U;obtain⟨l,h,j⟩:=(Du e a.1).1 a.fill;exact .inr ⟨rfl,a.1,λz B w=>by have:=w.uniq a;omega,l,q l h,by have:=j.le;have:=a.1;omega,h,j⟩
 exact n.elim
def Im (a:adU) (v:∀B∈a,B.length<4611686018427387904) (w:a.length<=200) (j:da a):ae (AQ ((a,()),())) (λy=>y.2.1=0/\sk a y.1):=by
 classical
 unfold AQ;have A:gG a=0:=(by unfold gG;rw[ah U,ai j]);simp only[ae.bZ,zL a v,A,ae.ag,ae.bY];refine⟨λc=>by simp at c,λ_=>?_⟩;rw[UM _ w];simp only[ae.ag];refine ae.mono (P:=λd=>kC a a.length (λ_=>False) d.1.1 d.1.2.1) ?_ ?_
 ·refine ae.for (i0:=0) a.length (λb m=>kC a b (λ_=>False) m.1.1 m.1.2.1) rfl (Zv a) (bE _) ?_ ?_
  ·rintro b ⟨⟨p,s,_⟩,_⟩ _ k e;simp only at e;simp only[ae.bY,ae.bZ,ae.hV,ae.ag];refine⟨λ_=>⟨k,?_⟩,λg=>by simp at g;omega⟩;have D:=v _ (bA k);refine ae.mono (P:=λd=>kC a (b+1) (λ_=>False) d.1.1 d.1.2.1) ?_ ?_
   ·refine ae.for (i0:=0) a[b].length (λi m=>kC a b (λh=>(h:Int)∈a[b].take i) m.1.1 m.1.2.1) rfl (by simpa using e) (bE _) ?_ ?_
    ·rintro i ⟨⟨x,t,_⟩,_⟩ _ o f;simp only at f;simp only[ae.bY,ae.bZ,ae.hV,ae.ag];refine⟨λ_=>⟨o,?_⟩,λg=>by simp at g;omega⟩;have E:=(j.asc b k).2 _ (bA o);obtain⟨h,r⟩:∃h:Nat,a[b][i]=(h:Int):=⟨a[b][i].toNat,U⟩;have q:c9 a b h:=⟨k,r▸bA o⟩;rw[r];refine(TA j w f k q).mono ?_;rintro⟨⟨F,C,_⟩,_⟩ u;simp only at u;refine⟨fJ U,u.OM (λn d _=>?_)⟩;have z:(λl:Nat=>(l:Int)∈a[b].take i\/l=h)=(λl:Nat=>(l:Int)∈a[b].take (i+1)):=by
      funext l;rw[<-nf o,r];apply propext;simp only[eN,eI];constructor<;>rintro(c|c)<;>first|exact .inl c|(right;omega)
     rw[z]
    rintro⟨⟨x,t,_⟩,_⟩ f;simp only at f;simp only[ae.bY,ae.ag];refine⟨λg=>by simp at g,λ_=>?_⟩;rw[ny] at f;exact f.OM (λn d _=>Xy j (λh q=>q.2) n d)
   rintro⟨⟨x,t,_⟩,_⟩ f;exact⟨fJ U,f⟩
  rintro⟨⟨p,s,_⟩,_⟩ e;simp only[ae.bY,ae.ag];exact⟨λg=>by simp at g,λ_=>e⟩
 rintro⟨⟨p,s,_⟩,_⟩ e;simp only at e;refine⟨trivial,e.tO,λn d=>?_,e.none⟩;rw[show(p[n]?=some (d:Int))=e5 p n d from rfl,e.i4];constructor
 ·rintro⟨_,⟨_,c⟩|⟨_,_,_,_,c,_⟩⟩
  ·exact c
  exact c.elim
 intro c;have:=c.2.1.lt j;exact⟨this.1,.inl ⟨this.2,c⟩⟩
section
def jw (c:adU) (a b:Nat):Prop:=b=a\/(a<b/\eP (c9 c) a a b)
open Classical in
def mx (c:adU) (b:Nat):ad5:=((List.range (b+1)).filter λa=>decide (jw c a b)).map λ(a:Nat)=>(a:Int)
open Classical in
def jl (c:adU) (b d:Nat):ad5:=((List.range d).filter λa=>decide (b<=a/\jw c b a)).map λ(a:Nat)=>(a:Int)
def bc (a:adU) (b:Nat):ad5:=jl a b a.length
def Ls:(b:Int)∈mx i c↔b<=c/\jw i b c:=by
 unfold mx;simp only[de,eY,fe,decide_eq_true_eq];constructor
 ·rintro⟨d,⟨e,a⟩,f⟩;have:d=b:=U;subst this;exact⟨U,a⟩
 exactλ⟨e,a⟩=>⟨b,⟨U,a⟩,rfl⟩
def Ur (c:a∈mx i b):∃d:Nat,a=(d:Int)/\d<=b/\jw i d b:=by unfold mx at c;simp only[de,eY,fe,decide_eq_true_eq] at c;obtain⟨e,⟨h,f⟩,g⟩:=c;exact⟨e,g.symm,U,f⟩
def jw.le (a:jw i c b):c<=b:=by rcases a with a|a<;>omega
def m4:(b:Int)∈bc i c↔b<i.length/\jw i c b:=by
 unfold bc jl;simp only[de,eY,fe,decide_eq_true_eq];constructor
 ·rintro⟨e,⟨d,a⟩,f⟩;have:e=b:=U;subst this;exact⟨d,a.2⟩
 exactλ⟨d,a⟩=>⟨b,⟨d,a.le,a⟩,rfl⟩
def DA (c:Nat->Bool) (b:Nat):(((List.range b).filter c).map λ(a:Nat)=>(a:Int)).Pairwise (· < ·):=by rw[sz];refine List.Pairwise.filter _ ?_;exact List.pairwise_lt_range.imp (λd=>by omega)
def YM (a:adU) (b:Nat):(mx a b).Pairwise (· < ·):=DA _ _
def xf (a:adU) (b:Nat):(bc a b).Pairwise (· < ·):=DA _ _
def YN (b:adU) (a:Nat):(mx b a).length<=a+1:=by unfold mx;rw[gE];exact dh (ip _ _) ac
def EK (b:adU) (c a:Nat):(jl b c a).length<=a:=by unfold jl;rw[gE];exact dh (ip _ _) ac
structure wY (aD:adU) (i:Nat) (N:Nat->Prop) (m:ad1):Prop where
 len:m.length=i+1
 top:m[i]?=some true
 iff:∀u,u<i->(m[u]?=some true↔∃k,N k/\gP (c9 aD) k u)
def Rb (ad:da i) (z:sk i d) (ce:b<i.length) (ci:i.length<=200) {G:ad1} (q:wY i b r G) {k0:Nat} (av:k0<i.length):ae (loop (σ:=cQ) (ρ:=cY) (λ(D,v,_)=>
 Option.bind (α:=cY⊕cr) (bif decide (D>=(0:Int))==true then bif decide (D<(b:Int))==true then(bh v.length D).bind λa4=>
 (aZ v a4 λab=>some ab).bind λbl=>
  bif !bl then
 some (.inl (v,())) else
 some (.inr (.inr (v,()))) else some (.inr (.inr (v,()))) else some (.inr (.inr (v,())))) λbd=>match bd with
 |.inl (Q,_)=>(
 (bh Q.length D).bind λZ=>
 (aZ Q Z λ_=>some (Q.set Z true)).bind λbB=>
 (aC d D).bind λbs=>
 some (.inl (bs,bB,())))
 |.inr R=>some R) ((k0:Int),G,())) (λR=>wY i b (λm=>r m\/m=k0) R.1):=by
 refine ae.loop (λh=>h.2.1.length=b+1/\h.2.1[b]?=some true/\(h.1=-1\/∃g:Nat,h.1=(g:Int)/\g<i.length/\gP (c9 i) k0 g)/\(∀a,a<b->h.2.1[a]?=some true->G[a]?=some true\/gP (c9 i) k0 a)/\(∀a,a<b->G[a]?=some true->h.2.1[a]?=some true)/\(∀a,a<b->gP (c9 i) k0 a->h.2.1[a]?=some true\/∃g:Nat,h.1=(g:Int)/\gP (c9 i) g a)/\(∀a e,a<b->e<b->h.2.1[a]?=some true->iN (c9 i) a e->h.2.1[e]?=some true\/h.1=(e:Int))) (λh=>if h.1=-1 then 0 else 1000-h.1.toNat) ?_ ?_
 ·refine⟨q.len,q.top,.inr ⟨k0,rfl,av,.refl _⟩,λa _ c=>.inl c,λa _ c=>c,λa _ c=>.inr ⟨k0,rfl,c⟩,λa e f k j F=>.inl ?_⟩;obtain⟨m,C,t⟩:=(q.iff a f).1 j;exact(q.iff e k).2 ⟨m,C,t.trans (.up F (.refl _))⟩
 rintro⟨cv,n,_⟩ ⟨N,O,M,I,J,y,K⟩;simp only at N O M I J y K;have H:(∀a,a<b->gP (c9 i) k0 a->n[a]?=some true)->wY i b (λm=>r m\/m=k0) n:=λam=>by
  refine⟨N,O,λa f=>⟨λj=>?_,?_⟩⟩
  ·rcases I a f j with c|c
   ·obtain⟨m,C,t⟩:=(q.iff a f).1 c;exact⟨m,.inl C,t⟩
   exact⟨k0,.inr rfl,c⟩
  rintro⟨m,C|rfl,t⟩
  ·exact J a f ((q.iff a f).2 ⟨m,C,t⟩)
  exact am a f t
 simp only[ae.bZ,ae.bY,ae.ag,ae.oU,ae.oE];rcases M with rfl|⟨g,rfl,ap,S⟩
 ·refine⟨λL=>by simp at L,λ_=>H λa f o=>?_⟩;rcases y a f o with c|⟨g,M,_⟩
  ·exact c
  omega
 refine⟨λ_=>⟨λB=>?_,λB=>?_⟩,λL=>by simp at L⟩
 ·have B:g<b:=(by simpa using B);have s:g<n.length:=U;simp only[db];refine⟨⟨U,s⟩,s,λco=>?_,λY=>?_⟩
  ·have V:g<d.length:=(by rw[z.len];exact ap);refine⟨⟨U,s⟩,s,?_⟩;rw[ae.hV];refine⟨V,?_⟩;have E:d[g]?=some d[g]:=a9 V;have X:d[g]=-1\/∃e:Nat,d[g]=(e:Int)/\iN (c9 i) g e:=by
    rcases z.none g _ E with l|⟨e,l⟩
    ·exact .inl l
    exact .inr ⟨e,l,(z.i4 g e).1 (by rw[E,l])⟩
   have p:∀a,(n.set g true)[a]?=some true↔a=g\/n[a]?=some true:=λa=>by
    by_cases f:a=g
    ·subst f;simp[kV s]
    rw[lZ U];simp[f]
   refine⟨⟨by simp[N],by rw[lZ U];exact O,?_,λa f j=>?_,λa f j=>(p a).2 (.inr (J a f j)),λa f o=>?_,λa e f k j F=>?_⟩,?_⟩
   ·rcases X with l|⟨e,l,k⟩
    ·exact .inl l
    exact .inr ⟨e,l,(k.2.1.lt ad).2,S.trans (.up k (.refl _))⟩
   ·rcases(p a).1 j with rfl|j
    ·exact .inr S
    exact I a f j
   ·rcases y a f o with c|⟨u,T,A⟩
    ·exact .inl ((p a).2 (.inr c))
    obtain rfl:u=g:=U;cases A with
    |refl=>exact .inl ((p _).2 (.inl rfl))
    |@up _ e _ k P=>
     have:=(z.i4 u e).2 k;rw[E] at this;exact .inr ⟨e,ee this,P⟩
   ·rcases(p a).1 j with rfl|j
    ·have:=(z.i4 a e).2 F;rw[E] at this;exact .inr (ee this)
    rcases K a e f k j F with c|c
    ·exact .inl ((p e).2 (.inr c))
    exact .inl ((p e).2 (.inl U))
   rcases X with l|⟨e,l,k⟩
   ·rw[ai l,ah U];omega
   have:=k.1;rw[l,ah U,ah U];omega
  have W:n[g]?=some true:=(by rw[a9 s];simp at Y;rw[Y]);refine H λa f o=>?_;rcases y a f o with c|⟨u,T,A⟩
  ·exact c
  obtain rfl:u=g:=U;have:∀{w x:Nat},gP (c9 i) w x->x<b->n[w]?=some true->n[x]?=some true:=by
   intro w x c
   induction c with
   |refl=>exactλ_ c=>c
   |@up w e x k P a3=>
    intro an a0;have cs:=P.le;refine a3 an ?_;rcases K w e (by have:=k.1;omega) U a0 k with c|c
    ·exact c
    have:e=u:=U;rw[this];exact W
  exact this A f W
 have B:b<=g:=(by simpa using B);refine H λa f o=>?_;rcases y a f o with c|⟨u,T,A⟩
 ·exact c
 have:=A.le;omega
open Classical in
def YO (t:da i) (B:∀F∈i,F.length<4611686018427387904) (z:sk i d) (n:b<i.length) (C:i.length<=200):B0 ((i,()),d,(b:Int),())=some (mx i b,()):=by
 rw[<-ae.eq_iff];unfold B0;have I:fm=4294967296:=rfl;have D:=c9.symm t;have E:IntKind.i64.wrap ((b:Int)+1)=((b+1:Nat):Int):=fJ U;simp only[E,ae.bZ,ae.v5,ae.oU,ae.oE,ae.ag,db,ae.hV,nu];refine⟨⟨U,U,U⟩,⟨U,U⟩,U,n,?_⟩;have H:=B _ (bA n);refine ae.mono (P:=λG=>wY i b (λa=>c9 i b a) G.1) ?_ ?_
 ·refine ae.for (i0:=0) i[b].length (λa r=>wY i b (λe=>(e:Int)∈i[b].take a) r.1) rfl ?_ (bE _) ?_ ?_
  ·refine⟨ac,by rw[kV ac],λh q=>?_⟩;rw[lZ U,lY];simp
  ·rintro a ⟨m,_⟩ _ g f;simp only at f;simp only[ae.bY,ae.bZ,ae.hV];refine⟨λ_=>⟨g,?_⟩,λj=>by simp at j;omega⟩;have K:=(t.asc b n).2 _ (bA g);obtain⟨s,l⟩:∃s:Nat,i[b][a]=(s:Int):=⟨i[b][a].toNat,U⟩;rw[l];refine(Rb t z n C f (k0:=s) U).mono ?_;rintro⟨x,_⟩ A;simp only[ae.ag];refine⟨fJ U,?_⟩;have o:(λe:Nat=>(e:Int)∈i[b].take a\/e=s)=(λe:Nat=>(e:Int)∈i[b].take (a+1)):=by
    funext e;rw[<-nf g,l];apply propext;simp only[eN,eI];constructor<;>rintro(c|c)<;>first|exact .inl c|(right;omega)
   rw[<-o];exact A
  rintro⟨m,_⟩ f;simp only[ae.bY,ae.ag];refine⟨λj=>by simp at j,λ_=>?_⟩;rw[ny] at f;have o:(λe:Nat=>(e:Int)∈i[b])=(λe=>c9 i b e):=(by funext e;exact propext ⟨λc=>⟨n,c⟩,λc=>c.2⟩);rw[<-o];exact f
 rintro⟨m,_⟩ f;simp only at f;simp only[ae.bZ,ae.ag];have u:∀h,(q:h<m.length)->(m[h]=true↔jw i h b):=by
  intro h q;have v:=f.len;rcases bg h b with c|c
  ·have:=f.iff h c;rw[a9 q,bS] at this;rw[this,<-Du D c];constructor
   ·exactλl=>.inr ⟨c,l⟩
   rintro(o|⟨_,l⟩)
   ·omega
   exact l
  obtain rfl:h=b:=U;have:=f.top;rw[a9 q,bS] at this;rw[this];exact⟨λ_=>.inl rfl,λ_=>rfl⟩
 have v:=f.len;refine ae.for (i0:=0) m.length (λa r=>r.1=m/\r.2.1=((List.range a).filter λw=>decide (jw i w b)).map λ(w:Nat)=>(w:Int)) rfl ⟨rfl,rfl⟩ (bE _) ?_ ?_
 ·rintro a ⟨x,y,_⟩ _ g ⟨rfl,k⟩;simp only at k g v u;have J:y.length<=a:=by
   rw[k,gE];exact dh (ip _ _) ac
  simp only[ae.bY,ae.bZ,ae.oU,ae.oE,ae.ag,ae.rG,db];refine⟨λ_=>⟨⟨U,g⟩,g,λp=>⟨?_,fJ U,trivial,?_⟩,λp=>⟨fJ U,trivial,?_⟩⟩,λj=>by simp at j;omega⟩
  ·simp;omega
  ·have:=(u a g).1 p;rw[iP,jc,fN,<-k];simp[this]
  have:¬jw i a b:=λc=>(by rw[(u a g).2 c] at p;cases p);rw[iP,jc,fN,<-k];simp[this]
 rintro⟨x,y,_⟩ ⟨rfl,k⟩;simp only at k;simp only[ae.bY,ae.ag];refine⟨λj=>by simp at j,λ_=>?_⟩;rw[k];unfold mx;rw[v]
open Classical in
def Ri (c:adU) (b a:Nat):jl c b (a+1)=jl c b a++(if b<=a/\jw c b a then[(a:Int)] else[]):=by
 unfold jl;rw[iP,jc,fN];congr 1;by_cases d:b<=a/\jw c b a
 ·rw[ai d];simp[d]
 rw[ah d];simp only[jd,px];rw[ah (by simpa using d)];rfl
theorem Pf (r:da i) (s:∀C∈i,C.length<4611686018427387904) (u:i.length<=200):BZ ((i,()),())=some ((List.range i.length).map (bc i),0,()):=by
 classical
 rw[<-ae.eq_iff];unfold BZ;have K:fm=4294967296:=rfl;simp only[ae.bZ];refine(Im i s u r).mono ?_;rintro⟨N,H,_⟩ ⟨t,n⟩;simp only at t n;subst t;have B:=n.len;simp only[ae.bY,ae.bZ,ae.ag,ae.v5,db];refine⟨λc=>by simp at c,λ_=>⟨⟨U,U,U⟩,?_⟩⟩;rw[B];refine ae.for (i0:=0) i.length (λb m=>m.1=(List.range i.length).map λa=>jl i a b) rfl ?_ (bE _) ?_ ?_
 ·apply g4;intro l;simp[jl,lY];split<;>simp_all
 ·rintro b ⟨E,_⟩ _ x j;simp only at j;simp only[ae.bY,ae.bZ,YO r s n x u,ae.ag];refine⟨λ_=>?_,λe=>by simp at e;omega⟩;have M:=YN i b;refine ae.mono (P:=λF=>F.1=(List.range i.length).map λa=>jl i a (b+1)) ?_ ?_
  ·refine ae.for (i0:=0) (mx i b).length (λl m=>m.2.1=mx i b/\m.1=(List.range i.length).map λa=>jl i a b++(if(a:Int)∈(mx i b).take l then[(b:Int)] else[])) rfl ?_ (bE _) ?_ ?_
   ·refine⟨rfl,?_⟩;rw[j];simp
   ·rintro l ⟨h,G,_⟩ _ g ⟨k,d⟩;simp only at k d;subst k;obtain⟨a,o,J,_⟩:=Ur (bA g);have L:h.length=i.length:=(by rw[d];simp);have f:a<h.length:=U;have A:(a:Int)∉(mx i b).take l:=λp=>by
     obtain⟨D,y,z⟩:=fC.1 p;simp only[dZ] at y;simp only[wV] at z;have:=(gj.1 (YM i b)) D l U g U;omega
    have v:h[a]=jl i a b:=(by have:h[a]?=some (jl i a b):=(by rw[d,fB,pA U];simp only[ga];rw[ah A,kB]);rw[a9 f] at this;exact ee this);have I:=EK i a b;simp only[ae.bY,ae.bZ,ae.oU,ae.oE,ae.ag,ae.rG,db,o,pC,Bool.and_self,ae.qn];refine⟨λ_=>⟨⟨U,g⟩,g,⟨U,f⟩,f,?_,⟨U,f⟩,λ_=>⟨f,f,fJ U,trivial,?_⟩,λc=>by cases c⟩,λe=>by simp at e;omega⟩
    ·rw[v];simp;omega
    apply g4;intro q;rw[qM];by_cases w:a=q
    ·subst w;rw[ai rfl,ai f,fB,pA (U:a<i.length)];simp only[ga];rw[v,ai];rw[<-nf g,o];simp
    rw[ah w,d,fB,fB];rcases bg q i.length with c|c
    ·rw[pA c];simp only[ga];congr 2;rw[<-nf g,o];have:((q:Int)=(a:Int))↔False:=iff_of_false U id;simp only[eN,eI,this,or_false]
    rw[hR (by simpa using c)];rfl
   rintro⟨h,G,_⟩ ⟨k,d⟩;simp only at k d;subst k;simp only[ae.bY,ae.ag];refine⟨λe=>by simp at e,λ_=>?_⟩;rw[d,ny];refine h3 λa _=>?_;rw[Ri];congr 1;by_cases c:a<=b/\jw i a b
   ·rw[ai c,ai (Ls.2 c)]
   rw[ah c,ah (λp=>c (Ls.1 p))]
  rintro⟨h,_⟩ d;exact⟨fJ U,d⟩
 rintro⟨E,_⟩ j;simp only at j;simp only[ae.bY,ae.ag];refine⟨λe=>by simp at e,λ_=>?_⟩;rw[j];rfl
end
def zP (a:ad5) (b:Int) (j:a.length<4611686018427387904):q9 (a,b,())=some (decide (b∈a),()):=by
 rw[<-ae.eq_iff];unfold q9;simp only[ae.bZ];refine ae.for (i0:=0) a.length (λd _=>b∉a.take d) rfl ac (bE _) ?_ ?_
 ·rintro d _ _ h c;simp only[ae.bY,ae.bZ,ae.ag,ae.hV];refine⟨λ_=>⟨h,λf=>?_,λi=>⟨fJ U,?_⟩⟩,λg=>by simp at g;omega⟩
  ·have f:a[d]=b:=(by simpa using f);have:b∈a:=f▸bA h;simp[this]
  rw[<-nf h,eN];have i:¬a[d]=b:=(by simpa using i);rintro(e|e)
  ·exact c e
  exact i (eI.1 e).symm
 rintro _ c;simp only[ae.bY,ae.ag];refine⟨λg=>by simp at g,λ_=>?_⟩;rw[ny] at c;simp[c]
def O5 (a:Int):IntKind.u64.wrap a=a %18446744073709551616:=by unfold IntKind.wrap;rw[ah (by simp[IntKind.signed])];rfl
def fx (a:adS) (b c:Nat):Bool:=(a.getD b []).getD c false
def ld (c:adS) (b d:Nat):ad5:=((List.range d).filter λa=>b !=a&&(fx c b a||fx c a b)).map λ(a:Nat)=>(a:Int)
def hm (a:adS):adU:=(List.range a.length).map λb=>ld a b a.length
def Lg (b:adS) (c a:Nat):(ld b c a).length<=a:=by unfold ld;rw[gE];exact dh (ip _ _) ac
def Lh (c:adS) (b a:Nat):ld c b (a+1)=ld c b a++(if(b !=a&&(fx c b a||fx c a b))=true then[(a:Int)] else[]):=by
 unfold ld;rw[iP,jc,fN];congr 1;by_cases d:(b !=a&&(fx c b a||fx c a b))=true
 ·rw[ai d];simp only[jd,d,px];rfl
 rw[ah d];simp only[jd,px];rw[ah d];rfl
def u7 {a:adS} (d:b<a.length) (e:c<a[b].length):fx a b c=a[b][c]:=by unfold fx;simp[List.getD,d,e]
def Ib (a:adS) (s:∀l∈a,l.length=a.length) (y:a.length<=4294967296):x7 (a,())=some ((hm a,()),()):=by
 rw[<-ae.eq_iff];unfold x7;have v:fm=4294967296:=rfl;simp only[ae.bZ];refine ae.mono (P:=λg=>g.2.1.1=hm a) ?_ ?_
 ·refine ae.for (i0:=0) a.length (λc n=>n.2.1.1=(List.range c).map λc=>ld a c a.length) rfl rfl (bE _) ?_ ?_
  ·rintro c ⟨n,m,_⟩ _ p h;simp only at h;simp only[ae.bY,ae.bZ,ae.ag];refine⟨λ_=>?_,λk=>by simp at k;omega⟩;refine ae.mono (P:=λg=>g.2.1=m/\g.2.2.1=ld a c a.length) ?_ ?_
   ·refine ae.for (i0:=0) a.length (λe g=>g.2.1=m/\g.2.2.1=ld a c e) rfl ⟨rfl,rfl⟩ (bE _) ?_ ?_
    ·rintro e ⟨r,o,l,_⟩ _ q ⟨i,f⟩;simp only at f i;subst i;have t:=s _ (bA p);have u:=s _ (bA q);simp only[ae.bY (b:=decide _),ae.bZ (x:=Option.bind _ _)];refine⟨λ_=>?_,λk=>by simp at k;omega⟩;rw[ae.bZ];refine ae.mono (P:=λg=>g=((c !=e&&(fx a c e||fx a e c)),r,o,l,())) ?_ ?_
     ·simp only[ae.bY,ae.bZ,ae.ag,ae.hV];rw[u7 p U,u7 q U];refine⟨λd=>⟨p,U,λj=>⟨q,U,?_⟩,λj=>?_⟩,λd=>?_⟩
      ·have d:c≠e:=(by simp at d;omega);have j:a[c][e]=false:=(by simpa using j);simp[d,j]
      ·have d:c≠e:=(by simp at d;omega);have j:a[c][e]=true:=(by simpa using j);simp[d,j]
      have d:c=e:=(by simp at d;omega);simp[d]
     rintro g rfl;have w:=Lg a c e;simp only[ae.bY,ae.bZ,ae.ag,ae.rG];refine⟨λd=>⟨by rw[f];simp;omega,fJ U,trivial,?_⟩,λd=>⟨fJ U,trivial,?_⟩⟩
     ·rw[Lh,ai d,f]
     rw[Lh,ah (by rw[d];simp),f,kB]
    rintro⟨r,o,l,_⟩ ⟨i,f⟩;simp only at f i;subst i;simp only[ae.bY,ae.ag];exact⟨λk=>by simp at k,λ_=>⟨trivial,f⟩⟩
   rintro⟨r,o,l,_⟩ ⟨i,f⟩;simp only at f i;subst i;simp only[ae.bZ,ae.ag,ae.rG];refine⟨by rw[h];simp;omega,fJ U,?_⟩;rw[h,f,iP,fN];rfl
  rintro⟨n,m,_⟩ h;simp only at h;simp only[ae.bY,ae.ag];exact⟨λk=>by simp at k,λ_=>h⟩
 rintro⟨n,⟨m,_⟩,_⟩ h;simp only at h;simp only[ae.ag];rw[h]
def yQ {e:adS}:(b:Int)∈ld e c j↔b<j/\c≠b/\(fx e c b||fx e b c)=true:=by
 unfold ld;simp only[de,eY,fe,bp,bne_iff_ne];constructor
 ·rintro⟨f,⟨a,d⟩,g⟩;have:f=b:=U;subst this;exact⟨a,d⟩
 exactλ⟨a,d⟩=>⟨b,⟨a,d⟩,rfl⟩
def Cl (c:adS):da (hm c):=by
 have h:(hm c).length=c.length:=(by simp[hm]);have d:∀a,(b:a<(hm c).length)->(hm c)[a]=ld c a c.length:=λa b=>(by simp[hm]);refine⟨λa b=>?_,λa b=>?_,λa b j i e=>?_⟩
 ·rw[d a b,h];refine⟨DA _ _,λm f=>?_⟩;unfold ld at f;simp only[de,eY,fe] at f;obtain⟨k,⟨l,_⟩,rfl⟩:=f;omega
 ·rw[d a b,yQ];exactλg=>g.2.1 rfl
 rw[d a b,yQ] at e;rw[d j i,yQ];exact⟨U,e.2.1.symm,by rw[Bool.or_comm];exact e.2.2⟩
def FF (a:adS):(hm a).length=a.length:=by simp[hm]
def SW (c:adS):∀b∈hm c,b.length<=c.length:=by intro b a;unfold hm at a;simp only[de,fe] at a;obtain⟨d,_,rfl⟩:=a;exact Lg _ _ _
def JC (r:da i) (s:b<i.length):∃f,bc i b=(b:Int)::f/\(∀c∈f,∃a:Nat,c=(a:Int)/\b<a/\a<i.length/\eP (c9 i) b b a)/\(∀a:Nat,b<a->eP (c9 i) b b a->(a:Int)∈f)/\f.Pairwise (· < ·):=by
 have l:(b:Int)∈bc i b:=m4.2 ⟨s,.inl rfl⟩;have h:=xf i b;have j:∀c∈bc i b,∃a:Nat,c=(a:Int)/\a<i.length/\jw i b a:=(by intro c e;have t:=e;unfold bc jl at e;simp only[de] at e;obtain⟨a,_,rfl⟩:=e;exact⟨a,rfl,m4.1 t⟩);generalize q:bc i b=o at l h j;cases o with
 |nil=>cases l
 |cons c f=>
  rw[mI] at h;have e:c=(b:Int):=by
   obtain⟨a,rfl,_,k⟩:=j c (jB ..);have:=k.le;rcases dx.1 l with d|d
   ·exact d.symm
   have:=h.1 _ d;omega
  subst e;refine⟨f,rfl,λu n=>?_,λa k m=>?_,h.2⟩
  ·obtain⟨a,rfl,p,g⟩:=j u (fk _ n);have:=h.1 _ n;rcases g with g|g
   ·omega
   exact⟨a,rfl,g.1,p,g.2⟩
  have:(a:Int)∈bc i b:=m4.2 ⟨(m.lt r).2,.inr ⟨k,m⟩⟩;rw[q] at this;rcases dx.1 this with d|d
  ·omega
  exact d
def XB (p:da i) (f:sk i d) (l:b<i.length):(bc i b=[(b:Int)]/\d[b]?=some (-1))\/∃(a:Nat) (e:ad5),bc i b=(b:Int)::(a:Int)::e/\d[b]?=some (a:Int)/\iN (c9 i) b a/\a<i.length:=by
 obtain⟨e,h,n,j,o⟩:=JC p l;cases e with
 |nil=>
  refine .inl ⟨h,?_⟩;have q:b<d.length:=(by rw[f.len];exact l);have g:d[b]?=some d[b]:=a9 q;rcases f.none b _ g with c|⟨a,c⟩
  ·rw[g,c]
  have:=(f.i4 b a).1 (by rw[g,c]);cases j a this.1 this.fill
 |cons x e=>
  obtain⟨a,rfl,r,s,t⟩:=n x (jB ..);have m:iN (c9 i) b a:=by
   refine⟨r,t.mono U,λA u z v=>?_⟩;obtain⟨w,y,k⟩:=GX u v;have:=j w k.1 k.fill;rcases dx.1 this with c|c
   ·omega
   have:=(mI.1 o).1 _ c;omega
  exact .inr ⟨a,e,h,(f.i4 b a).2 m,m,s⟩
theorem eC {a:List o} {i:Nat} {b:o} (c:a[i]?=some b):aC a (i:Int)=some b:=by unfold aC;rw[ai U,db,c]
def Eg (c:adU):da c↔∀a,(g:a<c.length)->c[a].Pairwise (· < ·)/\∀b,(e:b<c[a].length)->(0<=c[a][b]/\c[a][b]<c.length)/\c[a][b]≠(a:Int)/\(a:Int)∈c.getD (c[a][b]).toNat []:=by
 constructor
 ·rintro⟨j,l,m⟩ a d;refine⟨(j a d).1,λb e=>?_⟩;have k:=(j a d).2 _ (bA e);refine⟨k,λf=>l a d (f▸bA e),?_⟩;have h:(c[a][b]).toNat<c.length:=U;have:=m a d _ h (by rw[qJ k.1];exact bA e);rw[List.getD,a9 h];exact this
 intro g;refine⟨λa d=>⟨(g a d).1,λp n=>?_⟩,λa d i=>?_,λa d o h i=>?_⟩
 ·obtain⟨b,e,rfl⟩:=fC.1 n;exact((g a d).2 b e).1
 ·obtain⟨b,e,f⟩:=fC.1 i;exact((g a d).2 b e).2.1 f
 obtain⟨b,e,f⟩:=fC.1 i;have:=((g a d).2 b e).2.2;rw[f,db,List.getD,a9 h] at this;exact this
def ze (a:adU) (w:∀F∈a,F.length<4611686018427387904):tg ((a,()),())=some (gG a,()):=by
 classical
 rw[<-ae.eq_iff];unfold tg;simp only[ae.bY,ae.ag,ae.bZ];refine⟨λd=>?_,λd=>?_⟩
 ·have:200<a.length:=(by simp at d;omega);simp[gG,this]
 have z:¬200<a.length:=(by simp at d;omega);refine ae.mono (P:=λi=>(i=.inl ()/\da a)\/(i=.inr (1,())/\¬da a)) ?_ ?_
 rotate_left
 ·rintro _ (⟨rfl,e⟩|⟨rfl,e⟩)
  ·simp only[ae.ag];simp[gG,z,e]
  simp only[ae.ag];simp[gG,z,e]
 refine ae.for (i0:=0) a.length (λt _=>∀b,(d:b<a.length)->b<t->a[b].Pairwise (· < ·)/\∀c,(f:c<a[b].length)->(0<=a[b][c]/\a[b][c]<a.length)/\a[b][c]≠(b:Int)/\(b:Int)∈a.getD (a[b][c]).toNat []) rfl (λb _ d=>by omega) (bE _) ?_ ?_
 ·rintro b _ _ e o;have E:=w _ (bA e);simp only[ae.bY,ae.ag,ae.bZ,ae.hV];refine⟨λ_=>⟨e,?_⟩,λg=>by simp at g;omega⟩;rw[H2 _ E];simp only[ae.ag];refine⟨λh=>.inr ⟨trivial,λq=>?_⟩,λh=>?_⟩
  ·have:=(q.asc b e).1;simp[this] at h
  have h:a[b].Pairwise (· < ·):=(by simpa using h);refine ae.mono (P:=λi=>(i=.inl ()/\∀c,(f:c<a[b].length)->(0<=a[b][c]/\a[b][c]<a.length)/\a[b][c]≠(b:Int)/\(b:Int)∈a.getD (a[b][c]).toNat [])\/(i=.inr (.inr (.inr (1,())))/\¬da a)) ?_ ?_
  rotate_left
  ·rintro _ (⟨rfl,s⟩|⟨rfl,s⟩)
   ·simp only[ae.ag];refine⟨fJ U,λv D H=>?_⟩;rcases bg v b with d|d
    ·exact o v D d
    obtain rfl:v=b:=U;exact⟨h,s⟩
   simp only[ae.ag];exact .inr ⟨trivial,s⟩
  refine ae.for (i0:=0) a[b].length (λt _=>∀c,(f:c<a[b].length)->c<t->(0<=a[b][c]/\a[b][c]<a.length)/\a[b][c]≠(b:Int)/\(b:Int)∈a.getD (a[b][c]).toNat []) rfl (λb _ d=>by omega) (bE _) ?_ ?_
  ·rintro c _ _ f p;have j:¬((0<=a[b][c]/\a[b][c]<a.length)/\a[b][c]≠(b:Int)/\(b:Int)∈a.getD (a[b][c]).toNat [])->¬da a:=λd q=>d (((Eg a).1 q b e).2 c f);simp only[ae.bY,ae.ag,ae.bZ,ae.hV];refine⟨e,λ_=>⟨e,f,λk=>⟨λl=>⟨λm=>?_,λm=>?_⟩,λl=>?_⟩,λk=>?_⟩,λg=>by simp at g;omega⟩
   ·have A:0<=a[b][c]/\a[b][c]<(a.length:Int):=(by simp at k l;omega);have C:a[b][c]≠(b:Int):=(by simpa using m);rw[ae.Ky];refine⟨U,A.1,?_⟩;rw[zP _ _ (w _ (bA _))];have x:a.getD (a[b][c]).toNat []=a[(a[b][c]).toNat]'(by omega):=by
     rw[List.getD,a9 U];rfl
    simp only[ae.ag];refine⟨λn=>.inr ⟨trivial,j ?_⟩,λn=>⟨fJ U,λu B G=>?_⟩⟩
    ·rintro⟨_,_,y⟩;rw[x] at y;simp[y] at n
    rcases bg u c with d|d
    ·exact p u B d
    obtain rfl:u=c:=U;refine⟨A,C,?_⟩;rw[x];simpa using n
   ·refine .inr ⟨trivial,j (λr=>r.2.1 ?_)⟩;simpa using m
   ·refine .inr ⟨trivial,j (λr=>?_)⟩;simp at l;omega
   refine .inr ⟨trivial,j (λr=>?_)⟩;simp at k;omega
  rintro _ p;simp only[ae.bY,ae.ag,ae.bZ,ae.hV];exact⟨e,λg=>by simp at g,λ_=>.inl ⟨trivial,λc f=>p c f f⟩⟩
 rintro _ o;simp only[ae.bY,ae.ag];exact⟨λg=>by simp at g,λ_=>.inl ⟨trivial,(Eg a).2 λb e=>o b e e⟩⟩
def PM (b:ad5) (e:Int) (r:b.length<4611686018427387904):BN (b,e,())=some (decide (∀c∈b,0<=c/\c<e),()):=by
 rw[<-ae.eq_iff];unfold BN;simp only[ae.bZ];refine ae.mono (P:=λn=>(n=.inl ()/\∀c∈b,0<=c/\c<e)\/(n=.inr (false,())/\¬∀c∈b,0<=c/\c<e)) ?_ ?_
 ·refine ae.for (i0:=0) b.length (λf _=>∀d,(a:d<b.length)->d<f->0<=b[d]/\b[d]<e) rfl (λd _ a=>by omega) (bE _) ?_ ?_
  ·rintro f _ _ l j;have m:¬(0<=b[f]/\b[f]<e)->¬∀c∈b,0<=c/\c<e:=λa o=>a (o _ (bA l));simp only[ae.bY,ae.bZ,ae.ag,ae.hV];refine⟨λ_=>⟨l,λh=>⟨l,λi=>.inr ⟨trivial,m (λa=>?_)⟩,λi=>⟨fJ U,λd g q=>?_⟩⟩,λh=>.inr ⟨trivial,m (λa=>?_)⟩⟩,λk=>by simp at k;omega⟩
   ·simp at i;omega
   ·rcases bg d f with a|a
    ·exact j d g a
    obtain rfl:d=f:=U;simp at h i;omega
   simp at h;omega
  rintro _ j;simp only[ae.bY,ae.ag];refine⟨λk=>by simp at k,λ_=>.inl ⟨trivial,λc p=>?_⟩⟩;obtain⟨d,g,rfl⟩:=fC.1 p;exact j d g g
 rintro _ (⟨rfl,a⟩|⟨rfl,a⟩)
 ·simp only[ae.ag];rw[decide_eq_true a]
 simp only[ae.ag];rw[decide_eq_false a]
def LS:d.Nodup↔∀a,(c:a<d.length)->d[a]∉d.take a:=by
 unfold List.Nodup;rw[gj];constructor
 ·intro c a e h;obtain⟨j,g,b⟩:=fC.1 h;simp only[dZ] at g;simp only[wV] at b;exact c j a U e U b
 intro c a i e f k b;exact c i f (fC.2 ⟨a,by simp;omega,by simp[b]⟩)
def PT (b:ad5) (o:b.length<4611686018427387904):BO (b,())=some (decide (¬b.Nodup),()):=by
 rw[<-ae.eq_iff];unfold BO;simp only[ae.bZ];refine ae.mono (P:=λj=>(j=.inl ()/\b.Nodup)\/(j=.inr (true,())/\¬b.Nodup)) ?_ ?_
 ·refine ae.for (i0:=0) b.length (λd _=>∀a,(c:a<b.length)->a<d->b[a]∉b.take a) rfl (λa _ c=>by omega) (bE _) ?_ ?_
  ·rintro d _ _ i f;have al:fV (d:Int)=some d:=(by unfold fV;rw[ai U,db]);have k:gd 0 d b.length=some ():=(by unfold gd;rw[ai U]);simp only[ae.bY,ae.bZ,ae.ag,ae.hV,al,k,aG,ga,lv];refine⟨λ_=>⟨i,?_⟩,λg=>by simp at g;omega⟩;rw[zP _ _ (by rw[dZ];omega)];simp only[ae.ag];refine⟨λc=>.inr ⟨trivial,λl=>?_⟩,λc=>⟨fJ U,λa e n=>?_⟩⟩
   ·exact LS.1 l d i (of_decide_eq_true c)
   rcases bg a d with h|h
   ·exact f a e h
   obtain rfl:a=d:=U;exact of_decide_eq_false c
  rintro _ f;simp only[ae.bY,ae.ag];exact⟨λg=>by simp at g,λ_=>.inl ⟨trivial,LS.2 λa e=>f a e e⟩⟩
 rintro _ (⟨rfl,c⟩|⟨rfl,c⟩)
 ·simp only[ae.ag];rw[decide_eq_false (λm=>m c)]
 simp only[ae.ag];rw[decide_eq_true c]
def nc (a:adU):adS:=(List.range a.length).map λb=>(List.range a.length).map λ(c:Nat)=>decide ((c:Int)∈a.getD b [])
def HF (a:adU):(nc a).length=a.length:=by simp[nc]
def Ow (a:b<i.length):(nc i)[b]?=some ((List.range i.length).map λ(c:Nat)=>decide ((c:Int)∈i[b])):=by simp[nc,a,List.getD]
theorem Iq (t:∀x∈i,x.length<4611686018427387904) (z:i.length<=200) (u:∀a,(d:a<i.length)->∀s∈i[a],0<=s/\s<(i.length:Int)):x8 ((i,()),())=some (nc i,()):=by
 rw[<-ae.eq_iff];unfold x8;have y:fm=4294967296:=rfl;simp only[ae.bZ];refine ae.mono (P:=λj=>j.1=nc i) ?_ (by rintro⟨n,_⟩ d;simp only at d;simp only[ae.ag];rw[d]);refine ae.for (i0:=0) i.length (λw k=>k.1=(nc i).take w) rfl ac (bE _) ?_ ?_
 ·rintro a ⟨o,_⟩ _ g f;simp only at f;have B:=t _ (bA g);simp only[ae.bY,ae.bZ,ae.v5,db];refine⟨λ_=>⟨⟨U,U,U⟩,?_⟩,λe=>by simp at e;omega⟩;refine ae.mono (P:=λj=>j.1=o/\j.2.1=(List.range i.length).map λ(q:Nat)=>decide ((q:Int)∈i[a])) ?_ ?_
  ·refine ae.for (i0:=0) i[a].length (λh k=>k.1=o/\k.2.1=(List.range i.length).map λ(q:Nat)=>decide ((q:Int)∈i[a].take h)) rfl ⟨rfl,?_⟩ (bE _) ?_ ?_
   ·apply g4;intro h;simp[lY];split<;>simp_all
   ·rintro h ⟨n,p,_⟩ _ m ⟨c,b⟩;simp only at c b;have v:=u a g _ (bA m);have A:p.length=i.length:=(by rw[b];simp);simp only[ae.bY,ae.bZ,ae.hV,ae.oU,ae.oE,ae.ag];refine⟨g,λ_=>⟨g,m,⟨v.1,U⟩,U,fJ U,c,?_⟩,λe=>by simp at e;omega⟩;apply g4;intro l;rw[qM,b,fB,fB];rcases bg l i.length with d|d
    ·rw[pA d];simp only[ga,<-nf m,eN,eI,gE,qN];by_cases r:(i[a][h]).toNat=l
     ·rw[ai r,ai U];have:(l:Int)=i[a][h]:=U;simp[this]
     rw[ah r];have:¬(l:Int)=i[a][h]:=U;simp[this]
    rw[ah U,hR (by simpa using d)];rfl
   rintro⟨n,p,_⟩ ⟨c,b⟩;simp only at c b;simp only[ae.bY,ae.bZ,ae.hV,ae.ag];refine⟨g,λe=>by simp at e,λ_=>⟨c,?_⟩⟩;rw[b,ny]
  rintro⟨n,p,_⟩ ⟨c,b⟩;simp only at c b;subst c;simp only[ae.bZ,ae.rG,ae.ag];refine⟨by rw[f];simp;omega,fJ U,?_⟩;rw[f,b];have:=Ow g;rw[ir,this];rfl
 rintro⟨o,_⟩ f;simp only at f;simp only[ae.bY,ae.ag];refine⟨λe=>by simp at e,λ_=>?_⟩;rw[f,<-HF,ny]
def JY (a:Nat) (k:a<=4294967296):x9 ((a:Int),())=some (List.replicate a (List.replicate a false),()):=by
 rw[<-ae.eq_iff];unfold x9;have j:fm=4294967296:=rfl;simp only[ae.bZ];refine ae.mono (P:=λf=>f.1=List.replicate a (List.replicate a false)) ?_ (by rintro⟨l,_⟩ d;simp only at d;simp only[ae.ag];rw[d]);refine ae.for (i0:=0) a (λe g=>g.1=List.replicate e (List.replicate a false)) rfl rfl (bE _) ?_ ?_
 ·rintro e ⟨h,_⟩ _ i b;simp only at b;simp only[ae.bY,ae.bZ,ae.ag,ae.v5,ae.rG,db];refine⟨λ_=>⟨⟨U,U,U⟩,by rw[b];simp;omega,fJ U,?_⟩,λc=>by simp at c;omega⟩;rw[b,List.replicate_succ']
 rintro⟨h,_⟩ b;simp only[ae.bY,ae.ag];exact⟨λc=>by simp at c,λ_=>b⟩
section
def aw {α:Type} (b:Nat) (a:Nat->α):List α:=(List.range b).map a
def bU {α:Type} (b:Nat->α) (c:Nat) (d:α):Nat->α:=λa=>if a=c then d else b a
section
variable {α A B:Type}
def ei (c:Nat->α) (a:Nat) (b:α):bU c a b a=b:=ai rfl
def ew (a:Nat->α) (e:α) (d:b≠c):bU a c e b=a b:=ah d
def bk (a:Nat) (b:Nat->α):(aw a b).length=a:=by simp[aw]
def mh (c:Nat) (d:Nat->α) (b:Nat):(aw c d)[b]?=if b<c then some (d b) else none:=by
 unfold aw;rw[fB];rcases bg b c with a|a
 ·rw[pA a,ai a];rfl
 rw[hR (by simpa using a),ah U];rfl
def rr {a:Nat->α} (d:b<c):(aw c a)[b]?=some (a b):=by rw[mh,ai d]
def fD {a:Nat->α} (d:b<(aw c a).length):(aw c a)[b]=a b:=by simp[aw]
def bI {c d:Nat->α} (e:∀a,a<b->c a=d a):aw b c=aw b d:=h3 λa f=>e a (fe.1 f)
def Kb (a:Nat->α):aw 0 a=[]:=rfl
def nL (b:Nat) (a:Nat->α):aw (b+1) a=aw b a++[a b]:=by simp[aw,iP]
def gU (a:Nat) (b:α):List.replicate a b=aw a λ_=>b:=by apply g4;intro c;rw[lY,mh]
def e9 {d:Nat->α} (f:α):(aw c d).set b f=aw c (bU d b f):=by
 apply g4;intro e;rw[qM,mh,mh,bk];unfold bU;by_cases a:b=e
 ·subst a;simp
 have h:¬e=b:=λg=>a (Eq.symm g);simp only[ah a,ah h]
def J8 (c:List α) (d:Nat->α) (e:∀a,(b:a<c.length)->c[a]=d a):c=aw c.length d:=by
 apply g4;intro a;rw[mh];split
 ·rename_i b;rw[a9 b,e a b]
 rename_i b;exact hR U
def Cf (d b:Nat) (c:Nat->α) (f:b<=d):(aw d c).take b=aw b c:=by
 apply g4;intro e;rw[uM,mh,mh];by_cases a:e<b
 ·rw[ai a,ai a,ai U]
 rw[ah a,ah a]
def SI (c a:Nat) (d:Nat->α):(aw c d).drop a=aw (c-a) (λb=>d (a+b)):=by
 apply g4;intro b;rw[jA,mh,mh];by_cases e:a+b<c
 ·rw[ai e,ai U]
 rw[ah e,ah U]
def yq (b d:Nat) (e f:Nat->α):aw b e++aw d f=aw (b+d) (λa=>if a<b then e a else f (a-b)):=by
 apply g4;intro a;rw[zT,bk,mh,mh,mh];by_cases c:a<b
 ·rw[ai c,ai c,ai U,ai c]
 rw[ah c];by_cases g:a-b<d
 ·rw[ai g,ai U,ah c]
 rw[ah g,ah U]
def dd (a:b<c):bh c (b:Int)=some b:=by unfold bh;rw[ai ⟨U,by simpa using a⟩];simp
def ix {d:List α} {c:α} {a:α->Option A} (e:d[b]?=some c):aZ d b a=a c:=by unfold aZ;rw[e]
def dn {a:Nat->α} {d:α->Option A} (e:b<c):aZ (aw c a) b d=d (a b):=ix (rr e)
def tC {a:Nat->α} (d:b<c):aC (aw c a) (b:Int)=some (a b):=eC (rr d)
def dQ (a:b<=4294967296):bN b=some ():=ai a
def fU (a:b<=4294967296):dV (b:Int) (b:Int)=some b:=by unfold dV;rw[ai ⟨U,U,by have:fm=4294967296:=rfl;omega⟩];simp
def rR:fV (b:Int)=some b:=by unfold fV;rw[ai U];simp
def tJ (a:c<=b/\b<=j):gd c b j=some ():=ai a
def G2 (a:0<b):uc b=some ():=rfl
def dB (a b:Int):(a==b)=decide (a=b):=by by_cases c:a=b<;>simp[c]
def b0 (a b:Int):(a !=b)=!decide (a=b):=by by_cases c:a=b<;>simp[c]
def aB [Decidable n] (a:n):decide n=true:=decide_eq_true a
def az [Decidable n] (a:¬n):decide n=false:=decide_eq_false a
def bo {a c:α} (b:h=true):(bif h then a else c)=a:=by rw[b];rfl
def bi {c a:α} (b:h=false):(bif h then c else a)=a:=by rw[b];rfl
def br [Decidable n] {a b:α}:(bif decide n then a else b)=if n then a else b:=by by_cases c:n<;>simp[c]
def xh [Decidable n] {a b:α}:(bif decide n==true then a else b)=if n then a else b:=by by_cases c:n<;>simp[c]
def sX [Decidable n] {a b:α}:(bif decide n==false then a else b)=if n then b else a:=by by_cases c:n<;>simp[c]
def zE (a:b<9223372036854775808):IntKind.i64.wrap (b:Int)=(b:Int):=wrap64 U U
def O7 (a:b+c<9223372036854775808):IntKind.i64.wrap ((b:Int)+(c:Int))=((b+c:Nat):Int):=by rw[wrap64 U U];simp
def aax (d:c<=b) (a:b<9223372036854775808):IntKind.i64.wrap ((b:Int)-(c:Int))=((b-c:Nat):Int):=by rw[wrap64 U U];omega
theorem zG (c:1<=b) (a:b<9223372036854775808):IntKind.i64.wrap ((b:Int)-1)=((b-1:Nat):Int):=by rw[wrap64 U U];omega
theorem hP (a:b+1<9223372036854775808):IntKind.i64.wrap ((b:Int)+1)=((b+1:Nat):Int):=by rw[wrap64 U U];omega
end
def ae.of_eq {α:Type} {b:Option α} {y:α} {a:α->Prop} (c:b=some y) (d:a y):ae b a:=⟨y,c,d⟩
def ae.aU {α A:Type} {c:Option α} {b:α->Option A} {P:α->Prop} {a:A->Prop} (e:ae c P) (f:∀d,P d->ae (b d) a):ae (c.bind b) a:=
 ae.bZ.2 (e.mono f)
def ae.ite {α:Type} [Decidable n] {c d:Option α} {b:α->Prop} (e:n->ae c b) (f:¬n->ae d b):ae (if n then c else d) b:=by
 by_cases a:n
 ·rw[ai a];exact e a
 rw[ah a];exact f a
def aq {α A:Type} {c:Option α} {a:α->Option A} {y:α} {b:Option A} (d:c=some y) (e:a y=b):c.bind a=b:=by rw[d];exact e
def yH {i:Type} {f:Int×o->Option ((Int×o)⊕i)} {g:i} {h:o} (d:Nat) (c:Nat->o) (e:Nat) (n:a=(e:Int)) (q:h=c e) (m:e<=d) (p:∀b,e<=b->b<d->f ((b:Int),c b)=some (.inl (((b+1:Nat):Int),c (b+1)))) (l:f ((d:Int),c d)=some (.inr g)):loop f (a,h)=some g:=by
 subst n q;rw[<-ae.eq_iff];refine ae.for d (λb r=>r=c b) rfl rfl m ?_ ?_
 ·rintro b _ j k rfl;rw[p b j k];exact ae.ag.2 ⟨rfl,rfl⟩
 rintro _ rfl;rw[l];exact ae.ag.2 rfl
def rK {τ:Type} {k:Int×τ->Option ((Int×τ)⊕o)} (f:Nat) (e:Nat->Prop) (h:τ) (n m:o) (d:Nat) (t:a=(d:Int)) (s:d<=f) (u:∀b,d<=b->b<f->(∀c,d<=c->c<b->e c)->k ((b:Int),h)=some (open Classical in if e b then .inl (((b+1:Nat):Int),h) else .inr m)) (r:(∀c,d<=c->c<f->e c)->k ((f:Int),h)=some (.inr n)):loop k (a,h)=some (open Classical in if∀b,d<=b->b<f->e b then n else m):=by
 classical
 subst t;rw[<-ae.eq_iff];refine ae.for f (λb v=>v=h/\∀c,d<=c->c<b->e c) rfl ⟨rfl,λc l q=>by omega⟩ s ?_ ?_
 ·rintro b _ p l ⟨rfl,g⟩;rw[u b p l g];by_cases j:e b
  ·rw[ai j];refine ae.ag.2 ⟨rfl,rfl,λc q w=>?_⟩;rcases bg c b with i|i
   ·exact g c q i
   obtain rfl:c=b:=U;exact j
  rw[ah j];exact ae.ag.2 (by rw[ah (λi=>j (i b p l))])
 rintro _ ⟨rfl,g⟩;rw[r g];exact ae.ag.2 (by rw[ai g])
def Gg {g:Int×Unit->Option cG} (e:Nat) (c:Nat->Prop) (k:∀a,a<e->g ((a:Int),())=some (open Classical in if c a then .inl (((a+1:Nat):Int),()) else .inr (.inr ((a:Int),())))) (j:g ((e:Int),())=some (.inr (.inl ()))):ae (loop g (0,())) (λl=>match l with|.inl _=>∀a,a<e->c a|.inr m=>0<=m.1/\¬∀a,a<e->c a):=by
 classical
 refine ae.for e (λa _=>∀b,b<a->c b) (i0:=0) rfl (λb d=>by omega) (bE _) ?_ ?_
 ·rintro a ⟨⟩ _ i h;rw[k a i];by_cases f:c a
  ·rw[ai f];refine ae.ag.2 ⟨rfl,λb n=>?_⟩;rcases bg b a with d|d
   ·exact h b d
   obtain rfl:b=a:=U;exact f
  rw[ah f];exact ae.ag.2 ⟨by show(0:Int)<=(a:Int);omega,λd=>f (d a i)⟩
 rintro⟨⟩ h;rw[j];exact ae.ag.2 h
end
def HW (a:Int):IntKind.u32.wrap a=a %4294967296:=by unfold IntKind.wrap;exact ah (ac:¬(false&&decide (a %4294967296>=(2147483648:Int)))=true)
def zF (a:Int):IntKind.u64.wrap a=a %18446744073709551616:=by unfold IntKind.wrap;exact ah (ac:¬(false&&decide (a %18446744073709551616>=(9223372036854775808:Int)))=true)
def DV (b:0<=a) (c:a<18446744073709551616):IntKind.u64.wrap a=a:=by rw[zF];omega
def HX (b:0<=a) (c:a<4294967296):IntKind.u32.wrap a=a:=by rw[HW];omega
def At (a:b<18446744073709551616):(BitVec.ofInt 64 (b:Int)).toNat=b:=by rw[BitVec.ofInt_natCast,BitVec.toNat_ofNat];exact Nat.mod_eq_of_lt a
def As (a:b<4294967296):(BitVec.ofInt 32 (b:Int)).toNat=b:=by rw[BitVec.ofInt_natCast,BitVec.toNat_ofNat];exact Nat.mod_eq_of_lt a
def IJ (d:b<18446744073709551616) (e:c<18446744073709551616):dr .u64 (b:Int) (c:Int)=((b&&&c:Nat):Int):=by have a:((BitVec.ofInt 64 (b:Int))&&&(BitVec.ofInt 64 (c:Int))).toNat=b&&&c:=(by rw[BitVec.toNat_and,At d,At e]);have f:b&&&c<=b:=Nat.and_le_left;unfold dr;rw[show IntKind.u64.bits=64 from rfl,a];exact DV U U
def II (d:b<4294967296) (e:c<4294967296):dr .u32 (b:Int) (c:Int)=((b&&&c:Nat):Int):=by have a:((BitVec.ofInt 32 (b:Int))&&&(BitVec.ofInt 32 (c:Int))).toNat=b&&&c:=(by rw[BitVec.toNat_and,As d,As e]);have f:b&&&c<=b:=Nat.and_le_left;unfold dr;rw[show IntKind.u32.bits=32 from rfl,a];exact HX U U
def Xr (a:b<18446744073709551616) (d:c<18446744073709551616):eL .u64 (b:Int) (c:Int)=((b|||c:Nat):Int):=by have e:(BitVec.ofInt 64 (b:Int)|||BitVec.ofInt 64 (c:Int)).toNat=b|||c:=(by rw[BitVec.toNat_or,At a,At d]);have f:b|||c<2^64:=Nat.or_lt_two_pow a d;unfold eL;rw[show IntKind.u64.bits=64 from rfl,e];exact DV U U
def Xq (a:b<4294967296) (d:c<4294967296):eL .u32 (b:Int) (c:Int)=((b|||c:Nat):Int):=by have e:(BitVec.ofInt 32 (b:Int)|||BitVec.ofInt 32 (c:Int)).toNat=b|||c:=(by rw[BitVec.toNat_or,As a,As d]);have f:b|||c<2^32:=Nat.or_lt_two_pow a d;unfold eL;rw[show IntKind.u32.bits=32 from rfl,e];exact HX U U
def qS (b:Nat) (d:0<=a) (i:a<18446744073709551616) (c:Int) (f:b<=64) (g:c=2^b-1):dr .u64 a c=a %2^b:=by obtain⟨k,rfl⟩:=eH d;have h:0<2^b:=hS b;have e:c=((2^b-1:Nat):Int):=(by rw[g,Int.natCast_sub h];simp);have j:2^b<=2^64:=ov aa f;rw[e,IJ U U,Nat.and_two_pow_sub_one_eq_mod];simp
def and_low32 (b:0<=a) (c:a<18446744073709551616):dr .u64 a 4294967295=a %4294967296:=qS 32 b c _ aa aa
def lS (a:Int):dk .u64 a 32=some (a/4294967296):=by have:dk .u64 a 32=some (a.fdiv 4294967296):=rfl;rw[this,zQ _ aa]
def mC (b:0<=a) (c:a<=64):gN .u64 e a=some ((e*2^a.toNat) %18446744073709551616):=by unfold gN;rw[ai b,zF,show IntKind.u64.bits=64 from rfl,fu U]
def r8 (b:0<=a) (c:a<=64):dk .u64 e a=some (e/2^a.toNat):=by unfold dk;rw[ai b,show IntKind.u64.bits=64 from rfl,fu U,zQ _ (by exact Int.pow_nonneg aa)]
def IL (a:Nat) (d:b<2^a):b|||(c*2^a)=b+c*2^a:=by rw[Nat.add_comm,Nat.or_comm,iB,Nat.two_pow_add_eq_or_of_lt d]
def lO (b:Nat) (f:0<=a) (g:a<2^b) (h:0<=e) (m:a<18446744073709551616) (n:e<18446744073709551616) (j:e %2^b=0):eL .u64 a e=a+e:=by obtain⟨d,rfl⟩:=eH f;obtain⟨c,rfl⟩:=eH h;have l:d<2^b:=(by have:((d:Nat):Int)<((2^b:Nat):Int):=(by simpa using g);omega);have k:c %2^b=0:=(by have:((c %2^b:Nat):Int)=0:=(by simpa using j);omega);rw[Xr U U];have i:c=(c/2^b)*2^b:=(by have:=l1 c (2^b);rw[k,iB] at this;omega);rw[i,IL b l];simp
def aA (a:Nat):Nat:=if a=0 then 0 else a.log2+1
def dy {k:Nat}:aA b<=k↔b<2^k:=by
 unfold aA;split
 ·rename_i a;subst a;simp;exact hS k
 rename_i a;rw[<-Nat.log2_lt a];omega
def sQ:b<aA c↔2^b<=c:=by rw[<-Nat.not_le,dy,Nat.not_lt]
def M7 (a b:Nat) (c:a<=b):2^a<=2^b:=ov aa c
def y7 (a b:Nat) (c:a<b):2^a<2^b:=Nat.pow_lt_pow_right aa c
def iy (a:c<=b):aA c<=aA b:=by rw[dy];have:=dy.1 (a2 (aA b));omega
def oG {k l:Nat} (a:aA b<=k) (d:aA c<=l):aA (b*c)<=k+l:=by rw[dy,hf];exact Nat.mul_lt_mul'' (dy.1 a) (dy.1 d)
def LI {a:Nat} (d:c<=a*b) (e:j<b):c+j<=(a+1)*b:=by rw[eO,hD];omega
def Je (a:Nat) (d:aA b<=a) (e:aA c<=a):aA (b+c)<=a+1:=by rw[dy] at*;rw[jD];omega
def XS {e:Nat} (d:j*2^c=b*2^e) (g:0<j):0<b:=by
 rcases gk b with a|a
 ·rw[a,mJ] at d;have:=hS c;rcases Nat.mul_eq_zero.1 d with f|f<;>omega
 exact a
def oH {m:Nat} (a:0<m):0<aA m:=sQ.2 a
def QG:aA 0=0:=rfl
def Jf {k:Nat} (a:2^k<=b) (c:b<2^(k+1)):aA b=k+1:=by have:=sQ.2 a;have:=dy.2 c;omega
def u9 (a:0<b):2^(aA b-1)<=b/\b<2^aA b:=
 ⟨sQ.1 (by have:=oH a;omega),dy.1 (a2 _)⟩
def lE (d:0<b) (a:Nat):aA (b*2^a)=aA b+a:=by
 obtain⟨e,f⟩:=u9 d;have h:=hS a;have i:=oH d;obtain⟨c,g⟩:∃c,aA b=c+1:=⟨aA b-1,U⟩;rw[g] at e f|-;rw[(U:c+1+a=(c+a)+1)];refine Jf ?_ ?_
 ·rw[hf];exact fP _ (by simpa using e)
 rw[(U:c+a+1=(c+1)+a),hf];exact Nat.mul_lt_mul_of_pos_right f h
def pN (b a:Nat):aA (b/2^a)=aA b-a:=by
 have c:=hS a;apply Nat.le_antisymm
 ·rw[dy,Nat.div_lt_iff_lt_mul c,<-hf];exact dy.1 U
 rcases bg a (aA b) with d|d
 ·have:aA b-a-1<aA (b/2^a):=by
   rw[sQ,zY c,<-hf];exact sQ.1 U
  omega
 omega
def uy (c:Bool) (b:Int) (d:Bool) (a:Int):Bool:=
 if a=1 then c else if a=2 then !c else if a=3 then false else decide (0<b)||(decide (b=0)&&d)
def jm (b a:Nat) (c:Bool):Int:=
 if 2*(b %2^a)<2^a then-1 else if 2^a<2*(b %2^a) then 1 else if c then 1 else 0
def g8 (e:Bool) (a b:Nat) (c:Bool) (d:Int):Nat:=
 if a %2^b=0/\c=false then a/2^b
 else if uy e (jm a b c) (decide (a/2^b %2=1)) d then a/2^b+1 else a/2^b
def Gq (b a c:Nat):b %2^(a+c)=(b/2^a %2^c)*2^a+b %2^a:=by rw[hf,Nat.mod_mul,Nat.add_comm,iB]
def JL (b a c:Nat):b/2^(a+c)=b/2^a/2^c:=by rw[hf,Nat.div_div_eq_div_mul]
theorem RC (v:Bool) (d c f:Nat) (h:Bool) (u:Int) (B:0<f):g8 v d (c+f) h u=g8 v (d/2^c) f (h||decide (d %2^c≠0)) u:=by
 have s:=hS c;have r:=ot d s;have w:¬(d %2^(c+f)=0/\h=false)->jm d (c+f) h=jm (d/2^c) f (h||decide (d %2^c≠0)):=by
  intro _;unfold jm;rw[Gq,hf];obtain⟨o,rfl⟩:∃o,f=o+1:=⟨f-1,U⟩;rw[jD];generalize A:d/2^c %(2^o*2)=a;generalize z:d %2^c=j at r|-;generalize y:2^o=g;generalize x:2^c=b at r s|-;rw[show b*(g*2)=2*(g*b) by grind,show 2*(a*b+j)=2*(a*b)+2*j by grind];rcases kX a g with e|e|e
  ·have i:(a+1)*b<=g*b:=fP _ e;rw[eO] at i;have l:2*(a*b)+2*j<2*(g*b):=U;have m:2*a<g*2:=U;rw[ai l,ai m]
  ·subst e;have l:¬2*(a*b)+2*j<2*(a*b):=U;have m:¬2*a<a*2:=U;have p:¬a*2<2*a:=U;rw[ah l,ah m,ah p];by_cases t:j=0
   ·subst t;have n:¬2*(a*b)<2*(a*b)+2*0:=U;rw[ah n];simp
   have n:2*(a*b)<2*(a*b)+2*j:=U;rw[ai n];simp[t]
  have i:(g+1)*b<=a*b:=fP _ e;rw[eO] at i;have l:¬2*(a*b)+2*j<2*(g*b):=U;have m:2*(g*b)<2*(a*b)+2*j:=U;have p:¬2*a<g*2:=U;have n:g*2<2*a:=U;rw[ah l,ai m,ah p,ai n]
 have q:(d %2^(c+f)=0/\h=false)↔(d/2^c %2^f=0/\(h||decide (d %2^c≠0))=false):=by
  rw[Gq];cases h
  ·simp only[and_true,Bool.false_or,decide_eq_false_iff_not,ne_eq,Decidable.not_not];constructor
   ·intro e;have i:d %2^c=0:=U;refine⟨?_,i⟩;rw[i] at e;rcases Nat.mul_eq_zero.1 (by omega:d/2^c %2^f*2^c=0) with k|k
    ·exact k
    omega
   rintro⟨i,k⟩;rw[i,k];simp
  simp
 unfold g8;by_cases e:d %2^(c+f)=0/\h=false
 ·rw[ai e,ai (q.1 e),JL]
 rw[ah e,ah (λk=>e (q.2 k)),w e,JL]
def kP (b:Bool) (a:Int):Int:=if b then 9223372036854775808+a else a
def m9 (a:Bool) (b:Int):Int:=
 if b=3\/(b=1/\a=false)\/(b=2/\a=true) then kP a 9218868437227405311 else kP a 9218868437227405312
def lf (a:Bool) (b:Nat) (c d:Int):Int:=
 if b<4503599627370496 then kP a b
 else if b=9007199254740992 then if c+1+1075>=2047 then m9 a d else kP a ((c+1+1075)*4503599627370496)
 else if c+1075>=2047 then m9 a d else kP a ((c+1075)*4503599627370496+(b-4503599627370496))
def bF (b:Nat) (a:Int):Int:=max (a+aA b-1-52) (-1074)
def iA (d:Bool) (b:Nat) (a:Int) (e:Bool) (c:Int):Int:=
 if bF b a<=a then lf d (b*2^(a-bF b a).toNat) (bF b a) c
 else lf d (g8 d b (bF b a-a).toNat e c) (bF b a) c
def Z6 {m k:Nat} {e:Int} (a:k<aA m):bF (m/2^k) (e+k)=bF m e:=by unfold bF;rw[pN];congr 1;omega
def NJ {f:Bool} {k:Nat} {d:Int} (j:k+53<aA b):iA f b a h d=iA f (b/2^k) (a+k) (h||decide (b %2^k≠0)) d:=by have i:=Z6 (m:=b) (k:=k) (e:=a) U;have l:a+k<bF b a:=(by unfold bF;omega);unfold iA;rw[i,ah U,ah U];obtain⟨c,g⟩:∃c:Nat,bF b a-a=(k+c:Nat):=⟨(bF b a-a-k).toNat,U⟩;rw[g,(U:(bF b a-(a+k)).toNat=c),db,RC _ _ _ _ _ _ U]
def m1:Nat->Nat->Nat
 |0,_=>0
 |f+1,a=>if(2*m1 f (a/4)+1)*(2*m1 f (a/4)+1)<=a then 2*m1 f (a/4)+1 else 2*m1 f (a/4)
def bH (a:Nat):Nat:=m1 (aA a) a
theorem Tx:∀{b n:Nat},n<4^b->m1 b n*m1 b n<=n/\n<(m1 b n+1)*(m1 b n+1):=by
 intro b
 induction b with
 |zero=>intro n c;simp at c;subst c;simp[m1]
 |succ b i=>
  intro n c;obtain⟨g,h⟩:=i (n:=n/4) (by rw[jD] at c;omega);unfold m1;generalize m1 b (n/4)=a at g h|-;have al:(2*a+1)*(2*a+1)=4*(a*a)+4*a+1:=(by grind);have e:(2*a+1+1)*(2*a+1+1)=4*((a+1)*(a+1)):=(by grind);have f:2*a*(2*a)=4*(a*a):=(by grind);split
  ·rename_i d;exact⟨d,by rw[e];omega⟩
  rename_i d;exact⟨by rw[f];omega,U⟩
def qd (a:Nat):bH a*bH a<=a/\a<(bH a+1)*(bH a+1):=by refine Tx ?_;have b:a<2^aA a:=dy.1 (a2 _);exact he b (Nat.pow_le_pow_left aa _)
def DB (d:b*b<=j) (e:j<(c+1)*(c+1)):b<=c:=by
 rcases bg c b with a|a
 ·have:=it (show c+1<=b from a) (show c+1<=b from a);omega
 exact a
def Cw (a:b*b<=c) (d:c<(b+1)*(b+1)):bH c=b:=by obtain⟨e,f⟩:=qd c;exact Nat.le_antisymm (DB e d) (DB a f)
theorem KS (d c:Nat):bH (d*2^(2*c))/2^c=bH d:=by
 obtain⟨g,h⟩:=qd (d*2^(2*c));generalize bH (d*2^(2*c))=e at g h|-;have j:=hS c;rw[Nat.two_mul,hf] at g h;have f:=l1 e (2^c);have m:=ot e j;generalize e/2^c=b at f|-;generalize e %2^c=k at f m;generalize 2^c=a at*;symm;refine Cw ?_ ?_
 ·have i:(b*b)*(a*a)<=d*(a*a):=by
   refine dh ?_ g;rw[<-f];have:a*b*(a*b)<=(a*b+k)*(a*b+k):=it U U;grind
  exact Nat.le_of_mul_le_mul_right i (Nat.mul_pos j j)
 have i:d*(a*a)<((b+1)*(b+1))*(a*a):=(by refine he h ?_;have l:e+1<=(b+1)*a:=(by rw[<-f];grind);have:=it l l;grind);exact Nat.lt_of_mul_lt_mul_right i
abbrev n8:=Bool×ad5×Unit
abbrev Pl:=Bool×n8×Int×Unit
def fj (a:n8):Int:=if a.1 then-af a.2.1 else af a.2.1
def aM (a:Int):n8:=(decide (a<0),bR a.natAbs,())
def ni (a:Int):fj (aM a)=a:=by unfold fj aM;simp only[kf,decide_eq_true_eq];split<;>omega
def k4 (a:Int):aP (aM a).2.1:=iW _
def Cb (a:Int):dE (aM a).2.1:=mX _
def gH (a:Int):af (aM a).2.1=a.natAbs:=kf _
def vJ:(aM a).2.1=[]↔a=0:=by show bR a.natAbs=[]↔_;rw[Ff];omega
def JZ {neg:Bool} (b:aP d) (f:dE d):(neg&&decide (d≠[]),d,())=aM (fj (neg,d,())):=by
 have h:=dH b;have c:d=bR (af d).toNat:=dE.eq b f;have e:d=[]↔af d=0:=⟨λa=>by rw[a];rfl,dE.zero b f⟩;unfold aM fj;cases neg
 ·simp only[Bool.false_and,Bool.false_eq_true,if_false];rw[show decide (af d<0)=false from decide_eq_false U,(U:(af d).natAbs=(af d).toNat),<-c]
 simp only[Bool.true_and,if_true];rw[(U:(-af d).natAbs=(af d).toNat),<-c];congr 1;rw[decide_eq_decide];constructor
 ·intro a;have:=mt e.2 a;omega
 intro a g;have:=e.1 g;omega
def DK:Nat->Nat->Nat
 |0,_=>0
 |f+1,a=>if a %2=0 then DK f (a/2)+1 else 0
def bx (a:Nat):Nat:=if a=0 then 0 else DK (aA a) a
def Z0:∀{a n:Nat},0<n->n<2^a->∃b,n=(2*b+1)*2^DK a n:=by
 intro a
 induction a with
 |zero=>intro n e c;simp at c;omega
 |succ a g=>
  intro n e c;unfold DK;split
  ·rename_i d;obtain⟨b,f⟩:=g (n:=n/2) U (by rw[jD] at c;omega);refine⟨b,?_⟩;rw[jD,<-ou,<-f];omega
  rename_i d;exact⟨n/2,by simp;omega⟩
def sb {n:Nat} (b:0<n):∃a,n=(2*a+1)*2^bx n:=by unfold bx;rw[ah U];exact Z0 b (dy.1 (a2 _))
def LY:∀{s t a b:Nat},(2*a+1)*2^s=(2*b+1)*2^t->s=t/\a=b
 |0,0,a,b,c=>by simp at c;omega
 |0,t+1,a,b,c=>by rw[jD,<-ou] at c;simp at c;omega
 |s+1,0,a,b,c=>by rw[jD,<-ou] at c;simp at c;omega
 |s+1,t+1,a,b,c=>by rw[jD,<-ou,jD,<-ou] at c;obtain⟨e,d⟩:=LY (s:=s) (t:=t) (a:=a) (b:=b) U;exact⟨U,d⟩
def wB {a:Nat} (d:b=(2*a+1)*2^c):bx b=c:=by have g:=hS c;have e:0<b:=(by rw[d];exact Nat.mul_pos U g);obtain⟨h,f⟩:=sb e;exact(LY (f.symm.trans d)).1
def HP (e:0<b) (c:Nat):bx (b*2^c)=bx b+c:=by obtain⟨d,f⟩:=sb e;refine wB (a:=d) ?_;rw[hf,<-ou,<-f]
def Z1 {n:Nat} (a:0<n):n/2^bx n %2=1:=by
 obtain⟨d,b⟩:=sb a;have c:=hS (bx n)
 conv=>lhs;lhs;lhs;rw[b]
 rw[Nat.mul_div_cancel _ c];omega
def uw {n:Nat} (b:0<n):bx n<aA n:=by
 obtain⟨a,c⟩:=sb b;rw[sQ]
 conv=>rhs;rw[c]
 have:=fP (2^bx n) (U:1<=2*a+1);omega
theorem tK {n k:Nat} (f:0<n):k<=bx n↔n %2^k=0:=by
 obtain⟨e,b⟩:=sb f;constructor
 ·intro l;obtain⟨a,c⟩:∃a,bx n=a+k:=⟨bx n-k,U⟩;rw[c,hf,<-ou] at b
  conv=>lhs;rw[b]
  exact Nat.mul_mod_left _ _
 intro i;rcases bg (bx n) k with d|d
 ·exfalso;obtain⟨a,c⟩:∃a,k=bx n+(a+1):=⟨k-bx n-1,U⟩;have g:n=n/2^k*2^k:=(by have:=l1 n (2^k);rw[i,iB] at this;omega);have j:=hS (bx n);have h:(2*e+1)*2^bx n=(2*(n/2^k*2^a))*2^bx n:=by
   rw[<-b]
   conv=>lhs;rw[g,c,hf,jD]
   grind
  have:=Nat.eq_of_mul_eq_mul_right j h;omega
 exact d
def n1 (b a:Int):Int:=b*2^a.toNat/2^(-a).toNat
def fa (a b:Int):adZ:=
 if a=0 then some 0
 else if b+bx a.natAbs< -65536\/65536<b+aA a.natAbs then none
 else some (n1 a (b+65536))
def a8:adZ->Pl
 |none=>(true,(false,[],()),0,())
 |some a=>if a=0 then(false,(false,[],()),0,()) else(false,aM (a/2^bx a.natAbs),(bx a.natAbs:Int)-65536,())
def e2 (a:Int):Prop:=aA a.natAbs<=131072
instance(a:Int):Decidable (e2 a):=inferInstanceAs (Decidable (_<=_))
def lG (a:Int):adZ:=if e2 a then some a else none
def ec (b:adZ):Prop:=∀a,b=some a->e2 a
def lN (b:Int) (a:Nat):(b*2^a).natAbs=b.natAbs*2^a:=by rw[Int.natAbs_mul,Int.natAbs_pow];rfl
def E9 (c:a.natAbs %2^b=0):a/2^b*2^b=a:=by have d:((2^b:Nat):Int)∣a:=Int.ofNat_dvd_left.2 (Nat.dvd_of_mod_eq_zero c);rw[(ac:(2:Int)^b=((2^b:Nat):Int))];exact Int.ediv_mul_cancel d
def yS (c:a.natAbs %2^b=0):(a/2^b).natAbs=a.natAbs/2^b:=by
 have d:=E9 c;have e:=hS b
 conv=>rhs;rw[<-d,lN,Nat.mul_div_cancel _ e]
def n2 (b:Int) (a:Nat):n1 b a=b*2^a:=by unfold n1;rw[db,(U:(-(a:Int)).toNat=0)];simp
def wx (b:Int) (a:Nat):n1 b (-(a:Int))=b/2^a:=by unfold n1;rw[Int.neg_neg,db,(U:(-(a:Int)).toNat=0)];simp
def a7 (a:Int):Int:=a/2^bx a.natAbs
def eQ (a:Int):Int:=(bx a.natAbs:Int)-65536
def rU (a:Int):a7 a*2^bx a.natAbs=a:=by
 rcases gk a.natAbs with b|b
 ·obtain rfl:a=0:=U;rfl
 exact E9 ((tK b).1 (a2 _))
def LW (b:a≠0):(a7 a).natAbs=a.natAbs/2^bx a.natAbs:=yS ((tK U).1 (a2 _))
def ia {v:Int} (b:v≠0):a7 v≠0:=λa=>by have:=rU v;rw[a] at this;simp at this;exact b this.symm
def LX (b:e≠0):bx (a7 e).natAbs=0:=by rw[LW b];have:=Z1 (n:=e.natAbs) U;exact wB (a:=e.natAbs/2^bx e.natAbs/2) (by rw[Nat.pow_zero];omega)
def U4 (b:a≠0):aA (a7 a).natAbs=aA a.natAbs-bx a.natAbs:=by rw[LW b,pN]
def we {v:Int}:a7 v<0↔v<0:=by
 have d:=rU v;have c:(0:Int)<2^bx v.natAbs:=nq aa;constructor
 ·intro b;have:=Int.mul_neg_of_neg_of_pos b c;omega
 intro b;rcases gZ (a7 v) 0 with a|a
 ·exact a
 have:=lW a (dX c);omega
def J1 (b:a≠0):a8 (some a)=(false,aM (a7 a),eQ a,()):=by show(if a=0 then _ else _)=_;rw[ah b];rfl
def CM {v:Int} (i:-65536<=a) (b:v=e*2^(a+65536).toNat):fa e a=lG v:=by
 obtain⟨d,g⟩:∃d:Nat,a+65536=d:=⟨(a+65536).toNat,U⟩;rw[g,db] at b;unfold fa lG;by_cases f:e=0
 ·subst f;simp only[sr] at b;subst b;rw[ai rfl,ai (show e2 0 from(by decide:aA 0<=131072))]
 rw[ah f];have h:aA v.natAbs=aA e.natAbs+d:=(by rw[b,lN,lE U]);by_cases c:e2 v
 ·rw[ai c];unfold e2 at c;rw[ah U,g,n2,b]
 rw[ah c];unfold e2 at c;rw[ai U]
def Uw (b:e2 a):fa (a7 a) (eQ a)=some a:=by
 by_cases c:a=0
 ·subst c;rfl
 rw[CM (v:=a) (by unfold eQ;omega) (by
  conv=>lhs;rw[<-rU a]
  unfold eQ;rw[(U:((bx a.natAbs:Int)-65536+65536).toNat=bx a.natAbs)])]
 exact ai b
def Gn (f a:Int):ec (fa f a):=by
 intro i b;unfold fa at b;split at b
 ·cases b;show aA 0<=_;decide
 split at b
 ·cases b
 rename_i g h;cases b;unfold e2;rcases Int.le_total 0 (a+65536) with e|e
 ·obtain⟨c,d⟩:∃c:Nat,a+65536=c:=⟨(a+65536).toNat,U⟩;rw[d,n2,lN,lE U];omega
 obtain⟨c,d⟩:∃c:Nat,a+65536=-(c:Int):=⟨(-(a+65536)).toNat,U⟩;rw[d,wx,yS ((tK U).1 U),pN];omega
def Q2 (b:Int):ec (lG b):=by
 intro c a;unfold lG at a;split at a
 ·cases a;assumption
 cases a
def Nj (c a d b:Nat) (f:0<a):c*2^d/a=c*2^(d+b)/a/2^b:=by have e:=hS b;rw[Nat.div_div_eq_div_mul,hf,<-ou,Nat.mul_div_mul_right _ _ e]
theorem X3 (d a c b:Nat) (m:0<a):d*2^c %a≠0↔(d*2^(c+b) %a≠0\/d*2^(c+b)/a %2^b≠0):=by
 have t:=hS b;have r:=l1 (d*2^c) a;have j:=l1 (d*2^(c+b)) a;have k:=l1 (d*2^(c+b)/a) (2^b);rw[<-Nj d a c b m] at k;generalize d*2^(c+b)/a=o at*;generalize d*2^c/a=g at*;generalize d*2^c %a=i at*;generalize d*2^(c+b) %a=h at*;generalize o %2^b=p at*;rw[hf] at j;generalize 2^b=e at*;generalize 2^c=v at*;have l:i*e=a*p+h:=(by have s:(a*g+i)*e=a*o+h:=(by rw[r,j,ou]);rw[<-k,eO,Nat.mul_add] at s;have w:a*g*e=a*(e*g):=(by grind);omega);constructor
 ·intro y;have x:0<i*e:=Nat.mul_pos U t;by_cases n:h=0
  ·right;intro u;subst u;subst n;simp at l;omega
  exact .inl n
 rintro f q;subst q;simp only[mJ] at l;rcases f with f|f
 ·omega
 have:=Nat.mul_pos m (U:0<p);omega
def qr (a b c:Nat) (f:Bool) (d e:Int):Int:=iA f (b*2^a/c) (d-a) (decide (b*2^a %c≠0)) e
def Dg (h:0<b) (e:0<c) (i:58+aA c<=aA b+j):58<=aA (b*2^j/c):=by
 rcases bg 57 (aA (b*2^j/c)) with a|a
 ·exact a
 exfalso;have d:b*2^j/c<2^57:=dy.1 a;rw[Nat.div_lt_iff_lt_mul e] at d;have f:=(u9 e).2;have g:b*2^j<2^57*2^aA c:=he d (Nat.mul_le_mul_left _ (pD f));rw[<-hf,<-dy,lE h] at g;omega
def X1 {f:Nat} (m:0<c) (g:0<j) (l:58+aA j<=aA c+b) (o:b<=f):qr f c j h a e=qr b c j h a e:=by obtain⟨d,rfl⟩:∃d,f=b+d:=⟨f-b,U⟩;unfold qr;have p:=Dg m g l;have i:=Nj c j b d g;have n:d+53<aA (c*2^(b+d)/j):=(by have:=pN (c*2^(b+d)/j) d;rw[<-i] at this;omega);rw[NJ (k:=d) n,<-i,(U:a-((b+d:Nat):Int)+d=a-b)];congr 1;rw[<-Bool.decide_or,decide_eq_decide];exact(X3 c j b d g).symm
theorem Zs (b a:Nat):(bH b*bH b≠b)↔(bH (b*2^(2*a))*bH (b*2^(2*a))≠b*2^(2*a)\/bH (b*2^(2*a)) %2^a≠0):=by
 have g:=hS a;have i:=KS b a;have f:=l1 (bH (b*2^(2*a))) (2^a);rw[i] at f;have e:2^(2*a)=2^a*2^a:=(by rw[Nat.two_mul,hf]);constructor
 ·intro c;by_cases h:bH (b*2^(2*a)) %2^a=0
  ·left;intro d;rw[h] at f;rw[<-f,e] at d;refine c (Nat.eq_of_mul_eq_mul_right (Nat.mul_pos g g) ?_);grind
  exact .inr h
 intro c d;have j:bH (b*2^(2*a))=bH b*2^a:=by
  refine Cw ?_ ?_
  ·rw[e];conv=>rhs;rw[<-d]
   apply Nat.le_of_eq;grind
  conv=>lhs;rw[<-d]
  rw[e];grind
 rw[j] at c;rcases c with c|c
 ·refine c ?_
  conv=>rhs;rw[<-d]
  rw[e];grind
 exact c (Nat.mul_mod_left _ _)
def o8 (a b:Nat) (c d:Int):Int:=iA false (bH (b*2^a)) ((c-a)/2) (decide (bH (b*2^a)*bH (b*2^a)≠b*2^a)) d
def yC (e:115<=aA b):58<=aA (bH b):=by
 rcases bg 57 (aA (bH b)) with a|a
 ·exact a
 exfalso;have c:bH b+1<=2^57:=dy.1 a;have f:=(qd b).2;have g:=it c c;have d:b<2^114:=(by have:2^57*2^57=2^114:=(by rw[<-hf]);omega);have:=dy.2 d;omega
def YI (g:0<j) (l:115<=aA j+b) (m:(a-b) %2=0):o8 (b+2*c) j a e=o8 b j a e:=by unfold o8;have n:58<=aA (bH (j*2^b)):=yC (by rw[lE g];omega);have f:=KS (j*2^b) c;have i:=Zs (j*2^b) c;rw[hf,<-ou];generalize j*2^b=d at*;have h:c+53<aA (bH (d*2^(2*c))):=(by have:=pN (bH (d*2^(2*c))) c;rw[f] at this;omega);rw[NJ (k:=c) h,f,(U:(a-((b+2*c:Nat):Int))/2+c=(a-b)/2)];congr 1;rw[<-Bool.decide_or,decide_eq_decide];exact i.symm
def zi (a b:Int):Int:=if a=0 then 0 else iA (decide (a<0)) (a7 a).natAbs (eQ a) false b
def lP (a b:Nat):Nat:=59+aA b-aA a
def r2 (a b c:Int):Int:=qr (lP (a7 a).natAbs (a7 b).natAbs) (a7 a).natAbs (a7 b).natAbs (decide (a<0)!=decide (b<0)) (eQ a-eQ b) c
def X2 {kJ:Int} (c:a≠0) (d:e≠0) (f:lP (a7 a).natAbs (a7 e).natAbs<=b):qr b (a7 a).natAbs (a7 e).natAbs (decide (a<0)!=decide (e<0)) (eQ a-eQ e) kJ=r2 a e kJ:=by have g:=ia c;have h:=ia d;refine X1 U U ?_ f;unfold lP;omega
def iL (a:Nat) (b:Int):Nat:=if(b-((118-aA a:Nat):Int)) %2=0 then 118-aA a else 118-aA a+1
def nY (a b:Int):Int:=o8 (iL (a7 a).natAbs (eQ a)) (a7 a).natAbs (eQ a) b
def YJ {v kJ:Int} {k:Nat} (i:0<v) (h:118<=aA (a7 v).natAbs+k) (f:(eQ v-k) %2=0):o8 k (a7 v).natAbs (eQ v) kJ=nY v kJ:=by have e:=ia (v:=v) U;unfold nY;have a:(eQ v-(iL (a7 v).natAbs (eQ v):Nat)) %2=0:=(by unfold iL;split<;>omega);have g:iL (a7 v).natAbs (eQ v)<=k:=(by unfold iL at a|-;split<;>rename_i c<;>simp only[c,if_true,if_false] at a<;>omega);obtain⟨b,d⟩:∃b,k=iL (a7 v).natAbs (eQ v)+2*b:=⟨(k-iL (a7 v).natAbs (eQ v))/2,U⟩;rw[d];refine YI U ?_ a;unfold iL;split<;>omega
def bQ {a:List o} (c:b<a.length):aC a (b:Int)=some a[b]:=eC (a9 c)
def zD (a:b<9223372036854775808):ar (b:Int)=(b:Int):=wrap64 U U
def bm {x:Int} (a:-9223372036854775808<=x) (b:x<=9223372036854775807):ar x=x:=wrap64 a b
def bt (a:b<9223372036854775807):aY (b:Int)=((b+1:Nat):Int):=by unfold aY;rw[wrap64 U U];simp
def b2 {x:Int} (a:0<=x) (b:x<18446744073709551616):aJ x=x:=DV a b
def jY {x:Int} (a:0<=x) (b:x<4294967296):b3 x=x:=HX a b
def n7 (a:Int):b3 a=a %4294967296:=HW a
def kw (a:Int):aJ a=a %18446744073709551616:=zF a
def qg (b:0<=a) (c:a<18446744073709551616):b3 (dr IntKind.u64 a 4294967295)=a %4294967296:=by rw[and_low32 b c,jY U U]
def a1 (a:List o):ay a=(a.length:Int):=rfl
def Dz {a:List o} (e:b<=a.length):((some (0:Nat)).bind λc=>(fV (b:Int)).bind λd=>(gd c d a.length).map λ_=>(c,d))=some (0,b):=by rw[aG,rR,aG,tJ ⟨bE _,e⟩];rfl
def nh (o:aP d) (q:d.length<=100000000):g1 (d,())=some (fY d,()):=by
 unfold g1;refine ae.eq_iff.1 ?_;refine ae.aU (P:=λp=>∃a:Nat,p.1=(a:Int)/\a<=d.length/\(∀b,a<=b->(j:b<d.length)->d[b]=0)/\dE (d.take a)) ?_ ?_
 ·refine ae.loop (λh=>∃a:Nat,h.1=(a:Int)/\a<=d.length/\(∀b,a<=b->(j:b<d.length)->d[b]=0)) (λh=>h.1.toNat) ⟨d.length,rfl,a2 _,λb c f=>by omega⟩ ?_;rintro⟨_,_⟩ ⟨a,rfl,c,f⟩;rcases a with _|a
  ·refine ae.ag.2 ⟨0,rfl,bE _,f,λk e=>by simp at e⟩
  have al:ar (((a+1:Nat):Int)-1)=(a:Int):=(by rw[bm U U];omega);have l:decide (((a+1:Nat):Int)>0)=true:=aB U;simp only[al,l,beq_self_eq_true,cond_true,bQ (show a<d.length from c),aG];by_cases g:d[a]=0
  ·rw[dB,aB g];refine ae.ag.2 ⟨⟨a,rfl,U,λb j n=>?_⟩,?_⟩
   ·rcases bg a b with i|i
    ·exact f b i n
    obtain rfl:b=a:=U;exact g
   show(a:Int).toNat<((a+1:Nat):Int).toNat;omega
  rw[dB,az g];refine ae.ag.2 ⟨a+1,rfl,c,f,λk e=>?_⟩;rw[ir,a9 c] at e;have e:(d.take a++[d[a]]).getLast?=some k:=e;rw[List.getLast?_concat] at e;cases e;exact g
 rintro⟨_,_⟩ ⟨a,rfl,c,f,m⟩;refine ae.of_eq (aq (Dz c) rfl) ?_;show(List.drop 0 (List.take a d),())=_;rw[lv,OH o c f m]
def xd (c:d.length<=100000000):s8 (d,())=some (d,()):=by
 unfold s8;have a:((bN (([]:ad5).length+d.length)).bind λ_=>some (([]++d:ad5),()))=some (d,()):=(by rw[dQ (by simp;omega)];rfl);show m7 d.length (some ([],())) ((bN (([]:ad5).length+d.length)).bind λ_=>some (([]++d:ad5),()))=_;unfold m7;rw[a];split
 ·rename_i b;obtain rfl:=lX b;rw[ai rfl]
 rfl
def qe:(ay d==0)=decide (d=[]):=by rw[dB,decide_eq_decide];show((d.length:Nat):Int)=0↔_;rw[<-D4];omega
def u5 (b:aP d) (f:d.length<=100000000):kc (h,d,())=some (aM (fj (h,d,())),()):=by
 unfold kc;refine aq (nh b f) ?_;have c:=JZ (neg:=h) (HM d) (OG d);have e:fj (h,fY d,())=fj (h,d,()):=(by unfold fj;simp only[HN b]);rw[<-e,<-c];simp only[qe,br];split
 ·rename_i a;simp[a]
 rename_i a;simp[a]
def RX (c:a.natAbs<2^(32*b)):(aM a).2.1.length<=b:=by refine p2 ?_;unfold aI;have d:(2^(32*b):Nat)=4294967296^b:=(by rw[Nat.pow_mul]);rw[d] at c;have:((4294967296^b:Nat):Int)=4294967296^b:=ac;omega
def Fit (a:Int):Prop:=(aM a).2.1.length<=31250
def RW (b:Nat) (c:aA a.natAbs<=32*b):(aM a).2.1.length<=b:=RX (dy.1 c)
def h7 (b:aA a.natAbs<=1000000):Fit a:=RW 31250 U
def UY {b:n8} (c:aP b.2.1) (a:b.2.1.length<=100000000):A4 (b,())=some (aM (fj b),()):=by obtain⟨e,d,_⟩:=b;unfold A4;exact aq (xd a) (aq (u5 c a) rfl)
def DR (a:Bool) (b:ad5):fj (!a,b,())=-fj (a,b,()):=by unfold fj;cases a<;>simp
def OW (b:aP d) (a:Bool):fj (false,d,())=(fj (a,d,())).natAbs:=by have:=dH b;unfold fj;cases a<;>simp<;>omega
def LO (e:Fit a):q7 (aM a,())=some (aM (-a),()):=by unfold q7;have b:(aM a).2.1.length<=100000000:=dh e aa;refine aq (xd b) (aq (u5 (k4 a) b) ?_);have c:=DR (aM a).1 (aM a).2.1;have d:=ni a;rw[c];show some (aM (-fj (aM a)),())=_;rw[d]
def Ej (d:Fit a):vp (aM a,())=some (aM a.natAbs,()):=by unfold vp;have b:(aM a).2.1.length<=100000000:=dh d aa;refine aq (xd b) (aq (u5 (k4 a) b) ?_);rw[OW (k4 a) (aM a).1];have c:=ni a;show some (aM ((fj (aM a)).natAbs:Int),())=_;rw[c]
def OE (c:Fit a):g1 ((aM a).2.1,())=some ((aM a).2.1,()):=by rw[nh (k4 a) (dh c aa)];have b:=dE.eq (k4 a) (Cb a);show some (bR (af (aM a).2.1).toNat,())=_;rw[<-b]
def dW (a:Int):Int:=if a=0 then 0 else if a<0 then-1 else 1
def qw {z:Int} (a:Fit z):nH (aM z,())=some (dW z,()):=by
 unfold nH;refine aq (OE a) ?_;simp only[qe,br,vJ];unfold dW;split
 ·rfl
 show(bif decide (z<0) then _ else _)=_;rw[br];split<;>rfl
def ae.steps {q:Type} {j:o->Option (o⊕q)} {i:q->Prop} (h:Nat) (f:Nat->o->Prop) {m:o} (r:f 0 m) (v:∀c b,c<h->f c b->ae (j b) (λ|.inl k=>f (c+1) k|.inr a=>i a)) (u:∀b,f h b->ae (j b) (λ|.inl _=>False|.inr a=>i a)):ae (h2.loop j m) i:=by
 have x:∀g c b,c+g=h->f c b->∃a,h8 j (g+1) b=some a/\i a:=by
  intro g
  induction g with
  |zero=>
   intro c b p l;obtain rfl:c=h:=p;obtain⟨n,e,d⟩:=u b l;cases n with
   |inl k=>exact d.elim
   |inr a=>exact⟨a,by simp only[h8,e],d⟩
  |succ g w=>
   intro c b p l;obtain⟨n,e,d⟩:=v c b U l;cases n with
   |inl k=>
    obtain⟨a,s,t⟩:=w (c+1) k U d;exact⟨a,by rw[h8,e];exact s,t⟩
   |inr a=>exact⟨a,by simp only[h8,e],d⟩
 obtain⟨a,e,d⟩:=x h 0 m U r;exact⟨a,vX.2 ⟨_,e⟩,d⟩
def wD (c:ad5) (b:Nat):af (c.take (b+1))=af (c.take b)+aI b*c.getD b 0:=by
 rcases bg b c.length with a|a
 ·rw[gC a,iO,a9 a];rfl
 rw[dm U,dm a,iO,hR a];simp
def aP.getD {b:ad5} (d:aP b) (c:Nat):0<=b.getD c 0/\b.getD c 0<4294967296:=by
 rcases bg c b.length with a|a
 ·rw[iO,a9 a];exact d.get a
 rw[iO,hR a];exact⟨qG _,aa⟩
def jN (a:b<d.length):d.getD b 0=d[b]:=by rw[iO,a9 a];rfl
def mY (a:d.length<=b):d.getD b 0=0:=by rw[iO,hR a];rfl
theorem G1 (s:aP d) (t:aP f) (y:d.length<=10000000) (z:f.length<=10000000):s4 (d,f,())=some (bR (af d+af f).toNat,()):=by
 unfold s4;refine ae.eq_iff.1 ?_;refine ae.aU (P:=λi=>∃m q,i=(m,q,())/\aP m/\aP q/\m.length<=10000000/\q.length<=m.length/\af m+af q=af d+af f) ?_ ?_
 ·simp only[br];refine ae.ite (λh=>ae.ag.2 ⟨f,d,rfl,t,s,z,?_,Int.add_comm _ _⟩) λh=>ae.ag.2 ⟨d,f,rfl,s,t,y,?_,rfl⟩
  ·simp only[a1] at h;omega
  simp only[a1] at h;omega
 rintro _ ⟨e,k,rfl,B,C,K,D,w⟩;rw[<-w];clear w s t y z;dsimp only;have A:aY (ay e)=((e.length+1:Nat):Int):=bt U;have al:dV 0 ((e.length+1:Nat):Int)=some 0:=(by unfold dV;rw[if_pos ⟨U,U,by have:fm=4294967296:=rfl;omega⟩];rfl);rw[A,al];refine ae.aU (P:=λi=>∃a c,i=(a,c,())/\c.length=e.length/\aP c/\0<=a/\a<=1/\af c+aI e.length*a=af e+af k) ?_ ?_
 ·refine ae.steps e.length (λb F=>∃a c,F=(a,(b:Int),c,())/\c.length=b/\aP c/\0<=a/\a<=1/\af c+aI b*a=af (e.take b)+af (k.take b)) ⟨0,[],rfl,rfl,aP.nil,U,U,by simp[af]⟩ ?_ ?_
  ·rintro b _ u ⟨a,c,rfl,l,n,o,r,p⟩;have J:=B.get u;have E:=C.getD b;have j:∃g,g=e[b]+a+k.getD b 0/\0<=g/\g<18446744073709551616/\g/4294967296<=1:=⟨_,rfl,U,U,U⟩;obtain⟨g,j,G,H,I⟩:=j;have v:decide ((b:Int)<ay e)=true:=aB (by simp only[a1];omega);simp only[v,cond_true,bQ u,aG];refine ae.aU (P:=λi=>i=(g/4294967296,c++[g %4294967296],())) ?_ ?_
   ·refine ae.aU (P:=λi=>i=(g,c,())) ?_ ?_
    ·simp only[br];refine ae.ite (λh=>?_) λh=>?_
     ·have h:b<k.length:=(by simp only[a1] at h;omega);rw[bQ h];rw[jN h] at j E;refine ae.ag.2 ?_;rw[b2 (x:=e[b]) U U,b2 (x:=e[b]+a) U U,b2 (x:=k[b]) U U,b2 U U,j]
     have h:k.length<=b:=(by simp only[a1] at h;omega);rw[mY h] at j;refine ae.ag.2 ?_;rw[b2 (x:=e[b]) U U,b2 (x:=e[b]+a) U U,j,sm]
    rintro _ rfl;dsimp only;rw[dQ (by simp;omega),qg G H,lS];exact ae.ag.2 rfl
   rintro _ rfl;dsimp only;refine ae.ag.2 ⟨g/4294967296,c++[g %4294967296],by rw[bt U],by simp[l],n.snoc U U,U,I,?_⟩;rw[pi,l,gD,gC u,wD];have:=Int.emod_add_mul_ediv g 4294967296;generalize g/4294967296=L at*;generalize g %4294967296=i at*;subst j;grind
  rintro _ ⟨a,c,rfl,l,n,o,r,p⟩;have v:decide ((e.length:Int)<ay e)=false:=az (by simp only[a1];omega);simp only[v,cond_false];refine ae.ag.2 ⟨a,c,rfl,l,n,o,r,?_⟩;rw[p,dm (a2 _),dm D]
 rintro _ ⟨a,c,rfl,l,n,o,r,p⟩;dsimp only;rw[dQ (by simp;omega),jY o U];refine ae.of_eq (aq rfl (aq (nh (n.snoc o U) (by simp;omega)) rfl)) ?_;show(fY (c++[a]),())=_;rw[fY,pi,l,p]
def hk (b:ad5) (c:Nat):Prop:=∀a,c<=a->(d:a<b.length)->b[a]=0
def hk.ky (b a:Nat):hk (List.replicate b (0:Int)) a:=λd _ c=>by simp
def hk.set {b:ad5} {a:Nat} (c:hk b a) (e:Int):hk (b.set a e) (a+1):=λd f g=>by rw[sx U];exact c d U _
def hk.Hu {j:Nat} (a:hk d b) (f:Int) (g:j<b):hk (d.set j f) b:=λe c h=>by rw[sx U];exact a e c _
theorem Lt (s:aP d) (t:aP f) (E:d.length<=10000000) (v:f.length<=d.length) (C:af f<=af d):vu (d,f,())=some (bR (af d-af f).toNat,()):=by
 unfold vu;refine ae.eq_iff.1 ?_;simp only[a1,fU (U:d.length<=4294967296),aG];refine ae.aU (P:=λi=>∃a b,i=(a,())/\a.length=d.length/\aP a/\0<=b/\b<=1/\af a-aI d.length*b=af d-af f) ?_ ?_
 ·refine ae.steps d.length (λe y=>∃b a,y=(b,(e:Int),a,())/\a.length=d.length/\aP a/\hk a e/\0<=b/\b<=1/\af a-aI e*b=af (d.take e)-af (f.take e)) ⟨0,_,rfl,ac,aP.ky _,hk.ky _ _,U,U,by simp[af,n6]⟩ ?_ ?_
  ·rintro e _ o ⟨b,a,rfl,j,h,q,m,n,l⟩;have D:=s.get o;have w:=t.getD e;obtain⟨c,k,z,A⟩:∃c,c=d[e]-b-f.getD e 0/\-4294967296<=c/\c<4294967296:=⟨_,rfl,U,U⟩;have p:decide ((e:Int)<(d.length:Int))=true:=aB U;simp only[a1,p,cond_true,bQ o,aG];refine ae.aU (P:=λi=>i=(-(c/4294967296),a.set e (c %4294967296),())) ?_ ?_
   ·refine ae.aU (P:=λi=>i=(c %18446744073709551616,a,())) ?_ ?_
    ·simp only[br];refine ae.ite (λg=>?_) λg=>?_
     ·have g:e<f.length:=U;rw[bQ g];rw[jN g] at k w;refine ae.ag.2 ?_;simp only[kw];rw[k];congr 1;omega
     have g:f.length<=e:=U;rw[mY g] at k;refine ae.ag.2 ?_;simp only[kw];rw[k];congr 1;omega
    rintro _ rfl;dsimp only;rw[qg U U,jZ U,lS];refine ae.ag.2 ?_;rw[qS 1 U U 1 aa aa];have ax:c %18446744073709551616/4294967296 %2^1=-(c/4294967296):=(by rw[show(2:Int)^1=2 from rfl];omega);have x:c %18446744073709551616 %4294967296=c %4294967296:=U;rw[ax,x]
   rintro _ rfl;dsimp only;refine ae.ag.2 ⟨-(c/4294967296),a.set e (c %4294967296),by rw[bt U],by simp[j],h.set U U,q.set _,U,U,?_⟩;rw[ln U,q e (Nat.le_refl _) U,gD,gC o,wD];have:=Int.emod_add_mul_ediv c 4294967296;generalize c/4294967296=F at*;generalize c %4294967296=i at*;subst k;grind
  rintro _ ⟨b,a,rfl,j,h,q,m,n,l⟩;have p:decide ((d.length:Int)<(d.length:Int))=false:=az U;simp only[a1,p,cond_false];refine ae.ag.2 ⟨a,b,rfl,j,h,m,n,?_⟩;rw[l,dm (a2 _),dm v]
 rintro _ ⟨a,b,rfl,j,h,m,n,l⟩;dsimp only;have r:=fq h;have B:=eg d.length;rw[j] at r;have u:b=0:=by
  rcases gZ 0 b with g|g
  ·obtain rfl:b=1:=U;omega
  omega
 subst u;refine ae.of_eq (aq (nh h U) rfl) ?_;show(fY a,())=_;rw[fY,<-l];simp
def eo (a b:Int):Int:=if a<b then-1 else if b<a then 1 else 0
def EN (a b:Int):vg (a,b,())=some (eo a b,()):=by
 unfold vg q3 eo;simp only[bne_self_eq_false,aG,cond_false,br];split
 ·rfl
 split
 ·rename_i c d
  first|rfl|(rw[ai U])
 first|rfl|(rename_i c d;rw[ah U])
def Rq (a b:Int):AB (a,b,())=some (eo a b,()):=by
 unfold AB AD eo;simp only[bne_self_eq_false,aG,cond_false,br];split
 ·rfl
 split
 ·rename_i c d
  first|rfl|(rw[ai U])
 first|rfl|(rename_i c d;rw[ah U])
theorem DS (i:aP d) (j:aP f) (k:b<d.length) (l:b<f.length) (c:af (d.drop (b+1))=af (f.drop (b+1))) (p:d[b]<f[b]):af d<af f:=by rw[nj d b U,nj f b U,kv k,kv l,c];have e:=fq (i.take b);have m:=dH (j.take b);rw[dZ,fu U] at e;have n:aI b*(d[b]+1)<=aI b*f[b]:=il U (dX (eg b));have o:aI b*(d[b]+1)=aI b*d[b]+aI b:=(by grind);have g:∀a,aI b*(d[b]+a)=aI b*d[b]+aI b*a:=λa=>(by grind);have h:∀a,aI b*(f[b]+a)=aI b*f[b]+aI b*a:=λa=>(by grind);rw[g,h];omega
def ph (c:aP f) (e:aP d) (g:dE d) (a:f.length<d.length):af f<af d:=by have h:=fq c;have i:=dE.low e g (by intro b;rw[b] at a;simp at a);have j:=nV (m:=f.length) (n:=d.length-1) U;omega
def Aw (h:aP d) (i:aP f) (r:dE d) (s:dE f) (v:d.length<=10000000) (w:f.length<=10000000):s3 (d,f,())=some (eo (af d) (af f),()):=by
 unfold s3;refine ae.eq_iff.1 ?_;simp only[b0,a1];by_cases o:d.length=f.length
 ·rw[aB (U:(d.length:Int)=f.length)];simp only[e3,cond_false];refine ae.aU (P:=λm=>match m with|.inl _=>af d=af f|.inr p=>p=(eo (af d) (af f),())) ?_ ?_
  ·refine ae.steps d.length (λc q=>q=(((d.length:Nat):Int)-1-c,())/\af (d.drop (d.length-c))=af (f.drop (d.length-c))) ⟨?_,?_⟩ ?_ ?_
   ·rw[bm U U];simp
   ·rw[og U,og U]
   ·rintro c _ t ⟨rfl,e⟩;obtain⟨a,u⟩:∃a,d.length=a+1+c:=⟨d.length-1-c,U⟩;have al:((d.length:Nat):Int)-1-(c:Int)=(a:Int):=U;have k:a<d.length:=U;have l:a<f.length:=U;rw[(U:d.length-c=a+1)] at e;simp only[al,aB (U:(a:Int)>=0),cond_true,bQ k,bQ l,aG,Rq];by_cases j:d[a]=f[a]
    ·simp only[aB j,e3,cond_false];refine ae.ag.2 ⟨?_,?_⟩
     ·rw[bm U U];congr 1;omega
     rw[(U:d.length-(c+1)=a),kv k,kv l,j,e]
    simp only[az j,ij,cond_true];refine ae.ag.2 ?_;show(eo d[a] f[a],())=_;have n:eo d[a] f[a]=eo (af d) (af f):=by
     unfold eo;rcases Int.lt_or_gt_of_ne j with b|b
     ·rw[ai b,ai (DS h i k l e b)]
     have:=DS i h l k e.symm b;rw[ah U,ai b,ah U,ai this]
    rw[n]
   rintro _ ⟨rfl,e⟩;have al:¬(((d.length:Nat):Int)-1-(d.length:Int)>=0):=U;simp only[az al,cond_false];refine ae.ag.2 ?_;simpa using e
  rintro(m|m) g
  ·refine ae.ag.2 ?_;have g:af d=af f:=g;unfold eo;rw[g];simp
  have g:m=_:=g;rw[g];exact ae.ag.2 rfl
 rw[az (U:¬(d.length:Int)=f.length)];simp only[ij,cond_true,EN,aG];refine ae.ag.2 ?_;congr 1;unfold eo;rcases Nat.lt_or_gt_of_ne o with b|b
 ·rw[ai U,ai (ph h i s b)]
 have:=ph i h r b;rw[ah U,ai U,ah U,ai this]
def yR {x y:Int} (b:0<=x/\x<4294967296) (a:0<=y/\y<4294967296):0<=x*y/\x*y<=18446744065119617025:=by refine⟨lW b.1 a.1,?_⟩;have c:x*y<=4294967295*y:=kU U a.1;have d:(4294967295:Int)*y<=4294967295*4294967295:=il U aa;omega
theorem YQ (G:0<=a/\a<4294967296) (F:aP d) (S:b+d.length<c) (R:c<=100000000) (C:f.length=c) (D:aP f) (I:hk f (b+d.length)) {r:hh->Prop} (E:∀h g,g.length=c->aP g->hk g (b+d.length)->0<=h->h<4294967296->af g+aI (b+d.length)*h=af f+aI b*(a*af d)->r (h,g,())):ae (loop (σ:=oC) (ρ:=hh) (λ(l,j,o,_)=>
 bif decide (j<ay d) then
 (aC d j).bind λy=>
 rd o (ar ((b:Int)+j)) λz=>
 wr o (ar ((b:Int)+j)) (b3 (dr IntKind.u64 (aJ (aJ (aJ (aJ a*aJ y)+aJ z)+l)) 4294967295)) λP=>
 (dk IntKind.u64 (aJ (aJ (aJ (aJ a*aJ y)+aJ z)+l)) 32).bind λO=>
 some (.inl (O,aY j,P,())) else
 some (.inr (l,o,()))) (0,0,f,())) r:=by
 refine ae.steps d.length (λe M=>∃h g,M=(h,(e:Int),g,())/\g.length=c/\aP g/\hk g (b+d.length)/\0<=h/\h<4294967296/\af g+aI (b+e)*h=af f+aI b*(a*af (d.take e))) ⟨0,f,rfl,C,D,I,U,U,by simp[af]⟩ ?_ ?_
 ·rintro e _ m ⟨h,g,rfl,ax,k,p,t,u,q⟩;have H:=F.get m;have V:=k.get (n:=b+e) U;have T:=yR G H;obtain⟨i,s,v,w⟩:∃i,i=a*d[e]+g[b+e]+h/\0<=i/\i<18446744073709551616:=⟨_,rfl,U,U⟩;simp only[aB (show(e:Int)<ay d by simp only[a1];omega),cond_true,bQ m,aG];have al:ar ((b:Int)+(e:Int))=((b+e:Nat):Int):=(by rw[bm U U];simp);rw[al,jU U];have A:aJ (aJ (aJ (aJ a*aJ d[e])+aJ g[b+e])+h)=i:=by
   rw[b2 (x:=a) U U,b2 (x:=d[e]) U U,b2 (x:=g[b+e]) U U,b2 (x:=a*d[e]) U U,b2 (x:=a*d[e]+g[b+e]) U U,<-s,b2 v w]
  rw[A,qg v w,jZ U,lS];refine ae.ag.2 ⟨i/4294967296,g.set (b+e) (i %4294967296),by rw[bt U],by simp[ax],k.set U U,p.Hu _ U,U,U,?_⟩;rw[ln U,(U:b+(e+1)=(b+e)+1),gD,gC m];have Q:=hA i 4294967296;rw[sj] at q|-;generalize i/4294967296=K at*;generalize i %4294967296=L at*;generalize g[b+e]=J at*;generalize d[e]=N at*;subst s;have B:L=a*N+J+h-4294967296*K:=U;subst B;grind
 rintro _ ⟨h,g,rfl,ax,k,p,t,u,q⟩;simp only[az (show¬((d.length:Int)<ay d) by simp only[a1];omega),cond_false];refine ae.ag.2 (E h g ax k p t u ?_);rw[q,dm (a2 _)]
theorem ZU (w:aP f) (x:aP d) (z:f.length<=10000000) (A:d.length<=10000000):A9 (f,d,())=some (bR (af f*af d).toNat,()):=by
 unfold A9;refine ae.eq_iff.1 ?_;simp only[qe];refine ae.aU (P:=λo=>match o with|.inl _=>f≠[]/\d≠[]|.inr h=>h=(bR (af f*af d).toNat,())) ?_ ?_
 ·by_cases i:f=[]
  ·simp only[aB i];refine ae.ag.2 ?_;subst i;simp[af];rfl
  simp only[az i,beq_self_eq_true,cond_true];by_cases j:d=[]
  ·simp only[aB j,cond_true];refine ae.ag.2 ?_;subst j;simp[af];rfl
  simp only[az j,cond_false];exact ae.ag.2 ⟨i,j⟩
 rintro(o|o) k
 rotate_left
 ·have k:o=_:=k;subst k;exact ae.ag.2 rfl
 clear k;dsimp only;have v:ar (ay f+ay d)=((f.length+d.length:Nat):Int):=(by simp only[a1];rw[bm U U];simp);rw[v,fU U,Option.bind_some];refine ae.aU (P:=λh=>∃a,h=(a,())/\a.length=f.length+d.length/\aP a/\af a=af f*af d) ?_ ?_
 ·refine ae.steps f.length (λb y=>∃a,y=((b:Int),a,())/\a.length=f.length+d.length/\aP a/\hk a (b+d.length)/\af a=af (f.take b)*af d) ⟨_,rfl,ac,aP.ky _,hk.ky _ _,by simp[af,n6]⟩ ?_ ?_
  ·rintro b _ q ⟨a,rfl,ax,g,p,u⟩;simp only[aB (show(b:Int)<ay f by simp only[a1];omega),cond_true,bQ q,Option.bind_some];refine ae.aU (P:=λh=>∃e c,h=(e,c,())/\c.length=f.length+d.length/\aP c/\hk c (b+d.length)/\0<=e/\e<4294967296/\af c+aI (b+d.length)*e=af a+aI b*(f[b]*af d)) (YQ (w.get q) x U U ax g p λe c r s l m n t=>⟨e,c,rfl,r,s,l,m,n,t⟩) ?_;rintro _ ⟨e,c,rfl,r,s,l,m,n,t⟩;have al:ar ((b:Int)+ay d)=((b+d.length:Nat):Int):=(by simp only[a1];rw[bm U U];simp);dsimp only;rw[al,jY m n,jZ U];refine ae.ag.2 ⟨c.set (b+d.length) e,by rw[bt U],by simp[r],s.set m n,?_,?_⟩
   ·rw[(U:b+1+d.length=b+d.length+1)];exact l.set _
   rw[ln U,l _ (a2 _) U,gC q,Int.sub_zero,t,u];grind
  rintro _ ⟨a,rfl,ax,g,p,u⟩;simp only[az (show¬((f.length:Int)<ay f) by simp only[a1];omega),cond_false];refine ae.ag.2 ⟨a,rfl,ax,g,?_⟩;rw[u,dm (a2 _)]
 rintro _ ⟨a,rfl,ax,g,p⟩;refine ae.of_eq (aq (nh g (by show a.length<=_;omega)) rfl) ?_;show(fY a,())=_;rw[fY,p]
def TW:∀a:Nat,a<256->pg CD (a:Int)=some (aA a:Int):=by have b:(List.range 256).all (λa=>pg CD (a:Int)==some (aA a:Int))=true:=(by decide+kernel);intro a c;have:=fd.1 b a (fe.2 c);exact eq_of_beq this
def Hw {x y:Int} (a:0<=y) (b:y<=32):dk .u32 x y=some (x/2^y.toNat):=by unfold dk;rw[ai a,show IntKind.u32.bits=32 from rfl,fu U,zQ _ (by exact Int.pow_nonneg aa)]
def Oe (b:0<=a) (c:a<=32):gN .u32 e a=some ((e*2^a.toNat) %4294967296):=by unfold gN;rw[ai b,HW,show IntKind.u32.bits=32 from rfl,fu U]
def aaw (b:0<=a) (c:a<256):IntKind.u8.wrap a=a:=by unfold IntKind.wrap;refine(ah (ac:¬(false&&decide (a %256>=(128:Int)))=true)).trans ?_;show a %256=a;omega
def Jg {n k:Nat} (a:2^k<=n):aA n=aA (n/2^k)+k:=by rw[pN];have:=sQ.2 a;omega
def F9 {n:Nat} (i:n<4294967296):vv ((n:Int),())=some ((aA n:Int),()):=by
 unfold vv;refine ae.eq_iff.1 ?_;refine ae.aU (P:=λe=>∃a b:Nat,e=((a:Int),(b:Int),())/\a<65536/\aA n=aA a+b/\b<=16) ?_ ?_
 ·simp only[br];refine ae.ite (λf=>?_) λf=>?_
  ·rw[Hw aa aa];refine ae.ag.2 ⟨n/2^16,16,?_,U,Jg U,U⟩;simp
  exact ae.ag.2 ⟨n,0,rfl,U,rfl,U⟩
 rintro _ ⟨a,b,rfl,f,g,j⟩;refine ae.aU (P:=λe=>∃a b:Nat,e=((a:Int),(b:Int),())/\a<256/\aA n=aA a+b/\b<=24) ?_ ?_
 ·simp only[br];refine ae.ite (λc=>?_) λc=>?_
  ·rw[Hw aa aa];refine ae.ag.2 ⟨a/2^8,b+8,?_,U,by have:=Jg (n:=a) (k:=8) U;omega,U⟩;rw[wrap64 U U];simp
  exact ae.ag.2 ⟨a,b,rfl,U,g,U⟩
 rintro _ ⟨d,o,rfl,c,h,l⟩;dsimp only;rw[aaw U U,TW d c];refine ae.ag.2 ?_;have m:aA d<=8:=dy.2 U;rw[wrap64 (x:=(aA d:Int)) U U,wrap64 U U,h];congr 1;omega
def QF {l:ad5} {x:Int} (g:aP l) (p:0<x):aA (af l+aI l.length*x).toNat=32*l.length+aA x.toNat:=by
 obtain⟨b,rfl⟩:=eH (dX p);obtain⟨d,o⟩:=eH (dH g);have f:=fq g;rw[o] at f|-;have n:aI l.length=((2^(32*l.length):Nat):Int):=(by unfold aI;rw[Nat.pow_mul];simp);rw[n] at f|-;generalize 32*l.length=a at*;have h:0<b:=U;have j:((d:Int)+((2^a:Nat):Int)*(b:Int)).toNat=d+2^a*b:=(by rw[<-ja,<-Int.natCast_add];rfl);show aA ((d:Int)+((2^a:Nat):Int)*(b:Int)).toNat=_;rw[j];obtain⟨e,i⟩:=u9 h;have q:=oH h;obtain⟨c,m⟩:∃c,aA b=c+1:=⟨aA b-1,U⟩;show _=a+aA b;rw[m] at e i|-;have r:d<2^a:=U;refine Jf (k:=a+c) ?_ ?_
 ·rw[hf];have:=Nat.mul_le_mul_left (2^a) e;simp only[uQ] at this;omega
 rw[jD,hf] at*;have:=Nat.mul_le_mul_left (2^a) (U:b+1<=2^c*2);rw[Nat.mul_add,Nat.mul_one,<-ou] at this;omega
def Ga (c:aP d) (h:dE d) (k:d.length<=10000000):vt (d,())=some ((aA (af d).toNat:Int),()):=by
 unfold vt;simp only[qe,br];split
 ·rename_i a;subst a;rfl
 rename_i a;have m:0<d.length:=zU.2 a;have al:ar (ay d-1)=((d.length-1:Nat):Int):=(by simp only[a1];rw[bm U U];omega);rw[al,bQ U];have e:=c.get (n:=d.length-1) U;have i:d[d.length-1]≠0:=h _ (by rw[List.getLast?_eq_getElem?,a9 U]);have f:af d=af (d.take (d.length-1))+aI (d.length-1)*d[d.length-1]:=(by rw[<-gC U,dm U]);have b:=QF (l:=d.take (d.length-1)) (x:=d[d.length-1]) (c.take _) U;rw[dZ,fu U,<-f] at b;rw[b];obtain⟨n,g⟩:=eH e.1;rw[g] at e|-;refine aq rfl (aq (F9 (n:=n) U) ?_);have j:aA n<=32:=dy.2 U;show some (ar (ar (((d.length-1:Nat):Int)*32)+(aA n:Int)),())=_;rw[bm (x:=((d.length-1:Nat):Int)*32) U U,bm U U];congr 2;show _=((32*(d.length-1)+aA n:Nat):Int);omega
def sP (b:Fit a):pS (aM a,())=some ((aA a.natAbs:Int),()):=by unfold pS;refine aq (OE b) (aq (Ga (k4 a) (Cb a) (dh b aa)) ?_);rw[gH];rfl
theorem T8 (g:j=(2*c+1)*2^b) (q:j<2^32):j&&&(2^32-j)=2^b:=by
 have l:=hS b;have r:0<j:=(by rw[g];exact Nat.mul_pos U l);obtain⟨e,h⟩:∃e,j=e+1:=⟨j-1,U⟩;have p:e=2^b*(2*c)+(2^b-1):=(by have:e+1=2^b*(2*c)+2^b:=(by rw[<-h,g];grind);omega);have o:j=2^b*(2*c+1)+0:=(by rw[g,iB];rfl);refine Nat.eq_of_testBit_eq λa=>?_;rw[Nat.testBit_and,h,Nat.testBit_two_pow_sub_succ U,<-h];have al:j.testBit a=if a<b then false else(2*c+1).testBit (a-b):=by rw[o,Nat.testBit_two_pow_mul_add _ l];simp
 have m:e.testBit a=if a<b then(2^b-1).testBit a else(2*c).testBit (a-b):=by rw[p,Nat.testBit_two_pow_mul_add _ U]
 rw[al,m,zZ];by_cases f:a<b
 ·rw[ai f];simp only[Bool.false_and];exact(decide_eq_false U).symm
 rw[ah f,ah f];by_cases k:b=a
 ·subst k;have d:b<32:=by
   rcases bg b 32 with d|d
   ·exact d
   have:=ov (aa:1<=2) d;have s:=fP (2^b) (U:1<=2*c+1);omega
  simp[d]
 obtain⟨i,n⟩:∃i,a-b=i+1:=⟨a-b-1,U⟩;rw[n,Nat.testBit_succ,Nat.testBit_succ,(U:(2*c+1)/2=c),(U:2*c/2=c),decide_eq_false k];cases c.testBit i<;>simp
def QN:∀a:Nat,a<32->aC oI (2^a*125613361 %4294967296/2^(27:Int).toNat)=some (a:Int):=by have b:(List.range 32).all (λa=>aC oI (2^a*125613361 %4294967296/2^(27:Int).toNat)==some (a:Int))=true:=(by decide+kernel);intro d c;have:=fd.1 b d (fe.2 c);exact eq_of_beq this
def OO (e:0<b) (c:b<4294967296) (a:Int):b3 (dr IntKind.u32 (b:Int) (b3 (0-(b:Int)))*a)=2^bx b*a %4294967296:=by obtain⟨g,f⟩:=sb e;have al:b3 (0-(b:Int))=((2^32-b:Nat):Int):=(by rw[n7];omega);have d:((2^bx b:Nat):Int)=2^bx b:=ac;rw[al,II c U,T8 f c,n7,d]
def OP {n:Nat} (b:0<n) (a:n<4294967296):vw ((n:Int),())=some ((bx n:Int),()):=by have e:bx n<32:=he (uw b) (dy.2 a);have d:=QN _ e;have c:=Hw (x:=b3 (dr IntKind.u32 (n:Int) (b3 (0-(n:Int)))*125613361)) (y:=27) aa aa;rw[OO b a 125613361] at c;unfold vw;show(bif (n:Int)==0 then some (32,()) else(dk IntKind.u32 (b3 (dr IntKind.u32 (n:Int) (b3 (0-(n:Int)))*125613361)) 27).bind λf=>(aC oI f).bind λg=>some (ar g,()))=_;rw[bi (by rw[dB];exact az U),OO b a 125613361,c];refine aq rfl (aq d ?_);rw[bm U U]
theorem OQ {x:Int} (r:af (d.take b)=0) (g:b<d.length) (h:aP d) (s:d[b]≠0):bx (af d).toNat=32*b+bx (d[b]).toNat:=by
 have q:=h.get g;rw[nj d b U,r,kv g];have p:=dH (h.drop (b+1));generalize af (d.drop (b+1))=u at*;generalize d[b]=v at*;obtain⟨c,rfl⟩:=eH q.1;obtain⟨e,rfl⟩:=eH p;have i:0<c:=U;obtain⟨j,m⟩:=sb i;have t:bx c<32:=he (uw i) (dy.2 U);have o:aI b=((2^(32*b):Nat):Int):=(by unfold aI;rw[Nat.pow_mul];simp);have k:(0+aI b*((c:Int)+4294967296*(e:Int))).toNat=(c+4294967296*e)*2^(32*b):=(by rw[o,qK,iB (c+4294967296*e)];have:((2^(32*b):Nat):Int)*((c:Int)+4294967296*(e:Int))=((2^(32*b)*(c+4294967296*e):Nat):Int):=(by rw[ja];simp);rw[this];rfl);show bx (0+aI b*((c:Int)+4294967296*(e:Int))).toNat=32*b+bx c;rw[k,HP U,Nat.add_comm];congr 1;obtain⟨f,n⟩:∃f,32=bx c+(f+1):=⟨31-bx c,U⟩;refine wB (a:=j+2^f*e) ?_;have l:(4294967296:Nat)=2^bx c*(2^f*2):=by
  have:(4294967296:Nat)=2^32:=rfl;rw[this]
  conv=>lhs;rw[n]
  rw[hf,jD]
 rw[l]
 conv=>lhs;lhs;rw[m]
 grind
def OR {z:Int} (o:Fit z) (r:z≠0):xI (aM z,())=some ((bx z.natAbs:Int),()):=by
 unfold xI;dsimp only;have i:=k4 z;have u:=gH z;have s:(aM z).2.1.length<=31250:=o;generalize(aM z).2.1=b at*;have m:z.natAbs=(af b).toNat:=U;rw[m];refine ae.eq_iff.1 (ae.aU (P:=λh=>match h with|.inl _=>False|.inr p=>p=((bx (af b).toNat:Int),())) ?_ ?_)
 ·refine ae.steps b.length (λa q=>q=((a:Int),())/\af (b.take a)=0) ⟨rfl,rfl⟩ ?_ ?_
  ·rintro a _ f ⟨rfl,e⟩;have j:=i.get f;simp only[aB (show(a:Int)<ay b by simp only[a1];omega),cond_true,bQ f,aG,b0];by_cases c:b[a]=0
   ·simp only[aB c,e3,cond_false];refine ae.ag.2 ⟨by rw[bt U],?_⟩;rw[gC f,c,e];simp
   simp only[az c,ij,cond_true];have k:=OQ (x:=0) e f i c;rw[k];obtain⟨d,l⟩:=eH j.1;rw[l] at j c|-;have t:bx d<32:=he (uw U) (dy.2 U);refine ae.of_eq (aq (OP (n:=d) U U) rfl) ?_;show(ar (ar ((a:Int)*32)+(bx d:Int)),())=_;rw[bm (x:=(a:Int)*32) U U,bm U U];congr 1;show _=((32*a+bx d:Nat):Int);omega
  rintro _ ⟨rfl,e⟩;exfalso;rw[dm (a2 _)] at e;omega
 rintro(h|h) g
 ·exact g.elim
 have g:h=_:=g;rw[g];exact ae.ag.2 rfl
def i5 (a:Nat):((2^a:Nat):Int)=(2:Int)^a:=by simp
def iJ (a:Nat):(0:Int)<2^a:=nq aa
def ue (a:b<=31):(2:Int)^b<=2147483648:=by have c:=ov (aa:0<2) a;rw[<-i5];omega
def ud {p:Nat} (a:p<=32):(4294967296:Int)=2^p*2^(32-p):=by rw[<-jz,(U:p+(32-p)=32)];rfl
def po (a:Nat):aI a=2^(32*a):=by unfold aI;rw[Int.pow_mul];rfl
theorem Xs {k:Nat} {x y:Int} (j:k<=32) (e:0<=x) (f:x<2^k) (g:0<=y) (o:y<4294967296) (i:y %2^k=0):eL .u32 x y=x+y/\x+y<4294967296:=by
 have c:=iJ k;have u:=ud j;have t:=iJ (32-k);have s:y=2^k*(y/2^k):=(by have:=hA y (2^k);omega);have r:y/2^k<2^(32-k):=by
  rcases gZ (y/2^k) (2^(32-k)) with b|b
  ·exact b
  have:=il b (dX c);omega
 have q:2^k*(y/2^k+1)<=2^k*2^(32-k):=il U (dX c);have p:(2:Int)^k*(y/2^k+1)=2^k*(y/2^k)+2^k:=(by grind);have n:x+y<4294967296:=U;refine⟨?_,n⟩;obtain⟨d,rfl⟩:=eH e;obtain⟨a,rfl⟩:=eH g;have m:d<2^k:=(by have:((d:Nat):Int)<((2^k:Nat):Int):=(by simpa using f);omega);have l:a %2^k=0:=(by have:((a %2^k:Nat):Int)=0:=(by simpa using i);omega);rw[Xq U U];have h:a=(a/2^k)*2^k:=(by have:=l1 a (2^k);rw[l,iB] at this;omega);rw[h,IL k m];simp
theorem DN {a:ad5} {n:Nat} (F:aP a) (Y:a.length<=10000000) (W:n<=100000000):s5 (a,(n:Int),())=some (bR (af a*2^n).toNat,()):=by
 unfold s5;simp only[qe,br];split
 ·rename_i h;subst h;simp[af];rfl
 refine ae.eq_iff.1 ?_;obtain⟨b,e,K,X,I,J⟩:∃b e:Nat,n=32*b+e/\e<32/\gL IntKind.i64 (n:Int) 32=some (b:Int)/\gM (n:Int) 32=some (e:Int):=by
  refine⟨n/32,n %32,U,U,?_,?_⟩
  ·unfold gL;rw[ai aa,wR U,wrap64 U U];simp
  unfold gM;rw[ai aa,zS U];simp
 have l:=iJ e;have E:=ud (p:=e) U;have w:aY (ar ((b:Int)+ay a))=((b+a.length+1:Nat):Int):=(by simp only[a1];rw[bm U U,(ac:(b:Int)+(a.length:Int)=((b+a.length:Nat):Int)),bt U]);rw[I,J,aG,aG,w,fU U,aG];refine ae.aU (P:=λq=>∃d,q=(d,())/\d.length=b+a.length+1/\aP d/\af d=aI b*(2^e*af a)) ?_ ?_
 ·refine ae.steps a.length (λc M=>∃d,M=((c:Int),d,())/\d.length=b+a.length+1/\aP d/\hk d (b+c+1)/\(∀h:b+c<d.length,d[b+c]<2^e)/\af d=aI b*(2^e*af (a.take c))) ⟨_,rfl,ac,aP.ky _,hk.ky _ _,λh=>by simp;exact l,by simp[af,n6]⟩ ?_ ?_
  ·rintro c _ m ⟨d,rfl,ax,g,i,t,o⟩;have s:=F.get m;have G:=g.get (n:=b+c) U;have H:=t U;dsimp only;rw[if_pos (show(c:Int)<ay a by simp only[a1];omega),bQ m,Option.bind_some];have al:ar ((b:Int)+(c:Int))=((b+c:Nat):Int):=(by rw[bm U U];simp);have V:a[c]*2^e<4294967296*2^e:=Int.mul_lt_mul_of_pos_right s.2 l;have T:(2:Int)^e<=2147483648:=ue U;obtain⟨f,r,N,O⟩:∃f,f=a[c]*2^e/\0<=f/\f<18446744073709551616:=⟨_,rfl,Int.mul_nonneg s.1 (Int.le_of_lt l),U⟩;have z:gN IntKind.u64 (aJ a[c]) (aJ (e:Int))=some f:=by
    rw[b2 (x:=a[c]) U U,b2 (x:=(e:Int)) U U,mC U U,db,<-r];congr 1;omega
   have A:f %4294967296 %2^e=0:=(by rw[Int.emod_emod_of_dvd _ ⟨_,E⟩,r,Int.mul_emod_left]);have B:f/4294967296<2^e:=(by refine pp aa ?_;rw[g3];omega);obtain⟨C,R⟩:=Xs (k:=e) (x:=d[b+c]) (y:=f %4294967296) U G.1 H U U A;rw[z];simp only[aG];rw[al,jU U,qg N O,C,jZ U,lS,aG,bt U,jY U U,jZ (by simp;omega)];refine ae.ag.2 ⟨(d.set (b+c) (d[b+c]+f %4294967296)).set (b+c+1) (f/4294967296),by rw[bt U],by simp[ax],(g.set U U).set U U,?_,?_,?_⟩
   ·have:=(i.Hu (d[b+c]+f %4294967296) (j:=b+c) U).set (f/4294967296);exact this
   ·intro h;show((d.set (b+c) (d[b+c]+f %4294967296)).set (b+c+1) (f/4294967296))[b+c+1]'h<2^e
    rw[List.getElem_set_self];exact B
   have Q:(d.set (b+c) (d[b+c]+f %4294967296))[b+c+1]'(by simp;omega)=0:=by rw[sx U];exact i _ U U
   rw[ln (by simp;omega),Q,ln U,o,gC m,gD,sj];have S:=hA f 4294967296;generalize f/4294967296=L at*;generalize f %4294967296=q at*;generalize(2:Int)^e=u at*;generalize a[c]=v at*;generalize d[b+c]=Z at*;have D:q=v*u-4294967296*L:=U;subst D;grind
  rintro _ ⟨d,rfl,ax,g,i,t,o⟩;dsimp only;rw[if_neg (show¬((a.length:Int)<ay a) by simp only[a1];omega)];refine ae.ag.2 ⟨d,rfl,ax,g,?_⟩;rw[o,List.take_of_length_le (Nat.le_refl _)]
 rintro _ ⟨d,rfl,ax,g,i⟩;refine ae.of_eq (aq (nh g (by show d.length<=_;omega)) rfl) ?_;show(fY d,())=_;rw[fY,i,po,K,jz];congr 3;grind
def Rw (k:aP d) (o:d.length<=10000000):xL (d,(),())=some (decide (af d≠0),()):=by
 unfold xL;refine ae.eq_iff.1 ?_;refine ae.aU (P:=λi=>∃g,i=(g,())/\(0<=g↔af d≠0)) ?_ ?_
 ·unfold E0;dsimp only;refine ae.aU (P:=λc=>match c with|.inl _=>af d=0|.inr i=>0<=i.1/\af d≠0) ?_ ?_
  ·refine ae.steps d.length (λa m=>m=((a:Int),())/\af (d.take a)=0) ⟨rfl,rfl⟩ ?_ ?_
   ·rintro a _ e ⟨rfl,b⟩;have l:=k.get e;simp only[aB (show(a:Int)<ay d by simp only[a1];omega),cond_true,bQ e,aG,ER,b0];by_cases h:d[a]=0
    ·simp only[aB h,e3,cond_false];refine ae.ag.2 ⟨by rw[bt U],?_⟩;rw[gC e,h,b];simp
    simp only[az h,ij,cond_true];refine ae.ag.2 ⟨by show(0:Int)<=(a:Int);omega,?_⟩;rw[nj d a U,b,kv e];have j:=dH (k.drop (a+1));have n:0<aI a*(d[a]+4294967296*af (d.drop (a+1))):=oc (eg a) U;omega
   rintro _ ⟨rfl,b⟩;simp only[az (show¬((d.length:Int)<ay d) by simp only[a1];omega),cond_false];refine ae.ag.2 ?_;rw[dm (a2 _)] at b;exact b
  rintro(c|c) f
  ·have f:af d=0:=f;exact ae.ag.2 ⟨_,rfl,by rw[f];simp⟩
  obtain⟨b,j⟩:0<=c.1/\af d≠0:=f;exact ae.ag.2 ⟨c.1,rfl,λ_=>j,λ_=>b⟩
 rintro _ ⟨g,rfl,l⟩;refine ae.ag.2 ?_;show(decide (g>=0),())=_;congr 1;rw[decide_eq_decide];exact l
def IK (b:Nat) (c:0<=a) (g:a<4294967296) (e:b<=32):dr .u32 a (2^b-1)=a %2^b:=by obtain⟨i,rfl⟩:=eH c;have f:0<2^b:=hS b;have d:(2:Int)^b-1=((2^b-1:Nat):Int):=(by rw[Int.natCast_sub f];simp);have h:2^b<=2^32:=ov aa e;rw[d,II U U,Nat.and_two_pow_sub_one_eq_mod];simp
def Lk {x b y:Int} {P P':Int} (e:0<b) (f:0<=x/\x<b) (h:0<P):(x+b*y) %(b*P)=0↔x=0/\y %P=0:=by
 constructor
 ·intro a;have g:x=0:=by
   have c:(x+b*y) %b=0:=(by have:=Int.emod_emod_of_dvd (x+b*y) (show b∣b*P from⟨P,rfl⟩);rw[a] at this;simpa using this.symm);rw[wQ,qF f.1 f.2] at c;exact c
  subst g;rw[qK,Int.mul_emod_mul_of_pos _ _ e] at a;exact⟨rfl,by rcases Int.mul_eq_zero.1 a with d|d;omega;exact d⟩
 rintro⟨rfl,a⟩;rw[qK,Int.mul_emod_mul_of_pos _ _ e,a,Int.mul_zero]
theorem Fb {n:Nat} (i:aP d) (a3:dE d) (co:d.length<=10000000) (bB:n<=1000000000):vr (d,(n:Int),())=some (bR (af d/2^n).toNat,decide (af d %2^n≠0),()):=by
 unfold vr;dsimp only;refine ae.eq_iff.1 ?_;obtain⟨a,e,ap,ce,ad,an⟩:∃a e:Nat,n=32*a+e/\e<32/\gL IntKind.i64 (n:Int) 32=some (a:Int)/\gM (n:Int) 32=some (e:Int):=by
  refine⟨n/32,n %32,U,U,?_,?_⟩
  ·unfold gL;rw[ai aa,wR U,wrap64 U U];simp
  unfold gM;rw[ai aa,zS U];simp
 have B:=iJ e;have G:=ud (p:=e) U;have X:(2:Int)^n=aI a*2^e:=(by rw[po,ap,jz]);have K:=dH i;rw[ad,an,aG,aG,br,X];refine ae.ite (λk=>?_) λk=>?_
 ·have k:d.length<=a:=(by simp only[a1] at k;omega);have m:=fq i;have r:=nV k;have F:aI a*1<=aI a*2^e:=il U (dX (eg a));rw[oa K U,qF K U];refine ae.ag.2 ?_;show(([]:ad5),decide (ay d>0),())=(bR 0,_,());rw[Fh];congr 2;rw[decide_eq_decide];simp only[a1];constructor
  ·intro o C;have:=dE.zero i a3 C;rw[this] at o;simp at o
  intro o;have:d≠[]:=λO=>(by rw[O] at o;exact o rfl);have:=zU.2 this;omega
 have k:a<d.length:=(by simp only[a1] at k;omega);have w:=i.get k;obtain⟨f,u⟩:∃f,f=af (d.drop a):=⟨_,rfl⟩;have H:0<=f:=(by rw[u];exact dH (i.drop a));have J:af d=af (d.take a)+aI a*f:=(by rw[u];exact nj d a U);have I:=dH (i.take a);have E:=fq (i.take a);rw[dZ,fu U] at E;have Z:af d/(aI a*2^e)=f/2^e:=(by rw[<-sn (dX (eg a)),J,uJ _ _ (by have:=eg a;omega),oa I E,qK]);refine ae.aU (P:=λq=>q=(decide (af d %(aI a*2^e)≠0),())) ?_ ?_
 ·rw[Dz U,aG];have al:List.drop 0 (List.take a d)=d.take a:=lv;show ae ((xL (List.drop 0 (List.take a d),(),())).bind _) _;rw[al,Rw (i.take a) (by simp;omega),aG];have D:(decide (af d %(aI a*2^e)≠0))=(decide (af (d.take a)≠0)||decide (d[a] %2^e≠0)):=by
   have m:=Lk (x:=af (d.take a)) (b:=aI a) (y:=f) (P:=2^e) (P':=0) (eg a) ⟨I,E⟩ B;rw[<-J] at m;have r:f %2^e=d[a] %2^e:=(by rw[u,kv k,G,jy,wQ]);rw[r] at m;by_cases A:af (d.take a)=0<;>by_cases T:d[a] %2^e=0<;>simp[A,T,m]
  rw[D];dsimp only;by_cases A:af (d.take a)=0
  ·simp only[az (show¬(af (d.take a)≠0) fromλk=>k A),beq_self_eq_true,cond_true,bQ k,aG];rw[b2 (x:=(e:Int)) U U,Oe U U,aG,db,Int.one_mul];have a4:(2:Int)^e<=2147483648:=ue U;rw[qF U U,jY U U,IK e w.1 w.2 U,b0];refine ae.ag.2 ?_;simp
  simp only[aB (show af (d.take a)≠0 from A)];exact ae.ag.2 rfl
 rintro _ rfl;dsimp only;obtain⟨l,bs⟩:∃l,d.length=a+l:=⟨d.length-a,U⟩;have Q:ar (ay d-(a:Int))=((l:Nat):Int):=(by simp only[a1];rw[bm U U];omega);rw[Q,fU U,Option.bind_some];have bd:f<aI l:=(by have:=fq (i.drop a);rw[List.length_drop,(U:d.length-a=l),<-u] at this;exact this);refine ae.aU (P:=λq=>∃g,q=(g,())/\g.length=l/\aP g/\af g=f/2^e) ?_ ?_
 ·refine ae.steps l (λc a0=>∃g,a0=((c:Int),g,())/\g.length=l/\aP g/\af (g.take c)+aI c*(f/2^e/aI c)=f/2^e) ⟨_,rfl,ac,aP.ky _,by simp[af,wL]⟩ ?_ ?_
  ·rintro c _ bl ⟨g,rfl,ax,z,s⟩;have w:=i.get (n:=a+c) U;have av:=i.getD (a+c+1);have D:decide ((c:Int)<ay (List.replicate l (0:Int)))=true:=aB (by simp only[a1,nu];omega);have al:ar ((a:Int)+(c:Int))=((a+c:Nat):Int):=(by rw[bm U U];simp);have R:aY ((a+c:Nat):Int)=((a+c+1:Nat):Int):=bt U;simp only[D,cond_true,al,R,bQ (U:a+c<d.length),aG];obtain⟨j,v,L,cv⟩:∃j,j=d[a+c]+4294967296*d.getD (a+c+1) 0/\0<=j/\j<18446744073709551616:=⟨_,rfl,U,U⟩;have Y:f/aI c=j+4294967296*(4294967296*af (d.drop (a+c+2))):=by
    have m:d.drop a=(d.drop a).take c++d.drop (a+c):=by
     conv=>lhs;rw[<-kW c (d.drop a)]
     rw[pt]
    have r:f=af ((d.drop a).take c)+aI c*af (d.drop (a+c)):=by
     rw[u]
     conv=>lhs;rw[m]
     rw[ku,dZ,j5,fu U]
    have F:=dH ((i.drop a).take c);have o:=fq ((i.drop a).take c);rw[dZ,j5,fu U] at o;have C:af (d.drop (a+c))=d[a+c]+4294967296*af (d.drop (a+c+1)):=kv U;have V:af (d.drop (a+c+1))=d.getD (a+c+1) 0+4294967296*af (d.drop (a+c+2)):=by
     rcases bg (a+c+1) d.length with h|h
     ·rw[jN h];exact kv h
     rw[mY h,og h,og U];rfl
    rw[r,uJ _ _ (by have:=eg c;omega),oa F o,C,V,v];grind
   have ab:f/2^e/aI c %4294967296=j/2^e %4294967296:=(by have m:f/2^e/aI c=f/aI c/2^e:=(by rw[sn (dX B),sn (dX (eg c)),g3]);rw[m,Y];have r:∀t:Int,j+4294967296*(4294967296*t)=j+2^e*(4294967296*(2^(32-e)*t)):=λt=>(by generalize(2:Int)^e=M at*;generalize(2:Int)^(32-e)=N at*;rw[show(4294967296:Int)*(4294967296*t)=(M*N)*(4294967296*t) by rw[<-G]];grind);rw[r,uJ _ _ U,wQ]);have am:0<=j/2^e:=kT L (dX B);have ci:j/2^e<=j:=so _ L;refine ae.aU (P:=λq=>q=(g.set c (j/2^e %4294967296),())) ?_ ?_
   ·refine ae.aU (P:=λq=>q=(j,g,())) ?_ ?_
    ·simp only[br];refine ae.ite (λh=>?_) λh=>?_
     ·have h:a+c+1<d.length:=(by simp only[a1] at h;omega);rw[bQ h,aG,b2 (x:=d[a+c+1]) (by have:=i.get h;omega) (by have:=i.get h;omega),mC aa aa];rw[jN h] at v av;have S:d[a+c+1]*2^(32:Int).toNat %18446744073709551616=4294967296*d[a+c+1]:=by
       rw[show(2:Int)^(32:Int).toNat=4294967296 from rfl];omega
      rw[aG,S,b2 U U,lO 32 w.1 w.2 U U U U];refine ae.ag.2 ?_;rw[<-v]
     have h:d.length<=a+c+1:=(by simp only[a1] at h;omega);rw[mY h] at v;rw[b2 U U];refine ae.ag.2 ?_;rw[v];simp
    rintro _ rfl;dsimp only;rw[b2 (x:=(e:Int)) U U,r8 U U,Option.bind_some,Int.toNat_natCast,qg am U,jZ U];exact ae.ag.2 rfl
   rintro _ rfl;dsimp only;refine ae.ag.2 ⟨g.set c (j/2^e %4294967296),by rw[bt U],by simp[ax],z.set U U,?_⟩;rw[gC (by simp;omega)];simp only[List.getElem_set_self];rw[List.take_set_of_le U,<-ab,gD,Int.mul_comm 4294967296 (aI c),<-Int.ediv_ediv_of_nonneg (Int.le_of_lt (eg c))];have W:=Int.emod_add_mul_ediv (f/2^e/aI c) 4294967296;generalize f/2^e/aI c %4294967296=q at*;generalize f/2^e/aI c/4294967296=cs at*;rw[<-W] at s;grind
  rintro _ ⟨g,rfl,ax,z,s⟩;simp only[az (show¬((l:Int)<ay (List.replicate l (0:Int))) by simp only[a1,nu];omega),cond_false];refine ae.ag.2 ⟨g,rfl,ax,z,?_⟩;have m:0<=f/2^e:=kT H (dX B);have r:f/2^e<=f:=so _ H;rw[oa m U,dm U] at s;simpa using s
 rintro _ ⟨g,rfl,ax,z,s⟩;refine ae.of_eq (aq (nh z (by show g.length<=_;omega)) rfl) ?_;show(fY g,_,())=_;rw[fY,s,Z]
section
def y6 (a:IntKind) (b c:Int):eL a b c=eL a c b:=by unfold eL;rw[BitVec.or_comm]
def DJ {x y:Int} (b:0<=x/\x<4294967296) (a:0<=y/\y<4294967296):gN .u64 x 32=some (4294967296*x)/\eL .u64 (4294967296*x) (aJ y)=4294967296*x+y:=by
 constructor
 ·rw[mC aa aa,show(2:Int)^(32:Int).toNat=4294967296 from rfl];congr 1;omega
 rw[b2 a.1 U,y6,lO 32 a.1 a.2 U U U U,Int.add_comm]
def Dh {x y:Int} (a:0<=x/\x<18446744073709551616) (d:0<y):gL .u64 x y=some (x/y)/\gM x y=some (x %y):=by
 constructor
 ·unfold gL;rw[ai U,wR a.1];have c:x/y<=x:=so _ a.1;have b:0<=x/y:=kT a.1 U;rw[DV b U]
 unfold gM;rw[ai U,zS a.1]
theorem Zg (n:aP d) (L:d.length<=10000000) (j:0<a) (I:a<4294967296):A8 (d,a,())=some (bR (af d/a).toNat,af d %a,()):=by
 unfold A8;refine ae.eq_iff.1 ?_;simp only[a1,fU (U:d.length<=4294967296),aG];refine ae.aU (P:=λr=>∃e,r=(af d %a,e,())/\e.length=d.length/\aP e/\af e=af d/a) ?_ ?_
 ·refine ae.steps d.length (λf C=>∃e,C=(af (d.drop (d.length-f)) %a,((d.length:Nat):Int)-1-f,e,())/\e.length=d.length/\aP e/\(∀b,b<d.length-f->(v:b<e.length)->e[b]=0)/\af e=aI (d.length-f)*(af (d.drop (d.length-f))/a)) ⟨List.replicate d.length 0,?_,ac,aP.ky _,ac,?_⟩ ?_ ?_
  ·rw[bm U U,og U];simp[af]
  ·rw[og U];simp[af,n6]
  ·rintro f _ J ⟨e,rfl,ax,g,h,i⟩;obtain⟨b,v⟩:∃b,d.length=b+1+f:=⟨d.length-1-f,U⟩;have al:((d.length:Nat):Int)-1-(f:Int)=(b:Int):=U;have l:b<d.length:=U;rw[(U:d.length-f=b+1)] at*;have A:=n.get l;obtain⟨c,k⟩:∃c,c=af (d.drop (b+1)):=⟨_,rfl⟩;have H:0<=c:=(by rw[k];exact dH (n.drop _));rw[<-k] at i|-;have w:0<=c %a:=mF _ U;have K:c %a<a:=ob _ j;obtain⟨D,E⟩:=DJ (x:=c %a) (y:=d[b]) ⟨w,U⟩ A;obtain⟨F,G⟩:=Dh (x:=4294967296*(c %a)+d[b]) (y:=a) ⟨U,U⟩ j;have p:(4294967296*(c %a)+d[b])/a<4294967296:=by
    refine pp j ?_;have:4294967296*(c %a)+d[b]<4294967296*(c %a+1):=U;have m:4294967296*(c %a+1)<=4294967296*a:=U;omega
   have q:0<=(4294967296*(c %a)+d[b])/a:=kT U U;simp only[al,aB (U:(b:Int)>=0),cond_true,bQ l,D,aG];rw[E,b2 (x:=a) U U,F,aG,jY q p,jZ U,G,aG];have u:=hA c a;have z:af (d.drop b)=d[b]+4294967296*c:=(by rw[k];exact kv l);have o:af (d.drop b)=(4294967296*(c %a)+d[b])+a*(4294967296*(c/a)):=(by rw[z];generalize c/a=M at*;generalize c %a=r at*;rw[<-u];grind);refine ae.ag.2 ⟨e.set b ((4294967296*(c %a)+d[b])/a),?_,by simp[ax],g.set q p,?_,?_⟩
   ·rw[(U:d.length-(f+1)=b),bm U U,o,wQ];congr 2;omega
   ·intro B t m;rw[sx U];exact h B U (by simpa using m)
   rw[(U:d.length-(f+1)=b),o,uJ _ _ U,ln U,h b U U,i,gD];grind
  rintro _ ⟨e,rfl,ax,g,h,i⟩;have al:¬(((d.length:Nat):Int)-1-(d.length:Int)>=0):=U;simp only[az al,cond_false];rw[Nat.sub_self] at i;refine ae.ag.2 ⟨e,ac,ax,g,?_⟩;rw[i,wL];simp
 rintro _ ⟨e,rfl,ax,g,h⟩;have t:af d %a<a:=ob _ j;have s:0<=af d %a:=mF _ U;refine ae.of_eq (aq (nh g (by show e.length<=_;omega)) rfl) ?_;show(fY e,b3 (af d %a),())=_;rw[fY,h,jY s U]
section
variable {α B:Type}
def pL {c a f:List α} (e:b<a.length) (d:α->Option B):aZ (c++(a++f)) (c.length+b) d=d a[b]:=by refine ix ?_;rw[oh U,oq,nt e,a9 e]
def zt {a c d:List α} (f:b<c.length) (e:α):(a++(c++d)).set (a.length+b) e=a++(c.set b e++d):=by rw[List.set_append_right _ _ U,oq,List.set_append_left _ _ f]
end
theorem Sc {v1 fc f g b c d h:Int} (t:0<a) (k:f=(v1*4294967296+fc)*a+d) (r:g=(b*4294967296+c)*a+h) (l:0<=d) (s:h<a) (i:0<=e) (m:(b-e*v1)*4294967296+c<e*fc):g<e*f:=by have j:b*4294967296+c+1<=e*(v1*4294967296+fc):=(by grind);have n:(b*4294967296+c+1)*a<=e*(v1*4294967296+fc)*a:=kU j U;have o:0<=e*d:=lW i l;have p:e*f=e*(v1*4294967296+fc)*a+e*d:=(by rw[k];grind);have q:(b*4294967296+c+1)*a=(b*4294967296+c)*a+a:=(by grind);omega
theorem Sd {v1 fc c g d f b h:Int} (u:0<e) (k:c=(v1*4294967296+fc)*e+b) (r:g=(d*4294967296+f)*e+h) (t:0<=b/\b<e) (s:0<=h) (i:0<=a/\a<4294967296) (v:1<=v1) (w:0<=fc) (l:a*fc<=(d-a*v1)*4294967296+f):a*c<g+c:=by have j:a*(v1*4294967296+fc)<=d*4294967296+f:=(by grind);have m:a*(v1*4294967296+fc)*e<=(d*4294967296+f)*e:=kU j U;have n:a*b<=a*e:=il U i.1;have o:a*c=a*(v1*4294967296+fc)*e+a*b:=(by rw[k];grind);have p:a*e<=4294967295*e:=kU U U;have q:4294967296*e<=(v1*4294967296+fc)*e:=kU U U;omega
end
theorem DT {l:ad5} {m:Nat} (b:l.length=m+2):af l=(l[m+1]*4294967296+l[m])*aI m+af (l.take m):=by have a:af l=af (l.take (m+1))+aI (m+1)*l[m+1]:=(by rw[<-gC U,dm U]);rw[a,gC U,gD];grind
theorem aag (c:d.length=b+3):af d=((d[b+2]*4294967296+d[b+1])*4294967296+d[b])*aI b+af (d.take b):=by have a:af d=af (d.take (b+2))+aI (b+2)*d[b+2]:=(by rw[<-gC U,dm U]);rw[a,gC U,gC U];simp only[gD];grind
structure wN (v w:ad5) (n:Nat):Prop where
 hv:aP v
 hw:aP w
 sf:v.length=n+2
 wn:w.length=n+3
 LR:n<=10000000
 top:2147483648<=v[n+1]
 lt:af w<4294967296*af v
def wN.O2 {n:Nat} (a:wN d f n):0<af d:=by
 have b:=DT a.sf;have c:=dH (a.hv.take n);have e:=a.hv.get (n:=n) (by have:=a.sf;omega);have g:=a.top;have h:0<(d[n+1]'(by have:=a.sf;omega)*4294967296+d[n]'(by have:=a.sf;omega))*aI n:=oc U (eg n)
 omega
theorem Se {h k:ad5} {n:Nat} (g:wN f d n) (p:a=(4294967296*d[n+2]'(by have:=g.wn;omega)+d[n+1]'(by have:=g.wn;omega))/f[n+1]'(by have:=g.sf;omega)) (S:e=(4294967296*d[n+2]'(by have:=g.wn;omega)+d[n+1]'(by have:=g.wn;omega)) %f[n+1]'(by have:=g.sf;omega)):ae (loop (σ:=(c7×Int×Int×aN×Unit)) (ρ:=(c7×Int×aN×Unit)) (λ(q,s,E,A,_)=>
 Option.bind (α:=(c7×aN×Unit)⊕((c7×Int×Int×aN×Unit)⊕(c7×Int×aN×Unit))) (bif decide (s>4294967295)==false then(aC f (ar (ay f-2))).bind λd2=>
 (gN IntKind.u64 E 32).bind λd3=>
 (bh (q.2-q.1) (ar (ay f-2))).bind λdl=>
 (aZ A (q.1+dl) λa4=>some a4).bind λd4=>
  bif decide (aJ (s*aJ d2)>eL IntKind.u64 d3 (aJ d4)) then
 some (.inl (q,A,())) else
 some (.inr (.inr (q,s,A,()))) else some (.inl (q,A,()))) λb=>match b with
 |.inl (W,X,_)=>(
 (aC f (ar (ay f-1))).bind λt=>
  bif decide (aJ (E+aJ t)>4294967295) then
 some (.inr (W,aJ (s-1),X,())) else
 some (.inl (W,aJ (s-1),aJ (E+aJ t),X,())))
 |.inr i=>some i) ((h.length,h.length+d.length),a,e,h++(d++k),())) (λi=>∃b,i=((h.length,h.length+d.length),b,h++(d++k),())/\0<=b/\b<4294967296/\af d/af f<=b/\b*af f<af d+af f):=by
 have c1:=g.sf;have c2:=g.wn;have ex:=g.LR;have P:=g.O2;have f5:=g.hv.get (n:=n+1) U;have z:=g.hv.get (n:=n) U;have fz:=g.hw.get (n:=n+2) U;have fT:=g.hw.get (n:=n+1) U;have cv:=g.hw.get (n:=n) U;have ft:=g.top;have C:=DT c1;have u:=aag c2;have H:=dH (g.hv.take n);have I:=fq (g.hv.take n);have Z:=dH (g.hw.take n);have J:=fq (g.hw.take n);rw[dZ,fu U] at I J;have co:=g.lt;have D:=eg n;have al:ar (ay f-1)=((n+1:Nat):Int):=(by simp only[a1];rw[bm U U];omega);have a3:ar (ay f-2)=((n:Nat):Int):=(by simp only[a1];rw[bm U U];omega);have bd:aC f ((n+1:Nat):Int)=some f[n+1]:=bQ U;have bl:aC f ((n:Nat):Int)=some f[n]:=bQ U;have bs:∀v:Int->adZ,aZ (h++(d++k)) (h.length+n) v=v d[n]:=λv=>pL U v;generalize f0:f[n+1]=v1 at*;generalize f1:f[n]=fc at*;generalize f2:d[n+2]=G at*;generalize f3:d[n+1]=d1 at*;generalize f4:d[n]=j at*;obtain⟨c,T⟩:∃c,c=4294967296*G+d1:=⟨_,rfl⟩;rw[<-T] at p S;have u:af d=(c*4294967296+j)*aI n+af (d.take n):=(by rw[u,T];grind);have el:G<=v1:=by
  rcases gZ v1 G with l|l
  ·exfalso;have ab:(v1*4294967296+fc+1)*aI n<=(v1*4294967296+4294967296)*aI n:=kU U U;have K:((v1+1)*4294967296*4294967296)*aI n<=(c*4294967296+j)*aI n:=kU U U;have ad:(v1*4294967296+fc+1)*aI n=(v1*4294967296+fc)*aI n+aI n:=(by grind);have am:((v1+1)*4294967296*4294967296)*aI n=4294967296*((v1*4294967296+4294967296)*aI n):=(by grind);omega
  exact l
 have d9:0<=af d/af f:=kT (dH g.hw) U;have ed:af d/af f<4294967296:=pp P co;have cs:0<=c:=U;have ek:=hA c v1;have fp:0<=c %v1:=mF _ U;have fs:c %v1<v1:=ob _ U;have fn:0<=c/v1:=kT cs U;have an:∀b,0<=b->(c-b*v1)*4294967296+j<b*fc->af d/af f<b:=λb p g=>(by have:=Sc D C u H J p g;exact pp P this);have O:∀b,0<=b->b<4294967296->b*fc<=(c-b*v1)*4294967296+j->b*af f<af d+af f:=λb bB ce g=>Sd D C u ⟨H,I⟩ Z ⟨bB,ce⟩ U z.1 g;refine ae.loop (λF=>∃b i,F=((h.length,h.length+d.length),b,i,h++(d++k),())/\0<=b/\b<=4294967297/\0<=i/\i<4294967296/\i=c-b*v1/\af d/af f<=b) (λF=>F.2.1.toNat) ⟨a,e,rfl,U,?_,U,U,?_,?_⟩ ?_
 ·rw[p];have:c<4294967298*v1:=U;have:=pp U this;omega
 ·rw[p,S,g3];omega
 ·rcases gZ (c/v1) (af d/af f) with l|l
  ·exfalso;have ab:(c/v1+1)*af f<=af d:=by
    have o:(c/v1+1)*af f<=af d/af f*af f:=kU U U;have ap:=hA (af d) (af f);have L:=mF (af d) (U:af f≠0);rw[g3 (af d/af f)] at o;omega
   have K:(c+1)*4294967296<=(c/v1+1)*(v1*4294967296):=(by have:(c/v1+1)*(v1*4294967296)=(v1*(c/v1)+v1)*4294967296:=(by grind);omega);have ad:(c+1)*4294967296*aI n<=(c/v1+1)*(v1*4294967296)*aI n:=kU K U;have am:0<=(c/v1+1)*(fc*aI n+af (f.take n)):=lW U (by have:=lW z.1 (dX D);omega);have d5:(c/v1+1)*af f=(c/v1+1)*(v1*4294967296)*aI n+(c/v1+1)*(fc*aI n+af (f.take n)):=(by rw[C];grind);have d6:(j+1)*aI n<=4294967296*aI n:=kU U U;have d7:(c*4294967296+j)*aI n+aI n=c*4294967296*aI n+(j+1)*aI n:=(by grind);have d8:(c+1)*4294967296*aI n=c*4294967296*aI n+4294967296*aI n:=(by grind);omega
  rw[p];exact l
 rintro _ ⟨b,i,rfl,o,ap,L,av,M,a0⟩;have w:∀b,(b-1)*v1=b*v1-v1:=λb=>(by grind);have N:af d/af f<b->ae ((aC f (ar (ay f-1))).bind λt=>
  bif decide (aJ (i+aJ t)>4294967295) then
 some (.inr ((h.length,h.length+d.length),aJ (b-1),h++(d++k),())) else
 some (
  .inl ((h.length,h.length+d.length),aJ (b-1),aJ (i+aJ t),h++(d++k),()))) (λ(Y:(c7×Int×Int×aN×Unit)⊕(c7×Int×aN×Unit))=>match Y with
  |.inl V=>(∃b i,V=((h.length,h.length+d.length),b,i,h++(d++k),())/\0<=b/\b<=4294967297/\0<=i/\i<4294967296/\i=c-b*v1/\af d/af f<=b)/\V.2.1.toNat<b.toNat
  |.inr i=>∃b,i=((h.length,h.length+d.length),b,h++(d++k),())/\0<=b/\b<4294967296/\af d/af f<=b/\b*af f<af d+af f):=by
  intro em;rw[al,bd,aG,b2 (x:=v1) U U,b2 (x:=i+v1) U U,b2 (x:=b-1) U U,br];refine ae.ite (λl=>?_) λl=>?_
  ·refine ae.ag.2 ⟨b-1,rfl,U,?_,U,?_⟩
   ·rcases gZ (b-1) 4294967296 with m|m
    ·exact m
    exfalso;have:=kU m (U:0<=v1);rw[w] at this;omega
   have ci:b-1<4294967296:=by
    rcases gZ (b-1) 4294967296 with m|m
    ·exact m
    exfalso;have:=kU m (U:0<=v1);rw[w] at this;omega
   refine O (b-1) U ci ?_;rw[w];have f6:(b-1)*fc<=4294967295*fc:=kU U z.1;omega
  refine ae.ag.2 ⟨⟨b-1,i+v1,rfl,U,U,U,U,?_,U⟩,?_⟩
  ·rw[w];omega
  show(b-1).toNat<b.toNat;omega
 by_cases Q:b>4294967295
 ·simp only[aB Q,show(true==false)=false from rfl,cond_false,aG];refine(N U).mono ?_;rintro(B|B) r
  ·exact r
  exact r
 simp only[az Q,beq_self_eq_true,cond_true,a3,bl,aG];obtain⟨ds,d0⟩:=DJ (x:=i) (y:=j) ⟨L,av⟩ cv;have eq:=yR (x:=b) (y:=fc) ⟨o,U⟩ z;rw[ds,aG];simp only[oq,dd (U:n<d.length),aG,bs,d0];rw[b2 (x:=fc) U U,b2 (x:=b*fc) U U];by_cases R:b*fc>4294967296*i+j
 ·simp only[aB R,cond_true,aG];refine(N (an b o (by rw[<-M];omega))).mono ?_;rintro(B|B) r
  ·exact r
  exact r
 simp only[az R,cond_false,aG];exact ae.ag.2 ⟨b,rfl,o,U,a0,O b o U (by rw[<-M];omega)⟩
theorem ZH {j s:ad5} (W:aP d) (X:aP f) (ci:d.length<f.length) (bB:f.length<=100000000) (V:0<=a/\a<4294967296) (R:∀g e b,b.length=f.length->aP b->(∀(Q:d.length<b.length) (m:d.length<f.length),b[d.length]=f[d.length])->0<=g->g<4294967296->0<=e->e<=1->af b-aI d.length*(g+e)=af f-a*af d->q ((j.length,j.length+f.length),g,e,j++(b++s),())):ae (loop (σ:=(c7×Int×Int×Int×aN×Unit)) (ρ:=(c7×Int×Int×aN×Unit)) (λ(k,p,t,o,r,_)=>
 bif decide (o<ay d) then
 (aC d o).bind λz=>
 (dk IntKind.u64 (aJ (aJ (a*aJ z)+p)) 32).bind λav=>
 (bh (k.2-k.1) o).bind λab=>
 (aZ r (k.1+ab) λO=>some O).bind λK=>
 (bh (k.2-k.1) o).bind λG=>
 (aZ r (k.1+G) λ_=>some (r.set (k.1+G) (b3 (dr IntKind.u64 (aJ (aJ (aJ K-dr IntKind.u64 (aJ (aJ (a*aJ z)+p)) 4294967295)-t)) 4294967295)))).bind λa3=>
 (dk IntKind.u64 (aJ (aJ (aJ K-dr IntKind.u64 (aJ (aJ (a*aJ z)+p)) 4294967295)-t)) 32).bind λa0=>
 some (.inl (k,av,dr IntKind.u64 a0 1,aY o,a3,())) else
 some (.inr (k,p,t,r,()))) ((j.length,j.length+f.length),0,0,0,j++(f++s),())) q:=by
 refine ae.steps d.length (λc an=>∃g e b,an=((j.length,j.length+f.length),g,e,(c:Int),j++(b++s),())/\b.length=f.length/\aP b/\(∀l,c<=l->(Q:l<b.length)->(m:l<f.length)->b[l]=f[l])/\0<=g/\g<4294967296/\0<=e/\e<=1/\af b-aI c*(g+e)=af f-a*af (d.take c)) ⟨0,0,f,rfl,rfl,X,λ_ _ _ _=>rfl,U,U,U,U,by simp[af]⟩ ?_ ?_
 ·rintro c _ y ⟨g,e,b,rfl,u,m,v,A,B,C,D,w⟩;have Y:=W.get y;have co:=m.get (n:=c) U;have ce:=yR V Y;obtain⟨i,T,H,I⟩:∃i,i=a*d[c]+g/\0<=i/\i<18446744073709551616:=⟨_,rfl,U,U⟩;simp only[aB (show(c:Int)<ay d by simp only[a1];omega),cond_true,bQ y,aG];have al:aJ (aJ (a*aJ d[c])+g)=i:=by
   rw[b2 (x:=d[c]) U U,b2 (x:=a*d[c]) U U,<-T,b2 H I]
  rw[al];obtain⟨h,S,bd,bl⟩:∃h,h=b[c]-i %4294967296-e/\-4294967296<=h/\h<4294967296:=⟨_,rfl,U,U⟩;have N:aJ (aJ (aJ b[c]-dr IntKind.u64 i 4294967295)-e)=h %18446744073709551616:=(by rw[and_low32 H I,kw,kw,kw,S];omega);have ax:h %18446744073709551616/4294967296 %2^1=-(h/4294967296):=(by rw[show(2:Int)^1=2 from rfl];omega);have am:h %18446744073709551616 %4294967296=h %4294967296:=U;simp only[lS,oq,dd (U:c<f.length),aG,pL (U:c<b.length),N,qg (U:0<=h %18446744073709551616) U,zt (U:c<b.length)];rw[qS 1 U U 1 aa aa,ax,am];refine ae.ag.2 ⟨i/4294967296,-(h/4294967296),b.set c (h %4294967296),by rw[bt U],by simp[u],m.set U U,?_,U,U,U,U,?_⟩
  ·intro l E F Z;rw[sx U];exact v l U U Z
  rw[ln U,gD,gC y];have bs:=hA h 4294967296;have f2:=hA i 4294967296;generalize h/4294967296=L at*;generalize h %4294967296=M at*;generalize i/4294967296=ad at*;generalize i %4294967296=J at*;generalize b[c]=ap at*;have P:J=a*d[c]+g-4294967296*ad:=U;generalize d[c]=a4 at*;have f4:M=ap-J-e-4294967296*L:=U;rw[f4,P];grind
 rintro _ ⟨g,e,b,rfl,u,m,v,A,B,C,D,w⟩;simp only[az (show¬((d.length:Int)<ay d) by simp only[a1];omega),cond_false];rw[dm (a2 _)] at w;exact ae.ag.2 (R g e b u m (λE F=>v _ (a2 _) E F) A B C D w)
theorem P9 {g m:ad5} (L:aP d) (M:aP f) (W:d.length<f.length) (V:f.length<=100000000) (J:∀c a,a.length=f.length->aP a->(∀(I:d.length<a.length) (j:d.length<f.length),a[d.length]=f[d.length])->0<=c->c<=1->af a+aI d.length*c=af f+af d->s ((g.length,g.length+f.length),c,g++(a++m),())):ae (loop (σ:=(c7×Int×Int×aN×Unit)) (ρ:=(c7×Int×aN×Unit)) (λ(h,o,k,l,_)=>
 bif decide (k<ay d) then
 (aC d k).bind λB=>
 (bh (h.2-h.1) k).bind λO=>
 (aZ l (h.1+O) λH=>some H).bind λC=>
 (bh (h.2-h.1) k).bind λz=>
 (aZ l (h.1+z) λ_=>some (l.set (h.1+z) (b3 (dr IntKind.u64 (aJ (aJ (aJ C+aJ B)+o)) 4294967295)))).bind λS=>
 (dk IntKind.u64 (aJ (aJ (aJ C+aJ B)+o)) 32).bind λR=>
 some (.inl (h,R,aY k,S,())) else
 some (.inr (h,o,l,()))) ((g.length,g.length+f.length),0,0,g++(f++m),())) s:=by
 refine ae.steps d.length (λb P=>∃c a,P=((g.length,g.length+f.length),c,(b:Int),g++(a++m),())/\a.length=f.length/\aP a/\(∀i,b<=i->(I:i<a.length)->(j:i<f.length)->a[i]=f[i])/\0<=c/\c<=1/\af a+aI b*c=af f+af (d.take b)) ⟨0,f,rfl,rfl,M,λ_ _ _ _=>rfl,U,U,by simp[af]⟩ ?_ ?_
 ·rintro b _ t ⟨c,a,rfl,p,j,q,u,v,r⟩;have X:=L.get t;have Y:=j.get (n:=b) U;obtain⟨e,K,A,Z⟩:∃e,e=a[b]+d[b]+c/\0<=e/\e<8589934592:=⟨_,rfl,U,U⟩;simp only[aB (show(b:Int)<ay d by simp only[a1];omega),cond_true,bQ t,aG];have G:aJ (aJ (aJ a[b]+aJ d[b])+c)=e:=by
   rw[b2 (x:=d[b]) U U,b2 (x:=a[b]) U U,b2 (x:=a[b]+d[b]) U U,<-K,b2 A U]
  simp only[lS,oq,dd (U:b<f.length),aG,pL (U:b<a.length),G,qg A (U:e<18446744073709551616),zt (U:b<a.length)];refine ae.ag.2 ⟨e/4294967296,a.set b (e %4294967296),by rw[bt U],by simp[p],j.set U U,?_,U,U,?_⟩
  ·intro i w y N;rw[sx U];exact q i U U N
  rw[ln U,gD,gC t];have T:=hA e 4294967296;generalize e/4294967296=E at*;generalize e %4294967296=F at*;generalize a[b]=Q at*;generalize d[b]=D at*;have f4:F=Q+D+c-4294967296*E:=U;rw[f4];grind
 rintro _ ⟨c,a,rfl,p,j,q,u,v,r⟩;simp only[az (show¬((d.length:Int)<ay d) by simp only[a1];omega),cond_false];rw[dm (a2 _)] at r;exact ae.ag.2 (J c a p j (λw y=>q _ (a2 _) w y) u v r)
theorem RI {h g c d i f b:Int} (n:h+a*c=g+e) (m:g=i-d*e-a*(4294967296*-1)):h+a*(f+c-4294967296*b-f)=i-(d-1)*e+a*(4294967296*(1-b)):=by have al:a*(f+c-4294967296*b-f)=a*c-a*(4294967296*b):=(by grind);have j:(d-1)*e=d*e-e:=(by grind);have k:a*(4294967296*(1-b))=a*4294967296-a*(4294967296*b):=(by grind);have l:a*(4294967296*-1)=-(a*4294967296):=(by grind);omega
theorem RJ {f b i h g d c:Int} (j:f-a*(b+e)=g-i*h):f+a*(d-b-e-4294967296*c-d)=g-i*h-a*(4294967296*c):=by have al:a*(d-b-e-4294967296*c-d)=-(a*(b+e))-a*(4294967296*c):=(by grind);omega
def ae.bs {d:Type} {c:Option o} {b:o->Option d} {a:d->Prop} {y:o} (e:c=some y) (f:ae (b y) a):ae (c.bind b) a:=by rw[e];exact f
theorem RK {A C:ad5} {n:Nat} (i:wN d f n):ae (xJ ((A++(f++C),A.length,A.length+f.length),d,())) (λq=>∃b,q=(A++(b++C),af f/af d,())/\b.length=f.length/\aP b/\af b=af f %af d):=by
 have H:=i.sf;have cs:=i.wn;have ed:=i.LR;have k:=i.O2;have ap:=dH i.hw;have el:=i.top;have Q:=i.hv.get (n:=n+1) U;have O:=i.hw.get (n:=n+2) U;have ci:=i.hw.get (n:=n+1) U;have D:ay d=((n+2:Nat):Int):=(by simp only[a1];omega);have al:ar (((n+2:Nat):Int)-1)=((n+1:Nat):Int):=(by rw[bm U U];omega);have am:aC d ((n+1:Nat):Int)=some d[n+1]:=bQ U;obtain⟨cv,ab⟩:=DJ (x:=f[n+2]) (y:=f[n+1]) O ci;obtain⟨c1,c2⟩:=Dh (x:=4294967296*f[n+2]+f[n+1]) (y:=d[n+1]) ⟨U,U⟩ U;unfold xJ;have m:bh (A.length+f.length-A.length) (ay d)=some (n+2):=(by rw[oq,D];exact dd U);have i1:bh (A.length+f.length-A.length) (ar (ay d-1))=some (n+1):=(by rw[oq,D,al];exact dd U);have R:aC d (ar (ay d-1))=some d[n+1]:=(by rw[D,al];exact am);refine ae.bs m (ae.bs (pL U _) (ae.bs (by rw[b2 O.1 U];exact cv) (ae.bs i1 (ae.bs (pL U _) (ae.bs R (ae.bs (by rw[ab,b2 Q.1 U];exact c1) (ae.bs R (ae.bs (by rw[ab,b2 Q.1 U];exact c2) ?_))))))));refine ae.aU (Se i rfl rfl) ?_;rintro _ ⟨g,rfl,Z,ax,fn,fp⟩;refine ae.aU (P:=λq=>∃e j b,q=((A.length,A.length+f.length),e,j,A++(b++C),())/\b.length=f.length/\aP b/\0<=e/\e<4294967296/\0<=j/\j<=1/\(∀(i:d.length<b.length) (L:d.length<f.length),b[d.length]=f[d.length])/\af b-aI d.length*(e+j)=af f-g*af d) (ZH i.hv i.hw U U ⟨Z,ax⟩ λe j b p v T V W X Y w=>⟨e,j,b,rfl,p,v,V,W,X,Y,T,w⟩) ?_;rintro _ ⟨e,j,b,rfl,p,v,V,W,X,Y,T,w⟩;have em:=v.get (n:=n+2) U;obtain⟨c,av,d0,d1⟩:∃c,c=b[n+2]-e-j/\-4294967296<=c/\c<4294967296:=⟨_,rfl,U,U⟩;have K:aJ (aJ (aJ b[n+2]-e)-j)=c %18446744073709551616:=(by rw[kw,kw,kw,av];omega);have dl:c %18446744073709551616/4294967296 %2^1=-(c/4294967296):=(by rw[show(2:Int)^1=2 from rfl];omega);have ds:c %18446744073709551616 %4294967296=c %4294967296:=U;refine ae.bs m (ae.bs (pL U _) (ae.bs m (ae.bs (y:=A++(b.set (n+2) (c %4294967296)++C)) ?_ (ae.bs (y:=c %18446744073709551616/4294967296) ?_ ?_))))
 ·rw[pL U,K,qg U U,zt U,ds]
 ·rw[K,lS]
 rw[qS 1 U U 1 aa aa,dl];have d5:=eg (n+2);have bB:af (b.set (n+2) (c %4294967296))=af b+aI (n+2)*(c %4294967296-b[n+2]):=ln U _;have r:aP (b.set (n+2) (c %4294967296)):=v.set U U;rw[H] at w;have d2:=hA c 4294967296;have s:af (b.set (n+2) (c %4294967296))=af f-g*af d-aI (n+2)*(4294967296*(c/4294967296)):=(by rw[bB];generalize c/4294967296=z at*;generalize c %4294967296=B at*;have:B=b[n+2]-e-j-4294967296*z:=U;rw[this];exact RJ w);have a4:=fq r;have d6:=dH r;rw[nv,p,cs,(U:n+3=(n+2)+1),gD] at a4;have M:=hA (af f) (af d);have d8:=mF (af f) (U:af d≠0);have d9:=ob (af f) k;rw[dB,br];refine ae.ite (λad=>?_) λad=>?_
 ·have F:c/4294967296=0:=U;rw[F] at s;have l:af f/af d=g:=by
   have E:g*af d<=af f:=U;have L:g<=af f/af d:=(Int.le_ediv_iff_mul_le k).2 E;omega
  rw[bo (by simp;omega),jY Z ax];refine ae.ag.2 ⟨_,by rw[l],by simp[p],r,?_⟩;rw[s];rw[l] at M;rw[g3 g];omega
 have F:c/4294967296=-1:=U;rw[F] at s;have l:af f/af d=g-1:=(by have E:af f<g*af d:=U;have L:af f/af d<g:=pp k E;have d3:(g-1)*af d<af f+1:=(by have:(g-1)*af d=g*af d-af d:=(by grind);omega);have d4:g-1<=af f/af d:=(Int.le_ediv_iff_mul_le k).2 U;omega);have ek:=kT ap (dX k);have G:(b.set (n+2) (c %4294967296)).length=f.length:=(by simp[p]);rw[<-G];refine ae.aU (P:=λq=>∃e a,q=((A.length,A.length+(b.set (n+2) (c %4294967296)).length),e,A++(a++C),())/\a.length=f.length/\aP a/\0<=e/\e<=1/\af a+aI d.length*e=af (b.set (n+2) (c %4294967296))+af d) (P9 i.hv r U U λe a I o ex J S u=>⟨e,a,rfl,by rw[I,G],o,J,S,u⟩) ?_;rintro _ ⟨h,a,rfl,I,o,J,S,u⟩;rw[G];have eq:=o.get (n:=n+2) U;refine ae.bs m (ae.bs (pL U _) (ae.bs m (ae.bs (y:=A++(a.set (n+2) ((a[n+2]+h) %4294967296)++C)) ?_ ?_)))
 ·rw[pL U,zt U,jY J U,n7]
 rw[bo (by simp;omega),b2 U U,jY U U];refine ae.ag.2 ⟨a.set (n+2) ((a[n+2]+h) %4294967296),by rw[l],by simp[I],o.set U U,?_⟩;have ce:af (a.set (n+2) ((a[n+2]+h) %4294967296))=af a+aI (n+2)*((a[n+2]+h) %4294967296-a[n+2]):=ln U _;have N:aP (a.set (n+2) ((a[n+2]+h) %4294967296)):=o.set U U;have bd:=fq N;have d7:=dH N;have a3:(a.set (n+2) ((a[n+2]+h) %4294967296)).length=(n+2)+1:=(by rw[nv];omega);rw[a3,gD] at bd;have f2:=hA (a[n+2]+h) 4294967296;rw[H] at u;have t:af (a.set (n+2) ((a[n+2]+h) %4294967296))=af f-(g-1)*af d+aI (n+2)*(4294967296*(1-(a[n+2]+h)/4294967296)):=(by rw[ce];generalize(a[n+2]+h)/4294967296=z at*;generalize(a[n+2]+h) %4294967296=B at*;have:B=a[n+2]+h-4294967296*z:=U;rw[this];exact RI u s);rw[l] at M;have a0:af f-(g-1)*af d=af f %af d:=(by rw[g3 (g-1)];omega);rw[a0] at t;have co:=fq i.hv;rw[H] at co;have bl:(a[n+2]+h)/4294967296=1:=by
  rcases gZ 0 ((a[n+2]+h)/4294967296) with an|an
  ·omega
  exfalso;have:(a[n+2]+h)/4294967296=0:=U;rw[this] at t;omega
 rw[bl] at t;rw[t];simp
def tu (b:0<=a):af (bR a.toNat)=a:=by rw[kf];omega
def UW {n:Nat} (f:aP d) (m:dE d) (u:d.length=n+2):∃c:Nat,c<=31/\s6 (d[n+1],())=some ((c:Int),())/\af d*2^c<aI (n+2)/\2147483648*aI (n+1)<=af d*2^c:=by
 have l:=f.get (n:=n+1) U;have q:d[n+1]≠0:=m _ (by rw[List.getLast?_eq_getElem?,a9 U];congr 2;omega);have h:af d=af (d.take (n+1))+aI (n+1)*d[n+1]:=(by rw[<-gC U,dm U]);have r:=dH (f.take (n+1));have j:=fq (f.take (n+1));rw[dZ,fu U] at j;generalize d[n+1]=v at*;obtain⟨a,rfl⟩:=eH l.1;have i:0<a:=U;have t:aA a<=32:=dy.2 U;have s:=oH i;obtain⟨g,o⟩:=u9 i;obtain⟨b,k⟩:∃b,aA a=b+1:=⟨aA a-1,U⟩;refine⟨32-aA a,U,?_,?_,?_⟩
 ·unfold s6;refine aq (F9 (n:=a) U) ?_;show some (ar (32-(aA a:Int)),())=_;rw[bm U U];congr 2;omega
 ·have al:af d<aI (n+1)*2^aA a:=by
   have:aI (n+1)*((a:Int)+1)<=aI (n+1)*2^aA a:=il (by rw[<-i5];omega) (dX (eg _));have p:aI (n+1)*((a:Int)+1)=aI (n+1)*(a:Int)+aI (n+1):=(by rw[Int.mul_add,Int.mul_one]);show af d<_;rw[h];show af (d.take (n+1))+aI (n+1)*(a:Int)<_;omega
  have e:af d*2^(32-aA a)<aI (n+1)*2^aA a*2^(32-aA a):=sp al (iJ _);rw[jy,<-jz,(U:aA a+(32-aA a)=32)] at e;rw[gD,g3];rw[g3];have:aI (n+1)*2^32=4294967296*aI (n+1):=(by rw[g3];rfl);omega
 have al:aI (n+1)*2^b<=af d:=(by have:aI (n+1)*2^b<=aI (n+1)*(a:Int):=il (by rw[<-i5];rw[k] at g;simp only[uQ] at g;omega) (dX (eg _));rw[h];show _<=af (d.take (n+1))+aI (n+1)*(a:Int);omega);have e:aI (n+1)*2^b*2^(32-aA a)<=af d*2^(32-aA a):=kU al (dX (iJ _));rw[jy,<-jz,(U:b+(32-aA a)=31)] at e;have:aI (n+1)*2^31=2147483648*aI (n+1):=(by rw[g3];rfl);omega
def RM (g:af d=a) (e:aP d) (l:dE d) (q:a<aI (b+2)) (r:2147483648*aI (b+1)<=a):∃c:d.length=b+2,2147483648<=d[b+1]:=by
 have t:=eg (b+1);have k:d.length=b+2:=by
  have o:=fq e;have h:d≠[]:=λi=>(by rw[i] at g;simp only[af] at g;omega);have p:=dE.low e l h;rcases kX d.length (b+2) with c|c|c
  ·have:=nV (m:=d.length) (n:=b+1) U;omega
  ·exact c
  have:=nV (m:=b+2) (n:=d.length-1) U;omega
 refine⟨k,?_⟩;have s:af d=af (d.take (b+1))+aI (b+1)*d[b+1]:=(by rw[<-gC U,dm U]);have j:=fq (e.take (b+1));rw[dZ,fu U] at j;rcases gZ d[b+1] 2147483648 with f|f
 ·exfalso;have:aI (b+1)*(d[b+1]+1)<=aI (b+1)*2147483648:=il U U;rw[Int.mul_add,Int.mul_one] at this;omega
 exact f
theorem JK {h d i b g f c:Int} (l:(g+a*(i+c))+e*d=h) (j:i=e*b+f):(g+a*(f+c))+e*(d+a*(b-0))=h:=by subst j;have al:a*(e*b+f+c)=a*(f+c)+a*(e*b):=(by grind);have k:e*(d+a*(b-0))=e*d+a*(e*b):=(by grind);omega
def RL {n:Nat} (z:aP d) (J:af d=a) (d1:a<aI (n+2)) (L:d.length=n+2) (an:2147483648<=d[n+1]) (bl:n<=10000000) (ap:aP f) (Y:af f=e) (W:f.length=c) (d7:c=b+(n+2)) (d0:c<=10000000) (ab:af (f.drop b)<a) {H:iD->Prop} (X:∀i h,i.length=b->aP i->h.length=c->aP h->af h+a*af i=e->af h<a->H (i,h,())):ae (loop (σ:=(Int×aN×aN×Unit)) (ρ:=iD) (λ(r,P,u,_)=>
 bif decide (r>=0) then
 ((fV r).bind λM=>(fV (aY (ar (r+ay d)))).bind λN=>(gd M N u.length).bind λ_=>(uc u.length).map λ_=>(M,N)).bind λt=>
  bif Nat.blt t.1 t.2 then
 (xJ ((u,t.1,t.2),d,())).bind λ(bd,bs,_)=>
 wr P r bs λcs=>
 some (.inl (ar (r-1),cs,bd,())) else none else
 some (.inr (P,u,()))) (ar (ay (List.replicate b (0:Int))-1),List.replicate b (0:Int),f,())) H:=by
 have K:0<a:=(by have o:=DT L;have q:=dH (z.take n);have c1:=z.get (n:=n) U;have c2:0<(d[n+1]*4294967296+d[n])*aI n:=oc U (eg n);omega);refine ae.steps b (λl bB=>∃i h,bB=(((b:Nat):Int)-1-l,i,h,())/\i.length=b/\aP i/\(∀g,g<b-l->(Z:g<i.length)->i[g]=0)/\h.length=c/\aP h/\af h+a*af i=e/\af (h.drop (b-l))<a) ⟨List.replicate b 0,f,?_,ac,aP.ky _,ac,W,ap,by rw[n6,Y];omega,ab⟩ ?_ ?_
 ·rw[show ar (ay (List.replicate b (0:Int))-1)=(b:Int)-1-((0:Nat):Int) from ?_];simp only[a1,nu];rw[bm U U];omega
 ·rintro l _ d5 ⟨i,h,rfl,ax,E,F,G,p,o,q⟩;obtain⟨g,Z⟩:∃g,b=g+1+l:=⟨b-1-l,U⟩;have al:((b:Nat):Int)-1-(l:Int)=(g:Int):=U;rw[(U:b-l=g+1)] at q;have R:aY (ar ((g:Int)+ay d))=((g+(n+3):Nat):Int):=by
   simp only[a1];rw[bm U U,(U:(g:Int)+(d.length:Int)=((g+(n+2):Nat):Int)),bt U];rfl
  simp only[al,aB (U:(g:Int)>=0),cond_true,R,rR,aG,tJ (U:g<=g+(n+3)/\g+(n+3)<=h.length),G2 (U:0<h.length),ga,show Nat.blt g (g+(n+3))=true from by simp];obtain⟨m,v⟩:∃m,m=h.take g:=⟨_,rfl⟩;obtain⟨j,B⟩:∃j,j=(h.drop g).take (n+3):=⟨_,rfl⟩;obtain⟨k,x⟩:∃k,k=h.drop (g+(n+3)):=⟨_,rfl⟩;have w:m.length=g:=(by rw[v,dZ];omega);have s:j.length=n+3:=(by rw[B,dZ,j5];omega);have y:h=m++(j++k):=(by rw[v,B,x,<-pt,kW,kW]);have dl:k.length=c-(g+(n+3)):=(by rw[x,j5,G]);have a4:aP m:=(by rw[v];exact p.take g);have D:aP j:=(by rw[B];exact(p.drop g).take _);have O:aP k:=(by rw[x];exact p.drop _);have d2:af (h.drop g)=af j+aI (n+3)*af k:=(by rw[y,pq U,pu U,hC,ku,s]);have d3:af (h.drop g)=h[g]+4294967296*af (h.drop (g+1)):=kv U;have d9:=p.get (n:=g) U;have T:=dH O;have ds:0<=aI (n+3)*af k:=lW (dX (eg _)) T;have d6:af (h.drop g)<4294967296*a:=U;have V:af k=0:=by
   rcases gZ 0 (af k) with S|S
   ·exfalso;have:=il (U:1<=af k) (dX (eg (n+3)));have cv:aI (n+3)=4294967296*aI (n+2):=gD (n+2);have:=dH D;omega
   omega
  have Q:wN d j n:=⟨z,D,L,s,bl,an,by rw[J];omega⟩;have ad:0<=af j/a:=Int.ediv_nonneg (dH D) U;have am:af j/a<4294967296:=Int.ediv_lt_of_lt_mul K U;have d4:=Int.emod_add_mul_ediv (af j) a;have d8:=Int.emod_lt_of_pos (af j) K;have I:=RK (A:=m) (C:=k) Q;rw[<-y,w,s,J] at I;refine ae.aU I ?_;rintro _ ⟨ce,rfl,ci,co,b3⟩;dsimp only;rw[jZ U];refine ae.ag.2 ⟨i.set g (af j/a),m++(ce++k),?_,by simp[ax],E.set ad am,?_,by simp;omega,aP.append.2 ⟨a4,aP.append.2 ⟨co,O⟩⟩,?_,?_⟩
  ·rw[bm U U];congr 1;omega
  ·intro a0 ed a3;rw[sx U];exact F a0 U (by simpa using a3)
  ·rw[ln U,F g U U,ku,ku,w,b3];rw[y,ku,ku,w] at o;rw[ci];rw[s] at o;have av:af j=a*(af j/a)+af j %a:=U;exact JK o av
  rw[(U:b-(l+1)=g),pq U,pu U,hC,ku,V,b3];omega
 rintro _ ⟨i,h,rfl,ax,E,F,G,p,o,q⟩;have al:¬(((b:Nat):Int)-1-(b:Int)>=0):=U;simp only[az al,cond_false];rw[Nat.sub_self,lv] at q;exact ae.ag.2 (X i h ax E G p o q)
def Di {A B q r:Int} (f:0<B) (b:A=B*q+r) (c:0<=r) (d:r<B):A/B=q/\A %B=r:=by have e:=hA A B;have a:A/B=q:=(by rw[b,Int.mul_add_ediv_left _ _ U,oa c d];omega);refine⟨a,?_⟩;rw[a] at e;omega
theorem JM (l:aP d) (p:aP f) (W:dE d) (F:dE f) (ed:d.length<=1000000) (ek:f.length<=1000000) (N:f≠[]):xK (d,f,())=some (bR (af d/af f).toNat,bR (af d %af f).toNat,()):=by
 unfold xK;refine ae.eq_iff.1 ?_;have K:=dH l;have I:0<af f:=(by have:=dH p;have:af f≠0:=λY=>N (dE.zero p F Y);omega);refine ae.bs (Aw l p W F U U) ?_;dsimp only;rw[br];refine ae.ite (λt=>?_) λt=>?_
 ·have C:af d<af f:=by
   unfold eo at t;split at t
   ·assumption
   split at t<;>omega
  refine ae.bs (xd U) (ae.ag.2 ?_);rw[oa K C,qF K C];show(([]:ad5),d,())=(bR 0,bR (af d).toNat,());rw[Fh,<-dE.eq l W]
 have d7:af f<=af d:=by
  unfold eo at t;split at t
  ·omega
  omega
 rw[dB,br];refine ae.ite (λh=>?_) λh=>?_
 ·have h:f.length=1:=(by simp only[a1] at h;omega);obtain⟨o,rfl⟩:=List.length_eq_one_iff.1 h;have bd:=(aP.cons.1 p).1;have u:af [o]=o:=(by simp[af]);rw[u] at I|-;have dl:0<=af d %o:=Int.emod_nonneg _ U;have d9:af d %o<o:=Int.emod_lt_of_pos _ I;refine ae.bs (y:=o) rfl (ae.bs (Zg l U U bd.2) ?_);dsimp only;refine ae.bs (nh (aP.cons.2 ⟨⟨dl,U⟩,aP.nil⟩) ac) (ae.ag.2 ?_);show(_,fY [af d %o],())=_;rw[fY];simp[af]
 obtain⟨b,bB⟩:∃b,f.length=b+2:=(by have:=zU.2 N;simp only[a1] at h;exact⟨f.length-2,U⟩);have al:ar (ay f-1)=((b+1:Nat):Int):=(by simp only[a1];rw[bm U U];omega);obtain⟨a,T,d0,V,d1⟩:=UW p F bB;have d8:b+2<=d.length:=by
  rcases bg d.length (b+2) with j|j
  ·have:=ph l p F U;omega
  exact j
 have D:=iJ a;refine ae.bs (y:=f[b+1]) (by rw[al];exact bQ U) (ae.bs d0 ?_);refine ae.bs (DN p U U) ?_;obtain⟨s,u⟩:∃s,s=bR (af f*2^a).toNat:=⟨_,rfl⟩;have av:0<=af f*2^a:=Int.mul_nonneg U U;have M:af s=af f*2^a:=(by rw[u,tu av]);have bn:aP s:=(by rw[u];exact iW _);have d2:dE s:=(by rw[u];exact mX _);obtain⟨cv,ce⟩:=RM M bn d2 V d1;rw[<-u];have Z:aY (ay d)=((d.length+1:Nat):Int):=bt U;refine ae.bs (y:=d.length+1) (by rw[Z];exact fU U) ?_;refine ae.bs (DN l U U) ?_;have ap:0<=af d*2^a:=Int.mul_nonneg U U;have d6:af d*2^a<aI (d.length+1):=(by have w:af d*2^a<aI d.length*2^a:=Int.mul_lt_mul_of_pos_right (fq l) D;have x:aI d.length*2^a<=aI d.length*4294967296:=Int.mul_le_mul_of_nonneg_left (by have:=ue T;omega) (Int.le_of_lt (eg _));rw[gD,Int.mul_comm 4294967296];omega);obtain⟨m,E⟩:∃m,m=bR (af d*2^a).toNat:=⟨_,rfl⟩;have R:m.length<=d.length+1:=(by rw[E];exact p2 U);have c2:aP m:=(by rw[E];exact iW _);have c1:af m=af d*2^a:=(by rw[E,tu ap]);rw[<-E];obtain⟨i,O⟩:∃i,i=h6 (List.replicate (d.length+1) (0:Int)) m 0 (List.replicate (d.length+1) (0:Int)).length:=⟨_,rfl⟩;have J:i=m++List.replicate (d.length+1-m.length) 0:=(by rw[O];unfold h6;rw[List.take_zero,List.nil_append,List.length_replicate,Nat.sub_zero,List.take_of_length_le R,Nat.zero_add,Nat.min_eq_left R,List.drop_replicate]);have co:i.length=d.length+1:=(by rw[J];simp;omega);have S:aP i:=(by rw[J];exact aP.append.2 ⟨c2,aP.ky _⟩);have Q:af i=af d*2^a:=(by rw[J,ku,n6,c1];omega);dsimp only;rw[<-O];obtain⟨g,bl⟩:∃g,d.length+1=g+(b+2):=⟨d.length+1-(b+2),U⟩;have ab:ar (ay i-ay s)=((g:Nat):Int):=(by simp only[a1];rw[bm U U];omega);refine ae.bs (y:=g) (by rw[ab];exact fU U) ?_;have C:af (i.drop g)<af f*2^a:=(by have h:=nj i g U;have w:=dH (S.take g);rw[Q] at h;have x:af d*2^a<aI d.length*2^a:=Int.mul_lt_mul_of_pos_right (fq l) D;have H:aI d.length=aI g*aI (b+1):=(by rw[<-sj];congr 1;omega);have v:aI g*af (i.drop g)<aI g*(aI (b+1)*2^a):=(by rw[<-Int.mul_assoc,<-H];omega);have z:=Int.lt_of_mul_lt_mul_left v (Int.le_of_lt (eg g));have d5:aI (b+1)*2^a<=aI (b+1)*2147483648:=Int.mul_le_mul_of_nonneg_left (ue T) (Int.le_of_lt (eg _));omega);refine ae.aU (P:=λX=>∃c e,X=(c,e,())/\c.length=g/\aP c/\e.length=d.length+1/\aP e/\af e+af f*2^a*af c=af d*2^a/\af e<af f*2^a) (RL bn M V cv ce U S Q co bl U C λc e h w x H v z=>⟨c,e,rfl,h,w,x,H,v,z⟩) ?_;rintro _ ⟨c,e,rfl,ax,ds,el,G,v,z⟩;have ad:ay s=((b+2:Nat):Int):=(by simp only[a1];omega);dsimp only;rw[ad];refine ae.bs (Dz U) ?_;have ci:=dH G;have cs:af (e.take (b+2))=af e:=by
  have h:=nj e (b+2) U;have w:=dH (G.drop (b+2));have x:=dH (G.take (b+2));rcases gZ 0 (af (e.drop (b+2))) with j|j
  ·exfalso;have:=il (U:1<=af (e.drop (b+2))) (dX (eg (b+2)));omega
  rw[(U:af (e.drop (b+2))=0)] at h;omega
 have L:af e=2^a*(af d-af f*af c):=(by have d3:af f*2^a*af c=2^a*(af f*af c):=(by grind);have d4:2^a*(af d-af f*af c)=2^a*af d-2^a*(af f*af c):=Int.mul_sub ..;rw[g3 (af d)] at v;omega);have a0:0<=af d-af f*af c:=by
  rcases gZ (af d-af f*af c) 0 with j|j
  ·have:=Int.mul_neg_of_pos_of_neg D j;omega
  exact j
 have a3:af d-af f*af c<af f:=(by have:2^a*(af d-af f*af c)<2^a*af f:=(by rw[<-L,Int.mul_comm (2^a)];exact z);exact Int.lt_of_mul_lt_mul_left this (Int.le_of_lt D));have a4:af e/2^a=af d-af f*af c:=(by rw[L];exact Int.mul_ediv_cancel_left _ U);obtain⟨an,f2⟩:=Di (A:=af d) (B:=af f) (q:=af c) (r:=af d-af f*af c) I U a0 a3;refine ae.bs (nh ((G.take _).drop _) (by simp;omega)) ?_;have am:fY (List.drop 0 (e.take (b+2)))=bR (af e).toNat:=(by rw[List.drop_zero,fY,cs]);dsimp only;rw[am];refine ae.bs (Fb (iW _) (mX _) ?_ U) ?_
 ·have:=p2 (n:=(af e).toNat) (k:=b+2) U;omega
 dsimp only;refine ae.bs (nh ds U) (ae.ag.2 ?_);show(fY c,_,())=_;rw[tu ci,a4,an,f2,fY]
def rn (a:Nat):bR (a:Int).toNat=bR a:=by rw[db]
def R0 (c:0<b):bR b≠[]:=λa=>by have:=Ff.1 a;omega
def nJ {n k:Nat} (a:aA n<=32*k):(bR n).length<=k:=by refine p2 ?_;have:=dy.1 a;rw[po,<-i5];omega
theorem LP (h:0<b) (i:c*c<=j):c<=(b+j/b)/2:=by
 rw[zY aa];rcases bg (c*2) b with e|e
 ·exact dh (pD e) (Nat.le_add_right _ _)
 have k:c*2-b<=j/b:=by
  rw[zY h];obtain⟨a,f⟩:∃a,c*2=b+a:=⟨c*2-b,U⟩;rw[f,oq];have l:4*(c*c)=(b+a)*(b+a):=(by rw[<-f];grind);have m:(b+a)*(b+a)=b*b+2*(a*b)+a*a:=(by grind);rcases Nat.le_total b a with g|g
  ·obtain⟨d,rfl⟩:∃d,a=b+d:=⟨a-b,U⟩;have:(b+d)*(b+d)=b*b+2*(b*d)+d*d:=(by grind);have:(b+d)*b=b*b+b*d:=(by grind);omega
  obtain⟨d,rfl⟩:∃d,b=a+d:=⟨b-a,U⟩;have:(a+d)*(a+d)=a*a+2*(a*d)+d*d:=(by grind);have:a*(a+d)=a*a+a*d:=(by grind);omega
 omega
def LQ (d:0<b) (e:b<=(b+c/b)/2):b*b<=c:=by have a:b<=c/b:=U;rwa[zY d] at a
def q2:eo a e>=0↔e<=a:=by
 unfold eo;split
 ·omega
 split<;>omega
def Jr:eo a e<0↔a<e:=by
 unfold eo;split
 ·omega
 split<;>omega
def YL (m:aA b<=2000000):A7 (bR b,())=some (bR (bH b),()):=by
 unfold A7;refine ae.eq_iff.1 ?_;dsimp only;rw[qe,br];refine ae.ite (λe=>?_) λe=>?_
 ·have:=Ff.1 e;subst this;exact ae.ag.2 rfl
 have v:0<b:=by
  rcases gk b with d|d
  ·subst d;exact absurd rfl e
  exact d
 have x:(bR b).length<=62500:=nJ U;obtain⟨h,r⟩:=qd b;have z:0<bH b:=by
  rcases gk (bH b) with d|d
  ·rw[d] at r;omega
  exact d
 refine ae.bs (Ga (iW b) (mX b) U) ?_;rw[kf,db];have al:gL IntKind.i64 (aY (aA b:Int)) 2=some (((aA b+1)/2:Nat):Int):=(by unfold gL;rw[bt U,ai aa,wR U,wrap64 U U];simp);refine ae.bs al ?_;refine ae.bs (DN (a:=[1]) (aP.cons.2 ⟨aa,aP.nil⟩) ac U) ?_;have i:(af [1]*2^((aA b+1)/2)).toNat=2^((aA b+1)/2):=(by rw[show af [1]=1 from by simp[af],Int.one_mul,<-i5,db]);rw[i];refine ae.aU (P:=λq=>q=(bR (bH b),())) ?_ (by rintro _ rfl;exact ae.ag.2 rfl);refine ae.loop (λg=>∃c,g=(bR c,())/\bH b<=c/\aA c<=3000000) (λg=>(af g.1).toNat) ⟨_,rfl,?_,?_⟩ ?_
 ·refine DB h ?_;have k:=dy.1 (a2 (aA b));have l:2^aA b<=2^((aA b+1)/2)*2^((aA b+1)/2):=by
   rw[<-hf];exact ov aa U
  have t:=it (Nat.le_add_right (2^((aA b+1)/2)) 1) (Nat.le_add_right (2^((aA b+1)/2)) 1);omega
 ·rw[dy];exact y7 _ 3000000 U
 rintro _ ⟨c,rfl,D,s⟩;have f:0<c:=U;have B:(bR c).length<=93750:=nJ U;dsimp only;refine ae.bs (JM (iW b) (iW c) (mX b) (mX c) U U (R0 f)) ?_;rw[kf,kf,<-Int.natCast_ediv,rn];dsimp only;have y:(bR (b/c)).length<=62500:=(by refine nJ ?_;have:b/c<=b:=Nat.div_le_self _ _;have k:=dy.1 m;have:aA (b/c)<=2000000:=dy.2 U;omega);refine ae.bs (G1 (iW c) (iW (b/c)) U U) ?_;rw[kf,kf,<-Int.natCast_add,rn];dsimp only;have w:aA (c+b/c)<=3000001:=(by refine Je 3000000 s ?_;have l:=iy (Nat.div_le_self b c);omega);have A:(bR (c+b/c)).length<=93751:=nJ U;refine ae.bs (Fb (n:=1) (iW _) (mX _) U U) ?_;have j:(af (bR (c+b/c))/2^1).toNat=(c+b/c)/2:=(by rw[kf,show(2:Int)^1=((2:Nat):Int) from rfl,<-Int.natCast_ediv];rfl);rw[j];dsimp only;have p:aA ((c+b/c)/2)<=3000000:=(by have:=pN (c+b/c) 1;rw[Nat.pow_one] at this;omega);have C:(bR ((c+b/c)/2)).length<=93750:=nJ U;refine ae.bs (Aw (iW _) (iW c) (mX _) (mX c) U U) ?_;rw[kf,kf];dsimp only;rw[br];refine ae.ite (λd=>?_) λd=>?_
 ·refine ae.ag.2 ?_;have o:c<=(c+b/c)/2:=(by have:=q2.1 d;omega);have:=LQ f o;rw[Cw this (by
   have u:=it (U:bH b+1<=c+1) (U:bH b+1<=c+1);omega)]
 refine ae.ag.2 ⟨⟨(c+b/c)/2,rfl,LP f h,p⟩,?_⟩;show(af (bR ((c+b/c)/2))).toNat<(c:Int).toNat;rw[kf,db,db];have:=mt q2.2 d;omega
def zM (a:n8):Prop:=aP a.2.1/\dE a.2.1/\a.2.1.length<=100000
def gq {z:Int} (a:aA z.natAbs<=3000000):zM (aM z):=⟨k4 z,Cb z,nJ U⟩
def ng (a:aP d) (c:dE d) (e:d.length<=1000000):g1 (d,())=some (d,()):=by have b:=dE.eq a c;rw[nh a U];show some (bR (af d).toNat,())=_;rw[<-b]
def pM {neg:Bool} {x:Int} (a:0<=x) (b:(bR x.toNat).length<=100000000):kc (neg,bR x.toNat,())=some (aM (if neg then-x else x),()):=by rw[u5 (iW _) b];unfold fj;simp only[tu a]
def RZ {x y:Nat} {k:Nat} (a:(bR x).length<=k) (b:(bR y).length<=k):(bR (x+y)).length<=k+1:=by refine p2 ?_;have c:=J2 x;have d:=J2 y;have e:=nV a;have f:=nV b;have g:=eg k;rw[gD];omega
def zB {l:ad5} (d:aP l) (c:l.length<=b) (g:a<=af l):(bR a.toNat).length<=b:=by refine p2 ?_;have e:=fq d;have f:=nV c;have:=eg b;omega
def IB {a b:n8} (t:zM a) (u:zM b):q6 (a,b,())=some (aM (fj a+fj b),()):=by
 obtain⟨i,a,_⟩:=a;obtain⟨h,b,_⟩:=b;obtain⟨c,j,r⟩:=t;obtain⟨d,k,s⟩:=u;dsimp only at c j r d k s;have y:=dH c;have z:=dH d;have ax:=fq c;have A:=fq d;have B:=nV (m:=a.length) (n:=100000) r;have C:=nV (m:=b.length) (n:=100000) s;have D:=eg 100000;have x:∀e:Int,e<=af a+af b->(bR e.toNat).length<=100000001:=λe v=>(by have:(bR e.toNat).length<=100001:=(by refine p2 ?_;rw[show(100001:Nat)=100000+1 from rfl,gD];generalize aI 100000=w at*;omega);omega);have q:∀e:Int,e<=af a+af b->(bR e.toNat).length<=100000000:=λe v=>(by have:(bR e.toNat).length<=100001:=(by refine p2 ?_;rw[show(100001:Nat)=100000+1 from rfl,gD];generalize aI 100000=w at*;omega);omega);unfold q6;dsimp only;refine aq (ng c j U) (aq (ng d k U) ?_);dsimp only;cases f:(i==h) with
 |true=>
  have f:i=h:=(by simpa using f);subst f;refine aq (G1 c d U U) (aq (pM U (q _ U)) ?_);dsimp only;congr 3;unfold fj;cases i<;>simp<;>omega
 |false=>
  have f:i=!h:=(by cases i<;>cases h<;>simp at f|-);refine aq (Aw c d j k U U) ?_;dsimp only;rw[br];split
  ·rename_i l;have p:af b<=af a:=q2.1 l;have o:b.length<=a.length:=by
    rcases bg a.length b.length with g|g
    ·have:=ph c d k g;omega
    exact g
   refine aq (Lt c d U o p) (aq (pM U (q _ U)) ?_);dsimp only;congr 3;unfold fj;subst f;cases h<;>simp<;>omega
  rename_i l;have p:af a<af b:=Int.not_le.1 (mt q2.2 l);have o:a.length<=b.length:=by
   rcases bg b.length a.length with g|g
   ·have:=ph d c j g;omega
   exact g
  refine aq (Lt d c U o (Int.le_of_lt p)) (aq (pM U (q _ U)) ?_);dsimp only;congr 3;unfold fj;subst f;cases h<;>simp<;>omega
def El {x y:Int} (a:aA x.natAbs<=3000000) (b:aA y.natAbs<=3000000):q6 (aM x,aM y,())=some (aM (x+y),()):=by rw[IB (gq a) (gq b),ni,ni]
def ZG {x y:Int} (d:aA x.natAbs<=3000000) (e:aA y.natAbs<=3000000):A6 (aM x,aM y,())=some (aM (x-y),()):=by unfold A6;have a:zM ((!(aM y).1,(aM y).2):n8):=⟨k4 y,Cb y,(gq e).2.2⟩;refine aq (IB (gq d) a) ?_;rw[ni];have b:fj ((!(aM y).1,(aM y).2):n8)=-y:=(by have:=DR (aM y).1 (aM y).2.1;have c:=ni y;exact this.trans (congrArg _ c));rw[b];rfl
theorem LH {x y:Int} (g:aA x.natAbs<=3000000) (h:aA y.natAbs<=3000000):xH (aM x,aM y,())=some (aM (x*y),()):=by
 unfold xH;dsimp only;obtain⟨d,i,l⟩:=gq g;obtain⟨e,j,m⟩:=gq h;refine aq (ng d i U) (aq (ng e j U) ?_);dsimp only;refine aq (ZU d e U U) ?_;rw[gH,gH,<-Int.natCast_mul,rn];dsimp only;have k:(bR (x.natAbs*y.natAbs)).length<=100000000:=(by have:(bR (x.natAbs*y.natAbs)).length<=200000:=(by refine nJ ?_;have:=oG g h;omega);omega);have f:=pM (neg:=!((aM x).1==(aM y).1)) (x:=((x.natAbs*y.natAbs:Nat):Int)) U (by rw[rn];exact k);rw[rn] at f;refine aq f ?_;dsimp only;congr 3;show(if(!(decide (x<0)==decide (y<0)))=true then _ else _)=_;rw[Int.natCast_mul];rcases Int.lt_or_le x 0 with b|b<;>rcases Int.lt_or_le y 0 with c|c
 ·rw[aB b,aB c];have al:(x.natAbs:Int)=-x:=U;have a:(y.natAbs:Int)=-y:=U;rw[al,a];simp<;>grind
 ·rw[aB b,az (U:¬y<0)];have al:(x.natAbs:Int)=-x:=U;have a:(y.natAbs:Int)=y:=U;rw[al,a];simp<;>grind
 ·rw[aB c,az (U:¬x<0)];have al:(x.natAbs:Int)=x:=U;have a:(y.natAbs:Int)=-y:=U;rw[al,a];simp<;>grind
 rw[az (U:¬y<0),az (U:¬x<0)];have al:(x.natAbs:Int)=x:=U;have a:(y.natAbs:Int)=y:=U;rw[al,a];simp
def Js {x y:Int} (i:aA x.natAbs<=900000) (l:aA y.natAbs<=900000):xG (aM x,aM y,())=some (eo x y,()):=by
 obtain⟨d,e,m⟩:=gq (z:=x) U;obtain⟨f,g,n⟩:=gq (z:=y) U;unfold xG;refine aq (qw (h7 U)) (aq (qw (h7 U)) ?_);dsimp only;rw[br,br];have a:∀b:Int,b<0/\dW b=-1\/b=0/\dW b=0\/0<b/\dW b=1:=λb=>by
  unfold dW;split
  ·omega
  split<;>omega
 split
 ·rename_i o;unfold eo;rw[ai (by have:=a x;have:=a y;omega)]
 split
 ·rename_i j k;unfold eo;rw[ah (by have:=a x;have:=a y;omega),ai (by have:=a x;have:=a y;omega)]
 rename_i j k;have q:dW x=dW y:=U;refine aq (ng d e U) (aq (ng f g U) ?_);dsimp only;refine aq (Aw d f e g U U) ?_;rw[gH,gH];dsimp only;have i:=a x;have l:=a y;have:dW x*eo (x.natAbs:Int) (y.natAbs:Int)=eo x y:=by
  rcases i with⟨h,c⟩|⟨h,c⟩|⟨h,c⟩<;>rw[c]
  ·unfold eo;split
   ·rw[ah U,ai U];rfl
   split
   ·rw[ai U];rfl
   rw[ah U,ah U];rfl
  ·rw[sr];unfold eo;rw[ah U,ah U]
  unfold eo;rw[Int.one_mul];split
  ·rw[ai U]
  split
  ·rw[ah U,ai U]
  rw[ah U,ah U]
 rw[this];have p:-1<=eo x y/\eo x y<=1:=by
  unfold eo;split
  ·omega
  split<;>omega
 rw[bm U U]
def LK (b:Int) (a:Nat):(b.natAbs:Int)*2^a=((b.natAbs*2^a:Nat):Int):=by simp
def qX {m n:Nat}:aA (m*2^n)<=aA m+n:=by
 rcases gk m with a|a
 ·subst a;simp[QG]
 rw[lE a];exact a2 _
def Zf (j:aA a.natAbs<=1900000) (i:b<=1048576):pT (aM a,(b:Int),())=some (aM (a*2^b),0,()):=by
 obtain⟨c,e,g⟩:=gq (z:=a) U;unfold pT;dsimp only;rw[az (U:¬((b:Int)< -1048576)),az (U:¬((b:Int)>1048576))];refine aq rfl (aq (ng c e U) ?_);dsimp only;rw[aB (U:(b:Int)>=0)];refine aq (DN c U U) ?_;rw[gH,LK];have h:(bR (a.natAbs*2^b)).length<=100000:=nJ (by have:=qX (m:=a.natAbs) (n:=b);omega);have f:=pM (neg:=(aM a).1) (x:=((a.natAbs*2^b:Nat):Int)) U (by rw[rn];omega);refine aq f ?_;dsimp only;congr 3;show(if decide (a<0)=true then _ else _)=_;rw[<-LK];by_cases d:a<0
 ·rw[ai (aB d),<-Int.neg_mul];congr 1;omega
 rw[ah (by simpa using d)];congr 1;omega
def LN {m:Int} (b:0<a) (d:0<=m):-m/a=if m %a=0 then-(m/a) else-(m/a+1):=by
 have e:=hA m a;have f:=mF m (U:a≠0);have g:=ob m b;split
 ·rename_i c;refine(Di (A:=-m) (B:=a) (q:=-(m/a)) (r:=0) b ?_ (qG _) b).1;rw[Int.mul_neg];omega
 rename_i c;refine(Di (A:=-m) (B:=a) (q:=-(m/a+1)) (r:=a-m %a) b ?_ U U).1;rw[Int.mul_neg,Int.mul_add,Int.mul_one];omega
def Ze (w:aA a.natAbs<=1900000) (u:b<=1048576) (v:0<b):pT (aM a,-(b:Int),())=some (aM (a/2^b),0,()):=by
 obtain⟨f,i,n⟩:=gq (z:=a) U;have q:=iJ b;unfold pT;dsimp only;rw[az (U:¬(-(b:Int)< -1048576)),az (U:¬(-(b:Int)>1048576))];refine aq rfl (aq (ng f i U) ?_);dsimp only;rw[az (U:¬(-(b:Int)>=0))];have al:ar (0- -(b:Int))=(b:Int):=(by rw[bm U U];omega);rw[al];refine aq (Fb f i U U) ?_;rw[gH];have r:0<=(a.natAbs:Int)/2^b:=Int.ediv_nonneg U U;have h:(a.natAbs:Int)/2^b<=a.natAbs:=Int.ediv_le_self _ U;have g:∀e:Int,e<=a.natAbs->(bR e.toNat).length<=100000:=λe s=>zB (l:=(aM a).2.1) f n (by rw[gH];exact s);have t:(bR ((a.natAbs:Int)/2^b+1).toNat).length<=100001:=(by have p:=RZ (x:=((a.natAbs:Int)/2^b).toNat) (y:=1) (k:=100000) (g _ h) aa;have o:((a.natAbs:Int)/2^b+1).toNat=((a.natAbs:Int)/2^b).toNat+1:=U;rw[o];exact p);dsimp only;refine aq (y:=(bR (if a<0/\(a.natAbs:Int) %2^b≠0 then(a.natAbs:Int)/2^b+1 else(a.natAbs:Int)/2^b).toNat,(false,([],())),())) ?_ ?_
 ·refine aq (y:=(decide (a<0/\(a.natAbs:Int) %2^b≠0),(false,([],())),())) ?_ ?_
  ·show(bif decide (a<0)==true then _ else _)=_;by_cases c:a<0
   ·simp[c]
   simp[c]
  dsimp only;by_cases c:a<0/\(a.natAbs:Int) %2^b≠0
  ·rw[aB c,ai c];refine aq (G1 (iW _) (aP.cons.2 ⟨aa,aP.nil⟩) (by have:=g _ h;omega) ac) ?_;rw[tu r,show af [1]=1 from by simp[af]]
  rw[az c,ah c];rfl
 dsimp only;refine aq (pM ?_ ?_) ?_
 ·split<;>omega
 ·split
  ·omega
  have:=g _ h;omega
 dsimp only;congr 3;show(if decide (a<0)=true then _ else _)=_;by_cases c:a<0
 ·rw[ai (aB c)];have j:=LN (m:=a.natAbs) q U;rw[(U:-(a.natAbs:Int)=a)] at j;rw[j];by_cases d:(a.natAbs:Int) %2^b=0
  ·rw[ai d,ah (by simp[d])]
  rw[ah d,ai ⟨c,d⟩]
 rw[ah (by simpa using c),ah (by simp[c])];congr 1;omega
def RN {x y:Int} (v:aA x.natAbs<=1900000) (A:aA y.natAbs<=1900000) (w:0<=x) (n:y≠0):A2 (aM x,aM y,())=some (aM (x/y),aM (x %y),0,()):=by
 obtain⟨c,f,i⟩:=gq (z:=x) U;obtain⟨d,g,j⟩:=gq (z:=y) U;unfold A2;dsimp only;refine aq (ng d g U) ?_;dsimp only;have h:(aM y).2.1≠[]:=λk=>n (vJ.1 k);rw[qe,az h];refine aq (ng c f U) ?_;dsimp only;refine aq (JM c d f g U U h) ?_;rw[gH,gH];dsimp only;have q:(aM x).1=false:=az U;have r:0<=(x.natAbs:Int)/(y.natAbs:Int):=Int.ediv_nonneg U U;have s:(x.natAbs:Int)/(y.natAbs:Int)<=x.natAbs:=Int.ediv_le_self _ U;have t:0<=(x.natAbs:Int) %(y.natAbs:Int):=Int.emod_nonneg _ U;have u:(x.natAbs:Int) %(y.natAbs:Int)<(y.natAbs:Int):=Int.emod_lt_of_pos _ U;have o:∀a:Int,a<=x.natAbs->(bR a.toNat).length<=100000:=λa e=>zB (l:=(aM x).2.1) c i (by rw[gH];exact e);have p:∀a:Int,a<=y.natAbs->(bR a.toNat).length<=100000:=λa e=>zB (l:=(aM y).2.1) d j (by rw[gH];exact e);rw[q];refine aq rfl ?_;dsimp only;refine aq (pM r (by have:=o _ s;omega)) (aq (pM t (by have:=p _ (Int.le_of_lt u);omega)) ?_);dsimp only;have al:(x.natAbs:Int)=x:=U;rw[al];have m:x %(y.natAbs:Int)=x %y:=by
  rcases gZ y 0 with b|b
  ·rw[(U:(y.natAbs:Int)=-y),Int.emod_neg]
  rw[(U:(y.natAbs:Int)=y)]
 rw[m];congr 3;show(if(!(false==decide (y<0)))=true then _ else _)=_;rcases gZ y 0 with b|b
 ·rw[aB b,(U:(y.natAbs:Int)=-y),Int.ediv_neg];simp
 rw[az (U:¬y<0),(U:(y.natAbs:Int)=y)];simp
def Zt {x:Int} (f:aA x.natAbs<=900000) (i:0<=x):A5 (aM x,())=some (aM (bH x.toNat),0,()):=by
 obtain⟨c,d,h⟩:=gq (z:=x) U;unfold A5;refine aq (qw (h7 U)) ?_;dsimp only;rw[az (by unfold dW;split;omega;split<;>omega)];refine aq (ng c d U) ?_;have e:(aM x).2.1=bR x.toNat:=(by show bR x.natAbs=_;congr 1;omega);dsimp only;rw[e];refine aq (YL (by rw[(U:x.toNat=x.natAbs)];omega)) ?_;dsimp only;have l:bH x.toNat<=x.toNat:=by
  obtain⟨g,m⟩:=qd x.toNat;rcases gk (bH x.toNat) with a|a
  ·omega
  exact dh (Nat.le_mul_of_pos_left _ a) g
 have b:=pM (neg:=false) (x:=(bH x.toNat:Int)) U (by
  rw[rn];have:=nJ (n:=bH x.toNat) (k:=100000) (by
   rw[dy];have:=dy.1 f;have j:=M7 900000 (32*100000) aa;omega)
  omega)
 rw[rn] at b;refine aq b ?_;rfl
def FE {n:Int} (d:-9223372036854775808<=n) (e:n<=9223372036854775807):vq (n,())=some (aM n,()):=by
 unfold vq;dsimp only;obtain⟨a,f,c,g⟩:∃a:Int,a=n.natAbs/\0<=a/\a<=9223372036854775808:=⟨_,rfl,U,U⟩;refine aq (y:=(a,(false,([],())),())) ?_ ?_
 ·rw[br];split
  ·rename_i b;rw[kw n,kw];congr 2;omega
  rename_i b;rw[kw];congr 2;omega
 dsimp only;rw[lS,Option.bind_some,qg c U,jY (x:=a/4294967296) U U];refine aq (u5 (aP.cons.2 ⟨⟨U,U⟩,aP.cons.2 ⟨⟨U,U⟩,aP.nil⟩⟩) ac) ?_;dsimp only;congr 2;congr 1;unfold fj;simp only[af];by_cases b:n<0
 ·simp[b];omega
 simp[b];omega
def Tu (e:aP d) (s:d.length<=2) {f:bq->Prop} (l:f (af d,())):ae (loop (σ:=l8) (ρ:=bq) (λ(j,b,_)=>
 bif decide (b<ay d) then
 (aC d b).bind λp=>
 (gN IntKind.u64 (aJ p) (ar (32*b))).bind λq=>
 some (.inl (eL IntKind.u64 j q,aY b,())) else
 some (.inr (j,()))) (0,0,())) f:=by
 refine ae.steps d.length (λa o=>o=(af (d.take a),(a:Int),())) rfl ?_ ?_
 ·rintro a _ c rfl;have i:=e.get c;simp only[aB (show(a:Int)<ay d by simp only[a1];omega),cond_true,bQ c,aG];have k:=dH (e.take a);have g:=fq (e.take a);rw[dZ,fu U,po] at g;have al:ar (32*(a:Int))=((32*a:Nat):Int):=(by rw[bm U U];simp);have m:(2:Int)^(32*a)<=4294967296:=by
   rcases(U:a=0\/a=1) with rfl|rfl<;>decide
  have n:=iJ (32*a);have r:d[a]*2^(32*a)<4294967296*4294967296:=(by have:=il m i.1;omega);have h:0<=d[a]*2^(32*a):=lW i.1 (dX n);rw[al,b2 (x:=d[a]) U U,mC U U,aG,db,qF h U,lO (32*a) k g h U U (Int.mul_emod_left _ _),bt U];refine ae.ag.2 ?_;rw[gC c,po,g3 (2^(32*a))]
 rintro _ rfl;simp only[az (show¬((d.length:Int)<ay d) by simp only[a1];omega),cond_false];rw[dm (a2 _)];exact ae.ag.2 l
def Tv {z:Int} (h:0<=z) (c:z<9223372036854775808):A3 (aM z,())=some (z,true,()):=by have i:aA z.natAbs<=64:=dy.2 U;obtain⟨a,b,g⟩:=gq (z:=z) U;have d:(aM z).2.1.length<=2:=nJ U;unfold A3;dsimp only;refine ae.eq_iff.1 ?_;refine ae.bs (ng a b U) ?_;dsimp only;rw[az (show¬(ay (aM z).2.1>2) by simp only[a1];omega),cond_false];refine ae.aU (P:=λf=>f=(z,())) (Tu a d (by rw[gH];congr 1;omega)) ?_;rintro _ rfl;have e:(aM z).1=false:=az U;dsimp only;rw[e];refine ae.bs (y:=.inr (z,true,())) ?_ (ae.ag.2 rfl);refine aq rfl ?_;dsimp only[cond_false];rw[aB (show z<9223372036854775808 from c)];refine aq rfl ?_;dsimp only[cond_true];rw[bm U U]
def zm (q:aP d) (s:d.length<=100000000):k2 (d,())=some (fY d,()):=by
 unfold k2;refine ae.eq_iff.1 ?_;refine ae.aU (P:=λj=>∃a:Nat,j.1=(a:Int)/\a<=d.length/\(∀b,a<=b->(l:b<d.length)->d[b]=0)/\dE (d.take a)) ?_ ?_
 ·refine ae.loop (λh=>∃a:Nat,h.1=(a:Int)/\a<=d.length/\(∀b,a<=b->(l:b<d.length)->d[b]=0)) (λh=>h.1.toNat) ⟨d.length,rfl,a2 _,λb e f=>by omega⟩ ?_;rintro⟨_,_⟩ ⟨a,rfl,e,f⟩;rcases a with _|a
  ·refine ae.ag.2 ⟨0,rfl,bE _,f,λm c=>by simp at c⟩
  have al:ar (((a+1:Nat):Int)-1)=(a:Int):=(by rw[bm U U];omega);have n:decide (((a+1:Nat):Int)>0)=true:=aB U;simp only[al,n,beq_self_eq_true,cond_true,bQ (show a<d.length from e),aG];by_cases i:d[a]=0
  ·rw[dB,aB i];refine ae.ag.2 ⟨⟨a,rfl,U,λb l p=>?_⟩,?_⟩
   ·rcases bg a b with k|k
    ·exact f b k p
    obtain rfl:b=a:=U;exact i
   show(a:Int).toNat<((a+1:Nat):Int).toNat;omega
  rw[dB,az i];refine ae.ag.2 ⟨a+1,rfl,e,f,λm c=>?_⟩;rw[ir,a9 e] at c;have c:(d.take a++[d[a]]).getLast?=some m:=c;rw[List.getLast?_concat] at c;cases c;exact i
 rintro⟨_,_⟩ ⟨a,rfl,e,f,o⟩;dsimp only;refine ae.aU (P:=λj=>j=(d.take a,())) ?_ ?_
 ·refine ae.steps a (λg h=>h=((g:Int),d.take g,())) rfl ?_ ?_
  ·rintro g _ r rfl;simp only[aB (U:(g:Int)<(a:Int)),cond_true,bQ (U:g<d.length),aG];rw[dQ (by simp;omega),bt U];refine ae.ag.2 ?_;show _=(_,d.take (g+1),());rw[ir,a9 U];rfl
  rintro _ rfl;simp only[az (U:¬((a:Int)<(a:Int))),cond_false];exact ae.ag.2 rfl
 rintro _ rfl;refine ae.ag.2 ?_;show(d.take a,())=_;rw[OH q e f o]
def zh (a:aP d) (e:d.length<=100000000):kH (h,d,())=some (aM (fj (h,d,())),()):=by
 unfold kH;refine aq (zm a e) ?_;have b:=JZ (neg:=h) (HM d) (OG d);have c:fj (h,fY d,())=fj (h,d,()):=(by unfold fj;simp only[HN a]);rw[<-c,<-b];dsimp only;cases h
 ·simp
 simp only[beq_self_eq_true,cond_true,Bool.true_and];congr 3;rw[decide_eq_decide];simp only[a1];rw[<-zU];omega
def r5 (b:aP d) (c:d.length<=100000000) (e:af d=a):kH (h,d,())=some (aM (if h then-a else a),()):=by rw[zh b c];unfold fj;simp only[e]
def r6 {l:ad5} (a:aP l) (c:dE l) (d:l.length<=1000000):k2 (l,())=some (l,()):=by have b:=dE.eq a c;rw[zm a U];show some (bR (af l).toNat,())=_;rw[<-b]
def NL {a:n8} (b:aP a.2.1) (c:a.2.1.length<=100000000):oP (a,())=some (aM (fj a),()):=by unfold oP;exact aq (zh b c) rfl
def wu (b:aA a.natAbs<=3000000):oP (aM a,())=some (aM a,()):=by rw[NL (k4 a) (by have:=(gq b).2.2;omega),ni]
def NK (b:aA a.natAbs<=3000000):xW (aM a,())=some (aM (-a),()):=by unfold xW;refine aq (zh (k4 a) (by have:=(gq b).2.2;omega)) ?_;rw[DR];show some (aM (-fj (aM a)),())=_;rw[ni]
def zb (b:aA a.natAbs<=3000000):pU (aM a,())=some (aM a.natAbs,()):=by unfold pU;refine aq (zh (k4 a) (by have:=(gq b).2.2;omega)) ?_;rw[OW (k4 a) (aM a).1];show some (aM ((fj (aM a)).natAbs:Int),())=_;rw[ni]
def kO {z:Int} (a:aA z.natAbs<=3000000):ke (aM z,())=some (dW z,()):=by
 unfold ke;refine aq (wu a) ?_;simp only[qe,br,vJ];unfold dW;split
 ·rfl
 show(bif decide (z<0) then _ else _)=_;rw[br];split<;>rfl
def ug {z:Int} (d:aA z.natAbs<=3000000):pV (aM z,())=some ((aA z.natAbs:Int),()):=by obtain⟨b,c,e⟩:=gq d;have a:=Ga b c U;rw[gH] at a;unfold vt at a;unfold pV;refine aq (r6 b c U) ?_;dsimp only at a|-;simp only[Int.mul_comm 32];exact a
def NU {z:Int} (v:aA z.natAbs<=900000) (s:z≠0):pX (aM z,())=some ((bx z.natAbs:Int),()):=by
 obtain⟨i,k,r⟩:=gq (z:=z) U;unfold pX;refine aq (r6 i k U) ?_;have u:=gH z;dsimp only;generalize(aM z).2.1=b at*;have o:z.natAbs=(af b).toNat:=U;rw[o];refine ae.eq_iff.1 (ae.aU (P:=λg=>match g with|.inl _=>False|.inr p=>p=((bx (af b).toNat:Int),())) ?_ ?_)
 ·refine ae.steps b.length (λa q=>q=((a:Int),())/\af (b.take a)=0) ⟨rfl,rfl⟩ ?_ ?_
  ·rintro a _ e ⟨rfl,d⟩;have j:=i.get e;simp only[aB (show(a:Int)<ay b by simp only[a1];omega),cond_true,bQ e,aG,b0];by_cases c:b[a]=0
   ·simp only[aB c,e3,cond_false];refine ae.ag.2 ⟨by rw[bt U],?_⟩;rw[gC e,c,d];simp
   simp only[az c,ij,cond_true];have l:=OQ (x:=0) d e i c;rw[l];obtain⟨h,m⟩:=eH j.1;rw[m] at j c|-;have t:bx h<32:=he (uw U) (dy.2 U);refine ae.of_eq (aq (OP (n:=h) U U) rfl) ?_;show(ar (ar (32*(a:Int))+(bx h:Int)),())=_;rw[bm (x:=32*(a:Int)) U U,bm U U];congr 1
  rintro _ ⟨rfl,d⟩;exfalso;rw[dm (a2 _)] at d;omega
 rintro(g|g) f
 ·exact f.elim
 have f:g=_:=f;rw[f];exact ae.ag.2 rfl
def Nk {n:Nat} (c:n<=1000000000):∃b a:Nat,n=32*b+a/\a<32/\gL IntKind.i64 (n:Int) 32=some (b:Int)/\gM (n:Int) 32=some (a:Int):=by
 refine⟨n/32,n %32,U,U,?_,?_⟩
 ·unfold gL;rw[ai aa,wR U,wrap64 U U];simp
 unfold gM;rw[ai aa,zS U];simp
theorem Hm {n:Nat} (C:aP d) (R:d.length<=10000000) (O:n<=100000000):ae (vC (d,(n:Int),())) (λk=>∃b,k=(b,())/\aP b/\af b=af d*2^n/\b.length=n/32+d.length+1):=by
 unfold vC;obtain⟨g,a,H,Q,F,G⟩:=Nk (n:=n) U;have m:=iJ a;have B:=ud (p:=a) U;have A:(2:Int)^a<=2147483648:=ue U;dsimp only;refine ae.bs F (ae.bs (fU U) ?_);refine ae.aU (P:=λk=>∃c b,k=(c,b,())/\b.length=g+d.length/\aP b/\0<=c/\c<2^a/\af b+aI (g+d.length)*c=aI g*(2^a*af d)) ?_ ?_
 ·refine ae.steps d.length (λe J=>∃c b,J=(c,(e:Int),b,())/\b.length=g+e/\aP b/\0<=c/\c<2^a/\af b+aI (g+e)*c=aI g*(2^a*af (d.take e))) ⟨0,List.replicate g 0,rfl,ac,aP.ky _,U,m,by simp[af,n6]⟩ ?_ ?_
  ·rintro e _ o ⟨c,b,rfl,ax,j,h,l,i⟩;have v:=C.get o;simp only[aB (show(e:Int)<ay d by simp only[a1];omega),cond_true,bQ o,aG,G];have E:d[e]*2^a<4294967296*2^a:=sp v.2 m;have D:d[e]*2^a<=4294967295*2^a:=kU U U;have t:0<=d[e]*2^a:=lW v.1 (dX m);obtain⟨f,u,K,L,M⟩:∃f,f=c+d[e]*2^a/\0<=f/\f<18446744073709551616/\f<4294967296*2^a:=⟨_,rfl,U,U,U⟩;have q:gN IntKind.u64 (aJ d[e]) (a:Int)=some (d[e]*2^a):=by
    rw[b2 (x:=d[e]) U U,mC U U,db];congr 1;omega
   have r:eL IntKind.u64 c (d[e]*2^a)=f:=(by rw[lO a h l t U U (Int.mul_emod_left _ _),u]);have s:f/4294967296<2^a:=pp aa (by rw[g3];omega);rw[q,aG,r,dQ (by simp;omega),lS,n7];refine ae.ag.2 ⟨f/4294967296,b++[f %4294967296],by rw[bt U],by simp[ax];omega,j.snoc U U,U,s,?_⟩;rw[pi,ax,(U:g+(e+1)=(g+e)+1),gD,gC o];have y:=hA f 4294967296;rw[sj] at i|-;generalize f/4294967296=I at*;generalize f %4294967296=k at*;generalize(2:Int)^a=w at*;generalize d[e]=N at*;have z:k=c+N*w-4294967296*I:=U;clear y q r s u K L M E D t B A;subst z;grind
  rintro _ ⟨c,b,rfl,ax,j,h,l,i⟩;simp only[az (show¬((d.length:Int)<ay d) by simp only[a1];omega),cond_false];rw[dm (a2 _)] at i;exact ae.ag.2 ⟨c,b,rfl,ax,j,h,l,i⟩
 rintro _ ⟨c,b,rfl,ax,j,h,l,i⟩;dsimp only;rw[jY h U,dQ (by simp;omega)];refine ae.ag.2 ⟨b++[c],rfl,j.snoc h U,?_,by simp;omega⟩;rw[pi,ax,i,po,H,Int.pow_add];grind
def Nr (h:aP d) (i:aP f) (p:dE d) (q:dE f) (u:d.length<=10000000) (v:f.length<=10000000):xX (d,f,())=some (eo (af d) (af f),()):=by
 unfold xX;refine ae.eq_iff.1 ?_;simp only[b0,a1];by_cases t:d.length=f.length
 ·rw[aB (U:(d.length:Int)=f.length)];simp only[e3,cond_false];refine ae.aU (P:=λl=>match l with|.inl _=>af d=af f|.inr n=>n=(eo (af d) (af f),())) ?_ ?_
  ·refine ae.steps d.length (λb o=>o=(((d.length:Nat):Int)-1-b,())/\af (d.drop (d.length-b))=af (f.drop (d.length-b))) ⟨?_,?_⟩ ?_ ?_
   ·rw[bm U U];simp
   ·rw[og U,og U]
   ·rintro b _ r ⟨rfl,c⟩;obtain⟨a,s⟩:∃a,d.length=a+1+b:=⟨d.length-1-b,U⟩;have al:((d.length:Nat):Int)-1-(b:Int)=(a:Int):=U;have j:a<d.length:=U;have k:a<f.length:=U;rw[(U:d.length-b=a+1)] at c;simp only[al,aB (U:(a:Int)>=0),cond_true,bQ j,bQ k,aG];by_cases m:d[a]=f[a]
    ·simp only[aB m,e3,cond_false];refine ae.ag.2 ⟨?_,?_⟩
     ·rw[bm U U];congr 1;omega
     rw[(U:d.length-(b+1)=a),kv j,kv k,m,c]
    simp only[az m,ij,cond_true];rw[br];refine ae.ite (λg=>?_) λg=>?_
    ·refine ae.ag.2 ?_;show((-1:Int),())=_;unfold eo;rw[ai (DS h i j k c g)]
    refine ae.ag.2 ?_;show((1:Int),())=_;have:=DS i h k j c.symm U;unfold eo;rw[ah U,ai this]
   rintro _ ⟨rfl,c⟩;have al:¬(((d.length:Nat):Int)-1-(d.length:Int)>=0):=U;simp only[az al,cond_false];refine ae.ag.2 ?_;simpa using c
  rintro(l|l) e
  ·refine ae.ag.2 ?_;have e:af d=af f:=e;unfold eo;rw[e];simp
  have e:l=_:=e;rw[e];exact ae.ag.2 rfl
 rw[az (U:¬(d.length:Int)=f.length)];simp only[ij,cond_true];rw[br];unfold eo;refine ae.ite (λg=>ae.ag.2 ?_) λg=>ae.ag.2 ?_
 ·rw[ai (ph h i q U)]
 have:=ph i h p U;rw[ah U,ai this]
theorem TY (k:aP d) (x:j<32) (w:c+b<d.length) (v:a=af (d.drop c)):a/2^j/aI b %4294967296=(d[c+b]+4294967296*d.getD (c+b+1) 0)/2^j %4294967296:=by
 have s:=iJ j;have t:=ud (p:=j) U;have u:a/aI b=(d[c+b]+4294967296*d.getD (c+b+1) 0)+4294967296*(4294967296*af (d.drop (c+b+2))):=by
  have g:d.drop c=(d.drop c).take b++d.drop (c+b):=by
   conv=>lhs;rw[<-kW b (d.drop c)]
   rw[pt]
  have h:a=af ((d.drop c).take b)+aI b*af (d.drop (c+b)):=by
   rw[v]
   conv=>lhs;rw[g]
   rw[ku,dZ,j5,fu U]
  have o:=dH ((k.drop c).take b);have i:=fq ((k.drop c).take b);rw[dZ,j5,fu U] at i;have q:af (d.drop (c+b))=d[c+b]+4294967296*af (d.drop (c+b+1)):=kv U;have r:af (d.drop (c+b+1))=d.getD (c+b+1) 0+4294967296*af (d.drop (c+b+2)):=by
   rcases bg (c+b+1) d.length with f|f
   ·rw[jN f];exact kv f
   rw[mY f,og f,og U];rfl
  rw[h,uJ _ _ (by have:=eg b;omega),oa o i,q,r];grind
 have g:a/2^j/aI b=a/aI b/2^j:=(by rw[sn (dX s),sn (dX (eg b)),g3]);rw[g,u];generalize d[c+b]+4294967296*d.getD (c+b+1) 0=l;have h:∀e:Int,l+4294967296*(4294967296*e)=l+2^j*(4294967296*(2^(32-j)*e)):=λe=>(by generalize(2:Int)^j=m at*;generalize(2:Int)^(32-j)=n at*;rw[show(4294967296:Int)*(4294967296*e)=(m*n)*(4294967296*e) by rw[<-t]];grind);rw[h,uJ _ _ U,wQ]
def T7 (e:aP d) (o:j<32) (i:c<d.length):(decide (af d %(aI c*2^j)≠0))=(decide (af (d.take c)≠0)||decide (d[c] %2^j≠0)):=by have l:=iJ j;have m:=ud (p:=j) U;have n:=dH (e.take c);have f:=fq (e.take c);rw[dZ,fu U] at f;have a:=Lk (x:=af (d.take c)) (b:=aI c) (y:=af (d.drop c)) (P:=2^j) (P':=0) (eg c) ⟨n,f⟩ l;rw[<-nj d c U] at a;have k:af (d.drop c) %2^j=d[c] %2^j:=(by rw[kv i,m,jy,wQ]);rw[k] at a;by_cases g:af (d.take c)=0<;>by_cases h:d[c] %2^j=0<;>simp[g,h,a]
theorem Hn {a:ad5} {n:Nat} (h:aP a) (a4:a.length<=10000000) (a3:n<=1000000000):ae (vD (a,(n:Int),())) (λi=>∃e,i=(e,decide (af a %2^n≠0),())/\aP e/\af e=af a/2^n/\e.length<=a.length):=by
 unfold vD;obtain⟨b,d,ab,J,w,Y⟩:=Nk (n:=n) U;have E:=iJ d;have ap:=ud (p:=d) U;have am:(2:Int)^d<=2147483648:=ue U;have T:(2:Int)^n=aI b*2^d:=(by rw[po,ab,Int.pow_add]);have K:=dH h;dsimp only;refine ae.aU (P:=λi=>i=(decide (af (a.take b)≠0),())) ?_ ?_
 ·have M:∀c,min b a.length=c->decide (af (a.take b)≠0)=decide (af (a.take c)≠0):=λc l=>by
   rcases Nat.le_total b a.length with f|f
   ·rw[fu f] at l;rw[l]
   rw[uS f] at l;rw[<-l,dm f,dm (a2 _)]
  refine ae.steps (min b a.length) (λc s=>s=(decide (af (a.take c)≠0),(c:Int),())) (by simp[af]) ?_ ?_
  ·rintro c _ l rfl;have t:=h.get (n:=c) U;simp only[w,aG,aB (U:(c:Int)<(b:Int)),beq_self_eq_true,cond_true,aB (show(c:Int)<ay a by simp only[a1];omega),bQ (U:c<a.length),bt (U:c<9223372036854775807),b0];have z:af (a.take (c+1))=af (a.take c)+aI c*a[c]:=gC U;have an:=dH (h.take c);have C:=eg c;by_cases f:af (a.take c)=0
   ·rw[az (show¬(af (a.take c)≠0) fromλo=>o f)];refine ae.ag.2 ?_;show((!decide (a[c]=0)),_,())=_;congr 1;rw[z,f];by_cases k:a[c]=0
    ·simp[k]
    have:=oc C (U:0<a[c]);rw[az k,aB (U:(0:Int)+aI c*a[c]≠0)];rfl
   rw[aB (show af (a.take c)≠0 from f)];refine ae.ag.2 ?_;show(true,_,())=_;congr 1;have:=lW (dX C) t.1;rw[z,aB (U:af (a.take c)+aI c*a[c]≠0)]
  rintro _ rfl;simp only[w,aG];by_cases f:min b a.length<b
  ·simp only[aB (U:((min b a.length:Nat):Int)<(b:Int)),beq_self_eq_true,cond_true,az (show¬(((min b a.length:Nat):Int)<ay a) by simp only[a1];omega),cond_false,aG];refine ae.ag.2 ?_;rw[M _ rfl]
  simp only[az (U:¬(((min b a.length:Nat):Int)<(b:Int))),show(false==true)=false from rfl,cond_false,aG];refine ae.ag.2 ?_;rw[M _ rfl]
 rintro _ rfl;dsimp only;refine ae.bs Y (ae.bs w ?_);rw[T];rcases Nat.lt_or_ge b a.length with o|o
 ·obtain⟨g,v⟩:∃g,g=af (a.drop b):=⟨_,rfl⟩;have F:0<=g:=(by rw[v];exact dH (h.drop b));have Z:af a=af (a.take b)+aI b*g:=(by rw[v];exact nj a b U);have W:=dH (h.take b);have I:=fq (h.take b);rw[dZ,fu U] at I;have V:af a/(aI b*2^d)=g/2^d:=by
   rw[<-sn (dX (eg b)),Z,uJ _ _ (by have:=eg b;omega),oa W I,qK]
  obtain⟨m,a0⟩:∃m,a.length=b+m:=⟨a.length-b,U⟩;have av:g<aI m:=(by have:=fq (h.drop b);rw[j5,(U:a.length-b=m),<-v] at this;exact this);have S:=T7 h J o;refine ae.aU (P:=λi=>∃e,i=(decide (af a %(aI b*2^d)≠0),e,())/\e.length=m/\aP e/\af e=g/2^d) ?_ ?_
  ·refine ae.steps m (λc s=>∃e,s=(if c=0 then decide (af (a.take b)≠0) else decide (af a %(aI b*2^d)≠0),((b+c:Nat):Int),e,())/\e.length=c/\aP e/\af e+aI c*(g/2^d/aI c)=g/2^d) ⟨[],rfl,rfl,aP.nil,by simp[af,wL]⟩ ?_ ?_
   ·rintro c _ l ⟨e,rfl,ax,u,r⟩;have t:=h.get (n:=b+c) U;have L:=h.getD (b+c+1);obtain⟨j,q,N,ad⟩:∃j,j=a[b+c]+4294967296*a.getD (b+c+1) 0/\0<=j/\j<18446744073709551616:=⟨_,rfl,U,U⟩;have G:g/2^d/aI c %4294967296=j/2^d %4294967296:=(by rw[q];exact TY h J U v);have X:0<=j/2^d:=Int.ediv_nonneg N (Int.le_of_lt E);have y:aY ((b+c:Nat):Int)=((b+c+1:Nat):Int):=bt U;dsimp only;rw[bo (aB (show((b+c:Nat):Int)<ay a by simp only[a1];omega))];refine ae.aU (P:=λi=>i=(decide (af a %(aI b*2^d)≠0),e++[j/2^d %4294967296],())) ?_ ?_
    ·refine ae.bs (bQ U) ?_;refine ae.aU (P:=λi=>i=(j,e,())) ?_ ?_
     ·rw[y,br];refine ae.ite (λf=>?_) λf=>?_
      ·have f:b+c+1<a.length:=(by simp only[a1] at f;omega);rw[bQ f,aG,b2 (x:=a[b+c+1]) (by have:=h.get f;omega) (by have:=h.get f;omega),mC aa aa];rw[jN f] at q L;have O:a[b+c+1]*2^(32:Int).toNat %18446744073709551616=4294967296*a[b+c+1]:=by
        rw[show(2:Int)^(32:Int).toNat=4294967296 from rfl];omega
       rw[aG,O,b2 U U,lO 32 t.1 t.2 U U U U];refine ae.ag.2 ?_;rw[<-q]
      have f:a.length<=b+c+1:=(by simp only[a1] at f;omega);rw[mY f] at q;rw[b2 U U];refine ae.ag.2 ?_;rw[q];simp
     rintro _ rfl;dsimp only;refine ae.aU (P:=λi=>i=(decide (af a %(aI b*2^d)≠0),e,())) ?_ ?_
     ·refine ae.bs w ?_;by_cases H:c=0
      ·subst H;have A:(((b+0:Nat):Int)==(b:Int))=true:=ac;rw[A];simp only[beq_self_eq_true,cond_true];refine ae.bs (bQ U) ?_;rw[Oe U U,aG,db,Int.one_mul,qF U U,jY U U,IK d (h.get (n:=b+0) U).1 (h.get (n:=b+0) U).2 U,b0,S];have Q:a[b+0]=a[b]:=rfl;rw[Q];by_cases k:a[b] %2^d=0
       ·rw[aB k];refine ae.ag.2 ?_;simp[k]
       rw[az k];refine ae.ag.2 ?_;simp[k]
      have A:(((b+c:Nat):Int)==(b:Int))=false:=(by rw[dB];exact az U);rw[A];simp only[show(false==true)=false from rfl,cond_false];refine ae.ag.2 ?_;rw[ah H]
     rintro _ rfl;dsimp only;rw[r8 U U,Option.bind_some,Int.toNat_natCast,dQ (by simp;omega),n7];exact ae.ag.2 rfl
    rintro _ rfl;dsimp only;refine ae.ag.2 ⟨e++[j/2^d %4294967296],by rw[y,if_neg U];rfl,by simp[ax],u.snoc U U,?_⟩;rw[pi,ax,<-G,gD,Int.mul_comm 4294967296 (aI c),<-Int.ediv_ediv_of_nonneg (Int.le_of_lt (eg c))];have D:=Int.emod_add_mul_ediv (g/2^d/aI c) 4294967296;generalize g/2^d/aI c %4294967296=i at*;generalize g/2^d/aI c/4294967296=bd at*;rw[<-D] at r;clear G D q N ad X t L y;grind
   rintro _ ⟨e,rfl,ax,u,r⟩;dsimp only;rw[bi (az (show¬(((b+m:Nat):Int)<ay a) by simp only[a1];omega)),if_neg U];refine ae.ag.2 ⟨e,rfl,ax,u,?_⟩;have B:0<=g/2^d:=Int.ediv_nonneg F (Int.le_of_lt E);have R:g/2^d<=g:=Int.ediv_le_self _ F;rw[Int.ediv_eq_zero_of_lt B U] at r;simpa using r
  rintro _ ⟨e,rfl,ax,u,r⟩;exact ae.ag.2 ⟨e,rfl,u,by rw[r,V],U⟩
 have B:=fq h;have R:=nV o;have z:aI b*1<=aI b*2^d:=il U (dX (eg b));rw[oa K U,qF K U,dm o];refine ae.aU (P:=λi=>i=(decide (af a≠0),[],())) ?_ ?_
 ·refine ae.steps 0 (λc s=>s=(decide (af a≠0),(b:Int),[],())) rfl (λc s l=>by omega) ?_;rintro _ rfl;dsimp only;rw[bi (az (show¬((b:Int)<ay a) by simp only[a1];omega))];exact ae.ag.2 rfl
 rintro _ rfl;exact ae.ag.2 ⟨[],rfl,aP.nil,rfl,ac⟩
theorem Yd (s:aP d) (t:aP f) (F:d.length<=10000000) (G:f.length<=10000000):ae (By (d,f,())) (λh=>∃a,h=(a,())/\aP a/\af a=af d+af f/\a.length<=d.length+f.length+1):=by
 unfold By;dsimp only;obtain⟨i,E⟩:∃i,i=max d.length f.length:=⟨_,rfl⟩;have u:(if ay f>ay d then ay f else ay d)=(i:Int):=(by simp only[a1];split<;>omega);rw[u];refine ae.aU (P:=λh=>∃c a,h=(c,a,())/\a.length=i/\aP a/\0<=c/\c<=1/\af a+aI i*c=af d+af f) ?_ ?_
 ·refine ae.steps i (λb z=>∃c a,z=(c,(b:Int),a,())/\a.length=b/\aP a/\0<=c/\c<=1/\af a+aI b*c=af (d.take b)+af (f.take b)) ⟨0,[],rfl,rfl,aP.nil,U,U,by simp[af]⟩ ?_ ?_
  ·rintro b _ D ⟨c,a,rfl,j,k,l,o,m⟩;have v:=s.getD b;have w:=t.getD b;obtain⟨g,n,A,B,p⟩:∃g,g=c+d.getD b 0+f.getD b 0/\0<=g/\g<18446744073709551616/\g/4294967296<=1:=⟨_,rfl,U,U,U⟩;dsimp only;rw[bo (aB (U:(b:Int)<(i:Int)))];refine ae.aU (P:=λh=>h=(g/4294967296,a++[g %4294967296],())) ?_ ?_
   ·refine ae.aU (P:=λh=>h=(c+d.getD b 0,a,())) ?_ ?_
    ·simp only[br];refine ae.ite (λe=>?_) λe=>?_
     ·have e:b<d.length:=(by simp only[a1] at e;omega);rw[bQ e];rw[jN e] at v|-;refine ae.ag.2 ?_;rw[b2 (x:=d[b]) U U,b2 U U]
     have e:d.length<=b:=(by simp only[a1] at e;omega);rw[mY e,sm];exact ae.ag.2 rfl
    rintro _ rfl;refine ae.aU (P:=λh=>h=(g,a,())) ?_ ?_
    ·simp only[br];refine ae.ite (λe=>?_) λe=>?_
     ·have e:b<f.length:=(by simp only[a1] at e;omega);rw[bQ e];rw[jN e] at w n;refine ae.ag.2 ?_;rw[b2 (x:=f[b]) U U,b2 U U,n]
     have e:f.length<=b:=(by simp only[a1] at e;omega);rw[mY e,sm] at n;rw[n];exact ae.ag.2 rfl
    rintro _ rfl;dsimp only;rw[dQ (by simp;omega),n7,lS];exact ae.ag.2 rfl
   rintro _ rfl;dsimp only;refine ae.ag.2 ⟨g/4294967296,a++[g %4294967296],by rw[bt U],by simp[j],k.snoc U U,U,p,?_⟩;rw[pi,j,gD,wD,wD];have:=Int.emod_add_mul_ediv g 4294967296;generalize g/4294967296=y at*;generalize g %4294967296=h at*;generalize d.getD b 0=q at*;generalize f.getD b 0=C at*;have r:h=c+q+C-4294967296*y:=U;clear this n A B p;subst r;grind
  rintro _ ⟨c,a,rfl,j,k,l,o,m⟩;dsimp only;rw[bi (az (U:¬((i:Int)<(i:Int))))];rw[List.take_of_length_le U,List.take_of_length_le U] at m;exact ae.ag.2 ⟨c,a,rfl,j,k,l,o,m⟩
 rintro _ ⟨c,a,rfl,j,k,l,o,m⟩;dsimp only;rw[dQ (by simp;omega),jY l U];refine ae.ag.2 ⟨a++[c],rfl,k.snoc l U,?_,by simp;omega⟩;rw[pi,j,m]
def Of (a:Int):dk .u64 a 63=some (a/9223372036854775808):=by have:dk .u64 a 63=some (a.fdiv 9223372036854775808):=rfl;rw[this,zQ _ aa]
theorem NT (t:aP d) (u:aP f) (G:d.length<=10000000) (w:f.length<=d.length) (E:af f<=af d):ae (xY (d,f,())) (λh=>∃a,h=(a,())/\aP a/\af a=af d-af f/\a.length=d.length):=by
 unfold xY;dsimp only;refine ae.aU (P:=λh=>∃a b,h=(a,())/\a.length=d.length/\aP a/\0<=b/\b<=1/\af a-aI d.length*b=af d-af f) ?_ ?_
 ·refine ae.steps d.length (λe A=>∃b a,A=(b,(e:Int),a,())/\a.length=e/\aP a/\0<=b/\b<=1/\af a-aI e*b=af (d.take e)-af (f.take e)) ⟨0,[],rfl,rfl,aP.nil,U,U,by simp[af]⟩ ?_ ?_
  ·rintro e _ o ⟨b,a,rfl,i,j,m,n,l⟩;have F:=t.get o;have x:=u.getD e;obtain⟨c,k,p,q⟩:∃c,c=d[e]-b-f.getD e 0/\-4294967296<=c/\c<4294967296:=⟨_,rfl,U,U⟩;dsimp only;rw[bo (aB (show(e:Int)<ay d by simp only[a1];omega))];refine ae.aU (P:=λh=>h=(-(c/4294967296),a++[c %4294967296],())) ?_ ?_
   ·refine ae.bs (bQ o) ?_;refine ae.aU (P:=λh=>h=(c %18446744073709551616,a,())) ?_ ?_
    ·simp only[br];refine ae.ite (λg=>?_) λg=>?_
     ·have g:e<f.length:=(by simp only[a1] at g;omega);rw[bQ g];rw[jN g] at k x;refine ae.ag.2 ?_;simp only[kw];rw[k];congr 1;omega
     have g:f.length<=e:=(by simp only[a1] at g;omega);rw[mY g] at k;refine ae.ag.2 ?_;simp only[kw];rw[k];congr 1;omega
    rintro _ rfl;dsimp only;rw[dQ (by simp;omega),n7,Of];refine ae.ag.2 ?_;have ax:c %18446744073709551616/9223372036854775808=-(c/4294967296):=U;have z:c %18446744073709551616 %4294967296=c %4294967296:=U;rw[ax,z]
   rintro _ rfl;dsimp only;refine ae.ag.2 ⟨-(c/4294967296),a++[c %4294967296],by rw[bt U],by simp[i],j.snoc U U,U,U,?_⟩;rw[pi,i,gD,gC o,wD];have:=Int.emod_add_mul_ediv c 4294967296;generalize c/4294967296=y at*;generalize c %4294967296=h at*;generalize f.getD e 0=C at*;generalize d[e]=B at*;have r:h=B-b-C-4294967296*y:=U;clear this k p q;subst r;grind
  rintro _ ⟨b,a,rfl,i,j,m,n,l⟩;dsimp only;rw[bi (az (show¬((d.length:Int)<ay d) by simp only[a1];omega))];refine ae.ag.2 ⟨a,b,rfl,i,j,m,n,?_⟩;rw[l,List.take_of_length_le (Nat.le_refl _),List.take_of_length_le w]
 rintro _ ⟨a,b,rfl,i,j,m,n,l⟩;have s:=fq j;have D:=eg d.length;rw[i] at s;have v:b=0:=by
  rcases gZ 0 b with g|g
  ·obtain rfl:b=1:=U;omega
  omega
 subst v;exact ae.ag.2 ⟨a,rfl,j,by rw[<-l];simp,i⟩
theorem YV {i:ad5} (L:aP f) (t:b<f.length) (M:aP d) (Z:b+d.length<c) (Y:c<=100000000) (I:i.length=c) (J:aP i) (P:hk i (b+d.length)) {r:hh->Prop} (K:∀g e,e.length=c->aP e->hk e (b+d.length)->0<=g->g<4294967296->af e+aI (b+d.length)*g=af i+aI b*(f[b]*af d)->r (g,e,())):ae (loop (σ:=oC) (ρ:=hh) (λ(l,j,o,_)=>
 bif decide (j<ay d) then
 (aC f (b:Int)).bind λE=>
 (aC d j).bind λC=>
 rd o (ar ((b:Int)+j)) λD=>
 wr o (ar ((b:Int)+j)) (b3 (aJ (aJ (l+aJ (aJ E*aJ C))+aJ D))) λX=>
 (dk IntKind.u64 (aJ (aJ (l+aJ (aJ E*aJ C))+aJ D)) 32).bind λW=>
 some (.inl (W,aY j,X,())) else
 some (.inr (l,o,()))) (0,0,i,())) r:=by
 refine ae.steps d.length (λa T=>∃g e,T=(g,(a:Int),e,())/\e.length=c/\aP e/\hk e (b+d.length)/\0<=g/\g<4294967296/\af e+aI (b+a)*g=af i+aI b*(f[b]*af (d.take a))) ⟨0,i,rfl,I,J,P,U,U,by simp[af]⟩ ?_ ?_
 ·rintro a _ m ⟨g,e,rfl,ax,k,p,y,z,q⟩;have v:=L.get t;have w:=M.get m;have O:=k.get (n:=b+a) U;have N:=yR v w;obtain⟨h,u,A,B⟩:∃h,h=g+f[b]*d[a]+e[b+a]/\0<=h/\h<18446744073709551616:=⟨_,rfl,U,U⟩;simp only[aB (show(a:Int)<ay d by simp only[a1];omega),cond_true,bQ m,bQ t,aG];have al:ar ((b:Int)+(a:Int))=((b+a:Nat):Int):=(by rw[bm U U];simp);rw[al,jU U];have s:aJ (aJ (g+aJ (aJ f[b]*aJ d[a]))+aJ e[b+a])=h:=by
   rw[b2 (x:=f[b]) U U,b2 (x:=d[a]) U U,b2 (x:=e[b+a]) U U,b2 (x:=f[b]*d[a]) U U,b2 (x:=g+f[b]*d[a]) U U,<-u,b2 A B]
  rw[s,n7,jZ U,lS];refine ae.ag.2 ⟨h/4294967296,e.set (b+a) (h %4294967296),by rw[bt U],by simp[ax],k.set U U,p.Hu _ U,U,U,?_⟩;rw[ln U,(U:b+(a+1)=(b+a)+1),gD,gC m];have G:=hA h 4294967296;rw[sj] at q|-;generalize h/4294967296=R at*;generalize h %4294967296=S at*;generalize e[b+a]=Q at*;generalize d[a]=V at*;generalize f[b]=F at*;have H:S=g+F*V+Q-4294967296*R:=U;clear G s u A B N v w O;subst H;grind
 rintro _ ⟨g,e,rfl,ax,k,p,y,z,q⟩;simp only[az (show¬((d.length:Int)<ay d) by simp only[a1];omega),cond_false];refine ae.ag.2 (K g e ax k p y z ?_);rw[q,dm (a2 _)]
theorem YC (s:aP f) (t:aP d) (v:f.length<=10000000) (w:d.length<=10000000):ae (BA (f,d,())) (λh=>∃a,h=(a,())/\aP a/\af a=af f*af d/\a.length=f.length+d.length):=by
 unfold BA;dsimp only;have r:ar (ay f+ay d)=((f.length+d.length:Nat):Int):=(by simp only[a1];rw[bm U U];simp);rw[r,fU U,Option.bind_some];refine ae.aU (P:=λh=>∃a,h=(a,())/\a.length=f.length+d.length/\aP a/\af a=af f*af d) ?_ ?_
 ·refine ae.steps f.length (λb u=>∃a,u=((b:Int),a,())/\a.length=f.length+d.length/\aP a/\hk a (b+d.length)/\af a=af (f.take b)*af d) ⟨_,rfl,ac,aP.ky _,hk.ky _ _,by simp[af,n6]⟩ ?_ ?_
  ·rintro b _ q ⟨a,rfl,ax,g,l,p⟩;dsimp only;rw[bo (aB (show(b:Int)<ay f by simp only[a1];omega))];refine ae.aU (P:=λh=>∃e c,h=(e,c,())/\c.length=f.length+d.length/\aP c/\hk c (b+d.length)/\0<=e/\e<4294967296/\af c+aI (b+d.length)*e=af a+aI b*(f[b]*af d)) (YV s q t U U ax g l λe c m n i j k o=>⟨e,c,rfl,m,n,i,j,k,o⟩) ?_;rintro _ ⟨e,c,rfl,m,n,i,j,k,o⟩;have al:ar ((b:Int)+ay d)=((b+d.length:Nat):Int):=(by simp only[a1];rw[bm U U];simp);dsimp only;rw[al,jY j k,jZ U];refine ae.ag.2 ⟨c.set (b+d.length) e,by rw[bt U],by simp[m],n.set j k,?_,?_⟩
   ·rw[(U:b+1+d.length=b+d.length+1)];exact i.set _
   rw[ln U,i _ (a2 _) U,gC q,Int.sub_zero,o,p];grind
  rintro _ ⟨a,rfl,ax,g,l,p⟩;dsimp only;rw[bi (az (show¬((f.length:Int)<ay f) by simp only[a1];omega))];refine ae.ag.2 ⟨a,rfl,ax,g,?_⟩;rw[p,List.take_of_length_le (Nat.le_refl _)]
 rintro _ ⟨a,rfl,ax,g,l⟩;exact ae.ag.2 ⟨a,rfl,g,l,ax⟩
section
section
variable {α B:Type}
def Hd {d c f:List α} {k:Nat} (e:k<c.length) (g:a=((d.length+k:Nat):Int)) (b:α->Option B):rd (d++(c++f)) a b=b c[k]:=by subst g;refine Yl U ?_ b;rw[db,oh U,oq,nt e,a9 e]
def aau {b c d:List α} {k:Nat} (g:k<c.length) (h:a=((b.length+k:Nat):Int)) (f:α) (e:List α->Option B):wr (b++(c++d)) a f e=e (b++(c.set k f++d)):=by subst h;rw[jZ (by simp;omega),zt g]
end
theorem ZP {A w C v:ad5} {g:Int} (I:aP v) (J:aP w) (bl:w.length=v.length+1) (av:A.length+w.length<=100000000) (Y:0<=g/\g<4294967296):ae (xZ (A++(w++C),v,(A.length:Int),g,())) (λf=>(af w<g*af v/\f=(A++(w++C),false,()))\/(∃p,g*af v<=af w/\f=(A++(p++C),true,())/\p.length=w.length/\aP p/\af p=af w-g*af v)):=by
 unfold xZ;dsimp only;have R:aY (ay v)=((v.length+1:Nat):Int):=(by simp only[a1];exact bt U);rw[R,fU U,Option.bind_some];have a3:=dH I;have a0:=dH J;refine ae.aU (P:=λf=>∃c b,f=(c,A++(w++C),b,())/\b.length=v.length+1/\aP b/\0<=c/\c<=1/\af b-aI (v.length+1)*c=af w-g*af v) ?_ ?_
 ·refine ae.steps (v.length+1) (λa z=>∃c h b,z=(c,h,(a:Int),A++(w++C),b,())/\b.length=v.length+1/\aP b/\hk b a/\0<=h/\h<4294967296/\(a=v.length+1->h=0)/\0<=c/\c<=1/\af b-aI a*(c+h)=af (w.take a)-g*af (v.take a)) ⟨0,0,List.replicate (v.length+1) 0,rfl,ac,aP.ky _,hk.ky _ _,U,U,λ_=>rfl,U,U,by simp[af,n6]⟩ ?_ ?_
  ·rintro a _ Z ⟨c,h,b,rfl,m,j,o,B,q,D,E,F,r⟩;have t:=I.getD a;have ad:=J.get (n:=a) U;have H:=yR Y t;obtain⟨e,l,u,y⟩:∃e,e=h+g*v.getD a 0/\0<=e/\e<18446744073709551616:=⟨_,rfl,U,U⟩;obtain⟨d,G,M,N⟩:∃d,d=w[a]-c-e %4294967296/\-4294967296<=d/\d<4294967296:=⟨_,rfl,U,U⟩;dsimp only;rw[bo (aB (show(a:Int)<=ay v by simp only[a1];omega))];refine ae.aU (P:=λf=>f=(-(d/4294967296),e/4294967296,A++(w++C),b.set a (d %4294967296),())) ?_ ?_
   ·refine ae.aU (P:=λf=>f=(e,A++(w++C),b,())) ?_ ?_
    ·rw[br];refine ae.ite (λi=>?_) λi=>?_
     ·have i:a<v.length:=(by simp only[a1] at i;omega);rw[bQ i];rw[jN i] at t l H;refine ae.ag.2 ?_;rw[b2 (x:=v[a]) U U,b2 (x:=g*v[a]) U U,<-l,b2 u y]
     have i:v.length<=a:=(by simp only[a1] at i;omega);rw[mY i] at l;refine ae.ag.2 ?_;rw[l];simp
    rintro _ rfl;dsimp only;have al:ar ((a:Int)+(A.length:Int))=((A.length+a:Nat):Int):=(by rw[bm U U];omega);have S:aJ (aJ (aJ w[a]-c)-dr IntKind.u64 e 4294967295)=d %18446744073709551616:=(by rw[and_low32 u y,kw,kw,kw,G];omega);rw[Hd (k:=a) U al,lS,Option.bind_some,S,jZ U,Of,Option.bind_some,n7];refine ae.ag.2 ?_;have ax:d %18446744073709551616/9223372036854775808=-(d/4294967296):=U;have an:d %18446744073709551616 %4294967296=d %4294967296:=U;rw[ax,an]
   rintro _ rfl;dsimp only;refine ae.ag.2 ⟨-(d/4294967296),e/4294967296,b.set a (d %4294967296),by rw[bt U],by simp[m],j.set U U,o.set _,U,U,?_,U,U,?_⟩
   ·intro bd;rw[mY U] at l;omega
   rw[ln U,o a (a2 _) U,gD,gC (U:a<w.length),wD];have T:=hA d 4294967296;have f2:=hA e 4294967296;generalize d/4294967296=O at*;generalize d %4294967296=Q at*;generalize e/4294967296=am at*;generalize e %4294967296=K at*;generalize w[a]=ap at*;generalize v.getD a 0=L at*;have V:K=h+g*L-4294967296*am:=U;have f4:Q=ap-c-K-4294967296*O:=U;clear T f2 G l M N u y H t ad;rw[f4,V];grind
  rintro _ ⟨c,h,b,rfl,m,j,o,B,q,D,E,F,r⟩;dsimp only;rw[bi (az (show¬(((v.length+1:Nat):Int)<=ay v) by simp only[a1];omega))];have X:=D rfl;subst X;rw[List.take_of_length_le U,List.take_of_length_le U,Int.add_zero] at r;exact ae.ag.2 ⟨c,b,rfl,m,j,E,F,r⟩
 rintro _ ⟨c,b,rfl,m,j,o,B,q⟩;have ab:=fq j;have a4:=dH j;have l:=eg (v.length+1);rw[m] at ab;dsimp only;rw[b0];by_cases s:c=0
 ·rw[aB s];subst s;rw[Int.mul_zero] at q;refine ae.aU (P:=λf=>f=(A++(b++C),())) ?_ ?_
  ·refine ae.steps (v.length+1) (λa z=>z=((a:Int),A++((b.take a++w.drop a)++C),b,())) rfl ?_ ?_
   ·rintro a _ Z rfl;have al:ar ((a:Int)+(A.length:Int))=((A.length+a:Nat):Int):=(by rw[bm U U];omega);dsimp only;rw[bo (aB (show(a:Int)<=ay v by simp only[a1];omega)),jU U,aau (k:=a) (by simp;omega) al,bt U];refine ae.ag.2 ?_;show(_,A++(List.set (b.take a++w.drop a) a b[a]++C),b,())=(_,A++((b.take (a+1)++w.drop (a+1))++C),b,());congr 4;have W:b.take (a+1)=b.take a++[b[a]]:=(by rw[List.take_add_one,List.getElem?_eq_getElem U];rfl);rw[List.set_append_right _ _ (by simp;omega),W,List.length_take,Nat.min_eq_left U,Nat.sub_self,List.drop_eq_getElem_cons (U:a<w.length),List.set_cons_zero,List.append_assoc];rfl
   rintro _ rfl;dsimp only;rw[bi (az (show¬(((v.length+1:Nat):Int)<=ay v) by simp only[a1];omega))];refine ae.ag.2 ?_;show(A++((b.take (v.length+1)++w.drop (v.length+1))++C),())=_;rw[List.take_of_length_le U,List.drop_eq_nil_of_le U,List.append_nil]
  rintro _ rfl;exact ae.ag.2 (.inr ⟨b,U,rfl,U,j,U⟩)
 rw[az s];obtain rfl:c=1:=U;refine ae.ag.2 (.inl ⟨U,rfl⟩)
theorem Yn {n:Nat} (J:aP d) (ab:af d=a) (i0:d.length=n+1) (gl:a<aI (n+1)) (go:1<=d[n]) (d4:aP f) (d1:af f=e) (ds:f.length=c) (ic:c=b+(n+1)) (gi:c<=10000000) (id:1<=b) (d3:af (f.drop b)<a) (u:ad5) (gs:u.length=n+1) {Z:iD->Prop} (d0:∀o j,o.length=b->aP o->j.length=c->aP j->af j+a*af o=e->af j<a->Z (j,o,())):ae (loop (σ:=(Int×aN×aN×Unit)) (ρ:=iD) (λ(z,L,a4,_)=>
 bif decide (z>=0) then
 rd L (ar (z+ay u)) λf1=>
 (gN IntKind.u64 (aJ f1) 32).bind λf2=>
 rd L (ar (ar (z+ay u)-1)) λf3=>
 (aC d (ar (ay u-1))).bind λf4=>
 (gL IntKind.u64 (eL IntKind.u64 f2 (aJ f3)) (aJ f4)).bind λce=>
 (loop (σ:=(Int×aN×aN×Unit)) (ρ:=(Int×aN×aN×Unit)) (λ(M,ft,bd,_)=>
 (xZ (ft,d,z,M,())).bind λ(a3,ex,_)=>
  bif !ex then
 some (.inl (aJ (M-1),a3,bd,())) else
 some (.inr (M,a3,bd,()))) ((if 4294967295<ce then 4294967295 else ce),L,a4,())).bind λ(c1,fz,em,_)=>
 wr em z (b3 c1) λf5=>
 some (.inl (ar (z-1),fz,f5,())) else
 some (.inr (L,a4,()))) (((b:Int)-1),f,List.replicate b (0:Int),())) Z:=by
 have i2:af d=af (d.take n)+aI n*d[n]:=(by rw[<-gC U,dm U]);have is:=dH (J.take n);have d5:=fq (J.take n);rw[dZ,fu U] at d5;have d6:=J.get (n:=n) U;have I:0<a:=(by have:=oc (eg n) (U:0<d[n]);omega);refine ae.steps b (λs F=>∃o j,F=(((b:Nat):Int)-1-s,j,o,())/\o.length=b/\aP o/\(∀i,i<b-s->(d2:i<o.length)->o[i]=0)/\j.length=c/\aP j/\af j+a*af o=e/\af (j.drop (b-s))<a) ⟨List.replicate b 0,f,ac,ac,aP.ky _,ac,ds,d4,by rw[n6,d1];omega,d3⟩ ?_ ?_
 ·rintro s _ hv ⟨o,j,rfl,ax,W,X,Y,B,G,H⟩;obtain⟨i,d2⟩:∃i,b=i+1+s:=⟨b-1-s,U⟩;have al:((b:Nat):Int)-1-(s:Int)=(i:Int):=U;rw[(U:b-s=i+1)] at H;obtain⟨r,N⟩:∃r,r=j.take i:=⟨_,rfl⟩;obtain⟨h,T⟩:∃h,h=(j.drop i).take (n+2):=⟨_,rfl⟩;obtain⟨p,Q⟩:∃p,p=j.drop (i+(n+2)):=⟨_,rfl⟩;have O:r.length=i:=(by rw[N,dZ];omega);have V:h.length=n+2:=(by rw[T,dZ,j5];omega);have S:j=r++(h++p):=by
   rw[N,T,Q,<-pt,kW,kW]
  have ge:p.length=c-(i+(n+2)):=(by rw[Q,j5,Y]);have el:aP r:=(by rw[N];exact B.take i);have E:aP h:=(by rw[T];exact(B.drop i).take _);have a0:aP p:=(by rw[Q];exact B.drop _);have gt:af (j.drop i)=af h+aI (n+2)*af p:=(by rw[S,pq U,pu U,hC,ku,V]);have gv:af (j.drop i)=j[i]+4294967296*af (j.drop (i+1)):=kv U;have i3:=B.get (n:=i) U;have c2:=dH a0;have gf:0<=aI (n+2)*af p:=lW (dX (eg _)) c2;have ib:af (j.drop i)<4294967296*a:=U;have d7:=dH E;have dl:af p=0:=by
   rcases gZ 0 (af p) with q|q
   ·exfalso;have:=il (U:1<=af p) (dX (eg (n+2)));have f9:aI (n+2)=4294967296*aI (n+1):=gD (n+1);omega
   omega
  have R:0<=af h/a:=Int.ediv_nonneg d7 U;have am:af h/a<4294967296:=Int.ediv_lt_of_lt_mul I U;have hc:=Int.emod_add_mul_ediv (af h) a;have ii:=Int.emod_lt_of_pos (af h) I;have io:=Int.emod_nonneg (af h) (U:a≠0);have an:=E.get (n:=n+1) U;have d9:=E.get (n:=n) U;have i1:ar ((i:Int)+ay u)=((r.length+(n+1):Nat):Int):=(by simp only[a1];rw[bm U U];omega);have ed:ar (ar ((i:Int)+ay u)-1)=((r.length+n:Nat):Int):=(by rw[i1,bm U U];omega);have ek:ar (ay u-1)=((n:Nat):Int):=(by simp only[a1];rw[bm U U];omega);obtain⟨fn,fp⟩:=DJ (x:=h[n+1]) (y:=h[n]) an d9;obtain⟨fs,i8⟩:=Dh (x:=4294967296*h[n+1]+h[n]) (y:=d[n]) ⟨U,U⟩ U;have hs:af h/a<=(4294967296*h[n+1]+h[n])/d[n]:=(by rw[Int.le_ediv_iff_mul_le U];have f6:af h=af (h.take n)+aI n*(4294967296*h[n+1]+h[n]):=(by have:=DT (l:=h) (m:=n) V;rw[this];grind);have ci:=fq (E.take n);rw[List.length_take,Nat.min_eq_left U] at ci;have f7:aI n*(af h/a*d[n])<=af h:=(by have cs:af h/a*(aI n*d[n])<=af h/a*a:=Int.mul_le_mul_of_nonneg_left U R;have f8:aI n*(af h/a*d[n])=af h/a*(aI n*d[n]):=(by grind);rw[Int.mul_comm (af h/a) a] at cs;omega);have co:aI n*(af h/a*d[n])<aI n*(4294967296*h[n+1]+h[n]+1):=(by rw[Int.mul_add (aI n),Int.mul_one];omega);have:=Int.lt_of_mul_lt_mul_left co (Int.le_of_lt (eg n));omega);dsimp only;rw[al,bo (aB (U:(i:Int)>=0))]
  conv=>arg 1;rw[S]
  rw[Hd (k:=n+1) U i1];refine ae.bs (by rw[b2 an.1 U];exact fn) ?_;rw[Hd (k:=n) U ed];refine ae.bs (by rw[ek];exact bQ U) ?_;refine ae.bs (by rw[fp,b2 d6.1 U];exact fs) ?_;refine ae.aU (P:=λeq=>∃t,eq=(af h/a,r++(t++p),o,())/\t.length=n+2/\aP t/\af t=af h %a) ?_ ?_
  ·have hi:0<=(4294967296*h[n+1]+h[n])/d[n]:=kT U U;refine ae.loop (λF=>∃q,F=(q,r++(h++p),o,())/\af h/a<=q/\q<4294967296) (λF=>F.1.toNat) ⟨_,rfl,by split<;>omega,by split<;>omega⟩ ?_;rintro _ ⟨q,rfl,gc,cv⟩;have bl:=ZP (A:=r) (w:=h) (C:=p) (v:=d) (g:=q) J E U U ⟨U,cv⟩;rw[O] at bl;refine ae.aU bl ?_;rintro _ (⟨D,rfl⟩|⟨t,D,rfl,ap,av,K⟩)
   ·have hr:af h/a<q:=by
     rw[ab] at D;exact pp I D
    refine ae.ag.2 ⟨⟨q-1,by rw[b2 U U],U,U⟩,?_⟩;show(aJ (q-1)).toNat<q.toNat;rw[b2 U U];omega
   rw[ab] at D K;have hw:q<=af h/a:=(Int.le_ediv_iff_mul_le I).2 D;have ad:q=af h/a:=U;refine ae.ag.2 ⟨t,by rw[ad],U,av,?_⟩;rw[K,ad,g3];omega
  rintro _ ⟨t,rfl,fT,f0,bB⟩;dsimp only;rw[jY R am,jZ U];refine ae.ag.2 ⟨o.set i (af h/a),r++(t++p),?_,by simp[ax],W.set R am,?_,by simp;omega,aP.append.2 ⟨el,aP.append.2 ⟨f0,a0⟩⟩,?_,?_⟩
  ·rw[bm U U];congr 1;omega
  ·intro ap av K;rw[sx U];exact X ap U (by simpa using K)
  ·rw[ln U,X i U U,ku,ku,O,bB];rw[S,ku,ku,O,V] at G;rw[fT];have d8:af h=a*(af h/a)+af h %a:=U;exact JK G d8
  rw[(U:b-(s+1)=i),pq U,pu U,hC,ku,dl,bB];omega
 rintro _ ⟨o,j,rfl,ax,W,X,Y,B,G,H⟩;have al:¬(((b:Nat):Int)-1-(b:Int)>=0):=U;simp only[az al,cond_false];rw[Nat.sub_self,lv] at H;exact ae.ag.2 (d0 o j ax W Y B G H)
end
def UX {n:Nat} (f:aP d) (m:dE d) (u:d.length=n+1):∃c:Nat,c<=31/\s6 (d[n],())=some ((c:Int),())/\af d*2^c<aI (n+1)/\2147483648*aI n<=af d*2^c:=by
 have l:=f.get (n:=n) U;have q:d[n]≠0:=m _ (by rw[List.getLast?_eq_getElem?,a9 U];congr 2;omega);have h:af d=af (d.take n)+aI n*d[n]:=(by rw[<-gC U,dm U]);have r:=dH (f.take n);have j:=fq (f.take n);rw[dZ,fu U] at j;generalize d[n]=v at*;obtain⟨a,rfl⟩:=eH l.1;have i:0<a:=U;have t:aA a<=32:=dy.2 U;have s:=oH i;obtain⟨g,o⟩:=u9 i;obtain⟨b,k⟩:∃b,aA a=b+1:=⟨aA a-1,U⟩;refine⟨32-aA a,U,?_,?_,?_⟩
 ·unfold s6;refine aq (F9 (n:=a) U) ?_;show some (ar (32-(aA a:Int)),())=_;rw[bm U U];congr 2;omega
 ·have al:af d<aI n*2^aA a:=by
   have:aI n*((a:Int)+1)<=aI n*2^aA a:=il (by rw[<-i5];omega) (dX (eg _));have p:aI n*((a:Int)+1)=aI n*(a:Int)+aI n:=(by rw[Int.mul_add,Int.mul_one]);show af d<_;rw[h];show af (d.take n)+aI n*(a:Int)<_;omega
  have e:af d*2^(32-aA a)<aI n*2^aA a*2^(32-aA a):=sp al (iJ _);rw[jy,<-jz,(U:aA a+(32-aA a)=32)] at e;rw[gD];have:aI n*2^32=4294967296*aI n:=(by rw[g3];rfl);omega
 have al:aI n*2^b<=af d:=(by have:aI n*2^b<=aI n*(a:Int):=il (by rw[<-i5];rw[k] at g;simp only[uQ] at g;omega) (dX (eg _));rw[h];show _<=af (d.take n)+aI n*(a:Int);omega);have e:aI n*2^b*2^(32-aA a)<=af d*2^(32-aA a):=kU al (dX (iJ _));rw[jy,<-jz,(U:b+(32-aA a)=31)] at e;have:aI n*2^31=2147483648*aI n:=(by rw[g3];rfl);omega
def ZO (a:aP d) (f:b<=d.length) (g:af d<aI b):af (d.take b)=af d:=by
 have e:=nj d b f;have h:=dH (a.drop b);have i:=dH (a.take b);rcases gZ 0 (af (d.drop b)) with c|c
 ·exfalso;have:=il (U:1<=af (d.drop b)) (dX (eg b));omega
 rw[(U:af (d.drop b)=0)] at e;omega
theorem Yo (l:aP f) (m:aP d) (S:dE f) (u:dE d) (d1:f.length<=1000000) (d2:d.length<=1000000) (I:d≠[]):Bz (f,d,())=some (bR (af f/af d).toNat,bR (af f %af d).toNat,()):=by
 unfold Bz;refine ae.eq_iff.1 ?_;have G:=dH l;have ab:0<af d:=(by have:=dH m;have:af d≠0:=λW=>I (dE.zero m u W);omega);refine ae.bs (Nr l m S u U U) ?_;dsimp only;rw[br];refine ae.ite (λw=>?_) λw=>?_
 ·have t:af f<af d:=Jr.1 w;refine ae.ag.2 ?_;rw[oa G t,qF G t];show(([]:ad5),f,())=(bR 0,bR (af f).toNat,());rw[Fh,<-dE.eq l S]
 have c2:af d<=af f:=Int.not_lt.1 (mt Jr.2 w);obtain⟨b,J⟩:∃b,d.length=b+1:=(by have:=zU.2 I;exact⟨d.length-1,U⟩);have al:ar (ay d-1)=((b:Nat):Int):=(by simp only[a1];rw[bm U U];omega);obtain⟨c,ci,co,R,d5⟩:=UX m u J;have dl:b+1<=f.length:=by
  rcases bg f.length (b+1) with j|j
  ·have:=ph l m u U;omega
  exact j
 have C:=iJ c;refine ae.bs (y:=d[b]) (by rw[al];exact bQ U) (ae.bs co ?_);refine ae.aU (Hm l U (n:=c) U) ?_;rintro _ ⟨v,rfl,O,L,K⟩;refine ae.aU (Hm m U (n:=c) U) ?_;rintro _ ⟨T,rfl,Q,N,a3⟩;rw[(U:c/32=0),Nat.zero_add] at K a3;have Y:ay d=((b+1:Nat):Int):=(by simp only[a1];omega);dsimp only;refine ae.bs (y:=(0,b+1)) ?_ ?_
 ·rw[Y,aG,rR,aG,tJ ⟨bE _,U⟩,aG,G2 U];rfl
 obtain⟨h,M⟩:∃h,h=(T.take (b+1)).drop 0:=⟨_,rfl⟩;have D:h=T.take (b+1):=(by rw[M,lv]);have bn:aP h:=(by rw[D];exact Q.take _);have ap:af h=af d*2^c:=(by rw[D,ZO Q U (by rw[N];exact R),N]);have a4:h.length=b+1:=(by rw[D,dZ];omega);have a0:1<=h[b]:=by
  have p:af h=af (h.take b)+aI b*h[b]:=(by rw[<-gC U,dm U]);have k:=fq (bn.take b);rw[dZ,fu U] at k;have ds:=eg b;rcases gZ h[b] 1 with j|j
  ·exfalso;have:h[b]=0:=(by have:=bn.get (n:=b) U;omega);rw[this] at p;omega
  exact j
 dsimp only;rw[<-M];refine ae.bs (y:=(h,v,())) ?_ ?_
 ·rw[bi];rw[dB];exact az (by simp only[a1];omega)
 obtain⟨g,av⟩:∃g,f.length+1=g+(b+1):=⟨f.length+1-(b+1),U⟩;have E:ar (ay f-ay d)=(g:Int)-1:=(by simp only[a1];rw[bm U U];omega);have X:aY (ar (ay f-ay d))=((g:Nat):Int):=(by rw[E];unfold aY;rw[wrap64 U U];omega);dsimp only;refine ae.bs (y:=g) (by rw[X];exact fU U) ?_;have t:af (v.drop g)<af d*2^c:=(by have x:=nj v g U;have F:=dH (O.take g);rw[L] at x;have p:af f*2^c<aI f.length*2^c:=Int.mul_lt_mul_of_pos_right (fq l) C;have z:aI f.length=aI g*aI b:=(by rw[<-sj];congr 1;omega);have k:aI g*af (v.drop g)<aI g*(aI b*2^c):=(by rw[<-Int.mul_assoc,<-z];omega);have s:=Int.lt_of_mul_lt_mul_left k (Int.le_of_lt (eg g));have c1:aI b*2^c<=aI b*2147483648:=Int.mul_le_mul_of_nonneg_left (ue ci) (Int.le_of_lt (eg _));omega);rw[E];refine ae.aU (P:=λV=>∃e i,V=(i,e,())/\e.length=g/\aP e/\i.length=f.length+1/\aP i/\af i+af d*2^c*af e=af f*2^c/\af i<af d*2^c) (Yn bn ap a4 R a0 O L K av U U t d J λe i x F p z k s=>⟨e,i,rfl,x,F,p,z,k,s⟩) ?_;rintro _ ⟨e,i,rfl,ax,ce,d6,o,k,s⟩;have d0:=dH o;have H:af i=2^c*(af f-af d*af e):=(by have cs:af d*2^c*af e=2^c*(af d*af e):=(by grind);have cv:2^c*(af f-af d*af e)=2^c*af f-2^c*(af d*af e):=Int.mul_sub ..;rw[Int.mul_comm (af f)] at k;omega);have ad:0<=af f-af d*af e:=by
  rcases gZ (af f-af d*af e) 0 with j|j
  ·have:=Int.mul_neg_of_pos_of_neg C j;omega
  exact j
 have am:af f-af d*af e<af d:=(by have:2^c*(af f-af d*af e)<2^c*af d:=(by rw[<-H,Int.mul_comm (2^c)];exact s);exact Int.lt_of_mul_lt_mul_left this (Int.le_of_lt C));have an:af i/2^c=af f-af d*af e:=(by rw[H];exact Int.mul_ediv_cancel_left _ U);obtain⟨Z,f2⟩:=Di (A:=af f) (B:=af d) (q:=af e) (r:=af f-af d*af e) ab U ad am;dsimp only;refine ae.bs (zm o U) ?_;dsimp only;refine ae.aU (Hn (a:=fY i) (n:=c) (HM i) (by have:=OF o;omega) U) ?_;rintro _ ⟨bd,rfl,bl,bB,d3⟩;have d4:=OF o;dsimp only;refine ae.bs (zm ce U) (ae.bs (zm bl U) (ae.ag.2 ?_));show(fY e,fY bd,())=_;rw[fY,fY,bB,HN o,an,Z,f2]
def zc {x y:Int} (t:aA x.natAbs<=3000000) (u:aA y.natAbs<=3000000):oO (aM x,aM y,())=some (aM (x+y),()):=by
 obtain⟨c,l,z⟩:=gq t;obtain⟨d,m,A⟩:=gq u;unfold oO;dsimp only;refine ae.eq_iff.1 ?_;refine ae.bs (r6 c l U) (ae.bs (r6 d m U) ?_);dsimp only;have q:=gH x;have r:=gH y;have v:(aM x).1=decide (x<0):=rfl;have w:(aM y).1=decide (y<0):=rfl;rw[v,w];by_cases k:(decide (x<0)==decide (y<0))=true
 ·rw[bo k];refine ae.aU (Yd c d U U) ?_;rintro _ ⟨h,rfl,i,j,s⟩;refine ae.bs (r5 i (by show h.length<=_;omega) j) (ae.ag.2 ?_);dsimp only;congr 2;have:decide (x<0)=decide (y<0):=(by simpa using k);have e:x<0↔y<0:=(by simpa using this);rw[q,r];by_cases a:x<0
  ·rw[ai (aB a)];have:=e.1 a;omega
  rw[ah (by simpa using a)];have:=mt e.2 a;omega
 rw[bi (by simpa using k)];have e:¬(x<0↔y<0):=(by simpa using k);refine ae.bs (Nr c d l m U U) ?_;dsimp only;rw[br];refine ae.ite (λn=>?_) λn=>?_
 ·have p:=q2.1 n;have o:(aM y).2.1.length<=(aM x).2.1.length:=by
   rcases bg (aM x).2.1.length (aM y).2.1.length with g|g
   ·have:=ph c d m g;omega
   exact g
  refine ae.aU (NT c d U o p) ?_;rintro _ ⟨h,rfl,i,j,s⟩;refine ae.bs (r5 i (by show h.length<=_;omega) j) (ae.ag.2 ?_);dsimp only;congr 2;rw[q,r] at*;by_cases a:x<0
  ·rw[ai (aB a)];have:¬y<0:=λb=>e ⟨λ_=>b,λ_=>a⟩;omega
  rw[ah (by simpa using a)];have:y<0:=Decidable.byContradiction λb=>e ⟨λf=>absurd f a,λf=>absurd f b⟩;omega
 have p:af (aM x).2.1<af (aM y).2.1:=Int.not_le.1 (mt q2.2 n);have o:(aM x).2.1.length<=(aM y).2.1.length:=by
  rcases bg (aM y).2.1.length (aM x).2.1.length with g|g
  ·have:=ph d c l g;omega
  exact g
 refine ae.aU (NT d c U o (Int.le_of_lt p)) ?_;rintro _ ⟨h,rfl,i,j,s⟩;refine ae.bs (r5 i (by show h.length<=_;omega) j) (ae.ag.2 ?_);dsimp only;congr 2;rw[q,r] at*;by_cases a:x<0
 ·have b:¬y<0:=λb=>e ⟨λ_=>b,λ_=>a⟩;rw[ah (by simpa using b)];omega
 have b:y<0:=Decidable.byContradiction λb=>e ⟨λf=>absurd f a,λf=>absurd f b⟩;rw[ai (aB b)];omega
def NS (c:aA a.natAbs<=3000000) (b:aA e.natAbs<=3000000):vB (aM a,aM e,())=some (aM (a-e),()):=by unfold vB;refine aq (NK b) ?_;dsimp only;exact aq (zc c (by rw[Int.natAbs_neg];exact b)) (by rw[<-Int.sub_eq_add_neg])
theorem NH {x y:Int} (h:aA x.natAbs<=3000000) (i:aA y.natAbs<=3000000):xV (aM x,aM y,())=some (aM (x*y),()):=by
 obtain⟨d,f,m⟩:=gq h;obtain⟨e,g,n⟩:=gq i;unfold xV;dsimp only;refine ae.eq_iff.1 ?_;refine ae.bs (r6 d f U) (ae.bs (r6 e g U) ?_);dsimp only;refine ae.aU (YC d e U U) ?_;rintro _ ⟨j,rfl,k,l,o⟩;refine ae.bs (r5 k (by show j.length<=_;omega) l) (ae.ag.2 ?_);dsimp only;rw[gH,gH];congr 2;show(if(!(decide (x<0)==decide (y<0)))=true then _ else _)=_;rcases Int.lt_or_le x 0 with b|b<;>rcases Int.lt_or_le y 0 with c|c
 ·rw[aB b,aB c];have al:(x.natAbs:Int)=-x:=U;have a:(y.natAbs:Int)=-y:=U;rw[al,a];simp<;>grind
 ·rw[aB b,az (U:¬y<0)];have al:(x.natAbs:Int)=-x:=U;have a:(y.natAbs:Int)=y:=U;rw[al,a];simp<;>grind
 ·rw[aB c,az (U:¬x<0)];have al:(x.natAbs:Int)=x:=U;have a:(y.natAbs:Int)=-y:=U;rw[al,a];simp<;>grind
 rw[az (U:¬y<0),az (U:¬x<0)];have al:(x.natAbs:Int)=x:=U;have a:(y.natAbs:Int)=y:=U;rw[al,a];simp
def Dr {n:Int} (c:-9223372036854775808<=n) (d:n<=9223372036854775807):pW (n,())=some (aM n,()):=by
 unfold pW;dsimp only;obtain⟨a,e,f,g⟩:∃a:Int,a=n.natAbs/\0<=a/\a<=9223372036854775808:=⟨_,rfl,U,U⟩;refine aq (y:=(a,(false,([],())),())) ?_ ?_
 ·rw[br];split
  ·rename_i b;have al:aY n=n+1:=(by unfold aY;exact wrap64 U U);rw[al,bm U U,b2 (x:=0-(n+1)) U U,b2 U U];congr 2;omega
  rename_i b;rw[b2 U U];congr 2;omega
 dsimp only;rw[lS,Option.bind_some,n7 a,jY (x:=a/4294967296) U U];refine aq (zh (aP.cons.2 ⟨⟨U,U⟩,aP.cons.2 ⟨⟨U,U⟩,aP.nil⟩⟩) ac) ?_;dsimp only;congr 2;congr 1;unfold fj;simp only[af];by_cases b:n<0
 ·simp[b];omega
 simp[b];omega
def zk {z:Int} {n:Nat} (b:aA z.natAbs<=3000000) (i:n<=10000000):k1 (aM z,(n:Int),())=some (aM (z*2^n),()):=by
 obtain⟨d,g,h⟩:=gq b;unfold k1;dsimp only;refine ae.eq_iff.1 ?_;refine ae.bs (wu b) ?_;dsimp only;rw[bo (aB (U:(n:Int)>=0))];refine ae.aU (Hm d U (n:=n) U) ?_;rintro _ ⟨e,rfl,f,c,j⟩;rw[gH] at c;refine ae.bs (r5 f (by show e.length<=_;omega) c) (ae.ag.2 ?_);dsimp only;congr 2;show(if decide (z<0)=true then _ else _)=_;by_cases a:z<0
 ·rw[ai (aB a),<-Int.neg_mul];congr 1;omega
 rw[ah (by simpa using a)];congr 1;omega
def NR {z:Int} {n:Nat} (i:aA z.natAbs<=2900000) (q:n<=10000000) (r:0<n):k1 (aM z,-(n:Int),())=some (aM (z/2^n),()):=by
 obtain⟨e,l,o⟩:=gq (z:=z) U;have h:=iJ n;unfold k1;dsimp only;refine ae.eq_iff.1 ?_;refine ae.bs (wu U) ?_;dsimp only;have al:ar (0- -(n:Int))=(n:Int):=(by rw[bm U U];omega);rw[bi (az (U:¬(-(n:Int)>=0))),al];refine ae.aU (Hn e U (n:=n) U) ?_;rintro _ ⟨u,rfl,j,d,v⟩;rw[gH] at d|-;dsimp only;refine ae.bs (r5 j U d) ?_;dsimp only;have k:(aM z).1=decide (z<0):=rfl;rw[k];have s:0<=(z.natAbs:Int)/2^n:=Int.ediv_nonneg U U;have t:(z.natAbs:Int)/2^n<=z.natAbs:=Int.ediv_le_self _ U;have a:=LN (m:=z.natAbs) h U;refine ae.bs (y:=((false,([],())),aM (z/2^n),())) ?_ (ae.ag.2 rfl);by_cases c:z<0
 ·rw[aB c];rw[(U:-(z.natAbs:Int)=z)] at a;by_cases b:(z.natAbs:Int) %2^n=0
  ·rw[az (show¬((z.natAbs:Int) %2^n≠0) fromλf=>f b)];refine aq rfl ?_;dsimp only[cond_false];rw[if_pos b] at a;rw[if_pos rfl,a]
  rw[aB (show(z.natAbs:Int) %2^n≠0 from b)];refine aq rfl ?_;dsimp only[cond_true];rw[if_neg b] at a;refine aq (Dr aa aa) ?_;dsimp only;have g:aA (-((z.natAbs:Int)/2^n)).natAbs<=3000000:=(by rw[dy];have:=dy.1 i;have p:=M7 2900000 3000000 aa;omega);rw[if_pos rfl];refine aq (NS g aa) ?_;rw[a];dsimp only;congr 4;omega
 rw[az c];refine aq rfl ?_;dsimp only[cond_false];rw[if_neg ac,(U:(z.natAbs:Int)=z)]
def Nq {x y:Int} (b:aA x.natAbs<=2900000) (c:aA y.natAbs<=2900000):xS (aM x,aM y,())=some (eo x y,()):=by
 unfold xS;refine aq (NS U U) ?_;have a:aA (x-y).natAbs<=3000000:=(by have d:=Je 2900000 b c;have e:=iy (U:(x-y).natAbs<=x.natAbs+y.natAbs);omega);refine aq (kO a) ?_;dsimp only;congr 2;unfold dW eo;split
 ·rw[ah U,ah U]
 split
 ·rw[ai U]
 rw[ah U,ai U]
def Ez (a:aA c<=b) (d:aA j<=b):aA (c+j)<=b+1:=by rw[dy,jD];have:=dy.1 a;have:=dy.1 d;omega
def Nt {x y:Int} (o:aA x.natAbs<=3000000) (j:aA y.natAbs<=3000000) (F:0<=x) (c:y≠0):xT (aM x,aM y,())=some (aM (x/y),aM (x %y),()):=by
 obtain⟨m,p,q⟩:=gq o;obtain⟨n,r,s⟩:=gq j;have w:(aM y).2.1≠[]:=λt=>c (vJ.1 t);unfold xT;refine aq (wu o) (aq (wu j) ?_);dsimp only;refine aq (Yo m n p r U U w) ?_;rw[gH,gH];have A:(aM x).1=false:=az U;have C:(aM y).1=decide (y<0):=rfl;rw[A,C];have f:0<=(x.natAbs:Int)/(y.natAbs:Int):=Int.ediv_nonneg U U;have g:(x.natAbs:Int)/(y.natAbs:Int)<=x.natAbs:=Int.ediv_le_self _ U;have h:0<=(x.natAbs:Int) %(y.natAbs:Int):=Int.emod_nonneg _ U;have i:(x.natAbs:Int) %(y.natAbs:Int)<(y.natAbs:Int):=Int.emod_lt_of_pos _ U;have d:∀a:Int,a<=x.natAbs->(bR a.toNat).length<=100000:=λa k=>zB (l:=(aM x).2.1) m q (by rw[gH];exact k);have e:∀a:Int,a<=y.natAbs->(bR a.toNat).length<=100000:=λa k=>zB (l:=(aM y).2.1) n s (by rw[gH];exact k);dsimp only;refine aq (r5 (iW _) (by have:=d _ g;omega) (tu f)) (aq (r5 (iW _) (by have:=e _ (Int.le_of_lt i);omega) (tu h)) ?_);dsimp only;rw[if_neg (ac:¬(false=true))];have al:(x.natAbs:Int)=x:=U;rw[al] at*;have u:x %(y.natAbs:Int)=x %y:=by
  rcases gZ y 0 with b|b
  ·rw[(U:(y.natAbs:Int)=-y),Int.emod_neg]
  rw[(U:(y.natAbs:Int)=y)]
 rw[u] at*;have D:0<=x %y:=mF _ c;have E:x %y<y.natAbs:=Int.emod_lt x c;have z:aA (x %y).natAbs<=3000000:=(by clear f g h i d e;generalize x %y=B at*;exact dh (iy U) j);have v:(if(!(false==decide (y<0)))=true then-(x/(y.natAbs:Int)) else x/(y.natAbs:Int))=x/y:=by
  rcases gZ y 0 with b|b
  ·rw[aB b,(U:(y.natAbs:Int)=-y),Int.ediv_neg];simp
  rw[az (U:¬y<0),(U:(y.natAbs:Int)=y)];simp
 rw[v];refine aq (y:=((false,([],())),(false,([],())),aM (x/y),aM (x %y),())) ?_ rfl;refine aq (kO z) ?_;dsimp only;rw[bi (az ?_)];clear f g h i d e;generalize x %y=B at*;unfold dW;split;omega;split<;>omega
def YW {x:Int} (e:aA x.natAbs<=900000) (k:0<=x):Bx (aM x,())=some (aM (bH x.toNat),()):=by
 unfold Bx;refine ae.eq_iff.1 ?_;refine ae.bs (kO U) ?_;dsimp only;rw[dB,br];refine ae.ite (λc=>?_) λc=>?_
 ·have:x=0:=by
   unfold dW at c;split at c
   ·assumption
   split at c<;>omega
  subst this;exact ae.ag.2 rfl
 have E:0<x:=by
  unfold dW at c;split at c
  ·exact absurd rfl c
  omega
 obtain⟨a,rfl⟩:=eH k;have A:0<a:=U;have l:aA a<=900000:=e;obtain⟨h,q⟩:=qd a;have C:0<bH a:=by
  rcases gk (bH a) with b|b
  ·rw[b] at q;omega
  exact b
 refine ae.bs (Dr aa aa) (ae.bs (ug U) ?_);have al:gL IntKind.i64 (aY (aA a:Int)) 2=some (((aA a+1)/2:Nat):Int):=(by unfold gL;rw[bt U,if_pos aa,Int.tdiv_eq_ediv_of_nonneg U,wrap64 U U];simp);dsimp only;refine ae.bs al (ae.bs (zk (z:=1) aa U) ?_);have i:(1:Int)*2^((aA a+1)/2)=((2^((aA a+1)/2):Nat):Int):=(by rw[i5,Int.one_mul]);rw[i];refine ae.aU (P:=λp=>p=(aM (bH a:Int),())) ?_ (by rintro _ rfl;exact ae.ag.2 rfl);refine ae.loop (λg=>∃x:Nat,g=((false,([],())),aM (x:Int),())/\bH a<=x/\aA x<=1000000) (λg=>(af g.2.1.2.1).toNat) ⟨_,rfl,?_,?_⟩ ?_
 ·refine DB h ?_;have t:=dy.1 (a2 (aA a));have u:2^aA a<=2^((aA a+1)/2)*2^((aA a+1)/2):=by
   rw[<-hf];exact ov aa U
  have v:=it (Nat.le_add_right (2^((aA a+1)/2)) 1) (Nat.le_add_right (2^((aA a+1)/2)) 1);omega
 ·rw[dy];exact y7 _ 1000000 U
 rintro _ ⟨x,rfl,F,r⟩;have e:0<x:=U;have d:∀f:Nat,(f:Int).natAbs=f:=λf=>U;refine ae.bs (Nt (x:=(a:Int)) (y:=(x:Int)) (by rw[d];omega) (by rw[d];omega) U U) ?_;rw[<-Int.natCast_ediv];dsimp only;have B:aA (a/x)<=900000:=Nat.le_trans (iy (Nat.div_le_self _ _)) l;refine ae.bs (zc (x:=(x:Int)) (y:=((a/x:Nat):Int)) (by rw[d];omega) (by rw[d];omega)) ?_;rw[<-Int.natCast_add];dsimp only;have D:aA (x+a/x)<=1000001:=Ez r U;refine ae.bs (NR (z:=((x+a/x:Nat):Int)) (n:=1) (by rw[d];omega) aa aa) ?_;have j:((x+a/x:Nat):Int)/2^1=(((x+a/x)/2:Nat):Int):=(by rw[show(2:Int)^1=((2:Nat):Int) from rfl,<-Int.natCast_ediv]);rw[j];dsimp only;have o:aA ((x+a/x)/2)<=1000000:=(by have:=pN (x+a/x) 1;rw[Nat.pow_one] at this;omega);refine ae.bs (Nq (x:=(((x+a/x)/2:Nat):Int)) (y:=(x:Int)) (by rw[d];omega) (by rw[d];omega)) ?_;dsimp only;rw[br];refine ae.ite (λb=>?_) λb=>?_
 ·refine ae.ag.2 ?_;have m:x<=(x+a/x)/2:=(by have:=q2.1 b;omega);have:=LQ e m;rw[Cw this (by
   have w:=it (U:bH a+1<=x+1) (U:bH a+1<=x+1);omega)]
 refine ae.ag.2 ⟨⟨(x+a/x)/2,rfl,LP e h,o⟩,?_⟩;show(af (aM (((x+a/x)/2:Nat):Int)).2.1).toNat<(af (aM (x:Int)).2.1).toNat;rw[gH,gH];have:=mt q2.2 b;generalize(x+a/x)/2=s at*;omega
def NF {z:Int} {n:Nat} (c:aA z.natAbs<=3000000) (e:n<=10000000):xU (aM z,(n:Int),())=some (decide ((z.natAbs:Int) %2^n≠0),()):=by obtain⟨a,b,d⟩:=gq c;unfold xU;dsimp only;refine ae.eq_iff.1 ?_;refine ae.bs (r6 a b U) ?_;dsimp only;refine ae.aU (Hn a U (n:=n) U) ?_;rintro _ ⟨f,rfl,g,h,i⟩;rw[gH];exact ae.ag.2 rfl
def YA {z:Int} (p:0<=z) (d:z<9223372036854775808):Bw (aM z,())=some (z,true,()):=by
 have f:aA z.natAbs<=64:=dy.2 U;obtain⟨b,n,o⟩:=gq (z:=z) U;have q:(aM z).2.1.length<=2:=nJ U;unfold Bw;dsimp only;refine ae.eq_iff.1 ?_;refine ae.bs (wu U) ?_;dsimp only;rw[bi (az (show¬(ay (aM z).2.1>2) by simp only[a1];omega))];refine ae.aU (P:=λl=>l=(z,aM z,())) ?_ ?_
 ·have k:=gH z;refine ae.steps (aM z).2.1.length (λa m=>m=(af ((aM z).2.1.take a),(a:Int),aM z,())) rfl ?_ ?_
  ·rintro a _ c rfl;have h:=b.get c;dsimp only;rw[bo (aB (show(a:Int)<ay (aM z).2.1 by simp only[a1];omega)),bQ c,Option.bind_some];have d:=dH (b.take a);have e:=fq (b.take a);rw[List.length_take,Nat.min_eq_left U,po] at e;have al:ar (32*(a:Int))=((32*a:Nat):Int):=(by rw[bm U U];simp);have f:(2:Int)^(32*a)<=4294967296:=by
    rcases(U:a=0\/a=1) with rfl|rfl<;>decide
   have j:=iJ (32*a);have r:(aM z).2.1[a]*2^(32*a)<4294967296*4294967296:=(by have:=il f h.1;omega);have g:0<=(aM z).2.1[a]*2^(32*a):=lW h.1 (dX j);rw[al,b2 (x:=(aM z).2.1[a]) U U,mC U U,aG,db,qF g U,lO (32*a) d e g U U (Int.mul_emod_left _ _),bt U];refine ae.ag.2 ?_;show(_,_,aM z,())=(_,_,aM z,());rw[gC c,po,g3 (2^(32*a))]
  rintro _ rfl;dsimp only;rw[bi (az (show¬(((aM z).2.1.length:Int)<ay (aM z).2.1) by simp only[a1];omega)),List.take_of_length_le (Nat.le_refl _),k];refine ae.ag.2 ?_;show(((z.natAbs:Nat):Int),aM z,())=_;rw[(U:((z.natAbs:Nat):Int)=z)]
 rintro _ rfl;have i:(aM z).1=false:=az U;dsimp only;rw[i,cond_false,bi (az (U:¬(z>9223372036854775807))),bm U U];exact ae.ag.2 rfl
def Od (d:aA e.natAbs<=1900000) (g:-1048576<=a) (h:a<=1048576):pT (aM e,a,())=some (aM (n1 e a),0,()):=by
 rcases gZ a 0 with f|f
 ·obtain⟨b,c⟩:∃b:Nat,a=-(b:Int):=⟨(-a).toNat,U⟩;subst c;rw[Ze d U U,wx]
 obtain⟨b,c⟩:∃b:Nat,a=(b:Int):=⟨a.toNat,U⟩;subst c;rw[Zf d U,n2]
def Hl (f:aA e.natAbs<=2900000) (g:-10000000<=a) (h:a<=10000000):k1 (aM e,a,())=some (aM (n1 e a),()):=by
 rcases gZ a 0 with d|d
 ·obtain⟨b,c⟩:∃b:Nat,a=-(b:Int):=⟨(-a).toNat,U⟩;subst c;rw[NR f U U,wx]
 obtain⟨b,c⟩:∃b:Nat,a=(b:Int):=⟨a.toNat,U⟩;subst c;rw[zk U U,n2]
def bz (a:Int):Int:=if a=0 then 0 else eQ a
def yU:a7 0=0:=rfl
def gT (a:Int):a8 (some a)=(false,aM (a7 a),bz a,()):=by
 by_cases b:a=0
 ·subst b;rfl
 rw[J1 b,bz,ah b]
def i6 (b:e2 a):aA (a7 a).natAbs<=131072:=by
 by_cases c:a=0
 ·subst c;exact b
 rw[U4 c];unfold e2 at b;omega
def iK (b:e2 a):-65536<=bz a/\bz a<=65536:=by
 unfold bz;split
 ·omega
 rename_i c;have:=uw (n:=a.natAbs) U;unfold e2 at b;unfold eQ;omega
def CL (c:e2 a):fa (a7 a) (bz a)=some a:=by
 by_cases b:a=0
 ·subst b;rfl
 rw[bz,ah b,Uw c]
def U5 (c:a=0\/e<=eQ a) (g:-65536<=e):a7 a*2^(bz a-e).toNat*2^(e+65536).toNat=a:=by
 by_cases b:a=0
 ·subst b;rw[yU];simp
 have d:=rU a;have f:=c.resolve_left b;rw[bz,ah b,jy,<-jz];have:(eQ a-e).toNat+(e+65536).toNat=bx a.natAbs:=(by unfold eQ at*;omega);rw[this,d]
def J0 (y:a≠0) (t:¬(e+bx a.natAbs< -65536\/65536<e+aA a.natAbs)):a8 (fa a e)=(false,aM (a/2^bx a.natAbs),e+bx a.natAbs,())/\(fa a e).isSome=true:=by
 obtain⟨b,o⟩:∃b,b=n1 a (e+65536):=⟨_,rfl⟩;have B:fa a e=some b:=(by unfold fa;rw[ah y,ah t,o]);rw[B];refine⟨?_,rfl⟩;obtain⟨g,w⟩:=sb (n:=a.natAbs) U;have l:=(tK (n:=a.natAbs) (k:=bx a.natAbs) U).1 (a2 _);have A:a/2^bx a.natAbs*2^bx a.natAbs=a:=E9 l;have z:(a/2^bx a.natAbs).natAbs=2*g+1:=by
  rw[yS l]
  conv=>lhs;lhs;rw[w]
  exact Nat.mul_div_cancel _ (hS _)
 generalize G:bx a.natAbs=d at*;generalize F:a/2^d=j at*;have i:b=j*2^(e+d+65536).toNat:=by
  rw[o,<-A];rcases Int.le_total 0 (e+65536) with s|s
  ·obtain⟨c,h⟩:∃c:Nat,e+65536=c:=⟨(e+65536).toNat,U⟩;rw[h,n2,jy,<-jz];congr 2;omega
  obtain⟨c,h⟩:∃c:Nat,e+65536=-(c:Int):=⟨(-(e+65536)).toNat,U⟩;obtain⟨q,x⟩:∃q:Nat,d=q+c:=⟨d-c,U⟩;rw[h,wx,x,jz,<-jy,Int.mul_ediv_cancel _ (by have:=iJ c;omega)];congr 2;omega
 obtain⟨f,v⟩:∃f:Nat,e+d+65536=f:=⟨(e+d+65536).toNat,U⟩;rw[v,db] at i;have p:b.natAbs=(2*g+1)*2^f:=(by rw[i,lN,z]);have m:bx b.natAbs=f:=wB p;have C:b≠0:=(by intro u;rw[u] at p;have D:=Nat.mul_pos (U:0<2*g+1) (hS f);have E:(0:Int).natAbs=0:=rfl;omega);rw[J1 C];have al:a7 b=j:=(by unfold a7;rw[m,i,Int.mul_ediv_cancel _ (by have:=iJ f;omega)]);have r:eQ b=e+d:=(by unfold eQ;rw[m];omega);rw[al,r]
def NE {m:Int} {n:Nat} (b:aA m.natAbs<=1900000) (f:n<=1048576):xv (aM m,(n:Int),())=some (aM (m/2^n),()):=by
 unfold xv;dsimp only;refine ae.eq_iff.1 ?_;refine ae.aU (P:=λd=>d=((n:Int),aM m,(false,([],())),())) ?_ ?_
 ·refine ae.steps 0 (λc a=>a=((n:Int),aM m,(false,([],())),())) rfl (λc a e=>by omega) ?_;rintro _ rfl;dsimp only;rw[bi (az (U:¬((n:Int)>1048576)))];exact ae.ag.2 rfl
 rintro _ rfl;dsimp only;rw[bm U U,Int.zero_sub];refine ae.bs (Od b U U) (ae.ag.2 ?_);rw[wx]
def vT {m k:Int} (c:aA m.natAbs<=1900000) (a:0<=k) (b:k<=1048576):me (aM m,k,())=some (aM (m*2^k.toNat),()):=by unfold me;refine aq (Od c U b) ?_;obtain⟨d,rfl⟩:=eH a;show some (aM (n1 m (d:Int)),())=_;rw[n2];rfl
def LU (r:aA a.natAbs<=900000) (p:-1000000000000<=e) (q:e<=1000000000000):mT ((false,aM a,e,()),())=some (a8 (fa a e),(fa a e).isSome,()):=by
 obtain⟨i,m,o⟩:=gq (z:=a) U;unfold mT;dsimp only;rw[cond_false];have h:=UY (b:=aM a) i U;rw[ni] at h;refine aq h ?_;refine aq (qw (h7 U)) ?_;dsimp only;rw[dB,br];split
 ·rename_i c;have:a=0:=by
   unfold dW at c;split at c
   ·assumption
   split at c<;>omega
  subst this;rfl
 rename_i c;have d:a≠0:=(by intro e;subst e;exact c rfl);have s:=uw (n:=a.natAbs) U;refine aq (OR (h7 U) d) ?_;dsimp only;by_cases g:e+bx a.natAbs< -65536\/65536<e+aA a.natAbs
 ·have l:fa a e=none:=(by unfold fa;rw[if_neg d,if_pos g]);rw[l];refine aq (y:=.inr (a8 none,false,())) ?_ rfl;refine aq (y:=(true,(false,((false,([],())),((0:Int),()))),aM a,())) ?_ rfl;refine aq (sP (h7 U)) ?_;dsimp only;rw[bm (x:=65536-(aA a.natAbs:Int)) U U,bm U U];by_cases f:e>65536-(aA a.natAbs:Int)
  ·rw[aB f];rfl
  rw[az f,aB (U:e< -65536-(bx a.natAbs:Int))];rfl
 obtain⟨j,k⟩:=J0 d g;rw[j,k];refine aq (y:=.inl ((false,((false,([],())),((0:Int),()))),aM a,())) ?_ ?_
 ·refine aq (y:=(false,(false,((false,([],())),((0:Int),()))),aM a,())) ?_ rfl;refine aq (sP (h7 U)) ?_;dsimp only;rw[bm (x:=65536-(aA a.natAbs:Int)) U U,bm U U];rw[az (U:¬(e>65536-(aA a.natAbs:Int))),az (U:¬(e< -65536-(bx a.natAbs:Int)))];rfl
 refine aq (NE U U) ?_;dsimp only;rw[bm U U]
def tW (b:ec g):mT (a8 g,())=some (a8 g,g.isSome,()):=by
 cases g with
 |none=>rfl
 |some c=>
  have a:=b c rfl;have d:=i6 a;have e:=iK a;rw[gT,LU U U U,CL a,gT]
def CH (d:aA e.natAbs<=900000) (b:-1000000000000<=a) (c:a<=1000000000000):sZ (aM e,a,())=some (a8 (fa e a),()):=by unfold sZ;exact aq (LU d b c) rfl
def yj (a:ec g):q4 (a8 g,())=some (a8 g,()):=by unfold q4;exact aq (tW a) rfl
def B7 (a:ec g):s1 (a8 g,())=some (g.isSome,()):=by unfold s1;exact aq (tW a) rfl
def n0 (a:adZ):Int:=dW (a.getD 0)
def Hv (a:Int):dW (a7 a)=dW a:=by
 unfold dW;have:=we (v:=a);by_cases b:a=0
 ·subst b;rfl
 have:=ia b;rw[ah this,ah b];split<;>split<;>first|rfl|omega
def mV (a:ec g):pQ (a8 g,())=some (n0 g,()):=by
 unfold pQ;refine aq (tW a) ?_;cases g with
 |none=>exact aq (qw (z:=0) (h7 aa)) rfl
 |some b=>
  have c:=i6 (a b rfl);rw[gT];refine aq (qw (h7 U)) ?_;show some (dW (a7 b),())=_;rw[Hv];rfl
def ON (a:ec g) (b:ec m):xw (a8 g,a8 m,())=some (a8 g,a8 m,g.isSome&&m.isSome,()):=by unfold xw;refine aq (tW a) (aq (tW b) ?_);cases g<;>rfl
def kK (c d:adZ):adZ:=c.bind λa=>d.bind λb=>fa (a7 a*a7 b) (bz a+bz b)
def IA (a b:adZ):adZ:=a.bind λc=>b.bind λd=>lG (c+d)
def tT (a:adZ):adZ:=a.map λb=>-b
def sK (a:adZ):adZ:=a.map λb=>(b.natAbs:Int)
def CP (b c:adZ):ec (kK b c):=by
 intro d a;unfold kK at a;cases b with
 |none=>cases a
 |some e=>cases c with
  |none=>cases a
  |some f=>exact Gn _ _ d a
def UK (b:ec g):ec (tT g):=by
 intro d a;cases g with
 |none=>cases a
 |some c=>cases a;have:=b c rfl;unfold e2 at*;rw[qH];exact this
def P8 (b:ec g):ec (sK g):=by
 intro d a;cases g with
 |none=>cases a
 |some c=>cases a;have:=b c rfl;unfold e2 at*;rw[sq];exact this
def JN (a:ec g) (b:ec m):xo (a8 g,a8 m,())=some (a8 (kK g m),()):=by
 unfold xo;refine aq (ON a b) ?_;cases g with
 |none=>rfl
 |some c=>
  cases m with
  |none=>rfl
  |some d=>
   have e:=i6 (a c rfl);have f:=i6 (b d rfl);have h:=iK (a c rfl);have i:=iK (b d rfl);rw[gT,gT];refine aq (LH U U) ?_;dsimp only;rw[bm U U];refine aq (CH ?_ U U) rfl;rw[Int.natAbs_mul];have:=oG e f;omega
def GA (a:Int):a7 (-a)=-a7 a:=by have c:=rU a;have b:=rU (-a);rw[qH] at b;have e:=iJ (bx a.natAbs);have d:a7 (-a)*2^bx a.natAbs=-a7 a*2^bx a.natAbs:=(by rw[b,Int.neg_mul,c]);exact Int.eq_of_mul_eq_mul_right U d
def Fp (a:Int):bz (-a)=bz a:=by
 unfold bz eQ;rw[qH];by_cases b:a=0
 ·subst b;rfl
 rw[ah b,ah U]
def U3 (a:Int):a7 (a.natAbs:Int)=((a7 a).natAbs:Int):=by
 have c:=we (v:=a);rcases gZ a 0 with b|b
 ·rw[(U:(a.natAbs:Int)=-a),GA];have:=c.2 b;omega
 rw[(U:(a.natAbs:Int)=a)];have:=mt c.1 U;omega
def Sk (a:Int):bz (a.natAbs:Int)=bz a:=by
 rcases gZ a 0 with b|b
 ·rw[(U:(a.natAbs:Int)=-a),Fp]
 rw[(U:(a.natAbs:Int)=a)]
def JO (b:ec g):xp (a8 g,())=some (a8 (tT g),()):=by
 unfold xp;refine aq (tW b) ?_;cases g with
 |none=>rfl
 |some a=>
  have c:=i6 (b a rfl);rw[gT];refine aq (aq (LO (h7 U)) rfl) ?_;show some ((false,aM (-a7 a),bz a,()),())=some (a8 (some (-a)),());rw[gT,GA,Fp]
def kt (a b:Int):Int:=a7 a*2^(bz a-b).toNat
def ux {v e:Int} (a:v=0\/e<=eQ v) (b:-65536<=e):kt v e*2^(e+65536).toNat=v:=U5 a b
def DL (b:a=0\/e<=eQ a) (f:-65536<=e) (g:e2 a):aA (kt a e).natAbs<=131072:=by
 have c:=ux b f;have d:(kt a e).natAbs<=a.natAbs:=by
  conv=>rhs;rw[<-c,lN]
  exact Nat.le_mul_of_pos_right _ (hS _)
 exact dh (iy d) g
def F8 (c:a=0\/e<=eQ a) (h:-65536<=e) (i:e<=65536) (b:e2 a) (d:e<=bz a):me (aM (a7 a),bz a-e,())=some (aM (kt a e),()):=by have f:=i6 b;have g:=iK b;exact vT U U U
def Ux {b:Int} (c:-65536<=a) (d:e=0\/a<=eQ e) (f:b=0\/a<=eQ b):fa (kt e a+kt b a) a=lG (e+b):=by refine CM c ?_;rw[Int.add_mul,ux d c,ux f c]
def mg (b:e<=bz a):a=0\/e<=eQ a:=by
 by_cases c:a=0
 ·exact .inl c
 rw[bz,ah c] at b;exact .inr b
def Qa (g:e2 a) (h:e2 e):∃b,b<=bz a/\b<=bz e/\-65536<=b/\b<=65536/\AP (a8 (some a),a8 (some e),())=some (aM (kt a b),aM (kt e b),b,()):=by have i:=iK g;have j:=iK h;refine⟨if bz e<bz a then bz e else bz a,by split<;>omega,by split<;>omega,by split<;>omega,by split<;>omega,?_⟩;unfold AP;rw[gT,gT];dsimp only;generalize c:(if bz e<bz a then bz e else bz a)=b;have al:b<=bz a:=(by rw[<-c];split<;>omega);have d:b<=bz e:=(by rw[<-c];split<;>omega);have f:-65536<=b:=(by rw[<-c];split<;>omega);rw[bm (x:=bz a-b) U U,bm (x:=bz e-b) U U];exact aq (F8 (mg al) f U g al) (aq (F8 (mg d) f U h d) rfl)
def RG (e:ec g) (b:ec m):AK (a8 g,a8 m,())=some (a8 (IA g m),()):=by
 unfold AK;refine aq (ON e b) ?_;cases g with
 |none=>rfl
 |some i=>
  cases m with
  |none=>rfl
  |some j=>
   have f:=e i rfl;have h:=b j rfl;obtain⟨c,al,d,a,o,n⟩:=Qa f h;have k:=DL (mg al) a f;have l:=DL (mg d) a h;refine aq n (aq (El U U) ?_);have b:aA (kt i c+kt j c).natAbs<=131073:=dh (iy (Int.natAbs_add_le _ _)) (Ez k l);refine aq (CH U U U) ?_;rw[Ux a (mg al) (mg d)];rfl
def lJ (a:Int):adZ:=fa a 0
def eS:adR->Int
 |[]=>0
 |d::a=>d.getD 0+eS a
def gp:adR->Bool
 |[]=>true
 |d::a=>d.isSome&&gp a
def gB (a:adR):adZ:=if gp a=true then lG (eS a) else none
def Oo (b:adR):ec (gB b):=by
 intro c a;unfold gB at a;split at a
 ·exact Q2 _ c a
 cases a
def zz (a b:adR):eS (a++b)=eS a+eS b:=by
 induction a with
 |nil=>simp[eS]
 |cons d a c=>simp only[jb,eS,c];omega
def Ak (a b:adR):gp (a++b)=(gp a&&gp b):=by
 induction a with
 |nil=>simp[gp]
 |cons d a c=>simp only[jb,gp,c,Bool.and_assoc]
def HL (a:b<p.length):eS (p.take (b+1))=eS (p.take b)+(p[b]).getD 0:=by rw[ir,a9 a];show eS (p.take b++[p[b]])=_;rw[zz];simp[eS]
def IF (a:b<p.length):gp (p.take (b+1))=(gp (p.take b)&&(p[b]).isSome):=by rw[ir,a9 a];show gp (p.take b++[p[b]])=_;rw[Ak];simp[gp]
def IE (a:gp p=true) (c:b<p.length):∃e,p[b]=some e:=by
 induction p generalizing b with
 |nil=>simp at c
 |cons f p d=>
  simp only[gp,bp] at a;cases b with
  |zero=>exact D6.1 a.1
  |succ b=>exact d a.2 (by simpa using c)
def ID (c:b<p.length) (a:p[b]=none):gp p=false:=by
 cases d:gp p with
 |false=>rfl
 |true=>obtain⟨f,e⟩:=IE d c;rw[e] at a;cases a
def JP (A:∀B∈p,ec B) (L:p.length<=1000000):xu (p.map a8,())=some (a8 (gB p),()):=by
 unfold xu;refine ae.eq_iff.1 ?_;dsimp only;refine ae.aU (P:=λs=>match s with
  |.inl o=>∃b,o=(b,(false,((false,([],())),((0:Int),()))),p.map a8,())/\gp p=true/\-65536<=b/\b<=0/\(∀a d,(C:a<p.length)->p[a]=some d->b<=bz d)
  |.inr o=>o=(a8 (gB p),())) ?_ ?_
 ·refine ae.steps p.length (λa v=>∃b,v=(b,(a:Int),(false,((false,([],())),((0:Int),()))),(p.take a).map a8,())/\gp (p.take a)=true/\-65536<=b/\b<=0/\(∀h d,(C:h<p.length)->h<a->p[h]=some d->b<=bz d)) ⟨0,rfl,rfl,aa,aa,λh d f g=>by omega⟩ ?_ ?_
  ·rintro a _ e ⟨b,rfl,f,g,t,l⟩;have z:=A p[a] (List.getElem_mem e);dsimp only;rw[bo (aB (show(a:Int)<ay (p.map a8) by simp only[a1,List.length_map];omega))];refine ae.bs (y:=a8 p[a]) ?_ (ae.bs (tW z) ?_)
   ·rw[bQ (by simpa using e),sw]
   dsimp only;cases m:p[a] with
   |none=>
    refine ae.bs rfl (ae.ag.2 ?_);show(a8 none,())=_;rw[gB,ah];rw[ID e m];simp
   |some d=>
    have n:e2 d:=z d m;have I:=iK n;show ae ((bN _).bind _) _;rw[dQ (by simp;omega)];refine ae.ag.2 ⟨if bz d<b then bz d else b,?_,?_,by split<;>omega,by split<;>omega,?_⟩
    ·rw[bt U,ir,a9 e,m];simp only[Option.toList_some,fN,fr,qO,gT]
    ·rw[IF e,f,m];rfl
    intro h K J N u;rcases bg h a with w|w
    ·have:=l h K J w u;split<;>omega
    obtain rfl:h=a:=U;rw[m] at u;cases u;split<;>omega
  rintro _ ⟨b,rfl,f,g,t,l⟩;dsimp only;rw[bi (az (show¬((p.length:Int)<ay (p.map a8)) by simp only[a1,List.length_map];omega))];rw[List.take_of_length_le (Nat.le_refl _)] at f|-;exact ae.ag.2 ⟨b,rfl,f,g,t,λa d e j=>l a d e e j⟩
 rintro(s|s) r
 ·obtain⟨b,rfl,f,g,t,l⟩:=r;dsimp only;refine ae.aU (P:=λo=>∃c,o=((false,((false,([],())),((0:Int),()))),aM c,())/\c*2^(b+65536).toNat=eS p/\aA c.natAbs<=200000) ?_ ?_
  ·have x:∀c:Int,c.natAbs<=p.length*2^131072->aA c.natAbs<=200000:=λc G=>by
    refine dh (iy G) ?_;have:aA p.length<=20:=dy.2 U;have D:aA (2^131072)<=131073:=dy.2 (y7 131072 131073 aa);have:=oG this D;omega
   refine ae.steps p.length (λa v=>∃c,v=((a:Int),(false,((false,([],())),((0:Int),()))),p.map a8,aM c,())/\c*2^(b+65536).toNat=eS (p.take a)/\c.natAbs<=a*2^131072) ⟨0,rfl,by rw[sr];simp[eS],(bE _:(0:Nat)<=_)⟩ ?_ ?_
   ·rintro a _ e ⟨c,rfl,i,k⟩;obtain⟨d,j⟩:=IE f e;have n:e2 d:=A p[a] (List.getElem_mem e) d j;have q:=l a d e j;have H:=DL (mg q) g n;have I:=iK n;have M:=x c (Nat.le_trans k (Nat.mul_le_mul_right _ U));dsimp only;rw[bo (aB (show(a:Int)<ay (p.map a8) by simp only[a1,List.length_map];omega)),jU (by simpa using e),List.getElem_map,j,gT];dsimp only;rw[bm U U];refine ae.bs (F8 (mg q) g U n q) (ae.bs (El U U) (ae.ag.2 ⟨c+kt d b,by rw[bt U],?_,?_⟩))
    ·rw[Int.add_mul,i,ux (mg q) g,HL e,j];rfl
    have E:=dy.1 H;have F:=Int.natAbs_add_le c (kt d b);exact dh F (LI k E)
   rintro _ ⟨c,rfl,i,k⟩;dsimp only;rw[bi (az (show¬((p.length:Int)<ay (p.map a8)) by simp only[a1,List.length_map];omega))];rw[List.take_of_length_le (Nat.le_refl _)] at i;exact ae.ag.2 ⟨c,rfl,i,x c k⟩
  rintro _ ⟨c,rfl,i,k⟩;refine ae.bs (CH U U U) (ae.ag.2 ?_);show(a8 (fa c b),())=_;rw[CM g i.symm,gB,ai f]
 have r:s=_:=r;rw[r];exact ae.ag.2 rfl
def lj:(dW a==0)=decide (a=0):=by
 rw[dB,decide_eq_decide];unfold dW;constructor
 ·intro b;split at b
  ·assumption
  split at b<;>omega
 intro b;rw[ai b]
def He {m:Int} {n:Nat} (e:aA m.natAbs<=1900000) (f:n<=1048576):vE (aM m,(n:Int),())=some (aM (m/2^n),()):=by
 unfold vE;dsimp only;refine ae.eq_iff.1 ?_;refine ae.aU (P:=λc=>c=((n:Int),aM m,(false,([],())),())) ?_ ?_
 ·refine ae.steps 0 (λb a=>a=((n:Int),aM m,(false,([],())),())) rfl (λb a d=>by omega) ?_;rintro _ rfl;dsimp only;rw[bi (az (U:¬((n:Int)>1048576)))];exact ae.ag.2 rfl
 rintro _ rfl;dsimp only;rw[bm U U,Int.zero_sub];refine ae.bs (Hl U U U) (ae.ag.2 ?_);rw[wx]
def NG {b:n8} {m:Int} (o:aP b.2.1) (w:b.2.1.length<=100000000) (d:fj b=m) (F:aA m.natAbs<=900000) (B:-1000000000000<=a) (C:a<=1000000000000):nI (b,a,())=some (a8 (fa m a),()):=by
 unfold nI;dsimp only;have p:=NL o w;rw[d] at p;refine aq p ?_;dsimp only;rw[qe,br];split
 ·rename_i e;have:=vJ.1 e;subst this;rfl
 rename_i e;have c:m≠0:=λa=>e (vJ.2 a);have G:=uw (n:=m.natAbs) U;have E:=oH (m:=m.natAbs) U;rw[br];split
 ·rename_i q;have f:fa m a=none:=(by unfold fa;rw[ah c,ai U]);rw[f];rfl
 rename_i q;refine aq (NU U c) (aq (zb U) (aq (He (m:=(m.natAbs:Int)) (by rw[Int.natAbs_natCast];omega) U) ?_));have l:=(tK (n:=m.natAbs) (k:=bx m.natAbs) U).1 (Nat.le_refl _);have u:(m.natAbs:Int)/2^bx m.natAbs=(((m/2^bx m.natAbs).natAbs:Nat):Int):=(by rw[yS l,<-i5,<-Int.natCast_ediv]);have h:aA ((m/2^bx m.natAbs).natAbs)=aA m.natAbs-bx m.natAbs:=(by rw[yS l,pN]);rw[u];dsimp only;rw[bm (x:=a+(bx m.natAbs:Int)) U U];by_cases i:a+bx m.natAbs< -65536\/65536<a+aA m.natAbs
 ·have f:fa m a=none:=(by unfold fa;rw[ah c,ai i]);rw[f];refine aq (y:=.inr (a8 none,())) ?_ rfl;refine aq (y:=(true,(false,((false,([],())),((0:Int),()))),aM ((m/2^bx m.natAbs).natAbs:Int),())) ?_ rfl;by_cases g:a+(bx m.natAbs:Int)< -65536
  ·rw[aB g];rfl
  rw[az g];refine aq (ug (by rw[Int.natAbs_natCast];omega)) ?_;rw[Int.natAbs_natCast,h];dsimp only;rw[bm U U,aB (U:a+(bx m.natAbs:Int)+((aA m.natAbs-bx m.natAbs:Nat):Int)>65536)]
 obtain⟨r,D⟩:=J0 c i;rw[r];refine aq (y:=.inl ((false,((false,([],())),((0:Int),()))),aM ((m/2^bx m.natAbs).natAbs:Int),())) ?_ ?_
 ·refine aq (y:=(false,(false,((false,([],())),((0:Int),()))),aM ((m/2^bx m.natAbs).natAbs:Int),())) ?_ rfl;rw[az (U:¬(a+(bx m.natAbs:Int)< -65536))];refine aq (ug (by rw[Int.natAbs_natCast];omega)) ?_;rw[Int.natAbs_natCast,h];dsimp only;rw[bm U U,az (U:¬(a+(bx m.natAbs:Int)+((aA m.natAbs-bx m.natAbs:Nat):Int)>65536))]
 dsimp only;congr 3;have z:b.1=decide (m/2^bx m.natAbs<0):=by
  have s:(m/2^bx m.natAbs<0)↔m<0:=we (v:=m);have t:b.1=decide (m<0):=by
   have A:=dH o;unfold fj at d;cases j:b.1 with
   |true=>rw[j,ai rfl] at d;exact(aB U).symm
   |false=>rw[j,ah ac] at d;exact(az U).symm
  rw[t,decide_eq_decide];exact s.symm
 rw[z];rfl
def wq {e:Int} (d:aA a.natAbs<=900000) (b:-1000000000000<=e) (c:e<=1000000000000):nI (aM a,e,())=some (a8 (fa a e),()):=
 NG (k4 a) (by have:=(gq (z:=a) U).2.2;omega) (ni a) d b c
def o6 (c:ec g):mf (a8 g,())=some (a8 g,()):=by
 cases g with
 |none=>rfl
 |some b=>
  have a:=c b rfl;have d:=i6 a;have f:=iK a;unfold mf;rw[gT];refine aq (wq (e:=bz b) U U U) ?_;rw[CL a,gT]
def tr (a:adZ):(a8 a).1=!a.isSome:=by
 cases a with
 |none=>rfl
 |some b=>rw[gT];rfl
def Yr (a:ec g):BG (a8 g,())=some (n0 g,()):=by
 unfold BG;refine aq (o6 a) ?_;cases g with
 |none=>rfl
 |some b=>
  have c:=i6 (a b rfl);rw[gT];refine aq (kO U) ?_;show some (dW (a7 b),())=_;rw[Hv];rfl
def Yq (c:ec g):x1 (a8 g,())=some (a8 (tT g),()):=by
 unfold x1;refine aq (o6 c) ?_;cases g with
 |none=>rfl
 |some b=>
  have a:=c b rfl;have f:=i6 a;have h:=iK a;rw[gT];refine aq (NK U) (aq (wq (e:=bz b) (by rw[qH];omega) U U) ?_);have d:e2 (-b):=(by unfold e2 at*;rw[qH];exact a);rw[<-GA,<-Fp,CL d];rfl
def Ym (c:ec g):BB (a8 g,())=some (a8 (sK g),()):=by
 unfold BB;refine aq (o6 c) ?_;cases g with
 |none=>rfl
 |some b=>
  have a:=c b rfl;have f:=i6 a;have h:=iK a;rw[gT];refine aq (zb U) (aq (wq (e:=bz b) (by rw[sq];omega) U U) ?_);have d:e2 (b.natAbs:Int):=(by unfold e2 at*;rw[sq];exact a);rw[<-U3,<-Sk,CL d];rfl
def OS (a:Int):kt a (bz a)=a7 a:=by unfold kt;simp
def Yp (a:ec g) (b:ec m):BD (a8 g,a8 m,())=some (a8 (kK g m),()):=by
 unfold BD;refine aq (o6 a) (aq (o6 b) ?_);cases g with
 |none=>rfl
 |some c=>
  cases m with
  |none=>dsimp only;rw[gT c];rfl
  |some d=>
   have e:=i6 (a c rfl);have f:=i6 (b d rfl);have h:=iK (a c rfl);have i:=iK (b d rfl);rw[gT,gT];refine aq rfl ?_;dsimp only;refine aq (NH U U) ?_;dsimp only;rw[bm U U];refine aq (wq ?_ U U) rfl;rw[Int.natAbs_mul];have:=oG e f;omega
def Ns (b:-9223372036854775808<=a) (c:a<=9223372036854775807):x0 (a,())=some (a8 (lJ a),()):=by unfold x0;have d:aA a.natAbs<=64:=dy.2 U;exact aq (Dr b c) (aq (wq U aa aa) rfl)
def Nu (Q:∀F∈p,ec F) (r:p.length<=1000000):x2 (p.map a8,())=some (a8 (gB p),()):=by
 unfold x2;refine ae.eq_iff.1 ?_;dsimp only;have O:∀c:Int,c.natAbs<=p.length*2^131072->aA c.natAbs<=200000:=λc S=>(by refine Nat.le_trans (iy S) ?_;have:aA p.length<=20:=dy.2 U;have L:aA (2^131072)<=131073:=dy.2 (y7 131072 131073 aa);have:=oG this L;omega);have z:∀(c a:Int) (d:Nat),-65536<=a->d<=p.length->(eS (p.take d)).natAbs<=d*2^131072->c*2^(a+65536).toNat=eS (p.take d)->aA c.natAbs<=200000:=λc a d W l j f=>(by refine O c (Nat.le_trans ?_ (Nat.mul_le_mul_right _ l));refine Nat.le_trans ?_ j;rw[<-f,lN];exact Nat.le_mul_of_pos_right _ (Nat.two_pow_pos _));refine ae.aU (P:=λi=>match i with
  |.inl n=>∃a c,n=(a,(false,((false,([],())),((0:Int),()))),aM c,())/\gp p=true/\-65536<=a/\a<=65536/\c*2^(a+65536).toNat=eS p/\aA c.natAbs<=200000
  |.inr n=>n=(a8 (gB p),())) ?_ ?_
 ·refine ae.steps p.length (λd T=>∃a c,T=(a,(d:Int),(false,((false,([],())),((0:Int),()))),aM c,())/\gp (p.take d)=true/\-65536<=a/\a<=65536/\c*2^(a+65536).toNat=eS (p.take d)/\(eS (p.take d)).natAbs<=d*2^131072) ⟨0,0,rfl,rfl,aa,aa,by rw[sr];simp[eS],(bE _:(0:Nat)<=_)⟩ ?_ ?_
  ·rintro d _ l ⟨a,c,rfl,j,f,q,g,o⟩;have w:=Q p[d] (List.getElem_mem l);have D:=z c a d f U o g;dsimp only;rw[bo (aB (show(d:Int)<ay (p.map a8) by simp only[a1,List.length_map];omega))];refine ae.aU (P:=λi=>match i with
    |.inl n=>∃b a c,p[d]=some b/\n=(a,(false,((false,([],())),((0:Int),()))),aM c,())/\-65536<=a/\a<=65536/\c*2^(a+65536).toNat=eS (p.take d)+b
    |.inr n=>n=.inr (.inr (a8 (gB p),()))) ?_ ?_
   ·refine ae.bs (y:=a8 p[d]) ?_ (ae.bs (o6 w) ?_)
    ·rw[bQ (by simpa using l),sw]
    dsimp only;cases A:p[d] with
    |none=>
     refine ae.bs rfl (ae.ag.2 ?_);show _=Sum.inr (Sum.inr (a8 (gB p),()));rw[gB,ah]
     ·rfl
     rw[ID l A];simp
    |some b=>
     have s:e2 b:=w b A;have ab:=iK s;have Y:=i6 s;rw[gT];refine ae.bs (kO U) ?_;dsimp only;rw[lj];by_cases E:b=0
     ·subst E;rw[aB (show a7 0=0 from rfl)];exact ae.ag.2 ⟨0,a,c,rfl,rfl,f,q,by rw[g];omega⟩
     rw[az (ia E)];refine ae.bs (kO U) ?_;dsimp only;rw[lj];by_cases C:c=0
     ·subst C;rw[aB rfl];refine ae.ag.2 ⟨b,bz b,a7 b,rfl,rfl,U,U,?_⟩;have:=ux (v:=b) (e:=bz b) (mg (qG _)) U;rw[OS] at this;rw[this,<-g];simp
     rw[az C];by_cases t:bz b>=a
     ·rw[aB t,bm U U];refine ae.bs (Hl U U U) ?_;have R:n1 (a7 b) (bz b-a)=kt b a:=by
       obtain⟨m,r⟩:∃m:Nat,bz b-a=m:=⟨(bz b-a).toNat,U⟩;rw[r,n2,kt,r];rfl
      have Z:=DL (mg t) f s;rw[R];refine ae.bs (zc U U) (ae.ag.2 ⟨b,a,c+kt b a,rfl,rfl,f,q,?_⟩);rw[Int.add_mul,g,ux (mg t) f]
     rw[az t,bm (x:=a-bz b) U U];obtain⟨m,r⟩:∃m:Nat,a-bz b=m:=⟨(a-bz b).toNat,U⟩;have B:c*2^m*2^(bz b+65536).toNat=eS (p.take d):=(by rw[<-g,jy,<-jz];congr 2;omega);have X:=z (c*2^m) (bz b) d U U o B;rw[r];refine ae.bs (Hl U U U) ?_;rw[n2];refine ae.bs (zc U U) (ae.ag.2 ⟨b,bz b,c*2^m+a7 b,rfl,rfl,U,U,?_⟩);have:=ux (v:=b) (e:=bz b) (mg (qG _)) U;rw[OS] at this;rw[Int.add_mul,B,this]
   rintro(i|i) h
   ·obtain⟨b,G,V,u,rfl,H,I,J⟩:=h;have s:e2 b:=w b u;refine ae.ag.2 ⟨G,V,by rw[bt U],by rw[IF l,j,u];rfl,H,I,by rw[HL l,u];exact J,?_⟩;rw[HL l,u];have M:=Int.natAbs_add_le (eS (p.take d)) b;have N:b.natAbs<2^131072:=(dy (k:=131072)).1 s;show(eS (p.take d)+b).natAbs<=_;have K:=LI o N;exact dh M K
   have h:i=_:=h;rw[h];exact ae.ag.2 rfl
  rintro _ ⟨a,c,rfl,j,f,q,g,o⟩;dsimp only;rw[bi (az (show¬((p.length:Int)<ay (p.map a8)) by simp only[a1,List.length_map];omega))];have D:=z c a p.length f (Nat.le_refl _) o g;rw[List.take_of_length_le (Nat.le_refl _)] at j g;exact ae.ag.2 ⟨a,c,rfl,j,f,q,g,D⟩
 rintro(i|i) h
 ·obtain⟨a,c,rfl,j,f,q,g,o⟩:=h;refine ae.bs (wq U U U) (ae.ag.2 ?_);show(a8 (fa c a),())=_;rw[CM f g.symm,gB,ai j]
 have h:i=_:=h;rw[h];exact ae.ag.2 rfl
def bG (a:Int):Int:=a/4503599627370496 %2048
def e8 (a:Int):Int:=a %4503599627370496
def ez (a:Int):Prop:=0<=a/\a<18446744073709551616
def dJ (a:Int):adZ:=
 if bG a=2047 then none
 else fa (if a<9223372036854775808 then if bG a=0 then e8 a else e8 a+4503599627370496 else-(if bG a=0 then e8 a else e8 a+4503599627370496)) (if bG a=0 then-1074 else bG a-1075)
def kL (b:Int):ec (dJ b):=by
 intro c a;unfold dJ at a;split at a
 ·cases a
 exact Gn _ _ c a
def GY (b:ez a):vk (a,())=some (bG a,e8 a,()):=by unfold vk;dsimp only;have c:=b.1;have d:=b.2;rw[r8 aa aa,Option.bind_some,show(2:Int)^(52:Int).toNat=4503599627370496 from rfl,qS 11 U U 2047 aa aa,qS 52 U U 4503599627370495 aa aa,bm U U];rfl
def I9 (k:ez a):(dr IntKind.u64 a 9223372036854775808 !=0)=decide (9223372036854775808<=a):=by
 obtain⟨c,m⟩:=k;obtain⟨b,rfl⟩:=eH c;have j:b<18446744073709551616:=U;have h:(9223372036854775808:Int)=((2^63:Nat):Int):=rfl;rw[h,IJ j aa,b0];rcases bg b (2^63) with d|d
 ·have f:b&&&2^63=0:=by
   refine Nat.eq_of_testBit_eq λl=>?_;rw[Nat.testBit_and,zZ,Nat.zero_testBit];by_cases e:63=l
   ·subst e;rw[Nat.testBit_lt_two_pow d];rfl
   rw[az e,Bool.and_false]
  rw[f,aB (show((0:Nat):Int)=0 from rfl),az (U:¬(((2^63:Nat):Int)<=(b:Int)))];rfl
 have f:b&&&2^63≠0:=(by intro i;have c:(b&&&2^63).testBit 63=false:=(by rw[i];exact Nat.zero_testBit 63);rw[Nat.testBit_and,zZ] at c;obtain⟨g,rfl⟩:∃g,b=2^63*1+g:=⟨b-2^63,U⟩;rw[Nat.testBit_two_pow_mul_add 1 U,ah U] at c;exact absurd c aa);rw[az (U:¬(((b&&&2^63:Nat):Int)=0)),aB (U:(((2^63:Nat):Int)<=(b:Int)))];rfl
def UL (b:ez a):AT (a,())=some (decide (9223372036854775808<=a),()):=by unfold AT;dsimp only;rw[I9 b]
def Cv (b:ez a):q5 (a,())=some (!decide (bG a=2047),()):=by unfold q5;refine aq (GY b) ?_;dsimp only;rw[b0]
def oY (a:Int):Int:=if bG a=2047 then if e8 a=0 then 2 else 3 else if bG a=0/\e8 a=0 then 0 else 1
def K2 (f:ez a):xx (a,())=some (oY a,()):=by
 unfold xx oY;refine aq (GY f) ?_;dsimp only;rw[dB,b0,dB,dB];by_cases c:bG a=2047
 ·rw[aB c,ai c];by_cases b:e8 a=0
  ·rw[aB b,ai b];rfl
  rw[az b,ah b];rfl
 rw[az c,ah c];by_cases d:bG a=0
 ·rw[aB d];by_cases b:e8 a=0
  ·rw[aB b,ai ⟨d,b⟩];rfl
  rw[az b,ah (λe=>b e.2)];rfl
 rw[az d,ah (λe=>d e.1)];rfl
def yp (a:Int):0<=e8 a/\e8 a<4503599627370496:=by unfold e8;omega
def yo (a:Int):0<=bG a/\bG a<2048:=by unfold bG;omega
def wg (g:ez a):pR (a,())=some (a8 (dJ a),()):=by
 unfold pR dJ;have o:=yp a;have n:=yo a;refine aq (GY g) ?_;dsimp only;rw[dB,dB];by_cases e:bG a=2047
 ·rw[aB e,ai e];rfl
 rw[az e,ah e];obtain⟨c,d,h,i,j,k,l,f⟩:∃c d,(bif decide (bG a=0) then some (Sum.inl ((-1074:Int),e8 a,((false,((false,([],())),((0:Int),()))):bX),())) else some (.inl (ar (bG a-1075),eL IntKind.u64 (e8 a) 4503599627370496,(false,((false,([],())),((0:Int),()))),())):Option ((Int×Int×bX×Unit)⊕eW))=some (.inl (d,c,(false,((false,([],())),((0:Int),()))),()))/\0<=c/\c<9007199254740992/\-1074<=d/\d<=972/\(c=(if bG a=0 then e8 a else e8 a+4503599627370496)/\d=(if bG a=0 then-1074 else bG a-1075)):=by
  by_cases b:bG a=0
  ·refine⟨e8 a,-1074,?_,U,U,U,U,by rw[ai b],by rw[ai b]⟩;rw[aB b];rfl
  refine⟨e8 a+4503599627370496,bG a-1075,?_,U,U,U,U,by rw[ah b],by rw[ah b]⟩;rw[az b,bm U U,lO 52 U U U U U aa];rfl
 rw[<-f.1,<-f.2];refine aq h ?_;dsimp only;rw[bm U U];have m:aA c.natAbs<=53:=dy.2 U;refine aq (FE U U) ?_;refine aq (y:=((false,((false,([],())),((0:Int),()))),aM (if a<9223372036854775808 then c else-c),())) ?_ ?_
 ·refine aq (UL g) ?_;dsimp only;by_cases b:a<9223372036854775808
  ·rw[az (U:¬(9223372036854775808<=a)),ai b];rfl
  rw[aB (U:9223372036854775808<=a),ah b];exact aq (LO (h7 U)) rfl
 dsimp only;refine aq (CH ?_ U U) rfl;split
 ·omega
 rw[qH];omega
def nK (d:Bool) (a:Nat) (b:Int) (c:Bool):qR:=(d,aM (a:Int),b,c,())
def dG (a:Nat):(a:Int).natAbs=a:=by omega
def T3 (e:aA b<=900000) (c:-10000000<=a) (d:a<=10000000):AM (nK k b a h,())=some (a+aA b-1,()):=by unfold AM nK;refine aq (sP (h7 (by rw[dG];omega))) ?_;rw[dG];dsimp only;rw[bm (x:=a+(aA b:Int)) U U,bm U U]
def RE {v:Bool} (o:aA b<=900000) (w:0<b) (C:0<c) (D:c<=10000000):xq (nK v b a h,(c:Int),())=some (aM ((b/2^c:Nat):Int),jm b c h,decide (b %2^c=0)&&!h,()):=by
 unfold xq nK;refine aq (sP (h7 (by rw[dG];omega))) ?_;rw[dG];dsimp only;have E:=Nat.two_pow_pos c;rw[br];split
 ·rename_i g;have s:b<2^(c-1):=dy.1 U;obtain⟨d,rfl⟩:∃d,c=d+1:=⟨c-1,U⟩;simp only[uQ] at s;have al:b %2^(d+1)=b:=Nat.mod_eq_of_lt (by rw[jD];omega);have j:b/2^(d+1)=0:=Nat.div_eq_of_lt (by rw[jD];omega);rw[al,j];have l:jm b (d+1) h=-1:=(by unfold jm;rw[al,ai (by rw[jD];omega)]);rw[l,az (U:¬b=0)];rfl
 rename_i g;have A:=Nat.div_add_mod b (2^c);have F:aA (b/2^c)<=900000:=Nat.le_trans (iy (Nat.div_le_self _ _)) o;have G:aA (b %2^c)<=900000:=Nat.le_trans (iy (Nat.mod_le _ _)) o;have p:b/2^c*2^c<=b:=Nat.div_mul_le_self _ _;refine aq (NE (m:=(b:Int)) (n:=c) (by rw[dG];omega) U) ?_;have al:(b:Int)/2^c=((b/2^c:Nat):Int):=(by rw[<-i5,<-Int.natCast_ediv]);rw[al];refine aq (vT (m:=((b/2^c:Nat):Int)) (k:=(c:Int)) (by rw[dG];omega) U U) ?_;have j:((b/2^c:Nat):Int)*2^(c:Int).toNat=((b/2^c*2^c:Nat):Int):=(by rw[Int.toNat_natCast,<-i5,<-Int.natCast_mul]);rw[j];refine aq (ZG (x:=(b:Int)) (y:=((b/2^c*2^c:Nat):Int)) (by rw[dG];omega) (by rw[dG];exact Nat.le_trans (iy p) U)) ?_;have l:(b:Int)-((b/2^c*2^c:Nat):Int)=((b %2^c:Nat):Int):=(by rw[Nat.mul_comm] at p|-;omega);rw[l];refine aq (FE (n:=1) aa aa) ?_;dsimp only;rw[bm (x:=(c:Int)-1) U U];refine aq (vT (m:=1) (k:=(c:Int)-1) aa U U) ?_;obtain⟨d,rfl⟩:∃d,c=d+1:=⟨c-1,U⟩;have q:(1:Int)*2^(((d+1:Nat):Int)-1).toNat=((2^d:Nat):Int):=(by rw[Int.one_mul,<-i5];congr 2;omega);rw[q];have B:aA (2^d)<=900000:=(by have:aA (2^d)<=d+1:=dy.2 (Nat.pow_lt_pow_right aa U);omega);refine aq (Js (x:=((b %2^(d+1):Nat):Int)) (y:=((2^d:Nat):Int)) (by rw[dG];omega) (by rw[dG];omega)) ?_;dsimp only;have r:(if eo ((b %2^(d+1):Nat):Int) ((2^d:Nat):Int)=0/\h=true then 1 else eo ((b %2^(d+1):Nat):Int) ((2^d:Nat):Int))=jm b (d+1) h:=by
  unfold jm eo;have t:2^(d+1)=2*2^d:=(by rw[jD,iB]);generalize b %2^(d+1)=e at*;rw[t];generalize 2^d=i at*;rcases kX e i with f|f|f
  ·rw[ai (U:(e:Int)<(i:Int)),ah ac,ai U]
  ·subst f;have u:(if(e:Int)<(e:Int) then(-1:Int) else if(e:Int)<(e:Int) then 1 else 0)=0:=ac;rw[u,ah (U:¬(2*e<2*e)),ah (U:¬(2*e<2*e))];cases h<;>simp
  rw[ah (U:¬((e:Int)<(i:Int))),ai (U:(i:Int)<(e:Int)),ah ac,ah U,ai U]
 refine aq (y:=(jm b (d+1) h,aM ((b/2^(d+1):Nat):Int),aM ((b %2^(d+1):Nat):Int),())) ?_ ?_
 ·rw[<-r,dB];by_cases f:eo ((b %2^(d+1):Nat):Int) ((2^d:Nat):Int)=0
  ·rw[aB f];cases h
   ·rw[ah (λg=>Bool.false_ne_true g.2)];rfl
   rw[ai ⟨f,rfl⟩];rfl
  rw[az f,ah (λg=>f g.1)];rfl
 refine aq (qw (z:=((b %2^(d+1):Nat):Int)) (h7 (by rw[dG];omega))) ?_;dsimp only;rw[lj];by_cases f:b %2^(d+1)=0
 ·rw[aB (U:((b %2^(d+1):Nat):Int)=0),aB f];cases h<;>rfl
 rw[az (U:¬((b %2^(d+1):Nat):Int)=0),az f];rfl
def yX {n:Nat}:(n≠0/\bx n=0)↔n %2=1:=by
 constructor
 ·rintro⟨c,a⟩;have:=tK (n:=n) (k:=1) U;rw[a,Nat.pow_one] at this;omega
 intro b;refine⟨U,?_⟩;have:=tK (n:=n) (k:=1) U;rw[Nat.pow_one] at this;omega
def UG {f:Int} (A:aA b<=900000) (E:0<b) (K:-1000000<=a-e) (w:a-e<=1000000):AN (nK k b a h,e,f,())=some (aM (if k then-((if e<=a then b*2^(a-e).toNat else g8 k b (e-a).toNat h f:Nat):Int) else((if e<=a then b*2^(a-e).toNat else g8 k b (e-a).toNat h f:Nat):Int)),()):=by
 unfold AN;have v:∀d:Nat,aA d<=2000000->(Option.bind (α:=jF) (
  bif k then
 (q7 (aM (d:Int),())).bind λ(J,_)=>
 some (((false,([],())):dc),J,()) else
 some ((false,([],())),aM (d:Int),())) λ(_,I,_)=>
 some (I,()))=some (aM (if k then-(d:Int) else(d:Int)),()):=λd M=>by
  cases k
  ·rfl
  refine aq (y:=((false,([],())),aM (-(d:Int)),())) ?_ rfl;have L:Fit (d:Int)\/True:=.inr trivial;have B:=gq (z:=(d:Int)) (by rw[dG];omega);refine aq (y:=(aM (-(d:Int)),())) ?_ rfl;unfold q7;refine aq (xd (by have:=B.2.2;omega)) (aq (u5 (k4 _) (by have:=B.2.2;omega)) ?_);have g:=DR (aM (d:Int)).1 (aM (d:Int)).2.1;have w:=ni (d:Int);rw[g];show some (aM (-fj (aM (d:Int))),())=_;rw[w]
 by_cases m:e<=a
 ·rw[ai m];obtain⟨c,j⟩:∃c:Nat,a-e=c:=⟨(a-e).toNat,U⟩;rw[j,db];refine aq (y:=((-1:Int),true,(false,([],())),aM ((b*2^c:Nat):Int),())) ?_ ?_
  ·show(bif decide (e<=a) then _ else _)=_;rw[aB m];refine aq (y:=(aM ((b*2^c:Nat):Int),())) ?_ rfl;show me (aM (b:Int),ar (a-e),())=_;rw[bm U U,vT (by rw[dG];omega) U U,j,db,ja,i5]
  refine aq rfl (aq rfl ?_);exact v _ (dh qX U)
 rw[ah m];obtain⟨c,j⟩:∃c:Nat,e-a=c:=⟨(e-a).toNat,U⟩;rw[j,db];refine aq (y:=(jm b c h,decide (b %2^c=0)&&!h,(false,([],())),aM ((b/2^c:Nat):Int),())) ?_ ?_
 ·show(bif decide (e<=a) then _ else _)=_;rw[az m];refine aq (y:=(aM ((b/2^c:Nat):Int),jm b c h,decide (b %2^c=0)&&!h,())) ?_ rfl;show xq (nK k b a h,ar (e-a),())=_;rw[bm U U,j];exact RE A E U U
 have F:aA (b/2^c)<=900000:=dh (iy (sC _ _)) A;refine aq (y:=(!(decide (b %2^c=0)&&!h)&&uy k (jm b c h) (decide (b/2^c %2=1)) f,(false,([],())),aM ((b/2^c:Nat):Int),())) ?_ ?_
 ·dsimp only;cases i:(decide (b %2^c=0)&&!h) with
  |true=>rfl
  |false=>
   show(bif f==1 then some (k,_,_,()) else _)=_;unfold uy;rw[dB,dB,dB];by_cases p:f=1
   ·rw[aB p,ai p];rfl
   rw[az p,ah p];by_cases q:f=2
   ·rw[aB q,ai q];rfl
   rw[az q,ah q];by_cases r:f=3
   ·rw[aB r,ai r];rfl
   rw[az r,ah r];generalize jm b c h=l;show(bif decide (l>0)==false then _ else _)=_;by_cases u:l>0
   ·rw[aB u];rfl
   rw[az u];show(bif (l==0)==true then _ else _)=_;rw[dB];by_cases t:l=0
   ·rw[aB t];refine aq (qw (z:=((b/2^c:Nat):Int)) (h7 (by rw[dG];omega))) ?_;dsimp only;have C:=yX (n:=b/2^c);rw[b0];by_cases s:b/2^c=0
    ·rw[aB (show dW ((b/2^c:Nat):Int)=0 by rw[s];rfl),az (show¬(b/2^c %2=1) by rw[s];decide)];rfl
    have G:dW ((b/2^c:Nat):Int)≠0:=(by unfold dW;rw[if_neg U];split<;>omega);rw[az G];refine aq (OR (z:=((b/2^c:Nat):Int)) (h7 (by rw[dG];omega)) U) ?_;rw[dG];dsimp only;rw[dB];by_cases D:bx (b/2^c)=0
    ·rw[aB (U:(bx (b/2^c):Int)=0),aB (C.1 ⟨s,D⟩)];rfl
    rw[az (U:¬(bx (b/2^c):Int)=0),az (λg=>D (C.2 g).2)];rfl
   rw[az t];rfl
 dsimp only;refine aq (y:=((false,([],())),aM ((g8 k b c h f:Nat):Int),())) ?_ ?_
 ·unfold g8;by_cases i:b %2^c=0/\h=false
  ·rw[ai i,aB i.1,i.2];rfl
  have H:(decide (b %2^c=0)&&!h)=false:=by
   by_cases g:b %2^c=0
   ·cases h
    ·exact absurd ⟨g,rfl⟩ i
    rw[aB g];rfl
   rw[az g];rfl
  rw[ah i,H];by_cases o:uy k (jm b c h) (decide (b/2^c %2=1)) f=true
  ·rw[ai o,o];refine aq (FE (n:=1) aa aa) ?_;refine aq (El (x:=((b/2^c:Nat):Int)) (y:=1) (by rw[dG];omega) aa) ?_;rfl
  rw[ah o,Bool.eq_false_iff.2 o];rfl
 refine v _ ?_;have:g8 k b c h f<=b/2^c+1:=by
  unfold g8;split
  ·omega
  split<;>omega
 exact dh (iy this) (dh (Ez F (aa:aA 1<=900000)) U)
def zw (b:0<=a) (c:a<9223372036854775808):s2 (a,h,())=some (kP h a,()):=by
 unfold s2 kP;cases h
 ·rfl
 dsimp only;rw[lO 63 b (by exact c) aa U aa aa,Int.add_comm];rfl
def M6:AU (h,a,())=some (m9 h a,()):=by
 unfold AU m9;dsimp only;refine aq (y:=if(a=3\/(a=1/\h=false)\/(a=2/\h=true)) then .inr (kP h 9218868437227405311,()) else .inl ()) ?_ ?_
 ·refine aq (y:=(decide (a=3\/(a=1/\h=false)\/(a=2/\h=true)),())) ?_ ?_
  ·rw[dB,dB,dB];by_cases e:a=3
   ·subst e;simp
   by_cases c:a=1
   ·subst c;cases h<;>simp
   by_cases d:a=2
   ·subst d;cases h<;>simp
   simp[c,d,e]
  dsimp only;by_cases b:(a=3\/(a=1/\h=false)\/(a=2/\h=true))
  ·rw[aB b,ai b];exact aq (zw aa aa) rfl
  rw[az b,ah b];rfl
 by_cases b:(a=3\/(a=1/\h=false)\/(a=2/\h=true))
 ·rw[ai b,ai b]
 rw[ah b,ah b];exact aq (zw aa aa) rfl
def DM {neg rP:Bool} {e kJ:Int} (g:0<b):(if bF b e<=e then b*2^(e-bF b e).toNat else g8 neg b (bF b e-e).toNat rP kJ)<=9007199254740992:=by
 have c:=dy.1 (a2 (aA b));have i:=oH g;have j:e+aA b-53<=bF b e:=(by unfold bF;omega);split
 ·rename_i d;have a:b*2^(e-bF b e).toNat<2^aA b*2^(e-bF b e).toNat:=Nat.mul_lt_mul_of_pos_right c (hS _);rw[<-hf] at a;have h:2^(aA b+(e-bF b e).toNat)<=2^53:=ov aa U;have f:(2:Nat)^53=9007199254740992:=aa;omega
 rename_i d;have a:b/2^(bF b e-e).toNat<2^53:=(by rw[Nat.div_lt_iff_lt_mul (hS _),<-hf];exact he c (ov aa U));have f:(2:Nat)^53=9007199254740992:=aa;unfold g8;split
 ·omega
 split<;>omega
def NP {f:Int} (s:aA b<=800000) (j:0<b) (q:-500000<=a) (r:a<=500000):xA (nK h b a k,f,())=some (iA h b a k f,()):=by
 have t:=oH j;have u:=DM (neg:=h) (rP:=k) (kJ:=f) (e:=a) j;have o:iA h b a k f=lf h (if bF b a<=a then b*2^(a-bF b a).toNat else g8 h b (bF b a-a).toNat k f) (bF b a) f:=(by unfold iA;split<;>rfl);have p:bF b a=if(-1074:Int)>a+aA b-1-52 then-1074 else a+aA b-1-52:=by unfold bF;split<;>omega
 have w:-1074<=bF b a:=(by unfold bF;omega);have A:bF b a<=1400000:=(by unfold bF;omega);unfold xA;refine aq (T3 U U U) ?_;dsimp only;rw[bm U U,<-p,o];refine aq (UG U j ?_ ?_) ?_
 ·unfold bF;omega
 ·unfold bF;omega
 generalize(if bF b a<=a then b*2^(a-bF b a).toNat else g8 h b (bF b a-a).toNat k f)=c at*;generalize bF b a=d at*;have v:aA c<=54:=dy.2 U;have n:(if h then-(c:Int) else(c:Int)).natAbs=c:=(by cases h<;>simp);refine aq (Ej (h7 (by rw[n];omega))) ?_;rw[n];refine aq (Tv (z:=(c:Int)) U U) ?_;dsimp only;rw[b2 (x:=(c:Int)) U U,dB];show Option.bind _ _=some (lf h c d f,());unfold lf;by_cases l:c=9007199254740992
 ·rw[aB (U:(c:Int)=9007199254740992),ah (U:¬c<4503599627370496),ai l];refine aq (y:=(d+1,4503599627370496,())) ?_ ?_
  ·show some (aY d,4503599627370496,())=_;unfold aY;rw[wrap64 U U]
  dsimp only;rw[az (U:¬((4503599627370496:Int)<4503599627370496)),bm U U,cond_false,br];split
  ·rename_i i;exact aq M6 rfl
  rename_i i;rw[b2 U U,mC aa aa,show(2:Int)^(52:Int).toNat=4503599627370496 from rfl,aG];have al:aJ (4503599627370496-4503599627370496)=0:=(by rw[b2 U U];omega);have g:(d+1+1075)*4503599627370496 %18446744073709551616=(d+1+1075)*4503599627370496:=U;rw[al,g,y6,lO 52 aa aa U aa U U,qK];exact aq (zw U U) rfl
 rw[az (U:¬(c:Int)=9007199254740992)];refine aq (y:=(d,(c:Int),())) rfl ?_;dsimp only;rw[br];by_cases m:c<4503599627370496
 ·rw[ai (U:(c:Int)<4503599627370496),ai m];exact aq (zw U U) rfl
 rw[ah (U:¬(c:Int)<4503599627370496),ah m,ah l,bm U U,br];split
 ·rename_i i;exact aq M6 rfl
 rename_i i;rw[b2 (x:=d+1075) U U,mC aa aa,show(2:Int)^(52:Int).toNat=4503599627370496 from rfl,Option.bind_some,b2 (x:=(c:Int)-4503599627370496) U U];have g:(d+1075)*4503599627370496 %18446744073709551616=(d+1075)*4503599627370496:=U;rw[g,y6,lO 52 U U U U U U];refine aq (zw U U) ?_;dsimp only;congr 3;omega
def lh (c d:adZ) (e:Int):Int:=match c,d with
 |some a,some b=>if b=0 then 9221120237041090560 else if a=0 then 0 else r2 a b e
 |_,_=>9221120237041090560
def js (b:adZ) (c:Int):Int:=match b with
 |some a=>if a<0 then 9221120237041090560 else if a=0 then 0 else nY a c
 |none=>9221120237041090560
def yW (a:Int):(aM (a7 a)).1=decide (a<0):=by show decide (a7 a<0)=_;rw[decide_eq_decide];exact we
def Ye (i:e2 a) (j:e2 e) (o:a≠0) (p:e≠0) (k:Int):∃d f l,AL (a8 (some a),a8 (some e),56,())=some (nK (decide (a<0)!=decide (e<0)) d f l,())/\0<d/\aA d<=800000/\-500000<=f/\f<=500000/\iA (decide (a<0)!=decide (e<0)) d f l k=r2 a e k:=by
 have v:=i6 i;have w:=i6 j;have z:=iK i;have A:=iK j;have t:0<(a7 a).natAbs:=(by have:=ia o;omega);have u:0<(a7 e).natAbs:=(by have:=ia p;omega);obtain⟨b,g⟩:∃b,b=lP (a7 a).natAbs (a7 e).natAbs:=⟨_,rfl⟩;have C:b<=131131:=(by rw[g];unfold lP;omega);have h:58<=aA ((a7 a).natAbs*2^b/(a7 e).natAbs):=Dg t u (by rw[g];unfold lP;omega);have B:aA ((a7 a).natAbs*2^b)<=262203:=(by have:=qX (m:=(a7 a).natAbs) (n:=b);omega);refine⟨(a7 a).natAbs*2^b/(a7 e).natAbs,bz a-b-bz e,decide ((a7 a).natAbs*2^b %(a7 e).natAbs≠0),?_,?_,?_,U,U,?_⟩
 ·unfold AL;rw[gT,gT];refine aq (sP (h7 U)) (aq (sP (h7 U)) (aq (Ej (h7 U)) ?_));dsimp only;have al:(if ar (ar (ar (56+3)+(aA (a7 e).natAbs:Int))-(aA (a7 a).natAbs:Int))>0 then ar (ar (ar (56+3)+(aA (a7 e).natAbs:Int))-(aA (a7 a).natAbs:Int)) else 0)=(b:Int):=by
   rw[bm (x:=56+3) aa aa,bm (x:=56+3+(aA (a7 e).natAbs:Int)) U U,bm U U,g];unfold lP;split<;>omega
  rw[al];refine aq (vT (m:=((a7 a).natAbs:Int)) (by rw[dG];omega) U U) (aq (Ej (h7 U)) ?_);have q:((a7 a).natAbs:Int)*2^(b:Int).toNat=(((a7 a).natAbs*2^b:Nat):Int):=(by rw[Int.toNat_natCast,<-i5,<-Int.natCast_mul]);rw[q];refine aq (RN (x:=(((a7 a).natAbs*2^b:Nat):Int)) (y:=((a7 e).natAbs:Int)) (by rw[dG];omega) (by rw[dG];omega) U U) ?_;rw[<-Int.natCast_ediv,<-Int.natCast_emod];have D:aA ((a7 a).natAbs*2^b %(a7 e).natAbs)<=900000:=Nat.le_trans (iy (Nat.mod_le _ _)) U;refine aq (qw (h7 (by rw[dG];omega))) ?_;dsimp only;rw[bm (x:=bz a-(b:Int)) U U,bm U U,yW,yW];unfold nK;have r:(dW (((a7 a).natAbs*2^b %(a7 e).natAbs:Nat):Int)!=0)=decide ((a7 a).natAbs*2^b %(a7 e).natAbs≠0):=by
   show(!(dW (((a7 a).natAbs*2^b %(a7 e).natAbs:Nat):Int)==0))=_;rw[lj];by_cases c:(a7 a).natAbs*2^b %(a7 e).natAbs=0
   ·rw[aB U,az (λs=>s c)];rfl
   rw[az U,aB c];rfl
  rw[r];rfl
 ·rcases gk ((a7 a).natAbs*2^b/(a7 e).natAbs) with c|c
  ·rw[c] at h;exact absurd h aa
  exact c
 ·exact dh (iy (sC _ _)) U
 unfold r2 qr;rw[<-g];congr 1;unfold bz;rw[ah o,ah p];omega
def Ko (f:ec m) (e:ec g):xy (a8 m,a8 g,a,())=some (lh m g a,()):=by
 unfold xy;refine aq (yj f) (aq (yj e) ?_);dsimp only;rw[tr,tr];cases m with
 |none=>cases g<;>rfl
 |some c=>
  cases g with
  |none=>rfl
  |some b=>
   by_cases d:b=0
   ·subst d;refine aq (y:=.inr (9221120237041090560,())) ?_ rfl;refine aq (y:=(true,a8 (some c),a8 (some 0),())) ?_ rfl;refine aq (mV e) ?_;rfl
   by_cases h:c=0
   ·subst h;refine aq (y:=.inr (0,())) ?_ ?_
    ·refine aq (y:=(false,a8 (some 0),a8 (some b),())) ?_ ?_
     ·refine aq (mV e) ?_;dsimp only;rw[show n0 (some b)=dW b from rfl,lj,az d]
     refine aq (mV f) ?_;rfl
    unfold lh;simp only;rw[ah d];rfl
   obtain⟨p,q,r,i,j,k,l,n,o⟩:=Ye (f c rfl) (e b rfl) h d a;refine aq (y:=.inl (a8 (some c),a8 (some b),())) ?_ ?_
   ·refine aq (y:=(false,a8 (some c),a8 (some b),())) ?_ ?_
    ·refine aq (mV e) ?_;dsimp only;rw[show n0 (some b)=dW b from rfl,lj,az d]
    refine aq (mV f) ?_;dsimp only;rw[show n0 (some c)=dW c from rfl,lj,az h];rfl
   refine aq i (aq (NP k j l n) ?_);unfold lh;simp only;rw[ah d,ah h,o]
def YF (r:e2 a) (I:0<a) (s:Int):∃g h t,AO (a8 (some a),56,())=some (nK false g h t,())/\0<g/\aA g<=800000/\-500000<=h/\h<=500000/\iA false g h t s=nY a s:=by
 have A:=i6 r;have J:=iK r;have u:a≠0:=U;have O:0<a7 a:=(by have:=we (v:=a);have:=ia u;omega);obtain⟨b,B⟩:∃b:Nat,a7 a=b:=⟨(a7 a).toNat,U⟩;have o:(a7 a).natAbs=b:=U;rw[o] at A;have C:0<b:=U;have E:bz a=eQ a:=(by unfold bz;rw[ah u]);obtain⟨c,f⟩:∃c,c=iL b (bz a):=⟨_,rfl⟩;have L:c<=119:=(by rw[f];unfold iL;split<;>omega);have M:118<=aA b+c:=(by rw[f];unfold iL;split<;>omega);have N:(bz a-c) %2=0:=(by rw[f];unfold iL;split<;>omega);have K:aA (b*2^c)<=131191:=(by have:=qX (m:=b) (n:=c);omega);have q:58<=aA (bH (b*2^c)):=yC (by rw[lE C];omega);have F:bH (b*2^c)<=b*2^c:=by
  obtain⟨H,R⟩:=qd (b*2^c);rcases gk (bH (b*2^c)) with d|d
  ·omega
  exact dh (Nat.le_mul_of_pos_left _ d) H
 have P:=iy F;refine⟨bH (b*2^c),(bz a-c)/2,decide (bH (b*2^c)*bH (b*2^c)≠b*2^c),?_,?_,U,U,U,?_⟩
 ·unfold AO;rw[gT,B];refine aq (sP (h7 (by rw[dG];omega))) ?_;rw[dG];dsimp only;have al:(if ar (ar (2*ar (56+3))-(aA b:Int))>0 then ar (ar (2*ar (56+3))-(aA b:Int)) else 0)=((118-aA b:Nat):Int):=by
   rw[bm (x:=56+3) aa aa,bm (x:=2*(56+3)) aa aa,bm U U];split<;>omega
  rw[al];refine aq (y:=((c:Int),(false,((false,([],())),((0:Int),(false,())))),())) ?_ ?_
  ·rw[bm U U];refine aq (y:=(bz a-((118-aA b:Nat):Int)).tmod 2) (by unfold gM;rw[ai aa]) ?_;rw[b0];have p:((bz a-((118-aA b:Nat):Int)).tmod 2=0)↔((bz a-((118-aA b:Nat):Int)) %2=0):=by
    constructor
    ·intro e;have:=Int.dvd_of_tmod_eq_zero e;omega
    intro e;exact Int.tmod_eq_zero_of_dvd (Int.dvd_of_emod_eq_zero e)
   by_cases d:(bz a-((118-aA b:Nat):Int)) %2=0
   ·rw[aB (p.2 d)];show some (((118-aA b:Nat):Int),_,())=_;rw[f];unfold iL;rw[ai d]
   rw[az (λe=>d (p.1 e))];show some (aY ((118-aA b:Nat):Int),_,())=_;rw[bt U,f];unfold iL;rw[ah d]
  dsimp only;refine aq (vT (m:=(b:Int)) (k:=(c:Int)) (by rw[dG];omega) U U) ?_;have w:(b:Int)*2^(c:Int).toNat=((b*2^c:Nat):Int):=(by rw[Int.toNat_natCast,<-i5,<-Int.natCast_mul]);rw[w];refine aq (Zt (x:=((b*2^c:Nat):Int)) (by rw[dG];omega) U) ?_;rw[Int.toNat_natCast];dsimp only;rw[bm U U];refine aq (y:=(bz a-c)/2) ?_ ?_
  ·unfold gL;have:(bz a-(c:Int)).tdiv 2=(bz a-(c:Int))/2:=by
    obtain⟨j,D⟩:∃j,bz a-(c:Int)=2*j:=⟨(bz a-(c:Int))/2,U⟩;rw[D,Int.mul_tdiv_cancel_left _ aa,DZ _ aa]
   rw[ai aa,this,wrap64 U U]
  refine aq (LH (x:=(bH (b*2^c):Int)) (y:=(bH (b*2^c):Int)) (by rw[dG];omega) (by rw[dG];omega)) ?_;rw[<-Int.natCast_mul];have Q:aA (bH (b*2^c)*bH (b*2^c))<=900000:=(by have:=oG (k:=131191) (l:=131191) (U:aA (bH (b*2^c))<=131191) (U:aA (bH (b*2^c))<=131191);omega);refine aq (Js (x:=((bH (b*2^c)*bH (b*2^c):Nat):Int)) (y:=((b*2^c:Nat):Int)) (by rw[dG];omega) (by rw[dG];omega)) ?_;dsimp only;unfold nK;have z:(eo ((bH (b*2^c)*bH (b*2^c):Nat):Int) ((b*2^c:Nat):Int)!=0)=decide (bH (b*2^c)*bH (b*2^c)≠b*2^c):=by
   rw[b0];generalize bH (b*2^c)*bH (b*2^c)=i;generalize b*2^c=G;by_cases d:i=G
   ·subst d;rw[az (show¬(i≠i) fromλe=>e rfl),aB (by unfold eo;rw[ah U,ah U])];rfl
   rw[aB d,az (by unfold eo;split;omega;split<;>omega)];rfl
  rw[z]
 ·rcases gk (bH (b*2^c)) with d|d
  ·rw[d] at q;exact absurd q aa
  exact d
 unfold nY o8;rw[o,<-E,<-f]
def Kr (c:ec g):xz (a8 g,a,())=some (js g a,()):=by
 unfold xz;refine aq (yj c) ?_;dsimp only;rw[tr];cases g with
 |none=>rfl
 |some b=>
  have e:n0 (some b)=dW b:=rfl;by_cases d:b<0
  ·refine aq (y:=.inr (9221120237041090560,())) ?_ ?_
   ·refine aq (y:=(true,a8 (some b),())) ?_ rfl;refine aq (mV c) ?_;dsimp only;rw[e,aB (show dW b<0 by unfold dW;rw[if_neg U,if_pos d];decide)]
   unfold js;simp only;rw[ai d]
  have n:decide (dW b<0)=false:=az (by unfold dW;split;omega;first|decide|(split<;>omega));by_cases f:b=0
  ·subst f;refine aq (y:=.inr (0,())) ?_ rfl;refine aq (y:=(false,a8 (some 0),())) ?_ ?_
   ·exact aq (mV c) rfl
   exact aq (mV c) rfl
  obtain⟨o,p,q,h,i,j,k,l,m⟩:=YF (c b rfl) U a;refine aq (y:=.inl (a8 (some b),())) ?_ ?_
  ·refine aq (y:=(false,a8 (some b),())) ?_ ?_
   ·refine aq (mV c) ?_;dsimp only;rw[e,n]
   refine aq (mV c) ?_;dsimp only;rw[e,lj,az f];rfl
  refine aq h (aq (NP j i k l) ?_);unfold js;simp only;rw[ah d,ah f,m]
def YX:pX (aM 0,())=some (0,()):=by
 unfold pX;refine aq (r6 (l:=[]) aP.nil (λf b=>by cases b) aa) ?_;refine ae.eq_iff.1 (ae.aU (P:=λd=>d=.inl ()) ?_ ?_)
 ·refine ae.steps 0 (λc a=>a=((0:Int),())) rfl (λc a e=>by omega) ?_;rintro _ rfl;exact ae.ag.2 rfl
 rintro _ rfl;exact ae.ag.2 rfl
def NM {n:Nat} (e:aA n<=900000):∃c,pX (aM (n:Int),())=some (c,())/\((c=0/\n≠0)↔n %2=1):=by
 by_cases d:n=0
 ·subst d;exact⟨0,YX,ac⟩
 refine⟨(bx n:Int),?_,?_⟩
 ·have:=NU (z:=(n:Int)) (by rw[dG];omega) U;rw[dG] at this;exact this
 rw[<-yX];constructor
 ·rintro⟨a,b⟩;exact⟨b,U⟩
 rintro⟨a,b⟩;exact⟨U,a⟩
def Z9:BH (k,e,h,a,())=some (uy k e h a,()):=by
 unfold BH uy;dsimp only;rw[dB,dB,dB,dB];by_cases b:a=1
 ·rw[aB b,ai b];rfl
 rw[az b,ah b];by_cases c:a=2
 ·rw[aB c,ai c];rfl
 rw[az c,ah c];by_cases d:a=3
 ·rw[aB d,ai d];rfl
 rw[az d,ah d];by_cases g:e>0
 ·rw[aB g];rfl
 rw[az g];by_cases f:e=0
 ·rw[aB f];cases h<;>rfl
 rw[az f];rfl
def Yg (D:aA b<=800000) (F:c<=1000000):BC (k,aM (b:Int),(c:Int),h,a,())=some (aM ((g8 k b c h a:Nat):Int),()):=by
 unfold BC;have w:∀g:Nat,(b:Int)/2^g=((b/2^g:Nat):Int):=λg=>(by rw[<-i5,<-Int.natCast_ediv]);have A:∀g:Nat,decide (((b:Int).natAbs:Int) %2^g≠0)=decide (b %2^g≠0):=λg=>(by rw[dG,<-i5,<-Int.natCast_emod,decide_eq_decide];omega);have l:∀g,aA (b/2^g)<=800000:=λg=>Nat.le_trans (iy (Nat.div_le_self _ _)) D;refine aq (He (m:=(b:Int)) (n:=c) (by rw[dG];omega) U) ?_;rw[w];refine aq (NF (z:=(b:Int)) (n:=c) (by rw[dG];omega) U) ?_;rw[A];dsimp only;by_cases o:b %2^c=0/\h=false
 ·refine aq (y:=.inr (aM ((b/2^c:Nat):Int),())) ?_ ?_
  ·rw[az (λe=>e o.1),o.2];rfl
  unfold g8;rw[ai o]
 refine aq (y:=.inl ((false,([],())),aM ((b/2^c:Nat):Int),())) ?_ ?_
 ·by_cases e:b %2^c=0
  ·have:h=true:=by
    cases h
    ·exact absurd ⟨e,rfl⟩ o
    rfl
   rw[az (λC=>C e),this];rfl
  rw[aB e];rfl
 dsimp only;refine aq (y:=(jm b c h,(false,([],())),aM ((b/2^c:Nat):Int),())) ?_ ?_
 ·rw[br];split
  ·rename_i e;obtain⟨d,rfl⟩:∃d,c=d+1:=⟨c-1,U⟩;have B:ar (((d+1:Nat):Int)-1)=(d:Int):=(by rw[bm U U];omega);rw[B];refine aq (He (m:=(b:Int)) (n:=d) (by rw[dG];omega) U) ?_;rw[w];obtain⟨v,u,j⟩:=NM (n:=b/2^d) (by have:=l d;omega);have r:=Gq b d 1;rw[Nat.pow_one] at r;have E:=ot b (hS d);have G:2^(d+1)=2*2^d:=(by rw[jD,iB]);refine aq (y:=(decide (b/2^d %2=1),(false,([],())),aM ((b/2^(d+1):Nat):Int),())) ?_ ?_
   ·refine aq u ?_;dsimp only;rw[dB];by_cases i:v=0
    ·rw[aB i];refine aq (kO (z:=((b/2^d:Nat):Int)) (by rw[dG];have:=l d;omega)) ?_;dsimp only;have q:(dW ((b/2^d:Nat):Int)!=0)=decide (b/2^d %2=1):=by
      show(!(dW ((b/2^d:Nat):Int)==0))=_;rw[lj];by_cases f:b/2^d=0
      ·rw[aB U,az (λe=>(j.2 e).2 f)];rfl
      rw[az U,aB (j.1 ⟨i,f⟩)];rfl
     rw[q]
    rw[az i,az (λe=>i (j.2 e).1)];rfl
   dsimp only;unfold jm;by_cases s:b/2^d %2=1
   ·rw[aB s];have t:b %2^(d+1)=2^d+b %2^d:=(by rw[r,s,hD]);rw[t,ah U];cases h
    ·show(Option.bind _ _)=_;refine aq (NF (z:=(b:Int)) (n:=d) (by rw[dG];omega) U) ?_;rw[A];dsimp only;by_cases f:b %2^d=0
     ·rw[az (λe=>e f),f,ah U];rfl
     rw[aB f,ai U];rfl
    show some (1,_,_,())=_;split<;>rfl
   rw[az s];have t:b %2^(d+1)=b %2^d:=(by rw[r,(U:b/2^d %2=0),mJ,jg]);rw[t,ai U];rfl
  rename_i e;obtain rfl:c=0:=U;unfold jm;rw[ai (by rw[Nat.pow_zero,Nat.mod_one];decide)]
 dsimp only;obtain⟨v,u,j⟩:=NM (n:=b/2^c) (by have:=l c;omega);refine aq (y:=(decide (b/2^c %2=1),(false,([],())),aM ((b/2^c:Nat):Int),())) ?_ ?_
 ·refine aq (kO (z:=((b/2^c:Nat):Int)) (by rw[dG];have:=l c;omega)) ?_;dsimp only;have q:(dW ((b/2^c:Nat):Int)!=0)=decide (b/2^c≠0):=by
   show(!(dW ((b/2^c:Nat):Int)==0))=_;rw[lj];by_cases f:b/2^c=0
   ·rw[aB U,az (λe=>e f)];rfl
   rw[az U,aB f];rfl
  rw[q];by_cases f:b/2^c=0
  ·rw[az (λe=>e f),az (λe=>(j.2 e).2 f)];rfl
  rw[aB f];refine aq u ?_;dsimp only;rw[dB];by_cases i:v=0
  ·rw[aB i,aB (j.1 ⟨i,f⟩)]
  rw[az i,az (λe=>i (j.2 e).1)]
 dsimp only;refine aq (y:=((false,([],())),aM ((g8 k b c h a:Nat):Int),())) ?_ rfl;refine aq Z9 ?_;dsimp only;unfold g8;rw[if_neg o];by_cases p:uy k (jm b c h) (decide (b/2^c %2=1)) a=true
 ·rw[ai p,p];refine aq (Dr (n:=1) aa aa) ?_;refine aq (zc (x:=((b/2^c:Nat):Int)) (y:=1) (by rw[dG];have:=l c;omega) aa) ?_;rfl
 rw[ah p,Bool.eq_false_iff.2 p];rfl
def zl (b:0<=a) (c:a<9223372036854775808):pY (h,a,())=some (kP h a,()):=by
 unfold pY kP;cases h
 ·rfl
 dsimp only;rw[lO 63 b (by exact c) aa U aa aa,Int.add_comm];rfl
def Hj:x4 (h,a,())=some (m9 h a,()):=by
 unfold x4 m9;dsimp only;refine aq (y:=if(a=3\/(a=1/\h=false)\/(a=2/\h=true)) then .inr (kP h 9218868437227405311,()) else .inl ()) ?_ ?_
 ·refine aq (y:=(decide (a=3\/(a=1/\h=false)\/(a=2/\h=true)),())) ?_ ?_
  ·rw[dB,dB,dB];by_cases e:a=3
   ·subst e;simp
   by_cases c:a=1
   ·subst c;cases h<;>simp
   by_cases d:a=2
   ·subst d;cases h<;>simp
   simp[c,d,e]
  dsimp only;by_cases b:(a=3\/(a=1/\h=false)\/(a=2/\h=true))
  ·rw[aB b,ai b];exact aq (zl aa aa) rfl
  rw[az b,ah b];rfl
 by_cases b:(a=3\/(a=1/\h=false)\/(a=2/\h=true))
 ·rw[ai b,ai b]
 rw[ah b,ah b];exact aq (zl aa aa) rfl
def Z7 {neg rP:Bool} {e kJ:Int} (c:0<b) (k:-1074<bF b e):4503599627370496<=(if bF b e<=e then b*2^(e-bF b e).toNat else g8 neg b (bF b e-e).toNat rP kJ):=by
 obtain⟨d,i⟩:=u9 c;have j:=oH c;have l:bF b e=e+aA b-53:=(by unfold bF at*;omega);have h:(2:Nat)^52=4503599627370496:=aa;split
 ·rename_i f;have a:2^(aA b-1)*2^(e-bF b e).toNat<=b*2^(e-bF b e).toNat:=fP _ d;rw[<-hf] at a;have g:2^52<=2^(aA b-1+(e-bF b e).toNat):=ov aa U;omega
 rename_i f;have a:2^52<=b/2^(bF b e-e).toNat:=(by rw[zY (hS _),<-hf];exact dh (ov aa U) d);unfold g8;split
 ·omega
 split<;>omega
def Hk {f:Int} (u:aA b<=800000) (m:0<b) (E:-500000<=a) (F:a<=500000) (B:k=true->54<=aA b):vF (h,aM (b:Int),a,k,f,())=some (iA h b a k f,()):=by
 have G:=oH m;have H:=DM (neg:=h) (rP:=k) (kJ:=f) (e:=a) m;have q:=Z7 (neg:=h) (rP:=k) (kJ:=f) (e:=a) m;have r:iA h b a k f=lf h (if bF b a<=a then b*2^(a-bF b a).toNat else g8 h b (bF b a-a).toNat k f) (bF b a) f:=(by unfold iA;split<;>rfl);have s:bF b a=if(-1074:Int)>a+aA b-1-52 then-1074 else a+aA b-1-52:=by unfold bF;split<;>omega
 have I:-1074<=bF b a:=(by unfold bF;omega);have J:bF b a<=1400000:=(by unfold bF;omega);have C:-1000000<=bF b a-a:=(by unfold bF;omega);have D:bF b a-a<=1000000:=(by unfold bF;omega);unfold vF;refine aq (ug (z:=(b:Int)) (by rw[dG];omega)) ?_;rw[dG];dsimp only;rw[bm (x:=a+(aA b:Int)) U U,bm (x:=a+(aA b:Int)-1) U U,bm (x:=a+(aA b:Int)-1-52) U U,<-s,r,br];split
 ·rename_i v;have K:972<=bF b a:=(by unfold bF;omega);have q:=q U;refine aq Hj ?_;clear s r C D;generalize(if bF b a<=a then b*2^(a-bF b a).toNat else g8 h b (bF b a-a).toNat k f)=d at*;unfold lf;rw[ah U];by_cases j:d=9007199254740992
  ·rw[ai j,ai U]
  rw[ah j,ai U]
 rename_i v;refine aq (y:=(aM ((if bF b a<=a then b*2^(a-bF b a).toNat else g8 h b (bF b a-a).toNat k f:Nat):Int),())) ?_ ?_
 ·rw[br];split
  ·rename_i g;obtain⟨i,o⟩:∃i:Nat,bF b a-a=i:=⟨(bF b a-a).toNat,U⟩;rw[bm (x:=bF b a-a) U U,o,Int.toNat_natCast];refine aq (Yg u U) ?_;dsimp only;by_cases t:bF b a<=a
   ·have w:i=0:=U;have A:k=false:=by
     cases k
     ·rfl
     have:=B rfl;exfalso;unfold bF at*;omega
    rw[ai t,w];unfold g8;rw[ai ⟨by rw[Nat.pow_zero,Nat.mod_one],A⟩,(U:(a-bF b a).toNat=0)];simp
   rw[ah t]
  rename_i g;obtain⟨i,o⟩:∃i:Nat,a-bF b a=i:=⟨(a-bF b a).toNat,U⟩;rw[bm (x:=a-bF b a) U U,ai U,o,db];refine aq (zk (z:=(b:Int)) (n:=i) (by rw[dG];omega) U) ?_;rw[ja,i5]
 generalize(if bF b a<=a then b*2^(a-bF b a).toNat else g8 h b (bF b a-a).toNat k f)=d at*;generalize bF b a=c at*;dsimp only;refine aq (YA (z:=(d:Int)) U U) ?_;dsimp only;rw[dB];unfold lf;by_cases j:d=9007199254740992
 ·rw[aB (U:(d:Int)=9007199254740992),ah (U:¬d<4503599627370496),ai j];refine aq (y:=(c+1,4503599627370496,())) ?_ ?_
  ·show some (aY c,4503599627370496,())=_;unfold aY;rw[wrap64 U U]
  dsimp only;rw[bm (x:=c+1+53) U U,aB (U:(4503599627370496:Int)>=4503599627370496)];by_cases g:c+1+1075>=2047
  ·rw[ai g];refine aq (y:=.inr (m9 h f,())) ?_ rfl;refine aq (y:=(true,())) ?_ (aq Hj rfl);rw[aB (U:c+1+53>1024)];rfl
  rw[ah g];refine aq (y:=.inr (kP h ((c+1+1075)*4503599627370496),())) ?_ rfl;refine aq (y:=(false,())) ?_ ?_
  ·rw[az (U:¬c+1+53>1024)];rfl
  dsimp only;rw[bm (x:=c+1+1075) U U,b2 (x:=c+1+1075) U U,mC aa aa,show(2:Int)^(52:Int).toNat=4503599627370496 from rfl];have al:aJ (ar (4503599627370496-4503599627370496))=0:=(by rw[bm U U,b2 U U];omega);have l:(c+1+1075)*4503599627370496 %18446744073709551616=(c+1+1075)*4503599627370496:=U;rw[al,l];show((pY (h,eL IntKind.u64 ((c+1+1075)*4503599627370496) 0,())).bind _)=_;rw[y6,lO 52 aa aa U aa U U,Int.zero_add];exact aq (zl U U) rfl
 rw[az (U:¬(d:Int)=9007199254740992)];refine aq (y:=(c,(d:Int),())) rfl ?_;dsimp only;rw[bm (x:=c+53) U U];by_cases p:d<4503599627370496
 ·rw[az (U:¬((d:Int)>=4503599627370496)),ai p,b2 (x:=(d:Int)) U U];refine aq (y:=.inl ()) ?_ ?_
  ·exact aq rfl rfl
  exact aq (zl U U) rfl
 rw[aB (U:((d:Int)>=4503599627370496)),ah p,ah j];by_cases g:c+1075>=2047
 ·rw[ai g];refine aq (y:=.inr (m9 h f,())) ?_ rfl;refine aq (y:=(true,())) ?_ (aq Hj rfl);rw[aB (U:c+53>1024)];rfl
 rw[ah g];refine aq (y:=.inr (kP h ((c+1075)*4503599627370496+((d:Int)-4503599627370496)),())) ?_ rfl;refine aq (y:=(false,())) ?_ ?_
 ·rw[az (U:¬c+53>1024)];rfl
 dsimp only;rw[bm (x:=c+1075) U U,b2 (x:=c+1075) U U,mC aa aa,show(2:Int)^(52:Int).toNat=4503599627370496 from rfl];have al:aJ (ar ((d:Int)-4503599627370496))=(d:Int)-4503599627370496:=(by rw[bm U U,b2 U U]);have l:(c+1075)*4503599627370496 %18446744073709551616=(c+1075)*4503599627370496:=U;rw[al,l];show((pY (h,eL IntKind.u64 ((c+1075)*4503599627370496) ((d:Int)-4503599627370496),())).bind _)=_;rw[y6,lO 52 U U U U U U];refine aq (zl U U) ?_;dsimp only;congr 4;omega
def IH (b:ez a):dk IntKind.u64 a 52=some (a/4503599627370496)/\dr IntKind.u64 (a/4503599627370496) 2047=bG a/\dr IntKind.u64 a 4503599627370495=e8 a:=by
 have c:=b.1;have d:=b.2;refine⟨?_,?_,?_⟩
 ·rw[r8 aa aa];rfl
 ·rw[qS 11 U U 2047 aa aa];rfl
 rw[qS 52 U U 4503599627370495 aa aa];rfl
def Ds (d:ez a):te (a,())=some (!decide (bG a=2047),()):=by obtain⟨b,c,e⟩:=IH d;unfold te;refine aq b ?_;rw[c,b0]
def YB (b:ez a):BI (a,())=some (decide (9223372036854775808<=a),()):=by unfold BI;dsimp only;rw[I9 b]
def zj (g:ez a):rc (a,())=some (a8 (dJ a),()):=by
 obtain⟨i,j,k⟩:=IH g;have t:=yp a;have s:=yo a;unfold rc dJ;refine aq (Ds g) ?_;dsimp only;by_cases f:bG a=2047
 ·rw[aB f,ai f];rfl
 rw[az f,ah f,show(!!false)=false from rfl,cond_false,i,aG,j,k,bm (x:=bG a) U U];obtain⟨c,e,l,n,o,p,q,h⟩:∃c e,(bif decide (bG a>0) then some (eL IntKind.u64 (e8 a) 4503599627370496,ar (bG a-1075),((false,((false,([],())),((0:Int),()))):bX),()) else some (e8 a,(-1074:Int),(false,((false,([],())),((0:Int),()))),()))=some (c,e,(false,((false,([],())),((0:Int),()))),())/\0<=c/\c<9007199254740992/\-1074<=e/\e<=972/\(c=(if bG a=0 then e8 a else e8 a+4503599627370496)/\e=(if bG a=0 then-1074 else bG a-1075)):=by
  by_cases d:bG a=0
  ·refine⟨e8 a,-1074,?_,U,U,U,U,by rw[ai d],by rw[ai d]⟩;rw[az (U:¬bG a>0)];rfl
  refine⟨e8 a+4503599627370496,bG a-1075,?_,U,U,U,U,by rw[ah d],by rw[ah d]⟩;rw[aB (U:bG a>0),bm U U,lO 52 U U U U U aa];rfl
 rw[<-h.1,<-h.2];refine aq l ?_;dsimp only;refine aq (YB g) ?_;rw[lS,Option.bind_some];dsimp only;rw[n7 c,jY (x:=c/4294967296) U U];have r:aA c.natAbs<=53:=dy.2 U;refine aq (NG (b:=(decide (9223372036854775808<=a),[c %4294967296,c/4294967296],())) (m:=if a<9223372036854775808 then c else-c) (aP.cons.2 ⟨⟨U,U⟩,aP.cons.2 ⟨⟨U,U⟩,aP.nil⟩⟩) ac ?_ ?_ U U) rfl
 ·unfold fj;simp only[af];by_cases d:a<9223372036854775808
  ·rw[az (U:¬(9223372036854775808<=a)),ai d,ah ac];omega
  rw[aB (U:9223372036854775808<=a),ah d,ai rfl];omega
 split
 ·omega
 rw[qH];omega
def nX (a:adZ) (b:Int):Int:=match a with
 |none=>9221120237041090560
 |some c=>zi c b
def NQ (d:ec g):x3 (a8 g,a,())=some (nX g a,()):=by
 unfold x3;refine aq (o6 d) ?_;dsimp only;rw[tr];cases g with
 |none=>rfl
 |some c=>
  have e:=d c rfl;have i:=i6 e;have j:=iK e;rw[gT];refine aq (kO U) ?_;dsimp only;rw[lj];unfold nX zi;by_cases b:c=0
  ·subst b;rw[aB (show a7 0=0 from rfl)];rfl
  rw[az (ia b)];simp only;rw[if_neg b,cond_false];have h:0<(a7 c).natAbs:=(by have:=ia b;omega);refine aq (zb U) ?_;dsimp only;rw[yW];refine aq (Hk U h U U (λf=>by cases f)) ?_;unfold bz;rw[if_neg b]
def KQ (a:Int):ec (lJ a):=Gn a 0
def Dq (b:-9223372036854775808<=a) (c:a<=9223372036854775807):td (a,e,())=some (nX (lJ a) e,()):=by unfold td;exact aq (Ns b c) (aq (NQ (KQ a)) rfl)
def YT (j:0<b) (k:0<c) (h:aA b<=131072) (i:aA c<=131072):∃a,lP b c<=a/\a<=140000/\BE (aM (b:Int),aM (c:Int),60,())=some (aM ((b*2^a/c:Nat):Int),-(a:Int),decide (b*2^a %c≠0),()):=by
 obtain⟨a,l⟩:∃a,a=62+aA c-aA b:=⟨_,rfl⟩;have o:a<=131134:=U;have p:aA (b*2^a)<=262206:=(by have:=qX (m:=b) (n:=a);omega);refine⟨a,by unfold lP;omega,U,?_⟩;unfold BE;refine aq (ug (z:=(c:Int)) (by rw[dG];omega)) (aq (ug (z:=(b:Int)) (by rw[dG];omega)) ?_);rw[dG,dG];dsimp only;have al:(if 0>ar (ar (ar (60+2)+(aA c:Int))-(aA b:Int)) then 0 else ar (ar (ar (60+2)+(aA c:Int))-(aA b:Int)))=(a:Int):=(by rw[bm (x:=60+2) aa aa,bm (x:=60+2+(aA c:Int)) U U,bm U U];split<;>omega);rw[al];refine aq (zk (z:=(b:Int)) (n:=a) (by rw[dG];omega) U) ?_;have e:(b:Int)*2^a=((b*2^a:Nat):Int):=(by rw[<-i5,<-Int.natCast_mul]);rw[e];refine aq (Nt (x:=((b*2^a:Nat):Int)) (y:=(c:Int)) (by rw[dG];omega) (by rw[dG];omega) U U) ?_;rw[<-Int.natCast_ediv,<-Int.natCast_emod];have q:aA (b*2^a %c)<=900000:=Nat.le_trans (iy (Nat.mod_le _ _)) U;refine aq (kO (by rw[dG];omega)) ?_;dsimp only;rw[bm U U,Int.zero_sub];have f:(dW ((b*2^a %c:Nat):Int)!=0)=decide (b*2^a %c≠0):=by
  show(!(dW ((b*2^a %c:Nat):Int)==0))=_;rw[lj];by_cases d:b*2^a %c=0
  ·rw[aB U,az (λg=>g d)];rfl
  rw[az U,aB d];rfl
 rw[f]
def Yy {h:adZ} (j:ec h) (k:ec g):BJ (a8 h,a8 g,a,())=some (lh h g a,()):=by
 unfold BJ;refine aq (o6 j) (aq (o6 k) ?_);dsimp only;rw[tr,tr];cases h with
 |none=>cases g<;>rfl
 |some b=>
  cases g with
  |none=>rfl
  |some c=>
   have s:=i6 (j b rfl);have t:=i6 (k c rfl);have B:=iK (j b rfl);have C:=iK (k c rfl);rw[gT,gT];by_cases f:c=0
   ·subst f;refine aq (y:=.inr (9221120237041090560,())) ?_ rfl;exact aq (kO (z:=a7 0) aa) rfl
   refine aq (y:=.inl ((false,aM (a7 b),bz b,()),(false,aM (a7 c),bz c,()),())) ?_ ?_
   ·refine aq (kO (z:=a7 c) U) ?_;dsimp only;rw[lj,az (ia f)];rfl
   dsimp only;refine aq (kO (z:=a7 b) U) ?_;dsimp only;rw[lj];unfold lh;simp only;rw[if_neg f];by_cases e:b=0
   ·subst e;rw[aB (show a7 0=0 from rfl)];rfl
   rw[az (ia e),if_neg e,cond_false];have l:0<(a7 b).natAbs:=(by have:=ia e;omega);have o:0<(a7 c).natAbs:=(by have:=ia f;omega);refine aq (zb U) (aq (zb U) ?_);obtain⟨d,q,D,A⟩:=YT l o s t;refine aq A ?_;dsimp only;rw[bm (x:=bz b-bz c) U U,bm U U,yW,yW];have p:58<=aA ((a7 b).natAbs*2^d/(a7 c).natAbs):=Dg l o (by unfold lP at q;omega);have v:0<(a7 b).natAbs*2^d/(a7 c).natAbs:=by
    rcases gk ((a7 b).natAbs*2^d/(a7 c).natAbs) with i|i
    ·rw[i] at p;exact absurd p aa
    exact i
   have w:aA ((a7 b).natAbs*2^d/(a7 c).natAbs)<=800000:=Nat.le_trans (iy (Nat.div_le_self _ _)) (by have:=qX (m:=(a7 b).natAbs) (n:=d);omega);refine aq (Hk w v U U (λ_=>by omega)) ?_;have u:=X2 (kJ:=a) e f q;dsimp only;rw[<-u];unfold qr;have r:bz b-bz c+-(d:Int)=eQ b-eQ c-d:=(by unfold bz;rw[if_neg e,if_neg f];omega);rw[r];rfl
def YU {B:Nat} {ex:Int} (w:0<B) (v:aA B<=131072) (E:-70000<=ex) (F:ex<=70000):∃c:Nat,118<=aA B+c/\c<=127/\(ex-c) %2=0/\BF (aM (B:Int),ex,60,())=some (aM ((bH (B*2^c):Nat):Int),(ex-c)/2,decide (bH (B*2^c)*bH (B*2^c)≠B*2^c),()):=by
 obtain⟨a,e⟩:∃a:Nat,a=if(ex-((126-aA B:Nat):Int)) %2=0 then 126-aA B else 126-aA B+1:=⟨_,rfl⟩
 have p:a<=127:=(by rw[e];split<;>omega);have q:118<=aA B+a:=(by rw[e];split<;>omega);have r:(ex-a) %2=0:=(by rw[e];split<;>omega);have A:aA (B*2^a)<=131199:=(by have:=qX (m:=B) (n:=a);omega);have s:bH (B*2^a)<=B*2^a:=by
  obtain⟨u,G⟩:=qd (B*2^a);rcases gk (bH (B*2^a)) with b|b
  ·omega
  exact dh (Nat.le_mul_of_pos_left _ b) u
 have C:=iy s;refine⟨a,q,p,r,?_⟩;unfold BF;refine aq (ug (z:=(B:Int)) (by rw[dG];omega)) ?_;rw[dG];dsimp only;have al:(if 0>ar (ar (ar (2*60)+6)-(aA B:Int)) then 0 else ar (ar (ar (2*60)+6)-(aA B:Int)))=((126-aA B:Nat):Int):=(by rw[bm (x:=2*60) aa aa,bm (x:=2*60+6) aa aa,bm U U];split<;>omega);rw[al];refine aq (y:=((a:Int),(false,([],())),())) ?_ ?_
 ·rw[bm U U];refine aq (y:=(ex-((126-aA B:Nat):Int)).tmod 2) (by unfold gM;rw[ai aa]) ?_;rw[b0];have h:((ex-((126-aA B:Nat):Int)).tmod 2=0)↔((ex-((126-aA B:Nat):Int)) %2=0):=by
   constructor
   ·intro d;have:=Int.dvd_of_tmod_eq_zero d;omega
   intro d;exact Int.tmod_eq_zero_of_dvd (Int.dvd_of_emod_eq_zero d)
  by_cases b:(ex-((126-aA B:Nat):Int)) %2=0
  ·rw[aB (h.2 b)];show some (((126-aA B:Nat):Int),_,())=_;rw[e,ai b]
  rw[az (λd=>b (h.1 d))];show some (aY ((126-aA B:Nat):Int),_,())=_;rw[bt U,e,ah b]
 dsimp only;refine aq (zk (z:=(B:Int)) (n:=a) (by rw[dG];omega) U) ?_;have i:(B:Int)*2^a=((B*2^a:Nat):Int):=(by rw[<-i5,<-Int.natCast_mul]);rw[i];refine aq (YW (x:=((B*2^a:Nat):Int)) (by rw[dG];omega) U) ?_;rw[Int.toNat_natCast];dsimp only;rw[bm U U];refine aq (y:=(ex-a)/2) ?_ ?_
 ·unfold gL;have:(ex-(a:Int)).tdiv 2=(ex-(a:Int))/2:=by
   obtain⟨g,o⟩:∃g,ex-(a:Int)=2*g:=⟨(ex-(a:Int))/2,U⟩;rw[o,Int.mul_tdiv_cancel_left _ aa,DZ _ aa]
  rw[ai aa,this,wrap64 U U]
 refine aq (NH (x:=(bH (B*2^a):Int)) (y:=(bH (B*2^a):Int)) (by rw[dG];omega) (by rw[dG];omega)) ?_;rw[<-Int.natCast_mul];have D:aA (bH (B*2^a)*bH (B*2^a))<=900000:=(by have:=oG (k:=131199) (l:=131199) (U:aA (bH (B*2^a))<=131199) (U:aA (bH (B*2^a))<=131199);omega);refine aq (Nq (x:=((bH (B*2^a)*bH (B*2^a):Nat):Int)) (y:=((B*2^a:Nat):Int)) (by rw[dG];omega) (by rw[dG];omega)) ?_;dsimp only;have j:(eo ((bH (B*2^a)*bH (B*2^a):Nat):Int) ((B*2^a:Nat):Int)!=0)=decide (bH (B*2^a)*bH (B*2^a)≠B*2^a):=by
  rw[b0];generalize bH (B*2^a)*bH (B*2^a)=f;generalize B*2^a=t;by_cases b:f=t
  ·subst b;rw[az (show¬(f≠f) fromλd=>d rfl),aB (by unfold eo;rw[ah U,ah U])];rfl
  rw[aB b,az (by unfold eo;split;omega;split<;>omega)];rfl
 rw[j]
def Yz (o:ec g):BK (a8 g,a,())=some (js g a,()):=by
 unfold BK;refine aq (o6 o) ?_;dsimp only;rw[tr];cases g with
 |none=>rfl
 |some b=>
  have q:=o b rfl;have j:=i6 q;have F:=iK q;rw[gT];have r:=Hv b;by_cases h:b<0
  ·refine aq (y:=.inr (9221120237041090560,())) ?_ ?_
   ·refine aq (kO (z:=a7 b) U) ?_;dsimp only;rw[r,aB (show dW b<0 by unfold dW;rw[if_neg U,if_pos h];decide)];rfl
   unfold js;simp only;rw[ai h]
  have x:decide (dW b<0)=false:=az (by unfold dW;split;omega;first|decide|(split<;>omega));refine aq (y:=.inl ((false,aM (a7 b),bz b,()),())) ?_ ?_
  ·refine aq (kO (z:=a7 b) U) ?_;dsimp only;rw[r,x];rfl
  dsimp only;refine aq (kO (z:=a7 b) U) ?_;dsimp only;rw[lj];unfold js;simp only;rw[if_neg h];by_cases e:b=0
  ·subst e;rw[aB (show a7 0=0 from rfl)];rfl
  rw[az (ia e),ah e,cond_false];have H:0<a7 b:=(by have:=we (v:=b);have:=ia e;omega);obtain⟨c,u⟩:∃c:Nat,a7 b=c:=⟨(a7 b).toNat,U⟩;have i:(a7 b).natAbs=c:=U;rw[i] at j;have l:0<c:=U;have p:bz b=eQ b:=(by unfold bz;rw[ah e]);obtain⟨d,J,K,C,D⟩:=YU (B:=c) (ex:=bz b) l j U U;have t:58<=aA (bH (c*2^d)):=yC (by rw[lE l];omega);have s:0<bH (c*2^d):=by
   rcases gk (bH (c*2^d)) with f|f
   ·rw[f] at t;exact absurd t aa
   exact f
  have A:bH (c*2^d)<=c*2^d:=(by obtain⟨E,L⟩:=qd (c*2^d);exact Nat.le_trans (Nat.le_mul_of_pos_left _ s) E);have I:=iy A;have G:aA (c*2^d)<=131199:=(by have:=qX (m:=c) (n:=d);omega);rw[u];refine aq D ?_;dsimp only;refine aq (Hk U s U U (λ_=>by omega)) ?_;have w:=YJ (v:=b) (kJ:=a) (k:=d) U (by rw[i];omega) (by rw[<-p];exact C);dsimp only;rw[<-w];unfold o8;rw[i,p]
def nQ (a:Int) (b:Nat):Nat:=((a %18446744073709551616) %(b:Int)).toNat
def wb (a:Int) {n:Nat} (b:0<n):nQ a n<n:=by unfold nQ;have c:=mF (a %18446744073709551616) (U:(n:Int)≠0);have d:=ob (a %18446744073709551616) (U:(0:Int)<(n:Int));omega
def ql (a:Int) {n:Nat} (c:0<n) (e:n<=9223372036854775807):mU (a,(n:Int),())=some ((nQ a n:Int),()):=by unfold mU;have d:=wb a c;have b:(a %18446744073709551616) %(n:Int)=(nQ a n:Int):=(by unfold nQ;have:=Int.emod_nonneg (a %18446744073709551616) (U:(n:Int)≠0);omega);dsimp only;rw[kw a,b2 (x:=(n:Int)) U U,(Dh (x:=a %18446744073709551616) (y:=(n:Int)) ⟨U,U⟩ U).2,b];show some (ar (nQ a n:Int),())=_;rw[zD U]
def aaK (a b:Int):ez (sh IntKind.u64 a b):=by unfold sh ez;rw[zF];omega
def HV (e:ad5) (h:e.length<=9223372036854775807) (d:Int):ae (ta (e,d,())) (λc=>ez c.1):=by
 have g:∀b c:Int,0<=c->∃f,dk IntKind.u64 b c=some f:=λb c a=>(by unfold dk;rw[if_pos a];exact⟨_,rfl⟩);unfold ta;dsimp only;refine ae.aU (P:=λ_=>True) ?_ ?_
 ·rw[br];refine ae.ite (λa=>?_) λa=>ae.ag.2 trivial;have a:0<e.length:=(by simp only[a1] at a;omega);have i:=wb d a;refine ae.bs (ql d a h) (ae.bs (bQ i) (ae.ag.2 trivial))
 rintro⟨b,_⟩ _;dsimp only;obtain⟨f,j⟩:=g b 31 aa;refine ae.bs j ?_;obtain⟨l,k⟩:=g (aJ (sh IntKind.u64 b f*13787848793156543929)) 29 aa;exact ae.bs k (ae.ag.2 (aaK _ _))
def Dy (b:0<=a) (c:a<9223372036854775808):ez (kP h a):=by unfold kP ez;cases h<;>simp<;>omega
def M5 (b:Bool) (a:Int):ez (m9 b a):=by unfold m9;split<;>exact Dy aa aa
def Xv (c:b<=9007199254740992) (d:-1074<=a):ez (lf h b a e):=by
 unfold lf;split
 ·exact Dy U U
 split
 ·split
  ·exact M5 _ _
  exact Dy U U
 split
 ·exact M5 _ _
 exact Dy U U
def Hh {c:Int} (d:0<b):ez (iA h b a k c):=by have f:=DM (neg:=h) (rP:=k) (kJ:=c) (e:=a) d;have i:-1074<=bF b a:=(by unfold bF;omega);have g:iA h b a k c=lf h (if bF b a<=a then b*2^(a-bF b a).toNat else g8 h b (bF b a-a).toNat k c) (bF b a) c:=(by unfold iA;split<;>rfl);rw[g];exact Xv f i
def CQ:ez 9221120237041090560:=⟨aa,aa⟩
def NI (b:adZ) (c:Int):ez (nX b c):=by
 unfold nX;cases b with
 |none=>exact CQ
 |some d=>
  simp only;unfold zi;by_cases a:d=0
  ·rw[ai a];exact⟨aa,aa⟩
  rw[ah a];exact Hh (by have:=ia a;omega)
def X0 (j:Int):ez (lh g m j):=by
 unfold lh;cases g with
 |none=>exact CQ
 |some a=>
  cases m with
  |none=>exact CQ
  |some b=>
   simp only;by_cases c:b=0
   ·rw[ai c];exact⟨aa,aa⟩
   by_cases e:a=0
   ·rw[ah c,ai e];exact⟨aa,aa⟩
   rw[ah c,ah e];unfold r2 qr;have h:0<(a7 a).natAbs:=(by have:=ia e;omega);have i:0<(a7 b).natAbs:=(by have:=ia c;omega);have f:58<=aA ((a7 a).natAbs*2^lP (a7 a).natAbs (a7 b).natAbs/(a7 b).natAbs):=Dg h i (by unfold lP;omega);refine Hh ?_;rcases gk ((a7 a).natAbs*2^lP (a7 a).natAbs (a7 b).natAbs/(a7 b).natAbs) with d|d
   ·rw[d] at f;exact absurd f aa
   exact d
def YG (h:Int):ez (js g h):=by
 unfold js;cases g with
 |none=>exact CQ
 |some a=>
  simp only;by_cases c:a<0
  ·rw[ai c];exact⟨aa,aa⟩
  by_cases d:a=0
  ·rw[ah c,ai d];exact⟨aa,aa⟩
  rw[ah c,ah d];unfold nY o8;have f:0<(a7 a).natAbs:=(by have:=ia d;omega);have e:58<=aA (bH ((a7 a).natAbs*2^iL (a7 a).natAbs (eQ a))):=yC (by rw[lE f];unfold iL;split<;>omega);refine Hh ?_;rcases gk (bH ((a7 a).natAbs*2^iL (a7 a).natAbs (eQ a))) with b|b
  ·rw[b] at e;exact absurd e aa
  exact b
def M1 (a b:Int):ez (eL IntKind.u64 a b):=by unfold eL ez;rw[zF];omega
def LV (b:ez a) (c:Int):ae (vA (a,c,())) (λd=>ez d.1):=by
 have e:=b.1;have f:=b.2;unfold vA;dsimp only;refine ae.bs (ql c (n:=4) aa aa) ?_;dsimp only;rw[dB,dB,dB,br];refine ae.ite (λ_=>?_) λ_=>?_
 ·rw[r8 aa aa,aG,mC aa aa,aG];exact ae.ag.2 (M1 _ _)
 rw[br];refine ae.ite (λ_=>?_) λ_=>?_
 ·rw[r8 aa aa,aG];unfold gM;rw[ai aa,aG,mC aa aa,aG];exact ae.ag.2 (M1 _ _)
 rw[br];refine ae.ite (λ_=>?_) λ_=>?_
 ·refine ae.bs (Ds b) ?_;dsimp only;cases decide (bG a=2047)
  ·exact ae.ag.2 b
  exact ae.ag.2 ⟨aa,aa⟩
 unfold E3;refine ae.bs (y:=(nX (lJ (a %19-9)) 0,())) ?_ (ae.ag.2 ?_)
 ·refine aq (y:=a %19) ?_ ?_
  ·unfold gM;rw[ai aa,zS e]
  dsimp only;rw[bm (x:=a %19) U U,bm U U];exact aq (Dq U U) rfl
 exact NI _ _
structure eB (rows jI:Nat) (st m2 sd:ad5):Prop where
 len:st.length=jI+1
 first:st.getD 0 0=0
 mono:∀j,j<jI->st.getD j 0<=st.getD (j+1) 0
 last:st.getD jI 0=(m2.length:Int)
 val:sd.length=m2.length
 rng:∀j k:Nat,j<jI->st.getD j 0<=(k:Int)->(k:Int)<st.getD (j+1) 0->0<=m2.getD k 0/\m2.getD k 0<(rows:Int)
 asc:∀j k:Nat,j<jI->st.getD j 0<(k:Int)->(k:Int)<st.getD (j+1) 0->m2.getD (k-1) 0<m2.getD k 0
def fA {i:Nat} (a:i<d.length):aC d (i:Int)=some (d.getD i 0):=by rw[bQ a,jN a]
def Zq (t:d.length<=1000000):Bn (d,())=some (open Classical in decide (∀a,a+1<d.length->d.getD a 0<=d.getD (a+1) 0),()):=by
 classical
 unfold Bn;dsimp only;refine ae.eq_iff.1 (ae.aU (P:=λg=>match g with|.inl _=>(∀a,a+1<d.length->d.getD a 0<=d.getD (a+1) 0)|.inr q=>q=(false,())/\¬(∀a,a+1<d.length->d.getD a 0<=d.getD (a+1) 0)) ?_ ?_)
 ·refine ae.loop (λh=>∃c:Nat,(h.1=(c:Int)\/(h.1=-1/\c=0))/\c<=d.length/\(c<d.length\/d.length=0)/\(∀a,c<=a->a+1<d.length->d.getD a 0<=d.getD (a+1) 0)) (λh=>h.1.toNat) ⟨d.length-1,?_,U,U,λa e i=>by omega⟩ ?_
  ·simp only[a1];rw[bm U U];omega
  rintro⟨r,_⟩ ⟨c,e,i,s,j⟩;dsimp only at e|-;rw[br];refine ae.ite (λk=>?_) λk=>?_
  ·obtain rfl:r=(c:Int):=U;obtain⟨b,rfl⟩:∃b,c=b+1:=⟨c-1,U⟩;have al:ar (((b+1:Nat):Int)-1)=(b:Int):=(by rw[bm U U];omega);rw[al];refine ae.bs (fA U) (ae.bs (fA U) ?_);refine ae.bs (y:=(decide (d.getD (b+1) 0<d.getD b 0),())) (by unfold sY q3;simp only[bne_self_eq_false,Option.bind_some];rfl) ?_;dsimp only;rw[br];refine ae.ite (λp=>?_) λp=>?_
   ·refine ae.ag.2 ⟨rfl,λl=>?_⟩;have:=l b U;omega
   refine ae.ag.2 ⟨⟨b,.inl rfl,U,U,λa i1 n=>?_⟩,?_⟩
   ·rcases bg b a with o|o
    ·exact j a U n
    obtain rfl:a=b:=U;omega
   show(b:Int).toNat<((b+1:Nat):Int).toNat;omega
  refine ae.ag.2 ?_;intro a m;exact j a U m
 rintro(g|g) f
 ·have f:(∀a,a+1<d.length->d.getD a 0<=d.getD (a+1) 0):=f;rw[decide_eq_true f];exact ae.ag.2 rfl
 obtain⟨e,i⟩:g=(false,())/\¬(∀a,a+1<d.length->d.getD a 0<=d.getD (a+1) 0):=f;rw[e,decide_eq_false i];exact ae.ag.2 rfl
def hQ (e:Int) (d b:ad5) (c:Nat):Prop:=∀a:Nat,d.getD c 0<=(a:Int)->(a:Int)<d.getD (c+1) 0->(if(a:Int)=d.getD c 0 then-1 else b.getD (a-1) 0)<b.getD a 0/\b.getD a 0<e
def hQ.pos (i:hQ a d f b) (l:0<=d.getD b 0):∀c:Nat,d.getD b 0<=(c:Int)->(c:Int)<d.getD (b+1) 0->0<=f.getD c 0:=by
 intro c
 induction c with
 |zero=>
  intro e g;have:=(i 0 e g).1;rw[ai U] at this;omega
 |succ c k=>
  intro e g;have j:=(i (c+1) e g).1;by_cases h:((c+1:Nat):Int)=d.getD b 0
  ·rw[ai h] at j;omega
  rw[ah h,uQ] at j;have:=k U U;omega
def hQ.rng (k:0<=d.getD b 0):hQ a d f b↔(∀c:Nat,d.getD b 0<=(c:Int)->(c:Int)<d.getD (b+1) 0->0<=f.getD c 0/\f.getD c 0<a)/\(∀c:Nat,d.getD b 0<(c:Int)->(c:Int)<d.getD (b+1) 0->f.getD (c-1) 0<f.getD c 0):=by
 constructor
 ·intro h;refine⟨λc e g=>⟨h.pos k c e g,(h c e g).2⟩,λc e g=>?_⟩;have:=(h c U g).1;rwa[ah U] at this
 rintro⟨e,g⟩ c j i;refine⟨?_,(e c j i).2⟩;split
 ·have:=(e c j i).1;omega
 exact g c U i
def Zl {l:ad5} {lo hi t:Nat} (a:hi<=l.length) (b:lo+t<hi):((l.take hi).drop lo).length=hi-lo/\((l.take hi).drop lo)[t]?=some (l.getD (lo+t) 0):=by refine⟨by simp;omega,?_⟩;rw[jA,uM,ai U,a9 U,jN U]
def Zm {l:ad5} {lo:Nat} (a:b<=l.length):((l.take b).drop lo).length=b-lo:=by simp;omega
def eB.iff {o:ad5}:eB c b d f o↔d.length=b+1/\d.getD 0 0=0/\(∀a,a<b->d.getD a 0<=d.getD (a+1) 0)/\d.getD b 0=(f.length:Int)/\o.length=f.length/\∀a,a<b->hQ (c:Int) d f a:=by
 have n:(∀a,a<b->d.getD a 0<=d.getD (a+1) 0)->d.getD 0 0=0->∀a,a<=b->0<=d.getD a 0:=λq s a=>by
  induction a with
  |zero=>intro _;omega
  |succ a r=>intro e;have:=r U;have:=q a U;omega
 constructor
 ·rintro⟨k,h,i,l,m,j,p⟩;exact⟨k,h,i,l,m,λa e=>(hQ.rng (n i h a U)).2 ⟨λg=>j a g e,λg=>p a g e⟩⟩
 rintro⟨k,h,i,l,m,j⟩;exact⟨k,h,i,l,m,λa g e=>((hQ.rng (n i h a U)).1 (j a e)).1 g,λa g e=>((hQ.rng (n i h a U)).1 (j a e)).2 g⟩
end Go.h2
end
