/-
  Parts of the proof: Pl5, Th1, Pl6, Pl7, Pl8, Pl9, Pl10, Pl12, ThT, Pa2, Pa3, Pa4, Pa5, Pa6, Pa7, Pa8, Pa9, Pa10, Pa11, Pa12, Pa13, Pa14, Pa15, Pa16, Pa17, Pa19, Pa20, Pa21, Pa22, Pa23, Pa24, Pa25, Pa26, Pa27, Pa28, Pa29, Pm1, Pm2, G24, Pm3, Pm4, Pm5: the framework (Fw), pure forms (Dn), plain laws (Pl, Th), calls of functions (Ok).
-/
import Derived.Test.YtkhcdgkdpjahpaaGreatDoorRows
import Derived.ProofKit
import Derived.Lib.LaidTab
import Derived.LaidMore
import Derived.Test.YtkhcdgkdpjahpaaGreatDoorB2e10fa06

set_option linter.all false
noncomputable section
namespace Go.hT
variable{a c h:Nat}{b e:Int}{d f i:ab1}{g l:Bool}{j q:abV}{k:c7}{m:Nat->Nat->Prop}{n r:Type}{o:Prop}{p:c4}{s:(cZ×Int×Int×aX×Unit)->Prop}{t:Nat->Prop}{u:(cZ×Int×aX×Unit)->Prop}
section
def oM (a:ab1) (c:Int):Prop:=a.Pairwise (· < ·)/\∀b∈a,0<=b/\b<c
theorem ae.count {k:n->Option (n⊕r)} {i:r->Prop} (d:n->Int) (c:Nat) (e:Nat->n->Prop) {i0:Nat} {l:n} (v:d l=(i0:Int)) (s:e i0 l) (p:i0<=c) (x:∀a b,i0<=a->a<c->d b=(a:Int)->e a b->ae (k b) (λ|.inl h=>d h=((a+1:Nat):Int)/\e (a+1) h|.inr g=>i g)) (u:∀b,d b=(c:Int)->e c b->ae (k b) (λ|.inl _=>False|.inr g=>i g)):ae (hT.loop k l) i:=by
 refine ae.loop (λb=>∃a:Nat,i0<=a/\a<=c/\d b=(a:Int)/\e a b) (λb=>c-(d b).toNat) ⟨i0,aY _,p,v,s⟩ ?_;rintro b ⟨a,w,p,j,q⟩;rcases bb a c with o|o
 ·refine(x a b w o j q).mono ?_;rintro(h|g) f
  ·obtain⟨m,t⟩:=f;exact⟨⟨a+1,U,U,m,t⟩,by rw[j,m];simp;omega⟩
  ·exact f
 ·obtain rfl:a=c:=U;refine(u b j q).mono ?_;rintro(h|g) f
  ·exact f.elim
  ·exact f
open Classical in
theorem Sa (b:ab1) (g:Int) (D:b.length<4611686018427387904):zN (b,g,())=some (decide (oM b g),()):=by
 rw[<-ae.eq_iff];unfold zN;simp only[ae.bW];refine ae.count (λr=>r.2.1) b.length (λa r=>r.1=(if a=0 then-1 else b.getD (a-1) 0)/\(b.take a).Pairwise (· < ·)/\∀f∈b.take a,0<=f/\f<g) (i0:=0) rfl ⟨rfl,ac,ac⟩ (bN _) ?_ ?_
 ·rintro a ⟨m,A,_⟩ _ e h ⟨j,k,l⟩;simp only at h j;subst h;simp only[ae.bV,ae.bW,ae.af,ae.hJ];have z:∀f∈b.take a,f<=m:=by
   intro f d;rw[j];obtain⟨q,y,rfl⟩:=fH.1 d;simp only[eC] at y;have x:a≠0:=U;rw[if_neg x];simp only[vY,List.getD,be (U:a-1<b.length),kB];rcases bb q (a-1) with c|c
   ·have:=(gx.1 k) q (a-1) (by simp;omega) (by simp;omega) c;simp only[vY] at this;omega
   ·have:q=a-1:=U;subst this;exact qb _
  have E:-1<=m:=by
   rw[j];by_cases i:a=0
   ·rw[if_pos i];exact qb _
   ·rw[if_neg i];simp only[List.getD,be (U:a-1<b.length),kB];have:=l (b[a-1]) (fH.2 ⟨a-1,by simp;omega,ac⟩);omega
  have t:(b[a]<=m\/g<=b[a])->¬oM b g:=by
   rintro c ⟨B,u⟩;rcases c with c|c
   ·rw[j] at c;by_cases i:a=0
    ·rw[if_pos i] at c;have:=u _ (bI e);omega
    ·rw[if_neg i] at c;simp only[List.getD,be (U:a-1<b.length),kB] at c;have:=(gx.1 B) (a-1) a U e U;omega
   ·have:=u _ (bI e);omega
  refine⟨λ_=>⟨e,λn=>⟨λo=>?_,λo=>?_⟩,λn=>?_⟩,λp=>by simp at p;omega⟩
  ·have:=t (.inr (by simpa using o));simp[this]
  ·simp at n o;refine⟨fE U,?_,?_,?_⟩
   ·simp[List.getD,e]
   ·rw[<-mW e,List.pairwise_append];refine⟨k,ac,λv w C s=>?_⟩;simp only[eS] at s;subst s;have:=z v w;omega
   ·rw[<-mW e];intro f d;rcases eH.1 d with d|d
    ·exact l f d
    ·simp only[eS] at d;subst d;omega
  ·have:=t (.inl (by simpa using n));simp[this]
 ·rintro⟨m,A,_⟩ h ⟨j,k,l⟩;simp only at h;subst h;simp only[ae.bV,ae.af];refine⟨λp=>by simp at p,λ_=>?_⟩;rw[m8] at k l;have:oM b g:=⟨k,l⟩;simp[this]
theorem GV (a b:Int):sl (a,b,())=some (decide (a<b),()):=by unfold sl qz;simp
theorem Nt (a:Int) (b:0<=a) (c:a<18446744073709551616):IntKind.u64.wrap a=a:=by unfold IntKind.wrap;rw[if_neg (by simp[IntKind.signed])];show a %18446744073709551616=a;omega
theorem GH (d:ab1) (f:Int) (F:d.length<4611686018427387904) (p:d.Pairwise (· < ·)):ae (ss (d,f,())) (λA=>A.2.1=decide (f∈d)):=by
 unfold ss;simp only[ae.bW];refine ae.mono (P:=λz=>∃a:Nat,z.1=(a:Int)/\a<=d.length/\(∀b,(e:b<d.length)->b<a->d[b]<f)/\(∀b,(e:b<d.length)->a<=b->f<=d[b])) ?_ ?_
 ·refine ae.loop (λn=>∃a c:Nat,n.1=(a:Int)/\n.2.1=(c:Int)/\a<=c/\c<=d.length/\(∀b,(e:b<d.length)->b<a->d[b]<f)/\(∀b,(e:b<d.length)->c<=b->f<=d[b])) (λn=>(n.2.1-n.1).toNat) ⟨0,d.length,rfl,rfl,bN _,aY _,λb _ e=>by omega,λb j k=>by omega⟩ ?_;rintro⟨y,G,_⟩ ⟨a,c,rfl,rfl,E,r,j,k⟩;simp only[ae.bV,ae.bW,ae.af];refine⟨λi=>?_,λl=>?_⟩
  ·have i:a<c:=(by simpa using i);have aj:IntKind.i64.wrap ((a:Int)+c)=(a:Int)+c:=wrap64 U U;rw[aj,Nt _ U U];have x:dm IntKind.u64 ((a:Int)+c) 1=some (((a+c)/2:Nat):Int):=by
    unfold dm;rw[if_pos U];congr 1;show((a:Int)+c).fdiv (2^min 1 64)=_;rw[show(2:Int)^min 1 64=2 from rfl,yI _ U];omega
   rw[x];simp only[ae.af];have t:IntKind.i64.wrap (((a+c)/2:Nat):Int)=(((a+c)/2:Nat):Int):=wrap64 U U;rw[t,ae.hJ];refine⟨U,?_⟩;rw[GV];simp only[ae.af,ae.bV];have q:(a+c)/2<d.length:=U;refine⟨λg=>?_,λg=>?_⟩
   ·have g:d[(a+c)/2]<f:=(by simpa using g);rw[fE U];refine⟨⟨(a+c)/2+1,c,rfl,rfl,U,r,λb h v=>?_,k⟩,U⟩;rcases bb b ((a+c)/2) with e|e
    ·exact Int.lt_trans ((gx.1 p) b _ h q e) g
    ·have:b=(a+c)/2:=U;subst this;exact g
   ·have g:f<=d[(a+c)/2]:=(by simpa using g);refine⟨⟨a,(a+c)/2,rfl,rfl,U,U,j,λb h v=>?_⟩,U⟩;rcases bb ((a+c)/2) b with e|e
    ·have:=(gx.1 p) _ b q h e;omega
    ·have:b=(a+c)/2:=U;subst this;exact g
  ·have u:a=c:=by
    have:¬a<c:=(by simpa using l);omega
   subst u;exact⟨a,rfl,r,j,k⟩
 ·rintro⟨y,_⟩ ⟨a,rfl,D,j,k⟩;simp only;have s:(∀e:a<d.length,d[a]≠f)->f∉d:=by
   intro m w;obtain⟨b,h,rfl⟩:=fH.1 w;rcases k5 b a with e|e|e
   ·have:=j b h e;omega
   ·subst e;exact m h rfl
   ·have B:=k a U (aY _);have C:=(gx.1 p) a b U h e;omega
  simp only[ae.bV,ae.bW,ae.af,ae.hJ];refine⟨λi=>?_,λl=>?_⟩
  ·have i:a<d.length:=(by simpa using i);refine⟨i,λm=>?_,λo=>?_⟩
   ·have m:d[a]≠f:=(by simpa using m);refine⟨i,?_⟩;unfold Aj;simp[ae.af];exact s (λ_=>m)
   ·have o:d[a]=f:=(by simpa using o);simp[<-o]
  ·have l:¬a<d.length:=(by simpa using l);simp;exact s (λe=>absurd e l)
structure b2 (aI:c7):Prop where
 asc:∀v,(h:v<aI.length)->oM aI[v] aI.length
 Et:∀v,(h:v<aI.length)->(v:Int)∉aI[v]
 sym:∀v,(h:v<aI.length)->∀w:Nat,(hw:w<aI.length)->(w:Int)∈aI[v]->(v:Int)∈aI[w]
open Classical in
def gO (a:c7):Int:=if 200<a.length then 6 else if b2 a then 0 else 1
open Classical in
theorem Ew (a:c7) (b:Nat) (d:Int) (g:b<a.length) (e:a[b].length<4611686018427387904) (f:a[b].Pairwise (· < ·)):uw ((a,()),(b:Int),d,())=some (decide (d∈a[b]),()):=by rw[<-ae.eq_iff];unfold uw;simp only[ae.bW,ae.hJ];refine⟨g,(GH _ _ e f).mono ?_⟩;rintro⟨i,h,_⟩ c;simp only at c;rw[ae.af,c]
theorem yE (a:c7) (u:∀L∈a,L.length<4611686018427387904):uv ((a,()),())=some (gO a,()):=by
 classical
 rw[<-ae.eq_iff];unfold uv;simp only[ae.bV,ae.bW,ae.af];refine⟨λg=>?_,λg=>?_⟩
 ·have:200<a.length:=(by simp at g;omega);simp[gO,this]
 have z:¬200<a.length:=(by simp at g;omega);have y:¬b2 a->(1:Int)=gO a:=λg=>(by simp[gO,z,g]);refine ae.mono (P:=λl=>(l=.inr (1,())/\¬b2 a)\/(l=.inl ()/\∀c,(g:c<a.length)->oM a[c] a.length/\(c:Int)∉a[c])) ?_ ?_
 ·refine ae.for (i0:=0) a.length (λd _=>∀c,c<d->(g:c<a.length)->oM a[c] a.length/\(c:Int)∉a[c]) rfl (λc h=>by omega) (bN _) ?_ ?_
  ·rintro d _ _ j p;simp only[ae.bV,ae.bW,ae.af,ae.hJ];refine⟨λ_=>⟨j,?_⟩,λi=>by simp at i;omega⟩;rw[Sa _ _ (u _ (bI j))];simp only[ae.af];refine⟨λq=>?_,λq=>.inl ⟨trivial,λf=>?_⟩⟩
   ·have q:oM a[d] a.length:=(by simpa using q);rw[Ew a d d j (u _ (bI j)) q.1];simp only[ae.af,ae.bV];refine⟨λx=>.inl ⟨trivial,λf=>f.Et d j (by simpa using x)⟩,λx=>⟨fE U,λc h C=>?_⟩⟩;rcases bb c d with n|n
    ·exact p c n C
    ·obtain rfl:c=d:=U;exact⟨q,by simpa using x⟩
   ·have:=f.asc d j;simp[this] at q
  ·intro A p;simp only[ae.bV,ae.af];exact⟨λi=>by simp at i,λ_=>.inr ⟨trivial,λc h=>p c h h⟩⟩
 ·rintro l (⟨rfl,f⟩|⟨rfl,t⟩)
  ·simp only[ae.af,y f]
  simp only[ae.bW];have F:(∀e,(g:e<a.length)->∀o∈a[e],∀b:Nat,o=(b:Int)->(k:b<a.length)->(e:Int)∈a[b])->b2 a:=λg=>⟨λe f=>(t e f).1,λe f=>(t e f).2,λe f b k s=>g e f b s b rfl k⟩;refine ae.mono (P:=λl=>(l=.inr (1,())/\¬b2 a)\/(l=.inl ()/\∀e,(g:e<a.length)->∀o∈a[e],∀b:Nat,o=(b:Int)->(k:b<a.length)->(e:Int)∈a[b])) ?_ ?_
  ·refine ae.for (i0:=0) a.length (λd _=>∀e,e<d->(g:e<a.length)->∀o∈a[e],∀b:Nat,o=(b:Int)->(k:b<a.length)->(e:Int)∈a[b]) rfl (λc h=>by omega) (bN _) ?_ ?_
   ·rintro d _ _ j p;simp only[ae.bV,ae.bW,ae.hJ];refine⟨λ_=>⟨j,?_⟩,λi=>by simp at i;omega⟩;have M:=u _ (bI j);refine ae.mono (P:=λl=>(l=.inr (.inr (.inr (1,())))/\¬b2 a)\/(l=.inl ()/\∀o∈a[d],∀b:Nat,o=(b:Int)->(k:b<a.length)->(d:Int)∈a[b])) ?_ ?_
    ·refine ae.for (i0:=0) a[d].length (λc _=>∀m,m<c->(g:m<a[d].length)->∀b:Nat,a[d][m]=(b:Int)->(k:b<a.length)->(d:Int)∈a[b]) rfl (λc h=>by omega) (bN _) ?_ ?_
     ·rintro c _ _ h v;simp only[ae.bV,ae.bW,ae.hJ];refine⟨λ_=>⟨h,?_⟩,λi=>by simp at i;omega⟩;have N:=(t d j).1.2 _ (bI h);obtain⟨b,k⟩:∃b:Nat,a[d][c]=(b:Int):=⟨a[d][c].toNat,U⟩;have r:b<a.length:=U;rw[k,Ew a b d r (u _ (bI r)) (t b r).1.1];simp only[ae.af,ae.bV];refine⟨λE=>.inl ⟨trivial,λf=>?_⟩,λK=>⟨fE U,λm s D B H I=>?_⟩⟩
      ·have:=f.sym d j b r (k▸bI h);simp[this] at E
      ·rcases bb m c with n|n
       ·exact v m n D B H I
       ·obtain rfl:m=c:=U;have:B=b:=U;subst this;simpa using K
     ·intro A v;simp only[ae.bV,ae.af];refine⟨λi=>by simp at i,λ_=>.inr ⟨trivial,λo J b k r=>?_⟩⟩;obtain⟨m,s,rfl⟩:=fH.1 J;exact v m s s b k r
    ·rintro l (⟨rfl,f⟩|⟨rfl,w⟩)
     ·simp only[ae.af];exact .inl ⟨trivial,f⟩
     ·simp only[ae.af];refine⟨fE U,λe f G=>?_⟩;rcases bb e d with n|n
      ·exact p e n G
      ·obtain rfl:e=d:=U;exact w
   ·intro A p;simp only[ae.bV,ae.af];exact⟨λi=>by simp at i,λ_=>.inr ⟨trivial,λc h=>p c h h⟩⟩
  ·rintro l (⟨rfl,f⟩|⟨rfl,w⟩)
   ·simp only[ae.af,y f]
   ·simp only[ae.af];simp[gO,z,F w]
end
section
inductive eJ (A:Nat->Nat->Prop) (k:Nat):Nat->Nat->Prop
 |one {i j:Nat}:A i j->eJ A k i j
 |step {i m j:Nat}:A i m->m<k->eJ A k m j->eJ A k i j
section
variable {A:Nat->Nat->Prop} {k:Nat}
theorem eJ.trans (b:eJ A k c a) (e:a<k) (d:eJ A k a h):eJ A k c h:=by
 induction b with
 |one b=>exact .step b e d
 |step b f _ g=>exact .step b f (g e d)
theorem eJ.symm (f:∀d e,A d e->A e d) (b:eJ A k a c):eJ A k c a:=by
 induction b with
 |one b=>exact .one (f _ _ b)
 |step b g _ h=>exact h.trans g (.one (f _ _ b))
theorem eJ.mono (f:k<=h) (b:eJ A k a c):eJ A h a c:=by
 induction b with
 |one b=>exact .one b
 |step b e _ d=>exact .step b U d
theorem eJ.first (n:a<c) (j:eJ A c a c):∃b,a<b/\b<=c/\eJ A a a b/\(b=c\/eJ A c b c):=by
 have o:∀{d f:Nat},eJ A c d f->f=c->(d=a\/(d<a/\eJ A a a d))->∃b,a<b/\b<=c/\eJ A a a b/\(b=c\/eJ A c b c):=by
  intro d f j
  induction j with
  |@one d f g=>
   intro h e;subst h;refine⟨f,n,aY _,?_,.inl rfl⟩;rcases e with rfl|⟨e,i⟩
   ·exact .one g
   ·exact i.trans e (.one g)
  |@step d k f g p i m=>
   intro h e;have l:eJ A a a k:=by
    rcases e with rfl|⟨e,i⟩
    ·exact .one g
    ·exact i.trans e (.one g)
   rcases k5 k a with hmu|hmu|hmu
   ·exact m h (.inr ⟨hmu,l⟩)
   ·exact m h (.inl hmu)
   ·subst h;exact⟨k,hmu,U,l,.inr i⟩
 exact o j rfl (.inl rfl)
def iC (A:Nat->Nat->Prop) (c a:Nat):Prop:=c<a/\eJ A a c a/\∀b,c<b->b<a->¬eJ A b c b
theorem iC.uniq {p:Nat} (b:iC A c p) (d:iC A c a):p=a:=by
 rcases k5 p a with e|f|e
 ·exact absurd b.2.1 (d.2.2 p b.1 e)
 ·exact f
 ·exact absurd d.2.1 (b.2.2 a d.1 e)
theorem iC.fill (b:iC A c a):eJ A c c a:=by
 obtain⟨d,g,h,e,i⟩:=eJ.first b.1 b.2.1;rcases bb d a with f|f
 ·exact absurd (e.mono U) (b.2.2 d g f)
 ·obtain rfl:d=a:=U;exact e
theorem FD (n:c<a) (o:eJ A a c a):∃d,d<=a/\iC A c d:=by
 have:∀e,∀a,c<a->a<=e->eJ A a c a->∃d,d<=a/\iC A c d:=by
  intro e
  induction e with
  |zero=>intro a i k;omega
  |succ e p=>
   intro a i k l;by_cases h:∃b,c<b/\b<a/\eJ A b c b
   ·obtain⟨b,f,j,g⟩:=h;obtain⟨d,q,m⟩:=p b f U g;exact⟨d,U,m⟩
   ·exact⟨a,aY _,i,l,λb f j g=>h ⟨b,f,j,g⟩⟩
 exact this a a n (aY _) o
inductive gF (A:Nat->Nat->Prop):Nat->Nat->Prop
 |refl (u:Nat):gF A u u
 |up {u p v:Nat}:iC A u p->gF A p v->gF A u v
theorem gF.le (b:gF A a c):a<=c:=by
 induction b with
 |refl=>exact aY _
 |up d _ e=>have:=d.1;omega
theorem gF.trans (d:gF A a c) (b:gF A c h):gF A a h:=by
 induction d with
 |refl=>exact b
 |up e _ f=>exact .up e (f b)
theorem gF.walk (g:gF A c a):c=a\/eJ A a c a:=by
 induction g with
 |refl=>exact .inl rfl
 |@up c f a b i d=>
  right;have h:=i.le;rcases d with rfl|d
  ·exact b.2.1
  ·rcases bb f a with e|e
   ·exact(b.2.1.mono h).trans e d
   ·obtain rfl:f=a:=U;exact b.2.1
theorem RU (m:∀g h,A g h->A h g) (n:c<a) (k:eJ A a c a):gF A c a:=by
 have:∀d,∀c,c<a->a-c<=d->eJ A a c a->gF A c a:=by
  intro d
  induction d with
  |zero=>intro c e l;omega
  |succ d o=>
   intro c e l i;obtain⟨f,p,b⟩:=FD e i;rcases bb f a with j|j
   ·refine .up b (o f j (by have:=b.1;omega) ?_);exact((b.2.1.symm m).mono U).trans e i
   ·obtain rfl:f=a:=U;exact .up b (.refl _)
 exact this (a-c) c n (aY _) k
theorem Cl (f:∀h i,A h i->A i h) (l:a<c):eJ A a a c↔∃k,A c k/\gF A k a:=by
 constructor
 ·intro d;have j:=d.symm f;cases j with
  |one b=>exact⟨a,b,.refl _⟩
  |@step _ t _ b n r=>exact⟨t,b,RU f n r⟩
 ·rintro⟨k,b,g⟩;have:∀{k a:Nat},gF A k a->a<c->(k<c->eJ A k k c)->eJ A a a c:=by
   intro k a d
   induction d with
   |refl=>intro m d;exact d m
   |@up u x y e w s=>
    intro q o;refine s q (λv=>?_);have p:u<c:=(by have:=e.1;omega);have b:=o p;have g:=e.fill;exact((g.symm f).mono (by have:=e.1;omega)).trans e.1 (b.mono (by have:=e.1;omega))
  exact this g l (λ_=>.one (f _ _ b))
end
end
section
def b1 (aI:c7) (a b:Nat):Prop:=∃c:a<aI.length,(b:Int)∈aI[a]
theorem b1.lt {aI:c7} (f:b2 aI) (d:b1 aI a c):a<aI.length/\c<aI.length:=by obtain⟨b,e⟩:=d;have:=(f.asc a b).2 _ e;exact⟨b,U⟩
theorem b1.symm {aI:c7} (e:b2 aI):∀a b,b1 aI a b->b1 aI b a:=λa b c=>by obtain⟨f,d⟩:=c.lt e;exact⟨d,e.sym a f b d c.2⟩
theorem b1.ne {aI:c7} (e:b2 aI) (b:b1 aI a c):a≠c:=λd=>by subst d;exact e.Et a b.1 b.2
theorem eJ.lt {aI:c7} (b:b2 aI) {e c j:Nat} (a:eJ (b1 aI) e c j):c<aI.length/\j<aI.length:=by
 induction a with
 |one a=>exact a.lt b
 |step a _ _ d=>exact⟨(a.lt b).1,d.2⟩
inductive gn (R:Nat->Nat->Prop):Nat->Nat->Prop
 |refl (u:Nat):gn R u u
 |step {u p v:Nat}:R u p->gn R p v->gn R u v
theorem gn.trans (b:gn m a c) (d:gn m c h):gn m a h:=by
 induction b with
 |refl=>exact d
 |step b _ e=>exact .step b (e d)
theorem gn.mono {d:Nat->Nat->Prop} (f:∀a e,m a e->d a e) (b:gn m a c):gn d a c:=by
 induction b with
 |refl=>exact .refl _
 |step b _ g=>exact .step (f _ _ b) g
theorem gn.comp (g:∀a b d,m a b->m a d->b=d) (i:gn m a c) (e:gn m a h):gn m c h\/gn m h c:=by
 induction i with
 |refl=>exact .inl e
 |@step a b c f k n=>
  cases e with
  |refl=>exact .inr (.step f k)
  |@step _ d _ j l=>
   obtain rfl:=g _ _ _ f j;exact n l
section
variable (aI:c7)
def o8 (j:Nat) (T:Nat->Prop) (b c:Nat):Prop:=
 (c<j/\iC (b1 aI) b c)\/(c=j/\b<j/\(∀d,d<j->¬iC (b1 aI) b d)/\∃a,T a/\a<j/\b1 aI j a/\gF (b1 aI) a b)
def e2 (A:ab1) (b a:Nat):Prop:=A[b]?=some (a:Int)
structure ki (j:Nat) (T:Nat->Prop) (ot C1:ab1):Prop where
 s3:ot.length=aI.length
 JQ:C1.length=aI.length
 iT:∀u p,e2 ot u p↔(u<aI.length/\o8 aI j T u p)
 none:∀(u:Nat) (x:Int),ot[u]?=some x->x=-1\/∃p:Nat,x=(p:Int)
 yZ:∀u:Nat,C1[u]?=some (-1)↔ot[u]?=some (-1)
 y0:∀(u:Nat) (x:Int),C1[u]?=some x->x=-1\/∃a p:Nat,x=(a:Int)/\e2 ot u p/\gn (e2 ot) p a
variable {aI} {j:Nat} {T:Nat->Prop} {A B:ab1}
theorem o8.lt (d:o8 aI j T c a):c<a/\a<=j:=by
 rcases d with⟨e,b⟩|⟨e,b,_⟩
 ·exact⟨b.1,U⟩
 ·omega
theorem ki.rC (d:ki aI j T A B) (f:gn (e2 A) c a):c<=a/\(c=a\/a<=j):=by
 induction f with
 |refl=>exact⟨aY _,.inl rfl⟩
 |@step c k a e i g=>
  have h:=((d.iT _ _).1 e).2.lt;rcases g.2 with b|b
  ·exact⟨U,.inr U⟩
  ·exact⟨U,.inr b⟩
theorem ki.Gt (b:ki aI j T A B) (f:gn (e2 A) c a) (h:a<j):gF (b1 aI) c a:=by
 induction f with
 |refl=>exact .refl _
 |@step c k a e g i=>
  have m:k<=a:=(b.rC g).1;rcases((b.iT _ _).1 e).2 with⟨_,d⟩|⟨l,_⟩
  ·exact .up d (i h)
  ·omega
theorem ki.Nf (d:ki aI j T A B) (g:gn (e2 A) a j) (p:a<j):∃b,gF (b1 aI) a b/\b<j/\e2 A b j:=by
 generalize i:j=l at g
 induction g with
 |refl=>omega
 |@step a h l c q k=>
  subst i;have o:=((d.iT _ _).1 c).2.lt;rcases bb h j with f|f
  ·obtain⟨b,m,n,dg⟩:=k f rfl;rcases((d.iT _ _).1 c).2 with⟨_,e⟩|⟨e,_⟩
   ·exact⟨b,.up e m,n,dg⟩
   ·omega
  ·obtain rfl:h=j:=U;exact⟨a,.refl _,U,c⟩
theorem FY {j:Nat} (k:gF (b1 aI) h a) (g:gF (b1 aI) h c) (i:∀b,b<j->¬iC (b1 aI) a b) (n:∀b,b<j->¬iC (b1 aI) c b) (m:a<j) (q:c<j):a=c:=by
 induction k with
 |refl h=>
  cases g with
  |refl=>rfl
  |@up _ f _ d e=>exact absurd d (i f (by have:=e.le;omega))
 |@up h f a d e p=>
  cases g with
  |refl=>exact absurd d (n f (by have:=e.le;omega))
  |@up _ b _ l o=>
   obtain rfl:=d.uniq l;exact p o i m
theorem e2.iu {A:ab1}:∀d b c,e2 A d b->e2 A d c->b=c:=λd b c e a=>by unfold e2 at e a;rw[e] at a;simp at a;omega
theorem gn.tail (d:gn m a c) (f:a≠c):∃b,m a b/\gn m b c:=by
 cases d with
 |refl=>exact absurd rfl f
 |step e g=>exact⟨_,e,g⟩
theorem Vc (cs:b2 aI) (ed:aI.length<=200) (e:ki aI j T A B) (d6:j<aI.length) (bl:b1 aI j a):ae (zG ((A,(B,())),(a:Int),(j:Int),())) (λg=>ki aI j (λc=>T c\/c=a) g.1.1 g.1.2.1):=by
 have dl:a<aI.length:=(bl.lt cs).2;unfold zG;simp only[ae.bW]
 let a3:ab1->ab1->Prop:=λH p=>
  (∀b,p[b]?=B[b]?\/(p[b]?=some (j:Int)/\b<j/\gn (e2 A) a b))/\p.length=aI.length/\
  ((H=A/\(gn (e2 A) a j\/j<=a))\/∃g,g<j/\A[g]?=some (-1)/\gn (e2 A) a g/\H=A.set g (j:Int)/\p[g]?=some (j:Int))
 refine ae.mono (P:=λn=>a3 n.1.1 n.1.2.1) ?_ ?_
 ·refine ae.loop (λu=>(u.1=-1/\a3 u.2.1.1 u.2.1.2.1)\/∃c:Nat,u.1=(c:Int)/\c<aI.length/\gn (e2 A) a c/\u.2.1.1=A/\u.2.1.2.1.length=aI.length/\∀b,u.2.1.2.1[b]?=B[b]?\/(u.2.1.2.1[b]?=some (j:Int)/\b<j/\b<c/\gn (e2 A) a b)) (λu=>if u.1=-1 then 0 else 1000-u.1.toNat) (.inr ⟨a,rfl,dl,.refl _,rfl,e.JQ,λb=>.inl rfl⟩) ?_;rintro⟨ek,⟨H,p,_⟩,_⟩ ce;simp only at ce;simp only[ae.bW,ae.bV,ae.af];rcases ce with⟨rfl,co⟩|⟨c,rfl,c2,h,rfl,Y,I⟩
  ·exact⟨λZ=>by simp at Z,λ_=>co⟩
  refine⟨λ_=>⟨λk=>?_,λk=>?_⟩,λZ=>by simp at Z⟩
  ·have k:c<j:=(by simpa using k);simp only[ae.od,ae.n1,ae.xS,ae.af,dc];have D:c<p.length:=U;have bd:p[c]?=B[c]?:=by
    rcases I c with d|⟨_,_,d8,_⟩
    ·exact d
    ·omega
   refine⟨⟨U,D⟩,D,⟨U,D⟩,D,λx=>?_,λx=>?_⟩
   ·have x:p[c]=-1:=(by simpa using x);have L:H[c]?=some (-1):=(e.yZ c).1 (by rw[<-bd,be D,x]);have bB:c<H.length:=(by rw[e.s3];exact c2);refine⟨⟨U,bB⟩,bB,.inl ⟨x,?_,?_,.inr ⟨c,k,L,h,rfl,?_⟩⟩,?_⟩
    ·intro b;rcases k5 b c with l|l|l
     ·rw[lE U];exact(I b).imp id (λ⟨v,z,_,E⟩=>⟨v,z,E⟩)
     ·subst l;rw[ky D];exact .inr ⟨rfl,k,h⟩
     ·rw[lE U];exact(I b).imp id (λ⟨v,z,_,E⟩=>⟨v,z,E⟩)
    ·simp[Y]
    ·rw[ky D]
    ·rw[if_pos x,if_neg U];omega
   ·have x:p[c]≠-1:=(by simpa using x);rcases e.y0 c p[c] (by rw[<-bd,be D]) with d|⟨v,f,O,N,Q⟩
    ·exact absurd d x
    have d9:=((e.iT _ _).1 N).2.lt;have d2:=e.rC Q;have cv:v<aI.length:=by rcases d2.2 with d|d<;>omega
    refine⟨.inr ⟨v,O,cv,h.trans (.step N Q),trivial,by simp[Y],λb=>?_⟩,?_⟩
    ·rcases k5 b c with l|l|l
     ·rw[lE U];exact(I b).imp id (λ⟨W,z,E,X⟩=>⟨W,z,U,X⟩)
     ·subst l;rw[ky D];exact .inr ⟨rfl,k,U,h⟩
     ·rw[lE U];exact(I b).imp id (λ⟨W,z,E,X⟩=>⟨W,z,U,X⟩)
    ·rw[if_neg x,if_neg U,O];simp only[dc];omega
  ·have k:j<=c:=(by simpa using k);refine⟨λb=>(I b).imp id (λ⟨v,z,_,E⟩=>⟨v,z,E⟩),Y,.inl ⟨rfl,?_⟩⟩;rcases(e.rC h).2 with d|d
   ·exact .inr U
   ·obtain rfl:c=j:=U;exact .inl h
 ·rintro⟨⟨H,p,_⟩,_⟩ ⟨K,f2,a4⟩;simp only at K f2 a4;simp only[ae.af];rcases a4 with⟨rfl,h⟩|⟨g,R,L,h,rfl,c1⟩
  ·have d1:∀b f,b<aI.length->(o8 aI j (λc=>T c\/c=a) b f↔o8 aI j T b f):=by
    intro b f _;constructor
    ·rintro(q|⟨rfl,r,C,c,s,k,F,t⟩)
     ·exact .inl q
     ·rcases s with s|rfl
      ·exact .inr ⟨rfl,r,C,c,s,k,F,t⟩
      ·rcases h with h|h
       ·obtain⟨d5,av,a0,dg⟩:=e.Nf h k;have J:=((e.iT _ _).1 dg).2;rcases J with⟨o,_⟩|J
        ·omega
        ·obtain rfl:=FY av t J.2.2.1 C a0 r;exact .inr J
       ·omega
    ·rintro(q|⟨rfl,r,C,c,s,k,F,t⟩)
     ·exact .inl q
     ·exact .inr ⟨rfl,r,C,c,.inl s,k,F,t⟩
   refine⟨e.s3,f2,λb f=>(e.iT b f).trans (and_congr_right λl=>(d1 b f l).symm),e.none,λb=>?_,λb M m=>?_⟩
   ·rcases K b with d|⟨d,l,w⟩
    ·rw[d];exact e.yZ b
    ·rw[d];constructor
     ·intro o;simp at o
     ·intro o;rcases h with h|h
      ·obtain⟨d5,av,a0,dg⟩:=e.Nf h (by have:=(e.rC w).1;omega);have t:=e.Gt w l;have d4:∀n,n<j->¬iC (b1 aI) b n:=λn ad i=>by
        have:e2 H b n:=(e.iT b n).2 ⟨U,.inl ⟨ad,i⟩⟩;unfold e2 at this;rw[o] at this;simp at this
       rcases((e.iT _ _).1 dg).2 with⟨d7,_⟩|J
       ·omega
       ·obtain rfl:=FY av t J.2.2.1 d4 a0 l;unfold e2 at dg;rw[o] at dg;simp at dg
      ·have:=(e.rC w).1;omega
   ·rcases K b with d|⟨d,l,w⟩
    ·rw[d] at m;exact e.y0 b M m
    ·rw[d] at m;cases m;right;have bs:a<j:=(by have:=(e.rC w).1;omega);rcases h with h|h
     ·rcases w.comp e2.iu h with G|G
      ·obtain⟨f,ds,d0⟩:=G.tail U;exact⟨j,f,rfl,ds,d0⟩
      ·have:=(e.rC G).1;omega
     ·omega
  ·have an:g<A.length:=by
    rcases bb g A.length with o|o
    ·exact o
    ·rw[fu o] at L;cases L
   have ap:∀f,¬e2 A g f:=λf i=>(by unfold e2 at i;rw[L] at i;simp at i);have am:∀n,n<j->¬iC (b1 aI) g n:=λn ad i=>ap n ((e.iT g n).2 ⟨by have:=e.s3;omega,.inl ⟨ad,i⟩⟩);have V:∀b f,e2 A b f->e2 (A.set g (j:Int)) b f:=λb f i=>(by have ab:b≠g:=λd=>ap f (d▸i);unfold e2 at i|-;rw[lE U];exact i);have S:e2 (A.set g (j:Int)) g j:=(by unfold e2;rw[ky an]);have bs:a<j:=(by have:=(e.rC h).1;omega);have ci:∀b,gn (e2 A) a b->b≠g->∃f,e2 A b f/\gn (e2 A) f g:=λb l ab=>by
    rcases l.comp e2.iu h with G|G
    ·exact G.tail ab
    ·obtain⟨f,i,_⟩:=G.tail (Ne.symm ab);exact absurd i (ap f)
   refine⟨by simp[e.s3],f2,λb f=>?_,λb M m=>?_,λb=>?_,λb M m=>?_⟩
   ·by_cases y:b=g
    ·subst y;have d:e2 (A.set b (j:Int)) b f↔f=j:=⟨λi=>e2.iu _ _ _ i S,λd=>d▸S⟩;rw[d];constructor
     ·rintro rfl;exact⟨by have:=e.s3;omega,.inr ⟨rfl,R,am,a,.inr rfl,bs,bl,e.Gt h R⟩⟩
     ·rintro⟨_,⟨q,r⟩|⟨q,_⟩⟩
      ·exact absurd r (am f q)
      ·exact q
    ·have d:e2 (A.set g (j:Int)) b f↔e2 A b f:=(by unfold e2;rw[lE U]);rw[d,e.iT];refine and_congr_right λ_=>?_;constructor
     ·rintro(q|⟨rfl,r,C,c,s,k,F,t⟩)
      ·exact .inl q
      ·exact .inr ⟨rfl,r,C,c,.inl s,k,F,t⟩
     ·rintro(q|⟨rfl,r,C,c,s,k,F,t⟩)
      ·exact .inl q
      ·rcases s with s|rfl
       ·exact .inr ⟨rfl,r,C,c,s,k,F,t⟩
       ·exact absurd (FY t (e.Gt h R) C am r R) y
   ·by_cases y:b=g
    ·subst y;rw[ky an] at m;cases m;exact .inr ⟨j,rfl⟩
    ·rw[lE U] at m;exact e.none b M m
   ·by_cases y:b=g
    ·subst y;rw[c1,ky an]
    ·rw[lE U];rcases K b with d|⟨d,l,w⟩
     ·rw[d];exact e.yZ b
     ·rw[d];constructor
      ·intro o;simp at o
      ·intro o;obtain⟨f,i,_⟩:=ci b w y;unfold e2 at i;rw[o] at i;simp at i
   ·rcases K b with d|⟨d,l,w⟩
    ·rw[d] at m;rcases e.y0 b M m with d|⟨v,f,O,N,Q⟩
     ·exact .inl d
     ·exact .inr ⟨v,f,O,V _ _ N,Q.mono V⟩
    ·rw[d] at m;cases m;right;by_cases y:b=g
     ·subst y;exact⟨j,j,rfl,S,.refl _⟩
     ·obtain⟨f,i,d3⟩:=ci b w y;exact⟨j,f,rfl,V _ _ i,(d3.mono V).trans (.step S (.refl _))⟩
end
end
theorem Mz (c a:Nat) (g:ab1) (e:Int) (i:g=List.replicate a e++List.replicate (c-a) 0) (j:a<c):g.set a e=List.replicate (a+1) e++List.replicate (c-(a+1)) 0:=by
 subst i;apply gY;intro b;rw[qe];simp only[nP,m6,yL,lD];split
 ·rename_i h;subst h;rw[if_pos U,if_pos U];split<;>first|rfl|omega
 ·by_cases d:b<a
  ·rw[if_pos d,if_pos d,if_pos (U:b<a+1),if_pos (U:b<a+1)]
  ·rw[if_neg d,if_neg (U:¬b<a+1)];by_cases f:b-a<c-a
   ·rw[if_pos f,if_pos (U:b-(a+1)<c-(a+1))]
   ·rw[if_neg f,if_neg (U:¬b-(a+1)<c-(a+1))]
theorem Wo (a:Nat) (k:a<=200):zH ((a:Int),())=some ((List.replicate a (-1),(List.replicate a (-1),())),()):=by
 rw[<-ae.eq_iff];unfold zH;have j:fq=4294967296:=rfl;simp only[ae.bW,ae.va,ae.af,dc];refine⟨⟨U,U,U⟩,⟨U,U,U⟩,?_⟩;refine ae.for (i0:=0) a (λb i=>i.1.1=List.replicate b (-1)++List.replicate (a-b) 0/\i.1.2.1=List.replicate b (-1)++List.replicate (a-b) 0) rfl ⟨ac,ac⟩ (bN _) ?_ ?_
 ·rintro b ⟨⟨g,e,_⟩,_⟩ _ h ⟨c,d⟩;simp only at c d;have l:g.length=a:=(by rw[c];simp;omega);have m:e.length=a:=(by rw[d];simp;omega);simp only[ae.bV,ae.bW,ae.af,ae.od,ae.n1,ae.xS,dc];exact⟨λ_=>⟨⟨U,U⟩,U,⟨U,U⟩,U,fE U,Mz a b g _ c h,Mz a b e _ d h⟩,λf=>by simp at f;omega⟩
 ·rintro⟨⟨g,e,_⟩,_⟩ ⟨c,d⟩;simp only at c d;simp only[ae.bV,ae.af];refine⟨λf=>by simp at f,λ_=>?_⟩;rw[c,d];simp
structure rJ (aI:c7) (ot:ab1):Prop where
 len:ot.length=aI.length
 iT:∀u p:Nat,ot[u]?=some (p:Int)↔iC (b1 aI) u p
 none:∀(u:Nat) (x:Int),ot[u]?=some x->x=-1\/∃p:Nat,x=(p:Int)
theorem aaF (c:c7):ki c 0 (λ_=>False) (List.replicate c.length (-1)) (List.replicate c.length (-1)):=by
 refine⟨ac,ac,λd f=>?_,λd e a=>?_,λd=>Iff.rfl,λd e a=>?_⟩
 ·constructor
  ·intro b;unfold e2 at b;rw[lD] at b;split at b
   ·simp at b
   ·cases b
  ·rintro⟨_,⟨b,_⟩|⟨_,b,_⟩⟩<;>omega
 ·rw[lD] at a;split at a
  ·cases a;exact .inl rfl
  ·cases a
 ·rw[lD] at a;split at a
  ·cases a;exact .inl rfl
  ·cases a
theorem ki.M7 {h:Nat->Prop} (b:ki k a t f d) (i:∀e g,e<k.length->(o8 k a t e g↔o8 k c h e g)):ki k c h f d:=
 ⟨b.s3,b.JQ,λe g=>(b.iT e g).trans (and_congr_right λj=>i e g j),b.none,b.yZ,b.y0⟩
theorem Y3 (r:b2 k) (q:∀d,b1 k a d->t d) (m c:Nat):o8 k a t m c↔o8 k (a+1) (λ_=>False) m c:=by
 have e:=b1.symm r;constructor
 ·rintro(⟨o,b⟩|⟨rfl,b,p,d,_,v,u,s⟩)
  ·exact .inl ⟨U,b⟩
  ·refine .inl ⟨U,b,?_,λz x C f=>?_⟩
   ·have g:eJ (b1 k) c d c:=.one (e _ _ u);rcases s.walk with rfl|f
    ·exact g
    ·exact((f.symm e).mono U).trans v g
   ·obtain⟨A,D,y⟩:=FD x f;exact p A U y
 ·rintro(⟨o,b⟩|⟨_,_,_,_,n,_⟩)
  ·rcases bb c a with j|j
   ·exact .inl ⟨j,b⟩
   ·obtain rfl:c=a:=U;obtain⟨l,h,i⟩:=(Cl e b.1).1 b.fill;exact .inr ⟨rfl,b.1,λz B w=>by have:=w.uniq b;omega,l,q l h,by have:=i.le;have:=b.1;omega,h,i⟩
  ·exact n.elim
theorem G4 (a:c7) (v:∀B∈a,B.length<4611686018427387904) (w:a.length<=200) (j:b2 a):ae (zF ((a,()),())) (λy=>y.2.1=0/\rJ a y.1):=by
 classical
 unfold zF;have A:gO a=0:=(by unfold gO;rw[if_neg U,if_pos j]);simp only[ae.bW,yE a v,A,ae.af,ae.bV];refine⟨λc=>by simp at c,λ_=>?_⟩;rw[Wo _ w];simp only[ae.af];refine ae.mono (P:=λd=>ki a a.length (λ_=>False) d.1.1 d.1.2.1) ?_ ?_
 ·refine ae.for (i0:=0) a.length (λb m=>ki a b (λ_=>False) m.1.1 m.1.2.1) rfl (aaF a) (bN _) ?_ ?_
  ·rintro b ⟨⟨p,s,_⟩,_⟩ _ k e;simp only at e;simp only[ae.bV,ae.bW,ae.hJ,ae.af];refine⟨λ_=>⟨k,?_⟩,λg=>by simp at g;omega⟩;have D:=v _ (bI k);refine ae.mono (P:=λd=>ki a (b+1) (λ_=>False) d.1.1 d.1.2.1) ?_ ?_
   ·refine ae.for (i0:=0) a[b].length (λi m=>ki a b (λh=>(h:Int)∈a[b].take i) m.1.1 m.1.2.1) rfl (by simpa using e) (bN _) ?_ ?_
    ·rintro i ⟨⟨x,t,_⟩,_⟩ _ o f;simp only at f;simp only[ae.bV,ae.bW,ae.hJ,ae.af];refine⟨λ_=>⟨o,?_⟩,λg=>by simp at g;omega⟩;have E:=(j.asc b k).2 _ (bI o);obtain⟨h,r⟩:∃h:Nat,a[b][i]=(h:Int):=⟨a[b][i].toNat,U⟩;have q:b1 a b h:=⟨k,r▸bI o⟩;rw[r];refine(Vc j w f k q).mono ?_;rintro⟨⟨F,C,_⟩,_⟩ u;simp only at u;refine⟨fE U,u.M7 (λn d _=>?_)⟩;have z:(λl:Nat=>(l:Int)∈a[b].take i\/l=h)=(λl:Nat=>(l:Int)∈a[b].take (i+1)):=by
      funext l;rw[<-mW o,r];apply propext;simp only[eH,eS];constructor<;>rintro(c|c)<;>first|exact .inl c|(right;omega)
     rw[z]
    ·rintro⟨⟨x,t,_⟩,_⟩ f;simp only at f;simp only[ae.bV,ae.af];refine⟨λg=>by simp at g,λ_=>?_⟩;rw[m8] at f;exact f.M7 (λn d _=>Y3 j (λh q=>q.2) n d)
   ·rintro⟨⟨x,t,_⟩,_⟩ f;exact⟨fE U,f⟩
  ·rintro⟨⟨p,s,_⟩,_⟩ e;simp only[ae.bV,ae.af];exact⟨λg=>by simp at g,λ_=>e⟩
 ·rintro⟨⟨p,s,_⟩,_⟩ e;simp only at e;refine⟨trivial,e.s3,λn d=>?_,e.none⟩;rw[show(p[n]?=some (d:Int))=e2 p n d from rfl,e.iT];constructor
  ·rintro⟨_,⟨_,c⟩|⟨_,_,_,_,c,_⟩⟩
   ·exact c
   ·exact c.elim
  ·intro c;have:=c.2.1.lt j;exact⟨this.1,.inl ⟨this.2,c⟩⟩
section
def jk (c:c7) (a b:Nat):Prop:=b=a\/(a<b/\eJ (b1 c) a a b)
open Classical in
def l8 (c:c7) (b:Nat):ab1:=((List.range (b+1)).filter λa=>decide (jk c a b)).map λ(a:Nat)=>(a:Int)
open Classical in
def jc (c:c7) (b d:Nat):ab1:=((List.range d).filter λa=>decide (b<=a/\jk c b a)).map λ(a:Nat)=>(a:Int)
def bk (a:c7) (b:Nat):ab1:=jc a b a.length
theorem Kd:(a:Int)∈l8 k c↔a<=c/\jk k a c:=by
 unfold l8;simp only[bT,fc,fd,decide_eq_true_eq];constructor
 ·rintro⟨d,⟨e,b⟩,f⟩;have:d=a:=U;subst this;exact⟨U,b⟩
 ·exactλ⟨e,b⟩=>⟨a,⟨U,b⟩,rfl⟩
theorem V2 (c:b∈l8 k a):∃d:Nat,b=(d:Int)/\d<=a/\jk k d a:=by unfold l8 at c;simp only[bT,fc,fd,decide_eq_true_eq] at c;obtain⟨e,⟨h,f⟩,g⟩:=c;exact⟨e,g.symm,U,f⟩
theorem jk.le (b:jk k c a):c<=a:=by rcases b with b|b<;>omega
theorem mJ:(a:Int)∈bk k c↔a<k.length/\jk k c a:=by
 unfold bk jc;simp only[bT,fc,fd,decide_eq_true_eq];constructor
 ·rintro⟨e,⟨d,b⟩,f⟩;have:e=a:=U;subst this;exact⟨d,b.2⟩
 ·exactλ⟨d,b⟩=>⟨a,⟨d,b.le,b⟩,rfl⟩
theorem Cs (c:Nat->Bool) (b:Nat):(((List.range b).filter c).map λ(a:Nat)=>(a:Int)).Pairwise (· < ·):=by rw[qh];refine List.Pairwise.filter _ ?_;exact List.pairwise_lt_range.imp (λd=>by omega)
theorem ZW (a:c7) (b:Nat):(l8 a b).Pairwise (· < ·):=Cs _ _
theorem zh (a:c7) (b:Nat):(bk a b).Pairwise (· < ·):=Cs _ _
theorem ZX (b:c7) (a:Nat):(l8 b a).length<=a+1:=by unfold l8;rw[gw];exact dn (h6 _ _) ac
theorem Dn (b:c7) (c a:Nat):(jc b c a).length<=a:=by unfold jc;rw[gw];exact dn (h6 _ _) ac
structure v5 (aI:c7) (i:Nat) (N:Nat->Prop) (m:abX):Prop where
 len:m.length=i+1
 top:m[i]?=some true
 iff:∀u,u<i->(m[u]?=some true↔∃k,N k/\gF (b1 aI) k u)
theorem SR (ad:b2 k) (z:rJ k d) (ce:a<k.length) (ci:k.length<=200) {G:abX} (q:v5 k a t G) {k0:Nat} (av:k0<k.length):ae (loop (σ:=cK) (ρ:=cS) (λ(D,v,_)=>
 Option.bind (α:=cS⊕cl) (bif decide (D>=(0:Int))==true then bif decide (D<(a:Int))==true then(bh v.length D).bind λa4=>
 (a9 v a4 λab=>some ab).bind λbl=>
  bif !bl then
 some (.inl (v,())) else
 some (.inr (.inr (v,()))) else some (.inr (.inr (v,()))) else some (.inr (.inr (v,())))) λbd=>match bd with
 |.inl (Q,_)=>(
 (bh Q.length D).bind λZ=>
 (a9 Q Z λ_=>some (Q.set Z true)).bind λbB=>
 (aA d D).bind λbs=>
 some (.inl (bs,bB,())))
 |.inr R=>some R) ((k0:Int),G,())) (λR=>v5 k a (λm=>t m\/m=k0) R.1):=by
 refine ae.loop (λh=>h.2.1.length=a+1/\h.2.1[a]?=some true/\(h.1=-1\/∃g:Nat,h.1=(g:Int)/\g<k.length/\gF (b1 k) k0 g)/\(∀b,b<a->h.2.1[b]?=some true->G[b]?=some true\/gF (b1 k) k0 b)/\(∀b,b<a->G[b]?=some true->h.2.1[b]?=some true)/\(∀b,b<a->gF (b1 k) k0 b->h.2.1[b]?=some true\/∃g:Nat,h.1=(g:Int)/\gF (b1 k) g b)/\(∀b e,b<a->e<a->h.2.1[b]?=some true->iC (b1 k) b e->h.2.1[e]?=some true\/h.1=(e:Int))) (λh=>if h.1=-1 then 0 else 1000-h.1.toNat) ?_ ?_
 ·refine⟨q.len,q.top,.inr ⟨k0,rfl,av,.refl _⟩,λb _ c=>.inl c,λb _ c=>c,λb _ c=>.inr ⟨k0,rfl,c⟩,λb e f j i F=>.inl ?_⟩;obtain⟨m,C,s⟩:=(q.iff b f).1 i;exact(q.iff e j).2 ⟨m,C,s.trans (.up F (.refl _))⟩
 rintro⟨cv,n,_⟩ ⟨N,O,M,I,J,y,K⟩;simp only at N O M I J y K;have H:(∀b,b<a->gF (b1 k) k0 b->n[b]?=some true)->v5 k a (λm=>t m\/m=k0) n:=λam=>by
  refine⟨N,O,λb f=>⟨λi=>?_,?_⟩⟩
  ·rcases I b f i with c|c
   ·obtain⟨m,C,s⟩:=(q.iff b f).1 c;exact⟨m,.inl C,s⟩
   ·exact⟨k0,.inr rfl,c⟩
  ·rintro⟨m,C|rfl,s⟩
   ·exact J b f ((q.iff b f).2 ⟨m,C,s⟩)
   ·exact am b f s
 simp only[ae.bW,ae.bV,ae.af,ae.od,ae.n1];rcases M with rfl|⟨g,rfl,ap,S⟩
 ·refine⟨λL=>by simp at L,λ_=>H λb f o=>?_⟩;rcases y b f o with c|⟨g,M,_⟩
  ·exact c
  ·omega
 refine⟨λ_=>⟨λB=>?_,λB=>?_⟩,λL=>by simp at L⟩
 ·have B:g<a:=(by simpa using B);have r:g<n.length:=U;simp only[dc];refine⟨⟨U,r⟩,r,λco=>?_,λY=>?_⟩
  ·have V:g<d.length:=(by rw[z.len];exact ap);refine⟨⟨U,r⟩,r,?_⟩;rw[ae.hJ];refine⟨V,?_⟩;have E:d[g]?=some d[g]:=be V;have X:d[g]=-1\/∃e:Nat,d[g]=(e:Int)/\iC (b1 k) g e:=by
    rcases z.none g _ E with l|⟨e,l⟩
    ·exact .inl l
    ·exact .inr ⟨e,l,(z.iT g e).1 (by rw[E,l])⟩
   have p:∀b,(n.set g true)[b]?=some true↔b=g\/n[b]?=some true:=λb=>by
    by_cases f:b=g
    ·subst f;simp[ky r]
    ·rw[lE U];simp[f]
   refine⟨⟨by simp[N],by rw[lE U];exact O,?_,λb f i=>?_,λb f i=>(p b).2 (.inr (J b f i)),λb f o=>?_,λb e f j i F=>?_⟩,?_⟩
   ·rcases X with l|⟨e,l,j⟩
    ·exact .inl l
    ·exact .inr ⟨e,l,(j.2.1.lt ad).2,S.trans (.up j (.refl _))⟩
   ·rcases(p b).1 i with rfl|i
    ·exact .inr S
    ·exact I b f i
   ·rcases y b f o with c|⟨u,T,A⟩
    ·exact .inl ((p b).2 (.inr c))
    ·obtain rfl:u=g:=U;cases A with
     |refl=>exact .inl ((p _).2 (.inl rfl))
     |@up _ e _ j P=>
      have:=(z.iT u e).2 j;rw[E] at this;exact .inr ⟨e,dV this,P⟩
   ·rcases(p b).1 i with rfl|i
    ·have:=(z.iT b e).2 F;rw[E] at this;exact .inr (dV this)
    ·rcases K b e f j i F with c|c
     ·exact .inl ((p e).2 (.inr c))
     ·exact .inl ((p e).2 (.inl U))
   ·rcases X with l|⟨e,l,j⟩
    ·rw[if_pos l,if_neg U];omega
    ·have:=j.1;rw[l,if_neg U,if_neg U];omega
  ·have W:n[g]?=some true:=by
    rw[be r];simp at Y;rw[Y]
   refine H λb f o=>?_;rcases y b f o with c|⟨u,T,A⟩
   ·exact c
   ·obtain rfl:u=g:=U;have:∀{w x:Nat},gF (b1 k) w x->x<a->n[w]?=some true->n[x]?=some true:=by
     intro w x c
     induction c with
     |refl=>exactλ_ c=>c
     |@up w e x j P a3=>
      intro an a0;have cs:=P.le;refine a3 an ?_;rcases K w e (by have:=j.1;omega) U a0 j with c|c
      ·exact c
      ·have:e=u:=U;rw[this];exact W
    exact this A f W
 ·have B:a<=g:=(by simpa using B);refine H λb f o=>?_;rcases y b f o with c|⟨u,T,A⟩
  ·exact c
  ·have:=A.le;omega
open Classical in
theorem ZY (t:b2 k) (B:∀F∈k,F.length<4611686018427387904) (z:rJ k d) (n:a<k.length) (C:k.length<=200):AQ ((k,()),d,(a:Int),())=some (l8 k a,()):=by
 rw[<-ae.eq_iff];unfold AQ;have I:fq=4294967296:=rfl;have D:=b1.symm t;have E:IntKind.i64.wrap ((a:Int)+1)=((a+1:Nat):Int):=fE U;simp only[E,ae.bW,ae.va,ae.od,ae.n1,ae.af,dc,ae.hJ,m6];refine⟨⟨U,U,U⟩,⟨U,U⟩,U,n,?_⟩;have H:=B _ (bI n);refine ae.mono (P:=λG=>v5 k a (λb=>b1 k a b) G.1) ?_ ?_
 ·refine ae.for (i0:=0) k[a].length (λb r=>v5 k a (λe=>(e:Int)∈k[a].take b) r.1) rfl ?_ (bN _) ?_ ?_
  ·refine⟨ac,by rw[ky ac],λh q=>?_⟩;rw[lE U,lD];simp
  ·rintro b ⟨m,_⟩ _ g f;simp only at f;simp only[ae.bV,ae.bW,ae.hJ];refine⟨λ_=>⟨g,?_⟩,λi=>by simp at i;omega⟩;have K:=(t.asc a n).2 _ (bI g);obtain⟨s,l⟩:∃s:Nat,k[a][b]=(s:Int):=⟨k[a][b].toNat,U⟩;rw[l];refine(SR t z n C f (k0:=s) U).mono ?_;rintro⟨x,_⟩ A;simp only[ae.af];refine⟨fE U,?_⟩;have o:(λe:Nat=>(e:Int)∈k[a].take b\/e=s)=(λe:Nat=>(e:Int)∈k[a].take (b+1)):=by
    funext e;rw[<-mW g,l];apply propext;simp only[eH,eS];constructor<;>rintro(c|c)<;>first|exact .inl c|(right;omega)
   rw[<-o];exact A
  ·rintro⟨m,_⟩ f;simp only[ae.bV,ae.af];refine⟨λi=>by simp at i,λ_=>?_⟩;rw[m8] at f;have o:(λe:Nat=>(e:Int)∈k[a])=(λe=>b1 k a e):=by
    funext e;exact propext ⟨λc=>⟨n,c⟩,λc=>c.2⟩
   rw[<-o];exact f
 ·rintro⟨m,_⟩ f;simp only at f;simp only[ae.bW,ae.af];have u:∀h,(q:h<m.length)->(m[h]=true↔jk k h a):=by
   intro h q;have v:=f.len;rcases bb h a with c|c
   ·have:=f.iff h c;rw[be q,bH] at this;rw[this,<-Cl D c];constructor
    ·exactλl=>.inr ⟨c,l⟩
    ·rintro(o|⟨_,l⟩)
     ·omega
     ·exact l
   ·obtain rfl:h=a:=U;have:=f.top;rw[be q,bH] at this;rw[this];exact⟨λ_=>.inl rfl,λ_=>rfl⟩
  have v:=f.len;refine ae.for (i0:=0) m.length (λb r=>r.1=m/\r.2.1=((List.range b).filter λw=>decide (jk k w a)).map λ(w:Nat)=>(w:Int)) rfl ⟨rfl,rfl⟩ (bN _) ?_ ?_
  ·rintro b ⟨x,y,_⟩ _ g ⟨rfl,j⟩;simp only at j g v u;have J:y.length<=b:=by
    rw[j,gw];exact dn (h6 _ _) ac
   simp only[ae.bV,ae.bW,ae.od,ae.n1,ae.af,ae.q3,dc];refine⟨λ_=>⟨⟨U,g⟩,g,λp=>⟨?_,fE U,trivial,?_⟩,λp=>⟨fE U,trivial,?_⟩⟩,λi=>by simp at i;omega⟩
   ·simp;omega
   ·have:=(u b g).1 p;rw[iZ,iX,fZ,<-j];simp[this]
   ·have:¬jk k b a:=λc=>(by rw[(u b g).2 c] at p;cases p);rw[iZ,iX,fZ,<-j];simp[this]
  ·rintro⟨x,y,_⟩ ⟨rfl,j⟩;simp only at j;simp only[ae.bV,ae.af];refine⟨λi=>by simp at i,λ_=>?_⟩;rw[j];unfold l8;rw[v]
open Classical in
theorem SY (c:c7) (b a:Nat):jc c b (a+1)=jc c b a++(if b<=a/\jk c b a then[(a:Int)] else[]):=by
 unfold jc;rw[iZ,iX,fZ];congr 1;by_cases d:b<=a/\jk c b a
 ·rw[if_pos d];simp[d]
 ·rw[if_neg d];simp only[iD,oY];rw[if_neg (by simpa using d)];rfl
theorem ND (r:b2 k) (s:∀C∈k,C.length<4611686018427387904) (u:k.length<=200):AP ((k,()),())=some ((List.range k.length).map (bk k),0,()):=by
 classical
 rw[<-ae.eq_iff];unfold AP;have K:fq=4294967296:=rfl;simp only[ae.bW];refine(G4 k s u r).mono ?_;rintro⟨N,H,_⟩ ⟨t,n⟩;simp only at t n;subst t;have B:=n.len;simp only[ae.bV,ae.bW,ae.af,ae.va,dc];refine⟨λc=>by simp at c,λ_=>⟨⟨U,U,U⟩,?_⟩⟩;rw[B];refine ae.for (i0:=0) k.length (λb m=>m.1=(List.range k.length).map λa=>jc k a b) rfl ?_ (bN _) ?_ ?_
 ·apply gY;intro l;simp[jc,lD];split<;>simp_all
 ·rintro b ⟨E,_⟩ _ x i;simp only at i;simp only[ae.bV,ae.bW,ZY r s n x u,ae.af];refine⟨λ_=>?_,λe=>by simp at e;omega⟩;have M:=ZX k b;refine ae.mono (P:=λF=>F.1=(List.range k.length).map λa=>jc k a (b+1)) ?_ ?_
  ·refine ae.for (i0:=0) (l8 k b).length (λl m=>m.2.1=l8 k b/\m.1=(List.range k.length).map λa=>jc k a b++(if(a:Int)∈(l8 k b).take l then[(b:Int)] else[])) rfl ?_ (bN _) ?_ ?_
   ·refine⟨rfl,?_⟩;rw[i];simp
   ·rintro l ⟨h,G,_⟩ _ g ⟨j,d⟩;simp only at j d;subst j;obtain⟨a,o,J,_⟩:=V2 (bI g);have L:h.length=k.length:=(by rw[d];simp);have f:a<h.length:=U;have A:(a:Int)∉(l8 k b).take l:=λp=>by
     obtain⟨D,y,z⟩:=fH.1 p;simp only[eC] at y;simp only[vY] at z;have:=(gx.1 (ZW k b)) D l U g U;omega
    have v:h[a]=jc k a b:=(by have:h[a]?=some (jc k a b):=(by rw[d,eN,o2 U];simp only[fe];rw[if_neg A,mj]);rw[be f] at this;exact dV this);have I:=Dn k a b;simp only[ae.bV,ae.bW,ae.od,ae.n1,ae.af,ae.q3,dc,o,o5,Bool.and_self,ae.pN];refine⟨λ_=>⟨⟨U,g⟩,g,⟨U,f⟩,f,?_,⟨U,f⟩,λ_=>⟨f,f,fE U,trivial,?_⟩,λc=>by cases c⟩,λe=>by simp at e;omega⟩
    ·rw[v];simp;omega
    ·apply gY;intro q;rw[qe];by_cases w:a=q
     ·subst w;rw[if_pos rfl,if_pos f,eN,o2 (U:a<k.length)];simp only[fe];rw[v,if_pos];rw[<-mW g,o];simp
     ·rw[if_neg w,d,eN,eN];rcases bb q k.length with c|c
      ·rw[o2 c];simp only[fe];congr 2;rw[<-mW g,o];have:((q:Int)=(a:Int))↔False:=iff_of_false U id;simp only[eH,eS,this,or_false]
      ·rw[fu (by simpa using c)];rfl
   ·rintro⟨h,G,_⟩ ⟨j,d⟩;simp only at j d;subst j;simp only[ae.bV,ae.af];refine⟨λe=>by simp at e,λ_=>?_⟩;rw[d,m8];refine hU λa _=>?_;rw[SY];congr 1;by_cases c:a<=b/\jk k a b
    ·rw[if_pos c,if_pos (Kd.2 c)]
    ·rw[if_neg c,if_neg (λp=>c (Kd.1 p))]
  ·rintro⟨h,_⟩ d;exact⟨fE U,d⟩
 ·rintro⟨E,_⟩ i;simp only at i;simp only[ae.bV,ae.af];refine⟨λe=>by simp at e,λ_=>?_⟩;rw[i];rfl
end
theorem GP (a:ab1) (b:Int) (j:a.length<4611686018427387904):w3 (a,b,())=some (decide (b∈a),()):=by
 rw[<-ae.eq_iff];unfold w3;simp only[ae.bW];refine ae.for (i0:=0) a.length (λd _=>b∉a.take d) rfl ac (bN _) ?_ ?_
 ·rintro d _ _ h c;simp only[ae.bV,ae.bW,ae.af,ae.hJ];refine⟨λ_=>⟨h,λf=>?_,λi=>⟨fE U,?_⟩⟩,λg=>by simp at g;omega⟩
  ·have f:a[d]=b:=(by simpa using f);have:b∈a:=f▸bI h;simp[this]
  ·rw[<-mW h,eH];have i:¬a[d]=b:=(by simpa using i);rintro(e|e)
   ·exact c e
   ·exact i (eS.1 e).symm
 ·rintro _ c;simp only[ae.bV,ae.af];refine⟨λg=>by simp at g,λ_=>?_⟩;rw[m8] at c;simp[c]
theorem Ns (a:Int):IntKind.u64.wrap a=a %18446744073709551616:=by unfold IntKind.wrap;rw[if_neg (by simp[IntKind.signed])];rfl
def fw (a:c5) (b c:Nat):Bool:=(a.getD b []).getD c false
def kP (c:c5) (b d:Nat):ab1:=((List.range d).filter λa=>b !=a&&(fw c b a||fw c a b)).map λ(a:Nat)=>(a:Int)
def hf (a:c5):c7:=(List.range a.length).map λb=>kP a b a.length
theorem J1 (b:c5) (c a:Nat):(kP b c a).length<=a:=by unfold kP;rw[gw];exact dn (h6 _ _) ac
theorem J2 (c:c5) (b a:Nat):kP c b (a+1)=kP c b a++(if(b !=a&&(fw c b a||fw c a b))=true then[(a:Int)] else[]):=by
 unfold kP;rw[iZ,iX,fZ];congr 1;by_cases d:(b !=a&&(fw c b a||fw c a b))=true
 ·rw[if_pos d];simp only[iD,d,oY];rfl
 ·rw[if_neg d];simp only[iD,oY];rw[if_neg d];rfl
theorem ug {b:c5} (d:a<b.length) (e:c<b[a].length):fw b a c=b[a][c]:=by unfold fw;simp[List.getD,d,e]
theorem GM (a:c5) (s:∀l∈a,l.length=a.length) (y:a.length<=4294967296):xd (a,())=some ((hf a,()),()):=by
 rw[<-ae.eq_iff];unfold xd;have v:fq=4294967296:=rfl;simp only[ae.bW];refine ae.mono (P:=λg=>g.2.1.1=hf a) ?_ ?_
 ·refine ae.for (i0:=0) a.length (λc n=>n.2.1.1=(List.range c).map λc=>kP a c a.length) rfl rfl (bN _) ?_ ?_
  ·rintro c ⟨n,m,_⟩ _ p h;simp only at h;simp only[ae.bV,ae.bW,ae.af];refine⟨λ_=>?_,λk=>by simp at k;omega⟩;refine ae.mono (P:=λg=>g.2.1=m/\g.2.2.1=kP a c a.length) ?_ ?_
   ·refine ae.for (i0:=0) a.length (λe g=>g.2.1=m/\g.2.2.1=kP a c e) rfl ⟨rfl,rfl⟩ (bN _) ?_ ?_
    ·rintro e ⟨r,o,l,_⟩ _ q ⟨i,f⟩;simp only at f i;subst i;have t:=s _ (bI p);have u:=s _ (bI q);simp only[ae.bV (b:=decide _),ae.bW (x:=Option.bind _ _)];refine⟨λ_=>?_,λk=>by simp at k;omega⟩;rw[ae.bW];refine ae.mono (P:=λg=>g=((c !=e&&(fw a c e||fw a e c)),r,o,l,())) ?_ ?_
     ·simp only[ae.bV,ae.bW,ae.af,ae.hJ];rw[ug p U,ug q U];refine⟨λd=>⟨p,U,λj=>⟨q,U,?_⟩,λj=>?_⟩,λd=>?_⟩
      ·have d:c≠e:=(by simp at d;omega);have j:a[c][e]=false:=(by simpa using j);simp[d,j]
      ·have d:c≠e:=(by simp at d;omega);have j:a[c][e]=true:=(by simpa using j);simp[d,j]
      ·have d:c=e:=(by simp at d;omega);simp[d]
     ·rintro g rfl;have w:=J1 a c e;simp only[ae.bV,ae.bW,ae.af,ae.q3];refine⟨λd=>⟨by rw[f];simp;omega,fE U,trivial,?_⟩,λd=>⟨fE U,trivial,?_⟩⟩
      ·rw[J2,if_pos d,f]
      ·rw[J2,if_neg (by rw[d];simp),f,mj]
    ·rintro⟨r,o,l,_⟩ ⟨i,f⟩;simp only at f i;subst i;simp only[ae.bV,ae.af];exact⟨λk=>by simp at k,λ_=>⟨trivial,f⟩⟩
   ·rintro⟨r,o,l,_⟩ ⟨i,f⟩;simp only at f i;subst i;simp only[ae.bW,ae.af,ae.q3];refine⟨by rw[h];simp;omega,fE U,?_⟩;rw[h,f,iZ,fZ];rfl
  ·rintro⟨n,m,_⟩ h;simp only at h;simp only[ae.bV,ae.af];exact⟨λk=>by simp at k,λ_=>h⟩
 ·rintro⟨n,⟨m,_⟩,_⟩ h;simp only at h;simp only[ae.af];rw[h]
theorem xV {e:c5}:(a:Int)∈kP e c h↔a<h/\c≠a/\(fw e c a||fw e a c)=true:=by
 unfold kP;simp only[bT,fc,fd,bg,bne_iff_ne];constructor
 ·rintro⟨f,⟨b,d⟩,g⟩;have:f=a:=U;subst this;exact⟨b,d⟩
 ·exactλ⟨b,d⟩=>⟨a,⟨b,d⟩,rfl⟩
theorem Bc (c:c5):b2 (hf c):=by
 have h:(hf c).length=c.length:=(by simp[hf]);have d:∀a,(b:a<(hf c).length)->(hf c)[a]=kP c a c.length:=λa b=>(by simp[hf]);refine⟨λa b=>?_,λa b=>?_,λa b j i e=>?_⟩
 ·rw[d a b,h];refine⟨Cs _ _,λm f=>?_⟩;unfold kP at f;simp only[bT,fc,fd] at f;obtain⟨k,⟨l,_⟩,rfl⟩:=f;omega
 ·rw[d a b,xV];exactλg=>g.2.1 rfl
 ·rw[d a b,xV] at e;rw[d j i,xV];exact⟨U,e.2.1.symm,by rw[Bool.or_comm];exact e.2.2⟩
theorem Ed (a:c5):(hf a).length=a.length:=by simp[hf]
theorem UA (c:c5):∀b∈hf c,b.length<=c.length:=by intro b a;unfold hf at a;simp only[bT,fd] at a;obtain⟨d,_,rfl⟩:=a;exact J1 _ _ _
theorem Il (r:b2 k) (s:a<k.length):∃f,bk k a=(a:Int)::f/\(∀c∈f,∃b:Nat,c=(b:Int)/\a<b/\b<k.length/\eJ (b1 k) a a b)/\(∀b:Nat,a<b->eJ (b1 k) a a b->(b:Int)∈f)/\f.Pairwise (· < ·):=by
 have l:(a:Int)∈bk k a:=mJ.2 ⟨s,.inl rfl⟩;have h:=zh k a;have i:∀c∈bk k a,∃b:Nat,c=(b:Int)/\b<k.length/\jk k a b:=(by intro c e;have t:=e;unfold bk jc at e;simp only[bT] at e;obtain⟨b,_,rfl⟩:=e;exact⟨b,rfl,mJ.1 t⟩);generalize q:bk k a=o at l h i;cases o with
 |nil=>cases l
 |cons c f=>
  rw[lF] at h;have e:c=(a:Int):=by
   obtain⟨b,rfl,_,j⟩:=i c (iH ..);have:=j.le;rcases dh.1 l with d|d
   ·exact d.symm
   ·have:=h.1 _ d;omega
  subst e;refine⟨f,rfl,λu n=>?_,λb j m=>?_,h.2⟩
  ·obtain⟨b,rfl,p,g⟩:=i u (e0 _ n);have:=h.1 _ n;rcases g with g|g
   ·omega
   ·exact⟨b,rfl,g.1,p,g.2⟩
  ·have:(b:Int)∈bk k a:=mJ.2 ⟨(m.lt r).2,.inr ⟨j,m⟩⟩;rw[q] at this;rcases dh.1 this with d|d
   ·omega
   ·exact d
theorem Y6 (p:b2 k) (f:rJ k d) (l:a<k.length):(bk k a=[(a:Int)]/\d[a]?=some (-1))\/∃(b:Nat) (e:ab1),bk k a=(a:Int)::(b:Int)::e/\d[a]?=some (b:Int)/\iC (b1 k) a b/\b<k.length:=by
 obtain⟨e,h,n,i,o⟩:=Il p l;cases e with
 |nil=>
  refine .inl ⟨h,?_⟩;have q:a<d.length:=(by rw[f.len];exact l);have g:d[a]?=some d[a]:=be q;rcases f.none a _ g with c|⟨b,c⟩
  ·rw[g,c]
  ·have:=(f.iT a b).1 (by rw[g,c]);cases i b this.1 this.fill
 |cons x e=>
  obtain⟨b,rfl,r,s,t⟩:=n x (iH ..);have m:iC (b1 k) a b:=by
   refine⟨r,t.mono U,λA u z v=>?_⟩;obtain⟨w,y,j⟩:=FD u v;have:=i w j.1 j.fill;rcases dh.1 this with c|c
   ·omega
   ·have:=(lF.1 o).1 _ c;omega
  exact .inr ⟨b,e,h,(f.iT a b).2 m,m,s⟩
theorem fS {a:List n} {i:Nat} {b:n} (c:a[i]?=some b):aA a (i:Int)=some b:=by unfold aA;rw[if_pos U,dc,c]
theorem CV (c:c7):b2 c↔∀a,(g:a<c.length)->c[a].Pairwise (· < ·)/\∀b,(e:b<c[a].length)->(0<=c[a][b]/\c[a][b]<c.length)/\c[a][b]≠(a:Int)/\(a:Int)∈c.getD (c[a][b]).toNat []:=by
 constructor
 ·rintro⟨j,l,m⟩ a d;refine⟨(j a d).1,λb e=>?_⟩;have k:=(j a d).2 _ (bI e);refine⟨k,λf=>l a d (f▸bI e),?_⟩;have h:(c[a][b]).toNat<c.length:=U;have:=m a d _ h (by rw[qc k.1];exact bI e);rw[List.getD,be h];exact this
 ·intro g;refine⟨λa d=>⟨(g a d).1,λp n=>?_⟩,λa d i=>?_,λa d o h i=>?_⟩
  ·obtain⟨b,e,rfl⟩:=fH.1 n;exact((g a d).2 b e).1
  ·obtain⟨b,e,f⟩:=fH.1 i;exact((g a d).2 b e).2.1 f
  ·obtain⟨b,e,f⟩:=fH.1 i;have:=((g a d).2 b e).2.2;rw[f,dc,List.getD,be h] at this;exact this
theorem FT (a:c7) (w:∀F∈a,F.length<4611686018427387904):uM ((a,()),())=some (gO a,()):=by
 classical
 rw[<-ae.eq_iff];unfold uM;simp only[ae.bV,ae.af,ae.bW];refine⟨λd=>?_,λd=>?_⟩
 ·have:200<a.length:=(by simp at d;omega);simp[gO,this]
 have z:¬200<a.length:=(by simp at d;omega);refine ae.mono (P:=λi=>(i=.inl ()/\b2 a)\/(i=.inr (1,())/\¬b2 a)) ?_ ?_
 rotate_left
 ·rintro _ (⟨rfl,e⟩|⟨rfl,e⟩)
  ·simp only[ae.af];simp[gO,z,e]
  ·simp only[ae.af];simp[gO,z,e]
 refine ae.for (i0:=0) a.length (λt _=>∀b,(d:b<a.length)->b<t->a[b].Pairwise (· < ·)/\∀c,(f:c<a[b].length)->(0<=a[b][c]/\a[b][c]<a.length)/\a[b][c]≠(b:Int)/\(b:Int)∈a.getD (a[b][c]).toNat []) rfl (λb _ d=>by omega) (bN _) ?_ ?_
 ·rintro b _ _ e o;have E:=w _ (bI e);simp only[ae.bV,ae.af,ae.bW,ae.hJ];refine⟨λ_=>⟨e,?_⟩,λg=>by simp at g;omega⟩;rw[Nz _ E];simp only[ae.af];refine⟨λh=>.inr ⟨trivial,λq=>?_⟩,λh=>?_⟩
  ·have:=(q.asc b e).1;simp[this] at h
  have h:a[b].Pairwise (· < ·):=(by simpa using h);refine ae.mono (P:=λi=>(i=.inl ()/\∀c,(f:c<a[b].length)->(0<=a[b][c]/\a[b][c]<a.length)/\a[b][c]≠(b:Int)/\(b:Int)∈a.getD (a[b][c]).toNat [])\/(i=.inr (.inr (.inr (1,())))/\¬b2 a)) ?_ ?_
  rotate_left
  ·rintro _ (⟨rfl,s⟩|⟨rfl,s⟩)
   ·simp only[ae.af];refine⟨fE U,λv D H=>?_⟩;rcases bb v b with d|d
    ·exact o v D d
    ·obtain rfl:v=b:=U;exact⟨h,s⟩
   ·simp only[ae.af];exact .inr ⟨trivial,s⟩
  refine ae.for (i0:=0) a[b].length (λt _=>∀c,(f:c<a[b].length)->c<t->(0<=a[b][c]/\a[b][c]<a.length)/\a[b][c]≠(b:Int)/\(b:Int)∈a.getD (a[b][c]).toNat []) rfl (λb _ d=>by omega) (bN _) ?_ ?_
  ·rintro c _ _ f p;have j:¬((0<=a[b][c]/\a[b][c]<a.length)/\a[b][c]≠(b:Int)/\(b:Int)∈a.getD (a[b][c]).toNat [])->¬b2 a:=λd q=>d (((CV a).1 q b e).2 c f);simp only[ae.bV,ae.af,ae.bW,ae.hJ];refine⟨e,λ_=>⟨e,f,λk=>⟨λl=>⟨λm=>?_,λm=>?_⟩,λl=>?_⟩,λk=>?_⟩,λg=>by simp at g;omega⟩
   ·have A:0<=a[b][c]/\a[b][c]<(a.length:Int):=(by simp at k l;omega);have C:a[b][c]≠(b:Int):=(by simpa using m);rw[ae.Jj];refine⟨U,A.1,?_⟩;rw[GP _ _ (w _ (bI _))];have x:a.getD (a[b][c]).toNat []=a[(a[b][c]).toNat]'(by omega):=by
     rw[List.getD,be U];rfl
    simp only[ae.af];refine⟨λn=>.inr ⟨trivial,j ?_⟩,λn=>⟨fE U,λu B G=>?_⟩⟩
    ·rintro⟨_,_,y⟩;rw[x] at y;simp[y] at n
    ·rcases bb u c with d|d
     ·exact p u B d
     ·obtain rfl:u=c:=U;refine⟨A,C,?_⟩;rw[x];simpa using n
   ·refine .inr ⟨trivial,j (λr=>r.2.1 ?_)⟩;simpa using m
   ·refine .inr ⟨trivial,j (λr=>?_)⟩;simp at l;omega
   ·refine .inr ⟨trivial,j (λr=>?_)⟩;simp at k;omega
  ·rintro _ p;simp only[ae.bV,ae.af,ae.bW,ae.hJ];exact⟨e,λg=>by simp at g,λ_=>.inl ⟨trivial,λc f=>p c f f⟩⟩
 ·rintro _ o;simp only[ae.bV,ae.af];exact⟨λg=>by simp at g,λ_=>.inl ⟨trivial,(CV a).2 λb e=>o b e e⟩⟩
theorem RD (b:ab1) (e:Int) (r:b.length<4611686018427387904):AI (b,e,())=some (decide (∀c∈b,0<=c/\c<e),()):=by
 rw[<-ae.eq_iff];unfold AI;simp only[ae.bW];refine ae.mono (P:=λn=>(n=.inl ()/\∀c∈b,0<=c/\c<e)\/(n=.inr (false,())/\¬∀c∈b,0<=c/\c<e)) ?_ ?_
 ·refine ae.for (i0:=0) b.length (λf _=>∀d,(a:d<b.length)->d<f->0<=b[d]/\b[d]<e) rfl (λd _ a=>by omega) (bN _) ?_ ?_
  ·rintro f _ _ l j;have m:¬(0<=b[f]/\b[f]<e)->¬∀c∈b,0<=c/\c<e:=λa o=>a (o _ (bI l));simp only[ae.bV,ae.bW,ae.af,ae.hJ];refine⟨λ_=>⟨l,λh=>⟨l,λi=>.inr ⟨trivial,m (λa=>?_)⟩,λi=>⟨fE U,λd g q=>?_⟩⟩,λh=>.inr ⟨trivial,m (λa=>?_)⟩⟩,λk=>by simp at k;omega⟩
   ·simp at i;omega
   ·rcases bb d f with a|a
    ·exact j d g a
    ·obtain rfl:d=f:=U;simp at h i;omega
   ·simp at h;omega
  ·rintro _ j;simp only[ae.bV,ae.af];refine⟨λk=>by simp at k,λ_=>.inl ⟨trivial,λc p=>?_⟩⟩;obtain⟨d,g,rfl⟩:=fH.1 p;exact j d g g
 ·rintro _ (⟨rfl,a⟩|⟨rfl,a⟩)
  ·simp only[ae.af];rw[decide_eq_true a]
  ·simp only[ae.af];rw[decide_eq_false a]
theorem KA:d.Nodup↔∀a,(c:a<d.length)->d[a]∉d.take a:=by
 unfold List.Nodup;rw[gx];constructor
 ·intro c a e h;obtain⟨j,g,b⟩:=fH.1 h;simp only[eC] at g;simp only[vY] at b;exact c j a U e U b
 ·intro c a i e f k b;exact c i f (fH.2 ⟨a,by simp;omega,by simp[b]⟩)
theorem RL (b:ab1) (o:b.length<4611686018427387904):AJ (b,())=some (decide (¬b.Nodup),()):=by
 rw[<-ae.eq_iff];unfold AJ;simp only[ae.bW];refine ae.mono (P:=λj=>(j=.inl ()/\b.Nodup)\/(j=.inr (true,())/\¬b.Nodup)) ?_ ?_
 ·refine ae.for (i0:=0) b.length (λd _=>∀a,(c:a<b.length)->a<d->b[a]∉b.take a) rfl (λa _ c=>by omega) (bN _) ?_ ?_
  ·rintro d _ _ i f;have aj:fU (d:Int)=some d:=(by unfold fU;rw[if_pos U,dc]);have k:gj 0 d b.length=some ():=(by unfold gj;rw[if_pos U]);simp only[ae.bV,ae.bW,ae.af,ae.hJ,aj,k,aG,fe,ml];refine⟨λ_=>⟨i,?_⟩,λg=>by simp at g;omega⟩;rw[GP _ _ (by rw[eC];omega)];simp only[ae.af];refine⟨λc=>.inr ⟨trivial,λl=>?_⟩,λc=>⟨fE U,λa e n=>?_⟩⟩
   ·exact KA.1 l d i (of_decide_eq_true c)
   ·rcases bb a d with h|h
    ·exact f a e h
    ·obtain rfl:a=d:=U;exact of_decide_eq_false c
  ·rintro _ f;simp only[ae.bV,ae.af];exact⟨λg=>by simp at g,λ_=>.inl ⟨trivial,KA.2 λa e=>f a e e⟩⟩
 ·rintro _ (⟨rfl,c⟩|⟨rfl,c⟩)
  ·simp only[ae.af];rw[decide_eq_false (λm=>m c)]
  ·simp only[ae.af];rw[decide_eq_true c]
def mV (a:c7):c5:=(List.range a.length).map λb=>(List.range a.length).map λ(c:Nat)=>decide ((c:Int)∈a.getD b [])
theorem Gh (a:c7):(mV a).length=a.length:=by simp[mV]
theorem MR (b:a<k.length):(mV k)[a]?=some ((List.range k.length).map λ(c:Nat)=>decide ((c:Int)∈k[a])):=by simp[mV,b,List.getD]
theorem G8 (t:∀x∈k,x.length<4611686018427387904) (z:k.length<=200) (u:∀a,(d:a<k.length)->∀s∈k[a],0<=s/\s<(k.length:Int)):xe ((k,()),())=some (mV k,()):=by
 rw[<-ae.eq_iff];unfold xe;have y:fq=4294967296:=rfl;simp only[ae.bW];refine ae.mono (P:=λi=>i.1=mV k) ?_ (by rintro⟨n,_⟩ d;simp only at d;simp only[ae.af];rw[d]);refine ae.for (i0:=0) k.length (λw j=>j.1=(mV k).take w) rfl ac (bN _) ?_ ?_
 ·rintro a ⟨o,_⟩ _ g f;simp only at f;have B:=t _ (bI g);simp only[ae.bV,ae.bW,ae.va,dc];refine⟨λ_=>⟨⟨U,U,U⟩,?_⟩,λe=>by simp at e;omega⟩;refine ae.mono (P:=λi=>i.1=o/\i.2.1=(List.range k.length).map λ(q:Nat)=>decide ((q:Int)∈k[a])) ?_ ?_
  ·refine ae.for (i0:=0) k[a].length (λh j=>j.1=o/\j.2.1=(List.range k.length).map λ(q:Nat)=>decide ((q:Int)∈k[a].take h)) rfl ⟨rfl,?_⟩ (bN _) ?_ ?_
   ·apply gY;intro h;simp[lD];split<;>simp_all
   ·rintro h ⟨n,p,_⟩ _ m ⟨c,b⟩;simp only at c b;have v:=u a g _ (bI m);have A:p.length=k.length:=(by rw[b];simp);simp only[ae.bV,ae.bW,ae.hJ,ae.od,ae.n1,ae.af];refine⟨g,λ_=>⟨g,m,⟨v.1,U⟩,U,fE U,c,?_⟩,λe=>by simp at e;omega⟩;apply gY;intro l;rw[qe,b,eN,eN];rcases bb l k.length with d|d
    ·rw[o2 d];simp only[fe,<-mW m,eH,eS,gw,qf];by_cases r:(k[a][h]).toNat=l
     ·rw[if_pos r,if_pos U];have:(l:Int)=k[a][h]:=U;simp[this]
     ·rw[if_neg r];have:¬(l:Int)=k[a][h]:=U;simp[this]
    ·rw[if_neg U,fu (by simpa using d)];rfl
   ·rintro⟨n,p,_⟩ ⟨c,b⟩;simp only at c b;simp only[ae.bV,ae.bW,ae.hJ,ae.af];refine⟨g,λe=>by simp at e,λ_=>⟨c,?_⟩⟩;rw[b,m8]
  ·rintro⟨n,p,_⟩ ⟨c,b⟩;simp only at c b;subst c;simp only[ae.bW,ae.q3,ae.af];refine⟨by rw[f];simp;omega,fE U,?_⟩;rw[f,b];have:=MR g;rw[jo,this];rfl
 ·rintro⟨o,_⟩ f;simp only at f;simp only[ae.bV,ae.af];refine⟨λe=>by simp at e,λ_=>?_⟩;rw[f,<-Gh,m8]
theorem IE (a:Nat) (k:a<=4294967296):xf ((a:Int),())=some (List.replicate a (List.replicate a false),()):=by
 rw[<-ae.eq_iff];unfold xf;have j:fq=4294967296:=rfl;simp only[ae.bW];refine ae.mono (P:=λf=>f.1=List.replicate a (List.replicate a false)) ?_ (by rintro⟨l,_⟩ d;simp only at d;simp only[ae.af];rw[d]);refine ae.for (i0:=0) a (λe g=>g.1=List.replicate e (List.replicate a false)) rfl rfl (bN _) ?_ ?_
 ·rintro e ⟨h,_⟩ _ i b;simp only at b;simp only[ae.bV,ae.bW,ae.af,ae.va,ae.q3,dc];refine⟨λ_=>⟨⟨U,U,U⟩,by rw[b];simp;omega,fE U,?_⟩,λc=>by simp at c;omega⟩;rw[b,List.replicate_succ']
 ·rintro⟨h,_⟩ b;simp only[ae.bV,ae.af];exact⟨λc=>by simp at c,λ_=>b⟩
section
def aq {α:Type} (b:Nat) (a:Nat->α):List α:=(List.range b).map a
def bZ {α:Type} (b:Nat->α) (c:Nat) (d:α):Nat->α:=λa=>if a=c then d else b a
section
variable {α A B:Type}
theorem ew (c:Nat->α) (a:Nat) (b:α):bZ c a b a=b:=if_pos rfl
theorem eG (b:Nat->α) (e:α) (d:a≠c):bZ b c e a=b a:=if_neg d
theorem bi (a:Nat) (b:Nat->α):(aq a b).length=a:=by simp[aq]
theorem lV (c:Nat) (d:Nat->α) (b:Nat):(aq c d)[b]?=if b<c then some (d b) else none:=by
 unfold aq;rw[eN];rcases bb b c with a|a
 ·rw[o2 a,if_pos a];rfl
 ·rw[fu (by simpa using a),if_neg U];rfl
theorem qT {b:Nat->α} (d:a<c):(aq c b)[a]?=some (b a):=by rw[lV,if_pos d]
theorem gh {b:Nat->α} (d:a<(aq c b).length):(aq c b)[a]=b a:=by simp[aq]
theorem bR {c d:Nat->α} (e:∀b,b<a->c b=d b):aq a c=aq a d:=hU λb f=>e b (fd.1 f)
theorem IV (a:Nat->α):aq 0 a=[]:=rfl
theorem n9 (b:Nat) (a:Nat->α):aq (b+1) a=aq b a++[a b]:=by simp[aq,iZ]
theorem he (a:Nat) (b:α):List.replicate a b=aq a λ_=>b:=by apply gY;intro c;rw[lD,lV]
theorem fA {d:Nat->α} (f:α):(aq c d).set a f=aq c (bZ d a f):=by
 apply gY;intro e;rw[qe,lV,lV,bi];unfold bZ;by_cases b:a=e
 ·subst b;simp
 ·have h:¬e=a:=λg=>b (Eq.symm g);simp only[if_neg b,if_neg h]
theorem IS (c:List α) (d:Nat->α) (e:∀a,(b:a<c.length)->c[a]=d a):c=aq c.length d:=by
 apply gY;intro a;rw[lV];split
 ·rename_i b;rw[be b,e a b]
 ·rename_i b;exact fu U
theorem A6 (d b:Nat) (c:Nat->α) (f:b<=d):(aq d c).take b=aq b c:=by
 apply gY;intro e;rw[rU,lV,lV];by_cases a:e<b
 ·rw[if_pos a,if_pos a,if_pos U]
 ·rw[if_neg a,if_neg a]
theorem Un (c a:Nat) (d:Nat->α):(aq c d).drop a=aq (c-a) (λb=>d (a+b)):=by
 apply gY;intro b;rw[iG,lV,lV];by_cases e:a+b<c
 ·rw[if_pos e,if_pos U]
 ·rw[if_neg e,if_neg U]
theorem xw (b d:Nat) (e f:Nat->α):aq b e++aq d f=aq (b+d) (λa=>if a<b then e a else f (a-b)):=by
 apply gY;intro a;rw[yL,bi,lV,lV,lV];by_cases c:a<b
 ·rw[if_pos c,if_pos c,if_pos U,if_pos c]
 ·rw[if_neg c];by_cases g:a-b<d
  ·rw[if_pos g,if_pos U,if_neg c]
  ·rw[if_neg g,if_neg U]
theorem dy (b:a<c):bh c (a:Int)=some a:=by unfold bh;rw[if_pos ⟨U,by simpa using b⟩];simp
theorem ng {d:List α} {c:α} {b:α->Option A} (e:d[a]?=some c):a9 d a b=b c:=by unfold a9;rw[e]
theorem dw {b:Nat->α} {d:α->Option A} (e:a<c):a9 (aq c b) a d=d (b a):=ng (qT e)
theorem sS {b:Nat->α} (d:a<c):aA (aq c b) (a:Int)=some (b a):=fS (qT d)
theorem dZ (b:a<=4294967296):bS a=some ():=if_pos b
theorem gT (b:a<=4294967296):eo (a:Int) (a:Int)=some a:=by unfold eo;rw[if_pos ⟨U,U,by have:fq=4294967296:=rfl;omega⟩];simp
theorem s8:fU (a:Int)=some a:=by unfold fU;rw[if_pos U];simp
theorem u1 (b:c<=a/\a<=h):gj c a h=some ():=if_pos b
theorem LK (b:0<a):vq a=some ():=rfl
theorem dT (a b:Int):(a==b)=decide (a=b):=by by_cases c:a=b<;>simp[c]
theorem dr (a b:Int):(a !=b)=!decide (a=b):=by by_cases c:a=b<;>simp[c]
theorem az [Decidable o] (a:o):decide o=true:=decide_eq_true a
theorem ay [Decidable o] (a:¬o):decide o=false:=decide_eq_false a
theorem bn {a c:α} (b:g=true):(bif g then a else c)=a:=by rw[b];rfl
theorem bm {c a:α} (b:g=false):(bif g then c else a)=a:=by rw[b];rfl
theorem bu [Decidable o] {a b:α}:(bif decide o then a else b)=if o then a else b:=by by_cases c:o<;>simp[c]
theorem Dr [Decidable o] {a b:α}:(bif decide o==true then a else b)=if o then a else b:=by by_cases c:o<;>simp[c]
theorem zk [Decidable o] {a b:α}:(bif decide o==false then a else b)=if o then b else a:=by by_cases c:o<;>simp[c]
theorem CI (b:a<9223372036854775808):IntKind.i64.wrap (a:Int)=(a:Int):=wrap64 U U
theorem Nu (b:a+c<9223372036854775808):IntKind.i64.wrap ((a:Int)+(c:Int))=((a+c:Nat):Int):=by rw[wrap64 U U];simp
theorem aby (d:c<=a) (b:a<9223372036854775808):IntKind.i64.wrap ((a:Int)-(c:Int))=((a-c:Nat):Int):=by rw[wrap64 U U];omega
theorem GC (c:1<=a) (b:a<9223372036854775808):IntKind.i64.wrap ((a:Int)-1)=((a-1:Nat):Int):=by rw[wrap64 U U];omega
theorem kb (b:a+1<9223372036854775808):IntKind.i64.wrap ((a:Int)+1)=((a+1:Nat):Int):=by rw[wrap64 U U];omega
end
theorem ae.of_eq {α:Type} {c:Option α} {a:α} {b:α->Prop} (d:c=some a) (e:b a):ae c b:=⟨a,d,e⟩
theorem ae.aW {α A:Type} {c:Option α} {b:α->Option A} {P:α->Prop} {a:A->Prop} (e:ae c P) (f:∀d,P d->ae (b d) a):ae (c.bind b) a:=
 ae.bW.2 (e.mono f)
theorem ae.ite {α:Type} [Decidable o] {c d:Option α} {b:α->Prop} (e:o->ae c b) (f:¬o->ae d b):ae (if o then c else d) b:=by
 by_cases a:o
 ·rw[if_pos a];exact e a
 ·rw[if_neg a];exact f a
theorem au {α A:Type} {c:Option α} {a:α->Option A} {y:α} {b:Option A} (d:c=some y) (e:a y=b):c.bind a=b:=by rw[d];exact e
theorem xN {f:Int×n->Option ((Int×n)⊕r)} {g:r} {h:n} (d:Nat) (c:Nat->n) (e:Nat) (m:b=(e:Int)) (p:h=c e) (l:e<=d) (o:∀a,e<=a->a<d->f ((a:Int),c a)=some (.inl (((a+1:Nat):Int),c (a+1)))) (k:f ((d:Int),c d)=some (.inr g)):loop f (b,h)=some g:=by
 subst m p;rw[<-ae.eq_iff];refine ae.for d (λa q=>q=c a) rfl rfl l ?_ ?_
 ·rintro a _ i j rfl;rw[o a i j];exact ae.af.2 ⟨rfl,rfl⟩
 ·rintro _ rfl;rw[k];exact ae.af.2 rfl
theorem Bw {τ:Type} {k:Int×τ->Option ((Int×τ)⊕n)} (f:Nat) (e:Nat->Prop) (h:τ) (o m:n) (d:Nat) (t:b=(d:Int)) (s:d<=f) (u:∀a,d<=a->a<f->(∀c,d<=c->c<a->e c)->k ((a:Int),h)=some (open Classical in if e a then .inl (((a+1:Nat):Int),h) else .inr m)) (r:(∀c,d<=c->c<f->e c)->k ((f:Int),h)=some (.inr o)):loop k (b,h)=some (open Classical in if∀a,d<=a->a<f->e a then o else m):=by
 classical
 subst t;rw[<-ae.eq_iff];refine ae.for f (λa v=>v=h/\∀c,d<=c->c<a->e c) rfl ⟨rfl,λc l q=>by omega⟩ s ?_ ?_
 ·rintro a _ p l ⟨rfl,g⟩;rw[u a p l g];by_cases j:e a
  ·rw[if_pos j];refine ae.af.2 ⟨rfl,rfl,λc q w=>?_⟩;rcases bb c a with i|i
   ·exact g c q i
   ·obtain rfl:c=a:=U;exact j
  ·rw[if_neg j];exact ae.af.2 (by rw[if_neg (λi=>j (i a p l))])
 ·rintro _ ⟨rfl,g⟩;rw[r g];exact ae.af.2 (by rw[if_pos g])
theorem EO {g:Int×Unit->Option cB} (e:Nat) (c:Nat->Prop) (k:∀a,a<e->g ((a:Int),())=some (open Classical in if c a then .inl (((a+1:Nat):Int),()) else .inr (.inr ((a:Int),())))) (j:g ((e:Int),())=some (.inr (.inl ()))):ae (loop g (0,())) (λl=>match l with|.inl _=>∀a,a<e->c a|.inr m=>0<=m.1/\¬∀a,a<e->c a):=by
 classical
 refine ae.for e (λa _=>∀b,b<a->c b) (i0:=0) rfl (λb d=>by omega) (bN _) ?_ ?_
 ·rintro a ⟨⟩ _ i h;rw[k a i];by_cases f:c a
  ·rw[if_pos f];refine ae.af.2 ⟨rfl,λb n=>?_⟩;rcases bb b a with d|d
   ·exact h b d
   ·obtain rfl:b=a:=U;exact f
  ·rw[if_neg f];exact ae.af.2 ⟨by show(0:Int)<=(a:Int);omega,λd=>f (d a i)⟩
 ·rintro⟨⟩ h;rw[j];exact ae.af.2 h
end
theorem GA (a:Int):IntKind.u32.wrap a=a %4294967296:=by unfold IntKind.wrap;exact if_neg (ac:¬(false&&decide (a %4294967296>=(2147483648:Int)))=true)
theorem yA (a:Int):IntKind.u64.wrap a=a %18446744073709551616:=by unfold IntKind.wrap;exact if_neg (ac:¬(false&&decide (a %18446744073709551616>=(9223372036854775808:Int)))=true)
theorem CJ (a:0<=b) (c:b<18446744073709551616):IntKind.u64.wrap b=b:=by rw[yA];omega
theorem GB (a:0<=b) (c:b<4294967296):IntKind.u32.wrap b=b:=by rw[GA];omega
theorem zd (b:a<18446744073709551616):(BitVec.ofInt 64 (a:Int)).toNat=a:=by rw[BitVec.ofInt_natCast,BitVec.toNat_ofNat];exact Nat.mod_eq_of_lt b
theorem zc (b:a<4294967296):(BitVec.ofInt 32 (a:Int)).toNat=a:=by rw[BitVec.ofInt_natCast,BitVec.toNat_ofNat];exact Nat.mod_eq_of_lt b
theorem Hq (d:a<18446744073709551616) (e:c<18446744073709551616):dq .u64 (a:Int) (c:Int)=((a&&&c:Nat):Int):=by have b:((BitVec.ofInt 64 (a:Int))&&&(BitVec.ofInt 64 (c:Int))).toNat=a&&&c:=(by rw[BitVec.toNat_and,zd d,zd e]);have f:a&&&c<=a:=Nat.and_le_left;unfold dq;rw[show IntKind.u64.bits=64 from rfl,b];exact CJ U U
theorem Hp (d:a<4294967296) (e:c<4294967296):dq .u32 (a:Int) (c:Int)=((a&&&c:Nat):Int):=by have b:((BitVec.ofInt 32 (a:Int))&&&(BitVec.ofInt 32 (c:Int))).toNat=a&&&c:=(by rw[BitVec.toNat_and,zc d,zc e]);have f:a&&&c<=a:=Nat.and_le_left;unfold dq;rw[show IntKind.u32.bits=32 from rfl,b];exact GB U U
theorem YW (b:a<18446744073709551616) (d:c<18446744073709551616):eP .u64 (a:Int) (c:Int)=((a|||c:Nat):Int):=by have e:(BitVec.ofInt 64 (a:Int)|||BitVec.ofInt 64 (c:Int)).toNat=a|||c:=(by rw[BitVec.toNat_or,zd b,zd d]);have f:a|||c<2^64:=Nat.or_lt_two_pow b d;unfold eP;rw[show IntKind.u64.bits=64 from rfl,e];exact CJ U U
theorem YV (b:a<4294967296) (d:c<4294967296):eP .u32 (a:Int) (c:Int)=((a|||c:Nat):Int):=by have e:(BitVec.ofInt 32 (a:Int)|||BitVec.ofInt 32 (c:Int)).toNat=a|||c:=(by rw[BitVec.toNat_or,zc b,zc d]);have f:a|||c<2^32:=Nat.or_lt_two_pow b d;unfold eP;rw[show IntKind.u32.bits=32 from rfl,e];exact GB U U
theorem qp (a:Nat) (d:0<=b) (i:b<18446744073709551616) (c:Int) (f:a<=64) (g:c=2^a-1):dq .u64 b c=b %2^a:=by obtain⟨k,rfl⟩:=eY d;have h:0<2^a:=i5 a;have e:c=((2^a-1:Nat):Int):=(by rw[g,Int.natCast_sub h];simp);have j:2^a<=2^64:=o7 aa f;rw[e,Hq U U,Nat.and_two_pow_sub_one_eq_mod];simp
theorem and_low32 (a:0<=b) (c:b<18446744073709551616):dq .u64 b 4294967295=b %4294967296:=qp 32 a c _ aa aa
theorem mT (a:Int):dm .u64 a 32=some (a/4294967296):=by have:dm .u64 a 32=some (a.fdiv 4294967296):=rfl;rw[this,yI _ aa]
theorem mb (a:0<=b) (c:b<=64):gW .u64 e b=some ((e*2^b.toNat) %18446744073709551616):=by unfold gW;rw[if_pos a,yA,show IntKind.u64.bits=64 from rfl,gm U]
theorem ry (a:0<=b) (c:b<=64):dm .u64 e b=some (e/2^b.toNat):=by unfold dm;rw[if_pos a,show IntKind.u64.bits=64 from rfl,gm U,yI _ (by exact Int.pow_nonneg aa)]
theorem Hs (b:Nat) (d:a<2^b):a|||(c*2^b)=a+c*2^b:=by rw[Nat.add_comm,Nat.or_comm,im,Nat.two_pow_add_eq_or_of_lt d]
theorem lq (a:Nat) (f:0<=b) (g:b<2^a) (h:0<=e) (m:b<18446744073709551616) (n:e<18446744073709551616) (j:e %2^a=0):eP .u64 b e=b+e:=by obtain⟨d,rfl⟩:=eY f;obtain⟨c,rfl⟩:=eY h;have l:d<2^a:=(by have:((d:Nat):Int)<((2^a:Nat):Int):=(by simpa using g);omega);have k:c %2^a=0:=(by have:((c %2^a:Nat):Int)=0:=(by simpa using j);omega);rw[YW U U];have i:c=(c/2^a)*2^a:=(by have:=qj c (2^a);rw[k,im] at this;omega);rw[i,Hs a l];simp
def aC (a:Nat):Nat:=if a=0 then 0 else a.log2+1
theorem dF {k:Nat}:aC a<=k↔a<2^k:=by
 unfold aC;split
 ·rename_i b;subst b;simp;exact i5 k
 ·rename_i b;rw[<-Nat.log2_lt b];omega
theorem sd:a<aC c↔2^a<=c:=by rw[<-Nat.not_le,dF,Nat.not_lt]
theorem LC (a b:Nat) (c:a<=b):2^a<=2^b:=o7 aa c
theorem B1 (a b:Nat) (c:a<b):2^a<2^b:=Nat.pow_lt_pow_right aa c
theorem kG (b:c<=a):aC c<=aC a:=by rw[dF];have:=dF.1 (aY (aC a));omega
theorem qu {k l:Nat} (b:aC a<=k) (d:aC c<=l):aC (a*c)<=k+l:=by rw[dF,jq];exact Nat.mul_lt_mul'' (dF.1 b) (dF.1 d)
theorem Ks {b:Nat} (d:c<=b*a) (e:h<a):c+h<=(b+1)*a:=by rw[eD,g0];omega
theorem Sk (b:Nat) (d:aC a<=b) (e:aC c<=b):aC (a+c)<=b+1:=by rw[dF] at*;rw[jO];omega
theorem Zm {e:Nat} (d:h*2^c=a*2^e) (g:0<h):0<a:=by
 rcases g7 a with b|b
 ·rw[b,na] at d;have:=i5 c;rcases Nat.mul_eq_zero.1 d with f|f<;>omega
 ·exact b
theorem pi {m:Nat} (a:0<m):0<aC m:=sd.2 a
theorem Sm:aC 0=0:=rfl
theorem HW {k:Nat} (b:2^k<=a) (c:a<2^(k+1)):aC a=k+1:=by have:=sd.2 b;have:=dF.2 c;omega
theorem wj (b:0<a):2^(aC a-1)<=a/\a<2^aC a:=
 ⟨sd.1 (by have:=pi b;omega),dF.1 (aY _)⟩
theorem my (d:0<a) (b:Nat):aC (a*2^b)=aC a+b:=by
 obtain⟨e,f⟩:=wj d;have h:=i5 b;have i:=pi d;obtain⟨c,g⟩:∃c,aC a=c+1:=⟨aC a-1,U⟩;rw[g] at e f|-;rw[(U:c+1+b=(c+b)+1)];refine HW ?_ ?_
 ·rw[jq];exact ga _ (by simpa using e)
 ·rw[(U:c+b+1=(c+1)+b),jq];exact Nat.mul_lt_mul_of_pos_right f h
theorem wk (b a:Nat):aC (b/2^a)=aC b-a:=by
 have c:=i5 a;apply Nat.le_antisymm
 ·rw[dF,Nat.div_lt_iff_lt_mul c,<-jq];exact dF.1 U
 ·rcases bb a (aC b) with d|d
  ·have:aC b-a-1<aC (b/2^a):=by
    rw[sd,yO c,<-jq];exact sd.1 U
   omega
  ·omega
def tA (c:Bool) (b:Int) (d:Bool) (a:Int):Bool:=
 if a=1 then c else if a=2 then !c else if a=3 then false else decide (0<b)||(decide (b=0)&&d)
def kn (b a:Nat) (c:Bool):Int:=
 if 2*(b %2^a)<2^a then-1 else if 2^a<2*(b %2^a) then 1 else if c then 1 else 0
def hH (e:Bool) (a b:Nat) (c:Bool) (d:Int):Nat:=
 if a %2^b=0/\c=false then a/2^b
 else if tA e (kn a b c) (decide (a/2^b %2=1)) d then a/2^b+1 else a/2^b
theorem Wd (b a c:Nat):b %2^(a+c)=(b/2^a %2^c)*2^a+b %2^a:=by rw[jq,Nat.mod_mul,Nat.add_comm,im]
def ks (b:Bool) (a:Int):Int:=if b then 9223372036854775808+a else a
def mP (a:Bool) (b:Int):Int:=
 if b=3\/(b=1/\a=false)\/(b=2/\a=true) then ks a 9218868437227405311 else ks a 9218868437227405312
def kQ (a:Bool) (b:Nat) (c d:Int):Int:=
 if b<4503599627370496 then ks a b
 else if b=9007199254740992 then if c+1+1075>=2047 then mP a d else ks a ((c+1+1075)*4503599627370496)
 else if c+1075>=2047 then mP a d else ks a ((c+1075)*4503599627370496+(b-4503599627370496))
def bM (b:Nat) (a:Int):Int:=max (a+aC b-1-52) (-1074)
def jg (d:Bool) (b:Nat) (a:Int) (e:Bool) (c:Int):Int:=
 if bM b a<=a then kQ d (b*2^(a-bM b a).toNat) (bM b a) c
 else kQ d (hH d b (bM b a-a).toNat e c) (bM b a) c
def mH:Nat->Nat->Nat
 |0,_=>0
 |f+1,a=>if(2*mH f (a/4)+1)*(2*mH f (a/4)+1)<=a then 2*mH f (a/4)+1 else 2*mH f (a/4)
def ef (a:Nat):Nat:=mH (aC a) a
theorem U8:∀{b n:Nat},n<4^b->mH b n*mH b n<=n/\n<(mH b n+1)*(mH b n+1):=by
 intro b
 induction b with
 |zero=>intro n c;simp at c;subst c;simp[mH]
 |succ b i=>
  intro n c;obtain⟨g,h⟩:=i (n:=n/4) (by rw[jO] at c;omega);unfold mH;generalize mH b (n/4)=a at g h|-;have aj:(2*a+1)*(2*a+1)=4*(a*a)+4*a+1:=(by grind);have e:(2*a+1+1)*(2*a+1+1)=4*((a+1)*(a+1)):=(by grind);have f:2*a*(2*a)=4*(a*a):=(by grind);split
  ·rename_i d;exact⟨d,by rw[e];omega⟩
  ·rename_i d;exact⟨by rw[f];omega,U⟩
theorem xG (a:Nat):ef a*ef a<=a/\a<(ef a+1)*(ef a+1):=by refine U8 ?_;have b:a<2^aC a:=dF.1 (aY _);exact hp b (Nat.pow_le_pow_left aa _)
theorem Gb (d:a*a<=h) (e:h<(c+1)*(c+1)):a<=c:=by
 rcases bb c a with b|b
 ·have:=jN (show c+1<=a from b) (show c+1<=a from b);omega
 ·exact b
theorem U9 (b:a*a<=c) (d:c<(a+1)*(a+1)):ef c=a:=by obtain⟨e,f⟩:=xG c;exact Nat.le_antisymm (Gb e d) (Gb b f)
abbrev nL:=Bool×ab1×Unit
abbrev NG:=Bool×nL×Int×Unit
def fm (a:nL):Int:=if a.1 then-ag a.2.1 else ag a.2.1
def aL (a:Int):nL:=(decide (a<0),b0 a.natAbs,())
theorem mZ (a:Int):fm (aL a)=a:=by unfold fm aL;simp only[jW,decide_eq_true_eq];split<;>omega
theorem kI (a:Int):aS (aL a).2.1:=jz _
theorem A1 (a:Int):dQ (aL a).2.1:=mE _
theorem ie (a:Int):ag (aL a).2.1=a.natAbs:=jW _
theorem xm:(aL b).2.1=[]↔b=0:=by show b0 b.natAbs=[]↔_;rw[DS];omega
theorem IF {neg:Bool} (b:aS d) (f:dQ d):(neg&&decide (d≠[]),d,())=aL (fm (neg,d,())):=by
 have h:=eB b;have c:d=b0 (ag d).toNat:=dQ.eq b f;have e:d=[]↔ag d=0:=⟨λa=>by rw[a];rfl,dQ.zero b f⟩;unfold aL fm;cases neg
 ·simp only[Bool.false_and,Bool.false_eq_true,if_false];rw[show decide (ag d<0)=false from decide_eq_false U,(U:(ag d).natAbs=(ag d).toNat),<-c]
 ·simp only[Bool.true_and,if_true];rw[(U:(-ag d).natAbs=(ag d).toNat),<-c];congr 1;rw[decide_eq_decide];constructor
  ·intro a;have:=mt e.2 a;omega
  ·intro a g;have:=e.1 g;omega
def Cz:Nat->Nat->Nat
 |0,_=>0
 |f+1,a=>if a %2=0 then Cz f (a/2)+1 else 0
def bC (a:Nat):Nat:=if a=0 then 0 else Cz (aC a) a
theorem aa4:∀{a n:Nat},0<n->n<2^a->∃b,n=(2*b+1)*2^Cz a n:=by
 intro a
 induction a with
 |zero=>intro n e c;simp at c;omega
 |succ a g=>
  intro n e c;unfold Cz;split
  ·rename_i d;obtain⟨b,f⟩:=g (n:=n/2) U (by rw[jO] at c;omega);refine⟨b,?_⟩;rw[jO,<-rY,<-f];omega
  ·rename_i d;exact⟨n/2,by simp;omega⟩
theorem rB {n:Nat} (b:0<n):∃a,n=(2*a+1)*2^bC n:=by unfold bC;rw[if_neg U];exact aa4 b (dF.1 (aY _))
theorem KF:∀{s t a b:Nat},(2*a+1)*2^s=(2*b+1)*2^t->s=t/\a=b
 |0,0,a,b,c=>by simp at c;omega
 |0,t+1,a,b,c=>by rw[jO,<-rY] at c;simp at c;omega
 |s+1,0,a,b,c=>by rw[jO,<-rY] at c;simp at c;omega
 |s+1,t+1,a,b,c=>by rw[jO,<-rY,jO,<-rY] at c;obtain⟨e,d⟩:=KF (s:=s) (t:=t) (a:=a) (b:=b) U;exact⟨U,d⟩
theorem vE {a:Nat} (b:c=(2*a+1)*2^h):bC c=h:=by have f:=i5 h;have d:0<c:=(by rw[b];exact Nat.mul_pos U f);obtain⟨g,e⟩:=rB d;exact(KF (e.symm.trans b)).1
theorem Gr (e:0<c) (b:Nat):bC (c*2^b)=bC c+b:=by obtain⟨d,f⟩:=rB e;refine vE (a:=d) ?_;rw[jq,<-rY,<-f]
theorem aa5 {n:Nat} (a:0<n):n/2^bC n %2=1:=by
 obtain⟨d,b⟩:=rB a;have c:=i5 (bC n)
 conv=>lhs;lhs;lhs;rw[b]
 rw[Nat.mul_div_cancel _ c];omega
theorem tx {n:Nat} (b:0<n):bC n<aC n:=by
 obtain⟨a,c⟩:=rB b;rw[sd]
 conv=>rhs;rw[c]
 have:=ga (2^bC n) (U:1<=2*a+1);omega
theorem sY {n k:Nat} (f:0<n):k<=bC n↔n %2^k=0:=by
 obtain⟨e,b⟩:=rB f;constructor
 ·intro l;obtain⟨a,c⟩:∃a,bC n=a+k:=⟨bC n-k,U⟩;rw[c,jq,<-rY] at b
  conv=>lhs;rw[b]
  exact Nat.mul_mod_left _ _
 ·intro i;rcases bb (bC n) k with d|d
  ·exfalso;obtain⟨a,c⟩:∃a,k=bC n+(a+1):=⟨k-bC n-1,U⟩;have g:n=n/2^k*2^k:=(by have:=qj n (2^k);rw[i,im] at this;omega);have j:=i5 (bC n);have h:(2*e+1)*2^bC n=(2*(n/2^k*2^a))*2^bC n:=by
    rw[<-b]
    conv=>lhs;rw[g,c,jq,jO]
    grind
   have:=Nat.eq_of_mul_eq_mul_right j h;omega
  ·exact d
def nE (b a:Int):Int:=b*2^a.toNat/2^(-a).toNat
def e8 (a b:Int):abV:=
 if a=0 then some 0
 else if b+bC a.natAbs< -65536\/65536<b+aC a.natAbs then none
 else some (nE a (b+65536))
def bf:abV->NG
 |none=>(true,(false,[],()),0,())
 |some a=>if a=0 then(false,(false,[],()),0,()) else(false,aL (a/2^bC a.natAbs),(bC a.natAbs:Int)-65536,())
def fk (a:Int):Prop:=aC a.natAbs<=131072
instance(a:Int):Decidable (fk a):=inferInstanceAs (Decidable (_<=_))
def ld (a:Int):abV:=if fk a then some a else none
def e1 (b:abV):Prop:=∀a,b=some a->fk a
theorem lm (b:Int) (a:Nat):(b*2^a).natAbs=b.natAbs*2^a:=by rw[Int.natAbs_mul,Int.natAbs_pow];rfl
theorem DN (c:b.natAbs %2^a=0):b/2^a*2^a=b:=by have d:((2^a:Nat):Int)∣b:=Int.ofNat_dvd_left.2 (Nat.dvd_of_mod_eq_zero c);rw[(ac:(2:Int)^a=((2^a:Nat):Int))];exact Int.ediv_mul_cancel d
theorem xX (c:b.natAbs %2^a=0):(b/2^a).natAbs=b.natAbs/2^a:=by
 have d:=DN c;have e:=i5 a
 conv=>rhs;rw[<-d,lm,Nat.mul_div_cancel _ e]
theorem nF (b:Int) (a:Nat):nE b a=b*2^a:=by unfold nE;rw[dc,(U:(-(a:Int)).toNat=0)];simp
theorem vA (b:Int) (a:Nat):nE b (-(a:Int))=b/2^a:=by unfold nE;rw[Int.neg_neg,dc,(U:(-(a:Int)).toNat=0)];simp
def bj (a:Int):Int:=a/2^bC a.natAbs
def gz (a:Int):Int:=(bC a.natAbs:Int)-65536
theorem rn (a:Int):bj a*2^bC a.natAbs=a:=by
 rcases g7 a.natAbs with b|b
 ·obtain rfl:a=0:=U;rfl
 ·exact DN ((sY b).1 (aY _))
theorem KC (a:b≠0):(bj b).natAbs=b.natAbs/2^bC b.natAbs:=xX ((sY U).1 (aY _))
theorem ln (c:b≠0):bj b≠0:=λa=>by have:=rn b;rw[a] at this;simp at this;exact c this.symm
theorem KE (c:b≠0):bC (bj b).natAbs=0:=by rw[KC c];have:=aa5 (n:=b.natAbs) U;exact vE (a:=b.natAbs/2^bC b.natAbs/2) (by rw[Nat.pow_zero];omega)
theorem WI (a:b≠0):aC (bj b).natAbs=aC b.natAbs-bC b.natAbs:=by rw[KC a,wk]
theorem xZ {v:Int}:bj v<0↔v<0:=by
 have d:=rn v;have c:(0:Int)<2^bC v.natAbs:=m3 aa;constructor
 ·intro b;have:=Int.mul_neg_of_neg_of_pos b c;omega
 ·intro b;rcases iB (bj v) 0 with a|a
  ·exact a
  ·have:=mi a (eR c);omega
theorem IH (a:b≠0):bf (some b)=(false,aL (bj b),gz b,()):=by show(if b=0 then _ else _)=_;rw[if_neg a];rfl
theorem BF {v:Int} (i:-65536<=b) (a:v=e*2^(b+65536).toNat):e8 e b=ld v:=by
 obtain⟨d,g⟩:∃d:Nat,b+65536=d:=⟨(b+65536).toNat,U⟩;rw[g,dc] at a;unfold e8 ld;by_cases f:e=0
 ·subst f;simp only[rO] at a;subst a;rw[if_pos rfl,if_pos (show fk 0 from(by decide:aC 0<=131072))]
 rw[if_neg f];have h:aC v.natAbs=aC e.natAbs+d:=(by rw[a,lm,my U]);by_cases c:fk v
 ·rw[if_pos c];unfold fk at c;rw[if_neg U,g,nF,a]
 ·rw[if_neg c];unfold fk at c;rw[if_pos U]
theorem V7 (a:fk b):e8 (bj b) (gz b)=some b:=by
 by_cases c:b=0
 ·subst c;rfl
 rw[BF (v:=b) (by unfold gz;omega) (by
  conv=>lhs;rw[<-rn b]
  unfold gz;rw[(U:((bC b.natAbs:Int)-65536+65536).toNat=bC b.natAbs)])]
 exact if_pos a
theorem EX (f a:Int):e1 (e8 f a):=by
 intro i b;unfold e8 at b;split at b
 ·cases b;show aC 0<=_;decide
 split at b
 ·cases b
 rename_i g h;cases b;unfold fk;rcases Int.le_total 0 (a+65536) with e|e
 ·obtain⟨c,d⟩:∃c:Nat,a+65536=c:=⟨(a+65536).toNat,U⟩;rw[d,nF,lm,my U];omega
 ·obtain⟨c,d⟩:∃c:Nat,a+65536=-(c:Int):=⟨(-(a+65536)).toNat,U⟩;rw[d,vA,xX ((sY U).1 U),wk];omega
theorem SI (b:Int):e1 (ld b):=by
 intro c a;unfold ld at a;split at a
 ·cases a;assumption
 ·cases a
def B9 (a b c:Nat) (f:Bool) (d e:Int):Int:=jg f (b*2^a/c) (d-a) (decide (b*2^a %c≠0)) e
theorem LP (i:0<a) (e:0<c) (j:58+aC c<=aC a+h):58<=aC (a*2^h/c):=by
 rcases bb 57 (aC (a*2^h/c)) with b|b
 ·exact b
 exfalso;have d:a*2^h/c<2^57:=dF.1 b;rw[Nat.div_lt_iff_lt_mul e] at d;have f:=(wj e).2;have g:a*2^h<2^57*2^aC c:=hp d (Nat.mul_le_mul_left _ (o6 f));rw[<-jq,<-dF,my i] at g;omega
def yh (a b:Nat) (c d:Int):Int:=jg false (ef (b*2^a)) ((c-a)/2) (decide (ef (b*2^a)*ef (b*2^a)≠b*2^a)) d
theorem Ev (e:115<=aC a):58<=aC (ef a):=by
 rcases bb 57 (aC (ef a)) with b|b
 ·exact b
 exfalso;have c:ef a+1<=2^57:=dF.1 b;have f:=(xG a).2;have g:=jN c c;have d:a<2^114:=(by have:2^57*2^57=2^114:=(by rw[<-jq]);omega);have:=dF.2 d;omega
def yg (a b:Int):Int:=if a=0 then 0 else jg (decide (a<0)) (bj a).natAbs (gz a) false b
def pR (a b:Nat):Nat:=59+aC b-aC a
def tj (a b c:Int):Int:=B9 (pR (bj a).natAbs (bj b).natAbs) (bj a).natAbs (bj b).natAbs (decide (a<0)!=decide (b<0)) (gz a-gz b) c
def ls (a:Nat) (b:Int):Nat:=if(b-((118-aC a:Nat):Int)) %2=0 then 118-aC a else 118-aC a+1
def pT (a b:Int):Int:=yh (ls (bj a).natAbs (gz a)) (bj a).natAbs (gz a) b
theorem bX {b:List n} (c:a<b.length):aA b (a:Int)=some b[a]:=fS (be c)
theorem yz (b:a<9223372036854775808):aw (a:Int)=(a:Int):=wrap64 U U
theorem bp {x:Int} (a:-9223372036854775808<=x) (b:x<=9223372036854775807):aw x=x:=wrap64 a b
theorem bA (b:a<9223372036854775807):aZ (a:Int)=((a+1:Nat):Int):=by unfold aZ;rw[wrap64 U U];simp
theorem dv {x:Int} (a:0<=x) (b:x<18446744073709551616):aR x=x:=CJ a b
theorem kv {x:Int} (a:0<=x) (b:x<4294967296):dg x=x:=GB a b
theorem p4 (a:Int):dg a=a %4294967296:=GA a
theorem ly (a:Int):aR a=a %18446744073709551616:=yA a
theorem pG (a:0<=b) (c:b<18446744073709551616):dg (dq IntKind.u64 b 4294967295)=b %4294967296:=by rw[and_low32 a c,kv U U]
theorem a7 (a:List n):ax a=(a.length:Int):=rfl
theorem Cr {b:List n} (e:a<=b.length):((some (0:Nat)).bind λc=>(fU (a:Int)).bind λd=>(gj c d b.length).map λ_=>(c,d))=some (0,a):=by rw[aG,s8,aG,u1 ⟨bN _,e⟩];rfl
theorem mY (o:aS d) (q:d.length<=100000000):gR (d,())=some (gX d,()):=by
 unfold gR;refine ae.eq_iff.1 ?_;refine ae.aW (P:=λp=>∃a:Nat,p.1=(a:Int)/\a<=d.length/\(∀b,a<=b->(j:b<d.length)->d[b]=0)/\dQ (d.take a)) ?_ ?_
 ·refine ae.loop (λh=>∃a:Nat,h.1=(a:Int)/\a<=d.length/\(∀b,a<=b->(j:b<d.length)->d[b]=0)) (λh=>h.1.toNat) ⟨d.length,rfl,aY _,λb c f=>by omega⟩ ?_;rintro⟨_,_⟩ ⟨a,rfl,c,f⟩;rcases a with _|a
  ·refine ae.af.2 ⟨0,rfl,bN _,f,λk e=>by simp at e⟩
  ·have aj:aw (((a+1:Nat):Int)-1)=(a:Int):=(by rw[bp U U];omega);have l:decide (((a+1:Nat):Int)>0)=true:=az U;simp only[aj,l,beq_self_eq_true,cond_true,bX (show a<d.length from c),aG];by_cases g:d[a]=0
   ·rw[dT,az g];refine ae.af.2 ⟨⟨a,rfl,U,λb j n=>?_⟩,?_⟩
    ·rcases bb a b with i|i
     ·exact f b i n
     ·obtain rfl:b=a:=U;exact g
    ·show(a:Int).toNat<((a+1:Nat):Int).toNat;omega
   ·rw[dT,ay g];refine ae.af.2 ⟨a+1,rfl,c,f,λk e=>?_⟩;rw[jo,be c] at e;have e:(d.take a++[d[a]]).getLast?=some k:=e;rw[List.getLast?_concat] at e;cases e;exact g
 ·rintro⟨_,_⟩ ⟨a,rfl,c,f,m⟩;refine ae.of_eq (au (Cr c) rfl) ?_;show(List.drop 0 (List.take a d),())=_;rw[ml,M2 o c f m]
theorem wu (c:d.length<=100000000):su (d,())=some (d,()):=by
 unfold su;have a:((bS (([]:ab1).length+d.length)).bind λ_=>some (([]++d:ab1),()))=some (d,()):=(by rw[dZ (by simp;omega)];rfl);show mM d.length (some ([],())) ((bS (([]:ab1).length+d.length)).bind λ_=>some (([]++d:ab1),()))=_;unfold mM;rw[a];split
 ·rename_i b;obtain rfl:=k2 b;rw[if_pos rfl]
 ·rfl
theorem pE:(ax d==0)=decide (d=[]):=by rw[dT,decide_eq_decide];show((d.length:Nat):Int)=0↔_;rw[<-CN];omega
theorem ue (b:aS d) (f:d.length<=100000000):jV (g,d,())=some (aL (fm (g,d,())),()):=by
 unfold jV;refine au (mY b f) ?_;have c:=IF (neg:=g) (MZ d) (M0 d);have e:fm (g,gX d,())=fm (g,d,()):=(by unfold fm;simp only[M1 b]);rw[<-e,<-c];simp only[pE,bu];split
 ·rename_i a;simp[a]
 ·rename_i a;simp[a]
theorem TE (c:b.natAbs<2^(32*a)):(aL b).2.1.length<=a:=by refine qN ?_;unfold aQ;have d:(2^(32*a):Nat)=4294967296^a:=(by rw[Nat.pow_mul]);rw[d] at c;have:((4294967296^a:Nat):Int)=4294967296^a:=ac;omega
def Fit (a:Int):Prop:=(aL a).2.1.length<=31250
theorem TD (a:Nat) (c:aC b.natAbs<=32*a):(aL b).2.1.length<=a:=TE (dF.1 c)
theorem h0 (a:aC b.natAbs<=1000000):Fit b:=TD 31250 U
theorem WB {b:nL} (c:aS b.2.1) (a:b.2.1.length<=100000000):zT (b,())=some (aL (fm b),()):=by obtain⟨e,d,_⟩:=b;unfold zT;exact au (wu a) (au (ue c a) rfl)
theorem CG (a:Bool) (b:ab1):fm (!a,b,())=-fm (a,b,()):=by unfold fm;cases a<;>simp
theorem Ni (b:aS d) (a:Bool):fm (false,d,())=(fm (a,d,())).natAbs:=by have:=eB b;unfold fm;cases a<;>simp<;>omega
theorem Ky (e:Fit b):qD (aL b,())=some (aL (-b),()):=by unfold qD;have a:(aL b).2.1.length<=100000000:=dn e aa;refine au (wu a) (au (ue (kI b) a) ?_);have c:=CG (aL b).1 (aL b).2.1;have d:=mZ b;rw[c];show some (aL (-fm (aL b)),())=_;rw[d]
theorem CY (d:Fit b):ux (aL b,())=some (aL b.natAbs,()):=by unfold ux;have a:(aL b).2.1.length<=100000000:=dn d aa;refine au (wu a) (au (ue (kI b) a) ?_);rw[Ni (kI b) (aL b).1];have c:=mZ b;show some (aL ((fm (aL b)).natAbs:Int),())=_;rw[c]
theorem MY (c:Fit b):gR ((aL b).2.1,())=some ((aL b).2.1,()):=by rw[mY (kI b) (dn c aa)];have a:=dQ.eq (kI b) (A1 b);show some (b0 (ag (aL b).2.1).toNat,())=_;rw[<-a]
def eQ (a:Int):Int:=if a=0 then 0 else if a<0 then-1 else 1
theorem pX {z:Int} (a:Fit z):nk (aL z,())=some (eQ z,()):=by
 unfold nk;refine au (MY a) ?_;simp only[pE,bu,xm];unfold eQ;split
 ·rfl
 ·show(bif decide (z<0) then _ else _)=_;rw[bu];split<;>rfl
theorem ae.steps {j:n->Option (n⊕r)} {i:r->Prop} (h:Nat) (f:Nat->n->Prop) {m:n} (q:f 0 m) (v:∀c b,c<h->f c b->ae (j b) (λ|.inl k=>f (c+1) k|.inr a=>i a)) (u:∀b,f h b->ae (j b) (λ|.inl _=>False|.inr a=>i a)):ae (hT.loop j m) i:=by
 have x:∀g c b,c+g=h->f c b->∃a,ih j (g+1) b=some a/\i a:=by
  intro g
  induction g with
  |zero=>
   intro c b p l;obtain rfl:c=h:=p;obtain⟨o,e,d⟩:=u b l;cases o with
   |inl k=>exact d.elim
   |inr a=>exact⟨a,by simp only[ih,e],d⟩
  |succ g w=>
   intro c b p l;obtain⟨o,e,d⟩:=v c b U l;cases o with
   |inl k=>
    obtain⟨a,s,t⟩:=w (c+1) k U d;exact⟨a,by rw[ih,e];exact s,t⟩
   |inr a=>exact⟨a,by simp only[ih,e],d⟩
 obtain⟨a,e,d⟩:=x h 0 m U q;exact⟨a,xO.2 ⟨_,e⟩,d⟩
theorem yx (c:ab1) (b:Nat):ag (c.take (b+1))=ag (c.take b)+aQ b*c.getD b 0:=by
 rcases bb b c.length with a|a
 ·rw[hF a,iF,be a];rfl
 ·rw[dK U,dK a,iF,fu a];simp
theorem aS.getD {b:ab1} (d:aS b) (c:Nat):0<=b.getD c 0/\b.getD c 0<4294967296:=by
 rcases bb c b.length with a|a
 ·rw[iF,be a];exact d.get a
 ·rw[iF,fu a];exact⟨qb _,aa⟩
theorem jY (b:a<d.length):d.getD a 0=d[a]:=by rw[iF,be b];rfl
theorem oc (b:d.length<=a):d.getD a 0=0:=by rw[iF,fu b];rfl
theorem FG (s:aS d) (t:aS f) (y:d.length<=10000000) (z:f.length<=10000000):sq (d,f,())=some (b0 (ag d+ag f).toNat,()):=by
 unfold sq;refine ae.eq_iff.1 ?_;refine ae.aW (P:=λi=>∃m q,i=(m,q,())/\aS m/\aS q/\m.length<=10000000/\q.length<=m.length/\ag m+ag q=ag d+ag f) ?_ ?_
 ·simp only[bu];refine ae.ite (λh=>ae.af.2 ⟨f,d,rfl,t,s,z,?_,Int.add_comm _ _⟩) λh=>ae.af.2 ⟨d,f,rfl,s,t,y,?_,rfl⟩
  ·simp only[a7] at h;omega
  ·simp only[a7] at h;omega
 rintro _ ⟨e,k,rfl,B,C,K,D,w⟩;rw[<-w];clear w s t y z;dsimp only;have A:aZ (ax e)=((e.length+1:Nat):Int):=bA U;have aj:eo 0 ((e.length+1:Nat):Int)=some 0:=(by unfold eo;rw[if_pos ⟨U,U,by have:fq=4294967296:=rfl;omega⟩];rfl);rw[A,aj];refine ae.aW (P:=λi=>∃a c,i=(a,c,())/\c.length=e.length/\aS c/\0<=a/\a<=1/\ag c+aQ e.length*a=ag e+ag k) ?_ ?_
 ·refine ae.steps e.length (λb F=>∃a c,F=(a,(b:Int),c,())/\c.length=b/\aS c/\0<=a/\a<=1/\ag c+aQ b*a=ag (e.take b)+ag (k.take b)) ⟨0,[],rfl,rfl,aS.nil,U,U,by simp[ag]⟩ ?_ ?_
  ·rintro b _ u ⟨a,c,rfl,l,n,o,r,p⟩;have J:=B.get u;have E:=C.getD b;have j:∃g,g=e[b]+a+k.getD b 0/\0<=g/\g<18446744073709551616/\g/4294967296<=1:=⟨_,rfl,U,U,U⟩;obtain⟨g,j,G,H,I⟩:=j;have v:decide ((b:Int)<ax e)=true:=az (by simp only[a7];omega);simp only[v,cond_true,bX u,aG];refine ae.aW (P:=λi=>i=(g/4294967296,c++[g %4294967296],())) ?_ ?_
   ·refine ae.aW (P:=λi=>i=(g,c,())) ?_ ?_
    ·simp only[bu];refine ae.ite (λh=>?_) λh=>?_
     ·have h:b<k.length:=(by simp only[a7] at h;omega);rw[bX h];rw[jY h] at j E;refine ae.af.2 ?_;rw[dv (x:=e[b]) U U,dv (x:=e[b]+a) U U,dv (x:=k[b]) U U,dv U U,j]
     ·have h:k.length<=b:=(by simp only[a7] at h;omega);rw[oc h] at j;refine ae.af.2 ?_;rw[dv (x:=e[b]) U U,dv (x:=e[b]+a) U U,j,Int.add_zero]
    ·rintro _ rfl;dsimp only;rw[dZ (by simp;omega),pG G H,mT];exact ae.af.2 rfl
   ·rintro _ rfl;dsimp only;refine ae.af.2 ⟨g/4294967296,c++[g %4294967296],by rw[bA U],by simp[l],n.snoc U U,U,I,?_⟩;rw[oH,l,g6,hF u,yx];have:=Int.emod_add_mul_ediv g 4294967296;generalize g/4294967296=L at*;generalize g %4294967296=i at*;subst j;grind
  ·rintro _ ⟨a,c,rfl,l,n,o,r,p⟩;have v:decide ((e.length:Int)<ax e)=false:=ay (by simp only[a7];omega);simp only[v,cond_false];refine ae.af.2 ⟨a,c,rfl,l,n,o,r,?_⟩;rw[p,dK (aY _),dK D]
 ·rintro _ ⟨a,c,rfl,l,n,o,r,p⟩;dsimp only;rw[dZ (by simp;omega),kv o U];refine ae.of_eq (au rfl (au (mY (n.snoc o U) (by simp;omega)) rfl)) ?_;show(gX (c++[a]),())=_;rw[gX,oH,l,p]
def ju (b:ab1) (c:Nat):Prop:=∀a,c<=a->(d:a<b.length)->b[a]=0
theorem ju.m0 (b a:Nat):ju (List.replicate b (0:Int)) a:=λd _ c=>by simp
theorem ju.set {b:ab1} {a:Nat} (c:ju b a) (e:Int):ju (b.set a e) (a+1):=λd f g=>by rw[tQ U];exact c d U _
theorem ju.My {j:Nat} (b:ju d a) (f:Int) (g:j<a):ju (d.set j f) a:=λe c h=>by rw[tQ U];exact b e c _
theorem Ke (s:aS d) (t:aS f) (E:d.length<=10000000) (v:f.length<=d.length) (C:ag f<=ag d):uB (d,f,())=some (b0 (ag d-ag f).toNat,()):=by
 unfold uB;refine ae.eq_iff.1 ?_;simp only[a7,gT (U:d.length<=4294967296),aG];refine ae.aW (P:=λi=>∃a b,i=(a,())/\a.length=d.length/\aS a/\0<=b/\b<=1/\ag a-aQ d.length*b=ag d-ag f) ?_ ?_
 ·refine ae.steps d.length (λe y=>∃b a,y=(b,(e:Int),a,())/\a.length=d.length/\aS a/\ju a e/\0<=b/\b<=1/\ag a-aQ e*b=ag (d.take e)-ag (f.take e)) ⟨0,_,rfl,ac,aS.m0 _,ju.m0 _ _,U,U,by simp[ag,rD]⟩ ?_ ?_
  ·rintro e _ o ⟨b,a,rfl,j,h,q,m,n,l⟩;have D:=s.get o;have w:=t.getD e;obtain⟨c,k,z,A⟩:∃c,c=d[e]-b-f.getD e 0/\-4294967296<=c/\c<4294967296:=⟨_,rfl,U,U⟩;have p:decide ((e:Int)<(d.length:Int))=true:=az U;simp only[a7,p,cond_true,bX o,aG];refine ae.aW (P:=λi=>i=(-(c/4294967296),a.set e (c %4294967296),())) ?_ ?_
   ·refine ae.aW (P:=λi=>i=(c %18446744073709551616,a,())) ?_ ?_
    ·simp only[bu];refine ae.ite (λg=>?_) λg=>?_
     ·have g:e<f.length:=U;rw[bX g];rw[jY g] at k w;refine ae.af.2 ?_;simp only[ly];rw[k];congr 1;omega
     ·have g:f.length<=e:=U;rw[oc g] at k;refine ae.af.2 ?_;simp only[ly];rw[k];congr 1;omega
    ·rintro _ rfl;dsimp only;rw[pG U U,nK U,mT];refine ae.af.2 ?_;rw[qp 1 U U 1 aa aa];have ar:c %18446744073709551616/4294967296 %2^1=-(c/4294967296):=by
      rw[show(2:Int)^1=2 from rfl];omega
     have x:c %18446744073709551616 %4294967296=c %4294967296:=U;rw[ar,x]
   ·rintro _ rfl;dsimp only;refine ae.af.2 ⟨-(c/4294967296),a.set e (c %4294967296),by rw[bA U],by simp[j],h.set U U,q.set _,U,U,?_⟩;rw[nJ U,q e (Nat.le_refl _) U,g6,hF o,yx];have:=Int.emod_add_mul_ediv c 4294967296;generalize c/4294967296=F at*;generalize c %4294967296=i at*;subst k;grind
  ·rintro _ ⟨b,a,rfl,j,h,q,m,n,l⟩;have p:decide ((d.length:Int)<(d.length:Int))=false:=ay U;simp only[a7,p,cond_false];refine ae.af.2 ⟨a,b,rfl,j,h,m,n,?_⟩;rw[l,dK (aY _),dK v]
 ·rintro _ ⟨a,b,rfl,j,h,m,n,l⟩;dsimp only;have r:=gE h;have B:=fb d.length;rw[j] at r;have u:b=0:=by
   rcases iB 0 b with g|g
   ·obtain rfl:b=1:=U;omega
   ·omega
  subst u;refine ae.of_eq (au (mY h U) rfl) ?_;show(gX a,())=_;rw[gX,<-l];simp
def eO (a b:Int):Int:=if a<b then-1 else if b<a then 1 else 0
theorem Dq (a b:Int):uo (a,b,())=some (eO a b,()):=by
 unfold uo qz eO;simp only[bne_self_eq_false,aG,cond_false,bu];split
 ·rfl
 ·split
  ·rename_i c d
   first|rfl|(rw[if_pos U])
  ·first|rfl|(rename_i c d;rw[if_neg U])
theorem S8 (a b:Int):zp (a,b,())=some (eO a b,()):=by
 unfold zp zr eO;simp only[bne_self_eq_false,aG,cond_false,bu];split
 ·rfl
 ·split
  ·rename_i c d
   first|rfl|(rw[if_pos U])
  ·first|rfl|(rename_i c d;rw[if_neg U])
theorem CH (i:aS d) (j:aS f) (k:a<d.length) (l:a<f.length) (c:ag (d.drop (a+1))=ag (f.drop (a+1))) (p:d[a]<f[a]):ag d<ag f:=by rw[oI d a U,oI f a U,kt k,kt l,c];have e:=gE (i.take a);have m:=eB (j.take a);rw[eC,gm U] at e;have n:aQ a*(d[a]+1)<=aQ a*f[a]:=ke U (eR (fb a));have o:aQ a*(d[a]+1)=aQ a*d[a]+aQ a:=(by grind);have g:∀b,aQ a*(d[a]+b)=aQ a*d[a]+aQ a*b:=λb=>(by grind);have h:∀b,aQ a*(f[a]+b)=aQ a*f[a]+aQ a*b:=λb=>(by grind);rw[g,h];omega
theorem p1 (c:aS f) (e:aS d) (g:dQ d) (a:f.length<d.length):ag f<ag d:=by have h:=gE c;have i:=dQ.low e g (by intro b;rw[b] at a;simp at a);have j:=nA (m:=f.length) (n:=d.length-1) U;omega
theorem zj (h:aS d) (i:aS f) (r:dQ d) (s:dQ f) (v:d.length<=10000000) (w:f.length<=10000000):sp (d,f,())=some (eO (ag d) (ag f),()):=by
 unfold sp;refine ae.eq_iff.1 ?_;simp only[dr,a7];by_cases o:d.length=f.length
 ·rw[az (U:(d.length:Int)=f.length)];simp only[gG,cond_false];refine ae.aW (P:=λm=>match m with|.inl _=>ag d=ag f|.inr p=>p=(eO (ag d) (ag f),())) ?_ ?_
  ·refine ae.steps d.length (λc q=>q=(((d.length:Nat):Int)-1-c,())/\ag (d.drop (d.length-c))=ag (f.drop (d.length-c))) ⟨?_,?_⟩ ?_ ?_
   ·rw[bp U U];simp
   ·rw[oV U,oV U]
   ·rintro c _ t ⟨rfl,e⟩;obtain⟨a,u⟩:∃a,d.length=a+1+c:=⟨d.length-1-c,U⟩;have aj:((d.length:Nat):Int)-1-(c:Int)=(a:Int):=U;have k:a<d.length:=U;have l:a<f.length:=U;rw[(U:d.length-c=a+1)] at e;simp only[aj,az (U:(a:Int)>=0),cond_true,bX k,bX l,aG,S8];by_cases j:d[a]=f[a]
    ·simp only[az j,gG,cond_false];refine ae.af.2 ⟨?_,?_⟩
     ·rw[bp U U];congr 1;omega
     ·rw[(U:d.length-(c+1)=a),kt k,kt l,j,e]
    ·simp only[ay j,hR,cond_true];refine ae.af.2 ?_;show(eO d[a] f[a],())=_;have n:eO d[a] f[a]=eO (ag d) (ag f):=by
      unfold eO;rcases Int.lt_or_gt_of_ne j with b|b
      ·rw[if_pos b,if_pos (CH h i k l e b)]
      ·have:=CH i h l k e.symm b;rw[if_neg U,if_pos b,if_neg U,if_pos this]
     rw[n]
   ·rintro _ ⟨rfl,e⟩;have aj:¬(((d.length:Nat):Int)-1-(d.length:Int)>=0):=U;simp only[ay aj,cond_false];refine ae.af.2 ?_;simpa using e
  ·rintro(m|m) g
   ·refine ae.af.2 ?_;have g:ag d=ag f:=g;unfold eO;rw[g];simp
   ·have g:m=_:=g;rw[g];exact ae.af.2 rfl
 ·rw[ay (U:¬(d.length:Int)=f.length)];simp only[hR,cond_true,Dq,aG];refine ae.af.2 ?_;congr 1;unfold eO;rcases Nat.lt_or_gt_of_ne o with b|b
  ·rw[if_pos U,if_pos (p1 h i s b)]
  ·have:=p1 i h r b;rw[if_neg U,if_pos U,if_neg U,if_pos this]
theorem E1 {x y:Int} (b:0<=x/\x<4294967296) (a:0<=y/\y<4294967296):0<=x*y/\x*y<=18446744065119617025:=by refine⟨mi b.1 a.1,?_⟩;have c:x*y<=4294967295*y:=k1 U a.1;have d:(4294967295:Int)*y<=4294967295*4294967295:=ke U aa;omega
theorem Z0 (G:0<=b/\b<4294967296) (F:aS d) (S:a+d.length<c) (R:c<=100000000) (C:f.length=c) (D:aS f) (I:ju f (a+d.length)) {r:h9->Prop} (E:∀h g,g.length=c->aS g->ju g (a+d.length)->0<=h->h<4294967296->ag g+aQ (a+d.length)*h=ag f+aQ a*(b*ag d)->r (h,g,())):ae (loop (σ:=qo) (ρ:=h9) (λ(l,j,o,_)=>
 bif decide (j<ax d) then
 (aA d j).bind λy=>
 rd o (aw ((a:Int)+j)) λz=>
 wr o (aw ((a:Int)+j)) (dg (dq IntKind.u64 (aR (aR (aR (aR b*aR y)+aR z)+l)) 4294967295)) λP=>
 (dm IntKind.u64 (aR (aR (aR (aR b*aR y)+aR z)+l)) 32).bind λO=>
 some (.inl (O,aZ j,P,())) else
 some (.inr (l,o,()))) (0,0,f,())) r:=by
 refine ae.steps d.length (λe M=>∃h g,M=(h,(e:Int),g,())/\g.length=c/\aS g/\ju g (a+d.length)/\0<=h/\h<4294967296/\ag g+aQ (a+e)*h=ag f+aQ a*(b*ag (d.take e))) ⟨0,f,rfl,C,D,I,U,U,by simp[ag]⟩ ?_ ?_
 ·rintro e _ m ⟨h,g,rfl,ar,k,p,t,u,q⟩;have H:=F.get m;have V:=k.get (n:=a+e) U;have T:=E1 G H;obtain⟨i,s,v,w⟩:∃i,i=b*d[e]+g[a+e]+h/\0<=i/\i<18446744073709551616:=⟨_,rfl,U,U⟩;simp only[az (show(e:Int)<ax d by simp only[a7];omega),cond_true,bX m,aG];have aj:aw ((a:Int)+(e:Int))=((a+e:Nat):Int):=(by rw[bp U U];simp);rw[aj,lr U];have A:aR (aR (aR (aR b*aR d[e])+aR g[a+e])+h)=i:=by
   rw[dv (x:=b) U U,dv (x:=d[e]) U U,dv (x:=g[a+e]) U U,dv (x:=b*d[e]) U U,dv (x:=b*d[e]+g[a+e]) U U,<-s,dv v w]
  rw[A,pG v w,nK U,mT];refine ae.af.2 ⟨i/4294967296,g.set (a+e) (i %4294967296),by rw[bA U],by simp[ar],k.set U U,p.My _ U,U,U,?_⟩;rw[nJ U,(U:a+(e+1)=(a+e)+1),g6,hF m];have Q:=ik i 4294967296;rw[vM] at q|-;generalize i/4294967296=K at*;generalize i %4294967296=L at*;generalize g[a+e]=J at*;generalize d[e]=N at*;subst s;have B:L=b*N+J+h-4294967296*K:=U;subst B;grind
 ·rintro _ ⟨h,g,rfl,ar,k,p,t,u,q⟩;simp only[ay (show¬((d.length:Int)<ax d) by simp only[a7];omega),cond_false];refine ae.af.2 (E h g ar k p t u ?_);rw[q,dK (aY _)]
theorem aaY (w:aS f) (x:aS d) (z:f.length<=10000000) (A:d.length<=10000000):zY (f,d,())=some (b0 (ag f*ag d).toNat,()):=by
 unfold zY;refine ae.eq_iff.1 ?_;simp only[pE];refine ae.aW (P:=λo=>match o with|.inl _=>f≠[]/\d≠[]|.inr h=>h=(b0 (ag f*ag d).toNat,())) ?_ ?_
 ·by_cases i:f=[]
  ·simp only[az i];refine ae.af.2 ?_;subst i;simp[ag];rfl
  ·simp only[ay i,beq_self_eq_true,cond_true];by_cases j:d=[]
   ·simp only[az j,cond_true];refine ae.af.2 ?_;subst j;simp[ag];rfl
   ·simp only[ay j,cond_false];exact ae.af.2 ⟨i,j⟩
 rintro(o|o) k
 rotate_left
 ·have k:o=_:=k;subst k;exact ae.af.2 rfl
 clear k;dsimp only;have v:aw (ax f+ax d)=((f.length+d.length:Nat):Int):=(by simp only[a7];rw[bp U U];simp);rw[v,gT U,Option.bind_some];refine ae.aW (P:=λh=>∃a,h=(a,())/\a.length=f.length+d.length/\aS a/\ag a=ag f*ag d) ?_ ?_
 ·refine ae.steps f.length (λb y=>∃a,y=((b:Int),a,())/\a.length=f.length+d.length/\aS a/\ju a (b+d.length)/\ag a=ag (f.take b)*ag d) ⟨_,rfl,ac,aS.m0 _,ju.m0 _ _,by simp[ag,rD]⟩ ?_ ?_
  ·rintro b _ q ⟨a,rfl,ar,g,p,u⟩;simp only[az (show(b:Int)<ax f by simp only[a7];omega),cond_true,bX q,Option.bind_some];refine ae.aW (P:=λh=>∃e c,h=(e,c,())/\c.length=f.length+d.length/\aS c/\ju c (b+d.length)/\0<=e/\e<4294967296/\ag c+aQ (b+d.length)*e=ag a+aQ b*(f[b]*ag d)) (Z0 (w.get q) x U U ar g p λe c r s l m n t=>⟨e,c,rfl,r,s,l,m,n,t⟩) ?_;rintro _ ⟨e,c,rfl,r,s,l,m,n,t⟩;have aj:aw ((b:Int)+ax d)=((b+d.length:Nat):Int):=(by simp only[a7];rw[bp U U];simp);dsimp only;rw[aj,kv m n,nK U];refine ae.af.2 ⟨c.set (b+d.length) e,by rw[bA U],by simp[r],s.set m n,?_,?_⟩
   ·rw[(U:b+1+d.length=b+d.length+1)];exact l.set _
   ·rw[nJ U,l _ (aY _) U,hF q,Int.sub_zero,t,u];grind
  ·rintro _ ⟨a,rfl,ar,g,p,u⟩;simp only[ay (show¬((f.length:Int)<ax f) by simp only[a7];omega),cond_false];refine ae.af.2 ⟨a,rfl,ar,g,?_⟩;rw[u,dK (aY _)]
 ·rintro _ ⟨a,rfl,ar,g,p⟩;refine ae.of_eq (au (mY g (by show a.length<=_;omega)) rfl) ?_;show(gX a,())=_;rw[gX,p]
theorem Vy:∀a:Nat,a<256->oG Bt (a:Int)=some (aC a:Int):=by have b:(List.range 256).all (λa=>oG Bt (a:Int)==some (aC a:Int))=true:=(by decide+kernel);intro a c;have:=eM.1 b a (fd.2 c);exact eq_of_beq this
theorem F8 {x y:Int} (a:0<=y) (b:y<=32):dm .u32 x y=some (x/2^y.toNat):=by unfold dm;rw[if_pos a,show IntKind.u32.bits=32 from rfl,gm U,yI _ (by exact Int.pow_nonneg aa)]
theorem MC (a:0<=b) (c:b<=32):gW .u32 e b=some ((e*2^b.toNat) %4294967296):=by unfold gW;rw[if_pos a,GA,show IntKind.u32.bits=32 from rfl,gm U]
theorem abx (a:0<=b) (c:b<256):IntKind.u8.wrap b=b:=by unfold IntKind.wrap;refine(if_neg (ac:¬(false&&decide (b %256>=(128:Int)))=true)).trans ?_;show b %256=b;omega
theorem HX {n k:Nat} (a:2^k<=n):aC n=aC (n/2^k)+k:=by rw[wk];have:=sd.2 a;omega
theorem JY {n:Nat} (i:n<4294967296):uC ((n:Int),())=some ((aC n:Int),()):=by
 unfold uC;refine ae.eq_iff.1 ?_;refine ae.aW (P:=λe=>∃a b:Nat,e=((a:Int),(b:Int),())/\a<65536/\aC n=aC a+b/\b<=16) ?_ ?_
 ·simp only[bu];refine ae.ite (λf=>?_) λf=>?_
  ·rw[F8 aa aa];refine ae.af.2 ⟨n/2^16,16,?_,U,HX U,U⟩;simp
  ·exact ae.af.2 ⟨n,0,rfl,U,rfl,U⟩
 rintro _ ⟨a,b,rfl,f,g,j⟩;refine ae.aW (P:=λe=>∃a b:Nat,e=((a:Int),(b:Int),())/\a<256/\aC n=aC a+b/\b<=24) ?_ ?_
 ·simp only[bu];refine ae.ite (λc=>?_) λc=>?_
  ·rw[F8 aa aa];refine ae.af.2 ⟨a/2^8,b+8,?_,U,by have:=HX (n:=a) (k:=8) U;omega,U⟩;rw[wrap64 U U];simp
  ·exact ae.af.2 ⟨a,b,rfl,U,g,U⟩
 rintro _ ⟨d,o,rfl,c,h,l⟩;dsimp only;rw[abx U U,Vy d c];refine ae.af.2 ?_;have m:aC d<=8:=dF.2 U;rw[wrap64 (x:=(aC d:Int)) U U,wrap64 U U,h];congr 1;omega
theorem Sl {l:ab1} {x:Int} (g:aS l) (p:0<x):aC (ag l+aQ l.length*x).toNat=32*l.length+aC x.toNat:=by
 obtain⟨b,rfl⟩:=eY (eR p);obtain⟨d,o⟩:=eY (eB g);have f:=gE g;rw[o] at f|-;have n:aQ l.length=((2^(32*l.length):Nat):Int):=(by unfold aQ;rw[Nat.pow_mul];simp);rw[n] at f|-;generalize 32*l.length=a at*;have h:0<b:=U;have j:((d:Int)+((2^a:Nat):Int)*(b:Int)).toNat=d+2^a*b:=(by rw[<-kf,<-Int.natCast_add];rfl);show aC ((d:Int)+((2^a:Nat):Int)*(b:Int)).toNat=_;rw[j];obtain⟨e,i⟩:=wj h;have q:=pi h;obtain⟨c,m⟩:∃c,aC b=c+1:=⟨aC b-1,U⟩;show _=a+aC b;rw[m] at e i|-;have r:d<2^a:=U;refine HW (k:=a+c) ?_ ?_
 ·rw[jq];have:=Nat.mul_le_mul_left (2^a) e;simp only[v7] at this;omega
 ·rw[jO,jq] at*;have:=Nat.mul_le_mul_left (2^a) (U:b+1<=2^c*2);rw[Nat.mul_add,Nat.mul_one,<-rY] at this;omega
theorem EI (c:aS d) (h:dQ d) (k:d.length<=10000000):uA (d,())=some ((aC (ag d).toNat:Int),()):=by
 unfold uA;simp only[pE,bu];split
 ·rename_i a;subst a;rfl
 ·rename_i a;have m:0<d.length:=List.length_pos_iff.2 a;have aj:aw (ax d-1)=((d.length-1:Nat):Int):=(by simp only[a7];rw[bp U U];omega);rw[aj,bX U];have e:=c.get (n:=d.length-1) U;have i:d[d.length-1]≠0:=h _ (by rw[List.getLast?_eq_getElem?,be U]);have f:ag d=ag (d.take (d.length-1))+aQ (d.length-1)*d[d.length-1]:=by
   rw[<-hF U,dK U]
  have b:=Sl (l:=d.take (d.length-1)) (x:=d[d.length-1]) (c.take _) U;rw[eC,gm U,<-f] at b;rw[b];obtain⟨n,g⟩:=eY e.1;rw[g] at e|-;refine au rfl (au (JY (n:=n) U) ?_);have j:aC n<=32:=dF.2 U;show some (aw (aw (((d.length-1:Nat):Int)*32)+(aC n:Int)),())=_;rw[bp (x:=((d.length-1:Nat):Int)*32) U U,bp U U];congr 2;show _=((32*(d.length-1)+aC n:Nat):Int);omega
theorem sc (a:Fit b):pq (aL b,())=some ((aC b.natAbs:Int),()):=by unfold pq;refine au (MY a) (au (EI (kI b) (A1 b) (dn a aa)) ?_);rw[ie];rfl
theorem VK (g:h=(2*c+1)*2^a) (q:h<2^32):h&&&(2^32-h)=2^a:=by
 have l:=i5 a;have r:0<h:=(by rw[g];exact Nat.mul_pos U l);obtain⟨e,i⟩:∃e,h=e+1:=⟨h-1,U⟩;have p:e=2^a*(2*c)+(2^a-1):=(by have:e+1=2^a*(2*c)+2^a:=(by rw[<-i,g];grind);omega);have o:h=2^a*(2*c+1)+0:=(by rw[g,im];rfl);refine Nat.eq_of_testBit_eq λb=>?_;rw[Nat.testBit_and,i,Nat.testBit_two_pow_sub_succ U,<-i];have aj:h.testBit b=if b<a then false else(2*c+1).testBit (b-a):=by rw[o,Nat.testBit_two_pow_mul_add _ l];simp
 have m:e.testBit b=if b<a then(2^a-1).testBit b else(2*c).testBit (b-a):=by rw[p,Nat.testBit_two_pow_mul_add _ U]
 rw[aj,m,yP];by_cases f:b<a
 ·rw[if_pos f];simp only[Bool.false_and];exact(decide_eq_false U).symm
 ·rw[if_neg f,if_neg f];by_cases k:a=b
  ·subst k;have d:a<32:=by
    rcases bb a 32 with d|d
    ·exact d
    ·have:=o7 (aa:1<=2) d;have s:=ga (2^a) (U:1<=2*c+1);omega
   simp[d]
  ·obtain⟨j,n⟩:∃j,b-a=j+1:=⟨b-a-1,U⟩;rw[n,Nat.testBit_succ,Nat.testBit_succ,(U:(2*c+1)/2=c),(U:2*c/2=c),decide_eq_false k];cases c.testBit j<;>simp
theorem Su:∀a:Nat,a<32->aA n3 (2^a*125613361 %4294967296/2^(27:Int).toNat)=some (a:Int):=by have b:(List.range 32).all (λa=>aA n3 (2^a*125613361 %4294967296/2^(27:Int).toNat)==some (a:Int))=true:=(by decide+kernel);intro d c;have:=eM.1 b d (fd.2 c);exact eq_of_beq this
theorem M9 (e:0<a) (c:a<4294967296) (b:Int):dg (dq IntKind.u32 (a:Int) (dg (0-(a:Int)))*b)=2^bC a*b %4294967296:=by obtain⟨g,f⟩:=rB e;have aj:dg (0-(a:Int))=((2^32-a:Nat):Int):=(by rw[p4];omega);have d:((2^bC a:Nat):Int)=2^bC a:=ac;rw[aj,Hp c U,VK f c,p4,d]
theorem Na {n:Nat} (b:0<n) (a:n<4294967296):uD ((n:Int),())=some ((bC n:Int),()):=by have e:bC n<32:=hp (tx b) (dF.2 a);have d:=Su _ e;have c:=F8 (x:=dg (dq IntKind.u32 (n:Int) (dg (0-(n:Int)))*125613361)) (y:=27) aa aa;rw[M9 b a 125613361] at c;unfold uD;show(bif (n:Int)==0 then some (32,()) else(dm IntKind.u32 (dg (dq IntKind.u32 (n:Int) (dg (0-(n:Int)))*125613361)) 27).bind λf=>(aA n3 f).bind λg=>some (aw g,()))=_;rw[bm (by rw[dT];exact ay U),M9 b a 125613361,c];refine au rfl (au d ?_);rw[bp U U]
theorem Nb {x:Int} (r:ag (d.take c)=0) (g:c<d.length) (h:aS d) (s:d[c]≠0):bC (ag d).toNat=32*c+bC (d[c]).toNat:=by
 have q:=h.get g;rw[oI d c U,r,kt g];have p:=eB (h.drop (c+1));generalize ag (d.drop (c+1))=u at*;generalize d[c]=v at*;obtain⟨b,rfl⟩:=eY q.1;obtain⟨e,rfl⟩:=eY p;have i:0<b:=U;obtain⟨j,m⟩:=rB i;have t:bC b<32:=hp (tx i) (dF.2 U);have o:aQ c=((2^(32*c):Nat):Int):=(by unfold aQ;rw[Nat.pow_mul];simp);have k:(0+aQ c*((b:Int)+4294967296*(e:Int))).toNat=(b+4294967296*e)*2^(32*c):=(by rw[o,qd,im (b+4294967296*e)];have:((2^(32*c):Nat):Int)*((b:Int)+4294967296*(e:Int))=((2^(32*c)*(b+4294967296*e):Nat):Int):=(by rw[kf];simp);rw[this];rfl);show bC (0+aQ c*((b:Int)+4294967296*(e:Int))).toNat=32*c+bC b;rw[k,Gr U,Nat.add_comm];congr 1;obtain⟨f,n⟩:∃f,32=bC b+(f+1):=⟨31-bC b,U⟩;refine vE (a:=j+2^f*e) ?_;have l:(4294967296:Nat)=2^bC b*(2^f*2):=by
  have:(4294967296:Nat)=2^32:=rfl;rw[this]
  conv=>lhs;rw[n]
  rw[jq,jO]
 rw[l]
 conv=>lhs;lhs;rw[m]
 grind
theorem Nc {z:Int} (o:Fit z) (r:z≠0):wT (aL z,())=some ((bC z.natAbs:Int),()):=by
 unfold wT;dsimp only;have i:=kI z;have u:=ie z;have s:(aL z).2.1.length<=31250:=o;generalize(aL z).2.1=b at*;have m:z.natAbs=(ag b).toNat:=U;rw[m];refine ae.eq_iff.1 (ae.aW (P:=λh=>match h with|.inl _=>False|.inr p=>p=((bC (ag b).toNat:Int),())) ?_ ?_)
 ·refine ae.steps b.length (λa q=>q=((a:Int),())/\ag (b.take a)=0) ⟨rfl,rfl⟩ ?_ ?_
  ·rintro a _ f ⟨rfl,e⟩;have j:=i.get f;simp only[az (show(a:Int)<ax b by simp only[a7];omega),cond_true,bX f,aG,dr];by_cases c:b[a]=0
   ·simp only[az c,gG,cond_false];refine ae.af.2 ⟨by rw[bA U],?_⟩;rw[hF f,c,e];simp
   ·simp only[ay c,hR,cond_true];have k:=Nb (x:=0) e f i c;rw[k];obtain⟨d,l⟩:=eY j.1;rw[l] at j c|-;have t:bC d<32:=hp (tx U) (dF.2 U);refine ae.of_eq (au (Na (n:=d) U U) rfl) ?_;show(aw (aw ((a:Int)*32)+(bC d:Int)),())=_;rw[bp (x:=(a:Int)*32) U U,bp U U];congr 1;show _=((32*a+bC d:Nat):Int);omega
  ·rintro _ ⟨rfl,e⟩;exfalso;rw[dK (aY _)] at e;omega
 ·rintro(h|h) g
  ·exact g.elim
  ·have g:h=_:=g;rw[g];exact ae.af.2 rfl
theorem kS (a:Nat):((2^a:Nat):Int)=(2:Int)^a:=by simp
theorem jG (a:Nat):(0:Int)<2^a:=m3 aa
theorem vr (b:a<=31):(2:Int)^a<=2147483648:=by have c:=o7 (aa:0<2) b;rw[<-kS];omega
theorem tg {p:Nat} (a:p<=32):(4294967296:Int)=2^p*2^(32-p):=by rw[<-kh,(U:p+(32-p)=32)];rfl
theorem oO (a:Nat):aQ a=2^(32*a):=by unfold aQ;rw[Int.pow_mul];rfl
theorem YX {k:Nat} {x y:Int} (j:k<=32) (e:0<=x) (f:x<2^k) (g:0<=y) (o:y<4294967296) (i:y %2^k=0):eP .u32 x y=x+y/\x+y<4294967296:=by
 have c:=jG k;have u:=tg j;have t:=jG (32-k);have s:y=2^k*(y/2^k):=(by have:=ik y (2^k);omega);have r:y/2^k<2^(32-k):=by
  rcases iB (y/2^k) (2^(32-k)) with b|b
  ·exact b
  ·have:=ke b (eR c);omega
 have q:2^k*(y/2^k+1)<=2^k*2^(32-k):=ke U (eR c);have p:(2:Int)^k*(y/2^k+1)=2^k*(y/2^k)+2^k:=(by grind);have n:x+y<4294967296:=U;refine⟨?_,n⟩;obtain⟨d,rfl⟩:=eY e;obtain⟨a,rfl⟩:=eY g;have m:d<2^k:=(by have:((d:Nat):Int)<((2^k:Nat):Int):=(by simpa using f);omega);have l:a %2^k=0:=(by have:((a %2^k:Nat):Int)=0:=(by simpa using i);omega);rw[YV U U];have h:a=(a/2^k)*2^k:=(by have:=qj a (2^k);rw[l,im] at this;omega);rw[h,Hs k m];simp
theorem CC {a:ab1} {n:Nat} (F:aS a) (Y:a.length<=10000000) (W:n<=100000000):sr (a,(n:Int),())=some (b0 (ag a*2^n).toNat,()):=by
 unfold sr;simp only[pE,bu];split
 ·rename_i h;subst h;simp[ag];rfl
 refine ae.eq_iff.1 ?_;obtain⟨b,e,K,X,I,J⟩:∃b e:Nat,n=32*b+e/\e<32/\h3 IntKind.i64 (n:Int) 32=some (b:Int)/\gV (n:Int) 32=some (e:Int):=by
  refine⟨n/32,n %32,U,U,?_,?_⟩
  ·unfold h3;rw[if_pos aa,yJ U,wrap64 U U];simp
  ·unfold gV;rw[if_pos aa,yK U];simp
 have l:=jG e;have E:=tg (p:=e) U;have w:aZ (aw ((b:Int)+ax a))=((b+a.length+1:Nat):Int):=(by simp only[a7];rw[bp U U,(ac:(b:Int)+(a.length:Int)=((b+a.length:Nat):Int)),bA U]);rw[I,J,aG,aG,w,gT U,aG];refine ae.aW (P:=λq=>∃d,q=(d,())/\d.length=b+a.length+1/\aS d/\ag d=aQ b*(2^e*ag a)) ?_ ?_
 ·refine ae.steps a.length (λc M=>∃d,M=((c:Int),d,())/\d.length=b+a.length+1/\aS d/\ju d (b+c+1)/\(∀h:b+c<d.length,d[b+c]<2^e)/\ag d=aQ b*(2^e*ag (a.take c))) ⟨_,rfl,ac,aS.m0 _,ju.m0 _ _,λh=>by simp;exact l,by simp[ag,rD]⟩ ?_ ?_
  ·rintro c _ m ⟨d,rfl,ar,g,i,t,o⟩;have s:=F.get m;have G:=g.get (n:=b+c) U;have H:=t U;dsimp only;rw[if_pos (show(c:Int)<ax a by simp only[a7];omega),bX m,Option.bind_some];have aj:aw ((b:Int)+(c:Int))=((b+c:Nat):Int):=(by rw[bp U U];simp);have V:a[c]*2^e<4294967296*2^e:=Int.mul_lt_mul_of_pos_right s.2 l;have T:(2:Int)^e<=2147483648:=vr U;obtain⟨f,r,N,O⟩:∃f,f=a[c]*2^e/\0<=f/\f<18446744073709551616:=⟨_,rfl,Int.mul_nonneg s.1 (Int.le_of_lt l),U⟩;have z:gW IntKind.u64 (aR a[c]) (aR (e:Int))=some f:=by
    rw[dv (x:=a[c]) U U,dv (x:=(e:Int)) U U,mb U U,dc,<-r];congr 1;omega
   have A:f %4294967296 %2^e=0:=(by rw[Int.emod_emod_of_dvd _ ⟨_,E⟩,r,Int.mul_emod_left]);have B:f/4294967296<2^e:=(by refine rL aa ?_;rw[il];omega);obtain⟨C,R⟩:=YX (k:=e) (x:=d[b+c]) (y:=f %4294967296) U G.1 H U U A;rw[z];simp only[aG];rw[aj,lr U,pG N O,C,nK U,mT,aG,bA U,kv U U,nK (by simp;omega)];refine ae.af.2 ⟨(d.set (b+c) (d[b+c]+f %4294967296)).set (b+c+1) (f/4294967296),by rw[bA U],by simp[ar],(g.set U U).set U U,?_,?_,?_⟩
   ·have:=(i.My (d[b+c]+f %4294967296) (j:=b+c) U).set (f/4294967296);exact this
   ·intro h;show((d.set (b+c) (d[b+c]+f %4294967296)).set (b+c+1) (f/4294967296))[b+c+1]'h<2^e
    rw[List.getElem_set_self];exact B
   ·have Q:(d.set (b+c) (d[b+c]+f %4294967296))[b+c+1]'(by simp;omega)=0:=by
     rw[tQ U];exact i _ U U
    rw[nJ (by simp;omega),Q,nJ U,o,hF m,g6,vM];have S:=ik f 4294967296;generalize f/4294967296=L at*;generalize f %4294967296=q at*;generalize(2:Int)^e=u at*;generalize a[c]=v at*;generalize d[b+c]=Z at*;have D:q=v*u-4294967296*L:=U;subst D;grind
  ·rintro _ ⟨d,rfl,ar,g,i,t,o⟩;dsimp only;rw[if_neg (show¬((a.length:Int)<ax a) by simp only[a7];omega)];refine ae.af.2 ⟨d,rfl,ar,g,?_⟩;rw[o,List.take_of_length_le (Nat.le_refl _)]
 ·rintro _ ⟨d,rfl,ar,g,i⟩;refine ae.of_eq (au (mY g (by show d.length<=_;omega)) rfl) ?_;show(gX d,())=_;rw[gX,i,oO,K,kh];congr 3;grind
theorem Te (k:aS d) (o:d.length<=10000000):wW (d,(),())=some (decide (ag d≠0),()):=by
 unfold wW;refine ae.eq_iff.1 ?_;refine ae.aW (P:=λi=>∃g,i=(g,())/\(0<=g↔ag d≠0)) ?_ ?_
 ·unfold DE;dsimp only;refine ae.aW (P:=λc=>match c with|.inl _=>ag d=0|.inr i=>0<=i.1/\ag d≠0) ?_ ?_
  ·refine ae.steps d.length (λa m=>m=((a:Int),())/\ag (d.take a)=0) ⟨rfl,rfl⟩ ?_ ?_
   ·rintro a _ e ⟨rfl,b⟩;have l:=k.get e;simp only[az (show(a:Int)<ax d by simp only[a7];omega),cond_true,bX e,aG,Dv,dr];by_cases h:d[a]=0
    ·simp only[az h,gG,cond_false];refine ae.af.2 ⟨by rw[bA U],?_⟩;rw[hF e,h,b];simp
    ·simp only[ay h,hR,cond_true];refine ae.af.2 ⟨by show(0:Int)<=(a:Int);omega,?_⟩;rw[oI d a U,b,kt e];have j:=eB (k.drop (a+1));have n:0<aQ a*(d[a]+4294967296*ag (d.drop (a+1))):=oS (fb a) U;omega
   ·rintro _ ⟨rfl,b⟩;simp only[ay (show¬((d.length:Int)<ax d) by simp only[a7];omega),cond_false];refine ae.af.2 ?_;rw[dK (aY _)] at b;exact b
  ·rintro(c|c) f
   ·have f:ag d=0:=f;exact ae.af.2 ⟨_,rfl,by rw[f];simp⟩
   ·obtain⟨b,j⟩:0<=c.1/\ag d≠0:=f;exact ae.af.2 ⟨c.1,rfl,λ_=>j,λ_=>b⟩
 ·rintro _ ⟨g,rfl,l⟩;refine ae.af.2 ?_;show(decide (g>=0),())=_;congr 1;rw[decide_eq_decide];exact l
theorem Hr (a:Nat) (c:0<=b) (g:b<4294967296) (e:a<=32):dq .u32 b (2^a-1)=b %2^a:=by obtain⟨i,rfl⟩:=eY c;have f:0<2^a:=i5 a;have d:(2:Int)^a-1=((2^a-1:Nat):Int):=(by rw[Int.natCast_sub f];simp);have h:2^a<=2^32:=o7 aa e;rw[d,Hp U U,Nat.and_two_pow_sub_one_eq_mod];simp
theorem J5 {x b y:Int} {P P':Int} (e:0<b) (f:0<=x/\x<b) (h:0<P):(x+b*y) %(b*P)=0↔x=0/\y %P=0:=by
 constructor
 ·intro a;have g:x=0:=by
   have c:(x+b*y) %b=0:=(by have:=Int.emod_emod_of_dvd (x+b*y) (show b∣b*P from⟨P,rfl⟩);rw[a] at this;simpa using this.symm);rw[vS,rM f.1 f.2] at c;exact c
  subst g;rw[qd,Int.mul_emod_mul_of_pos _ _ e] at a;exact⟨rfl,by rcases Int.mul_eq_zero.1 a with d|d;omega;exact d⟩
 ·rintro⟨rfl,a⟩;rw[qd,Int.mul_emod_mul_of_pos _ _ e,a,Int.mul_zero]
theorem DP {n:Nat} (i:aS d) (a3:dQ d) (co:d.length<=10000000) (bB:n<=1000000000):uz (d,(n:Int),())=some (b0 (ag d/2^n).toNat,decide (ag d %2^n≠0),()):=by
 unfold uz;dsimp only;refine ae.eq_iff.1 ?_;obtain⟨a,e,ap,ce,ad,an⟩:∃a e:Nat,n=32*a+e/\e<32/\h3 IntKind.i64 (n:Int) 32=some (a:Int)/\gV (n:Int) 32=some (e:Int):=by
  refine⟨n/32,n %32,U,U,?_,?_⟩
  ·unfold h3;rw[if_pos aa,yJ U,wrap64 U U];simp
  ·unfold gV;rw[if_pos aa,yK U];simp
 have B:=jG e;have G:=tg (p:=e) U;have X:(2:Int)^n=aQ a*2^e:=(by rw[oO,ap,kh]);have K:=eB i;rw[ad,an,aG,aG,bu,X];refine ae.ite (λk=>?_) λk=>?_
 ·have k:d.length<=a:=(by simp only[a7] at k;omega);have m:=gE i;have r:=nA k;have F:aQ a*1<=aQ a*2^e:=ke U (eR (fb a));rw[oQ K U,rM K U];refine ae.af.2 ?_;show(([]:ab1),decide (ax d>0),())=(b0 0,_,());rw[IJ];congr 2;rw[decide_eq_decide];simp only[a7];constructor
  ·intro o C;have:=dQ.zero i a3 C;rw[this] at o;simp at o
  ·intro o;have:d≠[]:=λO=>(by rw[O] at o;exact o rfl);have:=List.length_pos_iff.2 this;omega
 ·have k:a<d.length:=(by simp only[a7] at k;omega);have w:=i.get k;obtain⟨f,u⟩:∃f,f=ag (d.drop a):=⟨_,rfl⟩;have H:0<=f:=(by rw[u];exact eB (i.drop a));have J:ag d=ag (d.take a)+aQ a*f:=(by rw[u];exact oI d a U);have I:=eB (i.take a);have E:=gE (i.take a);rw[eC,gm U] at E;have Z:ag d/(aQ a*2^e)=f/2^e:=by
   rw[<-rK (eR (fb a)),J,tL _ _ (by have:=fb a;omega),oQ I E,qd]
  refine ae.aW (P:=λq=>q=(decide (ag d %(aQ a*2^e)≠0),())) ?_ ?_
  ·rw[Cr U,aG];have aj:List.drop 0 (List.take a d)=d.take a:=ml;show ae ((wW (List.drop 0 (List.take a d),(),())).bind _) _;rw[aj,Te (i.take a) (by simp;omega),aG];have D:(decide (ag d %(aQ a*2^e)≠0))=(decide (ag (d.take a)≠0)||decide (d[a] %2^e≠0)):=by
    have m:=J5 (x:=ag (d.take a)) (b:=aQ a) (y:=f) (P:=2^e) (P':=0) (fb a) ⟨I,E⟩ B;rw[<-J] at m;have r:f %2^e=d[a] %2^e:=(by rw[u,kt k,G,kx,vS]);rw[r] at m;by_cases A:ag (d.take a)=0<;>by_cases T:d[a] %2^e=0<;>simp[A,T,m]
   rw[D];dsimp only;by_cases A:ag (d.take a)=0
   ·simp only[ay (show¬(ag (d.take a)≠0) fromλk=>k A),beq_self_eq_true,cond_true,bX k,aG];rw[dv (x:=(e:Int)) U U,MC U U,aG,dc,Int.one_mul];have a4:(2:Int)^e<=2147483648:=vr U;rw[rM U U,kv U U,Hr e w.1 w.2 U,dr];refine ae.af.2 ?_;simp
   ·simp only[az (show ag (d.take a)≠0 from A)];exact ae.af.2 rfl
  rintro _ rfl;dsimp only;obtain⟨l,bs⟩:∃l,d.length=a+l:=⟨d.length-a,U⟩;have Q:aw (ax d-(a:Int))=((l:Nat):Int):=(by simp only[a7];rw[bp U U];omega);rw[Q,gT U,Option.bind_some];have bd:f<aQ l:=(by have:=gE (i.drop a);rw[List.length_drop,(U:d.length-a=l),<-u] at this;exact this);refine ae.aW (P:=λq=>∃g,q=(g,())/\g.length=l/\aS g/\ag g=f/2^e) ?_ ?_
  ·refine ae.steps l (λc a0=>∃g,a0=((c:Int),g,())/\g.length=l/\aS g/\ag (g.take c)+aQ c*(f/2^e/aQ c)=f/2^e) ⟨_,rfl,ac,aS.m0 _,by simp[ag,vN]⟩ ?_ ?_
   ·rintro c _ bl ⟨g,rfl,ar,z,s⟩;have w:=i.get (n:=a+c) U;have av:=i.getD (a+c+1);have D:decide ((c:Int)<ax (List.replicate l (0:Int)))=true:=az (by simp only[a7,m6];omega);have aj:aw ((a:Int)+(c:Int))=((a+c:Nat):Int):=(by rw[bp U U];simp);have R:aZ ((a+c:Nat):Int)=((a+c+1:Nat):Int):=bA U;simp only[D,cond_true,aj,R,bX (U:a+c<d.length),aG];obtain⟨j,v,L,cv⟩:∃j,j=d[a+c]+4294967296*d.getD (a+c+1) 0/\0<=j/\j<18446744073709551616:=⟨_,rfl,U,U⟩;have Y:f/aQ c=j+4294967296*(4294967296*ag (d.drop (a+c+2))):=by
     have m:d.drop a=(d.drop a).take c++d.drop (a+c):=by
      conv=>lhs;rw[<-lG c (d.drop a)]
      rw[oU]
     have r:f=ag ((d.drop a).take c)+aQ c*ag (d.drop (a+c)):=by
      rw[u]
      conv=>lhs;rw[m]
      rw[nI,eC,kz,gm U]
     have F:=eB ((i.drop a).take c);have o:=gE ((i.drop a).take c);rw[eC,kz,gm U] at o;have C:ag (d.drop (a+c))=d[a+c]+4294967296*ag (d.drop (a+c+1)):=kt U;have V:ag (d.drop (a+c+1))=d.getD (a+c+1) 0+4294967296*ag (d.drop (a+c+2)):=by
      rcases bb (a+c+1) d.length with h|h
      ·rw[jY h];exact kt h
      ·rw[oc h,oV h,oV U];rfl
     rw[r,tL _ _ (by have:=fb c;omega),oQ F o,C,V,v];grind
    have ab:f/2^e/aQ c %4294967296=j/2^e %4294967296:=(by have m:f/2^e/aQ c=f/aQ c/2^e:=(by rw[rK (eR B),rK (eR (fb c)),il]);rw[m,Y];have r:∀t:Int,j+4294967296*(4294967296*t)=j+2^e*(4294967296*(2^(32-e)*t)):=λt=>(by generalize(2:Int)^e=M at*;generalize(2:Int)^(32-e)=N at*;rw[show(4294967296:Int)*(4294967296*t)=(M*N)*(4294967296*t) by rw[<-G]];grind);rw[r,tL _ _ U,vS]);have am:0<=j/2^e:=mh L (eR B);have ci:j/2^e<=j:=tM _ L;refine ae.aW (P:=λq=>q=(g.set c (j/2^e %4294967296),())) ?_ ?_
    ·refine ae.aW (P:=λq=>q=(j,g,())) ?_ ?_
     ·simp only[bu];refine ae.ite (λh=>?_) λh=>?_
      ·have h:a+c+1<d.length:=(by simp only[a7] at h;omega);rw[bX h,aG,dv (x:=d[a+c+1]) (by have:=i.get h;omega) (by have:=i.get h;omega),mb aa aa];rw[jY h] at v av;have S:d[a+c+1]*2^(32:Int).toNat %18446744073709551616=4294967296*d[a+c+1]:=by
        rw[show(2:Int)^(32:Int).toNat=4294967296 from rfl];omega
       rw[aG,S,dv U U,lq 32 w.1 w.2 U U U U];refine ae.af.2 ?_;rw[<-v]
      ·have h:d.length<=a+c+1:=(by simp only[a7] at h;omega);rw[oc h] at v;rw[dv U U];refine ae.af.2 ?_;rw[v];simp
     ·rintro _ rfl;dsimp only;rw[dv (x:=(e:Int)) U U,ry U U,Option.bind_some,Int.toNat_natCast,pG am U,nK U];exact ae.af.2 rfl
    ·rintro _ rfl;dsimp only;refine ae.af.2 ⟨g.set c (j/2^e %4294967296),by rw[bA U],by simp[ar],z.set U U,?_⟩;rw[hF (by simp;omega)];simp only[List.getElem_set_self];rw[List.take_set_of_le U,<-ab,g6,Int.mul_comm 4294967296 (aQ c),<-Int.ediv_ediv_of_nonneg (Int.le_of_lt (fb c))];have W:=Int.emod_add_mul_ediv (f/2^e/aQ c) 4294967296;generalize f/2^e/aQ c %4294967296=q at*;generalize f/2^e/aQ c/4294967296=cs at*;rw[<-W] at s;grind
   ·rintro _ ⟨g,rfl,ar,z,s⟩;simp only[ay (show¬((l:Int)<ax (List.replicate l (0:Int))) by simp only[a7,m6];omega),cond_false];refine ae.af.2 ⟨g,rfl,ar,z,?_⟩;have m:0<=f/2^e:=mh H (eR B);have r:f/2^e<=f:=tM _ H;rw[oQ m U,dK U] at s;simpa using s
  ·rintro _ ⟨g,rfl,ar,z,s⟩;refine ae.of_eq (au (mY z (by show g.length<=_;omega)) rfl) ?_;show(gX g,_,())=_;rw[gX,s,Z]
section
theorem x7 (a:IntKind) (b c:Int):eP a b c=eP a c b:=by unfold eP;rw[BitVec.or_comm]
theorem Gq {x y:Int} (b:0<=x/\x<4294967296) (a:0<=y/\y<4294967296):gW .u64 x 32=some (4294967296*x)/\eP .u64 (4294967296*x) (aR y)=4294967296*x+y:=by
 constructor
 ·rw[mb aa aa,show(2:Int)^(32:Int).toNat=4294967296 from rfl];congr 1;omega
 ·rw[dv a.1 U,x7,lq 32 a.1 a.2 U U U U,Int.add_comm]
theorem FL {x y:Int} (a:0<=x/\x<18446744073709551616) (d:0<y):h3 .u64 x y=some (x/y)/\gV x y=some (x %y):=by
 constructor
 ·unfold h3;rw[if_pos U,yJ a.1];have c:x/y<=x:=tM _ a.1;have b:0<=x/y:=mh a.1 U;rw[CJ b U]
 ·unfold gV;rw[if_pos U,yK a.1]
theorem aaq (n:aS d) (L:d.length<=10000000) (j:0<b) (I:b<4294967296):zX (d,b,())=some (b0 (ag d/b).toNat,ag d %b,()):=by
 unfold zX;refine ae.eq_iff.1 ?_;simp only[a7,gT (U:d.length<=4294967296),aG];refine ae.aW (P:=λr=>∃e,r=(ag d %b,e,())/\e.length=d.length/\aS e/\ag e=ag d/b) ?_ ?_
 ·refine ae.steps d.length (λf C=>∃e,C=(ag (d.drop (d.length-f)) %b,((d.length:Nat):Int)-1-f,e,())/\e.length=d.length/\aS e/\(∀a,a<d.length-f->(v:a<e.length)->e[a]=0)/\ag e=aQ (d.length-f)*(ag (d.drop (d.length-f))/b)) ⟨List.replicate d.length 0,?_,ac,aS.m0 _,ac,?_⟩ ?_ ?_
  ·rw[bp U U,oV U];simp[ag]
  ·rw[oV U];simp[ag,rD]
  ·rintro f _ J ⟨e,rfl,ar,g,h,i⟩;obtain⟨a,v⟩:∃a,d.length=a+1+f:=⟨d.length-1-f,U⟩;have aj:((d.length:Nat):Int)-1-(f:Int)=(a:Int):=U;have l:a<d.length:=U;rw[(U:d.length-f=a+1)] at*;have A:=n.get l;obtain⟨c,k⟩:∃c,c=ag (d.drop (a+1)):=⟨_,rfl⟩;have H:0<=c:=(by rw[k];exact eB (n.drop _));rw[<-k] at i|-;have w:0<=c %b:=oR _ U;have K:c %b<b:=qa _ j;obtain⟨D,E⟩:=Gq (x:=c %b) (y:=d[a]) ⟨w,U⟩ A;obtain⟨F,G⟩:=FL (x:=4294967296*(c %b)+d[a]) (y:=b) ⟨U,U⟩ j;have p:(4294967296*(c %b)+d[a])/b<4294967296:=by
    refine rL j ?_;have:4294967296*(c %b)+d[a]<4294967296*(c %b+1):=U;have m:4294967296*(c %b+1)<=4294967296*b:=U;omega
   have q:0<=(4294967296*(c %b)+d[a])/b:=mh U U;simp only[aj,az (U:(a:Int)>=0),cond_true,bX l,D,aG];rw[E,dv (x:=b) U U,F,aG,kv q p,nK U,G,aG];have u:=ik c b;have z:ag (d.drop a)=d[a]+4294967296*c:=(by rw[k];exact kt l);have o:ag (d.drop a)=(4294967296*(c %b)+d[a])+b*(4294967296*(c/b)):=(by rw[z];generalize c/b=M at*;generalize c %b=r at*;rw[<-u];grind);refine ae.af.2 ⟨e.set a ((4294967296*(c %b)+d[a])/b),?_,by simp[ar],g.set q p,?_,?_⟩
   ·rw[(U:d.length-(f+1)=a),bp U U,o,vS];congr 2;omega
   ·intro B t m;rw[tQ U];exact h B U (by simpa using m)
   ·rw[(U:d.length-(f+1)=a),o,tL _ _ U,nJ U,h a U U,i,g6];grind
  ·rintro _ ⟨e,rfl,ar,g,h,i⟩;have aj:¬(((d.length:Nat):Int)-1-(d.length:Int)>=0):=U;simp only[ay aj,cond_false];rw[Nat.sub_self] at i;refine ae.af.2 ⟨e,ac,ar,g,?_⟩;rw[i,vN];simp
 ·rintro _ ⟨e,rfl,ar,g,h⟩;have t:ag d %b<b:=qa _ j;have s:0<=ag d %b:=oR _ U;refine ae.of_eq (au (mY g (by show e.length<=_;omega)) rfl) ?_;show(gX e,dg (ag d %b),())=_;rw[gX,h,kv s U]
section
variable {α B:Type}
theorem pg {c b f:List α} (e:a<b.length) (d:α->Option B):a9 (c++(b++f)) (c.length+a) d=d b[a]:=by refine ng ?_;rw[o0 U,nS,nO e,be e]
theorem Cp {b c d:List α} (f:a<c.length) (e:α):(b++(c++d)).set (b.length+a) e=b++(c.set a e++d):=by rw[List.set_append_right _ _ U,nS,List.set_append_left _ _ f]
end
theorem TS {v1 fa f g a c d h:Int} (t:0<b) (k:f=(v1*4294967296+fa)*b+d) (r:g=(a*4294967296+c)*b+h) (l:0<=d) (s:h<b) (i:0<=e) (m:(a-e*v1)*4294967296+c<e*fa):g<e*f:=by have j:a*4294967296+c+1<=e*(v1*4294967296+fa):=(by grind);have n:(a*4294967296+c+1)*b<=e*(v1*4294967296+fa)*b:=k1 j U;have o:0<=e*d:=mi i l;have p:e*f=e*(v1*4294967296+fa)*b+e*d:=(by rw[k];grind);have q:(a*4294967296+c+1)*b=(a*4294967296+c)*b+b:=(by grind);omega
theorem TT {v1 fa c g d f a h:Int} (u:0<e) (k:c=(v1*4294967296+fa)*e+a) (r:g=(d*4294967296+f)*e+h) (t:0<=a/\a<e) (s:0<=h) (i:0<=b/\b<4294967296) (v:1<=v1) (w:0<=fa) (l:b*fa<=(d-b*v1)*4294967296+f):b*c<g+c:=by have j:b*(v1*4294967296+fa)<=d*4294967296+f:=(by grind);have m:b*(v1*4294967296+fa)*e<=(d*4294967296+f)*e:=k1 j U;have n:b*a<=b*e:=ke U i.1;have o:b*c=b*(v1*4294967296+fa)*e+b*a:=(by rw[k];grind);have p:b*e<=4294967295*e:=k1 U U;have q:4294967296*e<=(v1*4294967296+fa)*e:=k1 U U;omega
end
theorem Gw (c:d.length=a+2):ag d=(d[a+1]*4294967296+d[a])*aQ a+ag (d.take a):=by have b:ag d=ag (d.take (a+1))+aQ (a+1)*d[a+1]:=(by rw[<-hF U,dK U]);rw[b,hF U,g6];grind
theorem abj (c:d.length=a+3):ag d=((d[a+2]*4294967296+d[a+1])*4294967296+d[a])*aQ a+ag (d.take a):=by have b:ag d=ag (d.take (a+2))+aQ (a+2)*d[a+2]:=(by rw[<-hF U,dK U]);rw[b,hF U,hF U];simp only[g6];grind
structure vP (v w:ab1) (n:Nat):Prop where
 hv:aS v
 hw:aS w
 rF:v.length=n+2
 wn:w.length=n+3
 Kz:n<=10000000
 top:2147483648<=v[n+1]
 lt:ag w<4294967296*ag v
theorem vP.Np {n:Nat} (a:vP d f n):0<ag d:=by
 have b:=Gw a.rF;have c:=eB (a.hv.take n);have e:=a.hv.get (n:=n) (by have:=a.rF;omega);have g:=a.top;have h:0<(d[n+1]'(by have:=a.rF;omega)*4294967296+d[n]'(by have:=a.rF;omega))*aQ n:=oS U (fb n)
 omega
theorem TU {k:ab1} {n:Nat} (g:vP f d n) (p:b=(4294967296*d[n+2]'(by have:=g.wn;omega)+d[n+1]'(by have:=g.wn;omega))/f[n+1]'(by have:=g.rF;omega)) (S:e=(4294967296*d[n+2]'(by have:=g.wn;omega)+d[n+1]'(by have:=g.wn;omega)) %f[n+1]'(by have:=g.rF;omega)):ae (loop (σ:=(cZ×Int×Int×aX×Unit)) (ρ:=(cZ×Int×aX×Unit)) (λ(q,s,E,A,_)=>
 Option.bind (α:=(cZ×aX×Unit)⊕((cZ×Int×Int×aX×Unit)⊕(cZ×Int×aX×Unit))) (bif decide (s>4294967295)==false then(aA f (aw (ax f-2))).bind λd2=>
 (gW IntKind.u64 E 32).bind λd3=>
 (bh (q.2-q.1) (aw (ax f-2))).bind λdl=>
 (a9 A (q.1+dl) λa4=>some a4).bind λd4=>
  bif decide (aR (s*aR d2)>eP IntKind.u64 d3 (aR d4)) then
 some (.inl (q,A,())) else
 some (.inr (.inr (q,s,A,()))) else some (.inl (q,A,()))) λa=>match a with
 |.inl (W,X,_)=>(
 (aA f (aw (ax f-1))).bind λt=>
  bif decide (aR (E+aR t)>4294967295) then
 some (.inr (W,aR (s-1),X,())) else
 some (.inl (W,aR (s-1),aR (E+aR t),X,())))
 |.inr h=>some h) ((i.length,i.length+d.length),b,e,i++(d++k),())) (λh=>∃a,h=((i.length,i.length+d.length),a,i++(d++k),())/\0<=a/\a<4294967296/\ag d/ag f<=a/\a*ag f<ag d+ag f):=by
 have c1:=g.rF;have c2:=g.wn;have ex:=g.Kz;have P:=g.Np;have f5:=g.hv.get (n:=n+1) U;have z:=g.hv.get (n:=n) U;have fz:=g.hw.get (n:=n+2) U;have fT:=g.hw.get (n:=n+1) U;have cv:=g.hw.get (n:=n) U;have ft:=g.top;have C:=Gw c1;have u:=abj c2;have H:=eB (g.hv.take n);have I:=gE (g.hv.take n);have Z:=eB (g.hw.take n);have J:=gE (g.hw.take n);rw[eC,gm U] at I J;have co:=g.lt;have D:=fb n;have aj:aw (ax f-1)=((n+1:Nat):Int):=(by simp only[a7];rw[bp U U];omega);have a3:aw (ax f-2)=((n:Nat):Int):=(by simp only[a7];rw[bp U U];omega);have bd:aA f ((n+1:Nat):Int)=some f[n+1]:=bX U;have bl:aA f ((n:Nat):Int)=some f[n]:=bX U;have bs:∀v:Int->abV,a9 (i++(d++k)) (i.length+n) v=v d[n]:=λv=>pg U v;generalize f0:f[n+1]=v1 at*;generalize f1:f[n]=fa at*;generalize f2:d[n+2]=G at*;generalize f3:d[n+1]=d1 at*;generalize f4:d[n]=j at*;obtain⟨c,T⟩:∃c,c=4294967296*G+d1:=⟨_,rfl⟩;rw[<-T] at p S;have u:ag d=(c*4294967296+j)*aQ n+ag (d.take n):=(by rw[u,T];grind);have el:G<=v1:=by
  rcases iB v1 G with l|l
  ·exfalso;have ab:(v1*4294967296+fa+1)*aQ n<=(v1*4294967296+4294967296)*aQ n:=k1 U U;have K:((v1+1)*4294967296*4294967296)*aQ n<=(c*4294967296+j)*aQ n:=k1 U U;have ad:(v1*4294967296+fa+1)*aQ n=(v1*4294967296+fa)*aQ n+aQ n:=(by grind);have am:((v1+1)*4294967296*4294967296)*aQ n=4294967296*((v1*4294967296+4294967296)*aQ n):=(by grind);omega
  ·exact l
 have d9:0<=ag d/ag f:=mh (eB g.hw) U;have ed:ag d/ag f<4294967296:=rL P co;have cs:0<=c:=U;have ek:=ik c v1;have fp:0<=c %v1:=oR _ U;have fs:c %v1<v1:=qa _ U;have fn:0<=c/v1:=mh cs U;have an:∀a,0<=a->(c-a*v1)*4294967296+j<a*fa->ag d/ag f<a:=λa p g=>(by have:=TS D C u H J p g;exact rL P this);have O:∀a,0<=a->a<4294967296->a*fa<=(c-a*v1)*4294967296+j->a*ag f<ag d+ag f:=λa bB ce g=>TT D C u ⟨H,I⟩ Z ⟨bB,ce⟩ U z.1 g;refine ae.loop (λF=>∃a h,F=((i.length,i.length+d.length),a,h,i++(d++k),())/\0<=a/\a<=4294967297/\0<=h/\h<4294967296/\h=c-a*v1/\ag d/ag f<=a) (λF=>F.2.1.toNat) ⟨b,e,rfl,U,?_,U,U,?_,?_⟩ ?_
 ·rw[p];have:c<4294967298*v1:=U;have:=rL U this;omega
 ·rw[p,S,il];omega
 ·rcases iB (c/v1) (ag d/ag f) with l|l
  ·exfalso;have ab:(c/v1+1)*ag f<=ag d:=by
    have o:(c/v1+1)*ag f<=ag d/ag f*ag f:=k1 U U;have ap:=ik (ag d) (ag f);have L:=oR (ag d) (U:ag f≠0);rw[il (ag d/ag f)] at o;omega
   have K:(c+1)*4294967296<=(c/v1+1)*(v1*4294967296):=(by have:(c/v1+1)*(v1*4294967296)=(v1*(c/v1)+v1)*4294967296:=(by grind);omega);have ad:(c+1)*4294967296*aQ n<=(c/v1+1)*(v1*4294967296)*aQ n:=k1 K U;have am:0<=(c/v1+1)*(fa*aQ n+ag (f.take n)):=mi U (by have:=mi z.1 (eR D);omega);have d5:(c/v1+1)*ag f=(c/v1+1)*(v1*4294967296)*aQ n+(c/v1+1)*(fa*aQ n+ag (f.take n)):=(by rw[C];grind);have d6:(j+1)*aQ n<=4294967296*aQ n:=k1 U U;have d7:(c*4294967296+j)*aQ n+aQ n=c*4294967296*aQ n+(j+1)*aQ n:=(by grind);have d8:(c+1)*4294967296*aQ n=c*4294967296*aQ n+4294967296*aQ n:=(by grind);omega
  ·rw[p];exact l
 rintro _ ⟨a,h,rfl,o,ap,L,av,M,a0⟩;have w:∀a,(a-1)*v1=a*v1-v1:=λa=>(by grind);have N:ag d/ag f<a->ae ((aA f (aw (ax f-1))).bind λt=>
  bif decide (aR (h+aR t)>4294967295) then
 some (.inr ((i.length,i.length+d.length),aR (a-1),i++(d++k),())) else
 some (
  .inl ((i.length,i.length+d.length),aR (a-1),aR (h+aR t),i++(d++k),()))) (λ(Y:(cZ×Int×Int×aX×Unit)⊕(cZ×Int×aX×Unit))=>match Y with
  |.inl V=>(∃a h,V=((i.length,i.length+d.length),a,h,i++(d++k),())/\0<=a/\a<=4294967297/\0<=h/\h<4294967296/\h=c-a*v1/\ag d/ag f<=a)/\V.2.1.toNat<a.toNat
  |.inr h=>∃a,h=((i.length,i.length+d.length),a,i++(d++k),())/\0<=a/\a<4294967296/\ag d/ag f<=a/\a*ag f<ag d+ag f):=by
  intro em;rw[aj,bd,aG,dv (x:=v1) U U,dv (x:=h+v1) U U,dv (x:=a-1) U U,bu];refine ae.ite (λl=>?_) λl=>?_
  ·refine ae.af.2 ⟨a-1,rfl,U,?_,U,?_⟩
   ·rcases iB (a-1) 4294967296 with m|m
    ·exact m
    ·exfalso;have:=k1 m (U:0<=v1);rw[w] at this;omega
   ·have ci:a-1<4294967296:=by
     rcases iB (a-1) 4294967296 with m|m
     ·exact m
     ·exfalso;have:=k1 m (U:0<=v1);rw[w] at this;omega
    refine O (a-1) U ci ?_;rw[w];have f6:(a-1)*fa<=4294967295*fa:=k1 U z.1;omega
  ·refine ae.af.2 ⟨⟨a-1,h+v1,rfl,U,U,U,U,?_,U⟩,?_⟩
   ·rw[w];omega
   ·show(a-1).toNat<a.toNat;omega
 by_cases Q:a>4294967295
 ·simp only[az Q,show(true==false)=false from rfl,cond_false,aG];refine(N U).mono ?_;rintro(B|B) r
  ·exact r
  ·exact r
 ·simp only[ay Q,beq_self_eq_true,cond_true,a3,bl,aG];obtain⟨ds,d0⟩:=Gq (x:=h) (y:=j) ⟨L,av⟩ cv;have eq:=E1 (x:=a) (y:=fa) ⟨o,U⟩ z;rw[ds,aG];simp only[nS,dy (U:n<d.length),aG,bs,d0];rw[dv (x:=fa) U U,dv (x:=a*fa) U U];by_cases R:a*fa>4294967296*h+j
  ·simp only[az R,cond_true,aG];refine(N (an a o (by rw[<-M];omega))).mono ?_;rintro(B|B) r
   ·exact r
   ·exact r
  ·simp only[ay R,cond_false,aG];exact ae.af.2 ⟨a,rfl,o,U,a0,O a o U (by rw[<-M];omega)⟩
theorem aaQ {r:ab1} (W:aS d) (X:aS f) (ci:d.length<f.length) (bB:f.length<=100000000) (V:0<=b/\b<4294967296) (R:∀g e a,a.length=f.length->aS a->(∀(Q:d.length<a.length) (m:d.length<f.length),a[d.length]=f[d.length])->0<=g->g<4294967296->0<=e->e<=1->ag a-aQ d.length*(g+e)=ag f-b*ag d->s ((i.length,i.length+f.length),g,e,i++(a++r),())):ae (loop (σ:=(cZ×Int×Int×Int×aX×Unit)) (ρ:=(cZ×Int×Int×aX×Unit)) (λ(k,p,t,o,q,_)=>
 bif decide (o<ax d) then
 (aA d o).bind λz=>
 (dm IntKind.u64 (aR (aR (b*aR z)+p)) 32).bind λav=>
 (bh (k.2-k.1) o).bind λab=>
 (a9 q (k.1+ab) λO=>some O).bind λK=>
 (bh (k.2-k.1) o).bind λG=>
 (a9 q (k.1+G) λ_=>some (q.set (k.1+G) (dg (dq IntKind.u64 (aR (aR (aR K-dq IntKind.u64 (aR (aR (b*aR z)+p)) 4294967295)-t)) 4294967295)))).bind λa3=>
 (dm IntKind.u64 (aR (aR (aR K-dq IntKind.u64 (aR (aR (b*aR z)+p)) 4294967295)-t)) 32).bind λa0=>
 some (.inl (k,av,dq IntKind.u64 a0 1,aZ o,a3,())) else
 some (.inr (k,p,t,q,()))) ((i.length,i.length+f.length),0,0,0,i++(f++r),())) s:=by
 refine ae.steps d.length (λc an=>∃g e a,an=((i.length,i.length+f.length),g,e,(c:Int),i++(a++r),())/\a.length=f.length/\aS a/\(∀l,c<=l->(Q:l<a.length)->(m:l<f.length)->a[l]=f[l])/\0<=g/\g<4294967296/\0<=e/\e<=1/\ag a-aQ c*(g+e)=ag f-b*ag (d.take c)) ⟨0,0,f,rfl,rfl,X,λ_ _ _ _=>rfl,U,U,U,U,by simp[ag]⟩ ?_ ?_
 ·rintro c _ y ⟨g,e,a,rfl,u,m,v,A,B,C,D,w⟩;have Y:=W.get y;have co:=m.get (n:=c) U;have ce:=E1 V Y;obtain⟨j,T,H,I⟩:∃j,j=b*d[c]+g/\0<=j/\j<18446744073709551616:=⟨_,rfl,U,U⟩;simp only[az (show(c:Int)<ax d by simp only[a7];omega),cond_true,bX y,aG];have aj:aR (aR (b*aR d[c])+g)=j:=by
   rw[dv (x:=d[c]) U U,dv (x:=b*d[c]) U U,<-T,dv H I]
  rw[aj];obtain⟨h,S,bd,bl⟩:∃h,h=a[c]-j %4294967296-e/\-4294967296<=h/\h<4294967296:=⟨_,rfl,U,U⟩;have N:aR (aR (aR a[c]-dq IntKind.u64 j 4294967295)-e)=h %18446744073709551616:=(by rw[and_low32 H I,ly,ly,ly,S];omega);have ar:h %18446744073709551616/4294967296 %2^1=-(h/4294967296):=(by rw[show(2:Int)^1=2 from rfl];omega);have am:h %18446744073709551616 %4294967296=h %4294967296:=U;simp only[mT,nS,dy (U:c<f.length),aG,pg (U:c<a.length),N,pG (U:0<=h %18446744073709551616) U,Cp (U:c<a.length)];rw[qp 1 U U 1 aa aa,ar,am];refine ae.af.2 ⟨j/4294967296,-(h/4294967296),a.set c (h %4294967296),by rw[bA U],by simp[u],m.set U U,?_,U,U,U,U,?_⟩
  ·intro l E F Z;rw[tQ U];exact v l U U Z
  ·rw[nJ U,g6,hF y];have bs:=ik h 4294967296;have f2:=ik j 4294967296;generalize h/4294967296=L at*;generalize h %4294967296=M at*;generalize j/4294967296=ad at*;generalize j %4294967296=J at*;generalize a[c]=ap at*;have P:J=b*d[c]+g-4294967296*ad:=U;generalize d[c]=a4 at*;have f4:M=ap-J-e-4294967296*L:=U;rw[f4,P];grind
 ·rintro _ ⟨g,e,a,rfl,u,m,v,A,B,C,D,w⟩;simp only[ay (show¬((d.length:Int)<ax d) by simp only[a7];omega),cond_false];rw[dK (aY _)] at w;exact ae.af.2 (R g e a u m (λE F=>v _ (aY _) E F) A B C D w)
theorem RP {m:ab1} (L:aS d) (M:aS f) (W:d.length<f.length) (V:f.length<=100000000) (J:∀c a,a.length=f.length->aS a->(∀(I:d.length<a.length) (j:d.length<f.length),a[d.length]=f[d.length])->0<=c->c<=1->ag a+aQ d.length*c=ag f+ag d->u ((i.length,i.length+f.length),c,i++(a++m),())):ae (loop (σ:=(cZ×Int×Int×aX×Unit)) (ρ:=(cZ×Int×aX×Unit)) (λ(g,o,k,l,_)=>
 bif decide (k<ax d) then
 (aA d k).bind λB=>
 (bh (g.2-g.1) k).bind λO=>
 (a9 l (g.1+O) λH=>some H).bind λC=>
 (bh (g.2-g.1) k).bind λz=>
 (a9 l (g.1+z) λ_=>some (l.set (g.1+z) (dg (dq IntKind.u64 (aR (aR (aR C+aR B)+o)) 4294967295)))).bind λS=>
 (dm IntKind.u64 (aR (aR (aR C+aR B)+o)) 32).bind λR=>
 some (.inl (g,R,aZ k,S,())) else
 some (.inr (g,o,l,()))) ((i.length,i.length+f.length),0,0,i++(f++m),())) u:=by
 refine ae.steps d.length (λb P=>∃c a,P=((i.length,i.length+f.length),c,(b:Int),i++(a++m),())/\a.length=f.length/\aS a/\(∀h,b<=h->(I:h<a.length)->(j:h<f.length)->a[h]=f[h])/\0<=c/\c<=1/\ag a+aQ b*c=ag f+ag (d.take b)) ⟨0,f,rfl,rfl,M,λ_ _ _ _=>rfl,U,U,by simp[ag]⟩ ?_ ?_
 ·rintro b _ s ⟨c,a,rfl,p,j,q,t,v,r⟩;have X:=L.get s;have Y:=j.get (n:=b) U;obtain⟨e,K,A,Z⟩:∃e,e=a[b]+d[b]+c/\0<=e/\e<8589934592:=⟨_,rfl,U,U⟩;simp only[az (show(b:Int)<ax d by simp only[a7];omega),cond_true,bX s,aG];have G:aR (aR (aR a[b]+aR d[b])+c)=e:=by
   rw[dv (x:=d[b]) U U,dv (x:=a[b]) U U,dv (x:=a[b]+d[b]) U U,<-K,dv A U]
  simp only[mT,nS,dy (U:b<f.length),aG,pg (U:b<a.length),G,pG A (U:e<18446744073709551616),Cp (U:b<a.length)];refine ae.af.2 ⟨e/4294967296,a.set b (e %4294967296),by rw[bA U],by simp[p],j.set U U,?_,U,U,?_⟩
  ·intro h w y N;rw[tQ U];exact q h U U N
  ·rw[nJ U,g6,hF s];have T:=ik e 4294967296;generalize e/4294967296=E at*;generalize e %4294967296=F at*;generalize a[b]=Q at*;generalize d[b]=D at*;have f4:F=Q+D+c-4294967296*E:=U;rw[f4];grind
 ·rintro _ ⟨c,a,rfl,p,j,q,t,v,r⟩;simp only[ay (show¬((d.length:Int)<ax d) by simp only[a7];omega),cond_false];rw[dK (aY _)] at r;exact ae.af.2 (J c a p j (λw y=>q _ (aY _) w y) t v r)
theorem To {h g c d i f a:Int} (n:h+b*c=g+e) (m:g=i-d*e-b*(4294967296*-1)):h+b*(f+c-4294967296*a-f)=i-(d-1)*e+b*(4294967296*(1-a)):=by have aj:b*(f+c-4294967296*a-f)=b*c-b*(4294967296*a):=(by grind);have j:(d-1)*e=d*e-e:=(by grind);have k:b*(4294967296*(1-a))=b*4294967296-b*(4294967296*a):=(by grind);have l:b*(4294967296*-1)=-(b*4294967296):=(by grind);omega
theorem Tp {f a i h g d c:Int} (j:f-b*(a+e)=g-i*h):f+b*(d-a-e-4294967296*c-d)=g-i*h-b*(4294967296*c):=by have aj:b*(d-a-e-4294967296*c-d)=-(b*(a+e))-b*(4294967296*c):=(by grind);omega
theorem ae.bs {c:Option n} {b:n->Option r} {a:r->Prop} {y:n} (d:c=some y) (e:ae (b y) a):ae (c.bind b) a:=by rw[d];exact e
theorem Tq {A C:ab1} {n:Nat} (i:vP d f n):ae (wU ((A++(f++C),A.length,A.length+f.length),d,())) (λq=>∃b,q=(A++(b++C),ag f/ag d,())/\b.length=f.length/\aS b/\ag b=ag f %ag d):=by
 have H:=i.rF;have cs:=i.wn;have ed:=i.Kz;have k:=i.Np;have ap:=eB i.hw;have el:=i.top;have Q:=i.hv.get (n:=n+1) U;have O:=i.hw.get (n:=n+2) U;have ci:=i.hw.get (n:=n+1) U;have D:ax d=((n+2:Nat):Int):=(by simp only[a7];omega);have aj:aw (((n+2:Nat):Int)-1)=((n+1:Nat):Int):=(by rw[bp U U];omega);have am:aA d ((n+1:Nat):Int)=some d[n+1]:=bX U;obtain⟨cv,ab⟩:=Gq (x:=f[n+2]) (y:=f[n+1]) O ci;obtain⟨c1,c2⟩:=FL (x:=4294967296*f[n+2]+f[n+1]) (y:=d[n+1]) ⟨U,U⟩ U;unfold wU;have m:bh (A.length+f.length-A.length) (ax d)=some (n+2):=(by rw[nS,D];exact dy U);have i1:bh (A.length+f.length-A.length) (aw (ax d-1))=some (n+1):=(by rw[nS,D,aj];exact dy U);have R:aA d (aw (ax d-1))=some d[n+1]:=(by rw[D,aj];exact am);refine ae.bs m (ae.bs (pg U _) (ae.bs (by rw[dv O.1 U];exact cv) (ae.bs i1 (ae.bs (pg U _) (ae.bs R (ae.bs (by rw[ab,dv Q.1 U];exact c1) (ae.bs R (ae.bs (by rw[ab,dv Q.1 U];exact c2) ?_))))))));refine ae.aW (TU i rfl rfl) ?_;rintro _ ⟨g,rfl,Z,ar,fn,fp⟩;refine ae.aW (P:=λq=>∃e j b,q=((A.length,A.length+f.length),e,j,A++(b++C),())/\b.length=f.length/\aS b/\0<=e/\e<4294967296/\0<=j/\j<=1/\(∀(i:d.length<b.length) (L:d.length<f.length),b[d.length]=f[d.length])/\ag b-aQ d.length*(e+j)=ag f-g*ag d) (aaQ i.hv i.hw U U ⟨Z,ar⟩ λe j b p v T V W X Y w=>⟨e,j,b,rfl,p,v,V,W,X,Y,T,w⟩) ?_;rintro _ ⟨e,j,b,rfl,p,v,V,W,X,Y,T,w⟩;have em:=v.get (n:=n+2) U;obtain⟨c,av,d0,d1⟩:∃c,c=b[n+2]-e-j/\-4294967296<=c/\c<4294967296:=⟨_,rfl,U,U⟩;have K:aR (aR (aR b[n+2]-e)-j)=c %18446744073709551616:=(by rw[ly,ly,ly,av];omega);have dl:c %18446744073709551616/4294967296 %2^1=-(c/4294967296):=(by rw[show(2:Int)^1=2 from rfl];omega);have ds:c %18446744073709551616 %4294967296=c %4294967296:=U;refine ae.bs m (ae.bs (pg U _) (ae.bs m (ae.bs (y:=A++(b.set (n+2) (c %4294967296)++C)) ?_ (ae.bs (y:=c %18446744073709551616/4294967296) ?_ ?_))))
 ·rw[pg U,K,pG U U,Cp U,ds]
 ·rw[K,mT]
 rw[qp 1 U U 1 aa aa,dl];have d5:=fb (n+2);have bB:ag (b.set (n+2) (c %4294967296))=ag b+aQ (n+2)*(c %4294967296-b[n+2]):=nJ U _;have r:aS (b.set (n+2) (c %4294967296)):=v.set U U;rw[H] at w;have d2:=ik c 4294967296;have s:ag (b.set (n+2) (c %4294967296))=ag f-g*ag d-aQ (n+2)*(4294967296*(c/4294967296)):=(by rw[bB];generalize c/4294967296=z at*;generalize c %4294967296=B at*;have:B=b[n+2]-e-j-4294967296*z:=U;rw[this];exact Tp w);have a4:=gE r;have d6:=eB r;rw[o4,p,cs,(U:n+3=(n+2)+1),g6] at a4;have M:=ik (ag f) (ag d);have d8:=oR (ag f) (U:ag d≠0);have d9:=qa (ag f) k;rw[dT,bu];refine ae.ite (λad=>?_) λad=>?_
 ·have F:c/4294967296=0:=U;rw[F] at s;have l:ag f/ag d=g:=by
   have E:g*ag d<=ag f:=U;have L:g<=ag f/ag d:=(Int.le_ediv_iff_mul_le k).2 E;omega
  rw[bn (by simp;omega),kv Z ar];refine ae.af.2 ⟨_,by rw[l],by simp[p],r,?_⟩;rw[s];rw[l] at M;rw[il g];omega
 ·have F:c/4294967296=-1:=U;rw[F] at s;have l:ag f/ag d=g-1:=by
   have E:ag f<g*ag d:=U;have L:ag f/ag d<g:=rL k E;have d3:(g-1)*ag d<ag f+1:=(by have:(g-1)*ag d=g*ag d-ag d:=(by grind);omega);have d4:g-1<=ag f/ag d:=(Int.le_ediv_iff_mul_le k).2 U;omega
  have ek:=mh ap (eR k);have G:(b.set (n+2) (c %4294967296)).length=f.length:=(by simp[p]);rw[<-G];refine ae.aW (P:=λq=>∃e a,q=((A.length,A.length+(b.set (n+2) (c %4294967296)).length),e,A++(a++C),())/\a.length=f.length/\aS a/\0<=e/\e<=1/\ag a+aQ d.length*e=ag (b.set (n+2) (c %4294967296))+ag d) (RP i.hv r U U λe a I o ex J S u=>⟨e,a,rfl,by rw[I,G],o,J,S,u⟩) ?_;rintro _ ⟨h,a,rfl,I,o,J,S,u⟩;rw[G];have eq:=o.get (n:=n+2) U;refine ae.bs m (ae.bs (pg U _) (ae.bs m (ae.bs (y:=A++(a.set (n+2) ((a[n+2]+h) %4294967296)++C)) ?_ ?_)))
  ·rw[pg U,Cp U,kv J U,p4]
  rw[bn (by simp;omega),dv U U,kv U U];refine ae.af.2 ⟨a.set (n+2) ((a[n+2]+h) %4294967296),by rw[l],by simp[I],o.set U U,?_⟩;have ce:ag (a.set (n+2) ((a[n+2]+h) %4294967296))=ag a+aQ (n+2)*((a[n+2]+h) %4294967296-a[n+2]):=nJ U _;have N:aS (a.set (n+2) ((a[n+2]+h) %4294967296)):=o.set U U;have bd:=gE N;have d7:=eB N;have a3:(a.set (n+2) ((a[n+2]+h) %4294967296)).length=(n+2)+1:=(by rw[o4];omega);rw[a3,g6] at bd;have f2:=ik (a[n+2]+h) 4294967296;rw[H] at u;have t:ag (a.set (n+2) ((a[n+2]+h) %4294967296))=ag f-(g-1)*ag d+aQ (n+2)*(4294967296*(1-(a[n+2]+h)/4294967296)):=(by rw[ce];generalize(a[n+2]+h)/4294967296=z at*;generalize(a[n+2]+h) %4294967296=B at*;have:B=a[n+2]+h-4294967296*z:=U;rw[this];exact To u s);rw[l] at M;have a0:ag f-(g-1)*ag d=ag f %ag d:=(by rw[il (g-1)];omega);rw[a0] at t;have co:=gE i.hv;rw[H] at co;have bl:(a[n+2]+h)/4294967296=1:=by
   rcases iB 0 ((a[n+2]+h)/4294967296) with an|an
   ·omega
   ·exfalso;have:(a[n+2]+h)/4294967296=0:=U;rw[this] at t;omega
  rw[bl] at t;rw[t];simp
theorem xn (a:0<=b):ag (b0 b.toNat)=b:=by rw[jW];omega
theorem WA {n:Nat} (f:aS d) (m:dQ d) (u:d.length=n+2):∃c:Nat,c<=31/\zZ (d[n+1],())=some ((c:Int),())/\ag d*2^c<aQ (n+2)/\2147483648*aQ (n+1)<=ag d*2^c:=by
 have l:=f.get (n:=n+1) U;have q:d[n+1]≠0:=m _ (by rw[List.getLast?_eq_getElem?,be U];congr 2;omega);have h:ag d=ag (d.take (n+1))+aQ (n+1)*d[n+1]:=(by rw[<-hF U,dK U]);have r:=eB (f.take (n+1));have j:=gE (f.take (n+1));rw[eC,gm U] at j;generalize d[n+1]=v at*;obtain⟨a,rfl⟩:=eY l.1;have i:0<a:=U;have t:aC a<=32:=dF.2 U;have s:=pi i;obtain⟨g,o⟩:=wj i;obtain⟨b,k⟩:∃b,aC a=b+1:=⟨aC a-1,U⟩;refine⟨32-aC a,U,?_,?_,?_⟩
 ·unfold zZ;refine au (JY (n:=a) U) ?_;show some (aw (32-(aC a:Int)),())=_;rw[bp U U];congr 2;omega
 ·have aj:ag d<aQ (n+1)*2^aC a:=by
   have:aQ (n+1)*((a:Int)+1)<=aQ (n+1)*2^aC a:=ke (by rw[<-kS];omega) (eR (fb _));have p:aQ (n+1)*((a:Int)+1)=aQ (n+1)*(a:Int)+aQ (n+1):=(by rw[Int.mul_add,Int.mul_one]);show ag d<_;rw[h];show ag (d.take (n+1))+aQ (n+1)*(a:Int)<_;omega
  have e:ag d*2^(32-aC a)<aQ (n+1)*2^aC a*2^(32-aC a):=vT aj (jG _);rw[kx,<-kh,(U:aC a+(32-aC a)=32)] at e;rw[g6,il];rw[il];have:aQ (n+1)*2^32=4294967296*aQ (n+1):=(by rw[il];rfl);omega
 ·have aj:aQ (n+1)*2^b<=ag d:=by
   have:aQ (n+1)*2^b<=aQ (n+1)*(a:Int):=ke (by rw[<-kS];rw[k] at g;simp only[v7] at g;omega) (eR (fb _));rw[h];show _<=ag (d.take (n+1))+aQ (n+1)*(a:Int);omega
  have e:aQ (n+1)*2^b*2^(32-aC a)<=ag d*2^(32-aC a):=k1 aj (eR (jG _));rw[kx,<-kh,(U:b+(32-aC a)=31)] at e;have:aQ (n+1)*2^31=2147483648*aQ (n+1):=(by rw[il];rfl);omega
theorem Ts (g:ag d=b) (e:aS d) (l:dQ d) (q:b<aQ (a+2)) (r:2147483648*aQ (a+1)<=b):∃c:d.length=a+2,2147483648<=d[a+1]:=by
 have t:=fb (a+1);have k:d.length=a+2:=by
  have o:=gE e;have h:d≠[]:=λi=>(by rw[i] at g;simp only[ag] at g;omega);have p:=dQ.low e l h;rcases k5 d.length (a+2) with c|c|c
  ·have:=nA (m:=d.length) (n:=a+1) U;omega
  ·exact c
  ·have:=nA (m:=a+2) (n:=d.length-1) U;omega
 refine⟨k,?_⟩;have s:ag d=ag (d.take (a+1))+aQ (a+1)*d[a+1]:=(by rw[<-hF U,dK U]);have j:=gE (e.take (a+1));rw[eC,gm U] at j;rcases iB d[a+1] 2147483648 with f|f
 ·exfalso;have:aQ (a+1)*(d[a+1]+1)<=aQ (a+1)*2147483648:=ke U U;rw[Int.mul_add,Int.mul_one] at this;omega
 ·exact f
theorem Tt {h d i a g f c:Int} (l:(g+b*(i+c))+e*d=h) (j:i=e*a+f):(g+b*(f+c))+e*(d+b*(a-0))=h:=by subst j;have aj:b*(e*a+f+c)=b*(f+c)+b*(e*a):=(by grind);have k:e*(d+b*(a-0))=e*d+b*(e*a):=(by grind);omega
theorem Tr {n:Nat} (z:aS d) (J:ag d=b) (d1:b<aQ (n+2)) (L:d.length=n+2) (an:2147483648<=d[n+1]) (bl:n<=10000000) (ap:aS f) (Y:ag f=e) (W:f.length=c) (d7:c=a+(n+2)) (d0:c<=10000000) (ab:ag (f.drop a)<b) {H:k7->Prop} (X:∀i h,i.length=a->aS i->h.length=c->aS h->ag h+b*ag i=e->ag h<b->H (i,h,())):ae (loop (σ:=(Int×aX×aX×Unit)) (ρ:=k7) (λ(r,P,u,_)=>
 bif decide (r>=0) then
 ((fU r).bind λM=>(fU (aZ (aw (r+ax d)))).bind λN=>(gj M N u.length).bind λ_=>(vq u.length).map λ_=>(M,N)).bind λt=>
  bif Nat.blt t.1 t.2 then
 (wU ((u,t.1,t.2),d,())).bind λ(bd,bs,_)=>
 wr P r bs λcs=>
 some (.inl (aw (r-1),cs,bd,())) else none else
 some (.inr (P,u,()))) (aw (ax (List.replicate a (0:Int))-1),List.replicate a (0:Int),f,())) H:=by
 have K:0<b:=(by have o:=Gw L;have q:=eB (z.take n);have c1:=z.get (n:=n) U;have c2:0<(d[n+1]*4294967296+d[n])*aQ n:=oS U (fb n);omega);refine ae.steps a (λl bB=>∃i h,bB=(((a:Nat):Int)-1-l,i,h,())/\i.length=a/\aS i/\(∀g,g<a-l->(Z:g<i.length)->i[g]=0)/\h.length=c/\aS h/\ag h+b*ag i=e/\ag (h.drop (a-l))<b) ⟨List.replicate a 0,f,?_,ac,aS.m0 _,ac,W,ap,by rw[rD,Y];omega,ab⟩ ?_ ?_
 ·rw[show aw (ax (List.replicate a (0:Int))-1)=(a:Int)-1-((0:Nat):Int) from ?_];simp only[a7,m6];rw[bp U U];omega
 ·rintro l _ d5 ⟨i,h,rfl,ar,E,F,G,p,o,q⟩;obtain⟨g,Z⟩:∃g,a=g+1+l:=⟨a-1-l,U⟩;have aj:((a:Nat):Int)-1-(l:Int)=(g:Int):=U;rw[(U:a-l=g+1)] at q;have R:aZ (aw ((g:Int)+ax d))=((g+(n+3):Nat):Int):=by
   simp only[a7];rw[bp U U,(U:(g:Int)+(d.length:Int)=((g+(n+2):Nat):Int)),bA U];rfl
  simp only[aj,az (U:(g:Int)>=0),cond_true,R,s8,aG,u1 (U:g<=g+(n+3)/\g+(n+3)<=h.length),LK (U:0<h.length),fe,show Nat.blt g (g+(n+3))=true from by simp];obtain⟨m,v⟩:∃m,m=h.take g:=⟨_,rfl⟩;obtain⟨j,B⟩:∃j,j=(h.drop g).take (n+3):=⟨_,rfl⟩;obtain⟨k,x⟩:∃k,k=h.drop (g+(n+3)):=⟨_,rfl⟩;have w:m.length=g:=(by rw[v,eC];omega);have s:j.length=n+3:=(by rw[B,eC,kz];omega);have y:h=m++(j++k):=(by rw[v,B,x,<-oU,lG,lG]);have dl:k.length=c-(g+(n+3)):=(by rw[x,kz,G]);have a4:aS m:=(by rw[v];exact p.take g);have D:aS j:=(by rw[B];exact(p.drop g).take _);have O:aS k:=(by rw[x];exact p.drop _);have d2:ag (h.drop g)=ag j+aQ (n+3)*ag k:=(by rw[y,rR U,rS U,fO,nI,s]);have d3:ag (h.drop g)=h[g]+4294967296*ag (h.drop (g+1)):=kt U;have d9:=p.get (n:=g) U;have T:=eB O;have ds:0<=aQ (n+3)*ag k:=mi (eR (fb _)) T;have d6:ag (h.drop g)<4294967296*b:=U;have V:ag k=0:=by
   rcases iB 0 (ag k) with S|S
   ·exfalso;have:=ke (U:1<=ag k) (eR (fb (n+3)));have cv:aQ (n+3)=4294967296*aQ (n+2):=g6 (n+2);have:=eB D;omega
   ·omega
  have Q:vP d j n:=⟨z,D,L,s,bl,an,by rw[J];omega⟩;have ad:0<=ag j/b:=Int.ediv_nonneg (eB D) U;have am:ag j/b<4294967296:=Int.ediv_lt_of_lt_mul K U;have d4:=Int.emod_add_mul_ediv (ag j) b;have d8:=Int.emod_lt_of_pos (ag j) K;have I:=Tq (A:=m) (C:=k) Q;rw[<-y,w,s,J] at I;refine ae.aW I ?_;rintro _ ⟨ce,rfl,ci,co,dg⟩;dsimp only;rw[nK U];refine ae.af.2 ⟨i.set g (ag j/b),m++(ce++k),?_,by simp[ar],E.set ad am,?_,by simp;omega,aS.append.2 ⟨a4,aS.append.2 ⟨co,O⟩⟩,?_,?_⟩
  ·rw[bp U U];congr 1;omega
  ·intro a0 ed a3;rw[tQ U];exact F a0 U (by simpa using a3)
  ·rw[nJ U,F g U U,nI,nI,w,dg];rw[y,nI,nI,w] at o;rw[ci];rw[s] at o;have av:ag j=b*(ag j/b)+ag j %b:=U;exact Tt o av
  ·rw[(U:a-(l+1)=g),rR U,rS U,fO,nI,V,dg];omega
 ·rintro _ ⟨i,h,rfl,ar,E,F,G,p,o,q⟩;have aj:¬(((a:Nat):Int)-1-(a:Int)>=0):=U;simp only[ay aj,cond_false];rw[Nat.sub_self,ml] at q;exact ae.af.2 (X i h ar E G p o q)
theorem FM {A B q r:Int} (f:0<B) (b:A=B*q+r) (c:0<=r) (d:r<B):A/B=q/\A %B=r:=by have e:=ik A B;have a:A/B=q:=(by rw[b,Int.mul_add_ediv_left _ _ U,oQ c d];omega);refine⟨a,?_⟩;rw[a] at e;omega
theorem Is (l:aS d) (p:aS f) (W:dQ d) (F:dQ f) (ed:d.length<=1000000) (ek:f.length<=1000000) (N:f≠[]):wV (d,f,())=some (b0 (ag d/ag f).toNat,b0 (ag d %ag f).toNat,()):=by
 unfold wV;refine ae.eq_iff.1 ?_;have K:=eB l;have I:0<ag f:=(by have:=eB p;have:ag f≠0:=λY=>N (dQ.zero p F Y);omega);refine ae.bs (zj l p W F U U) ?_;dsimp only;rw[bu];refine ae.ite (λt=>?_) λt=>?_
 ·have C:ag d<ag f:=by
   unfold eO at t;split at t
   ·assumption
   ·split at t<;>omega
  refine ae.bs (wu U) (ae.af.2 ?_);rw[oQ K C,rM K C];show(([]:ab1),d,())=(b0 0,b0 (ag d).toNat,());rw[IJ,<-dQ.eq l W]
 have d7:ag f<=ag d:=by
  unfold eO at t;split at t
  ·omega
  ·omega
 rw[dT,bu];refine ae.ite (λh=>?_) λh=>?_
 ·have h:f.length=1:=(by simp only[a7] at h;omega);obtain⟨o,rfl⟩:=List.length_eq_one_iff.1 h;have bd:=(aS.cons.1 p).1;have u:ag [o]=o:=(by simp[ag]);rw[u] at I|-;have dl:0<=ag d %o:=Int.emod_nonneg _ U;have d9:ag d %o<o:=Int.emod_lt_of_pos _ I;refine ae.bs (y:=o) rfl (ae.bs (aaq l U U bd.2) ?_);dsimp only;refine ae.bs (mY (aS.cons.2 ⟨⟨dl,U⟩,aS.nil⟩) ac) (ae.af.2 ?_);show(_,gX [ag d %o],())=_;rw[gX];simp[ag]
 obtain⟨b,bB⟩:∃b,f.length=b+2:=(by have:=List.length_pos_iff.2 N;simp only[a7] at h;exact⟨f.length-2,U⟩);have aj:aw (ax f-1)=((b+1:Nat):Int):=(by simp only[a7];rw[bp U U];omega);obtain⟨a,T,d0,V,d1⟩:=WA p F bB;have d8:b+2<=d.length:=by
  rcases bb d.length (b+2) with j|j
  ·have:=p1 l p F U;omega
  ·exact j
 have D:=jG a;refine ae.bs (y:=f[b+1]) (by rw[aj];exact bX U) (ae.bs d0 ?_);refine ae.bs (CC p U U) ?_;obtain⟨s,u⟩:∃s,s=b0 (ag f*2^a).toNat:=⟨_,rfl⟩;have av:0<=ag f*2^a:=Int.mul_nonneg U U;have M:ag s=ag f*2^a:=(by rw[u,xn av]);have bq:aS s:=(by rw[u];exact jz _);have d2:dQ s:=(by rw[u];exact mE _);obtain⟨cv,ce⟩:=Ts M bq d2 V d1;rw[<-u];have Z:aZ (ax d)=((d.length+1:Nat):Int):=bA U;refine ae.bs (y:=d.length+1) (by rw[Z];exact gT U) ?_;refine ae.bs (CC l U U) ?_;have ap:0<=ag d*2^a:=Int.mul_nonneg U U;have d6:ag d*2^a<aQ (d.length+1):=(by have w:ag d*2^a<aQ d.length*2^a:=Int.mul_lt_mul_of_pos_right (gE l) D;have x:aQ d.length*2^a<=aQ d.length*4294967296:=Int.mul_le_mul_of_nonneg_left (by have:=vr T;omega) (Int.le_of_lt (fb _));rw[g6,Int.mul_comm 4294967296];omega);obtain⟨m,E⟩:∃m,m=b0 (ag d*2^a).toNat:=⟨_,rfl⟩;have R:m.length<=d.length+1:=(by rw[E];exact qN U);have c2:aS m:=(by rw[E];exact jz _);have c1:ag m=ag d*2^a:=(by rw[E,xn ap]);rw[<-E];obtain⟨i,O⟩:∃i,i=hZ (List.replicate (d.length+1) (0:Int)) m 0 (List.replicate (d.length+1) (0:Int)).length:=⟨_,rfl⟩;have J:i=m++List.replicate (d.length+1-m.length) 0:=(by rw[O];unfold hZ;rw[List.take_zero,List.nil_append,List.length_replicate,Nat.sub_zero,List.take_of_length_le R,Nat.zero_add,Nat.min_eq_left R,List.drop_replicate]);have co:i.length=d.length+1:=(by rw[J];simp;omega);have S:aS i:=(by rw[J];exact aS.append.2 ⟨c2,aS.m0 _⟩);have Q:ag i=ag d*2^a:=(by rw[J,nI,rD,c1];omega);dsimp only;rw[<-O];obtain⟨g,bl⟩:∃g,d.length+1=g+(b+2):=⟨d.length+1-(b+2),U⟩;have ab:aw (ax i-ax s)=((g:Nat):Int):=(by simp only[a7];rw[bp U U];omega);refine ae.bs (y:=g) (by rw[ab];exact gT U) ?_;have C:ag (i.drop g)<ag f*2^a:=(by have h:=oI i g U;have w:=eB (S.take g);rw[Q] at h;have x:ag d*2^a<aQ d.length*2^a:=Int.mul_lt_mul_of_pos_right (gE l) D;have H:aQ d.length=aQ g*aQ (b+1):=(by rw[<-vM];congr 1;omega);have v:aQ g*ag (i.drop g)<aQ g*(aQ (b+1)*2^a):=(by rw[<-Int.mul_assoc,<-H];omega);have z:=Int.lt_of_mul_lt_mul_left v (Int.le_of_lt (fb g));have d5:aQ (b+1)*2^a<=aQ (b+1)*2147483648:=Int.mul_le_mul_of_nonneg_left (vr T) (Int.le_of_lt (fb _));omega);refine ae.aW (P:=λX=>∃c e,X=(c,e,())/\c.length=g/\aS c/\e.length=d.length+1/\aS e/\ag e+ag f*2^a*ag c=ag d*2^a/\ag e<ag f*2^a) (Tr bq M V cv ce U S Q co bl U C λc e h w x H v z=>⟨c,e,rfl,h,w,x,H,v,z⟩) ?_;rintro _ ⟨c,e,rfl,ar,ds,el,G,v,z⟩;have ad:ax s=((b+2:Nat):Int):=(by simp only[a7];omega);dsimp only;rw[ad];refine ae.bs (Cr U) ?_;have ci:=eB G;have cs:ag (e.take (b+2))=ag e:=by
  have h:=oI e (b+2) U;have w:=eB (G.drop (b+2));have x:=eB (G.take (b+2));rcases iB 0 (ag (e.drop (b+2))) with j|j
  ·exfalso;have:=ke (U:1<=ag (e.drop (b+2))) (eR (fb (b+2)));omega
  ·rw[(U:ag (e.drop (b+2))=0)] at h;omega
 have L:ag e=2^a*(ag d-ag f*ag c):=(by have d3:ag f*2^a*ag c=2^a*(ag f*ag c):=(by grind);have d4:2^a*(ag d-ag f*ag c)=2^a*ag d-2^a*(ag f*ag c):=Int.mul_sub ..;rw[il (ag d)] at v;omega);have a0:0<=ag d-ag f*ag c:=by
  rcases iB (ag d-ag f*ag c) 0 with j|j
  ·have:=Int.mul_neg_of_pos_of_neg D j;omega
  ·exact j
 have a3:ag d-ag f*ag c<ag f:=(by have:2^a*(ag d-ag f*ag c)<2^a*ag f:=(by rw[<-L,Int.mul_comm (2^a)];exact z);exact Int.lt_of_mul_lt_mul_left this (Int.le_of_lt D));have a4:ag e/2^a=ag d-ag f*ag c:=(by rw[L];exact Int.mul_ediv_cancel_left _ U);obtain⟨an,f2⟩:=FM (A:=ag d) (B:=ag f) (q:=ag c) (r:=ag d-ag f*ag c) I U a0 a3;refine ae.bs (mY ((G.take _).drop _) (by simp;omega)) ?_;have am:gX (List.drop 0 (e.take (b+2)))=b0 (ag e).toNat:=(by rw[List.drop_zero,gX,cs]);dsimp only;rw[am];refine ae.bs (DP (jz _) (mE _) ?_ U) ?_
 ·have:=qN (n:=(ag e).toNat) (k:=b+2) U;omega
 dsimp only;refine ae.bs (mY ds U) (ae.af.2 ?_);show(gX c,_,())=_;rw[xn ci,a4,an,f2,gX]
theorem qO (a:Nat):b0 (a:Int).toNat=b0 a:=by rw[dc]
theorem TH (c:0<a):b0 a≠[]:=λb=>by have:=DS.1 b;omega
theorem nm {n k:Nat} (a:aC n<=32*k):(b0 n).length<=k:=by refine qN ?_;have:=dF.1 a;rw[oO,<-kS];omega
theorem Wp (i:0<a) (j:c*c<=h):c<=(a+h/a)/2:=by
 rw[yO aa];rcases bb (c*2) a with e|e
 ·exact dn (o6 e) (Nat.le_add_right _ _)
 ·have k:c*2-a<=h/a:=by
   rw[yO i];obtain⟨b,f⟩:∃b,c*2=a+b:=⟨c*2-a,U⟩;rw[f,nS];have l:4*(c*c)=(a+b)*(a+b):=(by rw[<-f];grind);have m:(a+b)*(a+b)=a*a+2*(b*a)+b*b:=(by grind);rcases Nat.le_total a b with g|g
   ·obtain⟨d,rfl⟩:∃d,b=a+d:=⟨b-a,U⟩;have:(a+d)*(a+d)=a*a+2*(a*d)+d*d:=(by grind);have:(a+d)*a=a*a+a*d:=(by grind);omega
   ·obtain⟨d,rfl⟩:∃d,a=b+d:=⟨a-b,U⟩;have:(b+d)*(b+d)=b*b+2*(b*d)+d*d:=(by grind);have:b*(b+d)=b*b+b*d:=(by grind);omega
  omega
theorem Wq (d:0<a) (e:a<=(a+c/a)/2):a*a<=c:=by have b:a<=c/a:=U;rwa[yO d] at b
theorem um:eO b e>=0↔e<=b:=by
 unfold eO;split
 ·omega
 ·split<;>omega
theorem ZV (m:aC c<=2000000):zW (b0 c,())=some (b0 (ef c),()):=by
 unfold zW;refine ae.eq_iff.1 ?_;dsimp only;rw[pE,bu];refine ae.ite (λe=>?_) λe=>?_
 ·have:=DS.1 e;subst this;exact ae.af.2 rfl
 have v:0<c:=by
  rcases g7 c with d|d
  ·subst d;exact absurd rfl e
  ·exact d
 have x:(b0 c).length<=62500:=nm U;obtain⟨h,r⟩:=xG c;have z:0<ef c:=by
  rcases g7 (ef c) with d|d
  ·rw[d] at r;omega
  ·exact d
 refine ae.bs (EI (jz c) (mE c) U) ?_;rw[jW,dc];have aj:h3 IntKind.i64 (aZ (aC c:Int)) 2=some (((aC c+1)/2:Nat):Int):=(by unfold h3;rw[bA U,if_pos aa,yJ U,wrap64 U U];simp);refine ae.bs aj ?_;refine ae.bs (CC (a:=[1]) (aS.cons.2 ⟨aa,aS.nil⟩) ac U) ?_;have i:(ag [1]*2^((aC c+1)/2)).toNat=2^((aC c+1)/2):=(by rw[show ag [1]=1 from by simp[ag],Int.one_mul,<-kS,dc]);rw[i];refine ae.aW (P:=λq=>q=(b0 (ef c),())) ?_ (by rintro _ rfl;exact ae.af.2 rfl);refine ae.loop (λg=>∃b,g=(b0 b,())/\ef c<=b/\aC b<=3000000) (λg=>(ag g.1).toNat) ⟨_,rfl,?_,?_⟩ ?_
 ·refine Gb h ?_;have k:=dF.1 (aY (aC c));have l:2^aC c<=2^((aC c+1)/2)*2^((aC c+1)/2):=by
   rw[<-jq];exact o7 aa U
  have t:=jN (Nat.le_add_right (2^((aC c+1)/2)) 1) (Nat.le_add_right (2^((aC c+1)/2)) 1);omega
 ·rw[dF];exact B1 _ 3000000 U
 ·rintro _ ⟨b,rfl,D,s⟩;have f:0<b:=U;have B:(b0 b).length<=93750:=nm U;dsimp only;refine ae.bs (Is (jz c) (jz b) (mE c) (mE b) U U (TH f)) ?_;rw[jW,jW,<-Int.natCast_ediv,qO];dsimp only;have y:(b0 (c/b)).length<=62500:=by
   refine nm ?_;have:c/b<=c:=v8 _ _;have k:=dF.1 m;have:aC (c/b)<=2000000:=dF.2 U;omega
  refine ae.bs (FG (jz b) (jz (c/b)) U U) ?_;rw[jW,jW,<-Int.natCast_add,qO];dsimp only;have w:aC (b+c/b)<=3000001:=(by refine Sk 3000000 s ?_;have l:=kG (Nat.div_le_self c b);omega);have A:(b0 (b+c/b)).length<=93751:=nm U;refine ae.bs (DP (n:=1) (jz _) (mE _) U U) ?_;have j:(ag (b0 (b+c/b))/2^1).toNat=(b+c/b)/2:=(by rw[jW,show(2:Int)^1=((2:Nat):Int) from rfl,<-Int.natCast_ediv];rfl);rw[j];dsimp only;have p:aC ((b+c/b)/2)<=3000000:=(by have:=wk (b+c/b) 1;rw[Nat.pow_one] at this;omega);have C:(b0 ((b+c/b)/2)).length<=93750:=nm U;refine ae.bs (zj (jz _) (jz b) (mE _) (mE b) U U) ?_;rw[jW,jW];dsimp only;rw[bu];refine ae.ite (λd=>?_) λd=>?_
  ·refine ae.af.2 ?_;have o:b<=(b+c/b)/2:=(by have:=um.1 d;omega);have:=Wq f o;rw[U9 this (by
    have u:=jN (U:ef c+1<=b+1) (U:ef c+1<=b+1);omega)]
  ·refine ae.af.2 ⟨⟨(b+c/b)/2,rfl,Wp f h,p⟩,?_⟩;show(ag (b0 ((b+c/b)/2))).toNat<(b:Int).toNat;rw[jW,dc,dc];have:=mt um.2 d;omega
def yF (a:nL):Prop:=aS a.2.1/\dQ a.2.1/\a.2.1.length<=100000
theorem gP {z:Int} (a:aC z.natAbs<=3000000):yF (aL z):=⟨kI z,A1 z,nm U⟩
theorem mX (a:aS d) (c:dQ d) (e:d.length<=1000000):gR (d,())=some (d,()):=by have b:=dQ.eq a c;rw[mY a U];show some (b0 (ag d).toNat,())=_;rw[<-b]
theorem ph {neg:Bool} {x:Int} (a:0<=x) (b:(b0 x.toNat).length<=100000000):jV (neg,b0 x.toNat,())=some (aL (if neg then-x else x),()):=by rw[ue (jz _) b];unfold fm;simp only[xn a]
theorem TG {x y:Nat} {k:Nat} (a:(b0 x).length<=k) (b:(b0 y).length<=k):(b0 (x+y)).length<=k+1:=by refine qN ?_;have c:=II x;have d:=II y;have e:=nA a;have f:=nA b;have g:=fb k;rw[g6];omega
theorem Gv {l:ab1} (d:aS l) (c:l.length<=a) (g:b<=ag l):(b0 b.toNat).length<=a:=by refine qN ?_;have e:=gE d;have f:=nA c;have:=fb a;omega
theorem Hi {a b:nL} (t:yF a) (u:yF b):qC (a,b,())=some (aL (fm a+fm b),()):=by
 obtain⟨i,a,_⟩:=a;obtain⟨h,b,_⟩:=b;obtain⟨c,j,r⟩:=t;obtain⟨d,k,s⟩:=u;dsimp only at c j r d k s;have y:=eB c;have z:=eB d;have ar:=gE c;have A:=gE d;have B:=nA (m:=a.length) (n:=100000) r;have C:=nA (m:=b.length) (n:=100000) s;have D:=fb 100000;have x:∀e:Int,e<=ag a+ag b->(b0 e.toNat).length<=100000001:=λe v=>(by have:(b0 e.toNat).length<=100001:=(by refine qN ?_;rw[show(100001:Nat)=100000+1 from rfl,g6];generalize aQ 100000=w at*;omega);omega);have q:∀e:Int,e<=ag a+ag b->(b0 e.toNat).length<=100000000:=λe v=>(by have:(b0 e.toNat).length<=100001:=(by refine qN ?_;rw[show(100001:Nat)=100000+1 from rfl,g6];generalize aQ 100000=w at*;omega);omega);unfold qC;dsimp only;refine au (mX c j U) (au (mX d k U) ?_);dsimp only;cases f:(i==h) with
 |true=>
  have f:i=h:=(by simpa using f);subst f;refine au (FG c d U U) (au (ph U (q _ U)) ?_);dsimp only;congr 3;unfold fm;cases i<;>simp<;>omega
 |false=>
  have f:i=!h:=(by cases i<;>cases h<;>simp at f|-);refine au (zj c d j k U U) ?_;dsimp only;rw[bu];split
  ·rename_i l;have p:ag b<=ag a:=um.1 l;have o:b.length<=a.length:=by
    rcases bb a.length b.length with g|g
    ·have:=p1 c d k g;omega
    ·exact g
   refine au (Ke c d U o p) (au (ph U (q _ U)) ?_);dsimp only;congr 3;unfold fm;subst f;cases h<;>simp<;>omega
  ·rename_i l;have p:ag a<ag b:=Int.not_le.1 (mt um.2 l);have o:a.length<=b.length:=by
    rcases bb b.length a.length with g|g
    ·have:=p1 d c j g;omega
    ·exact g
   refine au (Ke d c U o (Int.le_of_lt p)) (au (ph U (q _ U)) ?_);dsimp only;congr 3;unfold fm;subst f;cases h<;>simp<;>omega
theorem C0 {x y:Int} (a:aC x.natAbs<=3000000) (b:aC y.natAbs<=3000000):qC (aL x,aL y,())=some (aL (x+y),()):=by rw[Hi (gP a) (gP b),mZ,mZ]
theorem aaP {x y:Int} (d:aC x.natAbs<=3000000) (e:aC y.natAbs<=3000000):zV (aL x,aL y,())=some (aL (x-y),()):=by unfold zV;have a:yF ((!(aL y).1,(aL y).2):nL):=⟨kI y,A1 y,(gP e).2.2⟩;refine au (Hi (gP d) a) ?_;rw[mZ];have b:fm ((!(aL y).1,(aL y).2):nL)=-y:=(by have:=CG (aL y).1 (aL y).2.1;have c:=mZ y;exact this.trans (congrArg _ c));rw[b];rfl
theorem Kr {x y:Int} (g:aC x.natAbs<=3000000) (h:aC y.natAbs<=3000000):wS (aL x,aL y,())=some (aL (x*y),()):=by
 unfold wS;dsimp only;obtain⟨d,i,l⟩:=gP g;obtain⟨e,j,m⟩:=gP h;refine au (mX d i U) (au (mX e j U) ?_);dsimp only;refine au (aaY d e U U) ?_;rw[ie,ie,<-Int.natCast_mul,qO];dsimp only;have k:(b0 (x.natAbs*y.natAbs)).length<=100000000:=(by have:(b0 (x.natAbs*y.natAbs)).length<=200000:=(by refine nm ?_;have:=qu g h;omega);omega);have f:=ph (neg:=!((aL x).1==(aL y).1)) (x:=((x.natAbs*y.natAbs:Nat):Int)) U (by rw[qO];exact k);rw[qO] at f;refine au f ?_;dsimp only;congr 3;show(if(!(decide (x<0)==decide (y<0)))=true then _ else _)=_;rw[Int.natCast_mul];rcases Int.lt_or_le x 0 with b|b<;>rcases Int.lt_or_le y 0 with c|c
 ·rw[az b,az c];have aj:(x.natAbs:Int)=-x:=U;have a:(y.natAbs:Int)=-y:=U;rw[aj,a];simp<;>grind
 ·rw[az b,ay (U:¬y<0)];have aj:(x.natAbs:Int)=-x:=U;have a:(y.natAbs:Int)=y:=U;rw[aj,a];simp<;>grind
 ·rw[az c,ay (U:¬x<0)];have aj:(x.natAbs:Int)=x:=U;have a:(y.natAbs:Int)=-y:=U;rw[aj,a];simp<;>grind
 ·rw[ay (U:¬y<0),ay (U:¬x<0)];have aj:(x.natAbs:Int)=x:=U;have a:(y.natAbs:Int)=y:=U;rw[aj,a];simp
theorem H9 {x y:Int} (i:aC x.natAbs<=900000) (l:aC y.natAbs<=900000):wR (aL x,aL y,())=some (eO x y,()):=by
 obtain⟨d,e,m⟩:=gP (z:=x) U;obtain⟨f,g,n⟩:=gP (z:=y) U;unfold wR;refine au (pX (h0 U)) (au (pX (h0 U)) ?_);dsimp only;rw[bu,bu];have a:∀b:Int,b<0/\eQ b=-1\/b=0/\eQ b=0\/0<b/\eQ b=1:=λb=>by
  unfold eQ;split
  ·omega
  ·split<;>omega
 split
 ·rename_i o;unfold eO;rw[if_pos (by have:=a x;have:=a y;omega)]
 split
 ·rename_i j k;unfold eO;rw[if_neg (by have:=a x;have:=a y;omega),if_pos (by have:=a x;have:=a y;omega)]
 ·rename_i j k;have q:eQ x=eQ y:=U;refine au (mX d e U) (au (mX f g U) ?_);dsimp only;refine au (zj d f e g U U) ?_;rw[ie,ie];dsimp only;have i:=a x;have l:=a y;have:eQ x*eO (x.natAbs:Int) (y.natAbs:Int)=eO x y:=by
   rcases i with⟨h,c⟩|⟨h,c⟩|⟨h,c⟩<;>rw[c]
   ·unfold eO;split
    ·rw[if_neg U,if_pos U];rfl
    ·split
     ·rw[if_pos U];rfl
     ·rw[if_neg U,if_neg U];rfl
   ·rw[rO];unfold eO;rw[if_neg U,if_neg U]
   ·unfold eO;rw[Int.one_mul];split
    ·rw[if_pos U]
    ·split
     ·rw[if_neg U,if_pos U]
     ·rw[if_neg U,if_neg U]
  rw[this];have p:-1<=eO x y/\eO x y<=1:=by
   unfold eO;split
   ·omega
   ·split<;>omega
  rw[bp U U]
theorem Ku (b:Int) (a:Nat):(b.natAbs:Int)*2^a=((b.natAbs*2^a:Nat):Int):=by simp
theorem y9 {m n:Nat}:aC (m*2^n)<=aC m+n:=by
 rcases g7 m with a|a
 ·subst a;simp[Sm]
 ·rw[my a];exact aY _
theorem aap (j:aC b.natAbs<=1900000) (i:a<=1048576):pt (aL b,(a:Int),())=some (aL (b*2^a),0,()):=by
 obtain⟨c,e,g⟩:=gP (z:=b) U;unfold pt;dsimp only;rw[ay (U:¬((a:Int)< -1048576)),ay (U:¬((a:Int)>1048576))];refine au rfl (au (mX c e U) ?_);dsimp only;rw[az (U:(a:Int)>=0)];refine au (CC c U U) ?_;rw[ie,Ku];have h:(b0 (b.natAbs*2^a)).length<=100000:=nm (by have:=y9 (m:=b.natAbs) (n:=a);omega);have f:=ph (neg:=(aL b).1) (x:=((b.natAbs*2^a:Nat):Int)) U (by rw[qO];omega);refine au f ?_;dsimp only;congr 3;show(if decide (b<0)=true then _ else _)=_;rw[<-Ku];by_cases d:b<0
 ·rw[if_pos (az d),<-Int.neg_mul];congr 1;omega
 ·rw[if_neg (by simpa using d)];congr 1;omega
theorem Kx {m:Int} (a:0<b) (d:0<=m):-m/b=if m %b=0 then-(m/b) else-(m/b+1):=by
 have e:=ik m b;have f:=oR m (U:b≠0);have g:=qa m a;split
 ·rename_i c;refine(FM (A:=-m) (B:=b) (q:=-(m/b)) (r:=0) a ?_ (qb _) a).1;rw[Int.mul_neg];omega
 ·rename_i c;refine(FM (A:=-m) (B:=b) (q:=-(m/b+1)) (r:=b-m %b) a ?_ U U).1;rw[Int.mul_neg,Int.mul_add,Int.mul_one];omega
theorem aao (w:aC b.natAbs<=1900000) (u:a<=1048576) (v:0<a):pt (aL b,-(a:Int),())=some (aL (b/2^a),0,()):=by
 obtain⟨f,i,n⟩:=gP (z:=b) U;have q:=jG a;unfold pt;dsimp only;rw[ay (U:¬(-(a:Int)< -1048576)),ay (U:¬(-(a:Int)>1048576))];refine au rfl (au (mX f i U) ?_);dsimp only;rw[ay (U:¬(-(a:Int)>=0))];have aj:aw (0- -(a:Int))=(a:Int):=(by rw[bp U U];omega);rw[aj];refine au (DP f i U U) ?_;rw[ie];have r:0<=(b.natAbs:Int)/2^a:=Int.ediv_nonneg U U;have h:(b.natAbs:Int)/2^a<=b.natAbs:=Int.ediv_le_self _ U;have g:∀e:Int,e<=b.natAbs->(b0 e.toNat).length<=100000:=λe s=>Gv (l:=(aL b).2.1) f n (by rw[ie];exact s);have t:(b0 ((b.natAbs:Int)/2^a+1).toNat).length<=100001:=(by have p:=TG (x:=((b.natAbs:Int)/2^a).toNat) (y:=1) (k:=100000) (g _ h) aa;have o:((b.natAbs:Int)/2^a+1).toNat=((b.natAbs:Int)/2^a).toNat+1:=U;rw[o];exact p);dsimp only;refine au (y:=(b0 (if b<0/\(b.natAbs:Int) %2^a≠0 then(b.natAbs:Int)/2^a+1 else(b.natAbs:Int)/2^a).toNat,(false,([],())),())) ?_ ?_
 ·refine au (y:=(decide (b<0/\(b.natAbs:Int) %2^a≠0),(false,([],())),())) ?_ ?_
  ·show(bif decide (b<0)==true then _ else _)=_;by_cases c:b<0
   ·simp[c]
   ·simp[c]
  ·dsimp only;by_cases c:b<0/\(b.natAbs:Int) %2^a≠0
   ·rw[az c,if_pos c];refine au (FG (jz _) (aS.cons.2 ⟨aa,aS.nil⟩) (by have:=g _ h;omega) ac) ?_;rw[xn r,show ag [1]=1 from by simp[ag]]
   ·rw[ay c,if_neg c];rfl
 ·dsimp only;refine au (ph ?_ ?_) ?_
  ·split<;>omega
  ·split
   ·omega
   ·have:=g _ h;omega
  ·dsimp only;congr 3;show(if decide (b<0)=true then _ else _)=_;by_cases c:b<0
   ·rw[if_pos (az c)];have j:=Kx (m:=b.natAbs) q U;rw[(U:-(b.natAbs:Int)=b)] at j;rw[j];by_cases d:(b.natAbs:Int) %2^a=0
    ·rw[if_pos d,if_neg (by simp[d])]
    ·rw[if_neg d,if_pos ⟨c,d⟩]
   ·rw[if_neg (by simpa using c),if_neg (by simp[c])];congr 1;omega
theorem Tu {x y:Int} (v:aC x.natAbs<=1900000) (A:aC y.natAbs<=1900000) (w:0<=x) (n:y≠0):zR (aL x,aL y,())=some (aL (x/y),aL (x %y),0,()):=by
 obtain⟨c,f,i⟩:=gP (z:=x) U;obtain⟨d,g,j⟩:=gP (z:=y) U;unfold zR;dsimp only;refine au (mX d g U) ?_;dsimp only;have h:(aL y).2.1≠[]:=λk=>n (xm.1 k);rw[pE,ay h];refine au (mX c f U) ?_;dsimp only;refine au (Is c d f g U U h) ?_;rw[ie,ie];dsimp only;have q:(aL x).1=false:=ay U;have r:0<=(x.natAbs:Int)/(y.natAbs:Int):=Int.ediv_nonneg U U;have s:(x.natAbs:Int)/(y.natAbs:Int)<=x.natAbs:=Int.ediv_le_self _ U;have t:0<=(x.natAbs:Int) %(y.natAbs:Int):=Int.emod_nonneg _ U;have u:(x.natAbs:Int) %(y.natAbs:Int)<(y.natAbs:Int):=Int.emod_lt_of_pos _ U;have o:∀a:Int,a<=x.natAbs->(b0 a.toNat).length<=100000:=λa e=>Gv (l:=(aL x).2.1) c i (by rw[ie];exact e);have p:∀a:Int,a<=y.natAbs->(b0 a.toNat).length<=100000:=λa e=>Gv (l:=(aL y).2.1) d j (by rw[ie];exact e);rw[q];refine au rfl ?_;dsimp only;refine au (ph r (by have:=o _ s;omega)) (au (ph t (by have:=p _ (Int.le_of_lt u);omega)) ?_);dsimp only;have aj:(x.natAbs:Int)=x:=U;rw[aj];have m:x %(y.natAbs:Int)=x %y:=by
  rcases iB y 0 with b|b
  ·rw[(U:(y.natAbs:Int)=-y),Int.emod_neg]
  ·rw[(U:(y.natAbs:Int)=y)]
 rw[m];congr 3;show(if(!(false==decide (y<0)))=true then _ else _)=_;rcases iB y 0 with b|b
 ·rw[az b,(U:(y.natAbs:Int)=-y),Int.ediv_neg];simp
 ·rw[ay (U:¬y<0),(U:(y.natAbs:Int)=y)];simp
theorem aaD {x:Int} (f:aC x.natAbs<=900000) (i:0<=x):zU (aL x,())=some (aL (ef x.toNat),0,()):=by
 obtain⟨c,d,h⟩:=gP (z:=x) U;unfold zU;refine au (pX (h0 U)) ?_;dsimp only;rw[ay (by unfold eQ;split;omega;split<;>omega)];refine au (mX c d U) ?_;have e:(aL x).2.1=b0 x.toNat:=(by show b0 x.natAbs=_;congr 1;omega);dsimp only;rw[e];refine au (ZV (by rw[(U:x.toNat=x.natAbs)];omega)) ?_;dsimp only;have l:ef x.toNat<=x.toNat:=by
  obtain⟨g,m⟩:=xG x.toNat;rcases g7 (ef x.toNat) with a|a
  ·omega
  ·exact dn (Nat.le_mul_of_pos_left _ a) g
 have b:=ph (neg:=false) (x:=(ef x.toNat:Int)) U (by
  rw[qO];have:=nm (n:=ef x.toNat) (k:=100000) (by
   rw[dF];have:=dF.1 f;have j:=LC 900000 (32*100000) aa;omega)
  omega)
 rw[qO] at b;refine au b ?_;rfl
theorem Ec {n:Int} (d:-9223372036854775808<=n) (e:n<=9223372036854775807):uy (n,())=some (aL n,()):=by
 unfold uy;dsimp only;obtain⟨a,f,c,g⟩:∃a:Int,a=n.natAbs/\0<=a/\a<=9223372036854775808:=⟨_,rfl,U,U⟩;refine au (y:=(a,(false,([],())),())) ?_ ?_
 ·rw[bu];split
  ·rename_i b;rw[ly n,ly];congr 2;omega
  ·rename_i b;rw[ly];congr 2;omega
 dsimp only;rw[mT,Option.bind_some,pG c U,kv (x:=a/4294967296) U U];refine au (ue (aS.cons.2 ⟨⟨U,U⟩,aS.cons.2 ⟨⟨U,U⟩,aS.nil⟩⟩) ac) ?_;dsimp only;congr 2;congr 1;unfold fm;simp only[ag];by_cases b:n<0
 ·simp[b];omega
 ·simp[b];omega
theorem U6 (e:aS d) (s:d.length<=2) {f:bt->Prop} (l:f (ag d,())):ae (loop (σ:=mu) (ρ:=bt) (λ(j,b,_)=>
 bif decide (b<ax d) then
 (aA d b).bind λp=>
 (gW IntKind.u64 (aR p) (aw (32*b))).bind λq=>
 some (.inl (eP IntKind.u64 j q,aZ b,())) else
 some (.inr (j,()))) (0,0,())) f:=by
 refine ae.steps d.length (λa o=>o=(ag (d.take a),(a:Int),())) rfl ?_ ?_
 ·rintro a _ c rfl;have i:=e.get c;simp only[az (show(a:Int)<ax d by simp only[a7];omega),cond_true,bX c,aG];have k:=eB (e.take a);have g:=gE (e.take a);rw[eC,gm U,oO] at g;have aj:aw (32*(a:Int))=((32*a:Nat):Int):=(by rw[bp U U];simp);have m:(2:Int)^(32*a)<=4294967296:=by
   rcases(U:a=0\/a=1) with rfl|rfl<;>decide
  have n:=jG (32*a);have r:d[a]*2^(32*a)<4294967296*4294967296:=(by have:=ke m i.1;omega);have h:0<=d[a]*2^(32*a):=mi i.1 (eR n);rw[aj,dv (x:=d[a]) U U,mb U U,aG,dc,rM h U,lq (32*a) k g h U U (Int.mul_emod_left _ _),bA U];refine ae.af.2 ?_;rw[hF c,oO,il (2^(32*a))]
 ·rintro _ rfl;simp only[ay (show¬((d.length:Int)<ax d) by simp only[a7];omega),cond_false];rw[dK (aY _)];exact ae.af.2 l
theorem U7 {z:Int} (h:0<=z) (c:z<9223372036854775808):zS (aL z,())=some (z,true,()):=by have i:aC z.natAbs<=64:=dF.2 U;obtain⟨a,b,g⟩:=gP (z:=z) U;have d:(aL z).2.1.length<=2:=nm U;unfold zS;dsimp only;refine ae.eq_iff.1 ?_;refine ae.bs (mX a b U) ?_;dsimp only;rw[ay (show¬(ax (aL z).2.1>2) by simp only[a7];omega),cond_false];refine ae.aW (P:=λf=>f=(z,())) (U6 a d (by rw[ie];congr 1;omega)) ?_;rintro _ rfl;have e:(aL z).1=false:=ay U;dsimp only;rw[e];refine ae.bs (y:=.inr (z,true,())) ?_ (ae.af.2 rfl);refine au rfl ?_;dsimp only[cond_false];rw[az (show z<9223372036854775808 from c)];refine au rfl ?_;dsimp only[cond_true];rw[bp U U]
theorem Mg (q:aS d) (s:d.length<=100000000):n7 (d,())=some (gX d,()):=by
 unfold n7;refine ae.eq_iff.1 ?_;refine ae.aW (P:=λj=>∃a:Nat,j.1=(a:Int)/\a<=d.length/\(∀b,a<=b->(l:b<d.length)->d[b]=0)/\dQ (d.take a)) ?_ ?_
 ·refine ae.loop (λh=>∃a:Nat,h.1=(a:Int)/\a<=d.length/\(∀b,a<=b->(l:b<d.length)->d[b]=0)) (λh=>h.1.toNat) ⟨d.length,rfl,aY _,λb e f=>by omega⟩ ?_;rintro⟨_,_⟩ ⟨a,rfl,e,f⟩;rcases a with _|a
  ·refine ae.af.2 ⟨0,rfl,bN _,f,λm c=>by simp at c⟩
  ·have aj:aw (((a+1:Nat):Int)-1)=(a:Int):=(by rw[bp U U];omega);have n:decide (((a+1:Nat):Int)>0)=true:=az U;simp only[aj,n,beq_self_eq_true,cond_true,bX (show a<d.length from e),aG];by_cases i:d[a]=0
   ·rw[dT,az i];refine ae.af.2 ⟨⟨a,rfl,U,λb l p=>?_⟩,?_⟩
    ·rcases bb a b with k|k
     ·exact f b k p
     ·obtain rfl:b=a:=U;exact i
    ·show(a:Int).toNat<((a+1:Nat):Int).toNat;omega
   ·rw[dT,ay i];refine ae.af.2 ⟨a+1,rfl,e,f,λm c=>?_⟩;rw[jo,be e] at c;have c:(d.take a++[d[a]]).getLast?=some m:=c;rw[List.getLast?_concat] at c;cases c;exact i
 ·rintro⟨_,_⟩ ⟨a,rfl,e,f,o⟩;dsimp only;refine ae.aW (P:=λj=>j=(d.take a,())) ?_ ?_
  ·refine ae.steps a (λg h=>h=((g:Int),d.take g,())) rfl ?_ ?_
   ·rintro g _ r rfl;simp only[az (U:(g:Int)<(a:Int)),cond_true,bX (U:g<d.length),aG];rw[dZ (by simp;omega),bA U];refine ae.af.2 ?_;show _=(_,d.take (g+1),());rw[jo,be U];rfl
   ·rintro _ rfl;simp only[ay (U:¬((a:Int)<(a:Int))),cond_false];exact ae.af.2 rfl
  ·rintro _ rfl;refine ae.af.2 ?_;show(d.take a,())=_;rw[M2 q e f o]
theorem ye (a:aS d) (e:d.length<=100000000):lT (g,d,())=some (aL (fm (g,d,())),()):=by
 unfold lT;refine au (Mg a e) ?_;have b:=IF (neg:=g) (MZ d) (M0 d);have c:fm (g,gX d,())=fm (g,d,()):=(by unfold fm;simp only[M1 a]);rw[<-c,<-b];dsimp only;cases g
 ·simp
 ·simp only[beq_self_eq_true,cond_true,Bool.true_and];congr 3;rw[decide_eq_decide];simp only[a7];rw[<-List.length_pos_iff];omega
theorem yf (a:aS d) (c:d.length<=100000000) (e:ag d=b):lT (g,d,())=some (aL (if g then-b else b),()):=by rw[ye a c];unfold fm;simp only[e]
theorem vx {l:ab1} (a:aS l) (c:dQ l) (d:l.length<=1000000):n7 (l,())=some (l,()):=by have b:=dQ.eq a c;rw[Mg a U];show some (b0 (ag l).toNat,())=_;rw[<-b]
theorem L7 {a:nL} (b:aS a.2.1) (c:a.2.1.length<=100000000):qG (a,())=some (aL (fm a),()):=by unfold qG;exact au (ye b c) rfl
theorem Cj (a:aC b.natAbs<=3000000):qG (aL b,())=some (aL b,()):=by rw[L7 (kI b) (by have:=(gP a).2.2;omega),mZ]
theorem ZP (a:aC b.natAbs<=3000000):Au (aL b,())=some (aL (-b),()):=by unfold Au;refine au (ye (kI b) (by have:=(gP a).2.2;omega)) ?_;rw[CG];show some (aL (-fm (aL b)),())=_;rw[mZ]
theorem FN (a:aC b.natAbs<=3000000):uG (aL b,())=some (aL b.natAbs,()):=by unfold uG;refine au (ye (kI b) (by have:=(gP a).2.2;omega)) ?_;rw[Ni (kI b) (aL b).1];show some (aL ((fm (aL b)).natAbs:Int),())=_;rw[mZ]
theorem yi {z:Int} (a:aC z.natAbs<=3000000):qH (aL z,())=some (eQ z,()):=by
 unfold qH;refine au (Cj a) ?_;simp only[pE,bu,xm];unfold eQ;split
 ·rfl
 ·show(bif decide (z<0) then _ else _)=_;rw[bu];split<;>rfl
theorem FP {z:Int} (d:aC z.natAbs<=3000000):w4 (aL z,())=some ((aC z.natAbs:Int),()):=by obtain⟨b,c,e⟩:=gP d;have a:=EI b c U;rw[ie] at a;unfold uA at a;unfold w4;refine au (vx b c U) ?_;dsimp only at a|-;simp only[Int.mul_comm 32];exact a
theorem Mh {z:Int} (v:aC z.natAbs<=900000) (s:z≠0):pu (aL z,())=some ((bC z.natAbs:Int),()):=by
 obtain⟨i,k,r⟩:=gP (z:=z) U;unfold pu;refine au (vx i k U) ?_;have u:=ie z;dsimp only;generalize(aL z).2.1=b at*;have o:z.natAbs=(ag b).toNat:=U;rw[o];refine ae.eq_iff.1 (ae.aW (P:=λg=>match g with|.inl _=>False|.inr p=>p=((bC (ag b).toNat:Int),())) ?_ ?_)
 ·refine ae.steps b.length (λa q=>q=((a:Int),())/\ag (b.take a)=0) ⟨rfl,rfl⟩ ?_ ?_
  ·rintro a _ e ⟨rfl,d⟩;have j:=i.get e;simp only[az (show(a:Int)<ax b by simp only[a7];omega),cond_true,bX e,aG,dr];by_cases c:b[a]=0
   ·simp only[az c,gG,cond_false];refine ae.af.2 ⟨by rw[bA U],?_⟩;rw[hF e,c,d];simp
   ·simp only[ay c,hR,cond_true];have l:=Nb (x:=0) d e i c;rw[l];obtain⟨h,m⟩:=eY j.1;rw[m] at j c|-;have t:bC h<32:=hp (tx U) (dF.2 U);refine ae.of_eq (au (Na (n:=h) U U) rfl) ?_;show(aw (aw (32*(a:Int))+(bC h:Int)),())=_;rw[bp (x:=32*(a:Int)) U U,bp U U];congr 1
  ·rintro _ ⟨rfl,d⟩;exfalso;rw[dK (aY _)] at d;omega
 ·rintro(g|g) f
  ·exact f.elim
  ·have f:g=_:=f;rw[f];exact ae.af.2 rfl
theorem LQ {n:Nat} (c:n<=1000000000):∃b a:Nat,n=32*b+a/\a<32/\h3 IntKind.i64 (n:Int) 32=some (b:Int)/\gV (n:Int) 32=some (a:Int):=by
 refine⟨n/32,n %32,U,U,?_,?_⟩
 ·unfold h3;rw[if_pos aa,yJ U,wrap64 U U];simp
 ·unfold gV;rw[if_pos aa,yK U];simp
theorem Z5 {n:Nat} (C:aS d) (R:d.length<=10000000) (O:n<=100000000):ae (Ay (d,(n:Int),())) (λk=>∃b,k=(b,())/\aS b/\ag b=ag d*2^n/\b.length=n/32+d.length+1):=by
 unfold Ay;obtain⟨g,a,H,Q,F,G⟩:=LQ (n:=n) U;have m:=jG a;have B:=tg (p:=a) U;have A:(2:Int)^a<=2147483648:=vr U;dsimp only;refine ae.bs F (ae.bs (gT U) ?_);refine ae.aW (P:=λk=>∃c b,k=(c,b,())/\b.length=g+d.length/\aS b/\0<=c/\c<2^a/\ag b+aQ (g+d.length)*c=aQ g*(2^a*ag d)) ?_ ?_
 ·refine ae.steps d.length (λe J=>∃c b,J=(c,(e:Int),b,())/\b.length=g+e/\aS b/\0<=c/\c<2^a/\ag b+aQ (g+e)*c=aQ g*(2^a*ag (d.take e))) ⟨0,List.replicate g 0,rfl,ac,aS.m0 _,U,m,by simp[ag,rD]⟩ ?_ ?_
  ·rintro e _ o ⟨c,b,rfl,ar,j,h,l,i⟩;have v:=C.get o;simp only[az (show(e:Int)<ax d by simp only[a7];omega),cond_true,bX o,aG,G];have E:d[e]*2^a<4294967296*2^a:=vT v.2 m;have D:d[e]*2^a<=4294967295*2^a:=k1 U U;have t:0<=d[e]*2^a:=mi v.1 (eR m);obtain⟨f,u,K,L,M⟩:∃f,f=c+d[e]*2^a/\0<=f/\f<18446744073709551616/\f<4294967296*2^a:=⟨_,rfl,U,U,U⟩;have q:gW IntKind.u64 (aR d[e]) (a:Int)=some (d[e]*2^a):=by
    rw[dv (x:=d[e]) U U,mb U U,dc];congr 1;omega
   have r:eP IntKind.u64 c (d[e]*2^a)=f:=(by rw[lq a h l t U U (Int.mul_emod_left _ _),u]);have s:f/4294967296<2^a:=rL aa (by rw[il];omega);rw[q,aG,r,dZ (by simp;omega),mT,p4];refine ae.af.2 ⟨f/4294967296,b++[f %4294967296],by rw[bA U],by simp[ar];omega,j.snoc U U,U,s,?_⟩;rw[oH,ar,(U:g+(e+1)=(g+e)+1),g6,hF o];have y:=ik f 4294967296;rw[vM] at i|-;generalize f/4294967296=I at*;generalize f %4294967296=k at*;generalize(2:Int)^a=w at*;generalize d[e]=N at*;have z:k=c+N*w-4294967296*I:=U;clear y q r s u K L M E D t B A;subst z;grind
  ·rintro _ ⟨c,b,rfl,ar,j,h,l,i⟩;simp only[ay (show¬((d.length:Int)<ax d) by simp only[a7];omega),cond_false];rw[dK (aY _)] at i;exact ae.af.2 ⟨c,b,rfl,ar,j,h,l,i⟩
 ·rintro _ ⟨c,b,rfl,ar,j,h,l,i⟩;dsimp only;rw[kv h U,dZ (by simp;omega)];refine ae.af.2 ⟨b++[c],rfl,j.snoc h U,?_,by simp;omega⟩;rw[oH,ar,i,oO,H,Int.pow_add];grind
theorem ZC (h:aS d) (i:aS f) (p:dQ d) (q:dQ f) (u:d.length<=10000000) (v:f.length<=10000000):Ax (d,f,())=some (eO (ag d) (ag f),()):=by
 unfold Ax;refine ae.eq_iff.1 ?_;simp only[dr,a7];by_cases t:d.length=f.length
 ·rw[az (U:(d.length:Int)=f.length)];simp only[gG,cond_false];refine ae.aW (P:=λl=>match l with|.inl _=>ag d=ag f|.inr n=>n=(eO (ag d) (ag f),())) ?_ ?_
  ·refine ae.steps d.length (λb o=>o=(((d.length:Nat):Int)-1-b,())/\ag (d.drop (d.length-b))=ag (f.drop (d.length-b))) ⟨?_,?_⟩ ?_ ?_
   ·rw[bp U U];simp
   ·rw[oV U,oV U]
   ·rintro b _ r ⟨rfl,c⟩;obtain⟨a,s⟩:∃a,d.length=a+1+b:=⟨d.length-1-b,U⟩;have aj:((d.length:Nat):Int)-1-(b:Int)=(a:Int):=U;have j:a<d.length:=U;have k:a<f.length:=U;rw[(U:d.length-b=a+1)] at c;simp only[aj,az (U:(a:Int)>=0),cond_true,bX j,bX k,aG];by_cases m:d[a]=f[a]
    ·simp only[az m,gG,cond_false];refine ae.af.2 ⟨?_,?_⟩
     ·rw[bp U U];congr 1;omega
     ·rw[(U:d.length-(b+1)=a),kt j,kt k,m,c]
    ·simp only[ay m,hR,cond_true];rw[bu];refine ae.ite (λg=>?_) λg=>?_
     ·refine ae.af.2 ?_;show((-1:Int),())=_;unfold eO;rw[if_pos (CH h i j k c g)]
     ·refine ae.af.2 ?_;show((1:Int),())=_;have:=CH i h k j c.symm U;unfold eO;rw[if_neg U,if_pos this]
   ·rintro _ ⟨rfl,c⟩;have aj:¬(((d.length:Nat):Int)-1-(d.length:Int)>=0):=U;simp only[ay aj,cond_false];refine ae.af.2 ?_;simpa using c
  ·rintro(l|l) e
   ·refine ae.af.2 ?_;have e:ag d=ag f:=e;unfold eO;rw[e];simp
   ·have e:l=_:=e;rw[e];exact ae.af.2 rfl
 ·rw[ay (U:¬(d.length:Int)=f.length)];simp only[hR,cond_true];rw[bu];unfold eO;refine ae.ite (λg=>ae.af.2 ?_) λg=>ae.af.2 ?_
  ·rw[if_pos (p1 h i q U)]
  ·have:=p1 i h p U;rw[if_neg U,if_pos this]
theorem VA (k:aS d) (x:h<32) (w:c+a<d.length) (v:b=ag (d.drop c)):b/2^h/aQ a %4294967296=(d[c+a]+4294967296*d.getD (c+a+1) 0)/2^h %4294967296:=by
 have s:=jG h;have t:=tg (p:=h) U;have u:b/aQ a=(d[c+a]+4294967296*d.getD (c+a+1) 0)+4294967296*(4294967296*ag (d.drop (c+a+2))):=by
  have g:d.drop c=(d.drop c).take a++d.drop (c+a):=by
   conv=>lhs;rw[<-lG a (d.drop c)]
   rw[oU]
  have i:b=ag ((d.drop c).take a)+aQ a*ag (d.drop (c+a)):=by
   rw[v]
   conv=>lhs;rw[g]
   rw[nI,eC,kz,gm U]
  have o:=eB ((k.drop c).take a);have j:=gE ((k.drop c).take a);rw[eC,kz,gm U] at j;have q:ag (d.drop (c+a))=d[c+a]+4294967296*ag (d.drop (c+a+1)):=kt U;have r:ag (d.drop (c+a+1))=d.getD (c+a+1) 0+4294967296*ag (d.drop (c+a+2)):=by
   rcases bb (c+a+1) d.length with f|f
   ·rw[jY f];exact kt f
   ·rw[oc f,oV f,oV U];rfl
  rw[i,tL _ _ (by have:=fb a;omega),oQ o j,q,r];grind
 have g:b/2^h/aQ a=b/aQ a/2^h:=(by rw[rK (eR s),rK (eR (fb a)),il]);rw[g,u];generalize d[c+a]+4294967296*d.getD (c+a+1) 0=l;have i:∀e:Int,l+4294967296*(4294967296*e)=l+2^h*(4294967296*(2^(32-h)*e)):=λe=>(by generalize(2:Int)^h=m at*;generalize(2:Int)^(32-h)=n at*;rw[show(4294967296:Int)*(4294967296*e)=(m*n)*(4294967296*e) by rw[<-t]];grind);rw[i,tL _ _ U,vS]
theorem VJ (f:aS d) (o:c<32) (j:a<d.length):(decide (ag d %(aQ a*2^c)≠0))=(decide (ag (d.take a)≠0)||decide (d[a] %2^c≠0)):=by have l:=jG c;have m:=tg (p:=c) U;have n:=eB (f.take a);have g:=gE (f.take a);rw[eC,gm U] at g;have e:=J5 (x:=ag (d.take a)) (b:=aQ a) (y:=ag (d.drop a)) (P:=2^c) (P':=0) (fb a) ⟨n,g⟩ l;rw[<-oI d a U] at e;have k:ag (d.drop a) %2^c=d[a] %2^c:=(by rw[kt j,m,kx,vS]);rw[k] at e;by_cases h:ag (d.take a)=0<;>by_cases i:d[a] %2^c=0<;>simp[h,i,e]
theorem Me {n:Nat} (h:aS d) (a4:d.length<=10000000) (a3:n<=1000000000):ae (w6 (d,(n:Int),())) (λi=>∃e,i=(e,decide (ag d %2^n≠0),())/\aS e/\ag e=ag d/2^n/\e.length<=d.length):=by
 unfold w6;obtain⟨a,c,ab,J,w,Y⟩:=LQ (n:=n) U;have E:=jG c;have ap:=tg (p:=c) U;have am:(2:Int)^c<=2147483648:=vr U;have T:(2:Int)^n=aQ a*2^c:=(by rw[oO,ab,Int.pow_add]);have K:=eB h;dsimp only;refine ae.aW (P:=λi=>i=(decide (ag (d.take a)≠0),())) ?_ ?_
 ·have M:∀b,min a d.length=b->decide (ag (d.take a)≠0)=decide (ag (d.take b)≠0):=λb l=>by
   rcases Nat.le_total a d.length with f|f
   ·rw[gm f] at l;rw[l]
   ·rw[tV f] at l;rw[<-l,dK f,dK (aY _)]
  refine ae.steps (min a d.length) (λb s=>s=(decide (ag (d.take b)≠0),(b:Int),())) (by simp[ag]) ?_ ?_
  ·rintro b _ l rfl;have t:=h.get (n:=b) U;simp only[w,aG,az (U:(b:Int)<(a:Int)),beq_self_eq_true,cond_true,az (show(b:Int)<ax d by simp only[a7];omega),bX (U:b<d.length),bA (U:b<9223372036854775807),dr];have z:ag (d.take (b+1))=ag (d.take b)+aQ b*d[b]:=hF U;have an:=eB (h.take b);have C:=fb b;by_cases f:ag (d.take b)=0
   ·rw[ay (show¬(ag (d.take b)≠0) fromλo=>o f)];refine ae.af.2 ?_;show((!decide (d[b]=0)),_,())=_;congr 1;rw[z,f];by_cases k:d[b]=0
    ·simp[k]
    ·have:=oS C (U:0<d[b]);rw[ay k,az (U:(0:Int)+aQ b*d[b]≠0)];rfl
   ·rw[az (show ag (d.take b)≠0 from f)];refine ae.af.2 ?_;show(true,_,())=_;congr 1;have:=mi (eR C) t.1;rw[z,az (U:ag (d.take b)+aQ b*d[b]≠0)]
  ·rintro _ rfl;simp only[w,aG];by_cases f:min a d.length<a
   ·simp only[az (U:((min a d.length:Nat):Int)<(a:Int)),beq_self_eq_true,cond_true,ay (show¬(((min a d.length:Nat):Int)<ax d) by simp only[a7];omega),cond_false,aG];refine ae.af.2 ?_;rw[M _ rfl]
   ·simp only[ay (U:¬(((min a d.length:Nat):Int)<(a:Int))),show(false==true)=false from rfl,cond_false,aG];refine ae.af.2 ?_;rw[M _ rfl]
 rintro _ rfl;dsimp only;refine ae.bs Y (ae.bs w ?_);rw[T];rcases Nat.lt_or_ge a d.length with o|o
 ·obtain⟨g,v⟩:∃g,g=ag (d.drop a):=⟨_,rfl⟩;have F:0<=g:=(by rw[v];exact eB (h.drop a));have Z:ag d=ag (d.take a)+aQ a*g:=(by rw[v];exact oI d a U);have W:=eB (h.take a);have I:=gE (h.take a);rw[eC,gm U] at I;have V:ag d/(aQ a*2^c)=g/2^c:=by
   rw[<-rK (eR (fb a)),Z,tL _ _ (by have:=fb a;omega),oQ W I,qd]
  obtain⟨m,a0⟩:∃m,d.length=a+m:=⟨d.length-a,U⟩;have av:g<aQ m:=(by have:=gE (h.drop a);rw[kz,(U:d.length-a=m),<-v] at this;exact this);have S:=VJ h J o;refine ae.aW (P:=λi=>∃e,i=(decide (ag d %(aQ a*2^c)≠0),e,())/\e.length=m/\aS e/\ag e=g/2^c) ?_ ?_
  ·refine ae.steps m (λb s=>∃e,s=(if b=0 then decide (ag (d.take a)≠0) else decide (ag d %(aQ a*2^c)≠0),((a+b:Nat):Int),e,())/\e.length=b/\aS e/\ag e+aQ b*(g/2^c/aQ b)=g/2^c) ⟨[],rfl,rfl,aS.nil,by simp[ag,vN]⟩ ?_ ?_
   ·rintro b _ l ⟨e,rfl,ar,u,r⟩;have t:=h.get (n:=a+b) U;have L:=h.getD (a+b+1);obtain⟨j,q,N,ad⟩:∃j,j=d[a+b]+4294967296*d.getD (a+b+1) 0/\0<=j/\j<18446744073709551616:=⟨_,rfl,U,U⟩;have G:g/2^c/aQ b %4294967296=j/2^c %4294967296:=(by rw[q];exact VA h J U v);have X:0<=j/2^c:=Int.ediv_nonneg N (Int.le_of_lt E);have y:aZ ((a+b:Nat):Int)=((a+b+1:Nat):Int):=bA U;dsimp only;rw[bn (az (show((a+b:Nat):Int)<ax d by simp only[a7];omega))];refine ae.aW (P:=λi=>i=(decide (ag d %(aQ a*2^c)≠0),e++[j/2^c %4294967296],())) ?_ ?_
    ·refine ae.bs (bX U) ?_;refine ae.aW (P:=λi=>i=(j,e,())) ?_ ?_
     ·rw[y,bu];refine ae.ite (λf=>?_) λf=>?_
      ·have f:a+b+1<d.length:=(by simp only[a7] at f;omega);rw[bX f,aG,dv (x:=d[a+b+1]) (by have:=h.get f;omega) (by have:=h.get f;omega),mb aa aa];rw[jY f] at q L;have O:d[a+b+1]*2^(32:Int).toNat %18446744073709551616=4294967296*d[a+b+1]:=by
        rw[show(2:Int)^(32:Int).toNat=4294967296 from rfl];omega
       rw[aG,O,dv U U,lq 32 t.1 t.2 U U U U];refine ae.af.2 ?_;rw[<-q]
      ·have f:d.length<=a+b+1:=(by simp only[a7] at f;omega);rw[oc f] at q;rw[dv U U];refine ae.af.2 ?_;rw[q];simp
     ·rintro _ rfl;dsimp only;refine ae.aW (P:=λi=>i=(decide (ag d %(aQ a*2^c)≠0),e,())) ?_ ?_
      ·refine ae.bs w ?_;by_cases H:b=0
       ·subst H;have A:(((a+0:Nat):Int)==(a:Int))=true:=ac;rw[A];simp only[beq_self_eq_true,cond_true];refine ae.bs (bX U) ?_;rw[MC U U,aG,dc,Int.one_mul,rM U U,kv U U,Hr c (h.get (n:=a+0) U).1 (h.get (n:=a+0) U).2 U,dr,S];have Q:d[a+0]=d[a]:=rfl;rw[Q];by_cases k:d[a] %2^c=0
        ·rw[az k];refine ae.af.2 ?_;simp[k]
        ·rw[ay k];refine ae.af.2 ?_;simp[k]
       ·have A:(((a+b:Nat):Int)==(a:Int))=false:=by
         rw[dT];exact ay U
        rw[A];simp only[show(false==true)=false from rfl,cond_false];refine ae.af.2 ?_;rw[if_neg H]
      ·rintro _ rfl;dsimp only;rw[ry U U,Option.bind_some,Int.toNat_natCast,dZ (by simp;omega),p4];exact ae.af.2 rfl
    ·rintro _ rfl;dsimp only;refine ae.af.2 ⟨e++[j/2^c %4294967296],by rw[y,if_neg U];rfl,by simp[ar],u.snoc U U,?_⟩;rw[oH,ar,<-G,g6,Int.mul_comm 4294967296 (aQ b),<-Int.ediv_ediv_of_nonneg (Int.le_of_lt (fb b))];have D:=Int.emod_add_mul_ediv (g/2^c/aQ b) 4294967296;generalize g/2^c/aQ b %4294967296=i at*;generalize g/2^c/aQ b/4294967296=bd at*;rw[<-D] at r;clear G D q N ad X t L y;grind
   ·rintro _ ⟨e,rfl,ar,u,r⟩;dsimp only;rw[bm (ay (show¬(((a+m:Nat):Int)<ax d) by simp only[a7];omega)),if_neg U];refine ae.af.2 ⟨e,rfl,ar,u,?_⟩;have B:0<=g/2^c:=Int.ediv_nonneg F (Int.le_of_lt E);have R:g/2^c<=g:=Int.ediv_le_self _ F;rw[Int.ediv_eq_zero_of_lt B U] at r;simpa using r
  ·rintro _ ⟨e,rfl,ar,u,r⟩;exact ae.af.2 ⟨e,rfl,u,by rw[r,V],U⟩
 ·have B:=gE h;have R:=nA o;have z:aQ a*1<=aQ a*2^c:=ke U (eR (fb a));rw[oQ K U,rM K U,dK o];refine ae.aW (P:=λi=>i=(decide (ag d≠0),[],())) ?_ ?_
  ·refine ae.steps 0 (λb s=>s=(decide (ag d≠0),(a:Int),[],())) rfl (λb s l=>by omega) ?_;rintro _ rfl;dsimp only;rw[bm (ay (show¬((a:Int)<ax d) by simp only[a7];omega))];exact ae.af.2 rfl
  ·rintro _ rfl;exact ae.af.2 ⟨[],rfl,aS.nil,rfl,ac⟩
theorem Zz (s:aS d) (t:aS f) (F:d.length<=10000000) (G:f.length<=10000000):ae (Aw (d,f,())) (λh=>∃a,h=(a,())/\aS a/\ag a=ag d+ag f/\a.length<=d.length+f.length+1):=by
 unfold Aw;dsimp only;obtain⟨i,E⟩:∃i,i=max d.length f.length:=⟨_,rfl⟩;have u:(if ax f>ax d then ax f else ax d)=(i:Int):=(by simp only[a7];split<;>omega);rw[u];refine ae.aW (P:=λh=>∃c a,h=(c,a,())/\a.length=i/\aS a/\0<=c/\c<=1/\ag a+aQ i*c=ag d+ag f) ?_ ?_
 ·refine ae.steps i (λb z=>∃c a,z=(c,(b:Int),a,())/\a.length=b/\aS a/\0<=c/\c<=1/\ag a+aQ b*c=ag (d.take b)+ag (f.take b)) ⟨0,[],rfl,rfl,aS.nil,U,U,by simp[ag]⟩ ?_ ?_
  ·rintro b _ D ⟨c,a,rfl,j,k,l,o,m⟩;have v:=s.getD b;have w:=t.getD b;obtain⟨g,n,A,B,p⟩:∃g,g=c+d.getD b 0+f.getD b 0/\0<=g/\g<18446744073709551616/\g/4294967296<=1:=⟨_,rfl,U,U,U⟩;dsimp only;rw[bn (az (U:(b:Int)<(i:Int)))];refine ae.aW (P:=λh=>h=(g/4294967296,a++[g %4294967296],())) ?_ ?_
   ·refine ae.aW (P:=λh=>h=(c+d.getD b 0,a,())) ?_ ?_
    ·simp only[bu];refine ae.ite (λe=>?_) λe=>?_
     ·have e:b<d.length:=(by simp only[a7] at e;omega);rw[bX e];rw[jY e] at v|-;refine ae.af.2 ?_;rw[dv (x:=d[b]) U U,dv U U]
     ·have e:d.length<=b:=(by simp only[a7] at e;omega);rw[oc e,Int.add_zero];exact ae.af.2 rfl
    rintro _ rfl;refine ae.aW (P:=λh=>h=(g,a,())) ?_ ?_
    ·simp only[bu];refine ae.ite (λe=>?_) λe=>?_
     ·have e:b<f.length:=(by simp only[a7] at e;omega);rw[bX e];rw[jY e] at w n;refine ae.af.2 ?_;rw[dv (x:=f[b]) U U,dv U U,n]
     ·have e:f.length<=b:=(by simp only[a7] at e;omega);rw[oc e,Int.add_zero] at n;rw[n];exact ae.af.2 rfl
    ·rintro _ rfl;dsimp only;rw[dZ (by simp;omega),p4,mT];exact ae.af.2 rfl
   ·rintro _ rfl;dsimp only;refine ae.af.2 ⟨g/4294967296,a++[g %4294967296],by rw[bA U],by simp[j],k.snoc U U,U,p,?_⟩;rw[oH,j,g6,yx,yx];have:=Int.emod_add_mul_ediv g 4294967296;generalize g/4294967296=y at*;generalize g %4294967296=h at*;generalize d.getD b 0=q at*;generalize f.getD b 0=C at*;have r:h=c+q+C-4294967296*y:=U;clear this n A B p;subst r;grind
  ·rintro _ ⟨c,a,rfl,j,k,l,o,m⟩;dsimp only;rw[bm (ay (U:¬((i:Int)<(i:Int))))];rw[List.take_of_length_le U,List.take_of_length_le U] at m;exact ae.af.2 ⟨c,a,rfl,j,k,l,o,m⟩
 ·rintro _ ⟨c,a,rfl,j,k,l,o,m⟩;dsimp only;rw[dZ (by simp;omega),kv l U];refine ae.af.2 ⟨a++[c],rfl,k.snoc l U,?_,by simp;omega⟩;rw[oH,j,m]
theorem aar (a:Int):dm .u64 a 63=some (a/9223372036854775808):=by have:dm .u64 a 63=some (a.fdiv 9223372036854775808):=rfl;rw[this,yI _ aa]
theorem Mf (t:aS d) (u:aS f) (G:d.length<=10000000) (w:f.length<=d.length) (E:ag f<=ag d):ae (w7 (d,f,())) (λh=>∃a,h=(a,())/\aS a/\ag a=ag d-ag f/\a.length=d.length):=by
 unfold w7;dsimp only;refine ae.aW (P:=λh=>∃a b,h=(a,())/\a.length=d.length/\aS a/\0<=b/\b<=1/\ag a-aQ d.length*b=ag d-ag f) ?_ ?_
 ·refine ae.steps d.length (λe A=>∃b a,A=(b,(e:Int),a,())/\a.length=e/\aS a/\0<=b/\b<=1/\ag a-aQ e*b=ag (d.take e)-ag (f.take e)) ⟨0,[],rfl,rfl,aS.nil,U,U,by simp[ag]⟩ ?_ ?_
  ·rintro e _ o ⟨b,a,rfl,i,j,m,n,l⟩;have F:=t.get o;have x:=u.getD e;obtain⟨c,k,p,q⟩:∃c,c=d[e]-b-f.getD e 0/\-4294967296<=c/\c<4294967296:=⟨_,rfl,U,U⟩;dsimp only;rw[bn (az (show(e:Int)<ax d by simp only[a7];omega))];refine ae.aW (P:=λh=>h=(-(c/4294967296),a++[c %4294967296],())) ?_ ?_
   ·refine ae.bs (bX o) ?_;refine ae.aW (P:=λh=>h=(c %18446744073709551616,a,())) ?_ ?_
    ·simp only[bu];refine ae.ite (λg=>?_) λg=>?_
     ·have g:e<f.length:=(by simp only[a7] at g;omega);rw[bX g];rw[jY g] at k x;refine ae.af.2 ?_;simp only[ly];rw[k];congr 1;omega
     ·have g:f.length<=e:=(by simp only[a7] at g;omega);rw[oc g] at k;refine ae.af.2 ?_;simp only[ly];rw[k];congr 1;omega
    ·rintro _ rfl;dsimp only;rw[dZ (by simp;omega),p4,aar];refine ae.af.2 ?_;have ar:c %18446744073709551616/9223372036854775808=-(c/4294967296):=U;have z:c %18446744073709551616 %4294967296=c %4294967296:=U;rw[ar,z]
   ·rintro _ rfl;dsimp only;refine ae.af.2 ⟨-(c/4294967296),a++[c %4294967296],by rw[bA U],by simp[i],j.snoc U U,U,U,?_⟩;rw[oH,i,g6,hF o,yx];have:=Int.emod_add_mul_ediv c 4294967296;generalize c/4294967296=y at*;generalize c %4294967296=h at*;generalize f.getD e 0=C at*;generalize d[e]=B at*;have r:h=B-b-C-4294967296*y:=U;clear this k p q;subst r;grind
  ·rintro _ ⟨b,a,rfl,i,j,m,n,l⟩;dsimp only;rw[bm (ay (show¬((d.length:Int)<ax d) by simp only[a7];omega))];refine ae.af.2 ⟨a,b,rfl,i,j,m,n,?_⟩;rw[l,List.take_of_length_le (Nat.le_refl _),List.take_of_length_le w]
 ·rintro _ ⟨a,b,rfl,i,j,m,n,l⟩;have s:=gE j;have D:=fb d.length;rw[i] at s;have v:b=0:=by
   rcases iB 0 b with g|g
   ·obtain rfl:b=1:=U;omega
   ·omega
  subst v;exact ae.af.2 ⟨a,rfl,j,by rw[<-l];simp,i⟩
theorem Ca {x y:Int} (t:aC x.natAbs<=3000000) (u:aC y.natAbs<=3000000):sx (aL x,aL y,())=some (aL (x+y),()):=by
 obtain⟨c,l,z⟩:=gP t;obtain⟨d,m,A⟩:=gP u;unfold sx;dsimp only;refine ae.eq_iff.1 ?_;refine ae.bs (vx c l U) (ae.bs (vx d m U) ?_);dsimp only;have q:=ie x;have r:=ie y;have v:(aL x).1=decide (x<0):=rfl;have w:(aL y).1=decide (y<0):=rfl;rw[v,w];by_cases k:(decide (x<0)==decide (y<0))=true
 ·rw[bn k];refine ae.aW (Zz c d U U) ?_;rintro _ ⟨h,rfl,i,j,s⟩;refine ae.bs (yf i (by show h.length<=_;omega) j) (ae.af.2 ?_);dsimp only;congr 2;have:decide (x<0)=decide (y<0):=(by simpa using k);have e:x<0↔y<0:=(by simpa using this);rw[q,r];by_cases a:x<0
  ·rw[if_pos (az a)];have:=e.1 a;omega
  ·rw[if_neg (by simpa using a)];have:=mt e.2 a;omega
 ·rw[bm (by simpa using k)];have e:¬(x<0↔y<0):=(by simpa using k);refine ae.bs (ZC c d l m U U) ?_;dsimp only;rw[bu];refine ae.ite (λn=>?_) λn=>?_
  ·have p:=um.1 n;have o:(aL y).2.1.length<=(aL x).2.1.length:=by
    rcases bb (aL x).2.1.length (aL y).2.1.length with g|g
    ·have:=p1 c d m g;omega
    ·exact g
   refine ae.aW (Mf c d U o p) ?_;rintro _ ⟨h,rfl,i,j,s⟩;refine ae.bs (yf i (by show h.length<=_;omega) j) (ae.af.2 ?_);dsimp only;congr 2;rw[q,r] at*;by_cases a:x<0
   ·rw[if_pos (az a)];have:¬y<0:=λb=>e ⟨λ_=>b,λ_=>a⟩;omega
   ·rw[if_neg (by simpa using a)];have:y<0:=Decidable.byContradiction λb=>e ⟨λf=>absurd f a,λf=>absurd f b⟩;omega
  ·have p:ag (aL x).2.1<ag (aL y).2.1:=Int.not_le.1 (mt um.2 n);have o:(aL x).2.1.length<=(aL y).2.1.length:=by
    rcases bb (aL y).2.1.length (aL x).2.1.length with g|g
    ·have:=p1 d c l g;omega
    ·exact g
   refine ae.aW (Mf d c U o (Int.le_of_lt p)) ?_;rintro _ ⟨h,rfl,i,j,s⟩;refine ae.bs (yf i (by show h.length<=_;omega) j) (ae.af.2 ?_);dsimp only;congr 2;rw[q,r] at*;by_cases a:x<0
   ·have b:¬y<0:=λb=>e ⟨λ_=>b,λ_=>a⟩;rw[if_neg (by simpa using b)];omega
   ·have b:y<0:=Decidable.byContradiction λb=>e ⟨λf=>absurd f a,λf=>absurd f b⟩;rw[if_pos (az b)];omega
theorem Z6 (c:aC b.natAbs<=3000000) (a:aC e.natAbs<=3000000):Av (aL b,aL e,())=some (aL (b-e),()):=by unfold Av;refine au (ZP a) ?_;dsimp only;exact au (Ca c (by rw[Int.natAbs_neg];exact a)) (by rw[<-Int.sub_eq_add_neg])
theorem FV {n:Int} (c:-9223372036854775808<=n) (d:n<=9223372036854775807):uH (n,())=some (aL n,()):=by
 unfold uH;dsimp only;obtain⟨a,e,f,g⟩:∃a:Int,a=n.natAbs/\0<=a/\a<=9223372036854775808:=⟨_,rfl,U,U⟩;refine au (y:=(a,(false,([],())),())) ?_ ?_
 ·rw[bu];split
  ·rename_i b;have aj:aZ n=n+1:=(by unfold aZ;exact wrap64 U U);rw[aj,bp U U,dv (x:=0-(n+1)) U U,dv U U];congr 2;omega
  ·rename_i b;rw[dv U U];congr 2;omega
 dsimp only;rw[mT,Option.bind_some,p4 a,kv (x:=a/4294967296) U U];refine au (ye (aS.cons.2 ⟨⟨U,U⟩,aS.cons.2 ⟨⟨U,U⟩,aS.nil⟩⟩) ac) ?_;dsimp only;congr 2;congr 1;unfold fm;simp only[ag];by_cases b:n<0
 ·simp[b];omega
 ·simp[b];omega
theorem Md {z:Int} {n:Nat} (b:aC z.natAbs<=3000000) (i:n<=10000000):nl (aL z,(n:Int),())=some (aL (z*2^n),()):=by
 obtain⟨d,g,h⟩:=gP b;unfold nl;dsimp only;refine ae.eq_iff.1 ?_;refine ae.bs (Cj b) ?_;dsimp only;rw[bn (az (U:(n:Int)>=0))];refine ae.aW (Z5 d U (n:=n) U) ?_;rintro _ ⟨e,rfl,f,c,j⟩;rw[ie] at c;refine ae.bs (yf f (by show e.length<=_;omega) c) (ae.af.2 ?_);dsimp only;congr 2;show(if decide (z<0)=true then _ else _)=_;by_cases a:z<0
 ·rw[if_pos (az a),<-Int.neg_mul];congr 1;omega
 ·rw[if_neg (by simpa using a)];congr 1;omega
theorem Z4 (k:aC b.natAbs<=2900000) (s:a<=10000000) (t:0<a):nl (aL b,-(a:Int),())=some (aL (b/2^a),()):=by
 obtain⟨g,p,q⟩:=gP (z:=b) U;have j:=jG a;unfold nl;dsimp only;refine ae.eq_iff.1 ?_;refine ae.bs (Cj U) ?_;dsimp only;have aj:aw (0- -(a:Int))=(a:Int):=(by rw[bp U U];omega);rw[bm (ay (U:¬(-(a:Int)>=0))),aj];refine ae.aW (Me g U (n:=a) U) ?_;rintro _ ⟨w,rfl,l,f,x⟩;rw[ie] at f|-;dsimp only;refine ae.bs (yf l U f) ?_;dsimp only;have o:(aL b).1=decide (b<0):=rfl;rw[o];have u:0<=(b.natAbs:Int)/2^a:=Int.ediv_nonneg U U;have v:(b.natAbs:Int)/2^a<=b.natAbs:=Int.ediv_le_self _ U;have c:=Kx (m:=b.natAbs) j U;refine ae.bs (y:=((false,([],())),aL (b/2^a),())) ?_ (ae.af.2 rfl);by_cases e:b<0
 ·rw[az e];rw[(U:-(b.natAbs:Int)=b)] at c;by_cases d:(b.natAbs:Int) %2^a=0
  ·rw[ay (show¬((b.natAbs:Int) %2^a≠0) fromλh=>h d)];refine au rfl ?_;dsimp only[cond_false];rw[if_pos d] at c;rw[if_pos rfl,c]
  ·rw[az (show(b.natAbs:Int) %2^a≠0 from d)];refine au rfl ?_;dsimp only[cond_true];rw[if_neg d] at c;refine au (FV aa aa) ?_;dsimp only;have i:aC (-((b.natAbs:Int)/2^a)).natAbs<=3000000:=by
    rw[dF];have:=dF.1 k;have r:=LC 2900000 3000000 aa;omega
   rw[if_pos rfl];refine au (Z6 i aa) ?_;rw[c];dsimp only;congr 4;omega
 ·rw[ay e];refine au rfl ?_;dsimp only[cond_false];rw[if_neg ac,(U:(b.natAbs:Int)=b)]
theorem HV (b:aC c<=a) (d:aC h<=a):aC (c+h)<=a+1:=by rw[dF,jO];have:=dF.1 b;have:=dF.1 d;omega
theorem L4 {z:Int} {n:Nat} (c:aC z.natAbs<=3000000) (e:n<=10000000):w5 (aL z,(n:Int),())=some (decide ((z.natAbs:Int) %2^n≠0),()):=by obtain⟨a,b,d⟩:=gP c;unfold w5;dsimp only;refine ae.eq_iff.1 ?_;refine ae.bs (vx a b U) ?_;dsimp only;refine ae.aW (Me a U (n:=n) U) ?_;rintro _ ⟨f,rfl,g,h,i⟩;rw[ie];exact ae.af.2 rfl
theorem ZM {z:Int} (p:0<=z) (d:z<9223372036854775808):At (aL z,())=some (z,true,()):=by
 have f:aC z.natAbs<=64:=dF.2 U;obtain⟨b,n,o⟩:=gP (z:=z) U;have q:(aL z).2.1.length<=2:=nm U;unfold At;dsimp only;refine ae.eq_iff.1 ?_;refine ae.bs (Cj U) ?_;dsimp only;rw[bm (ay (show¬(ax (aL z).2.1>2) by simp only[a7];omega))];refine ae.aW (P:=λl=>l=(z,aL z,())) ?_ ?_
 ·have k:=ie z;refine ae.steps (aL z).2.1.length (λa m=>m=(ag ((aL z).2.1.take a),(a:Int),aL z,())) rfl ?_ ?_
  ·rintro a _ c rfl;have h:=b.get c;dsimp only;rw[bn (az (show(a:Int)<ax (aL z).2.1 by simp only[a7];omega)),bX c,Option.bind_some];have d:=eB (b.take a);have e:=gE (b.take a);rw[List.length_take,Nat.min_eq_left U,oO] at e;have aj:aw (32*(a:Int))=((32*a:Nat):Int):=(by rw[bp U U];simp);have f:(2:Int)^(32*a)<=4294967296:=by
    rcases(U:a=0\/a=1) with rfl|rfl<;>decide
   have j:=jG (32*a);have r:(aL z).2.1[a]*2^(32*a)<4294967296*4294967296:=(by have:=ke f h.1;omega);have g:0<=(aL z).2.1[a]*2^(32*a):=mi h.1 (eR j);rw[aj,dv (x:=(aL z).2.1[a]) U U,mb U U,aG,dc,rM g U,lq (32*a) d e g U U (Int.mul_emod_left _ _),bA U];refine ae.af.2 ?_;show(_,_,aL z,())=(_,_,aL z,());rw[hF c,oO,il (2^(32*a))]
  ·rintro _ rfl;dsimp only;rw[bm (ay (show¬(((aL z).2.1.length:Int)<ax (aL z).2.1) by simp only[a7];omega)),List.take_of_length_le (Nat.le_refl _),k];refine ae.af.2 ?_;show(((z.natAbs:Nat):Int),aL z,())=_;rw[(U:((z.natAbs:Nat):Int)=z)]
 ·rintro _ rfl;have i:(aL z).1=false:=ay U;dsimp only;rw[i,cond_false,bm (ay (U:¬(z>9223372036854775807))),bp U U];exact ae.af.2 rfl
theorem MB (d:aC e.natAbs<=1900000) (g:-1048576<=b) (h:b<=1048576):pt (aL e,b,())=some (aL (nE e b),0,()):=by
 rcases iB b 0 with f|f
 ·obtain⟨a,c⟩:∃a:Nat,b=-(a:Int):=⟨(-b).toNat,U⟩;subst c;rw[aao d U U,vA]
 ·obtain⟨a,c⟩:∃a:Nat,b=(a:Int):=⟨b.toNat,U⟩;subst c;rw[aap d U,nF]
theorem F1 (f:aC e.natAbs<=2900000) (g:-10000000<=b) (h:b<=10000000):nl (aL e,b,())=some (aL (nE e b),()):=by
 rcases iB b 0 with d|d
 ·obtain⟨a,c⟩:∃a:Nat,b=-(a:Int):=⟨(-b).toNat,U⟩;subst c;rw[Z4 f U U,vA]
 ·obtain⟨a,c⟩:∃a:Nat,b=(a:Int):=⟨b.toNat,U⟩;subst c;rw[Md U U,nF]
def bJ (a:Int):Int:=if a=0 then 0 else gz a
theorem x0:bj 0=0:=rfl
theorem iv (a:Int):bf (some a)=(false,aL (bj a),bJ a,()):=by
 by_cases b:a=0
 ·subst b;rfl
 ·rw[IH b,bJ,if_neg b]
theorem l6 (a:fk b):aC (bj b).natAbs<=131072:=by
 by_cases c:b=0
 ·subst c;exact a
 ·rw[WI c];unfold fk at a;omega
theorem kT (a:fk b):-65536<=bJ b/\bJ b<=65536:=by
 unfold bJ;split
 ·omega
 ·rename_i c;have:=tx (n:=b.natAbs) U;unfold fk at a;unfold gz;omega
theorem EV (c:fk b):e8 (bj b) (bJ b)=some b:=by
 by_cases a:b=0
 ·subst a;rfl
 ·rw[bJ,if_neg a,V7 c]
theorem WJ (c:b=0\/e<=gz b) (g:-65536<=e):bj b*2^(bJ b-e).toNat*2^(e+65536).toNat=b:=by
 by_cases a:b=0
 ·subst a;rw[x0];simp
 ·have d:=rn b;have f:=c.resolve_left a;rw[bJ,if_neg a,kx,<-kh];have:(gz b-e).toNat+(e+65536).toNat=bC b.natAbs:=(by unfold gz at*;omega);rw[this,d]
theorem IG (y:b≠0) (t:¬(e+bC b.natAbs< -65536\/65536<e+aC b.natAbs)):bf (e8 b e)=(false,aL (b/2^bC b.natAbs),e+bC b.natAbs,())/\(e8 b e).isSome=true:=by
 obtain⟨a,o⟩:∃a,a=nE b (e+65536):=⟨_,rfl⟩;have B:e8 b e=some a:=(by unfold e8;rw[if_neg y,if_neg t,o]);rw[B];refine⟨?_,rfl⟩;obtain⟨g,w⟩:=rB (n:=b.natAbs) U;have l:=(sY (n:=b.natAbs) (k:=bC b.natAbs) U).1 (aY _);have A:b/2^bC b.natAbs*2^bC b.natAbs=b:=DN l;have z:(b/2^bC b.natAbs).natAbs=2*g+1:=by
  rw[xX l]
  conv=>lhs;lhs;rw[w]
  exact Nat.mul_div_cancel _ (i5 _)
 generalize G:bC b.natAbs=d at*;generalize F:b/2^d=j at*;have i:a=j*2^(e+d+65536).toNat:=by
  rw[o,<-A];rcases Int.le_total 0 (e+65536) with s|s
  ·obtain⟨c,h⟩:∃c:Nat,e+65536=c:=⟨(e+65536).toNat,U⟩;rw[h,nF,kx,<-kh];congr 2;omega
  ·obtain⟨c,h⟩:∃c:Nat,e+65536=-(c:Int):=⟨(-(e+65536)).toNat,U⟩;obtain⟨q,x⟩:∃q:Nat,d=q+c:=⟨d-c,U⟩;rw[h,vA,x,kh,<-kx,Int.mul_ediv_cancel _ (by have:=jG c;omega)];congr 2;omega
 obtain⟨f,v⟩:∃f:Nat,e+d+65536=f:=⟨(e+d+65536).toNat,U⟩;rw[v,dc] at i;have p:a.natAbs=(2*g+1)*2^f:=(by rw[i,lm,z]);have m:bC a.natAbs=f:=vE p;have C:a≠0:=(by intro u;rw[u] at p;have D:=Nat.mul_pos (U:0<2*g+1) (i5 f);have E:(0:Int).natAbs=0:=rfl;omega);rw[IH C];have aj:bj a=j:=(by unfold bj;rw[m,i,Int.mul_ediv_cancel _ (by have:=jG f;omega)]);have r:gz a=e+d:=(by unfold gz;rw[m];omega);rw[aj,r]
theorem L3 {m:Int} {n:Nat} (b:aC m.natAbs<=1900000) (f:n<=1048576):wG (aL m,(n:Int),())=some (aL (m/2^n),()):=by
 unfold wG;dsimp only;refine ae.eq_iff.1 ?_;refine ae.aW (P:=λd=>d=((n:Int),aL m,(false,([],())),())) ?_ ?_
 ·refine ae.steps 0 (λc a=>a=((n:Int),aL m,(false,([],())),())) rfl (λc a e=>by omega) ?_;rintro _ rfl;dsimp only;rw[bm (ay (U:¬((n:Int)>1048576)))];exact ae.af.2 rfl
 ·rintro _ rfl;dsimp only;rw[bp U U,Int.zero_sub];refine ae.bs (MB b U U) (ae.af.2 ?_);rw[vA]
theorem u2 {m k:Int} (c:aC m.natAbs<=1900000) (a:0<=k) (b:k<=1048576):lS (aL m,k,())=some (aL (m*2^k.toNat),()):=by unfold lS;refine au (MB c U b) ?_;obtain⟨d,rfl⟩:=eY a;show some (aL (nE m (d:Int)),())=_;rw[nF];rfl
theorem KB {a:Int} (r:aC e.natAbs<=900000) (p:-1000000000000<=a) (q:a<=1000000000000):mB ((false,aL e,a,()),())=some (bf (e8 e a),(e8 e a).isSome,()):=by
 obtain⟨i,m,o⟩:=gP (z:=e) U;unfold mB;dsimp only;rw[cond_false];have h:=WB (b:=aL e) i U;rw[mZ] at h;refine au h ?_;refine au (pX (h0 U)) ?_;dsimp only;rw[dT,bu];split
 ·rename_i c;have:e=0:=by
   unfold eQ at c;split at c
   ·assumption
   ·split at c<;>omega
  subst this;rfl
 rename_i c;have d:e≠0:=(by intro a;subst a;exact c rfl);have s:=tx (n:=e.natAbs) U;refine au (Nc (h0 U) d) ?_;dsimp only;by_cases g:a+bC e.natAbs< -65536\/65536<a+aC e.natAbs
 ·have l:e8 e a=none:=(by unfold e8;rw[if_neg d,if_pos g]);rw[l];refine au (y:=.inr (bf none,false,())) ?_ rfl;refine au (y:=(true,(false,((false,([],())),((0:Int),()))),aL e,())) ?_ rfl;refine au (sc (h0 U)) ?_;dsimp only;rw[bp (x:=65536-(aC e.natAbs:Int)) U U,bp U U];by_cases f:a>65536-(aC e.natAbs:Int)
  ·rw[az f];rfl
  ·rw[ay f,az (U:a< -65536-(bC e.natAbs:Int))];rfl
 ·obtain⟨j,k⟩:=IG d g;rw[j,k];refine au (y:=.inl ((false,((false,([],())),((0:Int),()))),aL e,())) ?_ ?_
  ·refine au (y:=(false,(false,((false,([],())),((0:Int),()))),aL e,())) ?_ rfl;refine au (sc (h0 U)) ?_;dsimp only;rw[bp (x:=65536-(aC e.natAbs:Int)) U U,bp U U];rw[ay (U:¬(a>65536-(aC e.natAbs:Int))),ay (U:¬(a< -65536-(bC e.natAbs:Int)))];rfl
  ·refine au (L3 U U) ?_;dsimp only;rw[bp U U]
theorem tb (b:e1 j):mB (bf j,())=some (bf j,j.isSome,()):=by
 cases j with
 |none=>rfl
 |some c=>
  have a:=b c rfl;have d:=l6 a;have e:=kT a;rw[iv,KB U U U,EV a,iv]
theorem BB (d:aC e.natAbs<=900000) (a:-1000000000000<=b) (c:b<=1000000000000):sm (aL e,b,())=some (bf (e8 e b),()):=by unfold sm;exact au (KB d a c) rfl
theorem xk (a:e1 j):qA (bf j,())=some (bf j,()):=by unfold qA;exact au (tb a) rfl
theorem AX (a:e1 j):sn (bf j,())=some (j.isSome,()):=by unfold sn;exact au (tb a) rfl
def oC (a:abV):Int:=eQ (a.getD 0)
theorem aam (a:Int):eQ (bj a)=eQ a:=by
 unfold eQ;have:=xZ (v:=a);by_cases b:a=0
 ·subst b;rfl
 ·have:=ln b;rw[if_neg this,if_neg b];split<;>split<;>first|rfl|omega
theorem mC (a:e1 j):po (bf j,())=some (oC j,()):=by
 unfold po;refine au (tb a) ?_;cases j with
 |none=>exact au (pX (z:=0) (h0 aa)) rfl
 |some b=>
  have c:=l6 (a b rfl);rw[iv];refine au (pX (h0 U)) ?_;show some (eQ (bj b),())=_;rw[aam];rfl
theorem M8 (a:e1 j) (b:e1 q):wH (bf j,bf q,())=some (bf j,bf q,j.isSome&&q.isSome,()):=by unfold wH;refine au (tb a) (au (tb b) ?_);cases j<;>rfl
def lj (c d:abV):abV:=c.bind λa=>d.bind λb=>e8 (bj a*bj b) (bJ a+bJ b)
def Hh (a b:abV):abV:=a.bind λc=>b.bind λd=>ld (c+d)
def vh (a:abV):abV:=a.map λb=>-b
def CX (a:abV):abV:=a.map λb=>(b.natAbs:Int)
theorem E0 (b c:abV):e1 (lj b c):=by
 intro d a;unfold lj at a;cases b with
 |none=>cases a
 |some e=>cases c with
  |none=>cases a
  |some f=>exact EX _ _ d a
theorem Wm (b:e1 j):e1 (vh j):=by
 intro d a;cases j with
 |none=>cases a
 |some c=>cases a;have:=b c rfl;unfold fk at*;rw[tN];exact this
theorem RO (b:e1 j):e1 (CX j):=by
 intro d a;cases j with
 |none=>cases a
 |some c=>cases a;have:=b c rfl;unfold fk at*;rw[rN];exact this
theorem It (a:e1 j) (b:e1 q):wC (bf j,bf q,())=some (bf (lj j q),()):=by
 unfold wC;refine au (M8 a b) ?_;cases j with
 |none=>rfl
 |some c=>
  cases q with
  |none=>rfl
  |some d=>
   have e:=l6 (a c rfl);have f:=l6 (b d rfl);have g:=kT (a c rfl);have h:=kT (b d rfl);rw[iv,iv];refine au (Kr U U) ?_;dsimp only;rw[bp U U];refine au (BB ?_ U U) rfl;rw[Int.natAbs_mul];have:=qu e f;omega
theorem KD (a:Int):bj (-a)=-bj a:=by have c:=rn a;have b:=rn (-a);rw[tN] at b;have e:=jG (bC a.natAbs);have d:bj (-a)*2^bC a.natAbs=-bj a*2^bC a.natAbs:=(by rw[b,Int.neg_mul,c]);exact Int.eq_of_mul_eq_mul_right U d
theorem IP (a:Int):bJ (-a)=bJ a:=by
 unfold bJ gz;rw[tN];by_cases b:a=0
 ·subst b;rfl
 ·rw[if_neg b,if_neg U]
theorem WH (a:Int):bj (a.natAbs:Int)=((bj a).natAbs:Int):=by
 have c:=xZ (v:=a);rcases iB a 0 with b|b
 ·rw[(U:(a.natAbs:Int)=-a),KD];have:=c.2 b;omega
 ·rw[(U:(a.natAbs:Int)=a)];have:=mt c.1 U;omega
theorem T0 (a:Int):bJ (a.natAbs:Int)=bJ a:=by
 rcases iB a 0 with b|b
 ·rw[(U:(a.natAbs:Int)=-a),IP]
 ·rw[(U:(a.natAbs:Int)=a)]
theorem Iu (b:e1 j):wD (bf j,())=some (bf (vh j),()):=by
 unfold wD;refine au (tb b) ?_;cases j with
 |none=>rfl
 |some a=>
  have c:=l6 (b a rfl);rw[iv];refine au (au (Ky (h0 U)) rfl) ?_;show some ((false,aL (-bj a),bJ a,()),())=some (bf (some (-a)),());rw[iv,KD,IP]
def ka (a b:Int):Int:=bj a*2^(bJ a-b).toNat
theorem tz {v e:Int} (a:v=0\/e<=gz v) (b:-65536<=e):ka v e*2^(e+65536).toNat=v:=WJ a b
theorem CA (a:b=0\/e<=gz b) (f:-65536<=e) (g:fk b):aC (ka b e).natAbs<=131072:=by
 have c:=tz a f;have d:(ka b e).natAbs<=b.natAbs:=by
  conv=>rhs;rw[<-c,lm]
  exact Nat.le_mul_of_pos_right _ (i5 _)
 exact dn (kG d) g
theorem EH (c:b=0\/e<=gz b) (h:-65536<=e) (i:e<=65536) (a:fk b) (d:e<=bJ b):lS (aL (bj b),bJ b-e,())=some (aL (ka b e),()):=by have f:=l6 a;have g:=kT a;exact u2 U U U
theorem V8 {a:Int} (c:-65536<=b) (d:e=0\/b<=gz e) (f:a=0\/b<=gz a):e8 (ka e b+ka a b) b=ld (e+a):=by refine BF c ?_;rw[Int.add_mul,tz d c,tz f c]
theorem lU (a:e<=bJ b):b=0\/e<=gz b:=by
 by_cases c:b=0
 ·exact .inl c
 ·rw[bJ,if_neg c] at a;exact .inr a
theorem RQ (g:fk b) (h:fk e):∃a,a<=bJ b/\a<=bJ e/\-65536<=a/\a<=65536/\zE (bf (some b),bf (some e),())=some (aL (ka b a),aL (ka e a),a,()):=by have i:=kT g;have j:=kT h;refine⟨if bJ e<bJ b then bJ e else bJ b,by split<;>omega,by split<;>omega,by split<;>omega,by split<;>omega,?_⟩;unfold zE;rw[iv,iv];dsimp only;generalize c:(if bJ e<bJ b then bJ e else bJ b)=a;have aj:a<=bJ b:=(by rw[<-c];split<;>omega);have d:a<=bJ e:=(by rw[<-c];split<;>omega);have f:-65536<=a:=(by rw[<-c];split<;>omega);rw[bp (x:=bJ b-a) U U,bp (x:=bJ e-a) U U];exact au (EH (lU aj) f U g aj) (au (EH (lU d) f U h d) rfl)
theorem Tn (e:e1 j) (b:e1 q):zz (bf j,bf q,())=some (bf (Hh j q),()):=by
 unfold zz;refine au (M8 e b) ?_;cases j with
 |none=>rfl
 |some h=>
  cases q with
  |none=>rfl
  |some i=>
   have f:=e h rfl;have g:=b i rfl;obtain⟨c,aj,d,a,n,m⟩:=RQ f g;have k:=CA (lU aj) a f;have l:=CA (lU d) a g;refine au m (au (C0 U U) ?_);have b:aC (ka h c+ka i c).natAbs<=131073:=dn (kG (Int.natAbs_add_le _ _)) (HV k l);refine au (BB U U U) ?_;rw[V8 a (lU aj) (lU d)];rfl
def oh (a:Int):abV:=e8 a 0
def eL:c4->Int
 |[]=>0
 |d::a=>d.getD 0+eL a
def gg:c4->Bool
 |[]=>true
 |d::a=>d.isSome&&gg a
def gC (a:c4):abV:=if gg a=true then ld (eL a) else none
theorem MM (b:c4):e1 (gC b):=by
 intro c a;unfold gC at a;split at a
 ·exact SI _ c a
 ·cases a
theorem yv (a b:c4):eL (a++b)=eL a+eL b:=by
 induction a with
 |nil=>simp[eL]
 |cons d a c=>simp only[jm,eL,c];omega
theorem y3 (a b:c4):gg (a++b)=(gg a&&gg b):=by
 induction a with
 |nil=>simp[gg]
 |cons d a c=>simp only[jm,gg,c,Bool.and_assoc]
theorem Gp (b:a<p.length):eL (p.take (a+1))=eL (p.take a)+(p[a]).getD 0:=by rw[jo,be b];show eL (p.take a++[p[a]])=_;rw[yv];simp[eL]
theorem Hm (b:a<p.length):gg (p.take (a+1))=(gg (p.take a)&&(p[a]).isSome):=by rw[jo,be b];show gg (p.take a++[p[a]])=_;rw[y3];simp[gg]
theorem Hl (b:gg p=true) (c:a<p.length):∃e,p[a]=some e:=by
 induction p generalizing a with
 |nil=>simp at c
 |cons f p d=>
  simp only[gg,bg] at b;cases a with
  |zero=>exact Option.isSome_iff_exists.1 b.1
  |succ a=>exact d b.2 (by simpa using c)
theorem Hk (c:a<p.length) (b:p[a]=none):gg p=false:=by
 cases d:gg p with
 |false=>rfl
 |true=>obtain⟨f,e⟩:=Hl d c;rw[e] at b;cases b
theorem Iv (A:∀B∈p,e1 B) (L:p.length<=1000000):wF (p.map bf,())=some (bf (gC p),()):=by
 unfold wF;refine ae.eq_iff.1 ?_;dsimp only;refine ae.aW (P:=λs=>match s with
  |.inl o=>∃b,o=(b,(false,((false,([],())),((0:Int),()))),p.map bf,())/\gg p=true/\-65536<=b/\b<=0/\(∀a d,(C:a<p.length)->p[a]=some d->b<=bJ d)
  |.inr o=>o=(bf (gC p),())) ?_ ?_
 ·refine ae.steps p.length (λa v=>∃b,v=(b,(a:Int),(false,((false,([],())),((0:Int),()))),(p.take a).map bf,())/\gg (p.take a)=true/\-65536<=b/\b<=0/\(∀h d,(C:h<p.length)->h<a->p[h]=some d->b<=bJ d)) ⟨0,rfl,rfl,aa,aa,λh d f g=>by omega⟩ ?_ ?_
  ·rintro a _ e ⟨b,rfl,f,g,t,l⟩;have z:=A p[a] (List.getElem_mem e);dsimp only;rw[bn (az (show(a:Int)<ax (p.map bf) by simp only[a7,List.length_map];omega))];refine ae.bs (y:=bf p[a]) ?_ (ae.bs (tb z) ?_)
   ·rw[bX (by simpa using e),rV]
   dsimp only;cases m:p[a] with
   |none=>
    refine ae.bs rfl (ae.af.2 ?_);show(bf none,())=_;rw[gC,if_neg];rw[Hk e m];simp
   |some d=>
    have n:fk d:=z d m;have I:=kT n;show ae ((bS _).bind _) _;rw[dZ (by simp;omega)];refine ae.af.2 ⟨if bJ d<b then bJ d else b,?_,?_,by split<;>omega,by split<;>omega,?_⟩
    ·rw[bA U,jo,be e,m];simp only[Option.toList_some,fZ,er,List.map_nil,iv]
    ·rw[Hm e,f,m];rfl
    ·intro h K J N u;rcases bb h a with w|w
     ·have:=l h K J w u;split<;>omega
     ·obtain rfl:h=a:=U;rw[m] at u;cases u;split<;>omega
  ·rintro _ ⟨b,rfl,f,g,t,l⟩;dsimp only;rw[bm (ay (show¬((p.length:Int)<ax (p.map bf)) by simp only[a7,List.length_map];omega))];rw[List.take_of_length_le (Nat.le_refl _)] at f|-;exact ae.af.2 ⟨b,rfl,f,g,t,λa d e j=>l a d e e j⟩
 ·rintro(s|s) r
  ·obtain⟨b,rfl,f,g,t,l⟩:=r;dsimp only;refine ae.aW (P:=λo=>∃c,o=((false,((false,([],())),((0:Int),()))),aL c,())/\c*2^(b+65536).toNat=eL p/\aC c.natAbs<=200000) ?_ ?_
   ·have x:∀c:Int,c.natAbs<=p.length*2^131072->aC c.natAbs<=200000:=λc G=>by
     refine dn (kG G) ?_;have:aC p.length<=20:=dF.2 U;have D:aC (2^131072)<=131073:=dF.2 (B1 131072 131073 aa);have:=qu this D;omega
    refine ae.steps p.length (λa v=>∃c,v=((a:Int),(false,((false,([],())),((0:Int),()))),p.map bf,aL c,())/\c*2^(b+65536).toNat=eL (p.take a)/\c.natAbs<=a*2^131072) ⟨0,rfl,by rw[rO];simp[eL],(bN _:(0:Nat)<=_)⟩ ?_ ?_
    ·rintro a _ e ⟨c,rfl,i,k⟩;obtain⟨d,j⟩:=Hl f e;have n:fk d:=A p[a] (List.getElem_mem e) d j;have q:=l a d e j;have H:=CA (lU q) g n;have I:=kT n;have M:=x c (Nat.le_trans k (Nat.mul_le_mul_right _ U));dsimp only;rw[bn (az (show(a:Int)<ax (p.map bf) by simp only[a7,List.length_map];omega)),lr (by simpa using e),List.getElem_map,j,iv];dsimp only;rw[bp U U];refine ae.bs (EH (lU q) g U n q) (ae.bs (C0 U U) (ae.af.2 ⟨c+ka d b,by rw[bA U],?_,?_⟩))
     ·rw[Int.add_mul,i,tz (lU q) g,Gp e,j];rfl
     ·have E:=dF.1 H;have F:=Int.natAbs_add_le c (ka d b);exact dn F (Ks k E)
    ·rintro _ ⟨c,rfl,i,k⟩;dsimp only;rw[bm (ay (show¬((p.length:Int)<ax (p.map bf)) by simp only[a7,List.length_map];omega))];rw[List.take_of_length_le (Nat.le_refl _)] at i;exact ae.af.2 ⟨c,rfl,i,x c k⟩
   ·rintro _ ⟨c,rfl,i,k⟩;refine ae.bs (BB U U U) (ae.af.2 ?_);show(bf (e8 c b),())=_;rw[BF g i.symm,gC,if_pos f]
  ·have r:s=_:=r;rw[r];exact ae.af.2 rfl
theorem nD:(eQ b==0)=decide (b=0):=by
 rw[dT,decide_eq_decide];unfold eQ;constructor
 ·intro a;split at a
  ·assumption
  ·split at a<;>omega
 ·intro a;rw[if_pos a]
theorem FR {m:Int} {n:Nat} (e:aC m.natAbs<=1900000) (f:n<=1048576):uK (aL m,(n:Int),())=some (aL (m/2^n),()):=by
 unfold uK;dsimp only;refine ae.eq_iff.1 ?_;refine ae.aW (P:=λc=>c=((n:Int),aL m,(false,([],())),())) ?_ ?_
 ·refine ae.steps 0 (λb a=>a=((n:Int),aL m,(false,([],())),())) rfl (λb a d=>by omega) ?_;rintro _ rfl;dsimp only;rw[bm (ay (U:¬((n:Int)>1048576)))];exact ae.af.2 rfl
 ·rintro _ rfl;dsimp only;rw[bp U U,Int.zero_sub];refine ae.bs (F1 U U U) (ae.af.2 ?_);rw[vA]
theorem L5 {b:nL} {m:Int} (o:aS b.2.1) (w:b.2.1.length<=100000000) (c:fm b=m) (F:aC m.natAbs<=900000) (B:-1000000000000<=e) (C:e<=1000000000000):pv (b,e,())=some (bf (e8 m e),()):=by
 unfold pv;dsimp only;have p:=L7 o w;rw[c] at p;refine au p ?_;dsimp only;rw[pE,bu];split
 ·rename_i d;have:=xm.1 d;subst this;rfl
 rename_i d;have a:m≠0:=λe=>d (xm.2 e);have G:=tx (n:=m.natAbs) U;have E:=pi (m:=m.natAbs) U;rw[bu];split
 ·rename_i q;have f:e8 m e=none:=(by unfold e8;rw[if_neg a,if_pos U]);rw[f];rfl
 rename_i q;refine au (Mh U a) (au (FN U) (au (FR (m:=(m.natAbs:Int)) (by rw[Int.natAbs_natCast];omega) U) ?_));have l:=(sY (n:=m.natAbs) (k:=bC m.natAbs) U).1 (Nat.le_refl _);have u:(m.natAbs:Int)/2^bC m.natAbs=(((m/2^bC m.natAbs).natAbs:Nat):Int):=(by rw[xX l,<-kS,<-Int.natCast_ediv]);have h:aC ((m/2^bC m.natAbs).natAbs)=aC m.natAbs-bC m.natAbs:=(by rw[xX l,wk]);rw[u];dsimp only;rw[bp (x:=e+(bC m.natAbs:Int)) U U];by_cases i:e+bC m.natAbs< -65536\/65536<e+aC m.natAbs
 ·have f:e8 m e=none:=(by unfold e8;rw[if_neg a,if_pos i]);rw[f];refine au (y:=.inr (bf none,())) ?_ rfl;refine au (y:=(true,(false,((false,([],())),((0:Int),()))),aL ((m/2^bC m.natAbs).natAbs:Int),())) ?_ rfl;by_cases g:e+(bC m.natAbs:Int)< -65536
  ·rw[az g];rfl
  ·rw[ay g];refine au (FP (by rw[Int.natAbs_natCast];omega)) ?_;rw[Int.natAbs_natCast,h];dsimp only;rw[bp U U,az (U:e+(bC m.natAbs:Int)+((aC m.natAbs-bC m.natAbs:Nat):Int)>65536)]
 ·obtain⟨r,D⟩:=IG a i;rw[r];refine au (y:=.inl ((false,((false,([],())),((0:Int),()))),aL ((m/2^bC m.natAbs).natAbs:Int),())) ?_ ?_
  ·refine au (y:=(false,(false,((false,([],())),((0:Int),()))),aL ((m/2^bC m.natAbs).natAbs:Int),())) ?_ rfl;rw[ay (U:¬(e+(bC m.natAbs:Int)< -65536))];refine au (FP (by rw[Int.natAbs_natCast];omega)) ?_;rw[Int.natAbs_natCast,h];dsimp only;rw[bp U U,ay (U:¬(e+(bC m.natAbs:Int)+((aC m.natAbs-bC m.natAbs:Nat):Int)>65536))]
  ·dsimp only;congr 3;have z:b.1=decide (m/2^bC m.natAbs<0):=by
    have s:(m/2^bC m.natAbs<0)↔m<0:=xZ (v:=m);have t:b.1=decide (m<0):=by
     have A:=eB o;unfold fm at c;cases j:b.1 with
     |true=>rw[j,if_pos rfl] at c;exact(az U).symm
     |false=>rw[j,if_neg ac] at c;exact(ay U).symm
    rw[t,decide_eq_decide];exact s.symm
   rw[z];rfl
theorem Ci {e:Int} (d:aC b.natAbs<=900000) (a:-1000000000000<=e) (c:e<=1000000000000):pv (aL b,e,())=some (bf (e8 b e),()):=
 L5 (kI b) (by have:=(gP (z:=b) U).2.2;omega) (mZ b) d a c
theorem FQ (c:e1 j):uJ (bf j,())=some (bf j,()):=by
 cases j with
 |none=>rfl
 |some b=>
  have a:=c b rfl;have d:=l6 a;have f:=kT a;unfold uJ;rw[iv];refine au (Ci (e:=bJ b) U U U) ?_;rw[EV a,iv]
theorem A2 (a:abV):(bf a).1=!a.isSome:=by
 cases a with
 |none=>rfl
 |some b=>rw[iv];rfl
theorem ZE (c:e1 j):Az (bf j,())=some (bf (CX j),()):=by
 unfold Az;refine au (FQ c) ?_;cases j with
 |none=>rfl
 |some b=>
  have a:=c b rfl;have f:=l6 a;have g:=kT a;rw[iv];refine au (FN U) (au (Ci (e:=bJ b) (by rw[rN];omega) U U) ?_);have d:fk (b.natAbs:Int):=(by unfold fk at*;rw[rN];exact a);rw[<-WH,<-T0,EV d];rfl
theorem Nd (a:Int):ka a (bJ a)=bj a:=by unfold ka;simp
theorem LU (a:-9223372036854775808<=b) (c:b<=9223372036854775807):w8 (b,())=some (bf (oh b),()):=by unfold w8;have d:aC b.natAbs<=64:=dF.2 U;exact au (FV a c) (au (Ci U aa aa) rfl)
theorem ZF (Q:∀F∈p,e1 F) (r:p.length<=1000000):AB (p.map bf,())=some (bf (gC p),()):=by
 unfold AB;refine ae.eq_iff.1 ?_;dsimp only;have O:∀c:Int,c.natAbs<=p.length*2^131072->aC c.natAbs<=200000:=λc S=>(by refine Nat.le_trans (kG S) ?_;have:aC p.length<=20:=dF.2 U;have L:aC (2^131072)<=131073:=dF.2 (B1 131072 131073 aa);have:=qu this L;omega);have z:∀(c a:Int) (d:Nat),-65536<=a->d<=p.length->(eL (p.take d)).natAbs<=d*2^131072->c*2^(a+65536).toNat=eL (p.take d)->aC c.natAbs<=200000:=λc a d W l j f=>(by refine O c (Nat.le_trans ?_ (Nat.mul_le_mul_right _ l));refine Nat.le_trans ?_ j;rw[<-f,lm];exact Nat.le_mul_of_pos_right _ (Nat.two_pow_pos _));refine ae.aW (P:=λi=>match i with
  |.inl n=>∃a c,n=(a,(false,((false,([],())),((0:Int),()))),aL c,())/\gg p=true/\-65536<=a/\a<=65536/\c*2^(a+65536).toNat=eL p/\aC c.natAbs<=200000
  |.inr n=>n=(bf (gC p),())) ?_ ?_
 ·refine ae.steps p.length (λd T=>∃a c,T=(a,(d:Int),(false,((false,([],())),((0:Int),()))),aL c,())/\gg (p.take d)=true/\-65536<=a/\a<=65536/\c*2^(a+65536).toNat=eL (p.take d)/\(eL (p.take d)).natAbs<=d*2^131072) ⟨0,0,rfl,rfl,aa,aa,by rw[rO];simp[eL],(bN _:(0:Nat)<=_)⟩ ?_ ?_
  ·rintro d _ l ⟨a,c,rfl,j,f,q,g,o⟩;have w:=Q p[d] (List.getElem_mem l);have D:=z c a d f U o g;dsimp only;rw[bn (az (show(d:Int)<ax (p.map bf) by simp only[a7,List.length_map];omega))];refine ae.aW (P:=λi=>match i with
    |.inl n=>∃b a c,p[d]=some b/\n=(a,(false,((false,([],())),((0:Int),()))),aL c,())/\-65536<=a/\a<=65536/\c*2^(a+65536).toNat=eL (p.take d)+b
    |.inr n=>n=.inr (.inr (bf (gC p),()))) ?_ ?_
   ·refine ae.bs (y:=bf p[d]) ?_ (ae.bs (FQ w) ?_)
    ·rw[bX (by simpa using l),rV]
    dsimp only;cases A:p[d] with
    |none=>
     refine ae.bs rfl (ae.af.2 ?_);show _=Sum.inr (Sum.inr (bf (gC p),()));rw[gC,if_neg]
     ·rfl
     ·rw[Hk l A];simp
    |some b=>
     have s:fk b:=w b A;have ab:=kT s;have Y:=l6 s;rw[iv];refine ae.bs (yi U) ?_;dsimp only;rw[nD];by_cases E:b=0
     ·subst E;rw[az (show bj 0=0 from rfl)];exact ae.af.2 ⟨0,a,c,rfl,rfl,f,q,by rw[g];omega⟩
     rw[ay (ln E)];refine ae.bs (yi U) ?_;dsimp only;rw[nD];by_cases C:c=0
     ·subst C;rw[az rfl];refine ae.af.2 ⟨b,bJ b,bj b,rfl,rfl,U,U,?_⟩;have:=tz (v:=b) (e:=bJ b) (lU (qb _)) U;rw[Nd] at this;rw[this,<-g];simp
     rw[ay C];by_cases t:bJ b>=a
     ·rw[az t,bp U U];refine ae.bs (F1 U U U) ?_;have R:nE (bj b) (bJ b-a)=ka b a:=by
       obtain⟨m,r⟩:∃m:Nat,bJ b-a=m:=⟨(bJ b-a).toNat,U⟩;rw[r,nF,ka,r];rfl
      have Z:=CA (lU t) f s;rw[R];refine ae.bs (Ca U U) (ae.af.2 ⟨b,a,c+ka b a,rfl,rfl,f,q,?_⟩);rw[Int.add_mul,g,tz (lU t) f]
     ·rw[ay t,bp (x:=a-bJ b) U U];obtain⟨m,r⟩:∃m:Nat,a-bJ b=m:=⟨(a-bJ b).toNat,U⟩;have B:c*2^m*2^(bJ b+65536).toNat=eL (p.take d):=by
       rw[<-g,kx,<-kh];congr 2;omega
      have X:=z (c*2^m) (bJ b) d U U o B;rw[r];refine ae.bs (F1 U U U) ?_;rw[nF];refine ae.bs (Ca U U) (ae.af.2 ⟨b,bJ b,c*2^m+bj b,rfl,rfl,U,U,?_⟩);have:=tz (v:=b) (e:=bJ b) (lU (qb _)) U;rw[Nd] at this;rw[Int.add_mul,B,this]
   ·rintro(i|i) h
    ·obtain⟨b,G,V,u,rfl,H,I,J⟩:=h;have s:fk b:=w b u;refine ae.af.2 ⟨G,V,by rw[bA U],by rw[Hm l,j,u];rfl,H,I,by rw[Gp l,u];exact J,?_⟩;rw[Gp l,u];have M:=Int.natAbs_add_le (eL (p.take d)) b;have N:b.natAbs<2^131072:=(dF (k:=131072)).1 s;show(eL (p.take d)+b).natAbs<=_;have K:=Ks o N;exact dn M K
    ·have h:i=_:=h;rw[h];exact ae.af.2 rfl
  ·rintro _ ⟨a,c,rfl,j,f,q,g,o⟩;dsimp only;rw[bm (ay (show¬((p.length:Int)<ax (p.map bf)) by simp only[a7,List.length_map];omega))];have D:=z c a p.length f (Nat.le_refl _) o g;rw[List.take_of_length_le (Nat.le_refl _)] at j g;exact ae.af.2 ⟨a,c,rfl,j,f,q,g,D⟩
 ·rintro(i|i) h
  ·obtain⟨a,c,rfl,j,f,q,g,o⟩:=h;refine ae.bs (Ci U U U) (ae.af.2 ?_);show(bf (e8 c a),())=_;rw[BF f g.symm,gC,if_pos j]
  ·have h:i=_:=h;rw[h];exact ae.af.2 rfl
def bK (a:Int):Int:=a/4503599627370496 %2048
def fj (a:Int):Int:=a %4503599627370496
def dX (a:Int):Prop:=0<=a/\a<18446744073709551616
def ea (a:Int):abV:=
 if bK a=2047 then none
 else e8 (if a<9223372036854775808 then if bK a=0 then fj a else fj a+4503599627370496 else-(if bK a=0 then fj a else fj a+4503599627370496)) (if bK a=0 then-1074 else bK a-1075)
theorem mN (b:Int):e1 (ea b):=by
 intro c a;unfold ea at a;split at a
 ·cases a
 ·exact EX _ _ c a
theorem FE (a:dX b):uu (b,())=some (bK b,fj b,()):=by unfold uu;dsimp only;have c:=a.1;have d:=a.2;rw[ry aa aa,Option.bind_some,show(2:Int)^(52:Int).toNat=4503599627370496 from rfl,qp 11 U U 2047 aa aa,qp 52 U U 4503599627370495 aa aa,bp U U];rfl
theorem HQ (k:dX b):(dq IntKind.u64 b 9223372036854775808 !=0)=decide (9223372036854775808<=b):=by
 obtain⟨c,m⟩:=k;obtain⟨a,rfl⟩:=eY c;have j:a<18446744073709551616:=U;have h:(9223372036854775808:Int)=((2^63:Nat):Int):=rfl;rw[h,Hq j aa,dr];rcases bb a (2^63) with d|d
 ·have f:a&&&2^63=0:=by
   refine Nat.eq_of_testBit_eq λl=>?_;rw[Nat.testBit_and,yP,Nat.zero_testBit];by_cases e:63=l
   ·subst e;rw[Nat.testBit_lt_two_pow d];rfl
   ·rw[ay e,Bool.and_false]
  rw[f,az (show((0:Nat):Int)=0 from rfl),ay (U:¬(((2^63:Nat):Int)<=(a:Int)))];rfl
 ·have f:a&&&2^63≠0:=by
   intro i;have c:(a&&&2^63).testBit 63=false:=(by rw[i];exact Nat.zero_testBit 63);rw[Nat.testBit_and,yP] at c;obtain⟨g,rfl⟩:∃g,a=2^63*1+g:=⟨a-2^63,U⟩;rw[Nat.testBit_two_pow_mul_add 1 U,if_neg U] at c;exact absurd c aa
  rw[ay (U:¬(((a&&&2^63:Nat):Int)=0)),az (U:(((2^63:Nat):Int)<=(a:Int)))];rfl
theorem Wn (a:dX b):zI (b,())=some (decide (9223372036854775808<=b),()):=by unfold zI;dsimp only;rw[HQ a]
theorem Bo (a:dX b):qB (b,())=some (!decide (bK b=2047),()):=by unfold qB;refine au (FE a) ?_;dsimp only;rw[dr]
def uY (a:Int):Int:=if bK a=2047 then if fj a=0 then 2 else 3 else if bK a=0/\fj a=0 then 0 else 1
theorem JL (f:dX b):wI (b,())=some (uY b,()):=by
 unfold wI uY;refine au (FE f) ?_;dsimp only;rw[dT,dr,dT,dT];by_cases c:bK b=2047
 ·rw[az c,if_pos c];by_cases a:fj b=0
  ·rw[az a,if_pos a];rfl
  ·rw[ay a,if_neg a];rfl
 ·rw[ay c,if_neg c];by_cases d:bK b=0
  ·rw[az d];by_cases a:fj b=0
   ·rw[az a,if_pos ⟨d,a⟩];rfl
   ·rw[ay a,if_neg (λe=>a e.2)];rfl
  ·rw[ay d,if_neg (λe=>d e.1)];rfl
theorem xv (a:Int):0<=fj a/\fj a<4503599627370496:=by unfold fj;omega
theorem xu (a:Int):0<=bK a/\bK a<2048:=by unfold bK;omega
theorem vi (g:dX b):pp (b,())=some (bf (ea b),()):=by
 unfold pp ea;have o:=xv b;have n:=xu b;refine au (FE g) ?_;dsimp only;rw[dT,dT];by_cases e:bK b=2047
 ·rw[az e,if_pos e];rfl
 rw[ay e,if_neg e];obtain⟨c,d,h,i,j,k,l,f⟩:∃c d,(bif decide (bK b=0) then some (Sum.inl ((-1074:Int),fj b,((false,((false,([],())),((0:Int),()))):di),())) else some (.inl (aw (bK b-1075),eP IntKind.u64 (fj b) 4503599627370496,(false,((false,([],())),((0:Int),()))),())):Option ((Int×Int×di×Unit)⊕gd))=some (.inl (d,c,(false,((false,([],())),((0:Int),()))),()))/\0<=c/\c<9007199254740992/\-1074<=d/\d<=972/\(c=(if bK b=0 then fj b else fj b+4503599627370496)/\d=(if bK b=0 then-1074 else bK b-1075)):=by
  by_cases a:bK b=0
  ·refine⟨fj b,-1074,?_,U,U,U,U,by rw[if_pos a],by rw[if_pos a]⟩;rw[az a];rfl
  ·refine⟨fj b+4503599627370496,bK b-1075,?_,U,U,U,U,by rw[if_neg a],by rw[if_neg a]⟩;rw[ay a,bp U U,lq 52 U U U U U aa];rfl
 rw[<-f.1,<-f.2];refine au h ?_;dsimp only;rw[bp U U];have m:aC c.natAbs<=53:=dF.2 U;refine au (Ec U U) ?_;refine au (y:=((false,((false,([],())),((0:Int),()))),aL (if b<9223372036854775808 then c else-c),())) ?_ ?_
 ·refine au (Wn g) ?_;dsimp only;by_cases a:b<9223372036854775808
  ·rw[ay (U:¬(9223372036854775808<=b)),if_pos a];rfl
  ·rw[az (U:9223372036854775808<=b),if_neg a];exact au (Ky (h0 U)) rfl
 ·dsimp only;refine au (BB ?_ U U) rfl;split
  ·omega
  ·rw[tN];omega
def np (d:Bool) (a:Nat) (b:Int) (c:Bool):qn:=(d,aL (a:Int),b,c,())
theorem eK (a:Nat):(a:Int).natAbs=a:=by omega
theorem VF (e:aC a<=900000) (c:-10000000<=b) (d:b<=10000000):zB (np l a b g,())=some (b+aC a-1,()):=by unfold zB np;refine au (sc (h0 (by rw[eK];omega))) ?_;rw[eK];dsimp only;rw[bp (x:=b+(aC a:Int)) U U,bp U U]
theorem Tl (p:aC a<=900000) (w:0<a) (C:0<c) (D:c<=10000000):wE (np l a b g,(c:Int),())=some (aL ((a/2^c:Nat):Int),kn a c g,decide (a %2^c=0)&&!g,()):=by
 unfold wE np;refine au (sc (h0 (by rw[eK];omega))) ?_;rw[eK];dsimp only;have E:=Nat.two_pow_pos c;rw[bu];split
 ·rename_i h;have t:a<2^(c-1):=dF.1 U;obtain⟨d,rfl⟩:∃d,c=d+1:=⟨c-1,U⟩;simp only[v7] at t;have aj:a %2^(d+1)=a:=Nat.mod_eq_of_lt (by rw[jO];omega);have j:a/2^(d+1)=0:=Nat.div_eq_of_lt (by rw[jO];omega);rw[aj,j];have o:kn a (d+1) g=-1:=(by unfold kn;rw[aj,if_pos (by rw[jO];omega)]);rw[o,ay (U:¬a=0)];rfl
 rename_i h;have A:=Nat.div_add_mod a (2^c);have F:aC (a/2^c)<=900000:=Nat.le_trans (kG (Nat.div_le_self _ _)) p;have G:aC (a %2^c)<=900000:=Nat.le_trans (kG (Nat.mod_le _ _)) p;have q:a/2^c*2^c<=a:=Nat.div_mul_le_self _ _;refine au (L3 (m:=(a:Int)) (n:=c) (by rw[eK];omega) U) ?_;have aj:(a:Int)/2^c=((a/2^c:Nat):Int):=(by rw[<-kS,<-Int.natCast_ediv]);rw[aj];refine au (u2 (m:=((a/2^c:Nat):Int)) (k:=(c:Int)) (by rw[eK];omega) U U) ?_;have j:((a/2^c:Nat):Int)*2^(c:Int).toNat=((a/2^c*2^c:Nat):Int):=(by rw[Int.toNat_natCast,<-kS,<-Int.natCast_mul]);rw[j];refine au (aaP (x:=(a:Int)) (y:=((a/2^c*2^c:Nat):Int)) (by rw[eK];omega) (by rw[eK];exact Nat.le_trans (kG q) U)) ?_;have o:(a:Int)-((a/2^c*2^c:Nat):Int)=((a %2^c:Nat):Int):=(by rw[Nat.mul_comm] at q|-;omega);rw[o];refine au (Ec (n:=1) aa aa) ?_;dsimp only;rw[bp (x:=(c:Int)-1) U U];refine au (u2 (m:=1) (k:=(c:Int)-1) aa U U) ?_;obtain⟨d,rfl⟩:∃d,c=d+1:=⟨c-1,U⟩;have r:(1:Int)*2^(((d+1:Nat):Int)-1).toNat=((2^d:Nat):Int):=(by rw[Int.one_mul,<-kS];congr 2;omega);rw[r];have B:aC (2^d)<=900000:=(by have:aC (2^d)<=d+1:=dF.2 (Nat.pow_lt_pow_right aa U);omega);refine au (H9 (x:=((a %2^(d+1):Nat):Int)) (y:=((2^d:Nat):Int)) (by rw[eK];omega) (by rw[eK];omega)) ?_;dsimp only;have s:(if eO ((a %2^(d+1):Nat):Int) ((2^d:Nat):Int)=0/\g=true then 1 else eO ((a %2^(d+1):Nat):Int) ((2^d:Nat):Int))=kn a (d+1) g:=by
  unfold kn eO;have u:2^(d+1)=2*2^d:=(by rw[jO,im]);generalize a %2^(d+1)=e at*;rw[u];generalize 2^d=i at*;rcases k5 e i with f|f|f
  ·rw[if_pos (U:(e:Int)<(i:Int)),if_neg ac,if_pos U]
  ·subst f;have v:(if(e:Int)<(e:Int) then(-1:Int) else if(e:Int)<(e:Int) then 1 else 0)=0:=ac;rw[v,if_neg (U:¬(2*e<2*e)),if_neg (U:¬(2*e<2*e))];cases g<;>simp
  ·rw[if_neg (U:¬((e:Int)<(i:Int))),if_pos (U:(i:Int)<(e:Int)),if_neg ac,if_neg U,if_pos U]
 refine au (y:=(kn a (d+1) g,aL ((a/2^(d+1):Nat):Int),aL ((a %2^(d+1):Nat):Int),())) ?_ ?_
 ·rw[<-s,dT];by_cases f:eO ((a %2^(d+1):Nat):Int) ((2^d:Nat):Int)=0
  ·rw[az f];cases g
   ·rw[if_neg (λh=>Bool.false_ne_true h.2)];rfl
   ·rw[if_pos ⟨f,rfl⟩];rfl
  ·rw[ay f,if_neg (λh=>f h.1)];rfl
 ·refine au (pX (z:=((a %2^(d+1):Nat):Int)) (h0 (by rw[eK];omega))) ?_;dsimp only;rw[nD];by_cases f:a %2^(d+1)=0
  ·rw[az (U:((a %2^(d+1):Nat):Int)=0),az f];cases g<;>rfl
  ·rw[ay (U:¬((a %2^(d+1):Nat):Int)=0),ay f];rfl
theorem x2 {n:Nat}:(n≠0/\bC n=0)↔n %2=1:=by
 constructor
 ·rintro⟨c,a⟩;have:=sY (n:=n) (k:=1) U;rw[a,Nat.pow_one] at this;omega
 ·intro b;refine⟨U,?_⟩;have:=sY (n:=n) (k:=1) U;rw[Nat.pow_one] at this;omega
theorem Wi {f:Int} (A:aC a<=900000) (E:0<a) (K:-1000000<=b-e) (w:b-e<=1000000):zC (np l a b g,e,f,())=some (aL (if l then-((if e<=b then a*2^(b-e).toNat else hH l a (e-b).toNat g f:Nat):Int) else((if e<=b then a*2^(b-e).toNat else hH l a (e-b).toNat g f:Nat):Int)),()):=by
 unfold zC;have v:∀d:Nat,aC d<=2000000->(Option.bind (α:=lL) (
  bif l then
 (qD (aL (d:Int),())).bind λ(J,_)=>
 some (((false,([],())):dp),J,()) else
 some ((false,([],())),aL (d:Int),())) λ(_,I,_)=>
 some (I,()))=some (aL (if l then-(d:Int) else(d:Int)),()):=λd M=>by
  cases l
  ·rfl
  ·refine au (y:=((false,([],())),aL (-(d:Int)),())) ?_ rfl;have L:Fit (d:Int)\/True:=.inr trivial;have B:=gP (z:=(d:Int)) (by rw[eK];omega);refine au (y:=(aL (-(d:Int)),())) ?_ rfl;unfold qD;refine au (wu (by have:=B.2.2;omega)) (au (ue (kI _) (by have:=B.2.2;omega)) ?_);have h:=CG (aL (d:Int)).1 (aL (d:Int)).2.1;have w:=mZ (d:Int);rw[h];show some (aL (-fm (aL (d:Int))),())=_;rw[w]
 by_cases m:e<=b
 ·rw[if_pos m];obtain⟨c,j⟩:∃c:Nat,b-e=c:=⟨(b-e).toNat,U⟩;rw[j,dc];refine au (y:=((-1:Int),true,(false,([],())),aL ((a*2^c:Nat):Int),())) ?_ ?_
  ·show(bif decide (e<=b) then _ else _)=_;rw[az m];refine au (y:=(aL ((a*2^c:Nat):Int),())) ?_ rfl;show lS (aL (a:Int),aw (b-e),())=_;rw[bp U U,u2 (by rw[eK];omega) U U,j,dc,kf,kS]
  ·refine au rfl (au rfl ?_);exact v _ (dn y9 U)
 ·rw[if_neg m];obtain⟨c,j⟩:∃c:Nat,e-b=c:=⟨(e-b).toNat,U⟩;rw[j,dc];refine au (y:=(kn a c g,decide (a %2^c=0)&&!g,(false,([],())),aL ((a/2^c:Nat):Int),())) ?_ ?_
  ·show(bif decide (e<=b) then _ else _)=_;rw[ay m];refine au (y:=(aL ((a/2^c:Nat):Int),kn a c g,decide (a %2^c=0)&&!g,())) ?_ rfl;show wE (np l a b g,aw (e-b),())=_;rw[bp U U,j];exact Tl A E U U
  ·have F:aC (a/2^c)<=900000:=dn (kG (v8 _ _)) A;refine au (y:=(!(decide (a %2^c=0)&&!g)&&tA l (kn a c g) (decide (a/2^c %2=1)) f,(false,([],())),aL ((a/2^c:Nat):Int),())) ?_ ?_
   ·dsimp only;cases i:(decide (a %2^c=0)&&!g) with
    |true=>rfl
    |false=>
     show(bif f==1 then some (l,_,_,()) else _)=_;unfold tA;rw[dT,dT,dT];by_cases p:f=1
     ·rw[az p,if_pos p];rfl
     rw[ay p,if_neg p];by_cases q:f=2
     ·rw[az q,if_pos q];rfl
     rw[ay q,if_neg q];by_cases r:f=3
     ·rw[az r,if_pos r];rfl
     rw[ay r,if_neg r];generalize kn a c g=k;show(bif decide (k>0)==false then _ else _)=_;by_cases u:k>0
     ·rw[az u];rfl
     rw[ay u];show(bif (k==0)==true then _ else _)=_;rw[dT];by_cases t:k=0
     ·rw[az t];refine au (pX (z:=((a/2^c:Nat):Int)) (h0 (by rw[eK];omega))) ?_;dsimp only;have C:=x2 (n:=a/2^c);rw[dr];by_cases s:a/2^c=0
      ·rw[az (show eQ ((a/2^c:Nat):Int)=0 by rw[s];rfl),ay (show¬(a/2^c %2=1) by rw[s];decide)];rfl
      ·have G:eQ ((a/2^c:Nat):Int)≠0:=by
        unfold eQ;rw[if_neg U];split<;>omega
       rw[ay G];refine au (Nc (z:=((a/2^c:Nat):Int)) (h0 (by rw[eK];omega)) U) ?_;rw[eK];dsimp only;rw[dT];by_cases D:bC (a/2^c)=0
       ·rw[az (U:(bC (a/2^c):Int)=0),az (C.1 ⟨s,D⟩)];rfl
       ·rw[ay (U:¬(bC (a/2^c):Int)=0),ay (λh=>D (C.2 h).2)];rfl
     ·rw[ay t];rfl
   ·dsimp only;refine au (y:=((false,([],())),aL ((hH l a c g f:Nat):Int),())) ?_ ?_
    ·unfold hH;by_cases i:a %2^c=0/\g=false
     ·rw[if_pos i,az i.1,i.2];rfl
     ·have H:(decide (a %2^c=0)&&!g)=false:=by
       by_cases h:a %2^c=0
       ·cases g
        ·exact absurd ⟨h,rfl⟩ i
        ·rw[az h];rfl
       ·rw[ay h];rfl
      rw[if_neg i,H];by_cases o:tA l (kn a c g) (decide (a/2^c %2=1)) f=true
      ·rw[if_pos o,o];refine au (Ec (n:=1) aa aa) ?_;refine au (C0 (x:=((a/2^c:Nat):Int)) (y:=1) (by rw[eK];omega) aa) ?_;rfl
      ·rw[if_neg o,Bool.eq_false_iff.2 o];rfl
    ·refine v _ ?_;have:hH l a c g f<=a/2^c+1:=by
      unfold hH;split
      ·omega
      ·split<;>omega
     exact dn (kG this) (dn (HV F (aa:aC 1<=900000)) U)
theorem ys (a:0<=b) (c:b<9223372036854775808):so (b,g,())=some (ks g b,()):=by
 unfold so ks;cases g
 ·rfl
 ·dsimp only;rw[lq 63 a (by exact c) aa U aa aa,Int.add_comm];rfl
theorem LB:zJ (g,b,())=some (mP g b,()):=by
 unfold zJ mP;dsimp only;refine au (y:=if(b=3\/(b=1/\g=false)\/(b=2/\g=true)) then .inr (ks g 9218868437227405311,()) else .inl ()) ?_ ?_
 ·refine au (y:=(decide (b=3\/(b=1/\g=false)\/(b=2/\g=true)),())) ?_ ?_
  ·rw[dT,dT,dT];by_cases e:b=3
   ·subst e;simp
   ·by_cases c:b=1
    ·subst c;cases g<;>simp
    ·by_cases d:b=2
     ·subst d;cases g<;>simp
     ·simp[c,d,e]
  ·dsimp only;by_cases a:(b=3\/(b=1/\g=false)\/(b=2/\g=true))
   ·rw[az a,if_pos a];exact au (ys aa aa) rfl
   ·rw[ay a,if_neg a];rfl
 ·by_cases a:(b=3\/(b=1/\g=false)\/(b=2/\g=true))
  ·rw[if_pos a,if_pos a]
  ·rw[if_neg a,if_neg a];exact au (ys aa aa) rfl
theorem CB {neg ri:Bool} {e rf:Int} (g:0<a):(if bM a e<=e then a*2^(e-bM a e).toNat else hH neg a (bM a e-e).toNat ri rf)<=9007199254740992:=by
 have c:=dF.1 (aY (aC a));have i:=pi g;have j:e+aC a-53<=bM a e:=(by unfold bM;omega);split
 ·rename_i d;have b:a*2^(e-bM a e).toNat<2^aC a*2^(e-bM a e).toNat:=Nat.mul_lt_mul_of_pos_right c (i5 _);rw[<-jq] at b;have h:2^(aC a+(e-bM a e).toNat)<=2^53:=o7 aa U;have f:(2:Nat)^53=9007199254740992:=aa;omega
 ·rename_i d;have b:a/2^(bM a e-e).toNat<2^53:=by
   rw[Nat.div_lt_iff_lt_mul (i5 _),<-jq];exact hp c (o7 aa U)
  have f:(2:Nat)^53=9007199254740992:=aa;unfold hH;split
  ·omega
  ·split<;>omega
theorem Mb {f:Int} (s:aC a<=800000) (j:0<a) (q:-500000<=b) (r:b<=500000):wL (np g a b l,f,())=some (jg g a b l f,()):=by
 have t:=pi j;have u:=CB (neg:=g) (ri:=l) (rf:=f) (e:=b) j;have o:jg g a b l f=kQ g (if bM a b<=b then a*2^(b-bM a b).toNat else hH g a (bM a b-b).toNat l f) (bM a b) f:=(by unfold jg;split<;>rfl);have p:bM a b=if(-1074:Int)>b+aC a-1-52 then-1074 else b+aC a-1-52:=by unfold bM;split<;>omega
 have w:-1074<=bM a b:=(by unfold bM;omega);have A:bM a b<=1400000:=(by unfold bM;omega);unfold wL;refine au (VF U U U) ?_;dsimp only;rw[bp U U,<-p,o];refine au (Wi U j ?_ ?_) ?_
 ·unfold bM;omega
 ·unfold bM;omega
 generalize(if bM a b<=b then a*2^(b-bM a b).toNat else hH g a (bM a b-b).toNat l f)=c at*;generalize bM a b=d at*;have v:aC c<=54:=dF.2 U;have n:(if g then-(c:Int) else(c:Int)).natAbs=c:=(by cases g<;>simp);refine au (CY (h0 (by rw[n];omega))) ?_;rw[n];refine au (U7 (z:=(c:Int)) U U) ?_;dsimp only;rw[dv (x:=(c:Int)) U U,dT];show Option.bind _ _=some (kQ g c d f,());unfold kQ;by_cases k:c=9007199254740992
 ·rw[az (U:(c:Int)=9007199254740992),if_neg (U:¬c<4503599627370496),if_pos k];refine au (y:=(d+1,4503599627370496,())) ?_ ?_
  ·show some (aZ d,4503599627370496,())=_;unfold aZ;rw[wrap64 U U]
  dsimp only;rw[ay (U:¬((4503599627370496:Int)<4503599627370496)),bp U U,cond_false,bu];split
  ·rename_i i;exact au LB rfl
  ·rename_i i;rw[dv U U,mb aa aa,show(2:Int)^(52:Int).toNat=4503599627370496 from rfl,aG];have aj:aR (4503599627370496-4503599627370496)=0:=(by rw[dv U U];omega);have h:(d+1+1075)*4503599627370496 %18446744073709551616=(d+1+1075)*4503599627370496:=U;rw[aj,h,x7,lq 52 aa aa U aa U U,qd];exact au (ys U U) rfl
 ·rw[ay (U:¬(c:Int)=9007199254740992)];refine au (y:=(d,(c:Int),())) rfl ?_;dsimp only;rw[bu];by_cases m:c<4503599627370496
  ·rw[if_pos (U:(c:Int)<4503599627370496),if_pos m];exact au (ys U U) rfl
  ·rw[if_neg (U:¬(c:Int)<4503599627370496),if_neg m,if_neg k,bp U U,bu];split
   ·rename_i i;exact au LB rfl
   ·rename_i i;rw[dv (x:=d+1075) U U,mb aa aa,show(2:Int)^(52:Int).toNat=4503599627370496 from rfl,Option.bind_some,dv (x:=(c:Int)-4503599627370496) U U];have h:(d+1075)*4503599627370496 %18446744073709551616=(d+1075)*4503599627370496:=U;rw[h,x7,lq 52 U U U U U U];refine au (ys U U) ?_;dsimp only;congr 3;omega
def ow (c d:abV) (e:Int):Int:=match c,d with
 |some a,some b=>if b=0 then 9221120237041090560 else if a=0 then 0 else tj a b e
 |_,_=>9221120237041090560
def lu (b:abV) (c:Int):Int:=match b with
 |some a=>if a<0 then 9221120237041090560 else if a=0 then 0 else pT a c
 |none=>9221120237041090560
theorem Fb (a:Int):(aL (bj a)).1=decide (a<0):=by show decide (bj a<0)=_;rw[decide_eq_decide];exact xZ
theorem ZA (i:fk b) (j:fk e) (o:b≠0) (p:e≠0) (k:Int):∃d f l,zA (bf (some b),bf (some e),56,())=some (np (decide (b<0)!=decide (e<0)) d f l,())/\0<d/\aC d<=800000/\-500000<=f/\f<=500000/\jg (decide (b<0)!=decide (e<0)) d f l k=tj b e k:=by
 have v:=l6 i;have w:=l6 j;have z:=kT i;have A:=kT j;have t:0<(bj b).natAbs:=(by have:=ln o;omega);have u:0<(bj e).natAbs:=(by have:=ln p;omega);obtain⟨a,g⟩:∃a,a=pR (bj b).natAbs (bj e).natAbs:=⟨_,rfl⟩;have C:a<=131131:=(by rw[g];unfold pR;omega);have h:58<=aC ((bj b).natAbs*2^a/(bj e).natAbs):=LP t u (by rw[g];unfold pR;omega);have B:aC ((bj b).natAbs*2^a)<=262203:=(by have:=y9 (m:=(bj b).natAbs) (n:=a);omega);refine⟨(bj b).natAbs*2^a/(bj e).natAbs,bJ b-a-bJ e,decide ((bj b).natAbs*2^a %(bj e).natAbs≠0),?_,?_,?_,U,U,?_⟩
 ·unfold zA;rw[iv,iv];refine au (sc (h0 U)) (au (sc (h0 U)) (au (CY (h0 U)) ?_));dsimp only;have aj:(if aw (aw (aw (56+3)+(aC (bj e).natAbs:Int))-(aC (bj b).natAbs:Int))>0 then aw (aw (aw (56+3)+(aC (bj e).natAbs:Int))-(aC (bj b).natAbs:Int)) else 0)=(a:Int):=by
   rw[bp (x:=56+3) aa aa,bp (x:=56+3+(aC (bj e).natAbs:Int)) U U,bp U U,g];unfold pR;split<;>omega
  rw[aj];refine au (u2 (m:=((bj b).natAbs:Int)) (by rw[eK];omega) U U) (au (CY (h0 U)) ?_);have q:((bj b).natAbs:Int)*2^(a:Int).toNat=(((bj b).natAbs*2^a:Nat):Int):=(by rw[Int.toNat_natCast,<-kS,<-Int.natCast_mul]);rw[q];refine au (Tu (x:=(((bj b).natAbs*2^a:Nat):Int)) (y:=((bj e).natAbs:Int)) (by rw[eK];omega) (by rw[eK];omega) U U) ?_;rw[<-Int.natCast_ediv,<-Int.natCast_emod];have D:aC ((bj b).natAbs*2^a %(bj e).natAbs)<=900000:=Nat.le_trans (kG (Nat.mod_le _ _)) U;refine au (pX (h0 (by rw[eK];omega))) ?_;dsimp only;rw[bp (x:=bJ b-(a:Int)) U U,bp U U,Fb,Fb];unfold np;have r:(eQ (((bj b).natAbs*2^a %(bj e).natAbs:Nat):Int)!=0)=decide ((bj b).natAbs*2^a %(bj e).natAbs≠0):=by
   show(!(eQ (((bj b).natAbs*2^a %(bj e).natAbs:Nat):Int)==0))=_;rw[nD];by_cases c:(bj b).natAbs*2^a %(bj e).natAbs=0
   ·rw[az U,ay (λs=>s c)];rfl
   ·rw[ay U,az c];rfl
  rw[r];rfl
 ·rcases g7 ((bj b).natAbs*2^a/(bj e).natAbs) with c|c
  ·rw[c] at h;exact absurd h aa
  ·exact c
 ·exact dn (kG (v8 _ _)) U
 ·unfold tj B9;rw[<-g];congr 1;unfold bJ;rw[if_neg o,if_neg p];omega
theorem I9 (f:e1 q) (e:e1 j):wJ (bf q,bf j,b,())=some (ow q j b,()):=by
 unfold wJ;refine au (xk f) (au (xk e) ?_);dsimp only;rw[A2,A2];cases q with
 |none=>cases j<;>rfl
 |some c=>
  cases j with
  |none=>rfl
  |some a=>
   by_cases d:a=0
   ·subst d;refine au (y:=.inr (9221120237041090560,())) ?_ rfl;refine au (y:=(true,bf (some c),bf (some 0),())) ?_ rfl;refine au (mC e) ?_;rfl
   by_cases g:c=0
   ·subst g;refine au (y:=.inr (0,())) ?_ ?_
    ·refine au (y:=(false,bf (some 0),bf (some a),())) ?_ ?_
     ·refine au (mC e) ?_;dsimp only;rw[show oC (some a)=eQ a from rfl,nD,ay d]
     ·refine au (mC f) ?_;rfl
    ·unfold ow;simp only;rw[if_neg d];rfl
   ·obtain⟨o,p,r,h,i,k,l,m,n⟩:=ZA (f c rfl) (e a rfl) g d b;refine au (y:=.inl (bf (some c),bf (some a),())) ?_ ?_
    ·refine au (y:=(false,bf (some c),bf (some a),())) ?_ ?_
     ·refine au (mC e) ?_;dsimp only;rw[show oC (some a)=eQ a from rfl,nD,ay d]
     ·refine au (mC f) ?_;dsimp only;rw[show oC (some c)=eQ c from rfl,nD,ay g];rfl
    ·refine au h (au (Mb k i l m) ?_);unfold ow;simp only;rw[if_neg d,if_neg g,n]
theorem ZR (r:fk b) (I:0<b) (s:Int):∃g h t,zD (bf (some b),56,())=some (np false g h t,())/\0<g/\aC g<=800000/\-500000<=h/\h<=500000/\jg false g h t s=pT b s:=by
 have A:=l6 r;have J:=kT r;have u:b≠0:=U;have O:0<bj b:=(by have:=xZ (v:=b);have:=ln u;omega);obtain⟨a,B⟩:∃a:Nat,bj b=a:=⟨(bj b).toNat,U⟩;have o:(bj b).natAbs=a:=U;rw[o] at A;have C:0<a:=U;have E:bJ b=gz b:=(by unfold bJ;rw[if_neg u]);obtain⟨c,f⟩:∃c,c=ls a (bJ b):=⟨_,rfl⟩;have L:c<=119:=(by rw[f];unfold ls;split<;>omega);have M:118<=aC a+c:=(by rw[f];unfold ls;split<;>omega);have N:(bJ b-c) %2=0:=(by rw[f];unfold ls;split<;>omega);have K:aC (a*2^c)<=131191:=(by have:=y9 (m:=a) (n:=c);omega);have q:58<=aC (ef (a*2^c)):=Ev (by rw[my C];omega);have F:ef (a*2^c)<=a*2^c:=by
  obtain⟨H,R⟩:=xG (a*2^c);rcases g7 (ef (a*2^c)) with d|d
  ·omega
  ·exact dn (Nat.le_mul_of_pos_left _ d) H
 have P:=kG F;refine⟨ef (a*2^c),(bJ b-c)/2,decide (ef (a*2^c)*ef (a*2^c)≠a*2^c),?_,?_,U,U,U,?_⟩
 ·unfold zD;rw[iv,B];refine au (sc (h0 (by rw[eK];omega))) ?_;rw[eK];dsimp only;have aj:(if aw (aw (2*aw (56+3))-(aC a:Int))>0 then aw (aw (2*aw (56+3))-(aC a:Int)) else 0)=((118-aC a:Nat):Int):=by
   rw[bp (x:=56+3) aa aa,bp (x:=2*(56+3)) aa aa,bp U U];split<;>omega
  rw[aj];refine au (y:=((c:Int),(false,((false,([],())),((0:Int),(false,())))),())) ?_ ?_
  ·rw[bp U U];refine au (y:=(bJ b-((118-aC a:Nat):Int)).tmod 2) (by unfold gV;rw[if_pos aa]) ?_;rw[dr];have p:((bJ b-((118-aC a:Nat):Int)).tmod 2=0)↔((bJ b-((118-aC a:Nat):Int)) %2=0):=by
    constructor
    ·intro e;have:=Int.dvd_of_tmod_eq_zero e;omega
    ·intro e;exact Int.tmod_eq_zero_of_dvd (Int.dvd_of_emod_eq_zero e)
   by_cases d:(bJ b-((118-aC a:Nat):Int)) %2=0
   ·rw[az (p.2 d)];show some (((118-aC a:Nat):Int),_,())=_;rw[f];unfold ls;rw[if_pos d]
   ·rw[ay (λe=>d (p.1 e))];show some (aZ ((118-aC a:Nat):Int),_,())=_;rw[bA U,f];unfold ls;rw[if_neg d]
  ·dsimp only;refine au (u2 (m:=(a:Int)) (k:=(c:Int)) (by rw[eK];omega) U U) ?_;have w:(a:Int)*2^(c:Int).toNat=((a*2^c:Nat):Int):=by
    rw[dc,<-kS,<-kf]
   rw[w];refine au (aaD (x:=((a*2^c:Nat):Int)) (by rw[eK];omega) U) ?_;rw[Int.toNat_natCast];dsimp only;rw[bp U U];refine au (y:=(bJ b-c)/2) ?_ ?_
   ·unfold h3;have:(bJ b-(c:Int)).tdiv 2=(bJ b-(c:Int))/2:=by
     obtain⟨j,D⟩:∃j,bJ b-(c:Int)=2*j:=⟨(bJ b-(c:Int))/2,U⟩;rw[D,Int.mul_tdiv_cancel_left _ aa,Int.mul_ediv_cancel_left _ aa]
    rw[if_pos aa,this,wrap64 U U]
   refine au (Kr (x:=(ef (a*2^c):Int)) (y:=(ef (a*2^c):Int)) (by rw[eK];omega) (by rw[eK];omega)) ?_;rw[<-Int.natCast_mul];have Q:aC (ef (a*2^c)*ef (a*2^c))<=900000:=(by have:=qu (k:=131191) (l:=131191) (U:aC (ef (a*2^c))<=131191) (U:aC (ef (a*2^c))<=131191);omega);refine au (H9 (x:=((ef (a*2^c)*ef (a*2^c):Nat):Int)) (y:=((a*2^c:Nat):Int)) (by rw[eK];omega) (by rw[eK];omega)) ?_;dsimp only;unfold np;have z:(eO ((ef (a*2^c)*ef (a*2^c):Nat):Int) ((a*2^c:Nat):Int)!=0)=decide (ef (a*2^c)*ef (a*2^c)≠a*2^c):=by
    rw[dr];generalize ef (a*2^c)*ef (a*2^c)=i;generalize a*2^c=G;by_cases d:i=G
    ·subst d;rw[ay (show¬(i≠i) fromλe=>e rfl),az (by unfold eO;rw[if_neg U,if_neg U])];rfl
    ·rw[az d,ay (by unfold eO;split;omega;split<;>omega)];rfl
   rw[z]
 ·rcases g7 (ef (a*2^c)) with d|d
  ·rw[d] at q;exact absurd q aa
  ·exact d
 ·unfold pT yh;rw[o,<-E,<-f]
theorem Jc (c:e1 j):wK (bf j,b,())=some (lu j b,()):=by
 unfold wK;refine au (xk c) ?_;dsimp only;rw[A2];cases j with
 |none=>rfl
 |some a=>
  have e:oC (some a)=eQ a:=rfl;by_cases d:a<0
  ·refine au (y:=.inr (9221120237041090560,())) ?_ ?_
   ·refine au (y:=(true,bf (some a),())) ?_ rfl;refine au (mC c) ?_;dsimp only;rw[e,az (show eQ a<0 by unfold eQ;rw[if_neg U,if_pos d];decide)]
   ·unfold lu;simp only;rw[if_pos d]
  ·have n:decide (eQ a<0)=false:=ay (by unfold eQ;split;omega;first|decide|(split<;>omega));by_cases f:a=0
   ·subst f;refine au (y:=.inr (0,())) ?_ rfl;refine au (y:=(false,bf (some 0),())) ?_ ?_
    ·exact au (mC c) rfl
    ·exact au (mC c) rfl
   ·obtain⟨o,p,q,g,h,i,k,l,m⟩:=ZR (c a rfl) U b;refine au (y:=.inl (bf (some a),())) ?_ ?_
    ·refine au (y:=(false,bf (some a),())) ?_ ?_
     ·refine au (mC c) ?_;dsimp only;rw[e,n]
     ·refine au (mC c) ?_;dsimp only;rw[e,nD,ay f];rfl
    ·refine au g (au (Mb i h k l) ?_);unfold lu;simp only;rw[if_neg d,if_neg f,m]
theorem Z7:pu (aL 0,())=some (0,()):=by
 unfold pu;refine au (vx (l:=[]) aS.nil (λf b=>by cases b) aa) ?_;refine ae.eq_iff.1 (ae.aW (P:=λd=>d=.inl ()) ?_ ?_)
 ·refine ae.steps 0 (λc a=>a=((0:Int),())) rfl (λc a e=>by omega) ?_;rintro _ rfl;exact ae.af.2 rfl
 ·rintro _ rfl;exact ae.af.2 rfl
theorem L8 {n:Nat} (e:aC n<=900000):∃c,pu (aL (n:Int),())=some (c,())/\((c=0/\n≠0)↔n %2=1):=by
 by_cases d:n=0
 ·subst d;exact⟨0,Z7,ac⟩
 ·refine⟨(bC n:Int),?_,?_⟩
  ·have:=Mh (z:=(n:Int)) (by rw[eK];omega) U;rw[eK] at this;exact this
  ·rw[<-x2];constructor
   ·rintro⟨a,b⟩;exact⟨b,U⟩
   ·rintro⟨a,b⟩;exact⟨U,a⟩
theorem abc:AC (l,e,g,b,())=some (tA l e g b,()):=by
 unfold AC tA;dsimp only;rw[dT,dT,dT,dT];by_cases a:b=1
 ·rw[az a,if_pos a];rfl
 rw[ay a,if_neg a];by_cases c:b=2
 ·rw[az c,if_pos c];rfl
 rw[ay c,if_neg c];by_cases d:b=3
 ·rw[az d,if_pos d];rfl
 rw[ay d,if_neg d];by_cases h:e>0
 ·rw[az h];rfl
 rw[ay h];by_cases f:e=0
 ·rw[az f];cases g<;>rfl
 ·rw[ay f];rfl
theorem ZD (D:aC a<=800000) (F:c<=1000000):AA (l,aL (a:Int),(c:Int),g,b,())=some (aL ((hH l a c g b:Nat):Int),()):=by
 unfold AA;have w:∀h:Nat,(a:Int)/2^h=((a/2^h:Nat):Int):=λh=>(by rw[<-kS,<-Int.natCast_ediv]);have A:∀h:Nat,decide (((a:Int).natAbs:Int) %2^h≠0)=decide (a %2^h≠0):=λh=>(by rw[eK,<-kS,<-Int.natCast_emod,decide_eq_decide];omega);have k:∀h,aC (a/2^h)<=800000:=λh=>Nat.le_trans (kG (Nat.div_le_self _ _)) D;refine au (FR (m:=(a:Int)) (n:=c) (by rw[eK];omega) U) ?_;rw[w];refine au (L4 (z:=(a:Int)) (n:=c) (by rw[eK];omega) U) ?_;rw[A];dsimp only;by_cases o:a %2^c=0/\g=false
 ·refine au (y:=.inr (aL ((a/2^c:Nat):Int),())) ?_ ?_
  ·rw[ay (λe=>e o.1),o.2];rfl
  ·unfold hH;rw[if_pos o]
 refine au (y:=.inl ((false,([],())),aL ((a/2^c:Nat):Int),())) ?_ ?_
 ·by_cases e:a %2^c=0
  ·have:g=true:=by
    cases g
    ·exact absurd ⟨e,rfl⟩ o
    ·rfl
   rw[ay (λC=>C e),this];rfl
  ·rw[az e];rfl
 dsimp only;refine au (y:=(kn a c g,(false,([],())),aL ((a/2^c:Nat):Int),())) ?_ ?_
 ·rw[bu];split
  ·rename_i e;obtain⟨d,rfl⟩:∃d,c=d+1:=⟨c-1,U⟩;have B:aw (((d+1:Nat):Int)-1)=(d:Int):=(by rw[bp U U];omega);rw[B];refine au (FR (m:=(a:Int)) (n:=d) (by rw[eK];omega) U) ?_;rw[w];obtain⟨v,u,j⟩:=L8 (n:=a/2^d) (by have:=k d;omega);have r:=Wd a d 1;rw[Nat.pow_one] at r;have E:=Nat.mod_lt a (i5 d);have G:2^(d+1)=2*2^d:=(by rw[jO,im]);refine au (y:=(decide (a/2^d %2=1),(false,([],())),aL ((a/2^(d+1):Nat):Int),())) ?_ ?_
   ·refine au u ?_;dsimp only;rw[dT];by_cases i:v=0
    ·rw[az i];refine au (yi (z:=((a/2^d:Nat):Int)) (by rw[eK];have:=k d;omega)) ?_;dsimp only;have q:(eQ ((a/2^d:Nat):Int)!=0)=decide (a/2^d %2=1):=by
      show(!(eQ ((a/2^d:Nat):Int)==0))=_;rw[nD];by_cases f:a/2^d=0
      ·rw[az U,ay (λe=>(j.2 e).2 f)];rfl
      ·rw[ay U,az (j.1 ⟨i,f⟩)];rfl
     rw[q]
    ·rw[ay i,ay (λe=>i (j.2 e).1)];rfl
   ·dsimp only;unfold kn;by_cases s:a/2^d %2=1
    ·rw[az s];have t:a %2^(d+1)=2^d+a %2^d:=(by rw[r,s,g0]);rw[t,if_neg U];cases g
     ·show(Option.bind _ _)=_;refine au (L4 (z:=(a:Int)) (n:=d) (by rw[eK];omega) U) ?_;rw[A];dsimp only;by_cases f:a %2^d=0
      ·rw[ay (λe=>e f),f,if_neg U];rfl
      ·rw[az f,if_pos U];rfl
     ·show some (1,_,_,())=_;split<;>rfl
    ·rw[ay s];have t:a %2^(d+1)=a %2^d:=by
      rw[r,(U:a/2^d %2=0),na,ip]
     rw[t,if_pos U];rfl
  ·rename_i e;obtain rfl:c=0:=U;unfold kn;rw[if_pos (by rw[Nat.pow_zero,Nat.mod_one];decide)]
 ·dsimp only;obtain⟨v,u,j⟩:=L8 (n:=a/2^c) (by have:=k c;omega);refine au (y:=(decide (a/2^c %2=1),(false,([],())),aL ((a/2^c:Nat):Int),())) ?_ ?_
  ·refine au (yi (z:=((a/2^c:Nat):Int)) (by rw[eK];have:=k c;omega)) ?_;dsimp only;have q:(eQ ((a/2^c:Nat):Int)!=0)=decide (a/2^c≠0):=by
    show(!(eQ ((a/2^c:Nat):Int)==0))=_;rw[nD];by_cases f:a/2^c=0
    ·rw[az U,ay (λe=>e f)];rfl
    ·rw[ay U,az f];rfl
   rw[q];by_cases f:a/2^c=0
   ·rw[ay (λe=>e f),ay (λe=>(j.2 e).2 f)];rfl
   ·rw[az f];refine au u ?_;dsimp only;rw[dT];by_cases i:v=0
    ·rw[az i,az (j.1 ⟨i,f⟩)]
    ·rw[ay i,ay (λe=>i (j.2 e).1)]
  ·dsimp only;refine au (y:=((false,([],())),aL ((hH l a c g b:Nat):Int),())) ?_ rfl;refine au abc ?_;dsimp only;unfold hH;rw[if_neg o];by_cases p:tA l (kn a c g) (decide (a/2^c %2=1)) b=true
   ·rw[if_pos p,p];refine au (FV (n:=1) aa aa) ?_;refine au (Ca (x:=((a/2^c:Nat):Int)) (y:=1) (by rw[eK];have:=k c;omega) aa) ?_;rfl
   ·rw[if_neg p,Bool.eq_false_iff.2 p];rfl
theorem yj (a:0<=b) (c:b<9223372036854775808):pw (g,b,())=some (ks g b,()):=by
 unfold pw ks;cases g
 ·rfl
 ·dsimp only;rw[lq 63 a (by exact c) aa U aa aa,Int.add_comm];rfl
theorem FZ:xa (g,b,())=some (mP g b,()):=by
 unfold xa mP;dsimp only;refine au (y:=if(b=3\/(b=1/\g=false)\/(b=2/\g=true)) then .inr (ks g 9218868437227405311,()) else .inl ()) ?_ ?_
 ·refine au (y:=(decide (b=3\/(b=1/\g=false)\/(b=2/\g=true)),())) ?_ ?_
  ·rw[dT,dT,dT];by_cases e:b=3
   ·subst e;simp
   ·by_cases c:b=1
    ·subst c;cases g<;>simp
    ·by_cases d:b=2
     ·subst d;cases g<;>simp
     ·simp[c,d,e]
  ·dsimp only;by_cases a:(b=3\/(b=1/\g=false)\/(b=2/\g=true))
   ·rw[az a,if_pos a];exact au (yj aa aa) rfl
   ·rw[ay a,if_neg a];rfl
 ·by_cases a:(b=3\/(b=1/\g=false)\/(b=2/\g=true))
  ·rw[if_pos a,if_pos a]
  ·rw[if_neg a,if_neg a];exact au (yj aa aa) rfl
theorem aba {neg ri:Bool} {e rf:Int} (c:0<a) (k:-1074<bM a e):4503599627370496<=(if bM a e<=e then a*2^(e-bM a e).toNat else hH neg a (bM a e-e).toNat ri rf):=by
 obtain⟨d,i⟩:=wj c;have j:=pi c;have l:bM a e=e+aC a-53:=(by unfold bM at*;omega);have h:(2:Nat)^52=4503599627370496:=aa;split
 ·rename_i f;have b:2^(aC a-1)*2^(e-bM a e).toNat<=a*2^(e-bM a e).toNat:=ga _ d;rw[<-jq] at b;have g:2^52<=2^(aC a-1+(e-bM a e).toNat):=o7 aa U;omega
 ·rename_i f;have b:2^52<=a/2^(bM a e-e).toNat:=by
   rw[yO (i5 _),<-jq];exact dn (o7 aa U) d
  unfold hH;split
  ·omega
  ·split<;>omega
theorem Z3 {f:Int} (u:aC a<=800000) (m:0<a) (E:-500000<=b) (F:b<=500000) (B:l=true->54<=aC a):AF (g,aL (a:Int),b,l,f,())=some (jg g a b l f,()):=by
 have G:=pi m;have H:=CB (neg:=g) (ri:=l) (rf:=f) (e:=b) m;have q:=aba (neg:=g) (ri:=l) (rf:=f) (e:=b) m;have r:jg g a b l f=kQ g (if bM a b<=b then a*2^(b-bM a b).toNat else hH g a (bM a b-b).toNat l f) (bM a b) f:=(by unfold jg;split<;>rfl);have s:bM a b=if(-1074:Int)>b+aC a-1-52 then-1074 else b+aC a-1-52:=by unfold bM;split<;>omega
 have I:-1074<=bM a b:=(by unfold bM;omega);have J:bM a b<=1400000:=(by unfold bM;omega);have C:-1000000<=bM a b-b:=(by unfold bM;omega);have D:bM a b-b<=1000000:=(by unfold bM;omega);unfold AF;refine au (FP (z:=(a:Int)) (by rw[eK];omega)) ?_;rw[eK];dsimp only;rw[bp (x:=b+(aC a:Int)) U U,bp (x:=b+(aC a:Int)-1) U U,bp (x:=b+(aC a:Int)-1-52) U U,<-s,r,bu];split
 ·rename_i v;have K:972<=bM a b:=(by unfold bM;omega);have q:=q U;refine au FZ ?_;clear s r C D;generalize(if bM a b<=b then a*2^(b-bM a b).toNat else hH g a (bM a b-b).toNat l f)=d at*;unfold kQ;rw[if_neg U];by_cases j:d=9007199254740992
  ·rw[if_pos j,if_pos U]
  ·rw[if_neg j,if_pos U]
 rename_i v;refine au (y:=(aL ((if bM a b<=b then a*2^(b-bM a b).toNat else hH g a (bM a b-b).toNat l f:Nat):Int),())) ?_ ?_
 ·rw[bu];split
  ·rename_i h;obtain⟨i,o⟩:∃i:Nat,bM a b-b=i:=⟨(bM a b-b).toNat,U⟩;rw[bp (x:=bM a b-b) U U,o,Int.toNat_natCast];refine au (ZD u U) ?_;dsimp only;by_cases t:bM a b<=b
   ·have w:i=0:=U;have A:l=false:=by
     cases l
     ·rfl
     ·have:=B rfl;exfalso;unfold bM at*;omega
    rw[if_pos t,w];unfold hH;rw[if_pos ⟨by rw[Nat.pow_zero,Nat.mod_one],A⟩,(U:(b-bM a b).toNat=0)];simp
   ·rw[if_neg t]
  ·rename_i h;obtain⟨i,o⟩:∃i:Nat,b-bM a b=i:=⟨(b-bM a b).toNat,U⟩;rw[bp (x:=b-bM a b) U U,if_pos U,o,dc];refine au (Md (z:=(a:Int)) (n:=i) (by rw[eK];omega) U) ?_;rw[kf,kS]
 generalize(if bM a b<=b then a*2^(b-bM a b).toNat else hH g a (bM a b-b).toNat l f)=d at*;generalize bM a b=c at*;dsimp only;refine au (ZM (z:=(d:Int)) U U) ?_;dsimp only;rw[dT];unfold kQ;by_cases j:d=9007199254740992
 ·rw[az (U:(d:Int)=9007199254740992),if_neg (U:¬d<4503599627370496),if_pos j];refine au (y:=(c+1,4503599627370496,())) ?_ ?_
  ·show some (aZ c,4503599627370496,())=_;unfold aZ;rw[wrap64 U U]
  dsimp only;rw[bp (x:=c+1+53) U U,az (U:(4503599627370496:Int)>=4503599627370496)];by_cases h:c+1+1075>=2047
  ·rw[if_pos h];refine au (y:=.inr (mP g f,())) ?_ rfl;refine au (y:=(true,())) ?_ (au FZ rfl);rw[az (U:c+1+53>1024)];rfl
  ·rw[if_neg h];refine au (y:=.inr (ks g ((c+1+1075)*4503599627370496),())) ?_ rfl;refine au (y:=(false,())) ?_ ?_
   ·rw[ay (U:¬c+1+53>1024)];rfl
   dsimp only;rw[bp (x:=c+1+1075) U U,dv (x:=c+1+1075) U U,mb aa aa,show(2:Int)^(52:Int).toNat=4503599627370496 from rfl];have aj:aR (aw (4503599627370496-4503599627370496))=0:=(by rw[bp U U,dv U U];omega);have k:(c+1+1075)*4503599627370496 %18446744073709551616=(c+1+1075)*4503599627370496:=U;rw[aj,k];show((pw (g,eP IntKind.u64 ((c+1+1075)*4503599627370496) 0,())).bind _)=_;rw[x7,lq 52 aa aa U aa U U,Int.zero_add];exact au (yj U U) rfl
 ·rw[ay (U:¬(d:Int)=9007199254740992)];refine au (y:=(c,(d:Int),())) rfl ?_;dsimp only;rw[bp (x:=c+53) U U];by_cases p:d<4503599627370496
  ·rw[ay (U:¬((d:Int)>=4503599627370496)),if_pos p,dv (x:=(d:Int)) U U];refine au (y:=.inl ()) ?_ ?_
   ·exact au rfl rfl
   ·exact au (yj U U) rfl
  ·rw[az (U:((d:Int)>=4503599627370496)),if_neg p,if_neg j];by_cases h:c+1075>=2047
   ·rw[if_pos h];refine au (y:=.inr (mP g f,())) ?_ rfl;refine au (y:=(true,())) ?_ (au FZ rfl);rw[az (U:c+53>1024)];rfl
   ·rw[if_neg h];refine au (y:=.inr (ks g ((c+1075)*4503599627370496+((d:Int)-4503599627370496)),())) ?_ rfl;refine au (y:=(false,())) ?_ ?_
    ·rw[ay (U:¬c+53>1024)];rfl
    dsimp only;rw[bp (x:=c+1075) U U,dv (x:=c+1075) U U,mb aa aa,show(2:Int)^(52:Int).toNat=4503599627370496 from rfl];have aj:aR (aw ((d:Int)-4503599627370496))=(d:Int)-4503599627370496:=(by rw[bp U U,dv U U]);have k:(c+1075)*4503599627370496 %18446744073709551616=(c+1075)*4503599627370496:=U;rw[aj,k];show((pw (g,eP IntKind.u64 ((c+1075)*4503599627370496) ((d:Int)-4503599627370496),())).bind _)=_;rw[x7,lq 52 U U U U U U];refine au (yj U U) ?_;dsimp only;congr 4;omega
theorem Ho (a:dX b):dm IntKind.u64 b 52=some (b/4503599627370496)/\dq IntKind.u64 (b/4503599627370496) 2047=bK b/\dq IntKind.u64 b 4503599627370495=fj b:=by
 have c:=a.1;have d:=a.2;refine⟨?_,?_,?_⟩
 ·rw[ry aa aa];rfl
 ·rw[qp 11 U U 2047 aa aa];rfl
 ·rw[qp 52 U U 4503599627370495 aa aa];rfl
theorem FW (d:dX b):uL (b,())=some (!decide (bK b=2047),()):=by obtain⟨a,c,e⟩:=Ho d;unfold uL;refine au a ?_;rw[c,dr]
theorem ZN (a:dX b):AD (b,())=some (decide (9223372036854775808<=b),()):=by unfold AD;dsimp only;rw[HQ a]
theorem ZQ (g:dX e):AE (e,())=some (bf (ea e),()):=by
 obtain⟨i,j,k⟩:=Ho g;have t:=xv e;have s:=xu e;unfold AE ea;refine au (FW g) ?_;dsimp only;by_cases f:bK e=2047
 ·rw[az f,if_pos f];rfl
 rw[ay f,if_neg f,show(!!false)=false from rfl,cond_false,i,aG,j,k,bp (x:=bK e) U U];obtain⟨a,d,l,n,o,p,q,h⟩:∃a d,(bif decide (bK e>0) then some (eP IntKind.u64 (fj e) 4503599627370496,aw (bK e-1075),((false,((false,([],())),((0:Int),()))):di),()) else some (fj e,(-1074:Int),(false,((false,([],())),((0:Int),()))),()))=some (a,d,(false,((false,([],())),((0:Int),()))),())/\0<=a/\a<9007199254740992/\-1074<=d/\d<=972/\(a=(if bK e=0 then fj e else fj e+4503599627370496)/\d=(if bK e=0 then-1074 else bK e-1075)):=by
  by_cases c:bK e=0
  ·refine⟨fj e,-1074,?_,U,U,U,U,by rw[if_pos c],by rw[if_pos c]⟩;rw[ay (U:¬bK e>0)];rfl
  ·refine⟨fj e+4503599627370496,bK e-1075,?_,U,U,U,U,by rw[if_neg c],by rw[if_neg c]⟩;rw[az (U:bK e>0),bp U U,lq 52 U U U U U aa];rfl
 rw[<-h.1,<-h.2];refine au l ?_;dsimp only;refine au (ZN g) ?_;rw[mT,Option.bind_some];dsimp only;rw[p4 a,kv (x:=a/4294967296) U U];have r:aC a.natAbs<=53:=dF.2 U;refine au (L5 (b:=(decide (9223372036854775808<=e),[a %4294967296,a/4294967296],())) (m:=if e<9223372036854775808 then a else-a) (aS.cons.2 ⟨⟨U,U⟩,aS.cons.2 ⟨⟨U,U⟩,aS.nil⟩⟩) ac ?_ ?_ U U) rfl
 ·unfold fm;simp only[ag];by_cases c:e<9223372036854775808
  ·rw[ay (U:¬(9223372036854775808<=e)),if_pos c,if_neg ac];omega
  ·rw[az (U:9223372036854775808<=e),if_neg c,if_pos rfl];omega
 ·split
  ·omega
  ·rw[tN];omega
def oy (a:abV) (b:Int):Int:=match a with
 |none=>9221120237041090560
 |some c=>yg c b
theorem Mc (d:e1 j):w9 (bf j,b,())=some (oy j b,()):=by
 unfold w9;refine au (FQ d) ?_;dsimp only;rw[A2];cases j with
 |none=>rfl
 |some c=>
  have e:=d c rfl;have h:=l6 e;have i:=kT e;rw[iv];refine au (yi U) ?_;dsimp only;rw[nD];unfold oy yg;by_cases a:c=0
  ·subst a;rw[az (show bj 0=0 from rfl)];rfl
  ·rw[ay (ln a)];simp only;rw[if_neg a,cond_false];have g:0<(bj c).natAbs:=(by have:=ln a;omega);refine au (FN U) ?_;dsimp only;rw[Fb];refine au (Z3 U g U U (λf=>by cases f)) ?_;unfold bJ;rw[if_neg a]
theorem JB (a:Int):e1 (oh a):=EX a 0
theorem Ch (a:-9223372036854775808<=b) (c:b<=9223372036854775807):sy (b,e,())=some (oy (oh b) e,()):=by unfold sy;exact au (LU a c) (au (Mc (JB b)) rfl)
def re (a:Int) (b:Nat):Nat:=((a %18446744073709551616) %(b:Int)).toNat
theorem BI (a:Int) {n:Nat} (b:0<n):re a n<n:=by unfold re;have c:=oR (a %18446744073709551616) (U:(n:Int)≠0);have d:=qa (a %18446744073709551616) (U:(0:Int)<(n:Int));omega
theorem xW (a:Int) {n:Nat} (c:0<n) (e:n<=9223372036854775807):qF (a,(n:Int),())=some ((re a n:Int),()):=by unfold qF;have d:=BI a c;have b:(a %18446744073709551616) %(n:Int)=(re a n:Int):=(by unfold re;have:=Int.emod_nonneg (a %18446744073709551616) (U:(n:Int)≠0);omega);dsimp only;rw[ly a,dv (x:=(n:Int)) U U,(FL (x:=a %18446744073709551616) (y:=(n:Int)) ⟨U,U⟩ U).2,b];show some (aw (re a n:Int),())=_;rw[yz U]
theorem abz (a b:Int):dX (rH IntKind.u64 a b):=by unfold rH dX;rw[yA];omega
theorem Gz (e:ab1) (h:e.length<=9223372036854775807) (d:Int):ae (sv (e,d,())) (λc=>dX c.1):=by
 have g:∀b c:Int,0<=c->∃f,dm IntKind.u64 b c=some f:=λb c a=>(by unfold dm;rw[if_pos a];exact⟨_,rfl⟩);unfold sv;dsimp only;refine ae.aW (P:=λ_=>True) ?_ ?_
 ·rw[bu];refine ae.ite (λa=>?_) λa=>ae.af.2 trivial;have a:0<e.length:=(by simp only[a7] at a;omega);have i:=BI d a;refine ae.bs (xW d a h) (ae.bs (bX i) (ae.af.2 trivial))
 ·rintro⟨b,_⟩ _;dsimp only;obtain⟨f,j⟩:=g b 31 aa;refine ae.bs j ?_;obtain⟨l,k⟩:=g (aR (rH IntKind.u64 b f*13787848793156543929)) 29 aa;exact ae.bs k (ae.af.2 (abz _ _))
theorem Cq (a:0<=b) (c:b<9223372036854775808):dX (ks g b):=by unfold ks dX;cases g<;>simp<;>omega
theorem LA (b:Bool) (a:Int):dX (mP b a):=by unfold mP;split<;>exact Cq aa aa
theorem Y0 (c:a<=9007199254740992) (d:-1074<=b):dX (kQ g a b e):=by
 unfold kQ;split
 ·exact Cq U U
 ·split
  ·split
   ·exact LA _ _
   ·exact Cq U U
  ·split
   ·exact LA _ _
   ·exact Cq U U
theorem FX {c:Int} (d:0<a):dX (jg g a b l c):=by have f:=CB (neg:=g) (ri:=l) (rf:=c) (e:=b) d;have i:-1074<=bM a b:=(by unfold bM;omega);have h:jg g a b l c=kQ g (if bM a b<=b then a*2^(b-bM a b).toNat else hH g a (bM a b-b).toNat l c) (bM a b) c:=(by unfold jg;split<;>rfl);rw[h];exact Y0 f i
theorem BJ:dX 9221120237041090560:=⟨aa,aa⟩
theorem L6 (b:abV) (c:Int):dX (oy b c):=by
 unfold oy;cases b with
 |none=>exact BJ
 |some d=>
  simp only;unfold yg;by_cases a:d=0
  ·rw[if_pos a];exact⟨aa,aa⟩
  ·rw[if_neg a];exact FX (by have:=ln a;omega)
theorem Zs (i:Int):dX (ow j q i):=by
 unfold ow;cases j with
 |none=>exact BJ
 |some a=>
  cases q with
  |none=>exact BJ
  |some b=>
   simp only;by_cases c:b=0
   ·rw[if_pos c];exact⟨aa,aa⟩
   by_cases e:a=0
   ·rw[if_neg c,if_pos e];exact⟨aa,aa⟩
   rw[if_neg c,if_neg e];unfold tj B9;have g:0<(bj a).natAbs:=(by have:=ln e;omega);have h:0<(bj b).natAbs:=(by have:=ln c;omega);have f:58<=aC ((bj a).natAbs*2^pR (bj a).natAbs (bj b).natAbs/(bj b).natAbs):=LP g h (by unfold pR;omega);refine FX ?_;rcases g7 ((bj a).natAbs*2^pR (bj a).natAbs (bj b).natAbs/(bj b).natAbs) with d|d
   ·rw[d] at f;exact absurd f aa
   ·exact d
theorem ZS (g:Int):dX (lu j g):=by
 unfold lu;cases j with
 |none=>exact BJ
 |some a=>
  simp only;by_cases c:a<0
  ·rw[if_pos c];exact⟨aa,aa⟩
  by_cases d:a=0
  ·rw[if_neg c,if_pos d];exact⟨aa,aa⟩
  rw[if_neg c,if_neg d];unfold pT yh;have f:0<(bj a).natAbs:=(by have:=ln d;omega);have e:58<=aC (ef ((bj a).natAbs*2^ls (bj a).natAbs (gz a))):=Ev (by rw[my f];unfold ls;split<;>omega);refine FX ?_;rcases g7 (ef ((bj a).natAbs*2^ls (bj a).natAbs (gz a))) with b|b
  ·rw[b] at e;exact absurd e aa
  ·exact b
theorem Lw (a b:Int):dX (eP IntKind.u64 a b):=by unfold eP dX;rw[yA];omega
theorem WD (a:dX b) (c:Int):ae (Am (b,c,())) (λd=>dX d.1):=by
 have e:=a.1;have f:=a.2;unfold Am;dsimp only;refine ae.bs (xW c (n:=4) aa aa) ?_;dsimp only;rw[dT,dT,dT,bu];refine ae.ite (λ_=>?_) λ_=>?_
 ·rw[ry aa aa,aG,mb aa aa,aG];exact ae.af.2 (Lw _ _)
 rw[bu];refine ae.ite (λ_=>?_) λ_=>?_
 ·rw[ry aa aa,aG];unfold gV;rw[if_pos aa,aG,mb aa aa,aG];exact ae.af.2 (Lw _ _)
 rw[bu];refine ae.ite (λ_=>?_) λ_=>?_
 ·refine ae.bs (FW a) ?_;dsimp only;cases decide (bK b=2047)
  ·exact ae.af.2 a
  ·exact ae.af.2 ⟨aa,aa⟩
 ·unfold DH;refine ae.bs (y:=(oy (oh (b %19-9)) 0,())) ?_ (ae.af.2 ?_)
  ·refine au (y:=b %19) ?_ ?_
   ·unfold gV;rw[if_pos aa,yK e]
   dsimp only;rw[bp (x:=b %19) U U,bp U U];exact au (Ch U U) rfl
  ·exact L6 _ _
structure et (rows fR:Nat) (st mI rE:ab1):Prop where
 len:st.length=fR+1
 first:st.getD 0 0=0
 mono:∀j,j<fR->st.getD j 0<=st.getD (j+1) 0
 last:st.getD fR 0=(mI.length:Int)
 val:rE.length=mI.length
 rng:∀j k:Nat,j<fR->st.getD j 0<=(k:Int)->(k:Int)<st.getD (j+1) 0->0<=mI.getD k 0/\mI.getD k 0<(rows:Int)
 asc:∀j k:Nat,j<fR->st.getD j 0<(k:Int)->(k:Int)<st.getD (j+1) 0->mI.getD (k-1) 0<mI.getD k 0
theorem fL {i:Nat} (a:i<d.length):aA d (i:Int)=some (d.getD i 0):=by rw[bX a,jY a]
theorem aaB (t:d.length<=1000000):Ag (d,())=some (open Classical in decide (∀a,a+1<d.length->d.getD a 0<=d.getD (a+1) 0),()):=by
 classical
 unfold Ag;dsimp only;refine ae.eq_iff.1 (ae.aW (P:=λg=>match g with|.inl _=>(∀a,a+1<d.length->d.getD a 0<=d.getD (a+1) 0)|.inr q=>q=(false,())/\¬(∀a,a+1<d.length->d.getD a 0<=d.getD (a+1) 0)) ?_ ?_)
 ·refine ae.loop (λh=>∃c:Nat,(h.1=(c:Int)\/(h.1=-1/\c=0))/\c<=d.length/\(c<d.length\/d.length=0)/\(∀a,c<=a->a+1<d.length->d.getD a 0<=d.getD (a+1) 0)) (λh=>h.1.toNat) ⟨d.length-1,?_,U,U,λa e i=>by omega⟩ ?_
  ·simp only[a7];rw[bp U U];omega
  ·rintro⟨r,_⟩ ⟨c,e,i,s,j⟩;dsimp only at e|-;rw[bu];refine ae.ite (λk=>?_) λk=>?_
   ·obtain rfl:r=(c:Int):=U;obtain⟨b,rfl⟩:∃b,c=b+1:=⟨c-1,U⟩;have aj:aw (((b+1:Nat):Int)-1)=(b:Int):=(by rw[bp U U];omega);rw[aj];refine ae.bs (fL U) (ae.bs (fL U) ?_);refine ae.bs (y:=(decide (d.getD (b+1) 0<d.getD b 0),())) (by unfold sl qz;simp only[bne_self_eq_false,Option.bind_some];rfl) ?_;dsimp only;rw[bu];refine ae.ite (λp=>?_) λp=>?_
    ·refine ae.af.2 ⟨rfl,λl=>?_⟩;have:=l b U;omega
    ·refine ae.af.2 ⟨⟨b,.inl rfl,U,U,λa i1 n=>?_⟩,?_⟩
     ·rcases bb b a with o|o
      ·exact j a U n
      ·obtain rfl:a=b:=U;omega
     ·show(b:Int).toNat<((b+1:Nat):Int).toNat;omega
   ·refine ae.af.2 ?_;intro a m;exact j a U m
 ·rintro(g|g) f
  ·have f:(∀a,a+1<d.length->d.getD a 0<=d.getD (a+1) 0):=f;rw[decide_eq_true f];exact ae.af.2 rfl
  ·obtain⟨e,i⟩:g=(false,())/\¬(∀a,a+1<d.length->d.getD a 0<=d.getD (a+1) 0):=f;rw[e,decide_eq_false i];exact ae.af.2 rfl
def hG (e:Int) (d b:ab1) (c:Nat):Prop:=∀a:Nat,d.getD c 0<=(a:Int)->(a:Int)<d.getD (c+1) 0->(if(a:Int)=d.getD c 0 then-1 else b.getD (a-1) 0)<b.getD a 0/\b.getD a 0<e
theorem hG.pos (i:hG b d f a) (l:0<=d.getD a 0):∀c:Nat,d.getD a 0<=(c:Int)->(c:Int)<d.getD (a+1) 0->0<=f.getD c 0:=by
 intro c
 induction c with
 |zero=>
  intro e g;have:=(i 0 e g).1;rw[if_pos U] at this;omega
 |succ c k=>
  intro e g;have j:=(i (c+1) e g).1;by_cases h:((c+1:Nat):Int)=d.getD a 0
  ·rw[if_pos h] at j;omega
  ·rw[if_neg h,v7] at j;have:=k U U;omega
theorem hG.rng (k:0<=d.getD a 0):hG b d f a↔(∀c:Nat,d.getD a 0<=(c:Int)->(c:Int)<d.getD (a+1) 0->0<=f.getD c 0/\f.getD c 0<b)/\(∀c:Nat,d.getD a 0<(c:Int)->(c:Int)<d.getD (a+1) 0->f.getD (c-1) 0<f.getD c 0):=by
 constructor
 ·intro h;refine⟨λc e g=>⟨h.pos k c e g,(h c e g).2⟩,λc e g=>?_⟩;have:=(h c U g).1;rwa[if_neg U] at this
 ·rintro⟨e,g⟩ c j i;refine⟨?_,(e c j i).2⟩;split
  ·have:=(e c j i).1;omega
  ·exact g c U i
theorem aaw {l:ab1} {lo hi t:Nat} (a:hi<=l.length) (b:lo+t<hi):((l.take hi).drop lo).length=hi-lo/\((l.take hi).drop lo)[t]?=some (l.getD (lo+t) 0):=by refine⟨by simp;omega,?_⟩;rw[iG,rU,if_pos U,be U,jY U]
theorem aax {l:ab1} {lo:Nat} (b:a<=l.length):((l.take a).drop lo).length=a-lo:=by simp;omega
theorem et.iff:et c a d f i↔d.length=a+1/\d.getD 0 0=0/\(∀b,b<a->d.getD b 0<=d.getD (b+1) 0)/\d.getD a 0=(f.length:Int)/\i.length=f.length/\∀b,b<a->hG (c:Int) d f b:=by
 have o:(∀b,b<a->d.getD b 0<=d.getD (b+1) 0)->d.getD 0 0=0->∀b,b<=a->0<=d.getD b 0:=λq s b=>by
  induction b with
  |zero=>intro _;omega
  |succ b r=>intro e;have:=r U;have:=q b U;omega
 constructor
 ·rintro⟨l,h,j,m,n,k,p⟩;exact⟨l,h,j,m,n,λb e=>(hG.rng (o j h b U)).2 ⟨λg=>k b g e,λg=>p b g e⟩⟩
 ·rintro⟨l,h,j,m,n,k⟩;exact⟨l,h,j,m,n,λb g e=>((hG.rng (o j h b U)).1 (k b e)).1 g,λb g e=>((hG.rng (o j h b U)).1 (k b e)).2 g⟩
section
open Go.Proofs
def yu:List (String×DataW Unit):=[("math/bits.deBruijn32tab",Lib.tabData .u8 n3)]
theorem aaV (b:Os) (a:abS):laidMetH Tryz.prog yu ((World.doorLaid Tryz.prog 400 b).forCall (λ_ _=>0) ⟨#[],a,[]⟩).memory:=
 laidMetH_of_parts3 (fuel:=8) (laidMet_of_run' 8 (by kernel_rfl) (by kernel_rfl)) (by kernel_rfl) (by kernel_rfl)
theorem aaU {b:World} (c:laidMetH Tryz.prog yu b):jL E (λr=>r<b.heap.size) b:=by
 rw[MakeChecks.laidMetH_plain _ _ _ (by kernel_rfl)] at c;have f:Tryz.prog.globalNamed "math/bits.deBruijn32tab"=some 0:=(by kernel_rfl);have j:=Lib.tabIs_of_head (g:=0) (t:=266) (e:=5) (n:=32) f (by kernel_rfl) (by kernel_rfl) (by kernel_rfl) (by kernel_rfl) (by kernel_rfl) c;intro q h;have h:q∈[(⟨0,266,.u8,n3⟩:r4)]:=h;obtain rfl:=eS.1 h;have s:0<b.heap.size:=by
  have d:=j.cell f 0 aa;unfold World.cell? at d;split at d
  ·rename_i x w y v;exact(md.1 v).1
  ·cases d
 refine⟨rfl,_,_,rfl,aY _,(λc=>by cases c),.inr ⟨0,0,rfl,s,λa p i=>?_⟩⟩;obtain⟨l,i⟩:=ey.1 i;refine⟨[.int .u8 p],rfl,λo z m=>?_,rfl,rfl⟩;have k:=j.cell f a l;have u:(n3.getD a 0:Int)=p:=(by rw[jY l];exact i);rw[u] at k;cases o with
 |zero=>
  obtain rfl:=dV m;have:(⟨0,0+a*ah.size (.int .u8)+0,none⟩:Addr)=⟨0,a,none⟩:=(by show(⟨0,0+a*1+0,none⟩:Addr)=_;congr 1;omega);rw[this];exact k
 |succ o=>cases m
end
section
theorem S6 {n:ab1} (ap:c<=200) (ad:a<=200) (R:d.length<=10000) (Y:f.length<=1000000) (a0:n.length<=1000000):z7 (((c:Int),(a:Int),f,d,n,()),())=some (open Classical in decide (et c a f d n),()):=by
 classical
 unfold z7;refine ae.eq_iff.1 ?_;dsimp only;have X:aZ (a:Int)=((a+1:Nat):Int):=bA U;have L:∀(h:¬et c a f d n),(false,())=(decide (et c a f d n),()):=λh=>(by rw[decide_eq_false h]);refine ae.aW (P:=λk=>match k with
  |.inl _=>f.length=a+1/\f.getD 0 0=0/\(∀b,b<a->f.getD b 0<=f.getD (b+1) 0)/\f.getD a 0=(d.length:Int)/\n.length=d.length
  |.inr q=>q=(false,())/\¬et c a f d n) ?_ ?_
 ·rw[X,dr];by_cases z:f.length=a+1
  ·rw[az (show ax f=((a+1:Nat):Int) by simp only[a7];omega)];refine ae.bs (y:=f.getD 0 0) (fL (i:=0) U) ?_;rw[dr];by_cases v:f.getD 0 0=0
   ·rw[az v];refine ae.bs (aaB Y) ?_;dsimp only;by_cases o:∀r,r+1<f.length->f.getD r 0<=f.getD (r+1) 0
    ·rw[decide_eq_true o];refine ae.bs (y:=f.getD a 0) (fL U) ?_;rw[dr];by_cases w:f.getD a 0=(d.length:Int)
     ·rw[az (show f.getD a 0=ax d from w),dr];by_cases E:d.length=n.length
      ·rw[az (show ax d=ax n by simp only[a7];omega)];exact ae.af.2 ⟨z,v,λb s=>o b U,w,U⟩
      ·rw[ay (show¬ax d=ax n by simp only[a7];omega)];exact ae.af.2 ⟨rfl,λh=>E h.val.symm⟩
     ·rw[ay (show¬f.getD a 0=ax d from w)];exact ae.af.2 ⟨rfl,λh=>w h.last⟩
    ·rw[decide_eq_false o];exact ae.af.2 ⟨rfl,λh=>o λr R=>h.mono r (by have:=h.len;omega)⟩
   ·rw[ay v];exact ae.af.2 ⟨rfl,λh=>v h.first⟩
  ·rw[ay (show¬ax f=((a+1:Nat):Int) by simp only[a7];omega)];exact ae.af.2 ⟨rfl,λh=>z h.len⟩
 ·rintro(k|k) D
  rotate_left
  ·obtain⟨rfl,h⟩:k=(false,())/\¬et c a f d n:=D;exact ae.af.2 (L h)
  obtain⟨z,v,o,w,E⟩:f.length=a+1/\f.getD 0 0=0/\(∀b,b<a->f.getD b 0<=f.getD (b+1) 0)/\f.getD a 0=(d.length:Int)/\n.length=d.length:=D;have N:∀b,b<=a->0<=f.getD b 0:=λb=>by
   induction b with
   |zero=>intro _;omega
   |succ b G=>intro s;have:=G U;have:=o b U;omega
  have D:∀A b,b+A=a->f.getD b 0<=(d.length:Int):=λA=>by
   induction A with
   |zero=>intro b s;obtain rfl:b=a:=s;omega
   |succ A G=>intro b s;have:=G (b+1) U;have:=o b U;omega
  dsimp only;refine ae.aW (P:=λk=>match k with
   |.inl _=>(∀b,b<a->hG (c:Int) f d b)
   |.inr q=>q=(false,())/\¬(∀b,b<a->hG (c:Int) f d b)) ?_ ?_
  ·refine ae.steps a (λr H=>H=((r:Int),())/\∀b,b<r->hG (c:Int) f d b) ⟨rfl,λb s=>by omega⟩ ?_ ?_
   ·rintro b _ s ⟨rfl,B⟩;dsimp only;rw[bn (az (U:(b:Int)<(a:Int))),bA U];obtain⟨e,M⟩:=Int.eq_ofNat_of_zero_le (N b U);obtain⟨p,T⟩:=Int.eq_ofNat_of_zero_le (N (b+1) U);have F:p<=d.length:=(by have:=D (a-(b+1)) (b+1) U;omega);have W:e<=p:=(by have:=o b s;omega);refine ae.bs (y:=(e:Int)) (by rw[fL U,M]) (ae.bs (y:=(p:Int)) (by rw[fL U,T]) (ae.bs (y:=(e,p)) (by rw[s8,Option.bind_some,s8,Option.bind_some,u1 ⟨W,F⟩];rfl) ?_));dsimp only;have an:=aax (l:=d) (lo:=e) F;refine ae.aW (P:=λk=>match k with
     |.inl _=>hG (c:Int) f d b
     |.inr q=>q=.inr (.inr (false,()))/\¬hG (c:Int) f d b) ?_ ?_
    ·refine ae.steps (p-e) (λg H=>H=((if g=0 then-1 else d.getD (e+g-1) 0),(g:Int),())/\∀j:Nat,e<=j->j<e+g->(if(j:Int)=f.getD b 0 then-1 else d.getD (j-1) 0)<d.getD j 0/\d.getD j 0<(c:Int)) ⟨rfl,λj B C=>by omega⟩ ?_ ?_
     ·rintro g _ av ⟨rfl,C⟩;have S:=(aaw (l:=d) (lo:=e) (hi:=p) (t:=g) F U).2;have V:(if g=0 then-1 else d.getD (e+g-1) 0)=(if((e+g:Nat):Int)=f.getD b 0 then-1 else d.getD (e+g-1) 0):=by
       rw[M];by_cases Q:g=0
       ·subst Q;rw[if_pos rfl,if_pos U]
       ·rw[if_neg Q,if_neg U]
      dsimp only;rw[bn (az (show(g:Int)<ax ((d.take p).drop e) by simp only[a7];omega)),V];refine ae.aW (P:=λk=>match k with
       |.inl q=>q=(d.getD (e+g) 0,())/\((if((e+g:Nat):Int)=f.getD b 0 then-1 else d.getD (e+g-1) 0)<d.getD (e+g) 0/\d.getD (e+g) 0<(c:Int))
       |.inr q=>q=.inr (.inr (.inr (.inr (false,()))))/\¬((if((e+g:Nat):Int)=f.getD b 0 then-1 else d.getD (e+g-1) 0)<d.getD (e+g) 0/\d.getD (e+g) 0<(c:Int))) ?_ ?_
      ·refine ae.bs (y:=d.getD (e+g) 0) (fS S) ?_;generalize(if((e+g:Nat):Int)=f.getD b 0 then-1 else d.getD (e+g-1) 0)=ab;generalize d.getD (e+g) 0=I;by_cases J:I<=ab
       ·rw[az J];exact ae.af.2 ⟨rfl,λh=>by omega⟩
       ·rw[ay J];by_cases K:I>=(c:Int)
        ·rw[az K];exact ae.af.2 ⟨rfl,λh=>by omega⟩
        ·rw[ay K];exact ae.af.2 ⟨rfl,U,U⟩
      ·rintro(k|k) m
       ·obtain⟨rfl,u⟩:=m;refine ae.af.2 ⟨?_,?_⟩
        ·rw[bA U,if_neg U];rfl
        ·intro j x Z;rcases bb j (e+g) with O|O
         ·exact C j x O
         ·obtain rfl:j=e+g:=U;exact u
       ·obtain⟨rfl,u⟩:=m;refine ae.af.2 ⟨rfl,λh=>u ?_⟩;exact h (e+g) U U
     ·rintro _ ⟨rfl,C⟩;dsimp only;rw[bm (ay (show¬(((p-e:Nat):Int)<ax ((d.take p).drop e)) by simp only[a7];omega))];refine ae.af.2 ?_;intro j x Z;exact C j U U
    ·rintro(k|k) m
     ·have m:hG (c:Int) f d b:=m;refine ae.af.2 ⟨rfl,λj am=>?_⟩;rcases bb j b with x|x
      ·exact B j x
      ·obtain rfl:j=b:=U;exact m
     ·obtain⟨rfl,u⟩:=m;exact ae.af.2 ⟨rfl,λh=>u (h b s)⟩
   ·rintro _ ⟨rfl,B⟩;dsimp only;rw[bm (ay (U:¬((a:Int)<(a:Int))))];exact ae.af.2 B
  ·rintro(k|k) m
   ·have m:(∀b,b<a->hG (c:Int) f d b):=m;refine ae.af.2 ?_;show(true,())=_;rw[decide_eq_true (et.iff.2 ⟨z,v,o,w,E,m⟩)]
   ·obtain⟨rfl,u⟩:k=(false,())/\¬(∀b,b<a->hG (c:Int) f d b):=m;exact ae.af.2 (L λh=>u (et.iff.1 h).2.2.2.2.2)
def jK (b:ab1):Prop:=∀a,a<b.length->bK (b.getD a 0)≠2047
open Classical in
def gq (d b:Nat) (e c a:ab1):Int:=if et d b e c a then if jK a then 0 else 4 else 1
theorem Hf.getD {b:ab1} (d:∀e∈b,dX e) (c:Nat):dX (b.getD c 0):=by
 rcases bb c b.length with a|a
 ·rw[jY a];exact d _ (bI a)
 ·rw[oc a];exact⟨aa,aa⟩
theorem WC (o:∀r∈d,dX r) (s:d.length<=1000000):Ac (d,(),())=some (open Classical in decide (¬jK d),()):=by
 classical
 unfold Ac;refine ae.eq_iff.1 ?_;refine ae.aW (P:=λj=>∃h,j=(h,())/\(0<=h↔¬jK d)) ?_ ?_
 ·unfold DA;dsimp only;refine ae.aW (P:=λf=>match f with|.inl _=>jK d|.inr j=>0<=j.1/\¬jK d) ?_ ?_
  ·refine ae.steps d.length (λa q=>q=((a:Int),())/\∀b,b<a->bK (d.getD b 0)≠2047) ⟨rfl,λb n=>by omega⟩ ?_ ?_
   ·rintro a _ k ⟨rfl,e⟩;dsimp only;rw[bn (az (show(a:Int)<ax d by simp only[a7];omega))];refine ae.bs (fL k) ?_;unfold Dy;refine ae.bs (y:=(decide (bK (d.getD a 0)=2047),())) (au (Bo (Hf.getD o a)) (by dsimp only;rw[Bool.not_not])) ?_;dsimp only;rw[bu];refine ae.ite (λi=>?_) λi=>?_
    ·exact ae.af.2 ⟨by show(0:Int)<=(a:Int);omega,λc=>c a k i⟩
    ·refine ae.af.2 ⟨by rw[bA U],λb n=>?_⟩;rcases bb b a with l|l
     ·exact e b l
     ·obtain rfl:b=a:=U;exact i
   ·rintro _ ⟨rfl,e⟩;dsimp only;rw[bm (ay (show¬((d.length:Int)<ax d) by simp only[a7];omega))];exact ae.af.2 e
  ·rintro(f|f) g
   ·have g:jK d:=g;exact ae.af.2 ⟨_,rfl,⟨λc=>absurd c aa,λc=>absurd g c⟩⟩
   ·obtain⟨e,m⟩:0<=f.1/\¬jK d:=g;exact ae.af.2 ⟨f.1,rfl,λ_=>m,λ_=>e⟩
 ·rintro _ ⟨h,rfl,p⟩;refine ae.af.2 ?_;show(decide (h>=0),())=_;congr 1;rw[decide_eq_decide];exact p
theorem VU (l:c<=200) (j:a<=200) (k:f.length<=10000) (m:i.length<=1000000) (g:d.length<=1000000) (n:∀o∈d,dX o):qE (((c:Int),(a:Int),i,f,d,()),())=some (gq c a i f d,()):=by
 classical
 unfold qE gq;dsimp only;refine au (y:=(false,())) ?_ ?_
 ·unfold Aa;dsimp only;rw[az (U:(c:Int)>=0),az (U:(c:Int)<=200),az (U:(a:Int)>=0),az (U:(a:Int)<=200),ay (show¬(ax f>10000) by simp only[a7];omega)];rfl
 dsimp only;rw[cond_false];refine au (S6 l j k m g) ?_;dsimp only;by_cases b:et c a i f d
 ·rw[decide_eq_true b,if_pos b];refine au (WC n g) ?_;dsimp only;by_cases e:jK d
  ·rw[decide_eq_false (λh=>h e),if_pos e];rfl
  ·rw[decide_eq_true e,if_neg e];rfl
 ·rw[decide_eq_false b,if_neg b];rfl
end
theorem ZL (m:∀p∈d,dX p) (q:d.length<=1000000):AG (d,())=some (open Classical in decide (jK d),()):=by
 classical
 unfold AG;refine ae.eq_iff.1 ?_;dsimp only;refine ae.aW (P:=λf=>match f with|.inl _=>jK d|.inr n=>n=(false,())/\¬jK d) ?_ ?_
 ·refine ae.steps d.length (λa o=>o=((a:Int),())/\∀b,b<a->bK (d.getD b 0)≠2047) ⟨rfl,λb l=>by omega⟩ ?_ ?_
  ·rintro a _ h ⟨rfl,c⟩;dsimp only;rw[bn (az (show(a:Int)<ax d by simp only[a7];omega))];refine ae.bs (fL h) (ae.bs (FW (Hf.getD m a)) ?_);dsimp only;rw[Bool.not_not,bu];refine ae.ite (λg=>?_) λg=>?_
   ·exact ae.af.2 ⟨rfl,λj=>j a h g⟩
   ·refine ae.af.2 ⟨by rw[bA U],λb l=>?_⟩;rcases bb b a with i|i
    ·exact c b i
    ·obtain rfl:b=a:=U;exact g
  ·rintro _ ⟨rfl,c⟩;dsimp only;rw[bm (ay (show¬((d.length:Int)<ax d) by simp only[a7];omega))];exact ae.af.2 c
 ·rintro(f|f) e
  ·have e:jK d:=e;rw[decide_eq_true e];exact ae.af.2 rfl
  ·obtain⟨c,k⟩:f=(false,())/\¬jK d:=e;rw[c,decide_eq_false k];exact ae.af.2 rfl
theorem ZB {l:ab1} (a0:c<=200) (am:a<=200) (an:d.length<=10000) (a3:f.length<=1000000) (Y:l.length<=1000000) (Z:∀ad∈l,dX ad):qI (((c:Int),(a:Int),f,d,l,()),())=some (gq c a f d l,()):=by
 classical
 unfold qI;refine ae.eq_iff.1 ?_;dsimp only;have W:aZ (a:Int)=((a+1:Nat):Int):=bA U;have H:∀(j:¬et c a f d l),((1:Int),())=(gq c a f d l,()):=λj=>(by unfold gq;rw[if_neg j]);refine ae.bs (y:=.inl ()) ?_ ?_
 ·rw[ay (U:¬(c:Int)<0),ay (U:¬(c:Int)>200),ay (U:¬(a:Int)<0),ay (U:¬(a:Int)>200),ay (show¬(ax d>10000) by simp only[a7];omega)];rfl
 dsimp only;refine ae.aW (P:=λk=>match k with
  |.inl _=>f.length=a+1/\f.getD 0 0=0/\f.getD a 0=(d.length:Int)/\l.length=d.length
  |.inr r=>r=((1:Int),())/\¬et c a f d l) ?_ ?_
 ·rw[W,dr,dr];by_cases F:l.length=d.length
  ·rw[az (show ax l=ax d by simp only[a7];omega)];by_cases D:f.length=a+1
   ·rw[az (show ax f=((a+1:Nat):Int) by simp only[a7];omega)];refine ae.bs (y:=f.getD 0 0) (fL (i:=0) U) ?_;rw[dr];by_cases v:f.getD 0 0=0
    ·rw[az v];refine ae.bs (y:=f.getD a 0) (fL U) ?_;rw[dr];by_cases w:f.getD a 0=(d.length:Int)
     ·rw[az (show f.getD a 0=ax d from w)];exact ae.af.2 ⟨D,v,w,F⟩
     ·rw[ay (show¬f.getD a 0=ax d from w)];exact ae.af.2 ⟨rfl,λj=>w j.last⟩
    ·rw[ay v];exact ae.af.2 ⟨rfl,λj=>v j.first⟩
   ·rw[ay (show¬ax f=((a+1:Nat):Int) by simp only[a7];omega)];exact ae.af.2 ⟨rfl,λj=>D j.len⟩
  ·rw[ay (show¬ax l=ax d by simp only[a7];omega)];exact ae.af.2 ⟨rfl,λj=>F j.val⟩
 rintro(k|k) u
 rotate_left
 ·obtain⟨rfl,j⟩:k=((1:Int),())/\¬et c a f d l:=u;exact ae.af.2 (H j)
 obtain⟨D,v,w,F⟩:f.length=a+1/\f.getD 0 0=0/\f.getD a 0=(d.length:Int)/\l.length=d.length:=u;dsimp only;refine ae.aW (P:=λk=>match k with
  |.inl _=>(∀b,b<a->f.getD b 0<=f.getD (b+1) 0)
  |.inr r=>r=((1:Int),())/\¬et c a f d l) ?_ ?_
 ·refine ae.steps a (λz C=>C=((z:Int),())/\∀b,b<z->f.getD b 0<=f.getD (b+1) 0) ⟨rfl,λb q=>by omega⟩ ?_ ?_
  ·rintro b _ q ⟨rfl,s⟩;dsimp only;rw[bn (az (U:(b:Int)<(a:Int))),bA U];refine ae.bs (fL U) (ae.bs (fL U) ?_);rw[bu];refine ae.ite (λx=>?_) λx=>?_
   ·exact ae.af.2 ⟨rfl,λj=>by have:=j.mono b q;omega⟩
   ·refine ae.af.2 ⟨rfl,λg T=>?_⟩;rcases bb g b with o|o
    ·exact s g o
    ·obtain rfl:g=b:=U;omega
  ·rintro _ ⟨rfl,s⟩;dsimp only;rw[bm (ay (U:¬((a:Int)<(a:Int))))];exact ae.af.2 s
 rintro(k|k) u
 rotate_left
 ·obtain⟨rfl,j⟩:k=((1:Int),())/\¬et c a f d l:=u;exact ae.af.2 (H j)
 have E:∀b,b<a->f.getD b 0<=f.getD (b+1) 0:=u;have O:∀b,b<=a->0<=f.getD b 0:=λb=>by
  induction b with
  |zero=>intro _;omega
  |succ b A=>intro q;have:=A U;have:=E b U;omega
 have u:∀G b,b+G=a->f.getD b 0<=(d.length:Int):=λG=>by
  induction G with
  |zero=>intro b q;obtain rfl:b=a:=q;omega
  |succ G A=>intro b q;have:=A (b+1) U;have:=E b U;omega
 dsimp only;refine ae.aW (P:=λk=>match k with
  |.inl _=>(∀b,b<a->hG (c:Int) f d b)
  |.inr r=>r=((1:Int),())/\¬(∀b,b<a->hG (c:Int) f d b)) ?_ ?_
 ·refine ae.steps a (λz C=>C=((z:Int),())/\∀b,b<z->hG (c:Int) f d b) ⟨rfl,λb q=>by omega⟩ ?_ ?_
  ·rintro b _ q ⟨rfl,s⟩;dsimp only;rw[bn (az (U:(b:Int)<(a:Int))),bA U];obtain⟨e,V⟩:=Int.eq_ofNat_of_zero_le (O b U);obtain⟨t,S⟩:=Int.eq_ofNat_of_zero_le (O (b+1) U);have ap:t<=d.length:=(by have:=u (a-(b+1)) (b+1) U;omega);have av:e<=t:=(by have:=E b q;omega);have M:aA f (b:Int)=some (e:Int):=(by rw[fL U,V]);have N:aA f ((b+1:Nat):Int)=some (t:Int):=(by rw[fL U,S]);refine ae.bs M ?_;refine ae.aW (P:=λk=>match k with
    |.inl _=>hG (c:Int) f d b
    |.inr r=>r=.inr (.inr ((1:Int),()))/\¬hG (c:Int) f d b) ?_ ?_
   ·refine ae.steps (t-e) (λh C=>C=(((e+h:Nat):Int),())/\∀g:Nat,e<=g->g<e+h->(if(g:Int)=f.getD b 0 then-1 else d.getD (g-1) 0)<d.getD g 0/\d.getD g 0<(c:Int)) ⟨rfl,λg s p=>by omega⟩ ?_ ?_
    ·rintro h _ a4 ⟨rfl,p⟩;dsimp only;refine ae.bs N ?_;rw[bn (az (U:((e+h:Nat):Int)<(t:Int)))];have I:aA d ((e+h:Nat):Int)=some (d.getD (e+h) 0):=fL U;have X:h≠0->0<=d.getD (e+h-1) 0:=λJ=>by
      have ab:∀g:Nat,e<=g->g<e+h->0<=d.getD g 0:=by
       intro g
       induction g with
       |zero=>
        intro o B;have:=(p 0 o B).1;rw[if_pos U] at this;omega
       |succ g A=>
        intro o B;have m:=(p (g+1) o B).1;by_cases x:((g+1:Nat):Int)=f.getD b 0
        ·rw[if_pos x] at m;omega
        ·rw[if_neg x,v7] at m;have:=A U U;omega
      exact ab _ U U
     refine ae.aW (P:=λk=>match k with
      |.inl _=>((if((e+h:Nat):Int)=f.getD b 0 then-1 else d.getD (e+h-1) 0)<d.getD (e+h) 0/\d.getD (e+h) 0<(c:Int))
      |.inr r=>r=.inr (.inr (.inr (.inr ((1:Int),()))))/\¬((if((e+h:Nat):Int)=f.getD b 0 then-1 else d.getD (e+h-1) 0)<d.getD (e+h) 0/\d.getD (e+h) 0<(c:Int))) ?_ ?_
     ·refine ae.bs I ?_;by_cases K:d.getD (e+h) 0<0
      ·rw[az K];refine ae.af.2 ⟨rfl,λj=>?_⟩;have m:=j.1;by_cases J:h=0
       ·rw[if_pos U] at m;omega
       ·rw[if_neg U] at m;have:=X J;omega
      rw[ay K];refine ae.bs I ?_;by_cases L:d.getD (e+h) 0>=(c:Int)
      ·rw[az L];exact ae.af.2 ⟨rfl,λj=>by omega⟩
      rw[ay L];refine ae.bs M ?_;by_cases J:h=0
      ·rw[ay (U:¬((e+h:Nat):Int)>(e:Int))];refine ae.af.2 ⟨?_,U⟩;rw[if_pos U];omega
      ·rw[az (U:((e+h:Nat):Int)>(e:Int))];have aj:aw (((e+h:Nat):Int)-1)=((e+h-1:Nat):Int):=(by rw[bp U U];omega);refine ae.bs I (ae.bs (y:=d.getD (e+h-1) 0) (by rw[aj];exact fL U) ?_);rw[bu];refine ae.ite (λx=>?_) λx=>?_
       ·refine ae.af.2 ⟨rfl,λj=>?_⟩;have m:=j.1;rw[if_neg U] at m;omega
       ·refine ae.af.2 ⟨?_,U⟩;rw[if_neg U];omega
     ·rintro(k|k) n
      ·refine ae.af.2 ⟨by rw[bA U];rfl,?_⟩;intro g o B;rcases bb g (e+h) with Q|Q
       ·exact p g o Q
       ·obtain rfl:g=e+h:=U;exact n
      ·obtain⟨rfl,m⟩:=n;exact ae.af.2 ⟨rfl,λj=>m (j (e+h) U U)⟩
    ·rintro _ ⟨rfl,p⟩;dsimp only;refine ae.bs N ?_;rw[bm (ay (U:¬(((e+(t-e):Nat):Int)<(t:Int))))];refine ae.af.2 ?_;intro g o B;exact p g U U
   ·rintro(k|k) n
    ·have n:hG (c:Int) f d b:=n;refine ae.af.2 ⟨rfl,λg T=>?_⟩;rcases bb g b with o|o
     ·exact s g o
     ·obtain rfl:g=b:=U;exact n
    ·obtain⟨rfl,m⟩:=n;exact ae.af.2 ⟨rfl,λj=>m (j b q)⟩
  ·rintro _ ⟨rfl,s⟩;dsimp only;rw[bm (ay (U:¬((a:Int)<(a:Int))))];exact ae.af.2 s
 ·rintro(k|k) n
  ·have n:(∀b,b<a->hG (c:Int) f d b):=n;have R:et c a f d l:=et.iff.2 ⟨D,v,E,w,F,n⟩;refine ae.bs (ZL Z Y) ?_;unfold gq;rw[if_pos R];by_cases p:jK l
   ·rw[decide_eq_true p,if_pos p];exact ae.af.2 rfl
   ·rw[decide_eq_false p,if_neg p];exact ae.af.2 rfl
  ·obtain⟨rfl,m⟩:k=((1:Int),())/\¬(∀b,b<a->hG (c:Int) f d b):=n;exact ae.af.2 (H λj=>m (et.iff.1 j).2.2.2.2.2)
abbrev bF:=Int×Int×Int×Unit
def hx (b d:ab1) (c:Int) (a:Nat):Nat->List bF
 |0=>[]
 |n+1=>hx b d c a n++[(b.getD (a+n) 0,c,d.getD (a+n) 0,())]
def bQ (a b c:ab1):Nat->List bF
 |0=>[]
 |j+1=>bQ a b c j++hx b c (j:Int) (a.getD j 0).toNat ((a.getD (j+1) 0).toNat-(a.getD j 0).toNat)
theorem IK (c f:ab1) (d:Int) (e a:Nat):(hx c f d e a).length=a:=by
 induction a with
 |zero=>rfl
 |succ a b=>simp[hx,b]
theorem et.pos (e:et c a d f i):∀b,b<=a->0<=d.getD b 0:=λb=>by
 have:=e.first
 induction b with
 |zero=>intro _;omega
 |succ b g=>intro h;have:=g U;have:=e.mono b U;omega
theorem et.om (h:et c a f d i):∀b,b<=a->f.getD b 0<=(d.length:Int):=by
 have k:∀e b,b+e=a->f.getD b 0<=(d.length:Int):=λe=>by
  have:=h.last
  induction e with
  |zero=>intro b g;obtain rfl:b=a:=g;omega
  |succ e j=>intro b g;have:=j (b+1) U;have:=h.mono b U;omega
 exactλb g=>k (a-b) b U
theorem xo (e:et c a d f i):∀b,b<=a->(bQ d f i b).length=(d.getD b 0).toNat:=λb=>by
 induction b with
 |zero=>intro _;have:=e.first;show 0=(d.getD 0 0).toNat;omega
 |succ b h=>
  intro l;have g:=h U;have j:=e.mono b U;have k:=e.pos b U;simp only[bQ,nP,IK,g];omega
theorem DV (h:et c a f d i) (p:a<=200) (r:d.length<=10000):uE (((c:Int),(a:Int),f,d,i,()),())=some (bQ f d i a,()):=by
 unfold uE;refine ae.eq_iff.1 ?_;dsimp only;refine ae.aW (P:=λl=>l=(bQ f d i a,())) ?_ (by rintro _ rfl;exact ae.af.2 rfl);refine ae.steps a (λb m=>m=((b:Int),bQ f d i b,())) rfl ?_ ?_
 ·rintro b _ o rfl;have s:=h.len;obtain⟨g,n⟩:=Int.eq_ofNat_of_zero_le (h.pos b U);obtain⟨e,k⟩:=Int.eq_ofNat_of_zero_le (h.pos (b+1) U);have t:e<=d.length:=(by have:=h.om (b+1) U;omega);have u:g<=e:=(by have:=h.mono b o;omega);have q:=xo h b U;have w:=h.val;dsimp only;rw[bn (az (U:(b:Int)<(a:Int))),bA U];refine ae.bs (y:=(g:Int)) (by rw[fL U,n]) ?_;refine ae.aW (P:=λl=>l=(bQ f d i (b+1),())) ?_ (by rintro _ rfl;exact ae.af.2 rfl);refine ae.steps (e-g) (λj m=>m=(((g+j:Nat):Int),bQ f d i b++hx d i (b:Int) g j,())) (by simp[hx]) ?_ ?_
  ·rintro j _ v rfl;dsimp only;refine ae.bs (y:=(e:Int)) (by rw[fL U,k]) ?_;rw[bn (az (U:((g+j:Nat):Int)<(e:Int)))];refine ae.bs (fL U) (ae.bs (fL U) ?_);rw[dZ (by simp[IK];omega)];refine ae.af.2 ?_;rw[bA U,List.append_assoc];rfl
  ·rintro _ rfl;dsimp only;refine ae.bs (y:=(e:Int)) (by rw[fL U,k]) ?_;rw[bm (ay (U:¬((g+(e-g):Nat):Int)<(e:Int)))];refine ae.af.2 ?_;show(_,())=(bQ f d i b++hx d i (b:Int) (f.getD b 0).toNat ((f.getD (b+1) 0).toNat-(f.getD b 0).toNat),());rw[n,k];rfl
 ·rintro _ rfl;dsimp only;rw[bm (ay (U:¬((a:Int)<(a:Int))))];exact ae.af.2 rfl
structure hq (rows fR:Nat) (st mI rE:ab1):Prop where
 hr:rows<=200
 hc:fR<=200
 hi:mI.length<=10000
 hs:st.length<=1000000
 hv:rE.length<=1000000
 hw:∀v∈rE,dX v
theorem hq.check (b:hq c a f d i):qE (((c:Int),(a:Int),f,d,i,()),())=some (gq c a f d i,()):=VU b.hr b.hc b.hi b.hs b.hv b.hw
theorem hq.vt (b:hq c a f d i):qI (((c:Int),(a:Int),f,d,i,()),())=some (gq c a f d i,()):=ZB b.hr b.hc b.hi b.hs b.hv b.hw
theorem jU:gq c a i f d=0↔et c a i f d/\jK d:=by
 unfold gq;constructor
 ·intro b;split at b
  ·split at b
   ·exact⟨by assumption,by assumption⟩
   ·omega
  ·omega
 ·rintro⟨e,g⟩;rw[if_pos e,if_pos g]
theorem NL (b:hq c a f d i) (e:gq c a f d i=0):z2 (((c:Int),(a:Int),f,d,i,()),())=some (bQ f d i a,()):=by unfold z2;refine au b.check ?_;dsimp only;rw[e,dr,az rfl];exact au (DV (jU.1 e).1 b.hc b.hi) rfl
theorem LR (e:hq c a f d i) (g:gq c a f d i=0):xb (((c:Int),(a:Int),f,d,i,()),())=some (bQ f d i a,()):=by have h:=(jU.1 g).1;have b:=DV h e.hc e.hi;unfold uE at b;unfold xb;refine au e.vt ?_;dsimp only at b|-;rw[g,dr,az rfl];exact b
end Go.hT
end
