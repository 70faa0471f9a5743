/-
  Parts of the proof: Pl5, Th1, Pl6, Pl7, Pl8, Pl9, Pl10, Pl12, ThT, Pa2, Pa3, Pa4, Pa5, Pa6, Pa7, Pa8, Pa9, Pa10, Pa11, Pa12, Pa13, Pa14, Pa15, Pa16, Pa17, Pa18, Pa19, Pa20, Pa21, Pa22, Pa23, Pa24, Pa25, Pa26, Pa27, Pa28: the framework (Fw), pure forms (Dn), plain laws (Pl, Th), calls of functions (Ok).
-/
import Derived.Test.YtkhcdgkdpjahpaaGreatDoorBb1e13d55

set_option linter.all false
set_option maxHeartbeats 1000000
noncomputable section
namespace Go.ia
variable{a e r:Int}{b c g:Nat}{d f:ac8}{h k:Bool}{i m:ac2}{j:acX}{l:Nat->Nat->Prop}{n q:Type}{o:Prop}{p:acU}{s:(c2×Int×Int×aM×Unit)->Prop}{t:Nat->Prop}{u:(c2×Int×aM×Unit)->Prop}
section
def oK (a:ac8) (c:Int):Prop:=a.Pairwise (· < ·)/\∀b∈a,0<=b/\b<c
def ac.count {k:n->Option (n⊕q)} {i:q->Prop} (d:n->Int) (c:Nat) (e:Nat->n->Prop) {i0:Nat} {l:n} (v:d l=(i0:Int)) (s:e i0 l) (p:i0<=c) (x:∀a b,i0<=a->a<c->d b=(a:Int)->e a b->ac (k b) (λ|.inl h=>d h=((a+1:Nat):Int)/\e (a+1) h|.inr g=>i g)) (u:∀b,d b=(c:Int)->e c b->ac (k b) (λ|.inl _=>False|.inr g=>i g)):ac (ia.loop k l) i:=by
 refine ac.loop (λb=>∃a:Nat,i0<=a/\a<=c/\d b=(a:Int)/\e a b) (λb=>c-(d b).toNat) ⟨i0,a6 _,p,v,s⟩ ?_;rintro b ⟨a,w,p,j,r⟩;rcases bn a c with o|o
 ·refine(x a b w o j r).mono ?_;rintro(h|g) f
  ·obtain⟨m,t⟩:=f;exact⟨⟨a+1,U,U,m,t⟩,by rw[j,m];simp;omega⟩
  exact f
 obtain rfl:a=c:=U;refine(u b j r).mono ?_;rintro(h|g) f
 ·exact f.elim
 exact f
open Classical in
def Ph (b:ac8) (g:Int) (D:b.length<4611686018427387904):zS (b,g,())=some (decide (oK b g),()):=by
 rw[<-ac.eq_iff];unfold zS;simp only[ac.bT];refine ac.count (λr=>r.2.1) b.length (λa r=>r.1=(if a=0 then-1 else b.getD (a-1) 0)/\(b.take a).Pairwise (· < ·)/\∀f∈b.take a,0<=f/\f<g) (i0:=0) rfl ⟨rfl,ab,ab⟩ (bM _) ?_ ?_
 ·rintro a ⟨m,A,_⟩ _ e h ⟨j,k,l⟩;simp only at h j;subst h;simp only[ac.bS,ac.bT,ac.af,ac.hy];have z:∀f∈b.take a,f<=m:=by
   intro f d;rw[j];obtain⟨q,y,rfl⟩:=gD.1 d;simp only[dS] at y;have x:a≠0:=U;rw[ag x];simp only[vN,List.getD,a9 (U:a-1<b.length),ig];rcases bn q (a-1) with c|c
   ·have:=(ga.1 k) q (a-1) (by simp;omega) (by simp;omega) c;simp only[vN] at this;omega
   have:q=a-1:=U;subst this;exact l3 _
  have E:-1<=m:=by
   rw[j];by_cases i:a=0
   ·rw[aj i];exact l3 _
   rw[ag i];simp only[List.getD,a9 (U:a-1<b.length),ig];have:=l (b[a-1]) (gD.2 ⟨a-1,by simp;omega,ab⟩);omega
  have t:(b[a]<=m\/g<=b[a])->¬oK b g:=by
   rintro c ⟨B,u⟩;rcases c with c|c
   ·rw[j] at c;by_cases i:a=0
    ·rw[aj i] at c;have:=u _ (bD e);omega
    rw[ag i] at c;simp only[List.getD,a9 (U:a-1<b.length),ig] at c;have:=(ga.1 B) (a-1) a U e U;omega
   have:=u _ (bD e);omega
  refine⟨λ_=>⟨e,λn=>⟨λo=>?_,λo=>?_⟩,λn=>?_⟩,λp=>by simp at p;omega⟩
  ·have:=t (.inr (by simpa using o));simp[this]
  ·simp at n o;refine⟨fm U,?_,?_,?_⟩
   ·simp[List.getD,e]
   ·rw[<-mJ e,List.pairwise_append];refine⟨k,ab,λv w C s=>?_⟩;simp only[ed] at s;subst s;have:=z v w;omega
   rw[<-mJ e];intro f d;rcases dX.1 d with d|d
   ·exact l f d
   simp only[ed] at d;subst d;omega
  have:=t (.inl (by simpa using n));simp[this]
 rintro⟨m,A,_⟩ h ⟨j,k,l⟩;simp only at h;subst h;simp only[ac.bS,ac.af];refine⟨λp=>by simp at p,λ_=>?_⟩;rw[nQ] at k l;have:oK b g:=⟨k,l⟩;simp[this]
def Hb (a b:Int):rV (a,b,())=some (decide (a<b),()):=by unfold rV qm;simp
def NO (a:Int) (b:0<=a) (c:a<18446744073709551616):IntKind.u64.wrap a=a:=by unfold IntKind.wrap;rw[ag (by simp[IntKind.signed])];show a %18446744073709551616=a;omega
def G1 (d:ac8) (f:Int) (F:d.length<4611686018427387904) (p:d.Pairwise (· < ·)):ac (r3 (d,f,())) (λA=>A.2.1=decide (f∈d)):=by
 unfold r3;simp only[ac.bT];refine ac.mono (P:=λz=>∃a:Nat,z.1=(a:Int)/\a<=d.length/\(∀b,(e:b<d.length)->b<a->d[b]<f)/\(∀b,(e:b<d.length)->a<=b->f<=d[b])) ?_ ?_
 ·refine ac.loop (λn=>∃a c:Nat,n.1=(a:Int)/\n.2.1=(c:Int)/\a<=c/\c<=d.length/\(∀b,(e:b<d.length)->b<a->d[b]<f)/\(∀b,(e:b<d.length)->c<=b->f<=d[b])) (λn=>(n.2.1-n.1).toNat) ⟨0,d.length,rfl,rfl,bM _,a6 _,λb _ e=>by omega,λb j k=>by omega⟩ ?_;rintro⟨y,G,_⟩ ⟨a,c,rfl,rfl,E,r,j,k⟩;simp only[ac.bS,ac.bT,ac.af];refine⟨λi=>?_,λl=>?_⟩
  ·have i:a<c:=(by simpa using i);have al:IntKind.i64.wrap ((a:Int)+c)=(a:Int)+c:=wrap64 U U;rw[al,NO _ U U];have x:da IntKind.u64 ((a:Int)+c) 1=some (((a+c)/2:Nat):Int):=by
    unfold da;rw[aj U];congr 1;show((a:Int)+c).fdiv (2^min 1 64)=_;rw[show(2:Int)^min 1 64=2 from rfl,yL _ U];omega
   rw[x];simp only[ac.af];have t:IntKind.i64.wrap (((a+c)/2:Nat):Int)=(((a+c)/2:Nat):Int):=wrap64 U U;rw[t,ac.hy];refine⟨U,?_⟩;rw[Hb];simp only[ac.af,ac.bS];have q:(a+c)/2<d.length:=U;refine⟨λg=>?_,λg=>?_⟩
   ·have g:d[(a+c)/2]<f:=(by simpa using g);rw[fm U];refine⟨⟨(a+c)/2+1,c,rfl,rfl,U,r,λb h v=>?_,k⟩,U⟩;rcases bn b ((a+c)/2) with e|e
    ·exact Int.lt_trans ((ga.1 p) b _ h q e) g
    have:b=(a+c)/2:=U;subst this;exact g
   have g:f<=d[(a+c)/2]:=(by simpa using g);refine⟨⟨a,(a+c)/2,rfl,rfl,U,U,j,λb h v=>?_⟩,U⟩;rcases bn ((a+c)/2) b with e|e
   ·have:=(ga.1 p) _ b q h e;omega
   have:b=(a+c)/2:=U;subst this;exact g
  have u:a=c:=(by have:¬a<c:=(by simpa using l);omega);subst u;exact⟨a,rfl,r,j,k⟩
 rintro⟨y,_⟩ ⟨a,rfl,D,j,k⟩;simp only;have s:(∀e:a<d.length,d[a]≠f)->f∉d:=by
  intro m w;obtain⟨b,h,rfl⟩:=gD.1 w;rcases l6 b a with e|e|e
  ·have:=j b h e;omega
  ·subst e;exact m h rfl
  have B:=k a U (a6 _);have C:=(ga.1 p) a b U h e;omega
 simp only[ac.bS,ac.bT,ac.af,ac.hy];refine⟨λi=>?_,λl=>?_⟩
 ·have i:a<d.length:=(by simpa using i);refine⟨i,λm=>?_,λo=>?_⟩
  ·have m:d[a]≠f:=(by simpa using m);refine⟨i,?_⟩;unfold An;simp[ac.af];exact s (λ_=>m)
  have o:d[a]=f:=(by simpa using o);simp[<-o]
 have l:¬a<d.length:=(by simpa using l);simp;exact s (λe=>absurd e l)
structure dZ (bP:acX):Prop where
 asc:∀v,(h:v<bP.length)->oK bP[v] bP.length
 JM:∀v,(h:v<bP.length)->(v:Int)∉bP[v]
 sym:∀v,(h:v<bP.length)->∀w:Nat,(hw:w<bP.length)->(w:Int)∈bP[v]->(v:Int)∈bP[w]
open Classical in
def gw (a:acX):Int:=if 200<a.length then 6 else if dZ a then 0 else 1
open Classical in
def ET (a:acX) (b:Nat) (d:Int) (g:b<a.length) (e:a[b].length<4611686018427387904) (f:a[b].Pairwise (· < ·)):ug ((a,()),(b:Int),d,())=some (decide (d∈a[b]),()):=by rw[<-ac.eq_iff];unfold ug;simp only[ac.bT,ac.hy];refine⟨g,(G1 _ _ e f).mono ?_⟩;rintro⟨i,h,_⟩ c;simp only at c;rw[ac.af,c]
def yG (a:acX) (u:∀L∈a,L.length<4611686018427387904):uf ((a,()),())=some (gw a,()):=by
 classical
 rw[<-ac.eq_iff];unfold uf;simp only[ac.bS,ac.bT,ac.af];refine⟨λg=>?_,λg=>?_⟩
 ·have:200<a.length:=(by simp at g;omega);simp[gw,this]
 have z:¬200<a.length:=(by simp at g;omega);have y:¬dZ a->(1:Int)=gw a:=λg=>(by simp[gw,z,g]);refine ac.mono (P:=λl=>(l=.inr (1,())/\¬dZ a)\/(l=.inl ()/\∀c,(g:c<a.length)->oK a[c] a.length/\(c:Int)∉a[c])) ?_ ?_
 ·refine ac.for (i0:=0) a.length (λd _=>∀c,c<d->(g:c<a.length)->oK a[c] a.length/\(c:Int)∉a[c]) rfl (λc h=>by omega) (bM _) ?_ ?_
  ·rintro d _ _ j p;simp only[ac.bS,ac.bT,ac.af,ac.hy];refine⟨λ_=>⟨j,?_⟩,λi=>by simp at i;omega⟩;rw[Ph _ _ (u _ (bD j))];simp only[ac.af];refine⟨λq=>?_,λq=>.inl ⟨trivial,λf=>?_⟩⟩
   ·have q:oK a[d] a.length:=(by simpa using q);rw[ET a d d j (u _ (bD j)) q.1];simp only[ac.af,ac.bS];refine⟨λx=>.inl ⟨trivial,λf=>f.JM d j (by simpa using x)⟩,λx=>⟨fm U,λc h C=>?_⟩⟩;rcases bn c d with n|n
    ·exact p c n C
    obtain rfl:c=d:=U;exact⟨q,by simpa using x⟩
   have:=f.asc d j;simp[this] at q
  intro A p;simp only[ac.bS,ac.af];exact⟨λi=>by simp at i,λ_=>.inr ⟨trivial,λc h=>p c h h⟩⟩
 rintro l (⟨rfl,f⟩|⟨rfl,t⟩)
 ·simp only[ac.af,y f]
 simp only[ac.bT];have F:(∀e,(g:e<a.length)->∀o∈a[e],∀b:Nat,o=(b:Int)->(k:b<a.length)->(e:Int)∈a[b])->dZ a:=λg=>⟨λe f=>(t e f).1,λe f=>(t e f).2,λe f b k s=>g e f b s b rfl k⟩;refine ac.mono (P:=λl=>(l=.inr (1,())/\¬dZ a)\/(l=.inl ()/\∀e,(g:e<a.length)->∀o∈a[e],∀b:Nat,o=(b:Int)->(k:b<a.length)->(e:Int)∈a[b])) ?_ ?_
 ·refine ac.for (i0:=0) a.length (λd _=>∀e,e<d->(g:e<a.length)->∀o∈a[e],∀b:Nat,o=(b:Int)->(k:b<a.length)->(e:Int)∈a[b]) rfl (λc h=>by omega) (bM _) ?_ ?_
  ·rintro d _ _ j p;simp only[ac.bS,ac.bT,ac.hy];refine⟨λ_=>⟨j,?_⟩,λi=>by simp at i;omega⟩;have M:=u _ (bD j);refine ac.mono (P:=λl=>(l=.inr (.inr (.inr (1,())))/\¬dZ a)\/(l=.inl ()/\∀o∈a[d],∀b:Nat,o=(b:Int)->(k:b<a.length)->(d:Int)∈a[b])) ?_ ?_
   ·refine ac.for (i0:=0) a[d].length (λc _=>∀m,m<c->(g:m<a[d].length)->∀b:Nat,a[d][m]=(b:Int)->(k:b<a.length)->(d:Int)∈a[b]) rfl (λc h=>by omega) (bM _) ?_ ?_
    ·rintro c _ _ h v;simp only[ac.bS,ac.bT,ac.hy];refine⟨λ_=>⟨h,?_⟩,λi=>by simp at i;omega⟩;have N:=(t d j).1.2 _ (bD h);obtain⟨b,k⟩:∃b:Nat,a[d][c]=(b:Int):=⟨a[d][c].toNat,U⟩;have r:b<a.length:=U;rw[k,ET a b d r (u _ (bD r)) (t b r).1.1];simp only[ac.af,ac.bS];refine⟨λE=>.inl ⟨trivial,λf=>?_⟩,λK=>⟨fm U,λm s D B H I=>?_⟩⟩
     ·have:=f.sym d j b r (k▸bD h);simp[this] at E
     rcases bn m c with n|n
     ·exact v m n D B H I
     obtain rfl:m=c:=U;have:B=b:=U;subst this;simpa using K
    intro A v;simp only[ac.bS,ac.af];refine⟨λi=>by simp at i,λ_=>.inr ⟨trivial,λo J b k r=>?_⟩⟩;obtain⟨m,s,rfl⟩:=gD.1 J;exact v m s s b k r
   rintro l (⟨rfl,f⟩|⟨rfl,w⟩)
   ·simp only[ac.af];exact .inl ⟨trivial,f⟩
   simp only[ac.af];refine⟨fm U,λe f G=>?_⟩;rcases bn e d with n|n
   ·exact p e n G
   obtain rfl:e=d:=U;exact w
  intro A p;simp only[ac.bS,ac.af];exact⟨λi=>by simp at i,λ_=>.inr ⟨trivial,λc h=>p c h h⟩⟩
 rintro l (⟨rfl,f⟩|⟨rfl,w⟩)
 ·simp only[ac.af,y f]
 simp only[ac.af];simp[gw,z,F w]
end
section
inductive eN (A:Nat->Nat->Prop) (k:Nat):Nat->Nat->Prop
 |one {i j:Nat}:A i j->eN A k i j
 |step {i m j:Nat}:A i m->m<k->eN A k m j->eN A k i j
section
variable {A:Nat->Nat->Prop} {k:Nat}
def eN.trans (a:eN A k c b) (e:b<k) (d:eN A k b g):eN A k c g:=by
 induction a with
 |one a=>exact .step a e d
 |step a f _ h=>exact .step a f (h e d)
def eN.symm (f:∀d e,A d e->A e d) (a:eN A k b c):eN A k c b:=by
 induction a with
 |one a=>exact .one (f _ _ a)
 |step a g _ h=>exact h.trans g (.one (f _ _ a))
def eN.mono (f:k<=g) (a:eN A k b c):eN A g b c:=by
 induction a with
 |one a=>exact .one a
 |step a e _ d=>exact .step a U d
def eN.first (n:b<c) (j:eN A c b c):∃a,b<a/\a<=c/\eN A b b a/\(a=c\/eN A c a c):=by
 have o:∀{d f:Nat},eN A c d f->f=c->(d=b\/(d<b/\eN A b b d))->∃a,b<a/\a<=c/\eN A b b a/\(a=c\/eN A c a c):=by
  intro d f j
  induction j with
  |@one d f g=>
   intro h e;subst h;refine⟨f,n,a6 _,?_,.inl rfl⟩;rcases e with rfl|⟨e,i⟩
   ·exact .one g
   exact i.trans e (.one g)
  |@step d k f g p i m=>
   intro h e;have l:eN A b b k:=by
    rcases e with rfl|⟨e,i⟩
    ·exact .one g
    exact i.trans e (.one g)
   rcases l6 k b with hmu|hmu|hmu
   ·exact m h (.inr ⟨hmu,l⟩)
   ·exact m h (.inl hmu)
   subst h;exact⟨k,hmu,U,l,.inr i⟩
 exact o j rfl (.inl rfl)
def jC (A:Nat->Nat->Prop) (c a:Nat):Prop:=c<a/\eN A a c a/\∀b,c<b->b<a->¬eN A b c b
def jC.uniq {p:Nat} (a:jC A c p) (d:jC A c b):p=b:=by
 rcases l6 p b with e|f|e
 ·exact absurd a.2.1 (d.2.2 p a.1 e)
 ·exact f
 exact absurd d.2.1 (a.2.2 b d.1 e)
def jC.fill (a:jC A c b):eN A c c b:=by
 obtain⟨d,g,h,e,i⟩:=eN.first a.1 a.2.1;rcases bn d b with f|f
 ·exact absurd (e.mono U) (a.2.2 d g f)
 obtain rfl:d=b:=U;exact e
def L1 (n:c<b) (o:eN A b c b):∃d,d<=b/\jC A c d:=by
 have:∀e,∀b,c<b->b<=e->eN A b c b->∃d,d<=b/\jC A c d:=by
  intro e
  induction e with
  |zero=>intro b i k;omega
  |succ e p=>
   intro b i k l;by_cases h:∃a,c<a/\a<b/\eN A a c a
   ·obtain⟨a,f,j,g⟩:=h;obtain⟨d,q,m⟩:=p a f U g;exact⟨d,U,m⟩
   exact⟨b,a6 _,i,l,λa f j g=>h ⟨a,f,j,g⟩⟩
 exact this b b n (a6 _) o
inductive gJ (A:Nat->Nat->Prop):Nat->Nat->Prop
 |refl (u:Nat):gJ A u u
 |up {u p v:Nat}:jC A u p->gJ A p v->gJ A u v
def gJ.le (a:gJ A b c):b<=c:=by
 induction a with
 |refl=>exact a6 _
 |up d _ e=>have:=d.1;omega
def gJ.trans (d:gJ A b c) (a:gJ A c g):gJ A b g:=by
 induction d with
 |refl=>exact a
 |up e _ f=>exact .up e (f a)
def gJ.walk (g:gJ A c b):c=b\/eN A b c b:=by
 induction g with
 |refl=>exact .inl rfl
 |@up c f b a i d=>
  right;have h:=i.le;rcases d with rfl|d
  ·exact a.2.1
  rcases bn f b with e|e
  ·exact(a.2.1.mono h).trans e d
  obtain rfl:f=b:=U;exact a.2.1
def O2 (m:∀g h,A g h->A h g) (n:c<b) (k:eN A b c b):gJ A c b:=by
 have:∀d,∀c,c<b->b-c<=d->eN A b c b->gJ A c b:=by
  intro d
  induction d with
  |zero=>intro c e l;omega
  |succ d o=>
   intro c e l i;obtain⟨f,p,a⟩:=L1 e i;rcases bn f b with j|j
   ·refine .up a (o f j (by have:=a.1;omega) ?_);exact((a.2.1.symm m).mono U).trans e i
   obtain rfl:f=b:=U;exact .up a (.refl _)
 exact this (b-c) c n (a6 _) k
def MM (f:∀h i,A h i->A i h) (l:b<c):eN A b b c↔∃k,A c k/\gJ A k b:=by
 constructor
 ·intro d;have j:=d.symm f;cases j with
  |one a=>exact⟨b,a,.refl _⟩
  |@step _ t _ a n r=>exact⟨t,a,O2 f n r⟩
 rintro⟨k,a,g⟩;have:∀{k b:Nat},gJ A k b->b<c->(k<c->eN A k k c)->eN A b b c:=by
  intro k b d
  induction d with
  |refl=>intro m d;exact d m
  |@up u x y e w s=>
   intro q o;refine s q (λv=>?_);have p:u<c:=(by have:=e.1;omega);have a:=o p;have g:=e.fill;exact((g.symm f).mono (by have:=e.1;omega)).trans e.1 (a.mono (by have:=e.1;omega))
 exact this g l (λ_=>.one (f _ _ a))
end
end
section
def dT (bP:acX) (a b:Nat):Prop:=∃c:a<bP.length,(b:Int)∈bP[a]
def dT.lt {bP:acX} (f:dZ bP) (d:dT bP b c):b<bP.length/\c<bP.length:=by obtain⟨a,e⟩:=d;have:=(f.asc b a).2 _ e;exact⟨a,U⟩
def dT.symm {bP:acX} (e:dZ bP):∀a b,dT bP a b->dT bP b a:=λa b c=>by obtain⟨f,d⟩:=c.lt e;exact⟨d,e.sym a f b d c.2⟩
def dT.ne {bP:acX} (e:dZ bP) (a:dT bP b c):b≠c:=λd=>by subst d;exact e.JM b a.1 a.2
def eN.lt {bP:acX} (b:dZ bP) {e c j:Nat} (a:eN (dT bP) e c j):c<bP.length/\j<bP.length:=by
 induction a with
 |one a=>exact a.lt b
 |step a _ _ d=>exact⟨(a.lt b).1,d.2⟩
inductive gb (R:Nat->Nat->Prop):Nat->Nat->Prop
 |refl (u:Nat):gb R u u
 |step {u p v:Nat}:R u p->gb R p v->gb R u v
def gb.trans (a:gb l b c) (d:gb l c g):gb l b g:=by
 induction a with
 |refl=>exact d
 |step a _ e=>exact .step a (e d)
def gb.mono {d:Nat->Nat->Prop} (f:∀b e,l b e->d b e) (a:gb l b c):gb d b c:=by
 induction a with
 |refl=>exact .refl _
 |step a _ g=>exact .step (f _ _ a) g
def gb.comp (h:∀b a d,l b a->l b d->a=d) (i:gb l b c) (e:gb l b g):gb l c g\/gb l g c:=by
 induction i with
 |refl=>exact .inl e
 |@step b a c f k n=>
  cases e with
  |refl=>exact .inr (.step f k)
  |@step _ d _ j m=>
   obtain rfl:=h _ _ _ f j;exact n m
section
variable (bP:acX)
def oT (j:Nat) (T:Nat->Prop) (b c:Nat):Prop:=
 (c<j/\jC (dT bP) b c)\/(c=j/\b<j/\(∀d,d<j->¬jC (dT bP) b d)/\∃a,T a/\a<j/\dT bP j a/\gJ (dT bP) a b)
def eU (en:ac8) (b a:Nat):Prop:=en[b]?=some (a:Int)
structure kb (j:Nat) (T:Nat->Prop) (en me:ac8):Prop where
 sF:en.length=bP.length
 JZ:me.length=bP.length
 jZ:∀u p,eU en u p↔(u<bP.length/\oT bP j T u p)
 none:∀(u:Nat) (x:Int),en[u]?=some x->x=-1\/∃p:Nat,x=(p:Int)
 y8:∀u:Nat,me[u]?=some (-1)↔en[u]?=some (-1)
 y9:∀(u:Nat) (x:Int),me[u]?=some x->x=-1\/∃a p:Nat,x=(a:Int)/\eU en u p/\gb (eU en) p a
variable {bP} {j:Nat} {T:Nat->Prop} {en me:ac8}
theorem oT.lt (d:oT bP j T c b):c<b/\b<=j:=by
 rcases d with⟨e,a⟩|⟨e,a,_⟩
 ·exact⟨a.1,U⟩
 omega
theorem kb.ri (d:kb bP j T en me) (f:gb (eU en) c b):c<=b/\(c=b\/b<=j):=by
 induction f with
 |refl=>exact⟨a6 _,.inl rfl⟩
 |@step c k b e i g=>
  have h:=((d.jZ _ _).1 e).2.lt;rcases g.2 with a|a
  ·exact⟨U,.inr U⟩
  exact⟨U,.inr a⟩
theorem kb.GN (a:kb bP j T en me) (f:gb (eU en) c b) (h:b<j):gJ (dT bP) c b:=by
 induction f with
 |refl=>exact .refl _
 |@step c k b e g i=>
  have m:k<=b:=(a.ri g).1;rcases((a.jZ _ _).1 e).2 with⟨_,d⟩|⟨l,_⟩
  ·exact .up d (i h)
  omega
theorem kb.NA (d:kb bP j T en me) (g:gb (eU en) b j) (p:b<j):∃a,gJ (dT bP) b a/\a<j/\eU en a j:=by
 generalize i:j=l at g
 induction g with
 |refl=>omega
 |@step b h l c q k=>
  subst i;have o:=((d.jZ _ _).1 c).2.lt;rcases bn h j with f|f
  ·obtain⟨a,m,n,bX⟩:=k f rfl;rcases((d.jZ _ _).1 c).2 with⟨_,e⟩|⟨e,_⟩
   ·exact⟨a,.up e m,n,bX⟩
   omega
  obtain rfl:h=j:=U;exact⟨b,.refl _,U,c⟩
theorem Gh {j:Nat} (k:gJ (dT bP) g b) (h:gJ (dT bP) g c) (i:∀a,a<j->¬jC (dT bP) b a) (n:∀a,a<j->¬jC (dT bP) c a) (m:b<j) (q:c<j):b=c:=by
 induction k with
 |refl g=>
  cases h with
  |refl=>rfl
  |@up _ f _ d e=>exact absurd d (i f (by have:=e.le;omega))
 |@up g f b d e p=>
  cases h with
  |refl=>exact absurd d (n f (by have:=e.le;omega))
  |@up _ a _ l o=>
   obtain rfl:=d.uniq l;exact p o i m
theorem eU.ij {en:ac8}:∀d b c,eU en d b->eU en d c->b=c:=λd b c e a=>by unfold eU at e a;rw[e] at a;simp at a;omega
theorem gb.tail (d:gb l b c) (f:b≠c):∃a,l b a/\gb l a c:=by
 cases d with
 |refl=>exact absurd rfl f
 |step e g=>exact⟨_,e,g⟩
theorem R7 (cv:dZ bP) (eq:bP.length<=200) (e:kb bP j T en me) (d9:j<bP.length) (bl:dT bP j b):ac (zM ((en,(me,())),(b:Int),(j:Int),())) (λg=>kb bP j (λc=>T c\/c=b) g.1.1 g.1.2.1):=by
 have d1:b<bP.length:=(bl.lt cv).2;unfold zM;simp only[ac.bT]
 let a0:ac8->ac8->Prop:=λF p=>
  (∀a,p[a]?=me[a]?\/(p[a]?=some (j:Int)/\a<j/\gb (eU en) b a))/\p.length=bP.length/\
  ((F=en/\(gb (eU en) b j\/j<=b))\/∃g,g<j/\en[g]?=some (-1)/\gb (eU en) b g/\F=en.set g (j:Int)/\p[g]?=some (j:Int))
 refine ac.mono (P:=λn=>a0 n.1.1 n.1.2.1) ?_ ?_
 ·refine ac.loop (λu=>(u.1=-1/\a0 u.2.1.1 u.2.1.2.1)\/∃c:Nat,u.1=(c:Int)/\c<bP.length/\gb (eU en) b c/\u.2.1.1=en/\u.2.1.2.1.length=bP.length/\∀a,u.2.1.2.1[a]?=me[a]?\/(u.2.1.2.1[a]?=some (j:Int)/\a<j/\a<c/\gb (eU en) b a)) (λu=>if u.1=-1 then 0 else 1000-u.1.toNat) (.inr ⟨b,rfl,d1,.refl _,rfl,e.JZ,λa=>.inl rfl⟩) ?_;rintro⟨ex,⟨F,p,_⟩,_⟩ ci;simp only at ci;simp only[ac.bT,ac.bS,ac.af];rcases ci with⟨rfl,cs⟩|⟨c,rfl,d0,h,rfl,W,G⟩
  ·exact⟨λX=>by simp at X,λ_=>cs⟩
  refine⟨λ_=>⟨λk=>?_,λk=>?_⟩,λX=>by simp at X⟩
  ·have k:c<j:=(by simpa using k);simp only[ac.oh,ac.n6,ac.xI,ac.af,bY];have B:c<p.length:=U;have a4:p[c]?=me[c]?:=by
    rcases G c with d|⟨_,_,el,_⟩
    ·exact d
    omega
   refine⟨⟨U,B⟩,B,⟨U,B⟩,B,λx=>?_,λx=>?_⟩
   ·have x:p[c]=-1:=(by simpa using x);have J:F[c]?=some (-1):=(e.y8 c).1 (by rw[<-a4,a9 B,x]);have ce:c<F.length:=(by rw[e.sF];exact d0);refine⟨⟨U,ce⟩,ce,.inl ⟨x,?_,?_,.inr ⟨c,k,J,h,rfl,?_⟩⟩,?_⟩
    ·intro a;rcases l6 a c with l|l|l
     ·rw[ls U];exact(G a).imp id (λ⟨v,z,_,C⟩=>⟨v,z,C⟩)
     ·subst l;rw[ks B];exact .inr ⟨rfl,k,h⟩
     rw[ls U];exact(G a).imp id (λ⟨v,z,_,C⟩=>⟨v,z,C⟩)
    ·simp[W]
    ·rw[ks B]
    rw[aj x,ag U];omega
   have x:p[c]≠-1:=(by simpa using x);rcases e.y9 c p[c] (by rw[<-a4,a9 B]) with d|⟨v,f,M,L,N⟩
   ·exact absurd d x
   have em:=((e.jZ _ _).1 L).2.lt;have d5:=e.ri N;have dl:v<bP.length:=by rcases d5.2 with d|d<;>omega
   refine⟨.inr ⟨v,M,dl,h.trans (.step L N),trivial,by simp[W],λa=>?_⟩,?_⟩
   ·rcases l6 a c with l|l|l
    ·rw[ls U];exact(G a).imp id (λ⟨S,z,C,V⟩=>⟨S,z,U,V⟩)
    ·subst l;rw[ks B];exact .inr ⟨rfl,k,U,h⟩
    rw[ls U];exact(G a).imp id (λ⟨S,z,C,V⟩=>⟨S,z,U,V⟩)
   rw[ag x,ag U,M];simp only[bY];omega
  have k:j<=c:=(by simpa using k);refine⟨λa=>(G a).imp id (λ⟨v,z,_,C⟩=>⟨v,z,C⟩),W,.inl ⟨rfl,?_⟩⟩;rcases(e.ri h).2 with d|d
  ·exact .inr U
  obtain rfl:c=j:=U;exact .inl h
 rintro⟨⟨F,p,_⟩,_⟩ ⟨I,f2,a3⟩;simp only at I f2 a3;simp only[ac.af];rcases a3 with⟨rfl,h⟩|⟨g,O,J,h,rfl,ds⟩
 ·have d4:∀a f,a<bP.length->(oT bP j (λc=>T c\/c=b) a f↔oT bP j T a f):=by
   intro a f _;constructor
   ·rintro(q|⟨rfl,r,A,c,s,k,D,t⟩)
    ·exact .inl q
    rcases s with s|rfl
    ·exact .inr ⟨rfl,r,A,c,s,k,D,t⟩
    rcases h with h|h
    ·obtain⟨d8,ap,av,bX⟩:=e.NA h k;have H:=((e.jZ _ _).1 bX).2;rcases H with⟨o,_⟩|H
     ·omega
     obtain rfl:=Gh ap t H.2.2.1 A av r;exact .inr H
    omega
   rintro(q|⟨rfl,r,A,c,s,k,D,t⟩)
   ·exact .inl q
   exact .inr ⟨rfl,r,A,c,.inl s,k,D,t⟩
  refine⟨e.sF,f2,λa f=>(e.jZ a f).trans (and_congr_right λl=>(d4 a f l).symm),e.none,λa=>?_,λa K m=>?_⟩
  ·rcases I a with d|⟨d,l,w⟩
   ·rw[d];exact e.y8 a
   rw[d];constructor
   ·intro o;simp at o
   intro o;rcases h with h|h
   ·obtain⟨d8,ap,av,bX⟩:=e.NA h (by have:=(e.ri w).1;omega);have t:=e.GN w l;have d7:∀n,n<j->¬jC (dT bP) a n:=λn Z i=>by
     have:eU F a n:=(e.jZ a n).2 ⟨U,.inl ⟨Z,i⟩⟩;unfold eU at this;rw[o] at this;simp at this
    rcases((e.jZ _ _).1 bX).2 with⟨ek,_⟩|H
    ·omega
    obtain rfl:=Gh ap t H.2.2.1 d7 av l;unfold eU at bX;rw[o] at bX;simp at bX
   have:=(e.ri w).1;omega
  rcases I a with d|⟨d,l,w⟩
  ·rw[d] at m;exact e.y9 a K m
  rw[d] at m;cases m;right;have bs:b<j:=(by have:=(e.ri w).1;omega);rcases h with h|h
  ·rcases w.comp eU.ij h with E|E
   ·obtain⟨f,d2,d3⟩:=E.tail U;exact⟨j,f,rfl,d2,d3⟩
   have:=(e.ri E).1;omega
  omega
 have am:g<en.length:=by
  rcases bn g en.length with o|o
  ·exact o
  rw[fc o] at J;cases J
 have an:∀f,¬eU en g f:=λf i=>(by unfold eU at i;rw[J] at i;simp at i);have ad:∀n,n<j->¬jC (dT bP) g n:=λn Z i=>an n ((e.jZ g n).2 ⟨by have:=e.sF;omega,.inl ⟨Z,i⟩⟩);have R:∀a f,eU en a f->eU (en.set g (j:Int)) a f:=λa f i=>(by have Y:a≠g:=λd=>an f (d▸i);unfold eU at i|-;rw[ls U];exact i);have Q:eU (en.set g (j:Int)) g j:=(by unfold eU;rw[ks am]);have bs:b<j:=(by have:=(e.ri h).1;omega);have co:∀a,gb (eU en) b a->a≠g->∃f,eU en a f/\gb (eU en) f g:=λa l Y=>by
  rcases l.comp eU.ij h with E|E
  ·exact E.tail Y
  obtain⟨f,i,_⟩:=E.tail (Ne.symm Y);exact absurd i (an f)
 refine⟨by simp[e.sF],f2,λa f=>?_,λa K m=>?_,λa=>?_,λa K m=>?_⟩
 ·by_cases y:a=g
  ·subst y;have d:eU (en.set a (j:Int)) a f↔f=j:=⟨λi=>eU.ij _ _ _ i Q,λd=>d▸Q⟩;rw[d];constructor
   ·rintro rfl;exact⟨by have:=e.sF;omega,.inr ⟨rfl,O,ad,b,.inr rfl,bs,bl,e.GN h O⟩⟩
   rintro⟨_,⟨q,r⟩|⟨q,_⟩⟩
   ·exact absurd r (ad f q)
   exact q
  have d:eU (en.set g (j:Int)) a f↔eU en a f:=(by unfold eU;rw[ls U]);rw[d,e.jZ];refine and_congr_right λ_=>?_;constructor
  ·rintro(q|⟨rfl,r,A,c,s,k,D,t⟩)
   ·exact .inl q
   exact .inr ⟨rfl,r,A,c,.inl s,k,D,t⟩
  rintro(q|⟨rfl,r,A,c,s,k,D,t⟩)
  ·exact .inl q
  rcases s with s|rfl
  ·exact .inr ⟨rfl,r,A,c,s,k,D,t⟩
  exact absurd (Gh t (e.GN h O) A ad r O) y
 ·by_cases y:a=g
  ·subst y;rw[ks am] at m;cases m;exact .inr ⟨j,rfl⟩
  rw[ls U] at m;exact e.none a K m
 ·by_cases y:a=g
  ·subst y;rw[ds,ks am]
  rw[ls U];rcases I a with d|⟨d,l,w⟩
  ·rw[d];exact e.y8 a
  rw[d];constructor
  ·intro o;simp at o
  intro o;obtain⟨f,i,_⟩:=co a w y;unfold eU at i;rw[o] at i;simp at i
 rcases I a with d|⟨d,l,w⟩
 ·rw[d] at m;rcases e.y9 a K m with d|⟨v,f,M,L,N⟩
  ·exact .inl d
  exact .inr ⟨v,f,M,R _ _ L,N.mono R⟩
 rw[d] at m;cases m;right;by_cases y:a=g
 ·subst y;exact⟨j,j,rfl,Q,.refl _⟩
 obtain⟨f,i,d6⟩:=co a w y;exact⟨j,f,rfl,R _ _ i,(d6.mono R).trans (.step Q (.refl _))⟩
end
end
def M0 (c a:Nat) (g:ac8) (e:Int) (i:g=List.replicate a e++List.replicate (c-a) 0) (j:a<c):g.set a e=List.replicate (a+1) e++List.replicate (c-(a+1)) 0:=by
 subst i;apply gK;intro b;rw[p3];simp only[lu,mR,yP,lr];split
 ·rename_i h;subst h;rw[aj U,aj U];split<;>first|rfl|omega
 by_cases d:b<a
 ·rw[aj d,aj d,aj (U:b<a+1),aj (U:b<a+1)]
 rw[ag d,ag (U:¬b<a+1)];by_cases f:b-a<c-a
 ·rw[aj f,aj (U:b-(a+1)<c-(a+1))]
 rw[ag f,ag (U:¬b-(a+1)<c-(a+1))]
def Tf (a:Nat) (k:a<=200):zN ((a:Int),())=some ((List.replicate a (-1),(List.replicate a (-1),())),()):=by
 rw[<-ac.eq_iff];unfold zN;have j:e7=4294967296:=rfl;simp only[ac.bT,ac.u0,ac.af,bY];refine⟨⟨U,U,U⟩,⟨U,U,U⟩,?_⟩;refine ac.for (i0:=0) a (λb i=>i.1.1=List.replicate b (-1)++List.replicate (a-b) 0/\i.1.2.1=List.replicate b (-1)++List.replicate (a-b) 0) rfl ⟨ab,ab⟩ (bM _) ?_ ?_
 ·rintro b ⟨⟨g,e,_⟩,_⟩ _ h ⟨c,d⟩;simp only at c d;have l:g.length=a:=(by rw[c];simp;omega);have m:e.length=a:=(by rw[d];simp;omega);simp only[ac.bS,ac.bT,ac.af,ac.oh,ac.n6,ac.xI,bY];exact⟨λ_=>⟨⟨U,U⟩,U,⟨U,U⟩,U,fm U,M0 a b g _ c h,M0 a b e _ d h⟩,λf=>by simp at f;omega⟩
 rintro⟨⟨g,e,_⟩,_⟩ ⟨c,d⟩;simp only at c d;simp only[ac.bS,ac.af];refine⟨λf=>by simp at f,λ_=>?_⟩;rw[c,d];simp
structure C1 (bP:acX) (en:ac8):Prop where
 len:en.length=bP.length
 jZ:∀u p:Nat,en[u]?=some (p:Int)↔jC (dT bP) u p
 none:∀(u:Nat) (x:Int),en[u]?=some x->x=-1\/∃p:Nat,x=(p:Int)
def Yf (c:acX):kb c 0 (λ_=>False) (List.replicate c.length (-1)) (List.replicate c.length (-1)):=by
 refine⟨ab,ab,λd f=>?_,λd e a=>?_,λd=>Iff.rfl,λd e a=>?_⟩
 ·constructor
  ·intro b;unfold eU at b;rw[lr] at b;split at b
   ·simp at b
   cases b
  rintro⟨_,⟨b,_⟩|⟨_,b,_⟩⟩<;>omega
 ·rw[lr] at a;split at a
  ·cases a;exact .inl rfl
  cases a
 rw[lr] at a;split at a
 ·cases a;exact .inl rfl
 cases a
def kb.Nt {h:Nat->Prop} (a:kb j b t f d) (i:∀e g,e<j.length->(oT j b t e g↔oT j c h e g)):kb j c h f d:=
 ⟨a.sF,a.JZ,λe g=>(a.jZ e g).trans (and_congr_right λk=>i e g k),a.none,a.y8,a.y9⟩
def Wi (r:dZ j) (q:∀d,dT j b d->t d) (m c:Nat):oT j b t m c↔oT j (b+1) (λ_=>False) m c:=by
 have e:=dT.symm r;constructor
 ·rintro(⟨o,a⟩|⟨rfl,a,p,d,_,v,u,s⟩)
  ·exact .inl ⟨U,a⟩
  refine .inl ⟨U,a,?_,λz x C f=>?_⟩
  ·have g:eN (dT j) c d c:=.one (e _ _ u);rcases s.walk with rfl|f
   ·exact g
   exact((f.symm e).mono U).trans v g
  obtain⟨A,D,y⟩:=L1 x f;exact p A U y
 rintro(⟨o,a⟩|⟨_,_,_,_,n,_⟩)
 ·rcases bn c b with k|k
  ·exact .inl ⟨k,a⟩
  obtain rfl:c=b:=U;obtain⟨l,h,i⟩:=(MM e a.1).1 a.fill;exact .inr ⟨rfl,a.1,λz B w=>by have:=w.uniq a;omega,l,q l h,by have:=i.le;have:=a.1;omega,h,i⟩
 exact n.elim
def Ow (a:acX) (v:∀B∈a,B.length<4611686018427387904) (w:a.length<=200) (j:dZ a):ac (zL ((a,()),())) (λy=>y.2.1=0/\C1 a y.1):=by
 classical
 unfold zL;have A:gw a=0:=(by unfold gw;rw[ag U,aj j]);simp only[ac.bT,yG a v,A,ac.af,ac.bS];refine⟨λc=>by simp at c,λ_=>?_⟩;rw[Tf _ w];simp only[ac.af];refine ac.mono (P:=λd=>kb a a.length (λ_=>False) d.1.1 d.1.2.1) ?_ ?_
 ·refine ac.for (i0:=0) a.length (λb m=>kb a b (λ_=>False) m.1.1 m.1.2.1) rfl (Yf a) (bM _) ?_ ?_
  ·rintro b ⟨⟨p,s,_⟩,_⟩ _ k e;simp only at e;simp only[ac.bS,ac.bT,ac.hy,ac.af];refine⟨λ_=>⟨k,?_⟩,λg=>by simp at g;omega⟩;have D:=v _ (bD k);refine ac.mono (P:=λd=>kb a (b+1) (λ_=>False) d.1.1 d.1.2.1) ?_ ?_
   ·refine ac.for (i0:=0) a[b].length (λi m=>kb a b (λh=>(h:Int)∈a[b].take i) m.1.1 m.1.2.1) rfl (by simpa using e) (bM _) ?_ ?_
    ·rintro i ⟨⟨x,t,_⟩,_⟩ _ o f;simp only at f;simp only[ac.bS,ac.bT,ac.hy,ac.af];refine⟨λ_=>⟨o,?_⟩,λg=>by simp at g;omega⟩;have E:=(j.asc b k).2 _ (bD o);obtain⟨h,r⟩:∃h:Nat,a[b][i]=(h:Int):=⟨a[b][i].toNat,U⟩;have q:dT a b h:=⟨k,r▸bD o⟩;rw[r];refine(R7 j w f k q).mono ?_;rintro⟨⟨F,C,_⟩,_⟩ u;simp only at u;refine⟨fm U,u.Nt (λn d _=>?_)⟩;have z:(λl:Nat=>(l:Int)∈a[b].take i\/l=h)=(λl:Nat=>(l:Int)∈a[b].take (i+1)):=by
      funext l;rw[<-mJ o,r];apply propext;simp only[dX,ed];constructor<;>rintro(c|c)<;>first|exact .inl c|(right;omega)
     rw[z]
    rintro⟨⟨x,t,_⟩,_⟩ f;simp only at f;simp only[ac.bS,ac.af];refine⟨λg=>by simp at g,λ_=>?_⟩;rw[nQ] at f;exact f.Nt (λn d _=>Wi j (λh q=>q.2) n d)
   rintro⟨⟨x,t,_⟩,_⟩ f;exact⟨fm U,f⟩
  rintro⟨⟨p,s,_⟩,_⟩ e;simp only[ac.bS,ac.af];exact⟨λg=>by simp at g,λ_=>e⟩
 rintro⟨⟨p,s,_⟩,_⟩ e;simp only at e;refine⟨trivial,e.sF,λn d=>?_,e.none⟩;rw[show(p[n]?=some (d:Int))=eU p n d from rfl,e.jZ];constructor
 ·rintro⟨_,⟨_,c⟩|⟨_,_,_,_,c,_⟩⟩
  ·exact c
  exact c.elim
 intro c;have:=c.2.1.lt j;exact⟨this.1,.inl ⟨this.2,c⟩⟩
section
def jz (c:acX) (a b:Nat):Prop:=b=a\/(a<b/\eN (dT c) a a b)
open Classical in
def lR (c:acX) (b:Nat):ac8:=((List.range (b+1)).filter λa=>decide (jz c a b)).map λ(a:Nat)=>(a:Int)
open Classical in
def jM (c:acX) (b d:Nat):ac8:=((List.range d).filter λa=>decide (b<=a/\jz c b a)).map λ(a:Nat)=>(a:Int)
def aY (a:acX) (b:Nat):ac8:=jM a b a.length
def Kj:(b:Int)∈lR j c↔b<=c/\jz j b c:=by
 unfold lR;simp only[bR,gr,gL,decide_eq_true_eq];constructor
 ·rintro⟨d,⟨e,a⟩,f⟩;have:d=b:=U;subst this;exact⟨U,a⟩
 exactλ⟨e,a⟩=>⟨b,⟨U,a⟩,rfl⟩
def SW (c:a∈lR j b):∃d:Nat,a=(d:Int)/\d<=b/\jz j d b:=by unfold lR at c;simp only[bR,gr,gL,decide_eq_true_eq] at c;obtain⟨e,⟨h,f⟩,g⟩:=c;exact⟨e,g.symm,U,f⟩
def jz.le (a:jz j c b):c<=b:=by rcases a with a|a<;>omega
def sI:(b:Int)∈aY j c↔b<j.length/\jz j c b:=by
 unfold aY jM;simp only[bR,gr,gL,decide_eq_true_eq];constructor
 ·rintro⟨e,⟨d,a⟩,f⟩;have:e=b:=U;subst this;exact⟨d,a.2⟩
 exactλ⟨d,a⟩=>⟨b,⟨d,a.le,a⟩,rfl⟩
def CB (c:Nat->Bool) (b:Nat):(((List.range b).filter c).map λ(a:Nat)=>(a:Int)).Pairwise (· < ·):=by rw[tC];refine List.Pairwise.filter _ ?_;exact List.pairwise_lt_range.imp (λd=>by omega)
def Xy (a:acX) (b:Nat):(lR a b).Pairwise (· < ·):=CB _ _
def tV (a:acX) (b:Nat):(aY a b).Pairwise (· < ·):=CB _ _
def Xz (b:acX) (a:Nat):(lR b a).length<=a+1:=by unfold lR;rw[fK];exact db (hY _ _) ab
def It (b:acX) (c a:Nat):(jM b c a).length<=a:=by unfold jM;rw[fK];exact db (hY _ _) ab
structure vQ (bP:acX) (i:Nat) (N:Nat->Prop) (m:ac4):Prop where
 len:m.length=i+1
 top:m[i]?=some true
 iff:∀u,u<i->(m[u]?=some true↔∃k,N k/\gJ (dT bP) k u)
def PU (am:dZ j) (z:C1 j d) (cs:b<j.length) (cv:j.length<=200) {G:ac4} (q:vQ j b t G) {k0:Nat} (a0:k0<j.length):ac (loop (σ:=cN) (ρ:=cV) (λ(D,v,_)=>
 Option.bind (α:=cV⊕cn) (bif decide (D>=(0:Int))==true then bif decide (D<(b:Int))==true then(bk v.length D).bind λbl=>
 (bd v bl λad=>some ad).bind λce=>
  bif !ce then
 some (.inl (v,())) else
 some (.inr (.inr (v,()))) else some (.inr (.inr (v,()))) else some (.inr (.inr (v,())))) λbs=>match bs with
 |.inl (Q,_)=>(
 (bk Q.length D).bind λZ=>
 (bd Q Z λ_=>some (Q.set Z true)).bind λco=>
 (ax d D).bind λci=>
 some (.inl (ci,co,())))
 |.inr R=>some R) ((k0:Int),G,())) (λR=>vQ j b (λm=>t m\/m=k0) R.1):=by
 refine ac.loop (λh=>h.2.1.length=b+1/\h.2.1[b]?=some true/\(h.1=-1\/∃g:Nat,h.1=(g:Int)/\g<j.length/\gJ (dT j) k0 g)/\(∀a,a<b->h.2.1[a]?=some true->G[a]?=some true\/gJ (dT j) k0 a)/\(∀a,a<b->G[a]?=some true->h.2.1[a]?=some true)/\(∀a,a<b->gJ (dT j) k0 a->h.2.1[a]?=some true\/∃g:Nat,h.1=(g:Int)/\gJ (dT j) g a)/\(∀a e,a<b->e<b->h.2.1[a]?=some true->jC (dT j) a e->h.2.1[e]?=some true\/h.1=(e:Int))) (λh=>if h.1=-1 then 0 else 1000-h.1.toNat) ?_ ?_
 ·refine⟨q.len,q.top,.inr ⟨k0,rfl,a0,.refl _⟩,λa _ c=>.inl c,λa _ c=>c,λa _ c=>.inr ⟨k0,rfl,c⟩,λa e f k i F=>.inl ?_⟩;obtain⟨m,C,s⟩:=(q.iff a f).1 i;exact(q.iff e k).2 ⟨m,C,s.trans (.up F (.refl _))⟩
 rintro⟨d0,n,_⟩ ⟨N,O,M,I,J,y,K⟩;simp only at N O M I J y K;have H:(∀a,a<b->gJ (dT j) k0 a->n[a]?=some true)->vQ j b (λm=>t m\/m=k0) n:=λan=>by
  refine⟨N,O,λa f=>⟨λi=>?_,?_⟩⟩
  ·rcases I a f i with c|c
   ·obtain⟨m,C,s⟩:=(q.iff a f).1 c;exact⟨m,.inl C,s⟩
   exact⟨k0,.inr rfl,c⟩
  rintro⟨m,C|rfl,s⟩
  ·exact J a f ((q.iff a f).2 ⟨m,C,s⟩)
  exact an a f s
 simp only[ac.bT,ac.bS,ac.af,ac.oh,ac.n6];rcases M with rfl|⟨g,rfl,av,S⟩
 ·refine⟨λL=>by simp at L,λ_=>H λa f o=>?_⟩;rcases y a f o with c|⟨g,M,_⟩
  ·exact c
  omega
 refine⟨λ_=>⟨λB=>?_,λB=>?_⟩,λL=>by simp at L⟩
 ·have B:g<b:=(by simpa using B);have r:g<n.length:=U;simp only[bY];refine⟨⟨U,r⟩,r,λdl=>?_,λY=>?_⟩
  ·have V:g<d.length:=(by rw[z.len];exact av);refine⟨⟨U,r⟩,r,?_⟩;rw[ac.hy];refine⟨V,?_⟩;have E:d[g]?=some d[g]:=a9 V;have X:d[g]=-1\/∃e:Nat,d[g]=(e:Int)/\jC (dT j) g e:=by
    rcases z.none g _ E with l|⟨e,l⟩
    ·exact .inl l
    exact .inr ⟨e,l,(z.jZ g e).1 (by rw[E,l])⟩
   have p:∀a,(n.set g true)[a]?=some true↔a=g\/n[a]?=some true:=λa=>by
    by_cases f:a=g
    ·subst f;simp[ks r]
    rw[ls U];simp[f]
   refine⟨⟨by simp[N],by rw[ls U];exact O,?_,λa f i=>?_,λa f i=>(p a).2 (.inr (J a f i)),λa f o=>?_,λa e f k i F=>?_⟩,?_⟩
   ·rcases X with l|⟨e,l,k⟩
    ·exact .inl l
    exact .inr ⟨e,l,(k.2.1.lt am).2,S.trans (.up k (.refl _))⟩
   ·rcases(p a).1 i with rfl|i
    ·exact .inr S
    exact I a f i
   ·rcases y a f o with c|⟨u,T,A⟩
    ·exact .inl ((p a).2 (.inr c))
    obtain rfl:u=g:=U;cases A with
    |refl=>exact .inl ((p _).2 (.inl rfl))
    |@up _ e _ k P=>
     have:=(z.jZ u e).2 k;rw[E] at this;exact .inr ⟨e,ee this,P⟩
   ·rcases(p a).1 i with rfl|i
    ·have:=(z.jZ a e).2 F;rw[E] at this;exact .inr (ee this)
    rcases K a e f k i F with c|c
    ·exact .inl ((p e).2 (.inr c))
    exact .inl ((p e).2 (.inl U))
   rcases X with l|⟨e,l,k⟩
   ·rw[aj l,ag U];omega
   have:=k.1;rw[l,ag U,ag U];omega
  have W:n[g]?=some true:=(by rw[a9 r];simp at Y;rw[Y]);refine H λa f o=>?_;rcases y a f o with c|⟨u,T,A⟩
  ·exact c
  obtain rfl:u=g:=U;have:∀{w x:Nat},gJ (dT j) w x->x<b->n[w]?=some true->n[x]?=some true:=by
   intro w x c
   induction c with
   |refl=>exactλ_ c=>c
   |@up w e x k P a4=>
    intro ap a3;have ds:=P.le;refine a4 ap ?_;rcases K w e (by have:=k.1;omega) U a3 k with c|c
    ·exact c
    have:e=u:=U;rw[this];exact W
  exact this A f W
 have B:b<=g:=(by simpa using B);refine H λa f o=>?_;rcases y a f o with c|⟨u,T,A⟩
 ·exact c
 have:=A.le;omega
open Classical in
def XA (t:dZ j) (B:∀F∈j,F.length<4611686018427387904) (z:C1 j d) (n:b<j.length) (C:j.length<=200):A8 ((j,()),d,(b:Int),())=some (lR j b,()):=by
 rw[<-ac.eq_iff];unfold A8;have I:e7=4294967296:=rfl;have D:=dT.symm t;have E:IntKind.i64.wrap ((b:Int)+1)=((b+1:Nat):Int):=fm U;simp only[E,ac.bT,ac.u0,ac.oh,ac.n6,ac.af,bY,ac.hy,mR];refine⟨⟨U,U,U⟩,⟨U,U⟩,U,n,?_⟩;have H:=B _ (bD n);refine ac.mono (P:=λG=>vQ j b (λa=>dT j b a) G.1) ?_ ?_
 ·refine ac.for (i0:=0) j[b].length (λa r=>vQ j b (λe=>(e:Int)∈j[b].take a) r.1) rfl ?_ (bM _) ?_ ?_
  ·refine⟨ab,by rw[ks ab],λh q=>?_⟩;rw[ls U,lr];simp
  ·rintro a ⟨m,_⟩ _ g f;simp only at f;simp only[ac.bS,ac.bT,ac.hy];refine⟨λ_=>⟨g,?_⟩,λi=>by simp at i;omega⟩;have K:=(t.asc b n).2 _ (bD g);obtain⟨s,l⟩:∃s:Nat,j[b][a]=(s:Int):=⟨j[b][a].toNat,U⟩;rw[l];refine(PU t z n C f (k0:=s) U).mono ?_;rintro⟨x,_⟩ A;simp only[ac.af];refine⟨fm U,?_⟩;have o:(λe:Nat=>(e:Int)∈j[b].take a\/e=s)=(λe:Nat=>(e:Int)∈j[b].take (a+1)):=by
    funext e;rw[<-mJ g,l];apply propext;simp only[dX,ed];constructor<;>rintro(c|c)<;>first|exact .inl c|(right;omega)
   rw[<-o];exact A
  rintro⟨m,_⟩ f;simp only[ac.bS,ac.af];refine⟨λi=>by simp at i,λ_=>?_⟩;rw[nQ] at f;have o:(λe:Nat=>(e:Int)∈j[b])=(λe=>dT j b e):=(by funext e;exact propext ⟨λc=>⟨n,c⟩,λc=>c.2⟩);rw[<-o];exact f
 rintro⟨m,_⟩ f;simp only at f;simp only[ac.bT,ac.af];have u:∀h,(q:h<m.length)->(m[h]=true↔jz j h b):=by
  intro h q;have v:=f.len;rcases bn h b with c|c
  ·have:=f.iff h c;rw[a9 q,bF] at this;rw[this,<-MM D c];constructor
   ·exactλl=>.inr ⟨c,l⟩
   rintro(o|⟨_,l⟩)
   ·omega
   exact l
  obtain rfl:h=b:=U;have:=f.top;rw[a9 q,bF] at this;rw[this];exact⟨λ_=>.inl rfl,λ_=>rfl⟩
 have v:=f.len;refine ac.for (i0:=0) m.length (λa r=>r.1=m/\r.2.1=((List.range a).filter λw=>decide (jz j w b)).map λ(w:Nat)=>(w:Int)) rfl ⟨rfl,rfl⟩ (bM _) ?_ ?_
 ·rintro a ⟨x,y,_⟩ _ g ⟨rfl,k⟩;simp only at k g v u;have J:y.length<=a:=by
   rw[k,fK];exact db (hY _ _) ab
  simp only[ac.bS,ac.bT,ac.oh,ac.n6,ac.af,ac.qN,bY];refine⟨λ_=>⟨⟨U,g⟩,g,λp=>⟨?_,fm U,trivial,?_⟩,λp=>⟨fm U,trivial,?_⟩⟩,λi=>by simp at i;omega⟩
  ·simp;omega
  ·have:=(u a g).1 p;rw[kV,ln,fZ,<-k];simp[this]
  have:¬jz j a b:=λc=>(by rw[(u a g).2 c] at p;cases p);rw[kV,ln,fZ,<-k];simp[this]
 rintro⟨x,y,_⟩ ⟨rfl,k⟩;simp only at k;simp only[ac.bS,ac.af];refine⟨λi=>by simp at i,λ_=>?_⟩;rw[k];unfold lR;rw[v]
open Classical in
def PZ (c:acX) (b a:Nat):jM c b (a+1)=jM c b a++(if b<=a/\jz c b a then[(a:Int)] else[]):=by
 unfold jM;rw[kV,ln,fZ];congr 1;by_cases d:b<=a/\jz c b a
 ·rw[aj d];simp[d]
 rw[ag d];simp only[jD,tA];rw[ag (by simpa using d)];rfl
def NZ (r:dZ j) (s:∀C∈j,C.length<4611686018427387904) (u:j.length<=200):A7 ((j,()),())=some ((List.range j.length).map (aY j),0,()):=by
 classical
 rw[<-ac.eq_iff];unfold A7;have K:e7=4294967296:=rfl;simp only[ac.bT];refine(Ow j s u r).mono ?_;rintro⟨N,H,_⟩ ⟨t,n⟩;simp only at t n;subst t;have B:=n.len;simp only[ac.bS,ac.bT,ac.af,ac.u0,bY];refine⟨λc=>by simp at c,λ_=>⟨⟨U,U,U⟩,?_⟩⟩;rw[B];refine ac.for (i0:=0) j.length (λb m=>m.1=(List.range j.length).map λa=>jM j a b) rfl ?_ (bM _) ?_ ?_
 ·apply gK;intro l;simp[jM,lr];split<;>simp_all
 ·rintro b ⟨E,_⟩ _ x i;simp only at i;simp only[ac.bS,ac.bT,XA r s n x u,ac.af];refine⟨λ_=>?_,λe=>by simp at e;omega⟩;have M:=Xz j b;refine ac.mono (P:=λF=>F.1=(List.range j.length).map λa=>jM j a (b+1)) ?_ ?_
  ·refine ac.for (i0:=0) (lR j b).length (λl m=>m.2.1=lR j b/\m.1=(List.range j.length).map λa=>jM j a b++(if(a:Int)∈(lR j b).take l then[(b:Int)] else[])) rfl ?_ (bM _) ?_ ?_
   ·refine⟨rfl,?_⟩;rw[i];simp
   ·rintro l ⟨h,G,_⟩ _ g ⟨k,d⟩;simp only at k d;subst k;obtain⟨a,o,J,_⟩:=SW (bD g);have L:h.length=j.length:=(by rw[d];simp);have f:a<h.length:=U;have A:(a:Int)∉(lR j b).take l:=λp=>by
     obtain⟨D,y,z⟩:=gD.1 p;simp only[dS] at y;simp only[vN] at z;have:=(ga.1 (Xy j b)) D l U g U;omega
    have v:h[a]=jM j a b:=(by have:h[a]?=some (jM j a b):=(by rw[d,eT,oR U];simp only[fd];rw[ag A,jb]);rw[a9 f] at this;exact ee this);have I:=It j a b;simp only[ac.bS,ac.bT,ac.oh,ac.n6,ac.af,ac.qN,bY,o,p7,Bool.and_self,ac.pD];refine⟨λ_=>⟨⟨U,g⟩,g,⟨U,f⟩,f,?_,⟨U,f⟩,λ_=>⟨f,f,fm U,trivial,?_⟩,λc=>by cases c⟩,λe=>by simp at e;omega⟩
    ·rw[v];simp;omega
    apply gK;intro q;rw[p3];by_cases w:a=q
    ·subst w;rw[aj rfl,aj f,eT,oR (U:a<j.length)];simp only[fd];rw[v,aj];rw[<-mJ g,o];simp
    rw[ag w,d,eT,eT];rcases bn q j.length with c|c
    ·rw[oR c];simp only[fd];congr 2;rw[<-mJ g,o];have:((q:Int)=(a:Int))↔False:=iff_of_false U id;simp only[dX,ed,this,or_false]
    rw[fc (by simpa using c)];rfl
   rintro⟨h,G,_⟩ ⟨k,d⟩;simp only at k d;subst k;simp only[ac.bS,ac.af];refine⟨λe=>by simp at e,λ_=>?_⟩;rw[d,nQ];refine hZ λa _=>?_;rw[PZ];congr 1;by_cases c:a<=b/\jz j a b
   ·rw[aj c,aj (Kj.2 c)]
   rw[ag c,ag (λp=>c (Kj.1 p))]
  rintro⟨h,_⟩ d;exact⟨fm U,d⟩
 rintro⟨E,_⟩ i;simp only at i;simp only[ac.bS,ac.af];refine⟨λe=>by simp at e,λ_=>?_⟩;rw[i];rfl
end
def yK (a:ac8) (b:Int) (j:a.length<4611686018427387904):qr (a,b,())=some (decide (b∈a),()):=by
 rw[<-ac.eq_iff];unfold qr;simp only[ac.bT];refine ac.for (i0:=0) a.length (λd _=>b∉a.take d) rfl ab (bM _) ?_ ?_
 ·rintro d _ _ h c;simp only[ac.bS,ac.bT,ac.af,ac.hy];refine⟨λ_=>⟨h,λf=>?_,λi=>⟨fm U,?_⟩⟩,λg=>by simp at g;omega⟩
  ·have f:a[d]=b:=(by simpa using f);have:b∈a:=f▸bD h;simp[this]
  rw[<-mJ h,dX];have i:¬a[d]=b:=(by simpa using i);rintro(e|e)
  ·exact c e
  exact i (ed.1 e).symm
 rintro _ c;simp only[ac.bS,ac.af];refine⟨λg=>by simp at g,λ_=>?_⟩;rw[nQ] at c;simp[c]
def NN (a:Int):IntKind.u64.wrap a=a %18446744073709551616:=by unfold IntKind.wrap;rw[ag (by simp[IntKind.signed])];rfl
def ff (a:acV) (b c:Nat):Bool:=(a.getD b []).getD c false
def kH (c:acV) (b d:Nat):ac8:=((List.range d).filter λa=>b !=a&&(ff c b a||ff c a b)).map λ(a:Nat)=>(a:Int)
def h4 (a:acV):acX:=(List.range a.length).map λb=>kH a b a.length
def J7 (b:acV) (c a:Nat):(kH b c a).length<=a:=by unfold kH;rw[fK];exact db (hY _ _) ab
def J8 (c:acV) (b a:Nat):kH c b (a+1)=kH c b a++(if(b !=a&&(ff c b a||ff c a b))=true then[(a:Int)] else[]):=by
 unfold kH;rw[kV,ln,fZ];congr 1;by_cases d:(b !=a&&(ff c b a||ff c a b))=true
 ·rw[aj d];simp only[jD,d,tA];rfl
 rw[ag d];simp only[jD,tA];rw[ag d];rfl
def tQ {a:acV} (d:b<a.length) (e:c<a[b].length):ff a b c=a[b][c]:=by unfold ff;simp[List.getD,d,e]
def G6 (a:acV) (s:∀l∈a,l.length=a.length) (y:a.length<=4294967296):wW (a,())=some ((h4 a,()),()):=by
 rw[<-ac.eq_iff];unfold wW;have v:e7=4294967296:=rfl;simp only[ac.bT];refine ac.mono (P:=λg=>g.2.1.1=h4 a) ?_ ?_
 ·refine ac.for (i0:=0) a.length (λc n=>n.2.1.1=(List.range c).map λc=>kH a c a.length) rfl rfl (bM _) ?_ ?_
  ·rintro c ⟨n,m,_⟩ _ p h;simp only at h;simp only[ac.bS,ac.bT,ac.af];refine⟨λ_=>?_,λk=>by simp at k;omega⟩;refine ac.mono (P:=λg=>g.2.1=m/\g.2.2.1=kH a c a.length) ?_ ?_
   ·refine ac.for (i0:=0) a.length (λe g=>g.2.1=m/\g.2.2.1=kH a c e) rfl ⟨rfl,rfl⟩ (bM _) ?_ ?_
    ·rintro e ⟨r,o,l,_⟩ _ q ⟨i,f⟩;simp only at f i;subst i;have t:=s _ (bD p);have u:=s _ (bD q);simp only[ac.bS (b:=decide _),ac.bT (x:=Option.bind _ _)];refine⟨λ_=>?_,λk=>by simp at k;omega⟩;rw[ac.bT];refine ac.mono (P:=λg=>g=((c !=e&&(ff a c e||ff a e c)),r,o,l,())) ?_ ?_
     ·simp only[ac.bS,ac.bT,ac.af,ac.hy];rw[tQ p U,tQ q U];refine⟨λd=>⟨p,U,λj=>⟨q,U,?_⟩,λj=>?_⟩,λd=>?_⟩
      ·have d:c≠e:=(by simp at d;omega);have j:a[c][e]=false:=(by simpa using j);simp[d,j]
      ·have d:c≠e:=(by simp at d;omega);have j:a[c][e]=true:=(by simpa using j);simp[d,j]
      have d:c=e:=(by simp at d;omega);simp[d]
     rintro g rfl;have w:=J7 a c e;simp only[ac.bS,ac.bT,ac.af,ac.qN];refine⟨λd=>⟨by rw[f];simp;omega,fm U,trivial,?_⟩,λd=>⟨fm U,trivial,?_⟩⟩
     ·rw[J8,aj d,f]
     rw[J8,ag (by rw[d];simp),f,jb]
    rintro⟨r,o,l,_⟩ ⟨i,f⟩;simp only at f i;subst i;simp only[ac.bS,ac.af];exact⟨λk=>by simp at k,λ_=>⟨trivial,f⟩⟩
   rintro⟨r,o,l,_⟩ ⟨i,f⟩;simp only at f i;subst i;simp only[ac.bT,ac.af,ac.qN];refine⟨by rw[h];simp;omega,fm U,?_⟩;rw[h,f,kV,fZ];rfl
  rintro⟨n,m,_⟩ h;simp only at h;simp only[ac.bS,ac.af];exact⟨λk=>by simp at k,λ_=>h⟩
 rintro⟨n,⟨m,_⟩,_⟩ h;simp only at h;simp only[ac.af];rw[h]
def Fg {e:acV}:(b:Int)∈kH e c g↔b<g/\c≠b/\(ff e c b||ff e b c)=true:=by
 unfold kH;simp only[bR,gr,gL,bc,bne_iff_ne];constructor
 ·rintro⟨f,⟨a,d⟩,h⟩;have:f=b:=U;subst this;exact⟨a,d⟩
 exactλ⟨a,d⟩=>⟨b,⟨a,d⟩,rfl⟩
def Jn (c:acV):dZ (h4 c):=by
 have h:(h4 c).length=c.length:=(by simp[h4]);have d:∀a,(b:a<(h4 c).length)->(h4 c)[a]=kH c a c.length:=λa b=>(by simp[h4]);refine⟨λa b=>?_,λa b=>?_,λa b j i e=>?_⟩
 ·rw[d a b,h];refine⟨CB _ _,λm f=>?_⟩;unfold kH at f;simp only[bR,gr,gL] at f;obtain⟨k,⟨l,_⟩,rfl⟩:=f;omega
 ·rw[d a b,Fg];exactλg=>g.2.1 rfl
 rw[d a b,Fg] at e;rw[d j i,Fg];exact⟨U,e.2.1.symm,by rw[Bool.or_comm];exact e.2.2⟩
def Rr (a:acV):(h4 a).length=a.length:=by simp[h4]
def Rs (c:acV):∀b∈h4 c,b.length<=c.length:=by intro b a;unfold h4 at a;simp only[bR,gL] at a;obtain⟨d,_,rfl⟩:=a;exact J7 _ _ _
def dW {a:List n} {i:Nat} {b:n} (c:a[i]?=some b):ax a (i:Int)=some b:=by unfold ax;rw[aj U,bY,c]
def Dj (c:acX):dZ c↔∀a,(g:a<c.length)->c[a].Pairwise (· < ·)/\∀b,(e:b<c[a].length)->(0<=c[a][b]/\c[a][b]<c.length)/\c[a][b]≠(a:Int)/\(a:Int)∈c.getD (c[a][b]).toNat []:=by
 constructor
 ·rintro⟨j,l,m⟩ a d;refine⟨(j a d).1,λb e=>?_⟩;have k:=(j a d).2 _ (bD e);refine⟨k,λf=>l a d (f▸bD e),?_⟩;have h:(c[a][b]).toNat<c.length:=U;have:=m a d _ h (by rw[Int.toNat_of_nonneg k.1];exact bD e);rw[List.getD,a9 h];exact this
 intro g;refine⟨λa d=>⟨(g a d).1,λp n=>?_⟩,λa d i=>?_,λa d o h i=>?_⟩
 ·obtain⟨b,e,rfl⟩:=gD.1 n;exact((g a d).2 b e).1
 ·obtain⟨b,e,f⟩:=gD.1 i;exact((g a d).2 b e).2.1 f
 obtain⟨b,e,f⟩:=gD.1 i;have:=((g a d).2 b e).2.2;rw[f,bY,List.getD,a9 h] at this;exact this
def x9 (a:acX) (w:∀F∈a,F.length<4611686018427387904):r8 ((a,()),())=some (gw a,()):=by
 classical
 rw[<-ac.eq_iff];unfold r8;simp only[ac.bS,ac.af,ac.bT];refine⟨λd=>?_,λd=>?_⟩
 ·have:200<a.length:=(by simp at d;omega);simp[gw,this]
 have z:¬200<a.length:=(by simp at d;omega);refine ac.mono (P:=λi=>(i=.inl ()/\dZ a)\/(i=.inr (1,())/\¬dZ a)) ?_ ?_
 rotate_left
 ·rintro _ (⟨rfl,e⟩|⟨rfl,e⟩)
  ·simp only[ac.af];simp[gw,z,e]
  simp only[ac.af];simp[gw,z,e]
 refine ac.for (i0:=0) a.length (λt _=>∀b,(d:b<a.length)->b<t->a[b].Pairwise (· < ·)/\∀c,(f:c<a[b].length)->(0<=a[b][c]/\a[b][c]<a.length)/\a[b][c]≠(b:Int)/\(b:Int)∈a.getD (a[b][c]).toNat []) rfl (λb _ d=>by omega) (bM _) ?_ ?_
 ·rintro b _ _ e o;have E:=w _ (bD e);simp only[ac.bS,ac.af,ac.bT,ac.hy];refine⟨λ_=>⟨e,?_⟩,λg=>by simp at g;omega⟩;rw[GY _ E];simp only[ac.af];refine⟨λh=>.inr ⟨trivial,λq=>?_⟩,λh=>?_⟩
  ·have:=(q.asc b e).1;simp[this] at h
  have h:a[b].Pairwise (· < ·):=(by simpa using h);refine ac.mono (P:=λi=>(i=.inl ()/\∀c,(f:c<a[b].length)->(0<=a[b][c]/\a[b][c]<a.length)/\a[b][c]≠(b:Int)/\(b:Int)∈a.getD (a[b][c]).toNat [])\/(i=.inr (.inr (.inr (1,())))/\¬dZ a)) ?_ ?_
  rotate_left
  ·rintro _ (⟨rfl,s⟩|⟨rfl,s⟩)
   ·simp only[ac.af];refine⟨fm U,λv D H=>?_⟩;rcases bn v b with d|d
    ·exact o v D d
    obtain rfl:v=b:=U;exact⟨h,s⟩
   simp only[ac.af];exact .inr ⟨trivial,s⟩
  refine ac.for (i0:=0) a[b].length (λt _=>∀c,(f:c<a[b].length)->c<t->(0<=a[b][c]/\a[b][c]<a.length)/\a[b][c]≠(b:Int)/\(b:Int)∈a.getD (a[b][c]).toNat []) rfl (λb _ d=>by omega) (bM _) ?_ ?_
  ·rintro c _ _ f p;have j:¬((0<=a[b][c]/\a[b][c]<a.length)/\a[b][c]≠(b:Int)/\(b:Int)∈a.getD (a[b][c]).toNat [])->¬dZ a:=λd q=>d (((Dj a).1 q b e).2 c f);simp only[ac.bS,ac.af,ac.bT,ac.hy];refine⟨e,λ_=>⟨e,f,λk=>⟨λl=>⟨λm=>?_,λm=>?_⟩,λl=>?_⟩,λk=>?_⟩,λg=>by simp at g;omega⟩
   ·have A:0<=a[b][c]/\a[b][c]<(a.length:Int):=(by simp at k l;omega);have C:a[b][c]≠(b:Int):=(by simpa using m);rw[ac.Ju];refine⟨U,A.1,?_⟩;rw[yK _ _ (w _ (bD _))];have x:a.getD (a[b][c]).toNat []=a[(a[b][c]).toNat]'(by omega):=by
     rw[List.getD,a9 U];rfl
    simp only[ac.af];refine⟨λn=>.inr ⟨trivial,j ?_⟩,λn=>⟨fm U,λu B G=>?_⟩⟩
    ·rintro⟨_,_,y⟩;rw[x] at y;simp[y] at n
    rcases bn u c with d|d
    ·exact p u B d
    obtain rfl:u=c:=U;refine⟨A,C,?_⟩;rw[x];simpa using n
   ·refine .inr ⟨trivial,j (λr=>r.2.1 ?_)⟩;simpa using m
   ·refine .inr ⟨trivial,j (λr=>?_)⟩;simp at l;omega
   refine .inr ⟨trivial,j (λr=>?_)⟩;simp at k;omega
  rintro _ p;simp only[ac.bS,ac.af,ac.bT,ac.hy];exact⟨e,λg=>by simp at g,λ_=>.inl ⟨trivial,λc f=>p c f f⟩⟩
 rintro _ o;simp only[ac.bS,ac.af];exact⟨λg=>by simp at g,λ_=>.inl ⟨trivial,(Dj a).2 λb e=>o b e e⟩⟩
def OB (b:ac8) (e:Int) (r:b.length<4611686018427387904):AS (b,e,())=some (decide (∀c∈b,0<=c/\c<e),()):=by
 rw[<-ac.eq_iff];unfold AS;simp only[ac.bT];refine ac.mono (P:=λn=>(n=.inl ()/\∀c∈b,0<=c/\c<e)\/(n=.inr (false,())/\¬∀c∈b,0<=c/\c<e)) ?_ ?_
 ·refine ac.for (i0:=0) b.length (λf _=>∀d,(a:d<b.length)->d<f->0<=b[d]/\b[d]<e) rfl (λd _ a=>by omega) (bM _) ?_ ?_
  ·rintro f _ _ l j;have m:¬(0<=b[f]/\b[f]<e)->¬∀c∈b,0<=c/\c<e:=λa o=>a (o _ (bD l));simp only[ac.bS,ac.bT,ac.af,ac.hy];refine⟨λ_=>⟨l,λh=>⟨l,λi=>.inr ⟨trivial,m (λa=>?_)⟩,λi=>⟨fm U,λd g q=>?_⟩⟩,λh=>.inr ⟨trivial,m (λa=>?_)⟩⟩,λk=>by simp at k;omega⟩
   ·simp at i;omega
   ·rcases bn d f with a|a
    ·exact j d g a
    obtain rfl:d=f:=U;simp at h i;omega
   simp at h;omega
  rintro _ j;simp only[ac.bS,ac.af];refine⟨λk=>by simp at k,λ_=>.inl ⟨trivial,λc p=>?_⟩⟩;obtain⟨d,g,rfl⟩:=gD.1 p;exact j d g g
 rintro _ (⟨rfl,a⟩|⟨rfl,a⟩)
 ·simp only[ac.af];rw[decide_eq_true a]
 simp only[ac.af];rw[decide_eq_false a]
def KM:d.Nodup↔∀a,(c:a<d.length)->d[a]∉d.take a:=by
 unfold List.Nodup;rw[ga];constructor
 ·intro c a e h;obtain⟨j,g,b⟩:=gD.1 h;simp only[dS] at g;simp only[vN] at b;exact c j a U e U b
 intro c a i e f k b;exact c i f (gD.2 ⟨a,by simp;omega,by simp[b]⟩)
def OI (b:ac8) (o:b.length<4611686018427387904):AT (b,())=some (decide (¬b.Nodup),()):=by
 rw[<-ac.eq_iff];unfold AT;simp only[ac.bT];refine ac.mono (P:=λj=>(j=.inl ()/\b.Nodup)\/(j=.inr (true,())/\¬b.Nodup)) ?_ ?_
 ·refine ac.for (i0:=0) b.length (λd _=>∀a,(c:a<b.length)->a<d->b[a]∉b.take a) rfl (λa _ c=>by omega) (bM _) ?_ ?_
  ·rintro d _ _ i f;have al:e9 (d:Int)=some d:=(by unfold e9;rw[aj U,bY]);have k:fy 0 d b.length=some ():=(by unfold fy;rw[aj U]);simp only[ac.bS,ac.bT,ac.af,ac.hy,al,k,aG,fd,kS];refine⟨λ_=>⟨i,?_⟩,λg=>by simp at g;omega⟩;rw[yK _ _ (by rw[dS];omega)];simp only[ac.af];refine⟨λc=>.inr ⟨trivial,λl=>?_⟩,λc=>⟨fm U,λa e n=>?_⟩⟩
   ·exact KM.1 l d i (of_decide_eq_true c)
   rcases bn a d with h|h
   ·exact f a e h
   obtain rfl:a=d:=U;exact of_decide_eq_false c
  rintro _ f;simp only[ac.bS,ac.af];exact⟨λg=>by simp at g,λ_=>.inl ⟨trivial,KM.2 λa e=>f a e e⟩⟩
 rintro _ (⟨rfl,c⟩|⟨rfl,c⟩)
 ·simp only[ac.af];rw[decide_eq_false (λm=>m c)]
 simp only[ac.af];rw[decide_eq_true c]
def mI (a:acX):acV:=(List.range a.length).map λb=>(List.range a.length).map λ(c:Nat)=>decide ((c:Int)∈a.getD b [])
def GA (a:acX):(mI a).length=a.length:=by simp[mI]
def Nf (a:b<j.length):(mI j)[b]?=some ((List.range j.length).map λ(c:Nat)=>decide ((c:Int)∈j[b])):=by simp[mI,a,List.getD]
def Hk (t:∀x∈j,x.length<4611686018427387904) (z:j.length<=200) (u:∀a,(d:a<j.length)->∀s∈j[a],0<=s/\s<(j.length:Int)):wY ((j,()),())=some (mI j,()):=by
 rw[<-ac.eq_iff];unfold wY;have y:e7=4294967296:=rfl;simp only[ac.bT];refine ac.mono (P:=λi=>i.1=mI j) ?_ (by rintro⟨n,_⟩ d;simp only at d;simp only[ac.af];rw[d]);refine ac.for (i0:=0) j.length (λw k=>k.1=(mI j).take w) rfl ab (bM _) ?_ ?_
 ·rintro a ⟨o,_⟩ _ g f;simp only at f;have B:=t _ (bD g);simp only[ac.bS,ac.bT,ac.u0,bY];refine⟨λ_=>⟨⟨U,U,U⟩,?_⟩,λe=>by simp at e;omega⟩;refine ac.mono (P:=λi=>i.1=o/\i.2.1=(List.range j.length).map λ(q:Nat)=>decide ((q:Int)∈j[a])) ?_ ?_
  ·refine ac.for (i0:=0) j[a].length (λh k=>k.1=o/\k.2.1=(List.range j.length).map λ(q:Nat)=>decide ((q:Int)∈j[a].take h)) rfl ⟨rfl,?_⟩ (bM _) ?_ ?_
   ·apply gK;intro h;simp[lr];split<;>simp_all
   ·rintro h ⟨n,p,_⟩ _ m ⟨c,b⟩;simp only at c b;have v:=u a g _ (bD m);have A:p.length=j.length:=(by rw[b];simp);simp only[ac.bS,ac.bT,ac.hy,ac.oh,ac.n6,ac.af];refine⟨g,λ_=>⟨g,m,⟨v.1,U⟩,U,fm U,c,?_⟩,λe=>by simp at e;omega⟩;apply gK;intro l;rw[p3,b,eT,eT];rcases bn l j.length with d|d
    ·rw[oR d];simp only[fd,<-mJ m,dX,ed,fK,nP];by_cases r:(j[a][h]).toNat=l
     ·rw[aj r,aj U];have:(l:Int)=j[a][h]:=U;simp[this]
     rw[ag r];have:¬(l:Int)=j[a][h]:=U;simp[this]
    rw[ag U,fc (by simpa using d)];rfl
   rintro⟨n,p,_⟩ ⟨c,b⟩;simp only at c b;simp only[ac.bS,ac.bT,ac.hy,ac.af];refine⟨g,λe=>by simp at e,λ_=>⟨c,?_⟩⟩;rw[b,nQ]
  rintro⟨n,p,_⟩ ⟨c,b⟩;simp only at c b;subst c;simp only[ac.bT,ac.qN,ac.af];refine⟨by rw[f];simp;omega,fm U,?_⟩;rw[f,b];have:=Nf g;rw[hD,this];rfl
 rintro⟨o,_⟩ f;simp only at f;simp only[ac.bS,ac.af];refine⟨λe=>by simp at e,λ_=>?_⟩;rw[f,<-GA,nQ]
def IW (a:Nat) (k:a<=4294967296):wZ ((a:Int),())=some (List.replicate a (List.replicate a false),()):=by
 rw[<-ac.eq_iff];unfold wZ;have j:e7=4294967296:=rfl;simp only[ac.bT];refine ac.mono (P:=λf=>f.1=List.replicate a (List.replicate a false)) ?_ (by rintro⟨l,_⟩ d;simp only at d;simp only[ac.af];rw[d]);refine ac.for (i0:=0) a (λe g=>g.1=List.replicate e (List.replicate a false)) rfl rfl (bM _) ?_ ?_
 ·rintro e ⟨h,_⟩ _ i b;simp only at b;simp only[ac.bS,ac.bT,ac.af,ac.u0,ac.qN,bY];refine⟨λ_=>⟨⟨U,U,U⟩,by rw[b];simp;omega,fm U,?_⟩,λc=>by simp at c;omega⟩;rw[b,List.replicate_succ']
 rintro⟨h,_⟩ b;simp only[ac.bS,ac.af];exact⟨λc=>by simp at c,λ_=>b⟩
section
def aF {α:Type} (b:Nat) (a:Nat->α):List α:=(List.range b).map a
def eI {α:Type} (b:Nat->α) (c:Nat) (d:α):Nat->α:=λa=>if a=c then d else b a
section
variable {α A B:Type}
def iF (c:Nat->α) (a:Nat) (b:α):eI c a b a=b:=aj rfl
def iE (a:Nat->α) (e:α) (d:b≠c):eI a c e b=a b:=ag d
def bp (a:Nat) (b:Nat->α):(aF a b).length=a:=by simp[aF]
def mr (c:Nat) (d:Nat->α) (b:Nat):(aF c d)[b]?=if b<c then some (d b) else none:=by
 unfold aF;rw[eT];rcases bn b c with a|a
 ·rw[oR a,aj a];rfl
 rw[fc (by simpa using a),ag U];rfl
def uH {a:Nat->α} (d:b<c):(aF c a)[b]?=some (a b):=by rw[mr,aj d]
def gx {a:Nat->α} (d:b<(aF c a).length):(aF c a)[b]=a b:=by simp[aF]
def dy {c d:Nat->α} (e:∀a,a<b->c a=d a):aF b c=aF b d:=hZ λa f=>e a (gL.1 f)
def I9 (a:Nat->α):aF 0 a=[]:=rfl
def m8 (b:Nat) (a:Nat->α):aF (b+1) a=aF b a++[a b]:=by simp[aF,kV]
def hu (a:Nat) (b:α):List.replicate a b=aF a λ_=>b:=by apply gK;intro c;rw[lr,mr]
def g3 {d:Nat->α} (f:α):(aF c d).set b f=aF c (eI d b f):=by
 apply gK;intro e;rw[p3,mr,mr,bp];unfold eI;by_cases a:b=e
 ·subst a;simp
 have h:¬e=b:=λg=>a (Eq.symm g);simp only[ag a,ag h]
def Rg (c:List α) (d:Nat->α) (e:∀a,(b:a<c.length)->c[a]=d a):c=aF c.length d:=by
 apply gK;intro a;rw[mr];split
 ·rename_i b;rw[a9 b,e a b]
 rename_i b;exact fc U
def Bn (d b:Nat) (c:Nat->α) (f:b<=d):(aF d c).take b=aF b c:=by
 apply gK;intro e;rw[rx,mr,mr];by_cases a:e<b
 ·rw[aj a,aj a,aj U]
 rw[ag a,ag a]
def Re (c a:Nat) (d:Nat->α):(aF c d).drop a=aF (c-a) (λb=>d (a+b)):=by
 apply gK;intro b;rw[iJ,mr,mr];by_cases e:a+b<c
 ·rw[aj e,aj U]
 rw[ag e,ag U]
def xg (b d:Nat) (e f:Nat->α):aF b e++aF d f=aF (b+d) (λa=>if a<b then e a else f (a-b)):=by
 apply gK;intro a;rw[yP,bp,mr,mr,mr];by_cases c:a<b
 ·rw[aj c,aj c,aj U,aj c]
 rw[ag c];by_cases g:a-b<d
 ·rw[aj g,aj U,ag c]
 rw[ag g,ag U]
def eL (a:b<c):bk c (b:Int)=some b:=by unfold bk;rw[aj ⟨U,by simpa using a⟩];simp
def mZ {d:List α} {c:α} {a:α->Option A} (e:d[b]?=some c):bd d b a=a c:=by unfold bd;rw[e]
def fv {a:Nat->α} {d:α->Option A} (e:b<c):bd (aF c a) b d=d (a b):=mZ (uH e)
def BC {a:Nat->α} (d:b<c):ax (aF c a) (b:Int)=some (a b):=dW (uH d)
def er (a:b<=4294967296):bJ b=some ():=aj a
def gA (a:b<=4294967296):dI (b:Int) (b:Int)=some b:=by unfold dI;rw[aj ⟨U,U,by have:e7=4294967296:=rfl;omega⟩];simp
def q0:e9 (b:Int)=some b:=by unfold e9;rw[aj U];simp
def sA (a:c<=b/\b<=g):fy c b g=some ():=aj a
def F2 (a:0<b):sV b=some ():=rfl
def dO (a b:Int):(a==b)=decide (a=b):=by by_cases c:a=b<;>simp[c]
def bH (a b:Int):(a !=b)=!decide (a=b):=by by_cases c:a=b<;>simp[c]
def aA [Decidable o] (a:o):decide o=true:=decide_eq_true a
def ay [Decidable o] (a:¬o):decide o=false:=decide_eq_false a
def bb {a c:α} (b:h=true):(bif h then a else c)=a:=by rw[b];rfl
def a2 {c a:α} (b:h=false):(bif h then c else a)=a:=by rw[b];rfl
def bj [Decidable o] {a b:α}:(bif decide o then a else b)=if o then a else b:=by by_cases c:o<;>simp[c]
def wd [Decidable o] {a b:α}:(bif decide o==true then a else b)=if o then a else b:=by by_cases c:o<;>simp[c]
def rS [Decidable o] {a b:α}:(bif decide o==false then a else b)=if o then b else a:=by by_cases c:o<;>simp[c]
def yz (a:b<9223372036854775808):IntKind.i64.wrap (b:Int)=(b:Int):=wrap64 U U
def NP (a:b+c<9223372036854775808):IntKind.i64.wrap ((b:Int)+(c:Int))=((b+c:Nat):Int):=by rw[wrap64 U U];simp
def Zk (d:c<=b) (a:b<9223372036854775808):IntKind.i64.wrap ((b:Int)-(c:Int))=((b-c:Nat):Int):=by rw[wrap64 U U];omega
def yB (c:1<=b) (a:b<9223372036854775808):IntKind.i64.wrap ((b:Int)-1)=((b-1:Nat):Int):=by rw[wrap64 U U];omega
def hn (a:b+1<9223372036854775808):IntKind.i64.wrap ((b:Int)+1)=((b+1:Nat):Int):=by rw[wrap64 U U];omega
end
def ac.of_eq {α:Type} {b:Option α} {y:α} {a:α->Prop} (c:b=some y) (d:a y):ac b a:=⟨y,c,d⟩
def ac.aU {α A:Type} {c:Option α} {b:α->Option A} {P:α->Prop} {a:A->Prop} (e:ac c P) (f:∀d,P d->ac (b d) a):ac (c.bind b) a:=
 ac.bT.2 (e.mono f)
def ac.ite {α:Type} [Decidable o] {c d:Option α} {b:α->Prop} (e:o->ac c b) (f:¬o->ac d b):ac (if o then c else d) b:=by
 by_cases a:o
 ·rw[aj a];exact e a
 rw[ag a];exact f a
def ak {α A:Type} {c:Option α} {a:α->Option A} {y:α} {b:Option A} (d:c=some y) (e:a y=b):c.bind a=b:=by rw[d];exact e
def xD {f:Int×n->Option ((Int×n)⊕q)} {g:q} {h:n} (d:Nat) (c:Nat->n) (e:Nat) (m:a=(e:Int)) (p:h=c e) (l:e<=d) (o:∀b,e<=b->b<d->f ((b:Int),c b)=some (.inl (((b+1:Nat):Int),c (b+1)))) (k:f ((d:Int),c d)=some (.inr g)):loop f (a,h)=some g:=by
 subst m p;rw[<-ac.eq_iff];refine ac.for d (λb r=>r=c b) rfl rfl l ?_ ?_
 ·rintro b _ i j rfl;rw[o b i j];exact ac.af.2 ⟨rfl,rfl⟩
 rintro _ rfl;rw[k];exact ac.af.2 rfl
def qR {τ:Type} {k:Int×τ->Option ((Int×τ)⊕n)} (f:Nat) (e:Nat->Prop) (h:τ) (o m:n) (d:Nat) (t:a=(d:Int)) (s:d<=f) (u:∀b,d<=b->b<f->(∀c,d<=c->c<b->e c)->k ((b:Int),h)=some (open Classical in if e b then .inl (((b+1:Nat):Int),h) else .inr m)) (r:(∀c,d<=c->c<f->e c)->k ((f:Int),h)=some (.inr o)):loop k (a,h)=some (open Classical in if∀b,d<=b->b<f->e b then o else m):=by
 classical
 subst t;rw[<-ac.eq_iff];refine ac.for f (λb v=>v=h/\∀c,d<=c->c<b->e c) rfl ⟨rfl,λc l q=>by omega⟩ s ?_ ?_
 ·rintro b _ p l ⟨rfl,g⟩;rw[u b p l g];by_cases j:e b
  ·rw[aj j];refine ac.af.2 ⟨rfl,rfl,λc q w=>?_⟩;rcases bn c b with i|i
   ·exact g c q i
   obtain rfl:c=b:=U;exact j
  rw[ag j];exact ac.af.2 (by rw[ag (λi=>j (i b p l))])
 rintro _ ⟨rfl,g⟩;rw[r g];exact ac.af.2 (by rw[aj g])
def Fa {g:Int×Unit->Option cD} (e:Nat) (c:Nat->Prop) (k:∀a,a<e->g ((a:Int),())=some (open Classical in if c a then .inl (((a+1:Nat):Int),()) else .inr (.inr ((a:Int),())))) (j:g ((e:Int),())=some (.inr (.inl ()))):ac (loop g (0,())) (λl=>match l with|.inl _=>∀a,a<e->c a|.inr m=>0<=m.1/\¬∀a,a<e->c a):=by
 classical
 refine ac.for e (λa _=>∀b,b<a->c b) (i0:=0) rfl (λb d=>by omega) (bM _) ?_ ?_
 ·rintro a ⟨⟩ _ i h;rw[k a i];by_cases f:c a
  ·rw[aj f];refine ac.af.2 ⟨rfl,λb n=>?_⟩;rcases bn b a with d|d
   ·exact h b d
   obtain rfl:b=a:=U;exact f
  rw[ag f];exact ac.af.2 ⟨by show(0:Int)<=(a:Int);omega,λd=>f (d a i)⟩
 rintro⟨⟩ h;rw[j];exact ac.af.2 h
end
def GR (a:Int):IntKind.u32.wrap a=a %4294967296:=by unfold IntKind.wrap;exact ag (ab:¬(false&&decide (a %4294967296>=(2147483648:Int)))=true)
def yA (a:Int):IntKind.u64.wrap a=a %18446744073709551616:=by unfold IntKind.wrap;exact ag (ab:¬(false&&decide (a %18446744073709551616>=(9223372036854775808:Int)))=true)
def CW (b:0<=a) (c:a<18446744073709551616):IntKind.u64.wrap a=a:=by rw[yA];omega
def GS (b:0<=a) (c:a<4294967296):IntKind.u32.wrap a=a:=by rw[GR];omega
def zm (a:b<18446744073709551616):(BitVec.ofInt 64 (b:Int)).toNat=b:=by rw[BitVec.ofInt_natCast,BitVec.toNat_ofNat];exact Nat.mod_eq_of_lt a
def zl (a:b<4294967296):(BitVec.ofInt 32 (b:Int)).toNat=b:=by rw[BitVec.ofInt_natCast,BitVec.toNat_ofNat];exact Nat.mod_eq_of_lt a
def HE (d:b<18446744073709551616) (e:c<18446744073709551616):dc .u64 (b:Int) (c:Int)=((b&&&c:Nat):Int):=by have a:((BitVec.ofInt 64 (b:Int))&&&(BitVec.ofInt 64 (c:Int))).toNat=b&&&c:=(by rw[BitVec.toNat_and,zm d,zm e]);have f:b&&&c<=b:=Nat.and_le_left;unfold dc;rw[show IntKind.u64.bits=64 from rfl,a];exact CW U U
def HD (d:b<4294967296) (e:c<4294967296):dc .u32 (b:Int) (c:Int)=((b&&&c:Nat):Int):=by have a:((BitVec.ofInt 32 (b:Int))&&&(BitVec.ofInt 32 (c:Int))).toNat=b&&&c:=(by rw[BitVec.toNat_and,zl d,zl e]);have f:b&&&c<=b:=Nat.and_le_left;unfold dc;rw[show IntKind.u32.bits=32 from rfl,a];exact GS U U
def Wb (a:b<18446744073709551616) (d:c<18446744073709551616):eB .u64 (b:Int) (c:Int)=((b|||c:Nat):Int):=by have e:(BitVec.ofInt 64 (b:Int)|||BitVec.ofInt 64 (c:Int)).toNat=b|||c:=(by rw[BitVec.toNat_or,zm a,zm d]);have f:b|||c<2^64:=Nat.or_lt_two_pow a d;unfold eB;rw[show IntKind.u64.bits=64 from rfl,e];exact CW U U
def Wa (a:b<4294967296) (d:c<4294967296):eB .u32 (b:Int) (c:Int)=((b|||c:Nat):Int):=by have e:(BitVec.ofInt 32 (b:Int)|||BitVec.ofInt 32 (c:Int)).toNat=b|||c:=(by rw[BitVec.toNat_or,zl a,zl d]);have f:b|||c<2^32:=Nat.or_lt_two_pow a d;unfold eB;rw[show IntKind.u32.bits=32 from rfl,e];exact GS U U
def qb (b:Nat) (d:0<=a) (i:a<18446744073709551616) (c:Int) (f:b<=64) (g:c=2^b-1):dc .u64 a c=a %2^b:=by obtain⟨k,rfl⟩:=eE d;have h:0<2^b:=hp b;have e:c=((2^b-1:Nat):Int):=(by rw[g,Int.natCast_sub h];simp);have j:2^b<=2^64:=nW aa f;rw[e,HE U U,Nat.and_two_pow_sub_one_eq_mod];simp
def and_low32 (b:0<=a) (c:a<18446744073709551616):dc .u64 a 4294967295=a %4294967296:=qb 32 b c _ aa aa
def lh (a:Int):da .u64 a 32=some (a/4294967296):=by have:da .u64 a 32=some (a.fdiv 4294967296):=rfl;rw[this,yL _ aa]
def lW (b:0<=a) (c:a<=64):gn .u64 e a=some ((e*2^a.toNat) %18446744073709551616):=by unfold gn;rw[aj b,yA,show IntKind.u64.bits=64 from rfl,fr U]
def rc (b:0<=a) (c:a<=64):da .u64 e a=some (e/2^a.toNat):=by unfold da;rw[aj b,show IntKind.u64.bits=64 from rfl,fr U,yL _ (by exact Int.pow_nonneg aa)]
def HG (a:Nat) (d:b<2^a):b|||(c*2^a)=b+c*2^a:=by rw[Nat.add_comm,Nat.or_comm,jF,Nat.two_pow_add_eq_or_of_lt d]
def k9 (b:Nat) (f:0<=a) (g:a<2^b) (h:0<=e) (m:a<18446744073709551616) (n:e<18446744073709551616) (j:e %2^b=0):eB .u64 a e=a+e:=by obtain⟨d,rfl⟩:=eE f;obtain⟨c,rfl⟩:=eE h;have l:d<2^b:=(by have:((d:Nat):Int)<((2^b:Nat):Int):=(by simpa using g);omega);have k:c %2^b=0:=(by have:((c %2^b:Nat):Int)=0:=(by simpa using j);omega);rw[Wb U U];have i:c=(c/2^b)*2^b:=(by have:=nU c (2^b);rw[k,jF] at this;omega);rw[i,HG b l];simp
def az (a:Nat):Nat:=if a=0 then 0 else a.log2+1
def de {k:Nat}:az b<=k↔b<2^k:=by
 unfold az;split
 ·rename_i a;subst a;simp;exact hp k
 rename_i a;rw[<-Nat.log2_lt a];omega
def rM:b<az c↔2^b<=c:=by rw[<-Nat.not_le,de,Nat.not_lt]
def L0 (a b:Nat) (c:a<=b):2^a<=2^b:=nW aa c
def x2 (a b:Nat) (c:a<b):2^a<2^b:=Nat.pow_lt_pow_right aa c
def hJ (a:c<=b):az c<=az b:=by rw[de];have:=de.1 (a6 (az b));omega
def n7 {k l:Nat} (a:az b<=k) (d:az c<=l):az (b*c)<=k+l:=by rw[de,gW];exact Nat.mul_lt_mul'' (de.1 a) (de.1 d)
def KA {a:Nat} (d:c<=a*b) (e:g<b):c+g<=(a+1)*b:=by rw[e2,gN];omega
def H7 (a:Nat) (d:az b<=a) (e:az c<=a):az (b+c)<=a+1:=by rw[de] at*;rw[je];omega
def Wx {e:Nat} (d:g*2^c=b*2^e) (h:0<g):0<b:=by
 rcases h0 b with a|a
 ·rw[a,p8] at d;have:=hp c;rcases Nat.mul_eq_zero.1 d with f|f<;>omega
 exact a
def n8 {m:Nat} (a:0<m):0<az m:=rM.2 a
def Ps:az 0=0:=rfl
def H8 {k:Nat} (a:2^k<=b) (c:b<2^(k+1)):az b=k+1:=by have:=rM.2 a;have:=de.2 c;omega
def tR (a:0<b):2^(az b-1)<=b/\b<2^az b:=
 ⟨rM.1 (by have:=n8 a;omega),de.1 (a6 _)⟩
def k1 (d:0<b) (a:Nat):az (b*2^a)=az b+a:=by
 obtain⟨e,f⟩:=tR d;have h:=hp a;have i:=n8 d;obtain⟨c,g⟩:∃c,az b=c+1:=⟨az b-1,U⟩;rw[g] at e f|-;rw[(U:c+1+a=(c+a)+1)];refine H8 ?_ ?_
 ·rw[gW];exact gE _ (by simpa using e)
 rw[(U:c+a+1=(c+1)+a),gW];exact Nat.mul_lt_mul_of_pos_right f h
def o0 (b a:Nat):az (b/2^a)=az b-a:=by
 have c:=hp a;apply Nat.le_antisymm
 ·rw[de,Nat.div_lt_iff_lt_mul c,<-gW];exact de.1 U
 rcases bn a (az b) with d|d
 ·have:az b-a-1<az (b/2^a):=by
   rw[rM,yT c,<-gW];exact rM.1 U
  omega
 omega
def td (c:Bool) (b:Int) (d:Bool) (a:Int):Bool:=
 if a=1 then c else if a=2 then !c else if a=3 then false else decide (0<b)||(decide (b=0)&&d)
def iS (b a:Nat) (c:Bool):Int:=
 if 2*(b %2^a)<2^a then-1 else if 2^a<2*(b %2^a) then 1 else if c then 1 else 0
def gS (e:Bool) (a b:Nat) (c:Bool) (d:Int):Nat:=
 if a %2^b=0/\c=false then a/2^b
 else if td e (iS a b c) (decide (a/2^b %2=1)) d then a/2^b+1 else a/2^b
def Fl (b a c:Nat):b %2^(a+c)=(b/2^a %2^c)*2^a+b %2^a:=by rw[gW,Nat.mod_mul,Nat.add_comm,jF]
def IJ (b a c:Nat):b/2^(a+c)=b/2^a/2^c:=by rw[gW,Nat.div_div_eq_div_mul]
def Qe (v:Bool) (d c f:Nat) (h:Bool) (u:Int) (B:0<f):gS v d (c+f) h u=gS v (d/2^c) f (h||decide (d %2^c≠0)) u:=by
 have s:=hp c;have r:=Nat.mod_lt d s;have w:¬(d %2^(c+f)=0/\h=false)->iS d (c+f) h=iS (d/2^c) f (h||decide (d %2^c≠0)):=by
  intro _;unfold iS;rw[Fl,gW];obtain⟨o,rfl⟩:∃o,f=o+1:=⟨f-1,U⟩;rw[je];generalize A:d/2^c %(2^o*2)=a;generalize z:d %2^c=j at r|-;generalize y:2^o=g;generalize x:2^c=b at r s|-;rw[show b*(g*2)=2*(g*b) by grind,show 2*(a*b+j)=2*(a*b)+2*j by grind];rcases l6 a g with e|e|e
  ·have i:(a+1)*b<=g*b:=gE _ e;rw[e2] at i;have l:2*(a*b)+2*j<2*(g*b):=U;have m:2*a<g*2:=U;rw[aj l,aj m]
  ·subst e;have l:¬2*(a*b)+2*j<2*(a*b):=U;have m:¬2*a<a*2:=U;have p:¬a*2<2*a:=U;rw[ag l,ag m,ag p];by_cases t:j=0
   ·subst t;have n:¬2*(a*b)<2*(a*b)+2*0:=U;rw[ag n];simp
   have n:2*(a*b)<2*(a*b)+2*j:=U;rw[aj n];simp[t]
  have i:(g+1)*b<=a*b:=gE _ e;rw[e2] at i;have l:¬2*(a*b)+2*j<2*(g*b):=U;have m:2*(g*b)<2*(a*b)+2*j:=U;have p:¬2*a<g*2:=U;have n:g*2<2*a:=U;rw[ag l,aj m,ag p,aj n]
 have q:(d %2^(c+f)=0/\h=false)↔(d/2^c %2^f=0/\(h||decide (d %2^c≠0))=false):=by
  rw[Fl];cases h
  ·simp only[and_true,Bool.false_or,decide_eq_false_iff_not,ne_eq,Decidable.not_not];constructor
   ·intro e;have i:d %2^c=0:=U;refine⟨?_,i⟩;rw[i] at e;rcases Nat.mul_eq_zero.1 (by omega:d/2^c %2^f*2^c=0) with k|k
    ·exact k
    omega
   rintro⟨i,k⟩;rw[i,k];simp
  simp
 unfold gS;by_cases e:d %2^(c+f)=0/\h=false
 ·rw[aj e,aj (q.1 e),IJ]
 rw[ag e,ag (λk=>e (q.2 k)),w e,IJ]
def km (b:Bool) (a:Int):Int:=if b then 9223372036854775808+a else a
def mE (a:Bool) (b:Int):Int:=
 if b=3\/(b=1/\a=false)\/(b=2/\a=true) then km a 9218868437227405311 else km a 9218868437227405312
def kI (a:Bool) (b:Nat) (c d:Int):Int:=
 if b<4503599627370496 then km a b
 else if b=9007199254740992 then if c+1+1075>=2047 then mE a d else km a ((c+1+1075)*4503599627370496)
 else if c+1075>=2047 then mE a d else km a ((c+1075)*4503599627370496+(b-4503599627370496))
def bv (b:Nat) (a:Int):Int:=max (a+az b-1-52) (-1074)
def h8 (d:Bool) (b:Nat) (a:Int) (e:Bool) (c:Int):Int:=
 if bv b a<=a then kI d (b*2^(a-bv b a).toNat) (bv b a) c
 else kI d (gS d b (bv b a-a).toNat e c) (bv b a) c
def YW {m k:Nat} {e:Int} (a:k<az m):bv (m/2^k) (e+k)=bv m e:=by unfold bv;rw[o0];congr 1;omega
def MF {d:Bool} {k:Nat} (i:k+53<az b):h8 d b a h r=h8 d (b/2^k) (a+k) (h||decide (b %2^k≠0)) r:=by have g:=YW (m:=b) (k:=k) (e:=a) U;have j:a+k<bv b a:=(by unfold bv;omega);unfold h8;rw[g,ag U,ag U];obtain⟨c,f⟩:∃c:Nat,bv b a-a=(k+c:Nat):=⟨(bv b a-a-k).toNat,U⟩;rw[f,(U:(bv b a-(a+k)).toNat=c),bY,Qe _ _ _ _ _ _ U]
def mw:Nat->Nat->Nat
 |0,_=>0
 |f+1,a=>if(2*mw f (a/4)+1)*(2*mw f (a/4)+1)<=a then 2*mw f (a/4)+1 else 2*mw f (a/4)
def bz (a:Nat):Nat:=mw (az a) a
def R4:∀{b n:Nat},n<4^b->mw b n*mw b n<=n/\n<(mw b n+1)*(mw b n+1):=by
 intro b
 induction b with
 |zero=>intro n c;simp at c;subst c;simp[mw]
 |succ b i=>
  intro n c;obtain⟨g,h⟩:=i (n:=n/4) (by rw[je] at c;omega);unfold mw;generalize mw b (n/4)=a at g h|-;have al:(2*a+1)*(2*a+1)=4*(a*a)+4*a+1:=(by grind);have e:(2*a+1+1)*(2*a+1+1)=4*((a+1)*(a+1)):=(by grind);have f:2*a*(2*a)=4*(a*a):=(by grind);split
  ·rename_i d;exact⟨d,by rw[e];omega⟩
  rename_i d;exact⟨by rw[f];omega,U⟩
def pt (a:Nat):bz a*bz a<=a/\a<(bz a+1)*(bz a+1):=by refine R4 ?_;have b:a<2^az a:=de.1 (a6 _);exact gM b (Nat.pow_le_pow_left aa _)
def CD (d:b*b<=g) (e:g<(c+1)*(c+1)):b<=c:=by
 rcases bn c b with a|a
 ·have:=iu (show c+1<=b from a) (show c+1<=b from a);omega
 exact a
def BH (a:b*b<=c) (d:c<(b+1)*(b+1)):bz c=b:=by obtain⟨e,f⟩:=pt c;exact Nat.le_antisymm (CD e d) (CD a f)
def JQ (d c:Nat):bz (d*2^(2*c))/2^c=bz d:=by
 obtain⟨g,h⟩:=pt (d*2^(2*c));generalize bz (d*2^(2*c))=e at g h|-;have j:=hp c;rw[Nat.two_mul,gW] at g h;have f:=nU e (2^c);have m:=Nat.mod_lt e j;generalize e/2^c=b at f|-;generalize e %2^c=k at f m;generalize 2^c=a at*;symm;refine BH ?_ ?_
 ·have i:(b*b)*(a*a)<=d*(a*a):=by
   refine db ?_ g;rw[<-f];have:a*b*(a*b)<=(a*b+k)*(a*b+k):=iu U U;grind
  exact Nat.le_of_mul_le_mul_right i (Nat.mul_pos j j)
 have i:d*(a*a)<((b+1)*(b+1))*(a*a):=(by refine gM h ?_;have l:e+1<=(b+1)*a:=(by rw[<-f];grind);have:=iu l l;grind);exact Nat.lt_of_mul_lt_mul_right i
abbrev nG:=Bool×ac8×Unit
abbrev N0:=Bool×nG×Int×Unit
def e5 (a:nG):Int:=if a.1 then-ae a.2.1 else ae a.2.1
def aL (a:Int):nG:=(decide (a<0),bK a.natAbs,())
def mM (a:Int):e5 (aL a)=a:=by unfold e5 aL;simp only[jP,decide_eq_true_eq];split<;>omega
def kB (a:Int):aN (aL a).2.1:=ix _
def Bj (a:Int):dp (aL a).2.1:=mq _
def gd (a:Int):ae (aL a).2.1=a.natAbs:=jP _
def uF:(aL a).2.1=[]↔a=0:=by show bK a.natAbs=[]↔_;rw[Eg];omega
def IY {neg:Bool} (b:aN d) (f:dp d):(neg&&decide (d≠[]),d,())=aL (e5 (neg,d,())):=by
 have h:=dw b;have c:d=bK (ae d).toNat:=dp.eq b f;have e:d=[]↔ae d=0:=⟨λa=>by rw[a];rfl,dp.zero b f⟩;unfold aL e5;cases neg
 ·simp only[Bool.false_and,Bool.false_eq_true,if_false];rw[show decide (ae d<0)=false from decide_eq_false U,(U:(ae d).natAbs=(ae d).toNat),<-c]
 simp only[Bool.true_and,if_true];rw[(U:(-ae d).natAbs=(ae d).toNat),<-c];congr 1;rw[decide_eq_decide];constructor
 ·intro a;have:=mt e.2 a;omega
 intro a g;have:=e.1 g;omega
def CM:Nat->Nat->Nat
 |0,_=>0
 |f+1,a=>if a %2=0 then CM f (a/2)+1 else 0
def bq (a:Nat):Nat:=if a=0 then 0 else CM (az a) a
def YQ:∀{a n:Nat},0<n->n<2^a->∃b,n=(2*b+1)*2^CM a n:=by
 intro a
 induction a with
 |zero=>intro n e c;simp at c;omega
 |succ a g=>
  intro n e c;unfold CM;split
  ·rename_i d;obtain⟨b,f⟩:=g (n:=n/2) U (by rw[je] at c;omega);refine⟨b,?_⟩;rw[je,<-nV,<-f];omega
  rename_i d;exact⟨n/2,by simp;omega⟩
def rh {n:Nat} (b:0<n):∃a,n=(2*a+1)*2^bq n:=by unfold bq;rw[ag U];exact YQ b (de.1 (a6 _))
def KR:∀{s t a b:Nat},(2*a+1)*2^s=(2*b+1)*2^t->s=t/\a=b
 |0,0,a,b,c=>by simp at c;omega
 |0,t+1,a,b,c=>by rw[je,<-nV] at c;simp at c;omega
 |s+1,0,a,b,c=>by rw[je,<-nV] at c;simp at c;omega
 |s+1,t+1,a,b,c=>by rw[je,<-nV,je,<-nV] at c;obtain⟨e,d⟩:=KR (s:=s) (t:=t) (a:=a) (b:=b) U;exact⟨U,d⟩
def vv {a:Nat} (d:b=(2*a+1)*2^c):bq b=c:=by have g:=hp c;have e:0<b:=(by rw[d];exact Nat.mul_pos U g);obtain⟨h,f⟩:=rh e;exact(KR (f.symm.trans d)).1
def GL (e:0<b) (c:Nat):bq (b*2^c)=bq b+c:=by obtain⟨d,f⟩:=rh e;refine vv (a:=d) ?_;rw[gW,<-nV,<-f]
def YR {n:Nat} (a:0<n):n/2^bq n %2=1:=by
 obtain⟨d,b⟩:=rh a;have c:=hp (bq n)
 conv=>lhs;lhs;lhs;rw[b]
 rw[Nat.mul_div_cancel _ c];omega
def tc {n:Nat} (b:0<n):bq n<az n:=by
 obtain⟨a,c⟩:=rh b;rw[rM]
 conv=>rhs;rw[c]
 have:=gE (2^bq n) (U:1<=2*a+1);omega
def sB {n k:Nat} (f:0<n):k<=bq n↔n %2^k=0:=by
 obtain⟨e,b⟩:=rh f;constructor
 ·intro l;obtain⟨a,c⟩:∃a,bq n=a+k:=⟨bq n-k,U⟩;rw[c,gW,<-nV] at b
  conv=>lhs;rw[b]
  exact Nat.mul_mod_left _ _
 intro i;rcases bn (bq n) k with d|d
 ·exfalso;obtain⟨a,c⟩:∃a,k=bq n+(a+1):=⟨k-bq n-1,U⟩;have g:n=n/2^k*2^k:=(by have:=nU n (2^k);rw[i,jF] at this;omega);have j:=hp (bq n);have h:(2*e+1)*2^bq n=(2*(n/2^k*2^a))*2^bq n:=by
   rw[<-b]
   conv=>lhs;rw[g,c,gW,je]
   grind
  have:=Nat.eq_of_mul_eq_mul_right j h;omega
 exact d
def nz (b a:Int):Int:=b*2^a.toNat/2^(-a).toNat
def e8 (a b:Int):ac2:=
 if a=0 then some 0
 else if b+bq a.natAbs< -65536\/65536<b+az a.natAbs then none
 else some (nz a (b+65536))
def aT:ac2->N0
 |none=>(true,(false,[],()),0,())
 |some a=>if a=0 then(false,(false,[],()),0,()) else(false,aL (a/2^bq a.natAbs),(bq a.natAbs:Int)-65536,())
def eR (a:Int):Prop:=az a.natAbs<=131072
instance(a:Int):Decidable (eR a):=inferInstanceAs (Decidable (_<=_))
def k2 (a:Int):ac2:=if eR a then some a else none
def dm (b:ac2):Prop:=∀a,b=some a->eR a
def k8 (b:Int) (a:Nat):(b*2^a).natAbs=b.natAbs*2^a:=by rw[Int.natAbs_mul,Int.natAbs_pow];rfl
def Ea (c:a.natAbs %2^b=0):a/2^b*2^b=a:=by have d:((2^b:Nat):Int)∣a:=Int.ofNat_dvd_left.2 (Nat.dvd_of_mod_eq_zero c);rw[(ab:(2:Int)^b=((2^b:Nat):Int))];exact Int.ediv_mul_cancel d
def xM (c:a.natAbs %2^b=0):(a/2^b).natAbs=a.natAbs/2^b:=by
 have d:=Ea c;have e:=hp b
 conv=>rhs;rw[<-d,k8,Nat.mul_div_cancel _ e]
def lV (b:Int) (a:Nat):nz b a=b*2^a:=by unfold nz;rw[bY,(U:(-(a:Int)).toNat=0)];simp
def vq (b:Int) (a:Nat):nz b (-(a:Int))=b/2^a:=by unfold nz;rw[Int.neg_neg,bY,(U:(-(a:Int)).toNat=0)];simp
def aZ (a:Int):Int:=a/2^bq a.natAbs
def ei (a:Int):Int:=(bq a.natAbs:Int)-65536
def q3 (a:Int):aZ a*2^bq a.natAbs=a:=by
 rcases h0 a.natAbs with b|b
 ·obtain rfl:a=0:=U;rfl
 exact Ea ((sB b).1 (a6 _))
def KO (b:a≠0):(aZ a).natAbs=a.natAbs/2^bq a.natAbs:=xM ((sB U).1 (a6 _))
def gH {v:Int} (b:v≠0):aZ v≠0:=λa=>by have:=q3 v;rw[a] at this;simp at this;exact b this.symm
def KQ (b:e≠0):bq (aZ e).natAbs=0:=by rw[KO b];have:=YR (n:=e.natAbs) U;exact vv (a:=e.natAbs/2^bq e.natAbs/2) (by rw[Nat.pow_zero];omega)
def Tw (b:a≠0):az (aZ a).natAbs=az a.natAbs-bq a.natAbs:=by rw[KO b,o0]
def u9 {v:Int}:aZ v<0↔v<0:=by
 have d:=q3 v;have c:(0:Int)<2^bq v.natAbs:=mQ aa;constructor
 ·intro b;have:=Int.mul_neg_of_neg_of_pos b c;omega
 intro b;rcases gC (aZ v) 0 with a|a
 ·exact a
 have:=ll a (dM c);omega
def I1 (b:a≠0):aT (some a)=(false,aL (aZ a),ei a,()):=by show(if a=0 then _ else _)=_;rw[ag b];rfl
def BV {v:Int} (i:-65536<=a) (b:v=e*2^(a+65536).toNat):e8 e a=k2 v:=by
 obtain⟨d,g⟩:∃d:Nat,a+65536=d:=⟨(a+65536).toNat,U⟩;rw[g,bY] at b;unfold e8 k2;by_cases f:e=0
 ·subst f;simp only[p2] at b;subst b;rw[aj rfl,aj (show eR 0 from(by decide:az 0<=131072))]
 rw[ag f];have h:az v.natAbs=az e.natAbs+d:=(by rw[b,k8,k1 U]);by_cases c:eR v
 ·rw[aj c];unfold eR at c;rw[ag U,g,lV,b]
 rw[ag c];unfold eR at c;rw[aj U]
def S1 (b:eR a):e8 (aZ a) (ei a)=some a:=by
 by_cases c:a=0
 ·subst c;rfl
 rw[BV (v:=a) (by unfold ei;omega) (by
  conv=>lhs;rw[<-q3 a]
  unfold ei;rw[(U:((bq a.natAbs:Int)-65536+65536).toNat=bq a.natAbs)])]
 exact aj b
def Fj (f a:Int):dm (e8 f a):=by
 intro i b;unfold e8 at b;split at b
 ·cases b;show az 0<=_;decide
 split at b
 ·cases b
 rename_i g h;cases b;unfold eR;rcases Int.le_total 0 (a+65536) with e|e
 ·obtain⟨c,d⟩:∃c:Nat,a+65536=c:=⟨(a+65536).toNat,U⟩;rw[d,lV,k8,k1 U];omega
 obtain⟨c,d⟩:∃c:Nat,a+65536=-(c:Int):=⟨(-(a+65536)).toNat,U⟩;rw[d,vq,xM ((sB U).1 U),o0];omega
def If (b:Int):dm (k2 b):=by
 intro c a;unfold k2 at a;split at a
 ·cases a;assumption
 cases a
def Mg (c a d b:Nat) (f:0<a):c*2^d/a=c*2^(d+b)/a/2^b:=by have e:=hp b;rw[Nat.div_div_eq_div_mul,gW,<-nV,Nat.mul_div_mul_right _ _ e]
def WG (d a c b:Nat) (m:0<a):d*2^c %a≠0↔(d*2^(c+b) %a≠0\/d*2^(c+b)/a %2^b≠0):=by
 have t:=hp b;have r:=nU (d*2^c) a;have j:=nU (d*2^(c+b)) a;have k:=nU (d*2^(c+b)/a) (2^b);rw[<-Mg d a c b m] at k;generalize d*2^(c+b)/a=o at*;generalize d*2^c/a=g at*;generalize d*2^c %a=i at*;generalize d*2^(c+b) %a=h at*;generalize o %2^b=p at*;rw[gW] at j;generalize 2^b=e at*;generalize 2^c=v at*;have l:i*e=a*p+h:=(by have s:(a*g+i)*e=a*o+h:=(by rw[r,j,nV]);rw[<-k,e2,Nat.mul_add] at s;have w:a*g*e=a*(e*g):=(by grind);omega);constructor
 ·intro y;have x:0<i*e:=Nat.mul_pos U t;by_cases n:h=0
  ·right;intro u;subst u;subst n;simp at l;omega
  exact .inl n
 rintro f q;subst q;simp only[p8] at l;rcases f with f|f
 ·omega
 have:=Nat.mul_pos m (U:0<p);omega
def pG (a b c:Nat) (f:Bool) (d e:Int):Int:=h8 f (b*2^a/c) (d-a) (decide (b*2^a %c≠0)) e
def Ck (i:0<b) (e:0<c) (j:58+az c<=az b+g):58<=az (b*2^g/c):=by
 rcases bn 57 (az (b*2^g/c)) with a|a
 ·exact a
 exfalso;have d:b*2^g/c<2^57:=de.1 a;rw[Nat.div_lt_iff_lt_mul e] at d;have f:=(tR e).2;have h:b*2^g<2^57*2^az c:=gM d (Nat.mul_le_mul_left _ (Nat.le_of_lt f));rw[<-gW,<-de,k1 i] at h;omega
def WE {f:Nat} (m:0<c) (i:0<g) (l:58+az g<=az c+b) (o:b<=f):pG f c g h a e=pG b c g h a e:=by obtain⟨d,rfl⟩:∃d,f=b+d:=⟨f-b,U⟩;unfold pG;have p:=Ck m i l;have j:=Mg c g b d i;have n:d+53<az (c*2^(b+d)/g):=(by have:=o0 (c*2^(b+d)/g) d;rw[<-j] at this;omega);rw[MF (k:=d) n,<-j,(U:a-((b+d:Nat):Int)+d=a-b)];congr 1;rw[<-Bool.decide_or,decide_eq_decide];exact(WG c g b d i).symm
def Yd (b a:Nat):(bz b*bz b≠b)↔(bz (b*2^(2*a))*bz (b*2^(2*a))≠b*2^(2*a)\/bz (b*2^(2*a)) %2^a≠0):=by
 have g:=hp a;have i:=JQ b a;have f:=nU (bz (b*2^(2*a))) (2^a);rw[i] at f;have e:2^(2*a)=2^a*2^a:=(by rw[Nat.two_mul,gW]);constructor
 ·intro c;by_cases h:bz (b*2^(2*a)) %2^a=0
  ·left;intro d;rw[h] at f;rw[<-f,e] at d;refine c (Nat.eq_of_mul_eq_mul_right (Nat.mul_pos g g) ?_);grind
  exact .inr h
 intro c d;have j:bz (b*2^(2*a))=bz b*2^a:=by
  refine BH ?_ ?_
  ·rw[e];conv=>rhs;rw[<-d]
   apply Nat.le_of_eq;grind
  conv=>lhs;rw[<-d]
  rw[e];grind
 rw[j] at c;rcases c with c|c
 ·refine c ?_
  conv=>rhs;rw[<-d]
  rw[e];grind
 exact c (Nat.mul_mod_left _ _)
def oy (a b:Nat) (c d:Int):Int:=h8 false (bz (b*2^a)) ((c-a)/2) (decide (bz (b*2^a)*bz (b*2^a)≠b*2^a)) d
def xw (e:115<=az b):58<=az (bz b):=by
 rcases bn 57 (az (bz b)) with a|a
 ·exact a
 exfalso;have c:bz b+1<=2^57:=de.1 a;have f:=(pt b).2;have g:=iu c c;have d:b<2^114:=(by have:2^57*2^57=2^114:=(by rw[<-gW]);omega);have:=de.2 d;omega
def Xu (h:0<g) (l:115<=az g+b) (m:(a-b) %2=0):oy (b+2*c) g a e=oy b g a e:=by unfold oy;have n:58<=az (bz (g*2^b)):=xw (by rw[k1 h];omega);have f:=JQ (g*2^b) c;have j:=Yd (g*2^b) c;rw[gW,<-nV];generalize g*2^b=d at*;have i:c+53<az (bz (d*2^(2*c))):=(by have:=o0 (bz (d*2^(2*c))) c;rw[f] at this;omega);rw[MF (k:=c) i,f,(U:(a-((b+2*c:Nat):Int))/2+c=(a-b)/2)];congr 1;rw[<-Bool.decide_or,decide_eq_decide];exact j.symm
def yf (a b:Int):Int:=if a=0 then 0 else h8 (decide (a<0)) (aZ a).natAbs (ei a) false b
def lc (a b:Nat):Nat:=59+az b-az a
def sY (a b c:Int):Int:=pG (lc (aZ a).natAbs (aZ b).natAbs) (aZ a).natAbs (aZ b).natAbs (decide (a<0)!=decide (b<0)) (ei a-ei b) c
def WF {ki:Int} (c:a≠0) (d:e≠0) (f:lc (aZ a).natAbs (aZ e).natAbs<=b):pG b (aZ a).natAbs (aZ e).natAbs (decide (a<0)!=decide (e<0)) (ei a-ei e) ki=sY a e ki:=by have g:=gH c;have h:=gH d;refine WE U U ?_ f;unfold lc;omega
def ip (a:Nat) (b:Int):Nat:=if(b-((118-az a:Nat):Int)) %2=0 then 118-az a else 118-az a+1
def nw (a b:Int):Int:=oy (ip (aZ a).natAbs (ei a)) (aZ a).natAbs (ei a) b
def Xv {v ki:Int} {k:Nat} (i:0<v) (h:118<=az (aZ v).natAbs+k) (f:(ei v-k) %2=0):oy k (aZ v).natAbs (ei v) ki=nw v ki:=by have e:=gH (v:=v) U;unfold nw;have a:(ei v-(ip (aZ v).natAbs (ei v):Nat)) %2=0:=(by unfold ip;split<;>omega);have g:ip (aZ v).natAbs (ei v)<=k:=(by unfold ip at a|-;split<;>rename_i c<;>simp only[c,if_true,if_false] at a<;>omega);obtain⟨b,d⟩:∃b,k=ip (aZ v).natAbs (ei v)+2*b:=⟨(k-ip (aZ v).natAbs (ei v))/2,U⟩;rw[d];refine Xu U ?_ a;unfold ip;split<;>omega
def bL {a:List n} (c:b<a.length):ax a (b:Int)=some a[b]:=dW (a9 c)
def yy (a:b<9223372036854775808):aq (b:Int)=(b:Int):=wrap64 U U
def be {x:Int} (a:-9223372036854775808<=x) (b:x<=9223372036854775807):aq x=x:=wrap64 a b
def bi (a:b<9223372036854775807):aQ (b:Int)=((b+1:Nat):Int):=by unfold aQ;rw[wrap64 U U];simp
def bV {x:Int} (a:0<=x) (b:x<18446744073709551616):aJ x=x:=CW a b
def jv {x:Int} (a:0<=x) (b:x<4294967296):bX x=x:=GS a b
def nE (a:Int):bX a=a %4294967296:=GR a
def j6 (a:Int):aJ a=a %18446744073709551616:=yA a
def pw (b:0<=a) (c:a<18446744073709551616):bX (dc IntKind.u64 a 4294967295)=a %4294967296:=by rw[and_low32 b c,jv U U]
def aV (a:List n):ar a=(a.length:Int):=rfl
def CA {a:List n} (e:b<=a.length):((some (0:Nat)).bind λc=>(e9 (b:Int)).bind λd=>(fy c d a.length).map λ_=>(c,d))=some (0,b):=by rw[aG,q0,aG,sA ⟨bM _,e⟩];rfl
def mL (o:aN d) (q:d.length<=100000000):gG (d,())=some (fD d,()):=by
 unfold gG;refine ac.eq_iff.1 ?_;refine ac.aU (P:=λp=>∃a:Nat,p.1=(a:Int)/\a<=d.length/\(∀b,a<=b->(j:b<d.length)->d[b]=0)/\dp (d.take a)) ?_ ?_
 ·refine ac.loop (λh=>∃a:Nat,h.1=(a:Int)/\a<=d.length/\(∀b,a<=b->(j:b<d.length)->d[b]=0)) (λh=>h.1.toNat) ⟨d.length,rfl,a6 _,λb c f=>by omega⟩ ?_;rintro⟨_,_⟩ ⟨a,rfl,c,f⟩;rcases a with _|a
  ·refine ac.af.2 ⟨0,rfl,bM _,f,λk e=>by simp at e⟩
  have al:aq (((a+1:Nat):Int)-1)=(a:Int):=(by rw[be U U];omega);have l:decide (((a+1:Nat):Int)>0)=true:=aA U;simp only[al,l,beq_self_eq_true,cond_true,bL (show a<d.length from c),aG];by_cases g:d[a]=0
  ·rw[dO,aA g];refine ac.af.2 ⟨⟨a,rfl,U,λb j n=>?_⟩,?_⟩
   ·rcases bn a b with i|i
    ·exact f b i n
    obtain rfl:b=a:=U;exact g
   show(a:Int).toNat<((a+1:Nat):Int).toNat;omega
  rw[dO,ay g];refine ac.af.2 ⟨a+1,rfl,c,f,λk e=>?_⟩;rw[hD,a9 c] at e;have e:(d.take a++[d[a]]).getLast?=some k:=e;rw[List.getLast?_concat] at e;cases e;exact g
 rintro⟨_,_⟩ ⟨a,rfl,c,f,m⟩;refine ac.of_eq (ak (CA c) rfl) ?_;show(List.drop 0 (List.take a d),())=_;rw[kS,No o c f m]
def wb (c:d.length<=100000000):r4 (d,())=some (d,()):=by
 unfold r4;have a:((bJ (([]:ac8).length+d.length)).bind λ_=>some (([]++d:ac8),()))=some (d,()):=(by rw[er (by simp;omega)];rfl);show mC d.length (some ([],())) ((bJ (([]:ac8).length+d.length)).bind λ_=>some (([]++d:ac8),()))=_;unfold mC;rw[a];split
 ·rename_i b;obtain rfl:=lm b;rw[aj rfl]
 rfl
def pv:(ar d==0)=decide (d=[]):=by rw[dO,decide_eq_decide];show((d.length:Nat):Int)=0↔_;rw[<-C7];omega
def tO (b:aN d) (f:d.length<=100000000):jN (h,d,())=some (aL (e5 (h,d,())),()):=by
 unfold jN;refine ak (mL b f) ?_;have c:=IY (neg:=h) (GH d) (Nn d);have e:e5 (h,fD d,())=e5 (h,d,()):=(by unfold e5;simp only[GI b]);rw[<-e,<-c];simp only[pv,bj];split
 ·rename_i a;simp[a]
 rename_i a;simp[a]
def Qx (c:a.natAbs<2^(32*b)):(aL a).2.1.length<=b:=by refine pj ?_;unfold aI;have d:(2^(32*b):Nat)=4294967296^b:=(by rw[Nat.pow_mul]);rw[d] at c;have:((4294967296^b:Nat):Int)=4294967296^b:=ab;omega
def Fit (a:Int):Prop:=(aL a).2.1.length<=31250
def IX (b:Nat) (c:az a.natAbs<=32*b):(aL a).2.1.length<=b:=Qx (de.1 c)
def hx (b:az a.natAbs<=1000000):Fit a:=IX 31250 U
def Tr {b:nG} (c:aN b.2.1) (a:b.2.1.length<=100000000):zY (b,())=some (aL (e5 b),()):=by obtain⟨e,d,_⟩:=b;unfold zY;exact ak (wb a) (ak (tO c a) rfl)
def CT (a:Bool) (b:ac8):e5 (!a,b,())=-e5 (a,b,()):=by unfold e5;cases a<;>simp
def NC (b:aN d) (a:Bool):e5 (false,d,())=(e5 (a,d,())).natAbs:=by have:=dw b;unfold e5;cases a<;>simp<;>omega
def KI (e:Fit a):qp (aL a,())=some (aL (-a),()):=by unfold qp;have b:(aL a).2.1.length<=100000000:=db e aa;refine ak (wb b) (ak (tO (kB a) b) ?_);have c:=CT (aL a).1 (aL a).2.1;have d:=mM a;rw[c];show some (aL (-e5 (aL a)),())=_;rw[d]
def y7 (d:Fit a):rX (aL a,())=some (aL a.natAbs,()):=by unfold rX;have b:(aL a).2.1.length<=100000000:=db d aa;refine ak (wb b) (ak (tO (kB a) b) ?_);rw[NC (kB a) (aL a).1];have c:=mM a;show some (aL ((e5 (aL a)).natAbs:Int),())=_;rw[c]
def Nl (c:Fit a):gG ((aL a).2.1,())=some ((aL a).2.1,()):=by rw[mL (kB a) (db c aa)];have b:=dp.eq (kB a) (Bj a);show some (bK (ae (aL a).2.1).toNat,())=_;rw[<-b]
def dE (a:Int):Int:=if a=0 then 0 else if a<0 then-1 else 1
def pM {z:Int} (a:Fit z):m3 (aL z,())=some (dE z,()):=by
 unfold m3;refine ak (Nl a) ?_;simp only[pv,bj,uF];unfold dE;split
 ·rfl
 show(bif decide (z<0) then _ else _)=_;rw[bj];split<;>rfl
def ac.steps {j:n->Option (n⊕q)} {i:q->Prop} (h:Nat) (f:Nat->n->Prop) {m:n} (r:f 0 m) (v:∀c b,c<h->f c b->ac (j b) (λ|.inl k=>f (c+1) k|.inr a=>i a)) (u:∀b,f h b->ac (j b) (λ|.inl _=>False|.inr a=>i a)):ac (ia.loop j m) i:=by
 have x:∀g c b,c+g=h->f c b->∃a,hN j (g+1) b=some a/\i a:=by
  intro g
  induction g with
  |zero=>
   intro c b p l;obtain rfl:c=h:=p;obtain⟨o,e,d⟩:=u b l;cases o with
   |inl k=>exact d.elim
   |inr a=>exact⟨a,by simp only[hN,e],d⟩
  |succ g w=>
   intro c b p l;obtain⟨o,e,d⟩:=v c b U l;cases o with
   |inl k=>
    obtain⟨a,s,t⟩:=w (c+1) k U d;exact⟨a,by rw[hN,e];exact s,t⟩
   |inr a=>exact⟨a,by simp only[hN,e],d⟩
 obtain⟨a,e,d⟩:=x h 0 m U r;exact⟨a,uW.2 ⟨_,e⟩,d⟩
def vx (c:ac8) (b:Nat):ae (c.take (b+1))=ae (c.take b)+aI b*c.getD b 0:=by
 rcases bn b c.length with a|a
 ·rw[fV a,iH,a9 a];rfl
 rw[c8 U,c8 a,iH,fc a];simp
def aN.getD {b:ac8} (d:aN b) (c:Nat):0<=b.getD c 0/\b.getD c 0<4294967296:=by
 rcases bn c b.length with a|a
 ·rw[iH,a9 a];exact d.get a
 rw[iH,fc a];exact⟨l3 _,aa⟩
def jj (a:b<d.length):d.getD b 0=d[b]:=by rw[iH,a9 a];rfl
def ms (a:d.length<=b):d.getD b 0=0:=by rw[iH,fc a];rfl
def F1 (s:aN d) (t:aN f) (y:d.length<=10000000) (z:f.length<=10000000):r0 (d,f,())=some (bK (ae d+ae f).toNat,()):=by
 unfold r0;refine ac.eq_iff.1 ?_;refine ac.aU (P:=λi=>∃m q,i=(m,q,())/\aN m/\aN q/\m.length<=10000000/\q.length<=m.length/\ae m+ae q=ae d+ae f) ?_ ?_
 ·simp only[bj];refine ac.ite (λh=>ac.af.2 ⟨f,d,rfl,t,s,z,?_,Int.add_comm _ _⟩) λh=>ac.af.2 ⟨d,f,rfl,s,t,y,?_,rfl⟩
  ·simp only[aV] at h;omega
  simp only[aV] at h;omega
 rintro _ ⟨e,k,rfl,B,C,K,D,w⟩;rw[<-w];clear w s t y z;dsimp only;have A:aQ (ar e)=((e.length+1:Nat):Int):=bi U;have al:dI 0 ((e.length+1:Nat):Int)=some 0:=(by unfold dI;rw[if_pos ⟨U,U,by have:e7=4294967296:=rfl;omega⟩];rfl);rw[A,al];refine ac.aU (P:=λi=>∃a c,i=(a,c,())/\c.length=e.length/\aN c/\0<=a/\a<=1/\ae c+aI e.length*a=ae e+ae k) ?_ ?_
 ·refine ac.steps e.length (λb F=>∃a c,F=(a,(b:Int),c,())/\c.length=b/\aN c/\0<=a/\a<=1/\ae c+aI b*a=ae (e.take b)+ae (k.take b)) ⟨0,[],rfl,rfl,aN.nil,U,U,by simp[ae]⟩ ?_ ?_
  ·rintro b _ u ⟨a,c,rfl,l,n,o,r,p⟩;have J:=B.get u;have E:=C.getD b;have j:∃g,g=e[b]+a+k.getD b 0/\0<=g/\g<18446744073709551616/\g/4294967296<=1:=⟨_,rfl,U,U,U⟩;obtain⟨g,j,G,H,I⟩:=j;have v:decide ((b:Int)<ar e)=true:=aA (by simp only[aV];omega);simp only[v,cond_true,bL u,aG];refine ac.aU (P:=λi=>i=(g/4294967296,c++[g %4294967296],())) ?_ ?_
   ·refine ac.aU (P:=λi=>i=(g,c,())) ?_ ?_
    ·simp only[bj];refine ac.ite (λh=>?_) λh=>?_
     ·have h:b<k.length:=(by simp only[aV] at h;omega);rw[bL h];rw[jj h] at j E;refine ac.af.2 ?_;rw[bV (x:=e[b]) U U,bV (x:=e[b]+a) U U,bV (x:=k[b]) U U,bV U U,j]
     have h:k.length<=b:=(by simp only[aV] at h;omega);rw[ms h] at j;refine ac.af.2 ?_;rw[bV (x:=e[b]) U U,bV (x:=e[b]+a) U U,j,Int.add_zero]
    rintro _ rfl;dsimp only;rw[er (by simp;omega),pw G H,lh];exact ac.af.2 rfl
   rintro _ rfl;dsimp only;refine ac.af.2 ⟨g/4294967296,c++[g %4294967296],by rw[bi U],by simp[l],n.snoc U U,U,I,?_⟩;rw[oI,l,fY,fV u,vx];have:=Int.emod_add_mul_ediv g 4294967296;generalize g/4294967296=L at*;generalize g %4294967296=i at*;subst j;grind
  rintro _ ⟨a,c,rfl,l,n,o,r,p⟩;have v:decide ((e.length:Int)<ar e)=false:=ay (by simp only[aV];omega);simp only[v,cond_false];refine ac.af.2 ⟨a,c,rfl,l,n,o,r,?_⟩;rw[p,c8 (a6 _),c8 D]
 rintro _ ⟨a,c,rfl,l,n,o,r,p⟩;dsimp only;rw[er (by simp;omega),jv o U];refine ac.of_eq (ak rfl (ak (mL (n.snoc o U) (by simp;omega)) rfl)) ?_;show(fD (c++[a]),())=_;rw[fD,oI,l,p]
def g1 (b:ac8) (c:Nat):Prop:=∀a,c<=a->(d:a<b.length)->b[a]=0
def g1.j8 (b a:Nat):g1 (List.replicate b (0:Int)) a:=λd _ c=>by simp
def g1.set {b:ac8} {a:Nat} (c:g1 b a) (e:Int):g1 (b.set a e) (a+1):=λd f g=>by rw[ry U];exact c d U _
def g1.Gr {j:Nat} (a:g1 d b) (f:Int) (g:j<b):g1 (d.set j f) b:=λe c h=>by rw[ry U];exact a e c _
def Kk (s:aN d) (t:aN f) (E:d.length<=10000000) (v:f.length<=d.length) (C:ae f<=ae d):uk (d,f,())=some (bK (ae d-ae f).toNat,()):=by
 unfold uk;refine ac.eq_iff.1 ?_;simp only[aV,gA (U:d.length<=4294967296),aG];refine ac.aU (P:=λi=>∃a b,i=(a,())/\a.length=d.length/\aN a/\0<=b/\b<=1/\ae a-aI d.length*b=ae d-ae f) ?_ ?_
 ·refine ac.steps d.length (λe y=>∃b a,y=(b,(e:Int),a,())/\a.length=d.length/\aN a/\g1 a e/\0<=b/\b<=1/\ae a-aI e*b=ae (d.take e)-ae (f.take e)) ⟨0,_,rfl,ab,aN.j8 _,g1.j8 _ _,U,U,by simp[ae,nD]⟩ ?_ ?_
  ·rintro e _ o ⟨b,a,rfl,j,h,q,m,n,l⟩;have D:=s.get o;have w:=t.getD e;obtain⟨c,k,z,A⟩:∃c,c=d[e]-b-f.getD e 0/\-4294967296<=c/\c<4294967296:=⟨_,rfl,U,U⟩;have p:decide ((e:Int)<(d.length:Int))=true:=aA U;simp only[aV,p,cond_true,bL o,aG];refine ac.aU (P:=λi=>i=(-(c/4294967296),a.set e (c %4294967296),())) ?_ ?_
   ·refine ac.aU (P:=λi=>i=(c %18446744073709551616,a,())) ?_ ?_
    ·simp only[bj];refine ac.ite (λg=>?_) λg=>?_
     ·have g:e<f.length:=U;rw[bL g];rw[jj g] at k w;refine ac.af.2 ?_;simp only[j6];rw[k];congr 1;omega
     have g:f.length<=e:=U;rw[ms g] at k;refine ac.af.2 ?_;simp only[j6];rw[k];congr 1;omega
    rintro _ rfl;dsimp only;rw[pw U U,i6 U,lh];refine ac.af.2 ?_;rw[qb 1 U U 1 aa aa];have aw:c %18446744073709551616/4294967296 %2^1=-(c/4294967296):=(by rw[show(2:Int)^1=2 from rfl];omega);have x:c %18446744073709551616 %4294967296=c %4294967296:=U;rw[aw,x]
   rintro _ rfl;dsimp only;refine ac.af.2 ⟨-(c/4294967296),a.set e (c %4294967296),by rw[bi U],by simp[j],h.set U U,q.set _,U,U,?_⟩;rw[kM U,q e (Nat.le_refl _) U,fY,fV o,vx];have:=Int.emod_add_mul_ediv c 4294967296;generalize c/4294967296=F at*;generalize c %4294967296=i at*;subst k;grind
  rintro _ ⟨b,a,rfl,j,h,q,m,n,l⟩;have p:decide ((d.length:Int)<(d.length:Int))=false:=ay U;simp only[aV,p,cond_false];refine ac.af.2 ⟨a,b,rfl,j,h,m,n,?_⟩;rw[l,c8 (a6 _),c8 v]
 rintro _ ⟨a,b,rfl,j,h,m,n,l⟩;dsimp only;have r:=fb h;have B:=dQ d.length;rw[j] at r;have u:b=0:=by
  rcases gC 0 b with g|g
  ·obtain rfl:b=1:=U;omega
  omega
 subst u;refine ac.of_eq (ak (mL h U) rfl) ?_;show(fD a,())=_;rw[fD,<-l];simp
def dx (a b:Int):Int:=if a<b then-1 else if b<a then 1 else 0
def DJ (a b:Int):tY (a,b,())=some (dx a b,()):=by
 unfold tY qm dx;simp only[bne_self_eq_false,aG,cond_false,bj];split
 ·rfl
 split
 ·rename_i c d
  first|rfl|(rw[aj U])
 first|rfl|(rename_i c d;rw[ag U])
def P4 (a b:Int):zz (a,b,())=some (dx a b,()):=by
 unfold zz zB dx;simp only[bne_self_eq_false,aG,cond_false,bj];split
 ·rfl
 split
 ·rename_i c d
  first|rfl|(rw[aj U])
 first|rfl|(rename_i c d;rw[ag U])
def CU (i:aN d) (j:aN f) (k:b<d.length) (l:b<f.length) (c:ae (d.drop (b+1))=ae (f.drop (b+1))) (p:d[b]<f[b]):ae d<ae f:=by rw[mN d b U,mN f b U,j5 k,j5 l,c];have e:=fb (i.take b);have m:=dw (j.take b);rw[dS,fr U] at e;have n:aI b*(d[b]+1)<=aI b*f[b]:=hW U (dM (dQ b));have o:aI b*(d[b]+1)=aI b*d[b]+aI b:=(by grind);have g:∀a,aI b*(d[b]+a)=aI b*d[b]+aI b*a:=λa=>(by grind);have h:∀a,aI b*(f[b]+a)=aI b*f[b]+aI b*a:=λa=>(by grind);rw[g,h];omega
def oH (c:aN f) (e:aN d) (g:dp d) (a:f.length<d.length):ae f<ae d:=by have h:=fb c;have i:=dp.low e g (by intro b;rw[b] at a;simp at a);have j:=nu (m:=f.length) (n:=d.length-1) U;omega
def zr (h:aN d) (i:aN f) (r:dp d) (s:dp f) (v:d.length<=10000000) (w:f.length<=10000000):rZ (d,f,())=some (dx (ae d) (ae f),()):=by
 unfold rZ;refine ac.eq_iff.1 ?_;simp only[bH,aV];by_cases o:d.length=f.length
 ·rw[aA (U:(d.length:Int)=f.length)];simp only[eS,cond_false];refine ac.aU (P:=λm=>match m with|.inl _=>ae d=ae f|.inr p=>p=(dx (ae d) (ae f),())) ?_ ?_
  ·refine ac.steps d.length (λc q=>q=(((d.length:Nat):Int)-1-c,())/\ae (d.drop (d.length-c))=ae (f.drop (d.length-c))) ⟨?_,?_⟩ ?_ ?_
   ·rw[be U U];simp
   ·rw[nO U,nO U]
   ·rintro c _ t ⟨rfl,e⟩;obtain⟨a,u⟩:∃a,d.length=a+1+c:=⟨d.length-1-c,U⟩;have al:((d.length:Nat):Int)-1-(c:Int)=(a:Int):=U;have k:a<d.length:=U;have l:a<f.length:=U;rw[(U:d.length-c=a+1)] at e;simp only[al,aA (U:(a:Int)>=0),cond_true,bL k,bL l,aG,P4];by_cases j:d[a]=f[a]
    ·simp only[aA j,eS,cond_false];refine ac.af.2 ⟨?_,?_⟩
     ·rw[be U U];congr 1;omega
     rw[(U:d.length-(c+1)=a),j5 k,j5 l,j,e]
    simp only[ay j,fW,cond_true];refine ac.af.2 ?_;show(dx d[a] f[a],())=_;have n:dx d[a] f[a]=dx (ae d) (ae f):=by
     unfold dx;rcases Int.lt_or_gt_of_ne j with b|b
     ·rw[aj b,aj (CU h i k l e b)]
     have:=CU i h l k e.symm b;rw[ag U,aj b,ag U,aj this]
    rw[n]
   rintro _ ⟨rfl,e⟩;have al:¬(((d.length:Nat):Int)-1-(d.length:Int)>=0):=U;simp only[ay al,cond_false];refine ac.af.2 ?_;simpa using e
  rintro(m|m) g
  ·refine ac.af.2 ?_;have g:ae d=ae f:=g;unfold dx;rw[g];simp
  have g:m=_:=g;rw[g];exact ac.af.2 rfl
 rw[ay (U:¬(d.length:Int)=f.length)];simp only[fW,cond_true,DJ,aG];refine ac.af.2 ?_;congr 1;unfold dx;rcases Nat.lt_or_gt_of_ne o with b|b
 ·rw[aj U,aj (oH h i s b)]
 have:=oH i h r b;rw[ag U,aj U,ag U,aj this]
def xL {x y:Int} (b:0<=x/\x<4294967296) (a:0<=y/\y<4294967296):0<=x*y/\x*y<=18446744065119617025:=by refine⟨ll b.1 a.1,?_⟩;have c:x*y<=4294967295*y:=kq U a.1;have d:(4294967295:Int)*y<=4294967295*4294967295:=hW U aa;omega
def XB (G:0<=a/\a<4294967296) (F:aN d) (S:b+d.length<c) (R:c<=100000000) (C:f.length=c) (D:aN f) (I:g1 f (b+d.length)) {r:gZ->Prop} (E:∀h g,g.length=c->aN g->g1 g (b+d.length)->0<=h->h<4294967296->ae g+aI (b+d.length)*h=ae f+aI b*(a*ae d)->r (h,g,())):ac (loop (σ:=n2) (ρ:=gZ) (λ(l,j,o,_)=>
 bif decide (j<ar d) then
 (ax d j).bind λy=>
 rd o (aq ((b:Int)+j)) λz=>
 wr o (aq ((b:Int)+j)) (bX (dc IntKind.u64 (aJ (aJ (aJ (aJ a*aJ y)+aJ z)+l)) 4294967295)) λP=>
 (da IntKind.u64 (aJ (aJ (aJ (aJ a*aJ y)+aJ z)+l)) 32).bind λO=>
 some (.inl (O,aQ j,P,())) else
 some (.inr (l,o,()))) (0,0,f,())) r:=by
 refine ac.steps d.length (λe M=>∃h g,M=(h,(e:Int),g,())/\g.length=c/\aN g/\g1 g (b+d.length)/\0<=h/\h<4294967296/\ae g+aI (b+e)*h=ae f+aI b*(a*ae (d.take e))) ⟨0,f,rfl,C,D,I,U,U,by simp[ae]⟩ ?_ ?_
 ·rintro e _ m ⟨h,g,rfl,aw,k,p,t,u,q⟩;have H:=F.get m;have V:=k.get (n:=b+e) U;have T:=xL G H;obtain⟨i,s,v,w⟩:∃i,i=a*d[e]+g[b+e]+h/\0<=i/\i<18446744073709551616:=⟨_,rfl,U,U⟩;simp only[aA (show(e:Int)<ar d by simp only[aV];omega),cond_true,bL m,aG];have al:aq ((b:Int)+(e:Int))=((b+e:Nat):Int):=(by rw[be U U];simp);rw[al,iZ U];have A:aJ (aJ (aJ (aJ a*aJ d[e])+aJ g[b+e])+h)=i:=by
   rw[bV (x:=a) U U,bV (x:=d[e]) U U,bV (x:=g[b+e]) U U,bV (x:=a*d[e]) U U,bV (x:=a*d[e]+g[b+e]) U U,<-s,bV v w]
  rw[A,pw v w,i6 U,lh];refine ac.af.2 ⟨i/4294967296,g.set (b+e) (i %4294967296),by rw[bi U],by simp[aw],k.set U U,p.Gr _ U,U,U,?_⟩;rw[kM U,(U:b+(e+1)=(b+e)+1),fY,fV m];have Q:=hb i 4294967296;rw[ro] at q|-;generalize i/4294967296=K at*;generalize i %4294967296=L at*;generalize g[b+e]=J at*;generalize d[e]=N at*;subst s;have B:L=a*N+J+h-4294967296*K:=U;subst B;grind
 rintro _ ⟨h,g,rfl,aw,k,p,t,u,q⟩;simp only[ay (show¬((d.length:Int)<ar d) by simp only[aV];omega),cond_false];refine ac.af.2 (E h g aw k p t u ?_);rw[q,c8 (a6 _)]
def YK (w:aN f) (x:aN d) (z:f.length<=10000000) (A:d.length<=10000000):z6 (f,d,())=some (bK (ae f*ae d).toNat,()):=by
 unfold z6;refine ac.eq_iff.1 ?_;simp only[pv];refine ac.aU (P:=λo=>match o with|.inl _=>f≠[]/\d≠[]|.inr h=>h=(bK (ae f*ae d).toNat,())) ?_ ?_
 ·by_cases i:f=[]
  ·simp only[aA i];refine ac.af.2 ?_;subst i;simp[ae];rfl
  simp only[ay i,beq_self_eq_true,cond_true];by_cases j:d=[]
  ·simp only[aA j,cond_true];refine ac.af.2 ?_;subst j;simp[ae];rfl
  simp only[ay j,cond_false];exact ac.af.2 ⟨i,j⟩
 rintro(o|o) k
 rotate_left
 ·have k:o=_:=k;subst k;exact ac.af.2 rfl
 clear k;dsimp only;have v:aq (ar f+ar d)=((f.length+d.length:Nat):Int):=(by simp only[aV];rw[be U U];simp);rw[v,gA U,Option.bind_some];refine ac.aU (P:=λh=>∃a,h=(a,())/\a.length=f.length+d.length/\aN a/\ae a=ae f*ae d) ?_ ?_
 ·refine ac.steps f.length (λb y=>∃a,y=((b:Int),a,())/\a.length=f.length+d.length/\aN a/\g1 a (b+d.length)/\ae a=ae (f.take b)*ae d) ⟨_,rfl,ab,aN.j8 _,g1.j8 _ _,by simp[ae,nD]⟩ ?_ ?_
  ·rintro b _ q ⟨a,rfl,aw,g,p,u⟩;simp only[aA (show(b:Int)<ar f by simp only[aV];omega),cond_true,bL q,Option.bind_some];refine ac.aU (P:=λh=>∃e c,h=(e,c,())/\c.length=f.length+d.length/\aN c/\g1 c (b+d.length)/\0<=e/\e<4294967296/\ae c+aI (b+d.length)*e=ae a+aI b*(f[b]*ae d)) (XB (w.get q) x U U aw g p λe c r s l m n t=>⟨e,c,rfl,r,s,l,m,n,t⟩) ?_;rintro _ ⟨e,c,rfl,r,s,l,m,n,t⟩;have al:aq ((b:Int)+ar d)=((b+d.length:Nat):Int):=(by simp only[aV];rw[be U U];simp);dsimp only;rw[al,jv m n,i6 U];refine ac.af.2 ⟨c.set (b+d.length) e,by rw[bi U],by simp[r],s.set m n,?_,?_⟩
   ·rw[(U:b+1+d.length=b+d.length+1)];exact l.set _
   rw[kM U,l _ (a6 _) U,fV q,Int.sub_zero,t,u];grind
  rintro _ ⟨a,rfl,aw,g,p,u⟩;simp only[ay (show¬((f.length:Int)<ar f) by simp only[aV];omega),cond_false];refine ac.af.2 ⟨a,rfl,aw,g,?_⟩;rw[u,c8 (a6 _)]
 rintro _ ⟨a,rfl,aw,g,p⟩;refine ac.of_eq (ak (mL g (by show a.length<=_;omega)) rfl) ?_;show(fD a,())=_;rw[fD,p]
def Su:∀a:Nat,a<256->oF BL (a:Int)=some (az a:Int):=by have b:(List.range 256).all (λa=>oF BL (a:Int)==some (az a:Int))=true:=(by decide+kernel);intro a c;have:=eJ.1 b a (gL.2 c);exact eq_of_beq this
def Gt {x y:Int} (a:0<=y) (b:y<=32):da .u32 x y=some (x/2^y.toNat):=by unfold da;rw[aj a,show IntKind.u32.bits=32 from rfl,fr U,yL _ (by exact Int.pow_nonneg aa)]
def M2 (b:0<=a) (c:a<=32):gn .u32 e a=some ((e*2^a.toNat) %4294967296):=by unfold gn;rw[aj b,GR,show IntKind.u32.bits=32 from rfl,fr U]
def Zj (b:0<=a) (c:a<256):IntKind.u8.wrap a=a:=by unfold IntKind.wrap;refine(ag (ab:¬(false&&decide (a %256>=(128:Int)))=true)).trans ?_;show a %256=a;omega
def H9 {n k:Nat} (a:2^k<=n):az n=az (n/2^k)+k:=by rw[o0];have:=rM.2 a;omega
def E3 {n:Nat} (i:n<4294967296):um ((n:Int),())=some ((az n:Int),()):=by
 unfold um;refine ac.eq_iff.1 ?_;refine ac.aU (P:=λe=>∃a b:Nat,e=((a:Int),(b:Int),())/\a<65536/\az n=az a+b/\b<=16) ?_ ?_
 ·simp only[bj];refine ac.ite (λf=>?_) λf=>?_
  ·rw[Gt aa aa];refine ac.af.2 ⟨n/2^16,16,?_,U,H9 U,U⟩;simp
  exact ac.af.2 ⟨n,0,rfl,U,rfl,U⟩
 rintro _ ⟨a,b,rfl,f,g,j⟩;refine ac.aU (P:=λe=>∃a b:Nat,e=((a:Int),(b:Int),())/\a<256/\az n=az a+b/\b<=24) ?_ ?_
 ·simp only[bj];refine ac.ite (λc=>?_) λc=>?_
  ·rw[Gt aa aa];refine ac.af.2 ⟨a/2^8,b+8,?_,U,by have:=H9 (n:=a) (k:=8) U;omega,U⟩;rw[wrap64 U U];simp
  exact ac.af.2 ⟨a,b,rfl,U,g,U⟩
 rintro _ ⟨d,o,rfl,c,h,l⟩;dsimp only;rw[Zj U U,Su d c];refine ac.af.2 ?_;have m:az d<=8:=de.2 U;rw[wrap64 (x:=(az d:Int)) U U,wrap64 U U,h];congr 1;omega
def Pr {l:ac8} {x:Int} (g:aN l) (p:0<x):az (ae l+aI l.length*x).toNat=32*l.length+az x.toNat:=by
 obtain⟨b,rfl⟩:=eE (dM p);obtain⟨d,o⟩:=eE (dw g);have f:=fb g;rw[o] at f|-;have n:aI l.length=((2^(32*l.length):Nat):Int):=(by unfold aI;rw[Nat.pow_mul];simp);rw[n] at f|-;generalize 32*l.length=a at*;have h:0<b:=U;have j:((d:Int)+((2^a:Nat):Int)*(b:Int)).toNat=d+2^a*b:=(by rw[<-jB,<-Int.natCast_add];rfl);show az ((d:Int)+((2^a:Nat):Int)*(b:Int)).toNat=_;rw[j];obtain⟨e,i⟩:=tR h;have q:=n8 h;obtain⟨c,m⟩:∃c,az b=c+1:=⟨az b-1,U⟩;show _=a+az b;rw[m] at e i|-;have r:d<2^a:=U;refine H8 (k:=a+c) ?_ ?_
 ·rw[gW];have:=Nat.mul_le_mul_left (2^a) e;simp only[tE] at this;omega
 rw[je,gW] at*;have:=Nat.mul_le_mul_left (2^a) (U:b+1<=2^c*2);rw[Nat.mul_add,Nat.mul_one,<-nV] at this;omega
def E4 (c:aN d) (h:dp d) (k:d.length<=10000000):uj (d,())=some ((az (ae d).toNat:Int),()):=by
 unfold uj;simp only[pv,bj];split
 ·rename_i a;subst a;rfl
 rename_i a;have m:0<d.length:=yQ.2 a;have al:aq (ar d-1)=((d.length-1:Nat):Int):=(by simp only[aV];rw[be U U];omega);rw[al,bL U];have e:=c.get (n:=d.length-1) U;have i:d[d.length-1]≠0:=h _ (by rw[List.getLast?_eq_getElem?,a9 U]);have f:ae d=ae (d.take (d.length-1))+aI (d.length-1)*d[d.length-1]:=(by rw[<-fV U,c8 U]);have b:=Pr (l:=d.take (d.length-1)) (x:=d[d.length-1]) (c.take _) U;rw[dS,fr U,<-f] at b;rw[b];obtain⟨n,g⟩:=eE e.1;rw[g] at e|-;refine ak rfl (ak (E3 (n:=n) U) ?_);have j:az n<=32:=de.2 U;show some (aq (aq (((d.length-1:Nat):Int)*32)+(az n:Int)),())=_;rw[be (x:=((d.length-1:Nat):Int)*32) U U,be U U];congr 2;show _=((32*(d.length-1)+az n:Nat):Int);omega
def rL (b:Fit a):o8 (aL a,())=some ((az a.natAbs:Int),()):=by unfold o8;refine ak (Nl b) (ak (E4 (kB a) (Bj a) (db b aa)) ?_);rw[gd];rfl
def SE (h:g=(2*c+1)*2^b) (q:g<2^32):g&&&(2^32-g)=2^b:=by
 have l:=hp b;have r:0<g:=(by rw[h];exact Nat.mul_pos U l);obtain⟨e,i⟩:∃e,g=e+1:=⟨g-1,U⟩;have p:e=2^b*(2*c)+(2^b-1):=(by have:e+1=2^b*(2*c)+2^b:=(by rw[<-i,h];grind);omega);have o:g=2^b*(2*c+1)+0:=(by rw[h,jF];rfl);refine Nat.eq_of_testBit_eq λa=>?_;rw[Nat.testBit_and,i,Nat.testBit_two_pow_sub_succ U,<-i];have al:g.testBit a=if a<b then false else(2*c+1).testBit (a-b):=by rw[o,Nat.testBit_two_pow_mul_add _ l];simp
 have m:e.testBit a=if a<b then(2^b-1).testBit a else(2*c).testBit (a-b):=by rw[p,Nat.testBit_two_pow_mul_add _ U]
 rw[al,m,yU];by_cases f:a<b
 ·rw[aj f];simp only[Bool.false_and];exact(decide_eq_false U).symm
 rw[ag f,ag f];by_cases k:b=a
 ·subst k;have d:b<32:=by
   rcases bn b 32 with d|d
   ·exact d
   have:=nW (aa:1<=2) d;have s:=gE (2^b) (U:1<=2*c+1);omega
  simp[d]
 obtain⟨j,n⟩:∃j,a-b=j+1:=⟨a-b-1,U⟩;rw[n,Nat.testBit_succ,Nat.testBit_succ,(U:(2*c+1)/2=c),(U:2*c/2=c),decide_eq_false k];cases c.testBit j<;>simp
def Pz:∀a:Nat,a<32->ax n9 (2^a*125613361 %4294967296/2^(27:Int).toNat)=some (a:Int):=by have b:(List.range 32).all (λa=>ax n9 (2^a*125613361 %4294967296/2^(27:Int).toNat)==some (a:Int))=true:=(by decide+kernel);intro d c;have:=eJ.1 b d (gL.2 c);exact eq_of_beq this
def Nu (e:0<b) (c:b<4294967296) (a:Int):bX (dc IntKind.u32 (b:Int) (bX (0-(b:Int)))*a)=2^bq b*a %4294967296:=by obtain⟨g,f⟩:=rh e;have al:bX (0-(b:Int))=((2^32-b:Nat):Int):=(by rw[nE];omega);have d:((2^bq b:Nat):Int)=2^bq b:=ab;rw[al,HD c U,SE f c,nE,d]
def Nv {n:Nat} (b:0<n) (a:n<4294967296):uo ((n:Int),())=some ((bq n:Int),()):=by have e:bq n<32:=gM (tc b) (de.2 a);have d:=Pz _ e;have c:=Gt (x:=bX (dc IntKind.u32 (n:Int) (bX (0-(n:Int)))*125613361)) (y:=27) aa aa;rw[Nu b a 125613361] at c;unfold uo;show(bif (n:Int)==0 then some (32,()) else(da IntKind.u32 (bX (dc IntKind.u32 (n:Int) (bX (0-(n:Int)))*125613361)) 27).bind λf=>(ax n9 f).bind λg=>some (aq g,()))=_;rw[a2 (by rw[dO];exact ay U),Nu b a 125613361,c];refine ak rfl (ak d ?_);rw[be U U]
def Nw {x:Int} (r:ae (d.take b)=0) (g:b<d.length) (h:aN d) (s:d[b]≠0):bq (ae d).toNat=32*b+bq (d[b]).toNat:=by
 have q:=h.get g;rw[mN d b U,r,j5 g];have p:=dw (h.drop (b+1));generalize ae (d.drop (b+1))=u at*;generalize d[b]=v at*;obtain⟨c,rfl⟩:=eE q.1;obtain⟨e,rfl⟩:=eE p;have i:0<c:=U;obtain⟨j,m⟩:=rh i;have t:bq c<32:=gM (tc i) (de.2 U);have o:aI b=((2^(32*b):Nat):Int):=(by unfold aI;rw[Nat.pow_mul];simp);have k:(0+aI b*((c:Int)+4294967296*(e:Int))).toNat=(c+4294967296*e)*2^(32*b):=(by rw[o,Int.zero_add,jF (c+4294967296*e)];have:((2^(32*b):Nat):Int)*((c:Int)+4294967296*(e:Int))=((2^(32*b)*(c+4294967296*e):Nat):Int):=(by rw[jB];simp);rw[this];rfl);show bq (0+aI b*((c:Int)+4294967296*(e:Int))).toNat=32*b+bq c;rw[k,GL U,Nat.add_comm];congr 1;obtain⟨f,n⟩:∃f,32=bq c+(f+1):=⟨31-bq c,U⟩;refine vv (a:=j+2^f*e) ?_;have l:(4294967296:Nat)=2^bq c*(2^f*2):=by
  have:(4294967296:Nat)=2^32:=rfl;rw[this]
  conv=>lhs;rw[n]
  rw[gW,je]
 rw[l]
 conv=>lhs;lhs;rw[m]
 grind
def Nx {z:Int} (o:Fit z) (r:z≠0):wD (aL z,())=some ((bq z.natAbs:Int),()):=by
 unfold wD;dsimp only;have i:=kB z;have u:=gd z;have s:(aL z).2.1.length<=31250:=o;generalize(aL z).2.1=b at*;have m:z.natAbs=(ae b).toNat:=U;rw[m];refine ac.eq_iff.1 (ac.aU (P:=λh=>match h with|.inl _=>False|.inr p=>p=((bq (ae b).toNat:Int),())) ?_ ?_)
 ·refine ac.steps b.length (λa q=>q=((a:Int),())/\ae (b.take a)=0) ⟨rfl,rfl⟩ ?_ ?_
  ·rintro a _ f ⟨rfl,e⟩;have j:=i.get f;simp only[aA (show(a:Int)<ar b by simp only[aV];omega),cond_true,bL f,aG,bH];by_cases c:b[a]=0
   ·simp only[aA c,eS,cond_false];refine ac.af.2 ⟨by rw[bi U],?_⟩;rw[fV f,c,e];simp
   simp only[ay c,fW,cond_true];have k:=Nw (x:=0) e f i c;rw[k];obtain⟨d,l⟩:=eE j.1;rw[l] at j c|-;have t:bq d<32:=gM (tc U) (de.2 U);refine ac.of_eq (ak (Nv (n:=d) U U) rfl) ?_;show(aq (aq ((a:Int)*32)+(bq d:Int)),())=_;rw[be (x:=(a:Int)*32) U U,be U U];congr 1;show _=((32*a+bq d:Nat):Int);omega
  rintro _ ⟨rfl,e⟩;exfalso;rw[c8 (a6 _)] at e;omega
 rintro(h|h) g
 ·exact g.elim
 have g:h=_:=g;rw[g];exact ac.af.2 rfl
def iD (a:Nat):((2^a:Nat):Int)=(2:Int)^a:=by simp
def h7 (a:Nat):(0:Int)<2^a:=mQ aa
def sX (a:b<=31):(2:Int)^b<=2147483648:=by have c:=nW (aa:0<2) a;rw[<-iD];omega
def sW {p:Nat} (a:p<=32):(4294967296:Int)=2^p*2^(32-p):=by rw[<-ja,(U:p+(32-p)=32)];rfl
def oL (a:Nat):aI a=2^(32*a):=by unfold aI;rw[Int.pow_mul];rfl
def Wc {k:Nat} {x y:Int} (j:k<=32) (e:0<=x) (f:x<2^k) (g:0<=y) (o:y<4294967296) (i:y %2^k=0):eB .u32 x y=x+y/\x+y<4294967296:=by
 have c:=h7 k;have u:=sW j;have t:=h7 (32-k);have s:y=2^k*(y/2^k):=(by have:=hb y (2^k);omega);have r:y/2^k<2^(32-k):=by
  rcases gC (y/2^k) (2^(32-k)) with b|b
  ·exact b
  have:=hW b (dM c);omega
 have q:2^k*(y/2^k+1)<=2^k*2^(32-k):=hW U (dM c);have p:(2:Int)^k*(y/2^k+1)=2^k*(y/2^k)+2^k:=(by grind);have n:x+y<4294967296:=U;refine⟨?_,n⟩;obtain⟨d,rfl⟩:=eE e;obtain⟨a,rfl⟩:=eE g;have m:d<2^k:=(by have:((d:Nat):Int)<((2^k:Nat):Int):=(by simpa using f);omega);have l:a %2^k=0:=(by have:((a %2^k:Nat):Int)=0:=(by simpa using i);omega);rw[Wa U U];have h:a=(a/2^k)*2^k:=(by have:=nU a (2^k);rw[l,jF] at this;omega);rw[h,HG k m];simp
def CP {a:ac8} {n:Nat} (F:aN a) (Y:a.length<=10000000) (W:n<=100000000):r1 (a,(n:Int),())=some (bK (ae a*2^n).toNat,()):=by
 unfold r1;simp only[pv,bj];split
 ·rename_i h;subst h;simp[ae];rfl
 refine ac.eq_iff.1 ?_;obtain⟨b,e,K,X,I,J⟩:∃b e:Nat,n=32*b+e/\e<32/\gk IntKind.i64 (n:Int) 32=some (b:Int)/\fS (n:Int) 32=some (e:Int):=by
  refine⟨n/32,n %32,U,U,?_,?_⟩
  ·unfold gk;rw[aj aa,vJ U,wrap64 U U];simp
  unfold fS;rw[aj aa,yN U];simp
 have l:=h7 e;have E:=sW (p:=e) U;have w:aQ (aq ((b:Int)+ar a))=((b+a.length+1:Nat):Int):=(by simp only[aV];rw[be U U,(ab:(b:Int)+(a.length:Int)=((b+a.length:Nat):Int)),bi U]);rw[I,J,aG,aG,w,gA U,aG];refine ac.aU (P:=λq=>∃d,q=(d,())/\d.length=b+a.length+1/\aN d/\ae d=aI b*(2^e*ae a)) ?_ ?_
 ·refine ac.steps a.length (λc M=>∃d,M=((c:Int),d,())/\d.length=b+a.length+1/\aN d/\g1 d (b+c+1)/\(∀h:b+c<d.length,d[b+c]<2^e)/\ae d=aI b*(2^e*ae (a.take c))) ⟨_,rfl,ab,aN.j8 _,g1.j8 _ _,λh=>by simp;exact l,by simp[ae,nD]⟩ ?_ ?_
  ·rintro c _ m ⟨d,rfl,aw,g,i,t,o⟩;have s:=F.get m;have G:=g.get (n:=b+c) U;have H:=t U;dsimp only;rw[if_pos (show(c:Int)<ar a by simp only[aV];omega),bL m,Option.bind_some];have al:aq ((b:Int)+(c:Int))=((b+c:Nat):Int):=(by rw[be U U];simp);have V:a[c]*2^e<4294967296*2^e:=Int.mul_lt_mul_of_pos_right s.2 l;have T:(2:Int)^e<=2147483648:=sX U;obtain⟨f,r,N,O⟩:∃f,f=a[c]*2^e/\0<=f/\f<18446744073709551616:=⟨_,rfl,Int.mul_nonneg s.1 (Int.le_of_lt l),U⟩;have z:gn IntKind.u64 (aJ a[c]) (aJ (e:Int))=some f:=by
    rw[bV (x:=a[c]) U U,bV (x:=(e:Int)) U U,lW U U,bY,<-r];congr 1;omega
   have A:f %4294967296 %2^e=0:=(by rw[Int.emod_emod_of_dvd _ ⟨_,E⟩,r,Int.mul_emod_left]);have B:f/4294967296<2^e:=(by refine oM aa ?_;rw[gV];omega);obtain⟨C,R⟩:=Wc (k:=e) (x:=d[b+c]) (y:=f %4294967296) U G.1 H U U A;rw[z];simp only[aG];rw[al,iZ U,pw N O,C,i6 U,lh,aG,bi U,jv U U,i6 (by simp;omega)];refine ac.af.2 ⟨(d.set (b+c) (d[b+c]+f %4294967296)).set (b+c+1) (f/4294967296),by rw[bi U],by simp[aw],(g.set U U).set U U,?_,?_,?_⟩
   ·have:=(i.Gr (d[b+c]+f %4294967296) (j:=b+c) U).set (f/4294967296);exact this
   ·intro h;show((d.set (b+c) (d[b+c]+f %4294967296)).set (b+c+1) (f/4294967296))[b+c+1]'h<2^e
    rw[List.getElem_set_self];exact B
   have Q:(d.set (b+c) (d[b+c]+f %4294967296))[b+c+1]'(by simp;omega)=0:=by rw[ry U];exact i _ U U
   rw[kM (by simp;omega),Q,kM U,o,fV m,fY,ro];have S:=hb f 4294967296;generalize f/4294967296=L at*;generalize f %4294967296=q at*;generalize(2:Int)^e=u at*;generalize a[c]=v at*;generalize d[b+c]=Z at*;have D:q=v*u-4294967296*L:=U;subst D;grind
  rintro _ ⟨d,rfl,aw,g,i,t,o⟩;dsimp only;rw[if_neg (show¬((a.length:Int)<ar a) by simp only[aV];omega)];refine ac.af.2 ⟨d,rfl,aw,g,?_⟩;rw[o,List.take_of_length_le (Nat.le_refl _)]
 rintro _ ⟨d,rfl,aw,g,i⟩;refine ac.of_eq (ak (mL g (by show d.length<=_;omega)) rfl) ?_;show(fD d,())=_;rw[fD,i,oL,K,ja];congr 3;grind
def Qa (k:aN d) (o:d.length<=10000000):wG (d,(),())=some (decide (ae d≠0),()):=by
 unfold wG;refine ac.eq_iff.1 ?_;refine ac.aU (P:=λi=>∃g,i=(g,())/\(0<=g↔ae d≠0)) ?_ ?_
 ·unfold DX;dsimp only;refine ac.aU (P:=λc=>match c with|.inl _=>ae d=0|.inr i=>0<=i.1/\ae d≠0) ?_ ?_
  ·refine ac.steps d.length (λa m=>m=((a:Int),())/\ae (d.take a)=0) ⟨rfl,rfl⟩ ?_ ?_
   ·rintro a _ e ⟨rfl,b⟩;have l:=k.get e;simp only[aA (show(a:Int)<ar d by simp only[aV];omega),cond_true,bL e,aG,DO,bH];by_cases h:d[a]=0
    ·simp only[aA h,eS,cond_false];refine ac.af.2 ⟨by rw[bi U],?_⟩;rw[fV e,h,b];simp
    simp only[ay h,fW,cond_true];refine ac.af.2 ⟨by show(0:Int)<=(a:Int);omega,?_⟩;rw[mN d a U,b,j5 e];have j:=dw (k.drop (a+1));have n:0<aI a*(d[a]+4294967296*ae (d.drop (a+1))):=nJ (dQ a) U;omega
   rintro _ ⟨rfl,b⟩;simp only[ay (show¬((d.length:Int)<ar d) by simp only[aV];omega),cond_false];refine ac.af.2 ?_;rw[c8 (a6 _)] at b;exact b
  rintro(c|c) f
  ·have f:ae d=0:=f;exact ac.af.2 ⟨_,rfl,by rw[f];simp⟩
  obtain⟨b,j⟩:0<=c.1/\ae d≠0:=f;exact ac.af.2 ⟨c.1,rfl,λ_=>j,λ_=>b⟩
 rintro _ ⟨g,rfl,l⟩;refine ac.af.2 ?_;show(decide (g>=0),())=_;congr 1;rw[decide_eq_decide];exact l
def HF (b:Nat) (c:0<=a) (g:a<4294967296) (e:b<=32):dc .u32 a (2^b-1)=a %2^b:=by obtain⟨i,rfl⟩:=eE c;have f:0<2^b:=hp b;have d:(2:Int)^b-1=((2^b-1:Nat):Int):=(by rw[Int.natCast_sub f];simp);have h:2^b<=2^32:=nW aa e;rw[d,HD U U,Nat.and_two_pow_sub_one_eq_mod];simp
def Kb {x b y:Int} {P P':Int} (e:0<b) (f:0<=x/\x<b) (h:0<P):(x+b*y) %(b*P)=0↔x=0/\y %P=0:=by
 constructor
 ·intro a;have g:x=0:=by
   have c:(x+b*y) %b=0:=(by have:=Int.emod_emod_of_dvd (x+b*y) (show b∣b*P from⟨P,rfl⟩);rw[a] at this;simpa using this.symm);rw[vI,pY f.1 f.2] at c;exact c
  subst g;rw[Int.zero_add,Int.mul_emod_mul_of_pos _ _ e] at a;exact⟨rfl,by rcases Int.mul_eq_zero.1 a with d|d;omega;exact d⟩
 rintro⟨rfl,a⟩;rw[Int.zero_add,Int.mul_emod_mul_of_pos _ _ e,a,Int.mul_zero]
def Ec {n:Nat} (i:aN d) (a4:dp d) (dl:d.length<=10000000) (co:n<=1000000000):ui (d,(n:Int),())=some (bK (ae d/2^n).toNat,decide (ae d %2^n≠0),()):=by
 unfold ui;dsimp only;refine ac.eq_iff.1 ?_;obtain⟨a,e,av,cs,am,ap⟩:∃a e:Nat,n=32*a+e/\e<32/\gk IntKind.i64 (n:Int) 32=some (a:Int)/\fS (n:Int) 32=some (e:Int):=by
  refine⟨n/32,n %32,U,U,?_,?_⟩
  ·unfold gk;rw[aj aa,vJ U,wrap64 U U];simp
  unfold fS;rw[aj aa,yN U];simp
 have B:=h7 e;have G:=sW (p:=e) U;have X:(2:Int)^n=aI a*2^e:=(by rw[oL,av,ja]);have K:=dw i;rw[am,ap,aG,aG,bj,X];refine ac.ite (λk=>?_) λk=>?_
 ·have k:d.length<=a:=(by simp only[aV] at k;omega);have m:=fb i;have r:=nu k;have F:aI a*1<=aI a*2^e:=hW U (dM (dQ a));rw[nH K U,pY K U];refine ac.af.2 ?_;show(([]:ac8),decide (ar d>0),())=(bK 0,_,());rw[Ei];congr 2;rw[decide_eq_decide];simp only[aV];constructor
  ·intro o C;have:=dp.zero i a4 C;rw[this] at o;simp at o
  intro o;have:d≠[]:=λO=>(by rw[O] at o;exact o rfl);have:=yQ.2 this;omega
 have k:a<d.length:=(by simp only[aV] at k;omega);have w:=i.get k;obtain⟨f,u⟩:∃f,f=ae (d.drop a):=⟨_,rfl⟩;have H:0<=f:=(by rw[u];exact dw (i.drop a));have J:ae d=ae (d.take a)+aI a*f:=(by rw[u];exact mN d a U);have I:=dw (i.take a);have E:=fb (i.take a);rw[dS,fr U] at E;have Z:ae d/(aI a*2^e)=f/2^e:=(by rw[<-rp (dM (dQ a)),J,tu _ _ (by have:=dQ a;omega),nH I E,Int.zero_add]);refine ac.aU (P:=λq=>q=(decide (ae d %(aI a*2^e)≠0),())) ?_ ?_
 ·rw[CA U,aG];have al:List.drop 0 (List.take a d)=d.take a:=kS;show ac ((wG (List.drop 0 (List.take a d),(),())).bind _) _;rw[al,Qa (i.take a) (by simp;omega),aG];have D:(decide (ae d %(aI a*2^e)≠0))=(decide (ae (d.take a)≠0)||decide (d[a] %2^e≠0)):=by
   have m:=Kb (x:=ae (d.take a)) (b:=aI a) (y:=f) (P:=2^e) (P':=0) (dQ a) ⟨I,E⟩ B;rw[<-J] at m;have r:f %2^e=d[a] %2^e:=(by rw[u,j5 k,G,i9,vI]);rw[r] at m;by_cases A:ae (d.take a)=0<;>by_cases T:d[a] %2^e=0<;>simp[A,T,m]
  rw[D];dsimp only;by_cases A:ae (d.take a)=0
  ·simp only[ay (show¬(ae (d.take a)≠0) fromλk=>k A),beq_self_eq_true,cond_true,bL k,aG];rw[bV (x:=(e:Int)) U U,M2 U U,aG,bY,Int.one_mul];have bl:(2:Int)^e<=2147483648:=sX U;rw[pY U U,jv U U,HF e w.1 w.2 U,bH];refine ac.af.2 ?_;simp
  simp only[aA (show ae (d.take a)≠0 from A)];exact ac.af.2 rfl
 rintro _ rfl;dsimp only;obtain⟨l,ci⟩:∃l,d.length=a+l:=⟨d.length-a,U⟩;have Q:aq (ar d-(a:Int))=((l:Nat):Int):=(by simp only[aV];rw[be U U];omega);rw[Q,gA U,Option.bind_some];have bs:f<aI l:=(by have:=fb (i.drop a);rw[List.length_drop,(U:d.length-a=l),<-u] at this;exact this);refine ac.aU (P:=λq=>∃g,q=(g,())/\g.length=l/\aN g/\ae g=f/2^e) ?_ ?_
 ·refine ac.steps l (λc a3=>∃g,a3=((c:Int),g,())/\g.length=l/\aN g/\ae (g.take c)+aI c*(f/2^e/aI c)=f/2^e) ⟨_,rfl,ab,aN.j8 _,by simp[ae,vE]⟩ ?_ ?_
  ·rintro c _ ce ⟨g,rfl,aw,z,s⟩;have w:=i.get (n:=a+c) U;have a0:=i.getD (a+c+1);have D:decide ((c:Int)<ar (List.replicate l (0:Int)))=true:=aA (by simp only[aV,mR];omega);have al:aq ((a:Int)+(c:Int))=((a+c:Nat):Int):=(by rw[be U U];simp);have R:aQ ((a+c:Nat):Int)=((a+c+1:Nat):Int):=bi U;simp only[D,cond_true,al,R,bL (U:a+c<d.length),aG];obtain⟨j,v,L,d0⟩:∃j,j=d[a+c]+4294967296*d.getD (a+c+1) 0/\0<=j/\j<18446744073709551616:=⟨_,rfl,U,U⟩;have Y:f/aI c=j+4294967296*(4294967296*ae (d.drop (a+c+2))):=by
    have m:d.drop a=(d.drop a).take c++d.drop (a+c):=by
     conv=>lhs;rw[<-ku c (d.drop a)]
     rw[nN]
    have r:f=ae ((d.drop a).take c)+aI c*ae (d.drop (a+c)):=by
     rw[u]
     conv=>lhs;rw[m]
     rw[j4,dS,ka,fr U]
    have F:=dw ((i.drop a).take c);have o:=fb ((i.drop a).take c);rw[dS,ka,fr U] at o;have C:ae (d.drop (a+c))=d[a+c]+4294967296*ae (d.drop (a+c+1)):=j5 U;have V:ae (d.drop (a+c+1))=d.getD (a+c+1) 0+4294967296*ae (d.drop (a+c+2)):=by
     rcases bn (a+c+1) d.length with h|h
     ·rw[jj h];exact j5 h
     rw[ms h,nO h,nO U];rfl
    rw[r,tu _ _ (by have:=dQ c;omega),nH F o,C,V,v];grind
   have ad:f/2^e/aI c %4294967296=j/2^e %4294967296:=(by have m:f/2^e/aI c=f/aI c/2^e:=(by rw[rp (dM B),rp (dM (dQ c)),gV]);rw[m,Y];have r:∀t:Int,j+4294967296*(4294967296*t)=j+2^e*(4294967296*(2^(32-e)*t)):=λt=>(by generalize(2:Int)^e=M at*;generalize(2:Int)^(32-e)=N at*;rw[show(4294967296:Int)*(4294967296*t)=(M*N)*(4294967296*t) by rw[<-G]];grind);rw[r,tu _ _ U,vI]);have an:0<=j/2^e:=kp L (dM B);have cv:j/2^e<=j:=rq _ L;refine ac.aU (P:=λq=>q=(g.set c (j/2^e %4294967296),())) ?_ ?_
   ·refine ac.aU (P:=λq=>q=(j,g,())) ?_ ?_
    ·simp only[bj];refine ac.ite (λh=>?_) λh=>?_
     ·have h:a+c+1<d.length:=(by simp only[aV] at h;omega);rw[bL h,aG,bV (x:=d[a+c+1]) (by have:=i.get h;omega) (by have:=i.get h;omega),lW aa aa];rw[jj h] at v a0;have S:d[a+c+1]*2^(32:Int).toNat %18446744073709551616=4294967296*d[a+c+1]:=by
       rw[show(2:Int)^(32:Int).toNat=4294967296 from rfl];omega
      rw[aG,S,bV U U,k9 32 w.1 w.2 U U U U];refine ac.af.2 ?_;rw[<-v]
     have h:d.length<=a+c+1:=(by simp only[aV] at h;omega);rw[ms h] at v;rw[bV U U];refine ac.af.2 ?_;rw[v];simp
    rintro _ rfl;dsimp only;rw[bV (x:=(e:Int)) U U,rc U U,Option.bind_some,Int.toNat_natCast,pw an U,i6 U];exact ac.af.2 rfl
   rintro _ rfl;dsimp only;refine ac.af.2 ⟨g.set c (j/2^e %4294967296),by rw[bi U],by simp[aw],z.set U U,?_⟩;rw[fV (by simp;omega)];simp only[List.getElem_set_self];rw[List.take_set_of_le U,<-ad,fY,Int.mul_comm 4294967296 (aI c),<-Int.ediv_ediv_of_nonneg (Int.le_of_lt (dQ c))];have W:=Int.emod_add_mul_ediv (f/2^e/aI c) 4294967296;generalize f/2^e/aI c %4294967296=q at*;generalize f/2^e/aI c/4294967296=ds at*;rw[<-W] at s;grind
  rintro _ ⟨g,rfl,aw,z,s⟩;simp only[ay (show¬((l:Int)<ar (List.replicate l (0:Int))) by simp only[aV,mR];omega),cond_false];refine ac.af.2 ⟨g,rfl,aw,z,?_⟩;have m:0<=f/2^e:=kp H (dM B);have r:f/2^e<=f:=rq _ H;rw[nH m U,c8 U] at s;simpa using s
 rintro _ ⟨g,rfl,aw,z,s⟩;refine ac.of_eq (ak (mL z (by show g.length<=_;omega)) rfl) ?_;show(fD g,_,())=_;rw[fD,s,Z]
section
def x1 (a:IntKind) (b c:Int):eB a b c=eB a c b:=by unfold eB;rw[BitVec.or_comm]
def CL {x y:Int} (b:0<=x/\x<4294967296) (a:0<=y/\y<4294967296):gn .u64 x 32=some (4294967296*x)/\eB .u64 (4294967296*x) (aJ y)=4294967296*x+y:=by
 constructor
 ·rw[lW aa aa,show(2:Int)^(32:Int).toNat=4294967296 from rfl];congr 1;omega
 rw[bV a.1 U,x1,k9 32 a.1 a.2 U U U U,Int.add_comm]
def Cl {x y:Int} (a:0<=x/\x<18446744073709551616) (d:0<y):gk .u64 x y=some (x/y)/\fS x y=some (x %y):=by
 constructor
 ·unfold gk;rw[aj U,vJ a.1];have c:x/y<=x:=rq _ a.1;have b:0<=x/y:=kp a.1 U;rw[CW b U]
 unfold fS;rw[aj U,yN a.1]
def X0 (n:aN d) (L:d.length<=10000000) (j:0<a) (I:a<4294967296):z5 (d,a,())=some (bK (ae d/a).toNat,ae d %a,()):=by
 unfold z5;refine ac.eq_iff.1 ?_;simp only[aV,gA (U:d.length<=4294967296),aG];refine ac.aU (P:=λr=>∃e,r=(ae d %a,e,())/\e.length=d.length/\aN e/\ae e=ae d/a) ?_ ?_
 ·refine ac.steps d.length (λf C=>∃e,C=(ae (d.drop (d.length-f)) %a,((d.length:Nat):Int)-1-f,e,())/\e.length=d.length/\aN e/\(∀b,b<d.length-f->(v:b<e.length)->e[b]=0)/\ae e=aI (d.length-f)*(ae (d.drop (d.length-f))/a)) ⟨List.replicate d.length 0,?_,ab,aN.j8 _,ab,?_⟩ ?_ ?_
  ·rw[be U U,nO U];simp[ae]
  ·rw[nO U];simp[ae,nD]
  ·rintro f _ J ⟨e,rfl,aw,g,h,i⟩;obtain⟨b,v⟩:∃b,d.length=b+1+f:=⟨d.length-1-f,U⟩;have al:((d.length:Nat):Int)-1-(f:Int)=(b:Int):=U;have l:b<d.length:=U;rw[(U:d.length-f=b+1)] at*;have A:=n.get l;obtain⟨c,k⟩:∃c,c=ae (d.drop (b+1)):=⟨_,rfl⟩;have H:0<=c:=(by rw[k];exact dw (n.drop _));rw[<-k] at i|-;have w:0<=c %a:=l1 _ U;have K:c %a<a:=nI _ j;obtain⟨D,E⟩:=CL (x:=c %a) (y:=d[b]) ⟨w,U⟩ A;obtain⟨F,G⟩:=Cl (x:=4294967296*(c %a)+d[b]) (y:=a) ⟨U,U⟩ j;have p:(4294967296*(c %a)+d[b])/a<4294967296:=by
    refine oM j ?_;have:4294967296*(c %a)+d[b]<4294967296*(c %a+1):=U;have m:4294967296*(c %a+1)<=4294967296*a:=U;omega
   have q:0<=(4294967296*(c %a)+d[b])/a:=kp U U;simp only[al,aA (U:(b:Int)>=0),cond_true,bL l,D,aG];rw[E,bV (x:=a) U U,F,aG,jv q p,i6 U,G,aG];have u:=hb c a;have z:ae (d.drop b)=d[b]+4294967296*c:=(by rw[k];exact j5 l);have o:ae (d.drop b)=(4294967296*(c %a)+d[b])+a*(4294967296*(c/a)):=(by rw[z];generalize c/a=M at*;generalize c %a=r at*;rw[<-u];grind);refine ac.af.2 ⟨e.set b ((4294967296*(c %a)+d[b])/a),?_,by simp[aw],g.set q p,?_,?_⟩
   ·rw[(U:d.length-(f+1)=b),be U U,o,vI];congr 2;omega
   ·intro B t m;rw[ry U];exact h B U (by simpa using m)
   rw[(U:d.length-(f+1)=b),o,tu _ _ U,kM U,h b U U,i,fY];grind
  rintro _ ⟨e,rfl,aw,g,h,i⟩;have al:¬(((d.length:Nat):Int)-1-(d.length:Int)>=0):=U;simp only[ay al,cond_false];rw[Nat.sub_self] at i;refine ac.af.2 ⟨e,ab,aw,g,?_⟩;rw[i,vE];simp
 rintro _ ⟨e,rfl,aw,g,h⟩;have t:ae d %a<a:=nI _ j;have s:0<=ae d %a:=l1 _ U;refine ac.of_eq (ak (mL g (by show e.length<=_;omega)) rfl) ?_;show(fD e,bX (ae d %a),())=_;rw[fD,h,jv s U]
section
variable {α B:Type}
def oY {c a f:List α} (e:b<a.length) (d:α->Option B):bd (c++(a++f)) (c.length+b) d=d a[b]:=by refine mZ ?_;rw[l5 U,lv,lq e,a9 e]
def yp {a c d:List α} (f:b<c.length) (e:α):(a++(c++d)).set (a.length+b) e=a++(c.set b e++d):=by rw[List.set_append_right _ _ U,lv,List.set_append_left _ _ f]
end
def QL {v1 e0 d f b c g:Int} (t:0<a) (j:d=(v1*4294967296+e0)*a+c) (q:f=(r*4294967296+b)*a+g) (k:0<=c) (s:g<a) (h:0<=e) (l:(r-e*v1)*4294967296+b<e*e0):f<e*d:=by have i:r*4294967296+b+1<=e*(v1*4294967296+e0):=(by grind);have m:(r*4294967296+b+1)*a<=e*(v1*4294967296+e0)*a:=kq i U;have n:0<=e*c:=ll h k;have o:e*d=e*(v1*4294967296+e0)*a+e*c:=(by rw[j];grind);have p:(r*4294967296+b+1)*a=(r*4294967296+b)*a+a:=(by grind);omega
def QM {v1 e0 b f c d g:Int} (u:0<e) (j:b=(v1*4294967296+e0)*e+r) (q:f=(c*4294967296+d)*e+g) (t:0<=r/\r<e) (s:0<=g) (h:0<=a/\a<4294967296) (v:1<=v1) (w:0<=e0) (k:a*e0<=(c-a*v1)*4294967296+d):a*b<f+b:=by have i:a*(v1*4294967296+e0)<=c*4294967296+d:=(by grind);have l:a*(v1*4294967296+e0)*e<=(c*4294967296+d)*e:=kq i U;have m:a*r<=a*e:=hW U h.1;have n:a*b=a*(v1*4294967296+e0)*e+a*r:=(by rw[j];grind);have o:a*e<=4294967295*e:=kq U U;have p:4294967296*e<=(v1*4294967296+e0)*e:=kq U U;omega
end
def CV {l:ac8} {m:Nat} (b:l.length=m+2):ae l=(l[m+1]*4294967296+l[m])*aI m+ae (l.take m):=by have a:ae l=ae (l.take (m+1))+aI (m+1)*l[m+1]:=(by rw[<-fV U,c8 U]);rw[a,fV U,fY];grind
def Y4 (c:d.length=b+3):ae d=((d[b+2]*4294967296+d[b+1])*4294967296+d[b])*aI b+ae (d.take b):=by have a:ae d=ae (d.take (b+2))+aI (b+2)*d[b+2]:=(by rw[<-fV U,c8 U]);rw[a,fV U,fV U];simp only[fY];grind
structure vG (v w:ac8) (n:Nat):Prop where
 hv:aN v
 hw:aN w
 rk:v.length=n+2
 wn:w.length=n+3
 KL:n<=10000000
 top:2147483648<=v[n+1]
 lt:ae w<4294967296*ae v
def vG.NJ {n:Nat} (a:vG d f n):0<ae d:=by
 have b:=CV a.rk;have c:=dw (a.hv.take n);have e:=a.hv.get (n:=n) (by have:=a.rk;omega);have g:=a.top;have h:0<(d[n+1]'(by have:=a.rk;omega)*4294967296+d[n]'(by have:=a.rk;omega))*aI n:=nJ U (dQ n)
 omega
def QN {h k:ac8} {n:Nat} (g:vG f d n) (p:a=(4294967296*d[n+2]'(by have:=g.wn;omega)+d[n+1]'(by have:=g.wn;omega))/f[n+1]'(by have:=g.rk;omega)) (S:e=(4294967296*d[n+2]'(by have:=g.wn;omega)+d[n+1]'(by have:=g.wn;omega)) %f[n+1]'(by have:=g.rk;omega)):ac (loop (σ:=(c2×Int×Int×aM×Unit)) (ρ:=(c2×Int×aM×Unit)) (λ(q,s,E,A,_)=>
 Option.bind (α:=(c2×aM×Unit)⊕((c2×Int×Int×aM×Unit)⊕(c2×Int×aM×Unit))) (bif decide (s>4294967295)==false then(ax f (aq (ar f-2))).bind λd7=>
 (gn IntKind.u64 E 32).bind λd8=>
 (bk (q.2-q.1) (aq (ar f-2))).bind λd3=>
 (bd A (q.1+d3) λbl=>some bl).bind λd9=>
  bif decide (aJ (s*aJ d7)>eB IntKind.u64 d8 (aJ d9)) then
 some (.inl (q,A,())) else
 some (.inr (.inr (q,s,A,()))) else some (.inl (q,A,()))) λb=>match b with
 |.inl (W,X,_)=>(
 (ax f (aq (ar f-1))).bind λt=>
  bif decide (aJ (E+aJ t)>4294967295) then
 some (.inr (W,aJ (s-1),X,())) else
 some (.inl (W,aJ (s-1),aJ (E+aJ t),X,())))
 |.inr i=>some i) ((h.length,h.length+d.length),a,e,h++(d++k),())) (λi=>∃b,i=((h.length,h.length+d.length),b,h++(d++k),())/\0<=b/\b<4294967296/\ae d/ae f<=b/\b*ae f<ae d+ae f):=by
 have d1:=g.rk;have d2:=g.wn;have fT:=g.KL;have P:=g.NJ;have ge:=g.hv.get (n:=n+1) U;have z:=g.hv.get (n:=n) U;have f4:=g.hw.get (n:=n+2) U;have f5:=g.hw.get (n:=n+1) U;have d0:=g.hw.get (n:=n) U;have f3:=g.top;have C:=CV d1;have u:=Y4 d2;have H:=dw (g.hv.take n);have I:=fb (g.hv.take n);have Z:=dw (g.hw.take n);have J:=fb (g.hw.take n);rw[dS,fr U] at I J;have dl:=g.lt;have D:=dQ n;have al:aq (ar f-1)=((n+1:Nat):Int):=(by simp only[aV];rw[be U U];omega);have a4:aq (ar f-2)=((n:Nat):Int):=(by simp only[aV];rw[be U U];omega);have bs:ax f ((n+1:Nat):Int)=some f[n+1]:=bL U;have ce:ax f ((n:Nat):Int)=some f[n]:=bL U;have ci:∀v:Int->ac2,bd (h++(d++k)) (h.length+n) v=v d[n]:=λv=>oY U v;generalize f6:f[n+1]=v1 at*;generalize f7:f[n]=e0 at*;generalize f8:d[n+2]=G at*;generalize f9:d[n+1]=d6 at*;generalize gc:d[n]=j at*;obtain⟨c,T⟩:∃c,c=4294967296*G+d6:=⟨_,rfl⟩;rw[<-T] at p S;have u:ae d=(c*4294967296+j)*aI n+ae (d.take n):=(by rw[u,T];grind);have fs:G<=v1:=by
  rcases gC v1 G with l|l
  ·exfalso;have ad:(v1*4294967296+e0+1)*aI n<=(v1*4294967296+4294967296)*aI n:=kq U U;have K:((v1+1)*4294967296*4294967296)*aI n<=(c*4294967296+j)*aI n:=kq U U;have am:(v1*4294967296+e0+1)*aI n=(v1*4294967296+e0)*aI n+aI n:=(by grind);have an:((v1+1)*4294967296*4294967296)*aI n=4294967296*((v1*4294967296+4294967296)*aI n):=(by grind);omega
  exact l
 have ex:0<=ae d/ae f:=kp (dw g.hw) U;have fn:ae d/ae f<4294967296:=oM P dl;have ds:0<=c:=U;have fp:=hb c v1;have f1:0<=c %v1:=l1 _ U;have f2:c %v1<v1:=nI _ U;have f0:0<=c/v1:=kp ds U;have ap:∀b,0<=b->(c-b*v1)*4294967296+j<b*e0->ae d/ae f<b:=λb p g=>(by have:=QL D C u H J p g;exact oM P this);have O:∀b,0<=b->b<4294967296->b*e0<=(c-b*v1)*4294967296+j->b*ae f<ae d+ae f:=λb co cs g=>QM D C u ⟨H,I⟩ Z ⟨co,cs⟩ U z.1 g;refine ac.loop (λF=>∃b i,F=((h.length,h.length+d.length),b,i,h++(d++k),())/\0<=b/\b<=4294967297/\0<=i/\i<4294967296/\i=c-b*v1/\ae d/ae f<=b) (λF=>F.2.1.toNat) ⟨a,e,rfl,U,?_,U,U,?_,?_⟩ ?_
 ·rw[p];have:c<4294967298*v1:=U;have:=oM U this;omega
 ·rw[p,S,gV];omega
 ·rcases gC (c/v1) (ae d/ae f) with l|l
  ·exfalso;have ad:(c/v1+1)*ae f<=ae d:=by
    have o:(c/v1+1)*ae f<=ae d/ae f*ae f:=kq U U;have av:=hb (ae d) (ae f);have L:=l1 (ae d) (U:ae f≠0);rw[gV (ae d/ae f)] at o;omega
   have K:(c+1)*4294967296<=(c/v1+1)*(v1*4294967296):=(by have:(c/v1+1)*(v1*4294967296)=(v1*(c/v1)+v1)*4294967296:=(by grind);omega);have am:(c+1)*4294967296*aI n<=(c/v1+1)*(v1*4294967296)*aI n:=kq K U;have an:0<=(c/v1+1)*(e0*aI n+ae (f.take n)):=ll U (by have:=ll z.1 (dM D);omega);have ek:(c/v1+1)*ae f=(c/v1+1)*(v1*4294967296)*aI n+(c/v1+1)*(e0*aI n+ae (f.take n)):=(by rw[C];grind);have el:(j+1)*aI n<=4294967296*aI n:=kq U U;have em:(c*4294967296+j)*aI n+aI n=c*4294967296*aI n+(j+1)*aI n:=(by grind);have eq:(c+1)*4294967296*aI n=c*4294967296*aI n+4294967296*aI n:=(by grind);omega
  rw[p];exact l
 rintro _ ⟨b,i,rfl,o,av,L,a0,M,a3⟩;have w:∀b,(b-1)*v1=b*v1-v1:=λb=>(by grind);have N:ae d/ae f<b->ac ((ax f (aq (ar f-1))).bind λt=>
  bif decide (aJ (i+aJ t)>4294967295) then
 some (.inr ((h.length,h.length+d.length),aJ (b-1),h++(d++k),())) else
 some (
  .inl ((h.length,h.length+d.length),aJ (b-1),aJ (i+aJ t),h++(d++k),()))) (λ(Y:(c2×Int×Int×aM×Unit)⊕(c2×Int×aM×Unit))=>match Y with
  |.inl V=>(∃b i,V=((h.length,h.length+d.length),b,i,h++(d++k),())/\0<=b/\b<=4294967297/\0<=i/\i<4294967296/\i=c-b*v1/\ae d/ae f<=b)/\V.2.1.toNat<b.toNat
  |.inr i=>∃b,i=((h.length,h.length+d.length),b,h++(d++k),())/\0<=b/\b<4294967296/\ae d/ae f<=b/\b*ae f<ae d+ae f):=by
  intro ft;rw[al,bs,aG,bV (x:=v1) U U,bV (x:=i+v1) U U,bV (x:=b-1) U U,bj];refine ac.ite (λl=>?_) λl=>?_
  ·refine ac.af.2 ⟨b-1,rfl,U,?_,U,?_⟩
   ·rcases gC (b-1) 4294967296 with m|m
    ·exact m
    exfalso;have:=kq m (U:0<=v1);rw[w] at this;omega
   have cv:b-1<4294967296:=by
    rcases gC (b-1) 4294967296 with m|m
    ·exact m
    exfalso;have:=kq m (U:0<=v1);rw[w] at this;omega
   refine O (b-1) U cv ?_;rw[w];have gf:(b-1)*e0<=4294967295*e0:=kq U z.1;omega
  refine ac.af.2 ⟨⟨b-1,i+v1,rfl,U,U,U,U,?_,U⟩,?_⟩
  ·rw[w];omega
  show(b-1).toNat<b.toNat;omega
 by_cases Q:b>4294967295
 ·simp only[aA Q,show(true==false)=false from rfl,cond_false,aG];refine(N U).mono ?_;rintro(B|B) r
  ·exact r
  exact r
 simp only[ay Q,beq_self_eq_true,cond_true,a4,ce,aG];obtain⟨d4,d5⟩:=CL (x:=i) (y:=j) ⟨L,a0⟩ d0;have fz:=xL (x:=b) (y:=e0) ⟨o,U⟩ z;rw[d4,aG];simp only[lv,eL (U:n<d.length),aG,ci,d5];rw[bV (x:=e0) U U,bV (x:=b*e0) U U];by_cases R:b*e0>4294967296*i+j
 ·simp only[aA R,cond_true,aG];refine(N (ap b o (by rw[<-M];omega))).mono ?_;rintro(B|B) r
  ·exact r
  exact r
 simp only[ay R,cond_false,aG];exact ac.af.2 ⟨b,rfl,o,U,a3,O b o U (by rw[<-M];omega)⟩
def Yq {j r:ac8} (W:aN d) (X:aN f) (cv:d.length<f.length) (co:f.length<=100000000) (V:0<=a/\a<4294967296) (R:∀g e b,b.length=f.length->aN b->(∀(Q:d.length<b.length) (m:d.length<f.length),b[d.length]=f[d.length])->0<=g->g<4294967296->0<=e->e<=1->ae b-aI d.length*(g+e)=ae f-a*ae d->s ((j.length,j.length+f.length),g,e,j++(b++r),())):ac (loop (σ:=(c2×Int×Int×Int×aM×Unit)) (ρ:=(c2×Int×Int×aM×Unit)) (λ(k,p,t,o,q,_)=>
 bif decide (o<ar d) then
 (ax d o).bind λz=>
 (da IntKind.u64 (aJ (aJ (a*aJ z)+p)) 32).bind λa0=>
 (bk (k.2-k.1) o).bind λad=>
 (bd q (k.1+ad) λO=>some O).bind λK=>
 (bk (k.2-k.1) o).bind λG=>
 (bd q (k.1+G) λ_=>some (q.set (k.1+G) (bX (dc IntKind.u64 (aJ (aJ (aJ K-dc IntKind.u64 (aJ (aJ (a*aJ z)+p)) 4294967295)-t)) 4294967295)))).bind λa4=>
 (da IntKind.u64 (aJ (aJ (aJ K-dc IntKind.u64 (aJ (aJ (a*aJ z)+p)) 4294967295)-t)) 32).bind λa3=>
 some (.inl (k,a0,dc IntKind.u64 a3 1,aQ o,a4,())) else
 some (.inr (k,p,t,q,()))) ((j.length,j.length+f.length),0,0,0,j++(f++r),())) s:=by
 refine ac.steps d.length (λc ap=>∃g e b,ap=((j.length,j.length+f.length),g,e,(c:Int),j++(b++r),())/\b.length=f.length/\aN b/\(∀l,c<=l->(Q:l<b.length)->(m:l<f.length)->b[l]=f[l])/\0<=g/\g<4294967296/\0<=e/\e<=1/\ae b-aI c*(g+e)=ae f-a*ae (d.take c)) ⟨0,0,f,rfl,rfl,X,λ_ _ _ _=>rfl,U,U,U,U,by simp[ae]⟩ ?_ ?_
 ·rintro c _ y ⟨g,e,b,rfl,u,m,v,A,B,C,D,w⟩;have Y:=W.get y;have dl:=m.get (n:=c) U;have cs:=xL V Y;obtain⟨i,T,H,I⟩:∃i,i=a*d[c]+g/\0<=i/\i<18446744073709551616:=⟨_,rfl,U,U⟩;simp only[aA (show(c:Int)<ar d by simp only[aV];omega),cond_true,bL y,aG];have al:aJ (aJ (a*aJ d[c])+g)=i:=by
   rw[bV (x:=d[c]) U U,bV (x:=a*d[c]) U U,<-T,bV H I]
  rw[al];obtain⟨h,S,bs,ce⟩:∃h,h=b[c]-i %4294967296-e/\-4294967296<=h/\h<4294967296:=⟨_,rfl,U,U⟩;have N:aJ (aJ (aJ b[c]-dc IntKind.u64 i 4294967295)-e)=h %18446744073709551616:=(by rw[and_low32 H I,j6,j6,j6,S];omega);have aw:h %18446744073709551616/4294967296 %2^1=-(h/4294967296):=(by rw[show(2:Int)^1=2 from rfl];omega);have an:h %18446744073709551616 %4294967296=h %4294967296:=U;simp only[lh,lv,eL (U:c<f.length),aG,oY (U:c<b.length),N,pw (U:0<=h %18446744073709551616) U,yp (U:c<b.length)];rw[qb 1 U U 1 aa aa,aw,an];refine ac.af.2 ⟨i/4294967296,-(h/4294967296),b.set c (h %4294967296),by rw[bi U],by simp[u],m.set U U,?_,U,U,U,U,?_⟩
  ·intro l E F Z;rw[ry U];exact v l U U Z
  rw[kM U,fY,fV y];have ci:=hb h 4294967296;have f2:=hb i 4294967296;generalize h/4294967296=L at*;generalize h %4294967296=M at*;generalize i/4294967296=am at*;generalize i %4294967296=J at*;generalize b[c]=av at*;have P:J=a*d[c]+g-4294967296*am:=U;generalize d[c]=bl at*;have f4:M=av-J-e-4294967296*L:=U;rw[f4,P];grind
 rintro _ ⟨g,e,b,rfl,u,m,v,A,B,C,D,w⟩;simp only[ay (show¬((d.length:Int)<ar d) by simp only[aV];omega),cond_false];rw[c8 (a6 _)] at w;exact ac.af.2 (R g e b u m (λE F=>v _ (a6 _) E F) A B C D w)
def OY {g m:ac8} (L:aN d) (M:aN f) (W:d.length<f.length) (V:f.length<=100000000) (J:∀c a,a.length=f.length->aN a->(∀(I:d.length<a.length) (j:d.length<f.length),a[d.length]=f[d.length])->0<=c->c<=1->ae a+aI d.length*c=ae f+ae d->u ((g.length,g.length+f.length),c,g++(a++m),())):ac (loop (σ:=(c2×Int×Int×aM×Unit)) (ρ:=(c2×Int×aM×Unit)) (λ(h,o,k,l,_)=>
 bif decide (k<ar d) then
 (ax d k).bind λB=>
 (bk (h.2-h.1) k).bind λO=>
 (bd l (h.1+O) λH=>some H).bind λC=>
 (bk (h.2-h.1) k).bind λz=>
 (bd l (h.1+z) λ_=>some (l.set (h.1+z) (bX (dc IntKind.u64 (aJ (aJ (aJ C+aJ B)+o)) 4294967295)))).bind λS=>
 (da IntKind.u64 (aJ (aJ (aJ C+aJ B)+o)) 32).bind λR=>
 some (.inl (h,R,aQ k,S,())) else
 some (.inr (h,o,l,()))) ((g.length,g.length+f.length),0,0,g++(f++m),())) u:=by
 refine ac.steps d.length (λb P=>∃c a,P=((g.length,g.length+f.length),c,(b:Int),g++(a++m),())/\a.length=f.length/\aN a/\(∀i,b<=i->(I:i<a.length)->(j:i<f.length)->a[i]=f[i])/\0<=c/\c<=1/\ae a+aI b*c=ae f+ae (d.take b)) ⟨0,f,rfl,rfl,M,λ_ _ _ _=>rfl,U,U,by simp[ae]⟩ ?_ ?_
 ·rintro b _ s ⟨c,a,rfl,p,j,q,t,v,r⟩;have X:=L.get s;have Y:=j.get (n:=b) U;obtain⟨e,K,A,Z⟩:∃e,e=a[b]+d[b]+c/\0<=e/\e<8589934592:=⟨_,rfl,U,U⟩;simp only[aA (show(b:Int)<ar d by simp only[aV];omega),cond_true,bL s,aG];have G:aJ (aJ (aJ a[b]+aJ d[b])+c)=e:=by
   rw[bV (x:=d[b]) U U,bV (x:=a[b]) U U,bV (x:=a[b]+d[b]) U U,<-K,bV A U]
  simp only[lh,lv,eL (U:b<f.length),aG,oY (U:b<a.length),G,pw A (U:e<18446744073709551616),yp (U:b<a.length)];refine ac.af.2 ⟨e/4294967296,a.set b (e %4294967296),by rw[bi U],by simp[p],j.set U U,?_,U,U,?_⟩
  ·intro i w y N;rw[ry U];exact q i U U N
  rw[kM U,fY,fV s];have T:=hb e 4294967296;generalize e/4294967296=E at*;generalize e %4294967296=F at*;generalize a[b]=Q at*;generalize d[b]=D at*;have f4:F=Q+D+c-4294967296*E:=U;rw[f4];grind
 rintro _ ⟨c,a,rfl,p,j,q,t,v,r⟩;simp only[ay (show¬((d.length:Int)<ar d) by simp only[aV];omega),cond_false];rw[c8 (a6 _)] at r;exact ac.af.2 (J c a p j (λw y=>q _ (a6 _) w y) t v r)
def Qk {g f b c h d:Int} (m:g+a*b=f+e) (l:f=h-c*e-a*(4294967296*-1)):g+a*(d+b-4294967296*r-d)=h-(c-1)*e+a*(4294967296*(1-r)):=by have al:a*(d+b-4294967296*r-d)=a*b-a*(4294967296*r):=(by grind);have i:(c-1)*e=c*e-e:=(by grind);have j:a*(4294967296*(1-r))=a*4294967296-a*(4294967296*r):=(by grind);have k:a*(4294967296*-1)=-(a*4294967296):=(by grind);omega
def Ql {d h g f c b:Int} (i:d-a*(r+e)=f-h*g):d+a*(c-r-e-4294967296*b-c)=f-h*g-a*(4294967296*b):=by have al:a*(c-r-e-4294967296*b-c)=-(a*(r+e))-a*(4294967296*b):=(by grind);omega
def ac.bs {c:Option n} {b:n->Option q} {a:q->Prop} {y:n} (d:c=some y) (e:ac (b y) a):ac (c.bind b) a:=by rw[d];exact e
def Qm {A C:ac8} {n:Nat} (i:vG d f n):ac (wE ((A++(f++C),A.length,A.length+f.length),d,())) (λq=>∃b,q=(A++(b++C),ae f/ae d,())/\b.length=f.length/\aN b/\ae b=ae f %ae d):=by
 have H:=i.rk;have ds:=i.wn;have fn:=i.KL;have k:=i.NJ;have av:=dw i.hw;have fs:=i.top;have Q:=i.hv.get (n:=n+1) U;have O:=i.hw.get (n:=n+2) U;have cv:=i.hw.get (n:=n+1) U;have D:ar d=((n+2:Nat):Int):=(by simp only[aV];omega);have al:aq (((n+2:Nat):Int)-1)=((n+1:Nat):Int):=(by rw[be U U];omega);have an:ax d ((n+1:Nat):Int)=some d[n+1]:=bL U;obtain⟨d0,ad⟩:=CL (x:=f[n+2]) (y:=f[n+1]) O cv;obtain⟨d1,d2⟩:=Cl (x:=4294967296*f[n+2]+f[n+1]) (y:=d[n+1]) ⟨U,U⟩ U;unfold wE;have m:bk (A.length+f.length-A.length) (ar d)=some (n+2):=(by rw[lv,D];exact eL U);have i1:bk (A.length+f.length-A.length) (aq (ar d-1))=some (n+1):=(by rw[lv,D,al];exact eL U);have R:ax d (aq (ar d-1))=some d[n+1]:=(by rw[D,al];exact an);refine ac.bs m (ac.bs (oY U _) (ac.bs (by rw[bV O.1 U];exact d0) (ac.bs i1 (ac.bs (oY U _) (ac.bs R (ac.bs (by rw[ad,bV Q.1 U];exact d1) (ac.bs R (ac.bs (by rw[ad,bV Q.1 U];exact d2) ?_))))))));refine ac.aU (QN i rfl rfl) ?_;rintro _ ⟨g,rfl,Z,aw,f0,f1⟩;refine ac.aU (P:=λq=>∃e j b,q=((A.length,A.length+f.length),e,j,A++(b++C),())/\b.length=f.length/\aN b/\0<=e/\e<4294967296/\0<=j/\j<=1/\(∀(i:d.length<b.length) (L:d.length<f.length),b[d.length]=f[d.length])/\ae b-aI d.length*(e+j)=ae f-g*ae d) (Yq i.hv i.hw U U ⟨Z,aw⟩ λe j b p v T V W X Y w=>⟨e,j,b,rfl,p,v,V,W,X,Y,T,w⟩) ?_;rintro _ ⟨e,j,b,rfl,p,v,V,W,X,Y,T,w⟩;have ft:=v.get (n:=n+2) U;obtain⟨c,a0,d5,d6⟩:∃c,c=b[n+2]-e-j/\-4294967296<=c/\c<4294967296:=⟨_,rfl,U,U⟩;have K:aJ (aJ (aJ b[n+2]-e)-j)=c %18446744073709551616:=(by rw[j6,j6,j6,a0];omega);have d3:c %18446744073709551616/4294967296 %2^1=-(c/4294967296):=(by rw[show(2:Int)^1=2 from rfl];omega);have d4:c %18446744073709551616 %4294967296=c %4294967296:=U;refine ac.bs m (ac.bs (oY U _) (ac.bs m (ac.bs (y:=A++(b.set (n+2) (c %4294967296)++C)) ?_ (ac.bs (y:=c %18446744073709551616/4294967296) ?_ ?_))))
 ·rw[oY U,K,pw U U,yp U,d4]
 ·rw[K,lh]
 rw[qb 1 U U 1 aa aa,d3];have ek:=dQ (n+2);have co:ae (b.set (n+2) (c %4294967296))=ae b+aI (n+2)*(c %4294967296-b[n+2]):=kM U _;have r:aN (b.set (n+2) (c %4294967296)):=v.set U U;rw[H] at w;have d7:=hb c 4294967296;have s:ae (b.set (n+2) (c %4294967296))=ae f-g*ae d-aI (n+2)*(4294967296*(c/4294967296)):=(by rw[co];generalize c/4294967296=z at*;generalize c %4294967296=B at*;have:B=b[n+2]-e-j-4294967296*z:=U;rw[this];exact Ql w);have bl:=fb r;have el:=dw r;rw[rz,p,ds,(U:n+3=(n+2)+1),fY] at bl;have M:=hb (ae f) (ae d);have eq:=l1 (ae f) (U:ae d≠0);have ex:=nI (ae f) k;rw[dO,bj];refine ac.ite (λam=>?_) λam=>?_
 ·have F:c/4294967296=0:=U;rw[F] at s;have l:ae f/ae d=g:=by
   have E:g*ae d<=ae f:=U;have L:g<=ae f/ae d:=(Int.le_ediv_iff_mul_le k).2 E;omega
  rw[bb (by simp;omega),jv Z aw];refine ac.af.2 ⟨_,by rw[l],by simp[p],r,?_⟩;rw[s];rw[l] at M;rw[gV g];omega
 have F:c/4294967296=-1:=U;rw[F] at s;have l:ae f/ae d=g-1:=(by have E:ae f<g*ae d:=U;have L:ae f/ae d<g:=oM k E;have d8:(g-1)*ae d<ae f+1:=(by have:(g-1)*ae d=g*ae d-ae d:=(by grind);omega);have d9:g-1<=ae f/ae d:=(Int.le_ediv_iff_mul_le k).2 U;omega);have fp:=kp av (dM k);have G:(b.set (n+2) (c %4294967296)).length=f.length:=(by simp[p]);rw[<-G];refine ac.aU (P:=λq=>∃e a,q=((A.length,A.length+(b.set (n+2) (c %4294967296)).length),e,A++(a++C),())/\a.length=f.length/\aN a/\0<=e/\e<=1/\ae a+aI d.length*e=ae (b.set (n+2) (c %4294967296))+ae d) (OY i.hv r U U λe a I o fT J S u=>⟨e,a,rfl,by rw[I,G],o,J,S,u⟩) ?_;rintro _ ⟨h,a,rfl,I,o,J,S,u⟩;rw[G];have fz:=o.get (n:=n+2) U;refine ac.bs m (ac.bs (oY U _) (ac.bs m (ac.bs (y:=A++(a.set (n+2) ((a[n+2]+h) %4294967296)++C)) ?_ ?_)))
 ·rw[oY U,yp U,jv J U,nE]
 rw[bb (by simp;omega),bV U U,jv U U];refine ac.af.2 ⟨a.set (n+2) ((a[n+2]+h) %4294967296),by rw[l],by simp[I],o.set U U,?_⟩;have cs:ae (a.set (n+2) ((a[n+2]+h) %4294967296))=ae a+aI (n+2)*((a[n+2]+h) %4294967296-a[n+2]):=kM U _;have N:aN (a.set (n+2) ((a[n+2]+h) %4294967296)):=o.set U U;have ce:=fb N;have em:=dw N;have a4:(a.set (n+2) ((a[n+2]+h) %4294967296)).length=(n+2)+1:=(by rw[rz];omega);rw[a4,fY] at ce;have f2:=hb (a[n+2]+h) 4294967296;rw[H] at u;have t:ae (a.set (n+2) ((a[n+2]+h) %4294967296))=ae f-(g-1)*ae d+aI (n+2)*(4294967296*(1-(a[n+2]+h)/4294967296)):=(by rw[cs];generalize(a[n+2]+h)/4294967296=z at*;generalize(a[n+2]+h) %4294967296=B at*;have:B=a[n+2]+h-4294967296*z:=U;rw[this];exact Qk u s);rw[l] at M;have a3:ae f-(g-1)*ae d=ae f %ae d:=(by rw[gV (g-1)];omega);rw[a3] at t;have dl:=fb i.hv;rw[H] at dl;have ci:(a[n+2]+h)/4294967296=1:=by
  rcases gC 0 ((a[n+2]+h)/4294967296) with ap|ap
  ·omega
  exfalso;have:(a[n+2]+h)/4294967296=0:=U;rw[this] at t;omega
 rw[ci] at t;rw[t];simp
def sl (b:0<=a):ae (bK a.toNat)=a:=by rw[jP];omega
def Tp {n:Nat} (f:aN d) (m:dp d) (u:d.length=n+2):∃c:Nat,c<=31/\r2 (d[n+1],())=some ((c:Int),())/\ae d*2^c<aI (n+2)/\2147483648*aI (n+1)<=ae d*2^c:=by
 have l:=f.get (n:=n+1) U;have q:d[n+1]≠0:=m _ (by rw[List.getLast?_eq_getElem?,a9 U];congr 2;omega);have h:ae d=ae (d.take (n+1))+aI (n+1)*d[n+1]:=(by rw[<-fV U,c8 U]);have r:=dw (f.take (n+1));have j:=fb (f.take (n+1));rw[dS,fr U] at j;generalize d[n+1]=v at*;obtain⟨a,rfl⟩:=eE l.1;have i:0<a:=U;have t:az a<=32:=de.2 U;have s:=n8 i;obtain⟨g,o⟩:=tR i;obtain⟨b,k⟩:∃b,az a=b+1:=⟨az a-1,U⟩;refine⟨32-az a,U,?_,?_,?_⟩
 ·unfold r2;refine ak (E3 (n:=a) U) ?_;show some (aq (32-(az a:Int)),())=_;rw[be U U];congr 2;omega
 ·have al:ae d<aI (n+1)*2^az a:=by
   have:aI (n+1)*((a:Int)+1)<=aI (n+1)*2^az a:=hW (by rw[<-iD];omega) (dM (dQ _));have p:aI (n+1)*((a:Int)+1)=aI (n+1)*(a:Int)+aI (n+1):=(by rw[Int.mul_add,Int.mul_one]);show ae d<_;rw[h];show ae (d.take (n+1))+aI (n+1)*(a:Int)<_;omega
  have e:ae d*2^(32-az a)<aI (n+1)*2^az a*2^(32-az a):=pZ al (h7 _);rw[i9,<-ja,(U:az a+(32-az a)=32)] at e;rw[fY,gV];rw[gV];have:aI (n+1)*2^32=4294967296*aI (n+1):=(by rw[gV];rfl);omega
 have al:aI (n+1)*2^b<=ae d:=(by have:aI (n+1)*2^b<=aI (n+1)*(a:Int):=hW (by rw[<-iD];rw[k] at g;simp only[tE] at g;omega) (dM (dQ _));rw[h];show _<=ae (d.take (n+1))+aI (n+1)*(a:Int);omega);have e:aI (n+1)*2^b*2^(32-az a)<=ae d*2^(32-az a):=kq al (dM (h7 _));rw[i9,<-ja,(U:b+(32-az a)=31)] at e;have:aI (n+1)*2^31=2147483648*aI (n+1):=(by rw[gV];rfl);omega
def Qo (g:ae d=a) (e:aN d) (l:dp d) (q:a<aI (b+2)) (r:2147483648*aI (b+1)<=a):∃c:d.length=b+2,2147483648<=d[b+1]:=by
 have t:=dQ (b+1);have k:d.length=b+2:=by
  have o:=fb e;have h:d≠[]:=λi=>(by rw[i] at g;simp only[ae] at g;omega);have p:=dp.low e l h;rcases l6 d.length (b+2) with c|c|c
  ·have:=nu (m:=d.length) (n:=b+1) U;omega
  ·exact c
  have:=nu (m:=b+2) (n:=d.length-1) U;omega
 refine⟨k,?_⟩;have s:ae d=ae (d.take (b+1))+aI (b+1)*d[b+1]:=(by rw[<-fV U,c8 U]);have j:=fb (e.take (b+1));rw[dS,fr U] at j;rcases gC d[b+1] 2147483648 with f|f
 ·exfalso;have:aI (b+1)*(d[b+1]+1)<=aI (b+1)*2147483648:=hW U U;rw[Int.mul_add,Int.mul_one] at this;omega
 exact f
def II {g c h f d b:Int} (k:(f+a*(h+b))+e*c=g) (i:h=e*r+d):(f+a*(d+b))+e*(c+a*(r-0))=g:=by subst i;have al:a*(e*r+d+b)=a*(d+b)+a*(e*r):=(by grind);have j:e*(c+a*(r-0))=e*c+a*(e*r):=(by grind);omega
def Qn {n:Nat} (z:aN d) (J:ae d=a) (d6:a<aI (n+2)) (L:d.length=n+2) (ap:2147483648<=d[n+1]) (ce:n<=10000000) (av:aN f) (Y:ae f=e) (W:f.length=c) (em:c=b+(n+2)) (d5:c<=10000000) (ad:ae (f.drop b)<a) {H:h2->Prop} (X:∀i h,i.length=b->aN i->h.length=c->aN h->ae h+a*ae i=e->ae h<a->H (i,h,())):ac (loop (σ:=(Int×aM×aM×Unit)) (ρ:=h2) (λ(r,P,u,_)=>
 bif decide (r>=0) then
 ((e9 r).bind λM=>(e9 (aQ (aq (r+ar d)))).bind λN=>(fy M N u.length).bind λ_=>(sV u.length).map λ_=>(M,N)).bind λt=>
  bif Nat.blt t.1 t.2 then
 (wE ((u,t.1,t.2),d,())).bind λ(bs,ci,_)=>
 wr P r ci λds=>
 some (.inl (aq (r-1),ds,bs,())) else none else
 some (.inr (P,u,()))) (aq (ar (List.replicate b (0:Int))-1),List.replicate b (0:Int),f,())) H:=by
 have K:0<a:=(by have o:=CV L;have q:=dw (z.take n);have d1:=z.get (n:=n) U;have d2:0<(d[n+1]*4294967296+d[n])*aI n:=nJ U (dQ n);omega);refine ac.steps b (λl co=>∃i h,co=(((b:Nat):Int)-1-l,i,h,())/\i.length=b/\aN i/\(∀g,g<b-l->(Z:g<i.length)->i[g]=0)/\h.length=c/\aN h/\ae h+a*ae i=e/\ae (h.drop (b-l))<a) ⟨List.replicate b 0,f,?_,ab,aN.j8 _,ab,W,av,by rw[nD,Y];omega,ad⟩ ?_ ?_
 ·rw[show aq (ar (List.replicate b (0:Int))-1)=(b:Int)-1-((0:Nat):Int) from ?_];simp only[aV,mR];rw[be U U];omega
 ·rintro l _ ek ⟨i,h,rfl,aw,E,F,G,p,o,q⟩;obtain⟨g,Z⟩:∃g,b=g+1+l:=⟨b-1-l,U⟩;have al:((b:Nat):Int)-1-(l:Int)=(g:Int):=U;rw[(U:b-l=g+1)] at q;have R:aQ (aq ((g:Int)+ar d))=((g+(n+3):Nat):Int):=by
   simp only[aV];rw[be U U,(U:(g:Int)+(d.length:Int)=((g+(n+2):Nat):Int)),bi U];rfl
  simp only[al,aA (U:(g:Int)>=0),cond_true,R,q0,aG,sA (U:g<=g+(n+3)/\g+(n+3)<=h.length),F2 (U:0<h.length),fd,show Nat.blt g (g+(n+3))=true from by simp];obtain⟨m,v⟩:∃m,m=h.take g:=⟨_,rfl⟩;obtain⟨j,B⟩:∃j,j=(h.drop g).take (n+3):=⟨_,rfl⟩;obtain⟨k,x⟩:∃k,k=h.drop (g+(n+3)):=⟨_,rfl⟩;have w:m.length=g:=(by rw[v,dS];omega);have s:j.length=n+3:=(by rw[B,dS,ka];omega);have y:h=m++(j++k):=(by rw[v,B,x,<-nN,ku,ku]);have d3:k.length=c-(g+(n+3)):=(by rw[x,ka,G]);have bl:aN m:=(by rw[v];exact p.take g);have D:aN j:=(by rw[B];exact(p.drop g).take _);have O:aN k:=(by rw[x];exact p.drop _);have d7:ae (h.drop g)=ae j+aI (n+3)*ae k:=(by rw[y,oN U,oO U,fi,j4,s]);have d8:ae (h.drop g)=h[g]+4294967296*ae (h.drop (g+1)):=j5 U;have ex:=p.get (n:=g) U;have T:=dw O;have d4:0<=aI (n+3)*ae k:=ll (dM (dQ _)) T;have el:ae (h.drop g)<4294967296*a:=U;have V:ae k=0:=by
   rcases gC 0 (ae k) with S|S
   ·exfalso;have:=hW (U:1<=ae k) (dM (dQ (n+3)));have d0:aI (n+3)=4294967296*aI (n+2):=fY (n+2);have:=dw D;omega
   omega
  have Q:vG d j n:=⟨z,D,L,s,ce,ap,by rw[J];omega⟩;have am:0<=ae j/a:=Int.ediv_nonneg (dw D) U;have an:ae j/a<4294967296:=Int.ediv_lt_of_lt_mul K U;have d9:=Int.emod_add_mul_ediv (ae j) a;have eq:=Int.emod_lt_of_pos (ae j) K;have I:=Qm (A:=m) (C:=k) Q;rw[<-y,w,s,J] at I;refine ac.aU I ?_;rintro _ ⟨cs,rfl,cv,dl,bX⟩;dsimp only;rw[i6 U];refine ac.af.2 ⟨i.set g (ae j/a),m++(cs++k),?_,by simp[aw],E.set am an,?_,by simp;omega,aN.append.2 ⟨bl,aN.append.2 ⟨dl,O⟩⟩,?_,?_⟩
  ·rw[be U U];congr 1;omega
  ·intro a3 fn a4;rw[ry U];exact F a3 U (by simpa using a4)
  ·rw[kM U,F g U U,j4,j4,w,bX];rw[y,j4,j4,w] at o;rw[cv];rw[s] at o;have a0:ae j=a*(ae j/a)+ae j %a:=U;exact II o a0
  rw[(U:b-(l+1)=g),oN U,oO U,fi,j4,V,bX];omega
 rintro _ ⟨i,h,rfl,aw,E,F,G,p,o,q⟩;have al:¬(((b:Nat):Int)-1-(b:Int)>=0):=U;simp only[ay al,cond_false];rw[Nat.sub_self,kS] at q;exact ac.af.2 (X i h aw E G p o q)
def Cm {A B q r:Int} (f:0<B) (b:A=B*q+r) (c:0<=r) (d:r<B):A/B=q/\A %B=r:=by have e:=hb A B;have a:A/B=q:=(by rw[b,Int.mul_add_ediv_left _ _ U,nH c d];omega);refine⟨a,?_⟩;rw[a] at e;omega
def IK (l:aN d) (p:aN f) (W:dp d) (F:dp f) (fp:d.length<=1000000) (fs:f.length<=1000000) (N:f≠[]):wF (d,f,())=some (bK (ae d/ae f).toNat,bK (ae d %ae f).toNat,()):=by
 unfold wF;refine ac.eq_iff.1 ?_;have K:=dw l;have I:0<ae f:=(by have:=dw p;have:ae f≠0:=λY=>N (dp.zero p F Y);omega);refine ac.bs (zr l p W F U U) ?_;dsimp only;rw[bj];refine ac.ite (λt=>?_) λt=>?_
 ·have C:ae d<ae f:=by
   unfold dx at t;split at t
   ·assumption
   split at t<;>omega
  refine ac.bs (wb U) (ac.af.2 ?_);rw[nH K C,pY K C];show(([]:ac8),d,())=(bK 0,bK (ae d).toNat,());rw[Ei,<-dp.eq l W]
 have em:ae f<=ae d:=by
  unfold dx at t;split at t
  ·omega
  omega
 rw[dO,bj];refine ac.ite (λh=>?_) λh=>?_
 ·have h:f.length=1:=(by simp only[aV] at h;omega);obtain⟨o,rfl⟩:=List.length_eq_one_iff.1 h;have ce:=(aN.cons.1 p).1;have u:ae [o]=o:=(by simp[ae]);rw[u] at I|-;have d3:0<=ae d %o:=Int.emod_nonneg _ U;have fn:ae d %o<o:=Int.emod_lt_of_pos _ I;refine ac.bs (y:=o) rfl (ac.bs (X0 l U U ce.2) ?_);dsimp only;refine ac.bs (mL (aN.cons.2 ⟨⟨d3,U⟩,aN.nil⟩) ab) (ac.af.2 ?_);show(_,fD [ae d %o],())=_;rw[fD];simp[ae]
 obtain⟨b,co⟩:∃b,f.length=b+2:=(by have:=yQ.2 N;simp only[aV] at h;exact⟨f.length-2,U⟩);have al:aq (ar f-1)=((b+1:Nat):Int):=(by simp only[aV];rw[be U U];omega);obtain⟨a,T,d5,V,d6⟩:=Tp p F co;have ex:b+2<=d.length:=by
  rcases bn d.length (b+2) with j|j
  ·have:=oH l p F U;omega
  exact j
 have D:=h7 a;refine ac.bs (y:=f[b+1]) (by rw[al];exact bL U) (ac.bs d5 ?_);refine ac.bs (CP p U U) ?_;obtain⟨s,u⟩:∃s,s=bK (ae f*2^a).toNat:=⟨_,rfl⟩;have a0:0<=ae f*2^a:=Int.mul_nonneg U U;have M:ae s=ae f*2^a:=(by rw[u,sl a0]);have bf:aN s:=(by rw[u];exact ix _);have d7:dp s:=(by rw[u];exact mq _);obtain⟨d0,cs⟩:=Qo M bf d7 V d6;rw[<-u];have Z:aQ (ar d)=((d.length+1:Nat):Int):=bi U;refine ac.bs (y:=d.length+1) (by rw[Z];exact gA U) ?_;refine ac.bs (CP l U U) ?_;have av:0<=ae d*2^a:=Int.mul_nonneg U U;have el:ae d*2^a<aI (d.length+1):=(by have w:ae d*2^a<aI d.length*2^a:=Int.mul_lt_mul_of_pos_right (fb l) D;have x:aI d.length*2^a<=aI d.length*4294967296:=Int.mul_le_mul_of_nonneg_left (by have:=sX T;omega) (Int.le_of_lt (dQ _));rw[fY,Int.mul_comm 4294967296];omega);obtain⟨m,E⟩:∃m,m=bK (ae d*2^a).toNat:=⟨_,rfl⟩;have R:m.length<=d.length+1:=(by rw[E];exact pj U);have d2:aN m:=(by rw[E];exact ix _);have d1:ae m=ae d*2^a:=(by rw[E,sl av]);rw[<-E];obtain⟨i,O⟩:∃i,i=hL (List.replicate (d.length+1) (0:Int)) m 0 (List.replicate (d.length+1) (0:Int)).length:=⟨_,rfl⟩;have J:i=m++List.replicate (d.length+1-m.length) 0:=(by rw[O];unfold hL;rw[List.take_zero,List.nil_append,List.length_replicate,Nat.sub_zero,List.take_of_length_le R,Nat.zero_add,Nat.min_eq_left R,List.drop_replicate]);have dl:i.length=d.length+1:=(by rw[J];simp;omega);have S:aN i:=(by rw[J];exact aN.append.2 ⟨d2,aN.j8 _⟩);have Q:ae i=ae d*2^a:=(by rw[J,j4,nD,d1];omega);dsimp only;rw[<-O];obtain⟨g,ci⟩:∃g,d.length+1=g+(b+2):=⟨d.length+1-(b+2),U⟩;have ad:aq (ar i-ar s)=((g:Nat):Int):=(by simp only[aV];rw[be U U];omega);refine ac.bs (y:=g) (by rw[ad];exact gA U) ?_;have C:ae (i.drop g)<ae f*2^a:=(by have h:=mN i g U;have w:=dw (S.take g);rw[Q] at h;have x:ae d*2^a<aI d.length*2^a:=Int.mul_lt_mul_of_pos_right (fb l) D;have H:aI d.length=aI g*aI (b+1):=(by rw[<-ro];congr 1;omega);have v:aI g*ae (i.drop g)<aI g*(aI (b+1)*2^a):=(by rw[<-Int.mul_assoc,<-H];omega);have z:=Int.lt_of_mul_lt_mul_left v (Int.le_of_lt (dQ g));have ek:aI (b+1)*2^a<=aI (b+1)*2147483648:=Int.mul_le_mul_of_nonneg_left (sX T) (Int.le_of_lt (dQ _));omega);refine ac.aU (P:=λX=>∃c e,X=(c,e,())/\c.length=g/\aN c/\e.length=d.length+1/\aN e/\ae e+ae f*2^a*ae c=ae d*2^a/\ae e<ae f*2^a) (Qn bf M V d0 cs U S Q dl ci U C λc e h w x H v z=>⟨c,e,rfl,h,w,x,H,v,z⟩) ?_;rintro _ ⟨c,e,rfl,aw,d4,ft,G,v,z⟩;have am:ar s=((b+2:Nat):Int):=(by simp only[aV];omega);dsimp only;rw[am];refine ac.bs (CA U) ?_;have cv:=dw G;have ds:ae (e.take (b+2))=ae e:=by
  have h:=mN e (b+2) U;have w:=dw (G.drop (b+2));have x:=dw (G.take (b+2));rcases gC 0 (ae (e.drop (b+2))) with j|j
  ·exfalso;have:=hW (U:1<=ae (e.drop (b+2))) (dM (dQ (b+2)));omega
  rw[(U:ae (e.drop (b+2))=0)] at h;omega
 have L:ae e=2^a*(ae d-ae f*ae c):=(by have d8:ae f*2^a*ae c=2^a*(ae f*ae c):=(by grind);have d9:2^a*(ae d-ae f*ae c)=2^a*ae d-2^a*(ae f*ae c):=Int.mul_sub ..;rw[gV (ae d)] at v;omega);have a3:0<=ae d-ae f*ae c:=by
  rcases gC (ae d-ae f*ae c) 0 with j|j
  ·have:=Int.mul_neg_of_pos_of_neg D j;omega
  exact j
 have a4:ae d-ae f*ae c<ae f:=(by have:2^a*(ae d-ae f*ae c)<2^a*ae f:=(by rw[<-L,Int.mul_comm (2^a)];exact z);exact Int.lt_of_mul_lt_mul_left this (Int.le_of_lt D));have bl:ae e/2^a=ae d-ae f*ae c:=(by rw[L];exact Int.mul_ediv_cancel_left _ U);obtain⟨ap,f2⟩:=Cm (A:=ae d) (B:=ae f) (q:=ae c) (r:=ae d-ae f*ae c) I U a3 a4;refine ac.bs (mL ((G.take _).drop _) (by simp;omega)) ?_;have an:fD (List.drop 0 (e.take (b+2)))=bK (ae e).toNat:=(by rw[List.drop_zero,fD,ds]);dsimp only;rw[an];refine ac.bs (Ec (ix _) (mq _) ?_ U) ?_
 ·have:=pj (n:=(ae e).toNat) (k:=b+2) U;omega
 dsimp only;refine ac.bs (mL d4 U) (ac.af.2 ?_);show(fD c,_,())=_;rw[sl cv,bl,ap,f2,fD]
def qB (a:Nat):bK (a:Int).toNat=bK a:=by rw[bY]
def QA (c:0<b):bK b≠[]:=λa=>by have:=Eg.1 a;omega
def m6 {n k:Nat} (a:az n<=32*k):(bK n).length<=k:=by refine pj ?_;have:=de.1 a;rw[oL,<-iD];omega
def KJ (i:0<b) (j:c*c<=g):c<=(b+g/b)/2:=by
 rw[yT aa];rcases bn (c*2) b with e|e
 ·exact db (Nat.le_of_lt e) (Nat.le_add_right _ _)
 have k:c*2-b<=g/b:=by
  rw[yT i];obtain⟨a,f⟩:∃a,c*2=b+a:=⟨c*2-b,U⟩;rw[f,lv];have l:4*(c*c)=(b+a)*(b+a):=(by rw[<-f];grind);have m:(b+a)*(b+a)=b*b+2*(a*b)+a*a:=(by grind);rcases Nat.le_total b a with h|h
  ·obtain⟨d,rfl⟩:∃d,a=b+d:=⟨a-b,U⟩;have:(b+d)*(b+d)=b*b+2*(b*d)+d*d:=(by grind);have:(b+d)*b=b*b+b*d:=(by grind);omega
  obtain⟨d,rfl⟩:∃d,b=a+d:=⟨b-a,U⟩;have:(a+d)*(a+d)=a*a+2*(a*d)+d*d:=(by grind);have:a*(a+d)=a*a+a*d:=(by grind);omega
 omega
def KK (d:0<b) (e:b<=(b+c/b)/2):b*b<=c:=by have a:b<=c/b:=U;rwa[yT d] at a
def ql:dx a e>=0↔e<=a:=by
 unfold dx;split
 ·omega
 split<;>omega
def Ik:dx a e<0↔a<e:=by
 unfold dx;split
 ·omega
 split<;>omega
def Xx (m:az b<=2000000):z2 (bK b,())=some (bK (bz b),()):=by
 unfold z2;refine ac.eq_iff.1 ?_;dsimp only;rw[pv,bj];refine ac.ite (λe=>?_) λe=>?_
 ·have:=Eg.1 e;subst this;exact ac.af.2 rfl
 have v:0<b:=by
  rcases h0 b with d|d
  ·subst d;exact absurd rfl e
  exact d
 have x:(bK b).length<=62500:=m6 U;obtain⟨h,r⟩:=pt b;have z:0<bz b:=by
  rcases h0 (bz b) with d|d
  ·rw[d] at r;omega
  exact d
 refine ac.bs (E4 (ix b) (mq b) U) ?_;rw[jP,bY];have al:gk IntKind.i64 (aQ (az b:Int)) 2=some (((az b+1)/2:Nat):Int):=(by unfold gk;rw[bi U,aj aa,vJ U,wrap64 U U];simp);refine ac.bs al ?_;refine ac.bs (CP (a:=[1]) (aN.cons.2 ⟨aa,aN.nil⟩) ab U) ?_;have i:(ae [1]*2^((az b+1)/2)).toNat=2^((az b+1)/2):=(by rw[show ae [1]=1 from by simp[ae],Int.one_mul,<-iD,bY]);rw[i];refine ac.aU (P:=λq=>q=(bK (bz b),())) ?_ (by rintro _ rfl;exact ac.af.2 rfl);refine ac.loop (λg=>∃c,g=(bK c,())/\bz b<=c/\az c<=3000000) (λg=>(ae g.1).toNat) ⟨_,rfl,?_,?_⟩ ?_
 ·refine CD h ?_;have k:=de.1 (a6 (az b));have l:2^az b<=2^((az b+1)/2)*2^((az b+1)/2):=by
   rw[<-gW];exact nW aa U
  have t:=iu (Nat.le_add_right (2^((az b+1)/2)) 1) (Nat.le_add_right (2^((az b+1)/2)) 1);omega
 ·rw[de];exact x2 _ 3000000 U
 rintro _ ⟨c,rfl,D,s⟩;have f:0<c:=U;have B:(bK c).length<=93750:=m6 U;dsimp only;refine ac.bs (IK (ix b) (ix c) (mq b) (mq c) U U (QA f)) ?_;rw[jP,jP,<-Int.natCast_ediv,qB];dsimp only;have y:(bK (b/c)).length<=62500:=(by refine m6 ?_;have:b/c<=b:=Nat.div_le_self _ _;have k:=de.1 m;have:az (b/c)<=2000000:=de.2 U;omega);refine ac.bs (F1 (ix c) (ix (b/c)) U U) ?_;rw[jP,jP,<-Int.natCast_add,qB];dsimp only;have w:az (c+b/c)<=3000001:=(by refine H7 3000000 s ?_;have l:=hJ (Nat.div_le_self b c);omega);have A:(bK (c+b/c)).length<=93751:=m6 U;refine ac.bs (Ec (n:=1) (ix _) (mq _) U U) ?_;have j:(ae (bK (c+b/c))/2^1).toNat=(c+b/c)/2:=(by rw[jP,show(2:Int)^1=((2:Nat):Int) from rfl,<-Int.natCast_ediv];rfl);rw[j];dsimp only;have p:az ((c+b/c)/2)<=3000000:=(by have:=o0 (c+b/c) 1;rw[Nat.pow_one] at this;omega);have C:(bK ((c+b/c)/2)).length<=93750:=m6 U;refine ac.bs (zr (ix _) (ix c) (mq _) (mq c) U U) ?_;rw[jP,jP];dsimp only;rw[bj];refine ac.ite (λd=>?_) λd=>?_
 ·refine ac.af.2 ?_;have o:c<=(c+b/c)/2:=(by have:=ql.1 d;omega);have:=KK f o;rw[BH this (by
   have u:=iu (U:bz b+1<=c+1) (U:bz b+1<=c+1);omega)]
 refine ac.af.2 ⟨⟨(c+b/c)/2,rfl,KJ f h,p⟩,?_⟩;show(ae (bK ((c+b/c)/2))).toNat<(c:Int).toNat;rw[jP,bY,bY];have:=mt ql.2 d;omega
def yH (a:nG):Prop:=aN a.2.1/\dp a.2.1/\a.2.1.length<=100000
def fM {z:Int} (a:az z.natAbs<=3000000):yH (aL z):=⟨kB z,Bj z,m6 U⟩
def mK (a:aN d) (c:dp d) (e:d.length<=1000000):gG (d,())=some (d,()):=by have b:=dp.eq a c;rw[mL a U];show some (bK (ae d).toNat,())=_;rw[<-b]
def oZ {neg:Bool} {x:Int} (a:0<=x) (b:(bK x.toNat).length<=100000000):jN (neg,bK x.toNat,())=some (aL (if neg then-x else x),()):=by rw[tO (ix _) b];unfold e5;simp only[sl a]
def Qz {x y:Nat} {k:Nat} (a:(bK x).length<=k) (b:(bK y).length<=k):(bK (x+y)).length<=k+1:=by refine pj ?_;have c:=I2 x;have d:=I2 y;have e:=nu a;have f:=nu b;have g:=dQ k;rw[fY];omega
def yw {l:ac8} (d:aN l) (c:l.length<=b) (g:a<=ae l):(bK a.toNat).length<=b:=by refine pj ?_;have e:=fb d;have f:=nu c;have:=dQ b;omega
def Hu {a b:nG} (t:yH a) (u:yH b):qo (a,b,())=some (aL (e5 a+e5 b),()):=by
 obtain⟨i,a,_⟩:=a;obtain⟨h,b,_⟩:=b;obtain⟨c,j,r⟩:=t;obtain⟨d,k,s⟩:=u;dsimp only at c j r d k s;have y:=dw c;have z:=dw d;have aw:=fb c;have A:=fb d;have B:=nu (m:=a.length) (n:=100000) r;have C:=nu (m:=b.length) (n:=100000) s;have D:=dQ 100000;have x:∀e:Int,e<=ae a+ae b->(bK e.toNat).length<=100000001:=λe v=>(by have:(bK e.toNat).length<=100001:=(by refine pj ?_;rw[show(100001:Nat)=100000+1 from rfl,fY];generalize aI 100000=w at*;omega);omega);have q:∀e:Int,e<=ae a+ae b->(bK e.toNat).length<=100000000:=λe v=>(by have:(bK e.toNat).length<=100001:=(by refine pj ?_;rw[show(100001:Nat)=100000+1 from rfl,fY];generalize aI 100000=w at*;omega);omega);unfold qo;dsimp only;refine ak (mK c j U) (ak (mK d k U) ?_);dsimp only;cases f:(i==h) with
 |true=>
  have f:i=h:=(by simpa using f);subst f;refine ak (F1 c d U U) (ak (oZ U (q _ U)) ?_);dsimp only;congr 3;unfold e5;cases i<;>simp<;>omega
 |false=>
  have f:i=!h:=(by cases i<;>cases h<;>simp at f|-);refine ak (zr c d j k U U) ?_;dsimp only;rw[bj];split
  ·rename_i l;have p:ae b<=ae a:=ql.1 l;have o:b.length<=a.length:=by
    rcases bn a.length b.length with g|g
    ·have:=oH c d k g;omega
    exact g
   refine ak (Kk c d U o p) (ak (oZ U (q _ U)) ?_);dsimp only;congr 3;unfold e5;subst f;cases h<;>simp<;>omega
  rename_i l;have p:ae a<ae b:=Int.not_le.1 (mt ql.2 l);have o:a.length<=b.length:=by
   rcases bn b.length a.length with g|g
   ·have:=oH d c j g;omega
   exact g
  refine ak (Kk d c U o (Int.le_of_lt p)) (ak (oZ U (q _ U)) ?_);dsimp only;congr 3;unfold e5;subst f;cases h<;>simp<;>omega
def Dn {x y:Int} (a:az x.natAbs<=3000000) (b:az y.natAbs<=3000000):qo (aL x,aL y,())=some (aL (x+y),()):=by rw[Hu (fM a) (fM b),mM,mM]
def Yp {x y:Int} (d:az x.natAbs<=3000000) (e:az y.natAbs<=3000000):z1 (aL x,aL y,())=some (aL (x-y),()):=by unfold z1;have a:yH ((!(aL y).1,(aL y).2):nG):=⟨kB y,Bj y,(fM e).2.2⟩;refine ak (Hu (fM d) a) ?_;rw[mM];have b:e5 ((!(aL y).1,(aL y).2):nG)=-y:=(by have:=CT (aL y).1 (aL y).2.1;have c:=mM y;exact this.trans (congrArg _ c));rw[b];rfl
def Ky {x y:Int} (g:az x.natAbs<=3000000) (h:az y.natAbs<=3000000):wC (aL x,aL y,())=some (aL (x*y),()):=by
 unfold wC;dsimp only;obtain⟨d,i,l⟩:=fM g;obtain⟨e,j,m⟩:=fM h;refine ak (mK d i U) (ak (mK e j U) ?_);dsimp only;refine ak (YK d e U U) ?_;rw[gd,gd,<-Int.natCast_mul,qB];dsimp only;have k:(bK (x.natAbs*y.natAbs)).length<=100000000:=(by have:(bK (x.natAbs*y.natAbs)).length<=200000:=(by refine m6 ?_;have:=n7 g h;omega);omega);have f:=oZ (neg:=!((aL x).1==(aL y).1)) (x:=((x.natAbs*y.natAbs:Nat):Int)) U (by rw[qB];exact k);rw[qB] at f;refine ak f ?_;dsimp only;congr 3;show(if(!(decide (x<0)==decide (y<0)))=true then _ else _)=_;rw[Int.natCast_mul];rcases Int.lt_or_le x 0 with b|b<;>rcases Int.lt_or_le y 0 with c|c
 ·rw[aA b,aA c];have al:(x.natAbs:Int)=-x:=U;have a:(y.natAbs:Int)=-y:=U;rw[al,a];simp<;>grind
 ·rw[aA b,ay (U:¬y<0)];have al:(x.natAbs:Int)=-x:=U;have a:(y.natAbs:Int)=y:=U;rw[al,a];simp<;>grind
 ·rw[aA c,ay (U:¬x<0)];have al:(x.natAbs:Int)=x:=U;have a:(y.natAbs:Int)=-y:=U;rw[al,a];simp<;>grind
 rw[ay (U:¬y<0),ay (U:¬x<0)];have al:(x.natAbs:Int)=x:=U;have a:(y.natAbs:Int)=y:=U;rw[al,a];simp
def DD {x y:Int} (i:az x.natAbs<=900000) (l:az y.natAbs<=900000):uh (aL x,aL y,())=some (dx x y,()):=by
 obtain⟨d,e,m⟩:=fM (z:=x) U;obtain⟨f,g,n⟩:=fM (z:=y) U;unfold uh;refine ak (pM (hx U)) (ak (pM (hx U)) ?_);dsimp only;rw[bj,bj];have a:∀b:Int,b<0/\dE b=-1\/b=0/\dE b=0\/0<b/\dE b=1:=λb=>by
  unfold dE;split
  ·omega
  split<;>omega
 split
 ·rename_i o;unfold dx;rw[aj (by have:=a x;have:=a y;omega)]
 split
 ·rename_i j k;unfold dx;rw[ag (by have:=a x;have:=a y;omega),aj (by have:=a x;have:=a y;omega)]
 rename_i j k;have q:dE x=dE y:=U;refine ak (mK d e U) (ak (mK f g U) ?_);dsimp only;refine ak (zr d f e g U U) ?_;rw[gd,gd];dsimp only;have i:=a x;have l:=a y;have:dE x*dx (x.natAbs:Int) (y.natAbs:Int)=dx x y:=by
  rcases i with⟨h,c⟩|⟨h,c⟩|⟨h,c⟩<;>rw[c]
  ·unfold dx;split
   ·rw[ag U,aj U];rfl
   split
   ·rw[aj U];rfl
   rw[ag U,ag U];rfl
  ·rw[p2];unfold dx;rw[ag U,ag U]
  unfold dx;rw[Int.one_mul];split
  ·rw[aj U]
  split
  ·rw[ag U,aj U]
  rw[ag U,ag U]
 rw[this];have p:-1<=dx x y/\dx x y<=1:=by
  unfold dx;split
  ·omega
  split<;>omega
 rw[be U U]
def KC (b:Int) (a:Nat):(b.natAbs:Int)*2^a=((b.natAbs*2^a:Nat):Int):=by simp
def qg {m n:Nat}:az (m*2^n)<=az m+n:=by
 rcases h0 m with a|a
 ·subst a;simp[Ps]
 rw[k1 a];exact a6 _
def XZ (j:az a.natAbs<=1900000) (i:b<=1048576):o9 (aL a,(b:Int),())=some (aL (a*2^b),0,()):=by
 obtain⟨c,e,g⟩:=fM (z:=a) U;unfold o9;dsimp only;rw[ay (U:¬((b:Int)< -1048576)),ay (U:¬((b:Int)>1048576))];refine ak rfl (ak (mK c e U) ?_);dsimp only;rw[aA (U:(b:Int)>=0)];refine ak (CP c U U) ?_;rw[gd,KC];have h:(bK (a.natAbs*2^b)).length<=100000:=m6 (by have:=qg (m:=a.natAbs) (n:=b);omega);have f:=oZ (neg:=(aL a).1) (x:=((a.natAbs*2^b:Nat):Int)) U (by rw[qB];omega);refine ak f ?_;dsimp only;congr 3;show(if decide (a<0)=true then _ else _)=_;rw[<-KC];by_cases d:a<0
 ·rw[aj (aA d),<-Int.neg_mul];congr 1;omega
 rw[ag (by simpa using d)];congr 1;omega
def KH {m:Int} (b:0<a) (d:0<=m):-m/a=if m %a=0 then-(m/a) else-(m/a+1):=by
 have e:=hb m a;have f:=l1 m (U:a≠0);have g:=nI m b;split
 ·rename_i c;refine(Cm (A:=-m) (B:=a) (q:=-(m/a)) (r:=0) b ?_ (l3 _) b).1;rw[Int.mul_neg];omega
 rename_i c;refine(Cm (A:=-m) (B:=a) (q:=-(m/a+1)) (r:=a-m %a) b ?_ U U).1;rw[Int.mul_neg,Int.mul_add,Int.mul_one];omega
def XY (w:az a.natAbs<=1900000) (u:b<=1048576) (v:0<b):o9 (aL a,-(b:Int),())=some (aL (a/2^b),0,()):=by
 obtain⟨f,i,n⟩:=fM (z:=a) U;have q:=h7 b;unfold o9;dsimp only;rw[ay (U:¬(-(b:Int)< -1048576)),ay (U:¬(-(b:Int)>1048576))];refine ak rfl (ak (mK f i U) ?_);dsimp only;rw[ay (U:¬(-(b:Int)>=0))];have al:aq (0- -(b:Int))=(b:Int):=(by rw[be U U];omega);rw[al];refine ak (Ec f i U U) ?_;rw[gd];have r:0<=(a.natAbs:Int)/2^b:=Int.ediv_nonneg U U;have h:(a.natAbs:Int)/2^b<=a.natAbs:=Int.ediv_le_self _ U;have g:∀e:Int,e<=a.natAbs->(bK e.toNat).length<=100000:=λe s=>yw (l:=(aL a).2.1) f n (by rw[gd];exact s);have t:(bK ((a.natAbs:Int)/2^b+1).toNat).length<=100001:=(by have p:=Qz (x:=((a.natAbs:Int)/2^b).toNat) (y:=1) (k:=100000) (g _ h) aa;have o:((a.natAbs:Int)/2^b+1).toNat=((a.natAbs:Int)/2^b).toNat+1:=U;rw[o];exact p);dsimp only;refine ak (y:=(bK (if a<0/\(a.natAbs:Int) %2^b≠0 then(a.natAbs:Int)/2^b+1 else(a.natAbs:Int)/2^b).toNat,(false,([],())),())) ?_ ?_
 ·refine ak (y:=(decide (a<0/\(a.natAbs:Int) %2^b≠0),(false,([],())),())) ?_ ?_
  ·show(bif decide (a<0)==true then _ else _)=_;by_cases c:a<0
   ·simp[c]
   simp[c]
  dsimp only;by_cases c:a<0/\(a.natAbs:Int) %2^b≠0
  ·rw[aA c,aj c];refine ak (F1 (ix _) (aN.cons.2 ⟨aa,aN.nil⟩) (by have:=g _ h;omega) ab) ?_;rw[sl r,show ae [1]=1 from by simp[ae]]
  rw[ay c,ag c];rfl
 dsimp only;refine ak (oZ ?_ ?_) ?_
 ·split<;>omega
 ·split
  ·omega
  have:=g _ h;omega
 dsimp only;congr 3;show(if decide (a<0)=true then _ else _)=_;by_cases c:a<0
 ·rw[aj (aA c)];have j:=KH (m:=a.natAbs) q U;rw[(U:-(a.natAbs:Int)=a)] at j;rw[j];by_cases d:(a.natAbs:Int) %2^b=0
  ·rw[aj d,ag (by simp[d])]
  rw[ag d,aj ⟨c,d⟩]
 rw[ag (by simpa using c),ag (by simp[c])];congr 1;omega
def Qp {x y:Int} (v:az x.natAbs<=1900000) (A:az y.natAbs<=1900000) (w:0<=x) (n:y≠0):zW (aL x,aL y,())=some (aL (x/y),aL (x %y),0,()):=by
 obtain⟨c,f,i⟩:=fM (z:=x) U;obtain⟨d,g,j⟩:=fM (z:=y) U;unfold zW;dsimp only;refine ak (mK d g U) ?_;dsimp only;have h:(aL y).2.1≠[]:=λk=>n (uF.1 k);rw[pv,ay h];refine ak (mK c f U) ?_;dsimp only;refine ak (IK c d f g U U h) ?_;rw[gd,gd];dsimp only;have q:(aL x).1=false:=ay U;have r:0<=(x.natAbs:Int)/(y.natAbs:Int):=Int.ediv_nonneg U U;have s:(x.natAbs:Int)/(y.natAbs:Int)<=x.natAbs:=Int.ediv_le_self _ U;have t:0<=(x.natAbs:Int) %(y.natAbs:Int):=Int.emod_nonneg _ U;have u:(x.natAbs:Int) %(y.natAbs:Int)<(y.natAbs:Int):=Int.emod_lt_of_pos _ U;have o:∀a:Int,a<=x.natAbs->(bK a.toNat).length<=100000:=λa e=>yw (l:=(aL x).2.1) c i (by rw[gd];exact e);have p:∀a:Int,a<=y.natAbs->(bK a.toNat).length<=100000:=λa e=>yw (l:=(aL y).2.1) d j (by rw[gd];exact e);rw[q];refine ak rfl ?_;dsimp only;refine ak (oZ r (by have:=o _ s;omega)) (ak (oZ t (by have:=p _ (Int.le_of_lt u);omega)) ?_);dsimp only;have al:(x.natAbs:Int)=x:=U;rw[al];have m:x %(y.natAbs:Int)=x %y:=by
  rcases gC y 0 with b|b
  ·rw[(U:(y.natAbs:Int)=-y),Int.emod_neg]
  rw[(U:(y.natAbs:Int)=y)]
 rw[m];congr 3;show(if(!(false==decide (y<0)))=true then _ else _)=_;rcases gC y 0 with b|b
 ·rw[aA b,(U:(y.natAbs:Int)=-y),Int.ediv_neg];simp
 rw[ay (U:¬y<0),(U:(y.natAbs:Int)=y)];simp
def Ye {x:Int} (f:az x.natAbs<=900000) (i:0<=x):zZ (aL x,())=some (aL (bz x.toNat),0,()):=by
 obtain⟨c,d,h⟩:=fM (z:=x) U;unfold zZ;refine ak (pM (hx U)) ?_;dsimp only;rw[ay (by unfold dE;split;omega;split<;>omega)];refine ak (mK c d U) ?_;have e:(aL x).2.1=bK x.toNat:=(by show bK x.natAbs=_;congr 1;omega);dsimp only;rw[e];refine ak (Xx (by rw[(U:x.toNat=x.natAbs)];omega)) ?_;dsimp only;have l:bz x.toNat<=x.toNat:=by
  obtain⟨g,m⟩:=pt x.toNat;rcases h0 (bz x.toNat) with a|a
  ·omega
  exact db (Nat.le_mul_of_pos_left _ a) g
 have b:=oZ (neg:=false) (x:=(bz x.toNat:Int)) U (by
  rw[qB];have:=m6 (n:=bz x.toNat) (k:=100000) (by
   rw[de];have:=de.1 f;have j:=L0 900000 (32*100000) aa;omega)
  omega)
 rw[qB] at b;refine ak b ?_;rfl
def Bt {n:Int} (d:-9223372036854775808<=n) (e:n<=9223372036854775807):rY (n,())=some (aL n,()):=by
 unfold rY;dsimp only;obtain⟨a,f,c,g⟩:∃a:Int,a=n.natAbs/\0<=a/\a<=9223372036854775808:=⟨_,rfl,U,U⟩;refine ak (y:=(a,(false,([],())),())) ?_ ?_
 ·rw[bj];split
  ·rename_i b;rw[j6 n,j6];congr 2;omega
  rename_i b;rw[j6];congr 2;omega
 dsimp only;rw[lh,Option.bind_some,pw c U,jv (x:=a/4294967296) U U];refine ak (tO (aN.cons.2 ⟨⟨U,U⟩,aN.cons.2 ⟨⟨U,U⟩,aN.nil⟩⟩) ab) ?_;dsimp only;congr 2;congr 1;unfold e5;simp only[ae];by_cases b:n<0
 ·simp[b];omega
 simp[b];omega
def R1 (e:aN d) (s:d.length<=2) {f:a8->Prop} (l:f (ae d,())):ac (loop (σ:=kZ) (ρ:=a8) (λ(j,b,_)=>
 bif decide (b<ar d) then
 (ax d b).bind λp=>
 (gn IntKind.u64 (aJ p) (aq (32*b))).bind λq=>
 some (.inl (eB IntKind.u64 j q,aQ b,())) else
 some (.inr (j,()))) (0,0,())) f:=by
 refine ac.steps d.length (λa o=>o=(ae (d.take a),(a:Int),())) rfl ?_ ?_
 ·rintro a _ c rfl;have i:=e.get c;simp only[aA (show(a:Int)<ar d by simp only[aV];omega),cond_true,bL c,aG];have k:=dw (e.take a);have g:=fb (e.take a);rw[dS,fr U,oL] at g;have al:aq (32*(a:Int))=((32*a:Nat):Int):=(by rw[be U U];simp);have m:(2:Int)^(32*a)<=4294967296:=by
   rcases(U:a=0\/a=1) with rfl|rfl<;>decide
  have n:=h7 (32*a);have r:d[a]*2^(32*a)<4294967296*4294967296:=(by have:=hW m i.1;omega);have h:0<=d[a]*2^(32*a):=ll i.1 (dM n);rw[al,bV (x:=d[a]) U U,lW U U,aG,bY,pY h U,k9 (32*a) k g h U U (Int.mul_emod_left _ _),bi U];refine ac.af.2 ?_;rw[fV c,oL,gV (2^(32*a))]
 rintro _ rfl;simp only[ay (show¬((d.length:Int)<ar d) by simp only[aV];omega),cond_false];rw[c8 (a6 _)];exact ac.af.2 l
def R2 {z:Int} (h:0<=z) (c:z<9223372036854775808):zX (aL z,())=some (z,true,()):=by have i:az z.natAbs<=64:=de.2 U;obtain⟨a,b,g⟩:=fM (z:=z) U;have d:(aL z).2.1.length<=2:=m6 U;unfold zX;dsimp only;refine ac.eq_iff.1 ?_;refine ac.bs (mK a b U) ?_;dsimp only;rw[ay (show¬(ar (aL z).2.1>2) by simp only[aV];omega),cond_false];refine ac.aU (P:=λf=>f=(z,())) (R1 a d (by rw[gd];congr 1;omega)) ?_;rintro _ rfl;have e:(aL z).1=false:=ay U;dsimp only;rw[e];refine ac.bs (y:=.inr (z,true,())) ?_ (ac.af.2 rfl);refine ak rfl ?_;dsimp only[cond_false];rw[aA (show z<9223372036854775808 from c)];refine ak rfl ?_;dsimp only[cond_true];rw[be U U]
def yk (q:aN d) (s:d.length<=100000000):kA (d,())=some (fD d,()):=by
 unfold kA;refine ac.eq_iff.1 ?_;refine ac.aU (P:=λj=>∃a:Nat,j.1=(a:Int)/\a<=d.length/\(∀b,a<=b->(l:b<d.length)->d[b]=0)/\dp (d.take a)) ?_ ?_
 ·refine ac.loop (λh=>∃a:Nat,h.1=(a:Int)/\a<=d.length/\(∀b,a<=b->(l:b<d.length)->d[b]=0)) (λh=>h.1.toNat) ⟨d.length,rfl,a6 _,λb e f=>by omega⟩ ?_;rintro⟨_,_⟩ ⟨a,rfl,e,f⟩;rcases a with _|a
  ·refine ac.af.2 ⟨0,rfl,bM _,f,λm c=>by simp at c⟩
  have al:aq (((a+1:Nat):Int)-1)=(a:Int):=(by rw[be U U];omega);have n:decide (((a+1:Nat):Int)>0)=true:=aA U;simp only[al,n,beq_self_eq_true,cond_true,bL (show a<d.length from e),aG];by_cases i:d[a]=0
  ·rw[dO,aA i];refine ac.af.2 ⟨⟨a,rfl,U,λb l p=>?_⟩,?_⟩
   ·rcases bn a b with k|k
    ·exact f b k p
    obtain rfl:b=a:=U;exact i
   show(a:Int).toNat<((a+1:Nat):Int).toNat;omega
  rw[dO,ay i];refine ac.af.2 ⟨a+1,rfl,e,f,λm c=>?_⟩;rw[hD,a9 e] at c;have c:(d.take a++[d[a]]).getLast?=some m:=c;rw[List.getLast?_concat] at c;cases c;exact i
 rintro⟨_,_⟩ ⟨a,rfl,e,f,o⟩;dsimp only;refine ac.aU (P:=λj=>j=(d.take a,())) ?_ ?_
 ·refine ac.steps a (λg h=>h=((g:Int),d.take g,())) rfl ?_ ?_
  ·rintro g _ r rfl;simp only[aA (U:(g:Int)<(a:Int)),cond_true,bL (U:g<d.length),aG];rw[er (by simp;omega),bi U];refine ac.af.2 ?_;show _=(_,d.take (g+1),());rw[hD,a9 U];rfl
  rintro _ rfl;simp only[ay (U:¬((a:Int)<(a:Int))),cond_false];exact ac.af.2 rfl
 rintro _ rfl;refine ac.af.2 ?_;show(d.take a,())=_;rw[No q e f o]
def ye (a:aN d) (e:d.length<=100000000):kf (h,d,())=some (aL (e5 (h,d,())),()):=by
 unfold kf;refine ak (yk a e) ?_;have b:=IY (neg:=h) (GH d) (Nn d);have c:e5 (h,fD d,())=e5 (h,d,()):=(by unfold e5;simp only[GI a]);rw[<-c,<-b];dsimp only;cases h
 ·simp
 simp only[beq_self_eq_true,cond_true,Bool.true_and];congr 3;rw[decide_eq_decide];simp only[aV];rw[<-yQ];omega
def ra (b:aN d) (c:d.length<=100000000) (e:ae d=a):kf (h,d,())=some (aL (if h then-a else a),()):=by rw[ye b c];unfold e5;simp only[e]
def rb {l:ac8} (a:aN l) (c:dp l) (d:l.length<=1000000):kA (l,())=some (l,()):=by have b:=dp.eq a c;rw[yk a U];show some (bK (ae l).toNat,())=_;rw[<-b]
def MH {a:nG} (b:aN a.2.1) (c:a.2.1.length<=100000000):oc (a,())=some (aL (e5 a),()):=by unfold oc;exact ak (ye b c) rfl
def vj (b:az a.natAbs<=3000000):oc (aL a,())=some (aL a,()):=by rw[MH (kB a) (by have:=(fM b).2.2;omega),mM]
def MG (b:az a.natAbs<=3000000):wO (aL a,())=some (aL (-a),()):=by unfold wO;refine ak (ye (kB a) (by have:=(fM b).2.2;omega)) ?_;rw[CT];show some (aL (-e5 (aL a)),())=_;rw[mM]
def x6 (b:az a.natAbs<=3000000):pa (aL a,())=some (aL a.natAbs,()):=by unfold pa;refine ak (ye (kB a) (by have:=(fM b).2.2;omega)) ?_;rw[NC (kB a) (aL a).1];show some (aL ((e5 (aL a)).natAbs:Int),())=_;rw[mM]
def hR {z:Int} (a:az z.natAbs<=3000000):iT (aL z,())=some (dE z,()):=by
 unfold iT;refine ak (vj a) ?_;simp only[pv,bj,uF];unfold dE;split
 ·rfl
 show(bif decide (z<0) then _ else _)=_;rw[bj];split<;>rfl
def s1 {z:Int} (d:az z.natAbs<=3000000):pb (aL z,())=some ((az z.natAbs:Int),()):=by obtain⟨b,c,e⟩:=fM d;have a:=E4 b c U;rw[gd] at a;unfold uj at a;unfold pb;refine ak (rb b c U) ?_;dsimp only at a|-;simp only[Int.mul_comm 32];exact a
def MQ {z:Int} (v:az z.natAbs<=900000) (s:z≠0):pd (aL z,())=some ((bq z.natAbs:Int),()):=by
 obtain⟨i,k,r⟩:=fM (z:=z) U;unfold pd;refine ak (rb i k U) ?_;have u:=gd z;dsimp only;generalize(aL z).2.1=b at*;have o:z.natAbs=(ae b).toNat:=U;rw[o];refine ac.eq_iff.1 (ac.aU (P:=λg=>match g with|.inl _=>False|.inr p=>p=((bq (ae b).toNat:Int),())) ?_ ?_)
 ·refine ac.steps b.length (λa q=>q=((a:Int),())/\ae (b.take a)=0) ⟨rfl,rfl⟩ ?_ ?_
  ·rintro a _ e ⟨rfl,d⟩;have j:=i.get e;simp only[aA (show(a:Int)<ar b by simp only[aV];omega),cond_true,bL e,aG,bH];by_cases c:b[a]=0
   ·simp only[aA c,eS,cond_false];refine ac.af.2 ⟨by rw[bi U],?_⟩;rw[fV e,c,d];simp
   simp only[ay c,fW,cond_true];have l:=Nw (x:=0) d e i c;rw[l];obtain⟨h,m⟩:=eE j.1;rw[m] at j c|-;have t:bq h<32:=gM (tc U) (de.2 U);refine ac.of_eq (ak (Nv (n:=h) U U) rfl) ?_;show(aq (aq (32*(a:Int))+(bq h:Int)),())=_;rw[be (x:=32*(a:Int)) U U,be U U];congr 1
  rintro _ ⟨rfl,d⟩;exfalso;rw[c8 (a6 _)] at d;omega
 rintro(g|g) f
 ·exact f.elim
 have f:g=_:=f;rw[f];exact ac.af.2 rfl
def Mh {n:Nat} (c:n<=1000000000):∃b a:Nat,n=32*b+a/\a<32/\gk IntKind.i64 (n:Int) 32=some (b:Int)/\fS (n:Int) 32=some (a:Int):=by
 refine⟨n/32,n %32,U,U,?_,?_⟩
 ·unfold gk;rw[aj aa,vJ U,wrap64 U U];simp
 unfold fS;rw[aj aa,yN U];simp
def Gk {n:Nat} (C:aN d) (R:d.length<=10000000) (O:n<=100000000):ac (uw (d,(n:Int),())) (λk=>∃b,k=(b,())/\aN b/\ae b=ae d*2^n/\b.length=n/32+d.length+1):=by
 unfold uw;obtain⟨g,a,H,Q,F,G⟩:=Mh (n:=n) U;have m:=h7 a;have B:=sW (p:=a) U;have A:(2:Int)^a<=2147483648:=sX U;dsimp only;refine ac.bs F (ac.bs (gA U) ?_);refine ac.aU (P:=λk=>∃c b,k=(c,b,())/\b.length=g+d.length/\aN b/\0<=c/\c<2^a/\ae b+aI (g+d.length)*c=aI g*(2^a*ae d)) ?_ ?_
 ·refine ac.steps d.length (λe J=>∃c b,J=(c,(e:Int),b,())/\b.length=g+e/\aN b/\0<=c/\c<2^a/\ae b+aI (g+e)*c=aI g*(2^a*ae (d.take e))) ⟨0,List.replicate g 0,rfl,ab,aN.j8 _,U,m,by simp[ae,nD]⟩ ?_ ?_
  ·rintro e _ o ⟨c,b,rfl,aw,j,h,l,i⟩;have v:=C.get o;simp only[aA (show(e:Int)<ar d by simp only[aV];omega),cond_true,bL o,aG,G];have E:d[e]*2^a<4294967296*2^a:=pZ v.2 m;have D:d[e]*2^a<=4294967295*2^a:=kq U U;have t:0<=d[e]*2^a:=ll v.1 (dM m);obtain⟨f,u,K,L,M⟩:∃f,f=c+d[e]*2^a/\0<=f/\f<18446744073709551616/\f<4294967296*2^a:=⟨_,rfl,U,U,U⟩;have q:gn IntKind.u64 (aJ d[e]) (a:Int)=some (d[e]*2^a):=by
    rw[bV (x:=d[e]) U U,lW U U,bY];congr 1;omega
   have r:eB IntKind.u64 c (d[e]*2^a)=f:=(by rw[k9 a h l t U U (Int.mul_emod_left _ _),u]);have s:f/4294967296<2^a:=oM aa (by rw[gV];omega);rw[q,aG,r,er (by simp;omega),lh,nE];refine ac.af.2 ⟨f/4294967296,b++[f %4294967296],by rw[bi U],by simp[aw];omega,j.snoc U U,U,s,?_⟩;rw[oI,aw,(U:g+(e+1)=(g+e)+1),fY,fV o];have y:=hb f 4294967296;rw[ro] at i|-;generalize f/4294967296=I at*;generalize f %4294967296=k at*;generalize(2:Int)^a=w at*;generalize d[e]=N at*;have z:k=c+N*w-4294967296*I:=U;clear y q r s u K L M E D t B A;subst z;grind
  rintro _ ⟨c,b,rfl,aw,j,h,l,i⟩;simp only[ay (show¬((d.length:Int)<ar d) by simp only[aV];omega),cond_false];rw[c8 (a6 _)] at i;exact ac.af.2 ⟨c,b,rfl,aw,j,h,l,i⟩
 rintro _ ⟨c,b,rfl,aw,j,h,l,i⟩;dsimp only;rw[jv h U,er (by simp;omega)];refine ac.af.2 ⟨b++[c],rfl,j.snoc h U,?_,by simp;omega⟩;rw[oI,aw,i,oL,H,Int.pow_add];grind
def Mo (h:aN d) (i:aN f) (p:dp d) (q:dp f) (u:d.length<=10000000) (v:f.length<=10000000):wP (d,f,())=some (dx (ae d) (ae f),()):=by
 unfold wP;refine ac.eq_iff.1 ?_;simp only[bH,aV];by_cases t:d.length=f.length
 ·rw[aA (U:(d.length:Int)=f.length)];simp only[eS,cond_false];refine ac.aU (P:=λl=>match l with|.inl _=>ae d=ae f|.inr n=>n=(dx (ae d) (ae f),())) ?_ ?_
  ·refine ac.steps d.length (λb o=>o=(((d.length:Nat):Int)-1-b,())/\ae (d.drop (d.length-b))=ae (f.drop (d.length-b))) ⟨?_,?_⟩ ?_ ?_
   ·rw[be U U];simp
   ·rw[nO U,nO U]
   ·rintro b _ r ⟨rfl,c⟩;obtain⟨a,s⟩:∃a,d.length=a+1+b:=⟨d.length-1-b,U⟩;have al:((d.length:Nat):Int)-1-(b:Int)=(a:Int):=U;have j:a<d.length:=U;have k:a<f.length:=U;rw[(U:d.length-b=a+1)] at c;simp only[al,aA (U:(a:Int)>=0),cond_true,bL j,bL k,aG];by_cases m:d[a]=f[a]
    ·simp only[aA m,eS,cond_false];refine ac.af.2 ⟨?_,?_⟩
     ·rw[be U U];congr 1;omega
     rw[(U:d.length-(b+1)=a),j5 j,j5 k,m,c]
    simp only[ay m,fW,cond_true];rw[bj];refine ac.ite (λg=>?_) λg=>?_
    ·refine ac.af.2 ?_;show((-1:Int),())=_;unfold dx;rw[aj (CU h i j k c g)]
    refine ac.af.2 ?_;show((1:Int),())=_;have:=CU i h k j c.symm U;unfold dx;rw[ag U,aj this]
   rintro _ ⟨rfl,c⟩;have al:¬(((d.length:Nat):Int)-1-(d.length:Int)>=0):=U;simp only[ay al,cond_false];refine ac.af.2 ?_;simpa using c
  rintro(l|l) e
  ·refine ac.af.2 ?_;have e:ae d=ae f:=e;unfold dx;rw[e];simp
  have e:l=_:=e;rw[e];exact ac.af.2 rfl
 rw[ay (U:¬(d.length:Int)=f.length)];simp only[fW,cond_true];rw[bj];unfold dx;refine ac.ite (λg=>ac.af.2 ?_) λg=>ac.af.2 ?_
 ·rw[aj (oH h i q U)]
 have:=oH i h p U;rw[ag U,aj this]
def Sv (k:aN d) (x:g<32) (w:c+b<d.length) (v:a=ae (d.drop c)):a/2^g/aI b %4294967296=(d[c+b]+4294967296*d.getD (c+b+1) 0)/2^g %4294967296:=by
 have s:=h7 g;have t:=sW (p:=g) U;have u:a/aI b=(d[c+b]+4294967296*d.getD (c+b+1) 0)+4294967296*(4294967296*ae (d.drop (c+b+2))):=by
  have h:d.drop c=(d.drop c).take b++d.drop (c+b):=by
   conv=>lhs;rw[<-ku b (d.drop c)]
   rw[nN]
  have i:a=ae ((d.drop c).take b)+aI b*ae (d.drop (c+b)):=by
   rw[v]
   conv=>lhs;rw[h]
   rw[j4,dS,ka,fr U]
  have o:=dw ((k.drop c).take b);have j:=fb ((k.drop c).take b);rw[dS,ka,fr U] at j;have q:ae (d.drop (c+b))=d[c+b]+4294967296*ae (d.drop (c+b+1)):=j5 U;have r:ae (d.drop (c+b+1))=d.getD (c+b+1) 0+4294967296*ae (d.drop (c+b+2)):=by
   rcases bn (c+b+1) d.length with f|f
   ·rw[jj f];exact j5 f
   rw[ms f,nO f,nO U];rfl
  rw[i,tu _ _ (by have:=dQ b;omega),nH o j,q,r];grind
 have h:a/2^g/aI b=a/aI b/2^g:=(by rw[rp (dM s),rp (dM (dQ b)),gV]);rw[h,u];generalize d[c+b]+4294967296*d.getD (c+b+1) 0=l;have i:∀e:Int,l+4294967296*(4294967296*e)=l+2^g*(4294967296*(2^(32-g)*e)):=λe=>(by generalize(2:Int)^g=m at*;generalize(2:Int)^(32-g)=n at*;rw[show(4294967296:Int)*(4294967296*e)=(m*n)*(4294967296*e) by rw[<-t]];grind);rw[i,tu _ _ U,vI]
def SD (e:aN d) (o:g<32) (j:c<d.length):(decide (ae d %(aI c*2^g)≠0))=(decide (ae (d.take c)≠0)||decide (d[c] %2^g≠0)):=by have l:=h7 g;have m:=sW (p:=g) U;have n:=dw (e.take c);have f:=fb (e.take c);rw[dS,fr U] at f;have a:=Kb (x:=ae (d.take c)) (b:=aI c) (y:=ae (d.drop c)) (P:=2^g) (P':=0) (dQ c) ⟨n,f⟩ l;rw[<-mN d c U] at a;have k:ae (d.drop c) %2^g=d[c] %2^g:=(by rw[j5 j,m,i9,vI]);rw[k] at a;by_cases h:ae (d.take c)=0<;>by_cases i:d[c] %2^g=0<;>simp[h,i,a]
def Gl {a:ac8} {n:Nat} (h:aN a) (bl:a.length<=10000000) (a4:n<=1000000000):ac (ux (a,(n:Int),())) (λi=>∃e,i=(e,decide (ae a %2^n≠0),())/\aN e/\ae e=ae a/2^n/\e.length<=a.length):=by
 unfold ux;obtain⟨b,d,ad,J,w,Y⟩:=Mh (n:=n) U;have E:=h7 d;have av:=sW (p:=d) U;have an:(2:Int)^d<=2147483648:=sX U;have T:(2:Int)^n=aI b*2^d:=(by rw[oL,ad,Int.pow_add]);have K:=dw h;dsimp only;refine ac.aU (P:=λi=>i=(decide (ae (a.take b)≠0),())) ?_ ?_
 ·have M:∀c,min b a.length=c->decide (ae (a.take b)≠0)=decide (ae (a.take c)≠0):=λc l=>by
   rcases Nat.le_total b a.length with f|f
   ·rw[fr f] at l;rw[l]
   rw[Nat.min_eq_right f] at l;rw[<-l,c8 f,c8 (a6 _)]
  refine ac.steps (min b a.length) (λc s=>s=(decide (ae (a.take c)≠0),(c:Int),())) (by simp[ae]) ?_ ?_
  ·rintro c _ l rfl;have t:=h.get (n:=c) U;simp only[w,aG,aA (U:(c:Int)<(b:Int)),beq_self_eq_true,cond_true,aA (show(c:Int)<ar a by simp only[aV];omega),bL (U:c<a.length),bi (U:c<9223372036854775807),bH];have z:ae (a.take (c+1))=ae (a.take c)+aI c*a[c]:=fV U;have ap:=dw (h.take c);have C:=dQ c;by_cases f:ae (a.take c)=0
   ·rw[ay (show¬(ae (a.take c)≠0) fromλo=>o f)];refine ac.af.2 ?_;show((!decide (a[c]=0)),_,())=_;congr 1;rw[z,f];by_cases k:a[c]=0
    ·simp[k]
    have:=nJ C (U:0<a[c]);rw[ay k,aA (U:(0:Int)+aI c*a[c]≠0)];rfl
   rw[aA (show ae (a.take c)≠0 from f)];refine ac.af.2 ?_;show(true,_,())=_;congr 1;have:=ll (dM C) t.1;rw[z,aA (U:ae (a.take c)+aI c*a[c]≠0)]
  rintro _ rfl;simp only[w,aG];by_cases f:min b a.length<b
  ·simp only[aA (U:((min b a.length:Nat):Int)<(b:Int)),beq_self_eq_true,cond_true,ay (show¬(((min b a.length:Nat):Int)<ar a) by simp only[aV];omega),cond_false,aG];refine ac.af.2 ?_;rw[M _ rfl]
  simp only[ay (U:¬(((min b a.length:Nat):Int)<(b:Int))),show(false==true)=false from rfl,cond_false,aG];refine ac.af.2 ?_;rw[M _ rfl]
 rintro _ rfl;dsimp only;refine ac.bs Y (ac.bs w ?_);rw[T];rcases Nat.lt_or_ge b a.length with o|o
 ·obtain⟨g,v⟩:∃g,g=ae (a.drop b):=⟨_,rfl⟩;have F:0<=g:=(by rw[v];exact dw (h.drop b));have Z:ae a=ae (a.take b)+aI b*g:=(by rw[v];exact mN a b U);have W:=dw (h.take b);have I:=fb (h.take b);rw[dS,fr U] at I;have V:ae a/(aI b*2^d)=g/2^d:=by
   rw[<-rp (dM (dQ b)),Z,tu _ _ (by have:=dQ b;omega),nH W I,Int.zero_add]
  obtain⟨m,a3⟩:∃m,a.length=b+m:=⟨a.length-b,U⟩;have a0:g<aI m:=(by have:=fb (h.drop b);rw[ka,(U:a.length-b=m),<-v] at this;exact this);have S:=SD h J o;refine ac.aU (P:=λi=>∃e,i=(decide (ae a %(aI b*2^d)≠0),e,())/\e.length=m/\aN e/\ae e=g/2^d) ?_ ?_
  ·refine ac.steps m (λc s=>∃e,s=(if c=0 then decide (ae (a.take b)≠0) else decide (ae a %(aI b*2^d)≠0),((b+c:Nat):Int),e,())/\e.length=c/\aN e/\ae e+aI c*(g/2^d/aI c)=g/2^d) ⟨[],rfl,rfl,aN.nil,by simp[ae,vE]⟩ ?_ ?_
   ·rintro c _ l ⟨e,rfl,aw,u,r⟩;have t:=h.get (n:=b+c) U;have L:=h.getD (b+c+1);obtain⟨j,q,N,am⟩:∃j,j=a[b+c]+4294967296*a.getD (b+c+1) 0/\0<=j/\j<18446744073709551616:=⟨_,rfl,U,U⟩;have G:g/2^d/aI c %4294967296=j/2^d %4294967296:=(by rw[q];exact Sv h J U v);have X:0<=j/2^d:=Int.ediv_nonneg N (Int.le_of_lt E);have y:aQ ((b+c:Nat):Int)=((b+c+1:Nat):Int):=bi U;dsimp only;rw[bb (aA (show((b+c:Nat):Int)<ar a by simp only[aV];omega))];refine ac.aU (P:=λi=>i=(decide (ae a %(aI b*2^d)≠0),e++[j/2^d %4294967296],())) ?_ ?_
    ·refine ac.bs (bL U) ?_;refine ac.aU (P:=λi=>i=(j,e,())) ?_ ?_
     ·rw[y,bj];refine ac.ite (λf=>?_) λf=>?_
      ·have f:b+c+1<a.length:=(by simp only[aV] at f;omega);rw[bL f,aG,bV (x:=a[b+c+1]) (by have:=h.get f;omega) (by have:=h.get f;omega),lW aa aa];rw[jj f] at q L;have O:a[b+c+1]*2^(32:Int).toNat %18446744073709551616=4294967296*a[b+c+1]:=by
        rw[show(2:Int)^(32:Int).toNat=4294967296 from rfl];omega
       rw[aG,O,bV U U,k9 32 t.1 t.2 U U U U];refine ac.af.2 ?_;rw[<-q]
      have f:a.length<=b+c+1:=(by simp only[aV] at f;omega);rw[ms f] at q;rw[bV U U];refine ac.af.2 ?_;rw[q];simp
     rintro _ rfl;dsimp only;refine ac.aU (P:=λi=>i=(decide (ae a %(aI b*2^d)≠0),e,())) ?_ ?_
     ·refine ac.bs w ?_;by_cases H:c=0
      ·subst H;have A:(((b+0:Nat):Int)==(b:Int))=true:=ab;rw[A];simp only[beq_self_eq_true,cond_true];refine ac.bs (bL U) ?_;rw[M2 U U,aG,bY,Int.one_mul,pY U U,jv U U,HF d (h.get (n:=b+0) U).1 (h.get (n:=b+0) U).2 U,bH,S];have Q:a[b+0]=a[b]:=rfl;rw[Q];by_cases k:a[b] %2^d=0
       ·rw[aA k];refine ac.af.2 ?_;simp[k]
       rw[ay k];refine ac.af.2 ?_;simp[k]
      have A:(((b+c:Nat):Int)==(b:Int))=false:=(by rw[dO];exact ay U);rw[A];simp only[show(false==true)=false from rfl,cond_false];refine ac.af.2 ?_;rw[ag H]
     rintro _ rfl;dsimp only;rw[rc U U,Option.bind_some,Int.toNat_natCast,er (by simp;omega),nE];exact ac.af.2 rfl
    rintro _ rfl;dsimp only;refine ac.af.2 ⟨e++[j/2^d %4294967296],by rw[y,if_neg U];rfl,by simp[aw],u.snoc U U,?_⟩;rw[oI,aw,<-G,fY,Int.mul_comm 4294967296 (aI c),<-Int.ediv_ediv_of_nonneg (Int.le_of_lt (dQ c))];have D:=Int.emod_add_mul_ediv (g/2^d/aI c) 4294967296;generalize g/2^d/aI c %4294967296=i at*;generalize g/2^d/aI c/4294967296=ce at*;rw[<-D] at r;clear G D q N am X t L y;grind
   rintro _ ⟨e,rfl,aw,u,r⟩;dsimp only;rw[a2 (ay (show¬(((b+m:Nat):Int)<ar a) by simp only[aV];omega)),if_neg U];refine ac.af.2 ⟨e,rfl,aw,u,?_⟩;have B:0<=g/2^d:=Int.ediv_nonneg F (Int.le_of_lt E);have R:g/2^d<=g:=Int.ediv_le_self _ F;rw[Int.ediv_eq_zero_of_lt B U] at r;simpa using r
  rintro _ ⟨e,rfl,aw,u,r⟩;exact ac.af.2 ⟨e,rfl,u,by rw[r,V],U⟩
 have B:=fb h;have R:=nu o;have z:aI b*1<=aI b*2^d:=hW U (dM (dQ b));rw[nH K U,pY K U,c8 o];refine ac.aU (P:=λi=>i=(decide (ae a≠0),[],())) ?_ ?_
 ·refine ac.steps 0 (λc s=>s=(decide (ae a≠0),(b:Int),[],())) rfl (λc s l=>by omega) ?_;rintro _ rfl;dsimp only;rw[a2 (ay (show¬((b:Int)<ar a) by simp only[aV];omega))];exact ac.af.2 rfl
 rintro _ rfl;exact ac.af.2 ⟨[],rfl,aN.nil,rfl,ab⟩
def WV (s:aN d) (t:aN f) (F:d.length<=10000000) (G:f.length<=10000000):ac (Ax (d,f,())) (λh=>∃a,h=(a,())/\aN a/\ae a=ae d+ae f/\a.length<=d.length+f.length+1):=by
 unfold Ax;dsimp only;obtain⟨i,E⟩:∃i,i=max d.length f.length:=⟨_,rfl⟩;have u:(if ar f>ar d then ar f else ar d)=(i:Int):=(by simp only[aV];split<;>omega);rw[u];refine ac.aU (P:=λh=>∃c a,h=(c,a,())/\a.length=i/\aN a/\0<=c/\c<=1/\ae a+aI i*c=ae d+ae f) ?_ ?_
 ·refine ac.steps i (λb z=>∃c a,z=(c,(b:Int),a,())/\a.length=b/\aN a/\0<=c/\c<=1/\ae a+aI b*c=ae (d.take b)+ae (f.take b)) ⟨0,[],rfl,rfl,aN.nil,U,U,by simp[ae]⟩ ?_ ?_
  ·rintro b _ D ⟨c,a,rfl,j,k,l,o,m⟩;have v:=s.getD b;have w:=t.getD b;obtain⟨g,n,A,B,p⟩:∃g,g=c+d.getD b 0+f.getD b 0/\0<=g/\g<18446744073709551616/\g/4294967296<=1:=⟨_,rfl,U,U,U⟩;dsimp only;rw[bb (aA (U:(b:Int)<(i:Int)))];refine ac.aU (P:=λh=>h=(g/4294967296,a++[g %4294967296],())) ?_ ?_
   ·refine ac.aU (P:=λh=>h=(c+d.getD b 0,a,())) ?_ ?_
    ·simp only[bj];refine ac.ite (λe=>?_) λe=>?_
     ·have e:b<d.length:=(by simp only[aV] at e;omega);rw[bL e];rw[jj e] at v|-;refine ac.af.2 ?_;rw[bV (x:=d[b]) U U,bV U U]
     have e:d.length<=b:=(by simp only[aV] at e;omega);rw[ms e,Int.add_zero];exact ac.af.2 rfl
    rintro _ rfl;refine ac.aU (P:=λh=>h=(g,a,())) ?_ ?_
    ·simp only[bj];refine ac.ite (λe=>?_) λe=>?_
     ·have e:b<f.length:=(by simp only[aV] at e;omega);rw[bL e];rw[jj e] at w n;refine ac.af.2 ?_;rw[bV (x:=f[b]) U U,bV U U,n]
     have e:f.length<=b:=(by simp only[aV] at e;omega);rw[ms e,Int.add_zero] at n;rw[n];exact ac.af.2 rfl
    rintro _ rfl;dsimp only;rw[er (by simp;omega),nE,lh];exact ac.af.2 rfl
   rintro _ rfl;dsimp only;refine ac.af.2 ⟨g/4294967296,a++[g %4294967296],by rw[bi U],by simp[j],k.snoc U U,U,p,?_⟩;rw[oI,j,fY,vx,vx];have:=Int.emod_add_mul_ediv g 4294967296;generalize g/4294967296=y at*;generalize g %4294967296=h at*;generalize d.getD b 0=q at*;generalize f.getD b 0=C at*;have r:h=c+q+C-4294967296*y:=U;clear this n A B p;subst r;grind
  rintro _ ⟨c,a,rfl,j,k,l,o,m⟩;dsimp only;rw[a2 (ay (U:¬((i:Int)<(i:Int))))];rw[List.take_of_length_le U,List.take_of_length_le U] at m;exact ac.af.2 ⟨c,a,rfl,j,k,l,o,m⟩
 rintro _ ⟨c,a,rfl,j,k,l,o,m⟩;dsimp only;rw[er (by simp;omega),jv l U];refine ac.af.2 ⟨a++[c],rfl,k.snoc l U,?_,by simp;omega⟩;rw[oI,j,m]
def M3 (a:Int):da .u64 a 63=some (a/9223372036854775808):=by have:da .u64 a 63=some (a.fdiv 9223372036854775808):=rfl;rw[this,yL _ aa]
def MP (t:aN d) (u:aN f) (G:d.length<=10000000) (w:f.length<=d.length) (E:ae f<=ae d):ac (wQ (d,f,())) (λh=>∃a,h=(a,())/\aN a/\ae a=ae d-ae f/\a.length=d.length):=by
 unfold wQ;dsimp only;refine ac.aU (P:=λh=>∃a b,h=(a,())/\a.length=d.length/\aN a/\0<=b/\b<=1/\ae a-aI d.length*b=ae d-ae f) ?_ ?_
 ·refine ac.steps d.length (λe A=>∃b a,A=(b,(e:Int),a,())/\a.length=e/\aN a/\0<=b/\b<=1/\ae a-aI e*b=ae (d.take e)-ae (f.take e)) ⟨0,[],rfl,rfl,aN.nil,U,U,by simp[ae]⟩ ?_ ?_
  ·rintro e _ o ⟨b,a,rfl,i,j,m,n,l⟩;have F:=t.get o;have x:=u.getD e;obtain⟨c,k,p,q⟩:∃c,c=d[e]-b-f.getD e 0/\-4294967296<=c/\c<4294967296:=⟨_,rfl,U,U⟩;dsimp only;rw[bb (aA (show(e:Int)<ar d by simp only[aV];omega))];refine ac.aU (P:=λh=>h=(-(c/4294967296),a++[c %4294967296],())) ?_ ?_
   ·refine ac.bs (bL o) ?_;refine ac.aU (P:=λh=>h=(c %18446744073709551616,a,())) ?_ ?_
    ·simp only[bj];refine ac.ite (λg=>?_) λg=>?_
     ·have g:e<f.length:=(by simp only[aV] at g;omega);rw[bL g];rw[jj g] at k x;refine ac.af.2 ?_;simp only[j6];rw[k];congr 1;omega
     have g:f.length<=e:=(by simp only[aV] at g;omega);rw[ms g] at k;refine ac.af.2 ?_;simp only[j6];rw[k];congr 1;omega
    rintro _ rfl;dsimp only;rw[er (by simp;omega),nE,M3];refine ac.af.2 ?_;have aw:c %18446744073709551616/9223372036854775808=-(c/4294967296):=U;have z:c %18446744073709551616 %4294967296=c %4294967296:=U;rw[aw,z]
   rintro _ rfl;dsimp only;refine ac.af.2 ⟨-(c/4294967296),a++[c %4294967296],by rw[bi U],by simp[i],j.snoc U U,U,U,?_⟩;rw[oI,i,fY,fV o,vx];have:=Int.emod_add_mul_ediv c 4294967296;generalize c/4294967296=y at*;generalize c %4294967296=h at*;generalize f.getD e 0=C at*;generalize d[e]=B at*;have r:h=B-b-C-4294967296*y:=U;clear this k p q;subst r;grind
  rintro _ ⟨b,a,rfl,i,j,m,n,l⟩;dsimp only;rw[a2 (ay (show¬((d.length:Int)<ar d) by simp only[aV];omega))];refine ac.af.2 ⟨a,b,rfl,i,j,m,n,?_⟩;rw[l,List.take_of_length_le (Nat.le_refl _),List.take_of_length_le w]
 rintro _ ⟨a,b,rfl,i,j,m,n,l⟩;have s:=fb j;have D:=dQ d.length;rw[i] at s;have v:b=0:=by
  rcases gC 0 b with g|g
  ·obtain rfl:b=1:=U;omega
  omega
 subst v;exact ac.af.2 ⟨a,rfl,j,by rw[<-l];simp,i⟩
def XF {i:ac8} (L:aN f) (t:b<f.length) (M:aN d) (Z:b+d.length<c) (Y:c<=100000000) (I:i.length=c) (J:aN i) (P:g1 i (b+d.length)) {r:gZ->Prop} (K:∀g e,e.length=c->aN e->g1 e (b+d.length)->0<=g->g<4294967296->ae e+aI (b+d.length)*g=ae i+aI b*(f[b]*ae d)->r (g,e,())):ac (loop (σ:=n2) (ρ:=gZ) (λ(l,j,o,_)=>
 bif decide (j<ar d) then
 (ax f (b:Int)).bind λE=>
 (ax d j).bind λC=>
 rd o (aq ((b:Int)+j)) λD=>
 wr o (aq ((b:Int)+j)) (bX (aJ (aJ (l+aJ (aJ E*aJ C))+aJ D))) λX=>
 (da IntKind.u64 (aJ (aJ (l+aJ (aJ E*aJ C))+aJ D)) 32).bind λW=>
 some (.inl (W,aQ j,X,())) else
 some (.inr (l,o,()))) (0,0,i,())) r:=by
 refine ac.steps d.length (λa T=>∃g e,T=(g,(a:Int),e,())/\e.length=c/\aN e/\g1 e (b+d.length)/\0<=g/\g<4294967296/\ae e+aI (b+a)*g=ae i+aI b*(f[b]*ae (d.take a))) ⟨0,i,rfl,I,J,P,U,U,by simp[ae]⟩ ?_ ?_
 ·rintro a _ m ⟨g,e,rfl,aw,k,p,y,z,q⟩;have v:=L.get t;have w:=M.get m;have O:=k.get (n:=b+a) U;have N:=xL v w;obtain⟨h,u,A,B⟩:∃h,h=g+f[b]*d[a]+e[b+a]/\0<=h/\h<18446744073709551616:=⟨_,rfl,U,U⟩;simp only[aA (show(a:Int)<ar d by simp only[aV];omega),cond_true,bL m,bL t,aG];have al:aq ((b:Int)+(a:Int))=((b+a:Nat):Int):=(by rw[be U U];simp);rw[al,iZ U];have s:aJ (aJ (g+aJ (aJ f[b]*aJ d[a]))+aJ e[b+a])=h:=by
   rw[bV (x:=f[b]) U U,bV (x:=d[a]) U U,bV (x:=e[b+a]) U U,bV (x:=f[b]*d[a]) U U,bV (x:=g+f[b]*d[a]) U U,<-u,bV A B]
  rw[s,nE,i6 U,lh];refine ac.af.2 ⟨h/4294967296,e.set (b+a) (h %4294967296),by rw[bi U],by simp[aw],k.set U U,p.Gr _ U,U,U,?_⟩;rw[kM U,(U:b+(a+1)=(b+a)+1),fY,fV m];have G:=hb h 4294967296;rw[ro] at q|-;generalize h/4294967296=R at*;generalize h %4294967296=S at*;generalize e[b+a]=Q at*;generalize d[a]=V at*;generalize f[b]=F at*;have H:S=g+F*V+Q-4294967296*R:=U;clear G s u A B N v w O;subst H;grind
 rintro _ ⟨g,e,rfl,aw,k,p,y,z,q⟩;simp only[ay (show¬((d.length:Int)<ar d) by simp only[aV];omega),cond_false];refine ac.af.2 (K g e aw k p y z ?_);rw[q,c8 (a6 _)]
def Xn (s:aN f) (t:aN d) (v:f.length<=10000000) (w:d.length<=10000000):ac (Az (f,d,())) (λh=>∃a,h=(a,())/\aN a/\ae a=ae f*ae d/\a.length=f.length+d.length):=by
 unfold Az;dsimp only;have r:aq (ar f+ar d)=((f.length+d.length:Nat):Int):=(by simp only[aV];rw[be U U];simp);rw[r,gA U,Option.bind_some];refine ac.aU (P:=λh=>∃a,h=(a,())/\a.length=f.length+d.length/\aN a/\ae a=ae f*ae d) ?_ ?_
 ·refine ac.steps f.length (λb u=>∃a,u=((b:Int),a,())/\a.length=f.length+d.length/\aN a/\g1 a (b+d.length)/\ae a=ae (f.take b)*ae d) ⟨_,rfl,ab,aN.j8 _,g1.j8 _ _,by simp[ae,nD]⟩ ?_ ?_
  ·rintro b _ q ⟨a,rfl,aw,g,l,p⟩;dsimp only;rw[bb (aA (show(b:Int)<ar f by simp only[aV];omega))];refine ac.aU (P:=λh=>∃e c,h=(e,c,())/\c.length=f.length+d.length/\aN c/\g1 c (b+d.length)/\0<=e/\e<4294967296/\ae c+aI (b+d.length)*e=ae a+aI b*(f[b]*ae d)) (XF s q t U U aw g l λe c m n i j k o=>⟨e,c,rfl,m,n,i,j,k,o⟩) ?_;rintro _ ⟨e,c,rfl,m,n,i,j,k,o⟩;have al:aq ((b:Int)+ar d)=((b+d.length:Nat):Int):=(by simp only[aV];rw[be U U];simp);dsimp only;rw[al,jv j k,i6 U];refine ac.af.2 ⟨c.set (b+d.length) e,by rw[bi U],by simp[m],n.set j k,?_,?_⟩
   ·rw[(U:b+1+d.length=b+d.length+1)];exact i.set _
   rw[kM U,i _ (a6 _) U,fV q,Int.sub_zero,o,p];grind
  rintro _ ⟨a,rfl,aw,g,l,p⟩;dsimp only;rw[a2 (ay (show¬((f.length:Int)<ar f) by simp only[aV];omega))];refine ac.af.2 ⟨a,rfl,aw,g,?_⟩;rw[p,List.take_of_length_le (Nat.le_refl _)]
 rintro _ ⟨a,rfl,aw,g,l⟩;exact ac.af.2 ⟨a,rfl,g,l,aw⟩
section
section
variable {α B:Type}
def Gd {d c f:List α} {k:Nat} (e:k<c.length) (g:a=((d.length+k:Nat):Int)) (b:α->Option B):rd (d++(c++f)) a b=b c[k]:=by subst g;refine W3 U ?_ b;rw[bY,l5 U,lv,lq e,a9 e]
def Zh {b c d:List α} {k:Nat} (g:k<c.length) (h:a=((b.length+k:Nat):Int)) (f:α) (e:List α->Option B):wr (b++(c++d)) a f e=e (b++(c.set k f++d)):=by subst h;rw[i6 (by simp;omega),yp g]
end
def YA {A w C v:ac8} {g:Int} (I:aN v) (J:aN w) (ce:w.length=v.length+1) (a0:A.length+w.length<=100000000) (Y:0<=g/\g<4294967296):ac (wR (A++(w++C),v,(A.length:Int),g,())) (λf=>(ae w<g*ae v/\f=(A++(w++C),false,()))\/(∃p,g*ae v<=ae w/\f=(A++(p++C),true,())/\p.length=w.length/\aN p/\ae p=ae w-g*ae v)):=by
 unfold wR;dsimp only;have R:aQ (ar v)=((v.length+1:Nat):Int):=(by simp only[aV];exact bi U);rw[R,gA U,Option.bind_some];have a4:=dw I;have a3:=dw J;refine ac.aU (P:=λf=>∃c b,f=(c,A++(w++C),b,())/\b.length=v.length+1/\aN b/\0<=c/\c<=1/\ae b-aI (v.length+1)*c=ae w-g*ae v) ?_ ?_
 ·refine ac.steps (v.length+1) (λa z=>∃c h b,z=(c,h,(a:Int),A++(w++C),b,())/\b.length=v.length+1/\aN b/\g1 b a/\0<=h/\h<4294967296/\(a=v.length+1->h=0)/\0<=c/\c<=1/\ae b-aI a*(c+h)=ae (w.take a)-g*ae (v.take a)) ⟨0,0,List.replicate (v.length+1) 0,rfl,ab,aN.j8 _,g1.j8 _ _,U,U,λ_=>rfl,U,U,by simp[ae,nD]⟩ ?_ ?_
  ·rintro a _ Z ⟨c,h,b,rfl,m,j,o,B,q,D,E,F,r⟩;have t:=I.getD a;have am:=J.get (n:=a) U;have H:=xL Y t;obtain⟨e,l,u,y⟩:∃e,e=h+g*v.getD a 0/\0<=e/\e<18446744073709551616:=⟨_,rfl,U,U⟩;obtain⟨d,G,M,N⟩:∃d,d=w[a]-c-e %4294967296/\-4294967296<=d/\d<4294967296:=⟨_,rfl,U,U⟩;dsimp only;rw[bb (aA (show(a:Int)<=ar v by simp only[aV];omega))];refine ac.aU (P:=λf=>f=(-(d/4294967296),e/4294967296,A++(w++C),b.set a (d %4294967296),())) ?_ ?_
   ·refine ac.aU (P:=λf=>f=(e,A++(w++C),b,())) ?_ ?_
    ·rw[bj];refine ac.ite (λi=>?_) λi=>?_
     ·have i:a<v.length:=(by simp only[aV] at i;omega);rw[bL i];rw[jj i] at t l H;refine ac.af.2 ?_;rw[bV (x:=v[a]) U U,bV (x:=g*v[a]) U U,<-l,bV u y]
     have i:v.length<=a:=(by simp only[aV] at i;omega);rw[ms i] at l;refine ac.af.2 ?_;rw[l];simp
    rintro _ rfl;dsimp only;have al:aq ((a:Int)+(A.length:Int))=((A.length+a:Nat):Int):=(by rw[be U U];omega);have S:aJ (aJ (aJ w[a]-c)-dc IntKind.u64 e 4294967295)=d %18446744073709551616:=(by rw[and_low32 u y,j6,j6,j6,G];omega);rw[Gd (k:=a) U al,lh,Option.bind_some,S,i6 U,M3,Option.bind_some,nE];refine ac.af.2 ?_;have aw:d %18446744073709551616/9223372036854775808=-(d/4294967296):=U;have ap:d %18446744073709551616 %4294967296=d %4294967296:=U;rw[aw,ap]
   rintro _ rfl;dsimp only;refine ac.af.2 ⟨-(d/4294967296),e/4294967296,b.set a (d %4294967296),by rw[bi U],by simp[m],j.set U U,o.set _,U,U,?_,U,U,?_⟩
   ·intro bs;rw[ms U] at l;omega
   rw[kM U,o a (a6 _) U,fY,fV (U:a<w.length),vx];have T:=hb d 4294967296;have f2:=hb e 4294967296;generalize d/4294967296=O at*;generalize d %4294967296=Q at*;generalize e/4294967296=an at*;generalize e %4294967296=K at*;generalize w[a]=av at*;generalize v.getD a 0=L at*;have V:K=h+g*L-4294967296*an:=U;have f4:Q=av-c-K-4294967296*O:=U;clear T f2 G l M N u y H t am;rw[f4,V];grind
  rintro _ ⟨c,h,b,rfl,m,j,o,B,q,D,E,F,r⟩;dsimp only;rw[a2 (ay (show¬(((v.length+1:Nat):Int)<=ar v) by simp only[aV];omega))];have X:=D rfl;subst X;rw[List.take_of_length_le U,List.take_of_length_le U,Int.add_zero] at r;exact ac.af.2 ⟨c,b,rfl,m,j,E,F,r⟩
 rintro _ ⟨c,b,rfl,m,j,o,B,q⟩;have ad:=fb j;have bl:=dw j;have l:=dQ (v.length+1);rw[m] at ad;dsimp only;rw[bH];by_cases s:c=0
 ·rw[aA s];subst s;rw[Int.mul_zero] at q;refine ac.aU (P:=λf=>f=(A++(b++C),())) ?_ ?_
  ·refine ac.steps (v.length+1) (λa z=>z=((a:Int),A++((b.take a++w.drop a)++C),b,())) rfl ?_ ?_
   ·rintro a _ Z rfl;have al:aq ((a:Int)+(A.length:Int))=((A.length+a:Nat):Int):=(by rw[be U U];omega);dsimp only;rw[bb (aA (show(a:Int)<=ar v by simp only[aV];omega)),iZ U,Zh (k:=a) (by simp;omega) al,bi U];refine ac.af.2 ?_;show(_,A++(List.set (b.take a++w.drop a) a b[a]++C),b,())=(_,A++((b.take (a+1)++w.drop (a+1))++C),b,());congr 4;have W:b.take (a+1)=b.take a++[b[a]]:=(by rw[List.take_add_one,List.getElem?_eq_getElem U];rfl);rw[List.set_append_right _ _ (by simp;omega),W,List.length_take,Nat.min_eq_left U,Nat.sub_self,List.drop_eq_getElem_cons (U:a<w.length),List.set_cons_zero,List.append_assoc];rfl
   rintro _ rfl;dsimp only;rw[a2 (ay (show¬(((v.length+1:Nat):Int)<=ar v) by simp only[aV];omega))];refine ac.af.2 ?_;show(A++((b.take (v.length+1)++w.drop (v.length+1))++C),())=_;rw[List.take_of_length_le U,List.drop_eq_nil_of_le U,List.append_nil]
  rintro _ rfl;exact ac.af.2 (.inr ⟨b,U,rfl,U,j,U⟩)
 rw[ay s];obtain rfl:c=1:=U;refine ac.af.2 (.inl ⟨U,rfl⟩)
def W8 {n:Nat} (J:aN d) (ad:ae d=a) (k0:d.length=n+1) (hr:a<aI (n+1)) (hs:1<=d[n]) (d9:aN f) (d6:ae f=e) (d4:f.length=c) (i3:c=b+(n+1)) (hi:c<=10000000) (i8:1<=b) (d8:ae (f.drop b)<a) (u:ac8) (hv:u.length=n+1) {Z:h2->Prop} (d5:∀o j,o.length=b->aN o->j.length=c->aN j->ae j+a*ae o=e->ae j<a->Z (j,o,())):ac (loop (σ:=(Int×aM×aM×Unit)) (ρ:=h2) (λ(z,L,bl,_)=>
 bif decide (z>=0) then
 rd L (aq (z+ar u)) λf7=>
 (gn IntKind.u64 (aJ f7) 32).bind λf8=>
 rd L (aq (aq (z+ar u)-1)) λf9=>
 (ax d (aq (ar u-1))).bind λgc=>
 (gk IntKind.u64 (eB IntKind.u64 f8 (aJ f9)) (aJ gc)).bind λcs=>
 (loop (σ:=(Int×aM×aM×Unit)) (ρ:=(Int×aM×aM×Unit)) (λ(M,f3,ce,_)=>
 (wR (f3,d,z,M,())).bind λ(a4,fT,_)=>
  bif !fT then
 some (.inl (aJ (M-1),a4,ce,())) else
 some (.inr (M,a4,ce,()))) ((if 4294967295<cs then 4294967295 else cs),L,bl,())).bind λ(d1,f4,ft,_)=>
 wr ft z (bX d1) λge=>
 some (.inl (aq (z-1),f4,ge,())) else
 some (.inr (L,bl,()))) (((b:Int)-1),f,List.replicate b (0:Int),())) Z:=by
 have la:ae d=ae (d.take n)+aI n*d[n]:=(by rw[<-fV U,c8 U]);have kg:=dw (J.take n);have ek:=fb (J.take n);rw[dS,fr U] at ek;have el:=J.get (n:=n) U;have I:0<a:=(by have:=nJ (dQ n) (U:0<d[n]);omega);refine ac.steps b (λs F=>∃o j,F=(((b:Nat):Int)-1-s,j,o,())/\o.length=b/\aN o/\(∀i,i<b-s->(d7:i<o.length)->o[i]=0)/\j.length=c/\aN j/\ae j+a*ae o=e/\ae (j.drop (b-s))<a) ⟨List.replicate b 0,f,ab,ab,aN.j8 _,ab,d4,d9,by rw[nD,d6];omega,d8⟩ ?_ ?_
 ·rintro s _ is ⟨o,j,rfl,aw,W,X,Y,B,G,H⟩;obtain⟨i,d7⟩:∃i,b=i+1+s:=⟨b-1-s,U⟩;have al:((b:Nat):Int)-1-(s:Int)=(i:Int):=U;rw[(U:b-s=i+1)] at H;obtain⟨r,N⟩:∃r,r=j.take i:=⟨_,rfl⟩;obtain⟨h,T⟩:∃h,h=(j.drop i).take (n+2):=⟨_,rfl⟩;obtain⟨p,Q⟩:∃p,p=j.drop (i+(n+2)):=⟨_,rfl⟩;have O:r.length=i:=(by rw[N,dS];omega);have V:h.length=n+2:=(by rw[T,dS,ka];omega);have S:j=r++(h++p):=by
   rw[N,T,Q,<-nN,ku,ku]
  have gt:p.length=c-(i+(n+2)):=(by rw[Q,ka,Y]);have fs:aN r:=(by rw[N];exact B.take i);have E:aN h:=(by rw[T];exact(B.drop i).take _);have a3:aN p:=(by rw[Q];exact B.drop _);have hw:ae (j.drop i)=ae h+aI (n+2)*ae p:=(by rw[S,oN U,oO U,fi,j4,V]);have ib:ae (j.drop i)=j[i]+4294967296*ae (j.drop (i+1)):=j5 U;have lb:=B.get (n:=i) U;have d2:=dw a3;have hc:0<=aI (n+2)*ae p:=ll (dM (dQ _)) d2;have i2:ae (j.drop i)<4294967296*a:=U;have em:=dw E;have d3:ae p=0:=by
   rcases gC 0 (ae p) with q|q
   ·exfalso;have:=hW (U:1<=ae p) (dM (dQ (n+2)));have go:aI (n+2)=4294967296*aI (n+1):=fY (n+1);omega
   omega
  have R:0<=ae h/a:=Int.ediv_nonneg em U;have an:ae h/a<4294967296:=Int.ediv_lt_of_lt_mul I U;have ic:=Int.emod_add_mul_ediv (ae h) a;have jp:=Int.emod_lt_of_pos (ae h) I;have kd:=Int.emod_nonneg (ae h) (U:a≠0);have ap:=E.get (n:=n+1) U;have ex:=E.get (n:=n) U;have i1:aq ((i:Int)+ar u)=((r.length+(n+1):Nat):Int):=(by simp only[aV];rw[be U U];omega);have fn:aq (aq ((i:Int)+ar u)-1)=((r.length+n:Nat):Int):=(by rw[i1,be U U];omega);have fp:aq (ar u-1)=((n:Nat):Int):=(by simp only[aV];rw[be U U];omega);obtain⟨f0,f1⟩:=CL (x:=h[n+1]) (y:=h[n]) ap ex;obtain⟨f2,le⟩:=Cl (x:=4294967296*h[n+1]+h[n]) (y:=d[n]) ⟨U,U⟩ U;have io:ae h/a<=(4294967296*h[n+1]+h[n])/d[n]:=(by rw[Int.le_ediv_iff_mul_le U];have gf:ae h=ae (h.take n)+aI n*(4294967296*h[n+1]+h[n]):=(by have:=CV (l:=h) (m:=n) V;rw[this];grind);have cv:=fb (E.take n);rw[List.length_take,Nat.min_eq_left U] at cv;have gi:aI n*(ae h/a*d[n])<=ae h:=(by have ds:ae h/a*(aI n*d[n])<=ae h/a*a:=Int.mul_le_mul_of_nonneg_left U R;have gl:aI n*(ae h/a*d[n])=ae h/a*(aI n*d[n]):=(by grind);rw[Int.mul_comm (ae h/a) a] at ds;omega);have dl:aI n*(ae h/a*d[n])<aI n*(4294967296*h[n+1]+h[n]+1):=(by rw[Int.mul_add (aI n),Int.mul_one];omega);have:=Int.lt_of_mul_lt_mul_left dl (Int.le_of_lt (dQ n));omega);dsimp only;rw[al,bb (aA (U:(i:Int)>=0))]
  conv=>arg 1;rw[S]
  rw[Gd (k:=n+1) U i1];refine ac.bs (by rw[bV ap.1 U];exact f0) ?_;rw[Gd (k:=n) U fn];refine ac.bs (by rw[fp];exact bL U) ?_;refine ac.bs (by rw[f1,bV el.1 U];exact f2) ?_;refine ac.aU (P:=λfz=>∃t,fz=(ae h/a,r++(t++p),o,())/\t.length=n+2/\aN t/\ae t=ae h %a) ?_ ?_
  ·have id:0<=(4294967296*h[n+1]+h[n])/d[n]:=kp U U;refine ac.loop (λF=>∃q,F=(q,r++(h++p),o,())/\ae h/a<=q/\q<4294967296) (λF=>F.1.toNat) ⟨_,rfl,by split<;>omega,by split<;>omega⟩ ?_;rintro _ ⟨q,rfl,gs,d0⟩;have ci:=YA (A:=r) (w:=h) (C:=p) (v:=d) (g:=q) J E U U ⟨U,d0⟩;rw[O] at ci;refine ac.aU ci ?_;rintro _ (⟨D,rfl⟩|⟨t,D,rfl,av,a0,K⟩)
   ·have ii:ae h/a<q:=by
     rw[ad] at D;exact oM I D
    refine ac.af.2 ⟨⟨q-1,by rw[bV U U],U,U⟩,?_⟩;show(aJ (q-1)).toNat<q.toNat;rw[bV U U];omega
   rw[ad] at D K;have i0:q<=ae h/a:=(Int.le_ediv_iff_mul_le I).2 D;have am:q=ae h/a:=U;refine ac.af.2 ⟨t,by rw[am],U,a0,?_⟩;rw[K,am,gV];omega
  rintro _ ⟨t,rfl,f5,f6,co⟩;dsimp only;rw[jv R an,i6 U];refine ac.af.2 ⟨o.set i (ae h/a),r++(t++p),?_,by simp[aw],W.set R an,?_,by simp;omega,aN.append.2 ⟨fs,aN.append.2 ⟨f6,a3⟩⟩,?_,?_⟩
  ·rw[be U U];congr 1;omega
  ·intro av a0 K;rw[ry U];exact X av U (by simpa using K)
  ·rw[kM U,X i U U,j4,j4,O,co];rw[S,j4,j4,O,V] at G;rw[f5];have eq:ae h=a*(ae h/a)+ae h %a:=U;exact II G eq
  rw[(U:b-(s+1)=i),oN U,oO U,fi,j4,d3,co];omega
 rintro _ ⟨o,j,rfl,aw,W,X,Y,B,G,H⟩;have al:¬(((b:Nat):Int)-1-(b:Int)>=0):=U;simp only[ay al,cond_false];rw[Nat.sub_self,kS] at H;exact ac.af.2 (d5 o j aw W Y B G H)
end
def Tq {n:Nat} (f:aN d) (m:dp d) (u:d.length=n+1):∃c:Nat,c<=31/\r2 (d[n],())=some ((c:Int),())/\ae d*2^c<aI (n+1)/\2147483648*aI n<=ae d*2^c:=by
 have l:=f.get (n:=n) U;have q:d[n]≠0:=m _ (by rw[List.getLast?_eq_getElem?,a9 U];congr 2;omega);have h:ae d=ae (d.take n)+aI n*d[n]:=(by rw[<-fV U,c8 U]);have r:=dw (f.take n);have j:=fb (f.take n);rw[dS,fr U] at j;generalize d[n]=v at*;obtain⟨a,rfl⟩:=eE l.1;have i:0<a:=U;have t:az a<=32:=de.2 U;have s:=n8 i;obtain⟨g,o⟩:=tR i;obtain⟨b,k⟩:∃b,az a=b+1:=⟨az a-1,U⟩;refine⟨32-az a,U,?_,?_,?_⟩
 ·unfold r2;refine ak (E3 (n:=a) U) ?_;show some (aq (32-(az a:Int)),())=_;rw[be U U];congr 2;omega
 ·have al:ae d<aI n*2^az a:=by
   have:aI n*((a:Int)+1)<=aI n*2^az a:=hW (by rw[<-iD];omega) (dM (dQ _));have p:aI n*((a:Int)+1)=aI n*(a:Int)+aI n:=(by rw[Int.mul_add,Int.mul_one]);show ae d<_;rw[h];show ae (d.take n)+aI n*(a:Int)<_;omega
  have e:ae d*2^(32-az a)<aI n*2^az a*2^(32-az a):=pZ al (h7 _);rw[i9,<-ja,(U:az a+(32-az a)=32)] at e;rw[fY];have:aI n*2^32=4294967296*aI n:=(by rw[gV];rfl);omega
 have al:aI n*2^b<=ae d:=(by have:aI n*2^b<=aI n*(a:Int):=hW (by rw[<-iD];rw[k] at g;simp only[tE] at g;omega) (dM (dQ _));rw[h];show _<=ae (d.take n)+aI n*(a:Int);omega);have e:aI n*2^b*2^(32-az a)<=ae d*2^(32-az a):=kq al (dM (h7 _));rw[i9,<-ja,(U:b+(32-az a)=31)] at e;have:aI n*2^31=2147483648*aI n:=(by rw[gV];rfl);omega
def Yz (a:aN d) (f:b<=d.length) (g:ae d<aI b):ae (d.take b)=ae d:=by
 have e:=mN d b f;have h:=dw (a.drop b);have i:=dw (a.take b);rcases gC 0 (ae (d.drop b)) with c|c
 ·exfalso;have:=hW (U:1<=ae (d.drop b)) (dM (dQ b));omega
 rw[(U:ae (d.drop b)=0)] at e;omega
def W9 (l:aN f) (m:aN d) (S:dp f) (u:dp d) (d6:f.length<=1000000) (d7:d.length<=1000000) (I:d≠[]):Ay (f,d,())=some (bK (ae f/ae d).toNat,bK (ae f %ae d).toNat,()):=by
 unfold Ay;refine ac.eq_iff.1 ?_;have G:=dw l;have ad:0<ae d:=(by have:=dw m;have:ae d≠0:=λW=>I (dp.zero m u W);omega);refine ac.bs (Mo l m S u U U) ?_;dsimp only;rw[bj];refine ac.ite (λw=>?_) λw=>?_
 ·have t:ae f<ae d:=Ik.1 w;refine ac.af.2 ?_;rw[nH G t,pY G t];show(([]:ac8),f,())=(bK 0,bK (ae f).toNat,());rw[Ei,<-dp.eq l S]
 have d2:ae d<=ae f:=Int.not_lt.1 (mt Ik.2 w);obtain⟨b,J⟩:∃b,d.length=b+1:=(by have:=yQ.2 I;exact⟨d.length-1,U⟩);have al:aq (ar d-1)=((b:Nat):Int):=(by simp only[aV];rw[be U U];omega);obtain⟨c,cv,dl,R,ek⟩:=Tq m u J;have d3:b+1<=f.length:=by
  rcases bn f.length (b+1) with j|j
  ·have:=oH l m u U;omega
  exact j
 have C:=h7 c;refine ac.bs (y:=d[b]) (by rw[al];exact bL U) (ac.bs dl ?_);refine ac.aU (Gk l U (n:=c) U) ?_;rintro _ ⟨v,rfl,O,L,K⟩;refine ac.aU (Gk m U (n:=c) U) ?_;rintro _ ⟨T,rfl,Q,N,a4⟩;rw[(U:c/32=0),Nat.zero_add] at K a4;have Y:ar d=((b+1:Nat):Int):=(by simp only[aV];omega);dsimp only;refine ac.bs (y:=(0,b+1)) ?_ ?_
 ·rw[Y,aG,q0,aG,sA ⟨bM _,U⟩,aG,F2 U];rfl
 obtain⟨h,M⟩:∃h,h=(T.take (b+1)).drop 0:=⟨_,rfl⟩;have D:h=T.take (b+1):=(by rw[M,kS]);have bf:aN h:=(by rw[D];exact Q.take _);have av:ae h=ae d*2^c:=(by rw[D,Yz Q U (by rw[N];exact R),N]);have bl:h.length=b+1:=(by rw[D,dS];omega);have a3:1<=h[b]:=by
  have p:ae h=ae (h.take b)+aI b*h[b]:=(by rw[<-fV U,c8 U]);have k:=fb (bf.take b);rw[dS,fr U] at k;have d4:=dQ b;rcases gC h[b] 1 with j|j
  ·exfalso;have:h[b]=0:=(by have:=bf.get (n:=b) U;omega);rw[this] at p;omega
  exact j
 dsimp only;rw[<-M];refine ac.bs (y:=(h,v,())) ?_ ?_
 ·rw[a2];rw[dO];exact ay (by simp only[aV];omega)
 obtain⟨g,a0⟩:∃g,f.length+1=g+(b+1):=⟨f.length+1-(b+1),U⟩;have E:aq (ar f-ar d)=(g:Int)-1:=(by simp only[aV];rw[be U U];omega);have X:aQ (aq (ar f-ar d))=((g:Nat):Int):=(by rw[E];unfold aQ;rw[wrap64 U U];omega);dsimp only;refine ac.bs (y:=g) (by rw[X];exact gA U) ?_;have t:ae (v.drop g)<ae d*2^c:=(by have x:=mN v g U;have F:=dw (O.take g);rw[L] at x;have p:ae f*2^c<aI f.length*2^c:=Int.mul_lt_mul_of_pos_right (fb l) C;have z:aI f.length=aI g*aI b:=(by rw[<-ro];congr 1;omega);have k:aI g*ae (v.drop g)<aI g*(aI b*2^c):=(by rw[<-Int.mul_assoc,<-z];omega);have s:=Int.lt_of_mul_lt_mul_left k (Int.le_of_lt (dQ g));have d1:aI b*2^c<=aI b*2147483648:=Int.mul_le_mul_of_nonneg_left (sX cv) (Int.le_of_lt (dQ _));omega);rw[E];refine ac.aU (P:=λV=>∃e i,V=(i,e,())/\e.length=g/\aN e/\i.length=f.length+1/\aN i/\ae i+ae d*2^c*ae e=ae f*2^c/\ae i<ae d*2^c) (W8 bf av bl R a3 O L K a0 U U t d J λe i x F p z k s=>⟨e,i,rfl,x,F,p,z,k,s⟩) ?_;rintro _ ⟨e,i,rfl,aw,cs,el,o,k,s⟩;have d5:=dw o;have H:ae i=2^c*(ae f-ae d*ae e):=(by have ds:ae d*2^c*ae e=2^c*(ae d*ae e):=(by grind);have d0:2^c*(ae f-ae d*ae e)=2^c*ae f-2^c*(ae d*ae e):=Int.mul_sub ..;rw[Int.mul_comm (ae f)] at k;omega);have am:0<=ae f-ae d*ae e:=by
  rcases gC (ae f-ae d*ae e) 0 with j|j
  ·have:=Int.mul_neg_of_pos_of_neg C j;omega
  exact j
 have an:ae f-ae d*ae e<ae d:=(by have:2^c*(ae f-ae d*ae e)<2^c*ae d:=(by rw[<-H,Int.mul_comm (2^c)];exact s);exact Int.lt_of_mul_lt_mul_left this (Int.le_of_lt C));have ap:ae i/2^c=ae f-ae d*ae e:=(by rw[H];exact Int.mul_ediv_cancel_left _ U);obtain⟨Z,f2⟩:=Cm (A:=ae f) (B:=ae d) (q:=ae e) (r:=ae f-ae d*ae e) ad U am an;dsimp only;refine ac.bs (yk o U) ?_;dsimp only;refine ac.aU (Gl (a:=fD i) (n:=c) (GH i) (by have:=Nm o;omega) U) ?_;rintro _ ⟨ce,rfl,ci,co,d8⟩;have d9:=Nm o;dsimp only;refine ac.bs (yk cs U) (ac.bs (yk ci U) (ac.af.2 ?_));show(fD e,fD ce,())=_;rw[fD,fD,co,GI o,ap,Z,f2]
def vh {x y:Int} (t:az x.natAbs<=3000000) (u:az y.natAbs<=3000000):m4 (aL x,aL y,())=some (aL (x+y),()):=by
 obtain⟨c,l,z⟩:=fM t;obtain⟨d,m,A⟩:=fM u;unfold m4;dsimp only;refine ac.eq_iff.1 ?_;refine ac.bs (rb c l U) (ac.bs (rb d m U) ?_);dsimp only;have q:=gd x;have r:=gd y;have v:(aL x).1=decide (x<0):=rfl;have w:(aL y).1=decide (y<0):=rfl;rw[v,w];by_cases k:(decide (x<0)==decide (y<0))=true
 ·rw[bb k];refine ac.aU (WV c d U U) ?_;rintro _ ⟨h,rfl,i,j,s⟩;refine ac.bs (ra i (by show h.length<=_;omega) j) (ac.af.2 ?_);dsimp only;congr 2;have:decide (x<0)=decide (y<0):=(by simpa using k);have e:x<0↔y<0:=(by simpa using this);rw[q,r];by_cases a:x<0
  ·rw[aj (aA a)];have:=e.1 a;omega
  rw[ag (by simpa using a)];have:=mt e.2 a;omega
 rw[a2 (by simpa using k)];have e:¬(x<0↔y<0):=(by simpa using k);refine ac.bs (Mo c d l m U U) ?_;dsimp only;rw[bj];refine ac.ite (λn=>?_) λn=>?_
 ·have p:=ql.1 n;have o:(aL y).2.1.length<=(aL x).2.1.length:=by
   rcases bn (aL x).2.1.length (aL y).2.1.length with g|g
   ·have:=oH c d m g;omega
   exact g
  refine ac.aU (MP c d U o p) ?_;rintro _ ⟨h,rfl,i,j,s⟩;refine ac.bs (ra i (by show h.length<=_;omega) j) (ac.af.2 ?_);dsimp only;congr 2;rw[q,r] at*;by_cases a:x<0
  ·rw[aj (aA a)];have:¬y<0:=λb=>e ⟨λ_=>b,λ_=>a⟩;omega
  rw[ag (by simpa using a)];have:y<0:=Decidable.byContradiction λb=>e ⟨λf=>absurd f a,λf=>absurd f b⟩;omega
 have p:ae (aL x).2.1<ae (aL y).2.1:=Int.not_le.1 (mt ql.2 n);have o:(aL x).2.1.length<=(aL y).2.1.length:=by
  rcases bn (aL y).2.1.length (aL x).2.1.length with g|g
  ·have:=oH d c l g;omega
  exact g
 refine ac.aU (MP d c U o (Int.le_of_lt p)) ?_;rintro _ ⟨h,rfl,i,j,s⟩;refine ac.bs (ra i (by show h.length<=_;omega) j) (ac.af.2 ?_);dsimp only;congr 2;rw[q,r] at*;by_cases a:x<0
 ·have b:¬y<0:=λb=>e ⟨λ_=>b,λ_=>a⟩;rw[ag (by simpa using b)];omega
 have b:y<0:=Decidable.byContradiction λb=>e ⟨λf=>absurd f a,λf=>absurd f b⟩;rw[aj (aA b)];omega
def MO (c:az a.natAbs<=3000000) (b:az e.natAbs<=3000000):uv (aL a,aL e,())=some (aL (a-e),()):=by unfold uv;refine ak (MG b) ?_;dsimp only;exact ak (vh c (by rw[Int.natAbs_neg];exact b)) (by rw[<-Int.sub_eq_add_neg])
def ME {x y:Int} (h:az x.natAbs<=3000000) (i:az y.natAbs<=3000000):wN (aL x,aL y,())=some (aL (x*y),()):=by
 obtain⟨d,f,m⟩:=fM h;obtain⟨e,g,n⟩:=fM i;unfold wN;dsimp only;refine ac.eq_iff.1 ?_;refine ac.bs (rb d f U) (ac.bs (rb e g U) ?_);dsimp only;refine ac.aU (Xn d e U U) ?_;rintro _ ⟨j,rfl,k,l,o⟩;refine ac.bs (ra k (by show j.length<=_;omega) l) (ac.af.2 ?_);dsimp only;rw[gd,gd];congr 2;show(if(!(decide (x<0)==decide (y<0)))=true then _ else _)=_;rcases Int.lt_or_le x 0 with b|b<;>rcases Int.lt_or_le y 0 with c|c
 ·rw[aA b,aA c];have al:(x.natAbs:Int)=-x:=U;have a:(y.natAbs:Int)=-y:=U;rw[al,a];simp<;>grind
 ·rw[aA b,ay (U:¬y<0)];have al:(x.natAbs:Int)=-x:=U;have a:(y.natAbs:Int)=y:=U;rw[al,a];simp<;>grind
 ·rw[aA c,ay (U:¬x<0)];have al:(x.natAbs:Int)=x:=U;have a:(y.natAbs:Int)=-y:=U;rw[al,a];simp<;>grind
 rw[ay (U:¬y<0),ay (U:¬x<0)];have al:(x.natAbs:Int)=x:=U;have a:(y.natAbs:Int)=y:=U;rw[al,a];simp
def Cu {n:Int} (c:-9223372036854775808<=n) (d:n<=9223372036854775807):pc (n,())=some (aL n,()):=by
 unfold pc;dsimp only;obtain⟨a,e,f,g⟩:∃a:Int,a=n.natAbs/\0<=a/\a<=9223372036854775808:=⟨_,rfl,U,U⟩;refine ak (y:=(a,(false,([],())),())) ?_ ?_
 ·rw[bj];split
  ·rename_i b;have al:aQ n=n+1:=(by unfold aQ;exact wrap64 U U);rw[al,be U U,bV (x:=0-(n+1)) U U,bV U U];congr 2;omega
  rename_i b;rw[bV U U];congr 2;omega
 dsimp only;rw[lh,Option.bind_some,nE a,jv (x:=a/4294967296) U U];refine ak (ye (aN.cons.2 ⟨⟨U,U⟩,aN.cons.2 ⟨⟨U,U⟩,aN.nil⟩⟩) ab) ?_;dsimp only;congr 2;congr 1;unfold e5;simp only[ae];by_cases b:n<0
 ·simp[b];omega
 simp[b];omega
def yi {z:Int} {n:Nat} (b:az z.natAbs<=3000000) (i:n<=10000000):jO (aL z,(n:Int),())=some (aL (z*2^n),()):=by
 obtain⟨d,g,h⟩:=fM b;unfold jO;dsimp only;refine ac.eq_iff.1 ?_;refine ac.bs (vj b) ?_;dsimp only;rw[bb (aA (U:(n:Int)>=0))];refine ac.aU (Gk d U (n:=n) U) ?_;rintro _ ⟨e,rfl,f,c,j⟩;rw[gd] at c;refine ac.bs (ra f (by show e.length<=_;omega) c) (ac.af.2 ?_);dsimp only;congr 2;show(if decide (z<0)=true then _ else _)=_;by_cases a:z<0
 ·rw[aj (aA a),<-Int.neg_mul];congr 1;omega
 rw[ag (by simpa using a)];congr 1;omega
def MN {z:Int} {n:Nat} (i:az z.natAbs<=2900000) (q:n<=10000000) (r:0<n):jO (aL z,-(n:Int),())=some (aL (z/2^n),()):=by
 obtain⟨e,l,o⟩:=fM (z:=z) U;have h:=h7 n;unfold jO;dsimp only;refine ac.eq_iff.1 ?_;refine ac.bs (vj U) ?_;dsimp only;have al:aq (0- -(n:Int))=(n:Int):=(by rw[be U U];omega);rw[a2 (ay (U:¬(-(n:Int)>=0))),al];refine ac.aU (Gl e U (n:=n) U) ?_;rintro _ ⟨u,rfl,j,d,v⟩;rw[gd] at d|-;dsimp only;refine ac.bs (ra j U d) ?_;dsimp only;have k:(aL z).1=decide (z<0):=rfl;rw[k];have s:0<=(z.natAbs:Int)/2^n:=Int.ediv_nonneg U U;have t:(z.natAbs:Int)/2^n<=z.natAbs:=Int.ediv_le_self _ U;have a:=KH (m:=z.natAbs) h U;refine ac.bs (y:=((false,([],())),aL (z/2^n),())) ?_ (ac.af.2 rfl);by_cases c:z<0
 ·rw[aA c];rw[(U:-(z.natAbs:Int)=z)] at a;by_cases b:(z.natAbs:Int) %2^n=0
  ·rw[ay (show¬((z.natAbs:Int) %2^n≠0) fromλf=>f b)];refine ak rfl ?_;dsimp only[cond_false];rw[if_pos b] at a;rw[if_pos rfl,a]
  rw[aA (show(z.natAbs:Int) %2^n≠0 from b)];refine ak rfl ?_;dsimp only[cond_true];rw[if_neg b] at a;refine ak (Cu aa aa) ?_;dsimp only;have g:az (-((z.natAbs:Int)/2^n)).natAbs<=3000000:=(by rw[de];have:=de.1 i;have p:=L0 2900000 3000000 aa;omega);rw[if_pos rfl];refine ak (MO g aa) ?_;rw[a];dsimp only;congr 4;omega
 rw[ay c];refine ak rfl ?_;dsimp only[cond_false];rw[if_neg ab,(U:(z.natAbs:Int)=z)]
def F9 {x y:Int} (b:az x.natAbs<=2900000) (c:az y.natAbs<=2900000):uu (aL x,aL y,())=some (dx x y,()):=by
 unfold uu;refine ak (MO U U) ?_;have a:az (x-y).natAbs<=3000000:=(by have d:=H7 2900000 b c;have e:=hJ (U:(x-y).natAbs<=x.natAbs+y.natAbs);omega);refine ak (hR a) ?_;dsimp only;congr 2;unfold dE dx;split
 ·rw[ag U,ag U]
 split
 ·rw[aj U]
 rw[ag U,aj U]
def zj (a:az c<=b) (d:az g<=b):az (c+g)<=b+1:=by rw[de,je];have:=de.1 a;have:=de.1 d;omega
def Mp {x y:Int} (o:az x.natAbs<=3000000) (j:az y.natAbs<=3000000) (F:0<=x) (c:y≠0):wL (aL x,aL y,())=some (aL (x/y),aL (x %y),()):=by
 obtain⟨m,p,q⟩:=fM o;obtain⟨n,r,s⟩:=fM j;have w:(aL y).2.1≠[]:=λt=>c (uF.1 t);unfold wL;refine ak (vj o) (ak (vj j) ?_);dsimp only;refine ak (W9 m n p r U U w) ?_;rw[gd,gd];have A:(aL x).1=false:=ay U;have C:(aL y).1=decide (y<0):=rfl;rw[A,C];have f:0<=(x.natAbs:Int)/(y.natAbs:Int):=Int.ediv_nonneg U U;have g:(x.natAbs:Int)/(y.natAbs:Int)<=x.natAbs:=Int.ediv_le_self _ U;have h:0<=(x.natAbs:Int) %(y.natAbs:Int):=Int.emod_nonneg _ U;have i:(x.natAbs:Int) %(y.natAbs:Int)<(y.natAbs:Int):=Int.emod_lt_of_pos _ U;have d:∀a:Int,a<=x.natAbs->(bK a.toNat).length<=100000:=λa k=>yw (l:=(aL x).2.1) m q (by rw[gd];exact k);have e:∀a:Int,a<=y.natAbs->(bK a.toNat).length<=100000:=λa k=>yw (l:=(aL y).2.1) n s (by rw[gd];exact k);dsimp only;refine ak (ra (ix _) (by have:=d _ g;omega) (sl f)) (ak (ra (ix _) (by have:=e _ (Int.le_of_lt i);omega) (sl h)) ?_);dsimp only;rw[if_neg (ab:¬(false=true))];have al:(x.natAbs:Int)=x:=U;rw[al] at*;have u:x %(y.natAbs:Int)=x %y:=by
  rcases gC y 0 with b|b
  ·rw[(U:(y.natAbs:Int)=-y),Int.emod_neg]
  rw[(U:(y.natAbs:Int)=y)]
 rw[u] at*;have D:0<=x %y:=l1 _ c;have E:x %y<y.natAbs:=Int.emod_lt x c;have z:az (x %y).natAbs<=3000000:=(by clear f g h i d e;generalize x %y=B at*;exact db (hJ U) j);have v:(if(!(false==decide (y<0)))=true then-(x/(y.natAbs:Int)) else x/(y.natAbs:Int))=x/y:=by
  rcases gC y 0 with b|b
  ·rw[aA b,(U:(y.natAbs:Int)=-y),Int.ediv_neg];simp
  rw[ay (U:¬y<0),(U:(y.natAbs:Int)=y)];simp
 rw[v];refine ak (y:=((false,([],())),(false,([],())),aL (x/y),aL (x %y),())) ?_ rfl;refine ak (hR z) ?_;dsimp only;rw[a2 (ay ?_)];clear f g h i d e;generalize x %y=B at*;unfold dE;split;omega;split<;>omega
def XG {x:Int} (e:az x.natAbs<=900000) (k:0<=x):Aw (aL x,())=some (aL (bz x.toNat),()):=by
 unfold Aw;refine ac.eq_iff.1 ?_;refine ac.bs (hR U) ?_;dsimp only;rw[dO,bj];refine ac.ite (λc=>?_) λc=>?_
 ·have:x=0:=by
   unfold dE at c;split at c
   ·assumption
   split at c<;>omega
  subst this;exact ac.af.2 rfl
 have E:0<x:=by
  unfold dE at c;split at c
  ·exact absurd rfl c
  omega
 obtain⟨a,rfl⟩:=eE k;have A:0<a:=U;have l:az a<=900000:=e;obtain⟨h,q⟩:=pt a;have C:0<bz a:=by
  rcases h0 (bz a) with b|b
  ·rw[b] at q;omega
  exact b
 refine ac.bs (Cu aa aa) (ac.bs (s1 U) ?_);have al:gk IntKind.i64 (aQ (az a:Int)) 2=some (((az a+1)/2:Nat):Int):=(by unfold gk;rw[bi U,if_pos aa,Int.tdiv_eq_ediv_of_nonneg U,wrap64 U U];simp);dsimp only;refine ac.bs al (ac.bs (yi (z:=1) aa U) ?_);have i:(1:Int)*2^((az a+1)/2)=((2^((az a+1)/2):Nat):Int):=(by rw[iD,Int.one_mul]);rw[i];refine ac.aU (P:=λp=>p=(aL (bz a:Int),())) ?_ (by rintro _ rfl;exact ac.af.2 rfl);refine ac.loop (λg=>∃x:Nat,g=((false,([],())),aL (x:Int),())/\bz a<=x/\az x<=1000000) (λg=>(ae g.2.1.2.1).toNat) ⟨_,rfl,?_,?_⟩ ?_
 ·refine CD h ?_;have t:=de.1 (a6 (az a));have u:2^az a<=2^((az a+1)/2)*2^((az a+1)/2):=by
   rw[<-gW];exact nW aa U
  have v:=iu (Nat.le_add_right (2^((az a+1)/2)) 1) (Nat.le_add_right (2^((az a+1)/2)) 1);omega
 ·rw[de];exact x2 _ 1000000 U
 rintro _ ⟨x,rfl,F,r⟩;have e:0<x:=U;have d:∀f:Nat,(f:Int).natAbs=f:=λf=>U;refine ac.bs (Mp (x:=(a:Int)) (y:=(x:Int)) (by rw[d];omega) (by rw[d];omega) U U) ?_;rw[<-Int.natCast_ediv];dsimp only;have B:az (a/x)<=900000:=Nat.le_trans (hJ (Nat.div_le_self _ _)) l;refine ac.bs (vh (x:=(x:Int)) (y:=((a/x:Nat):Int)) (by rw[d];omega) (by rw[d];omega)) ?_;rw[<-Int.natCast_add];dsimp only;have D:az (x+a/x)<=1000001:=zj r U;refine ac.bs (MN (z:=((x+a/x:Nat):Int)) (n:=1) (by rw[d];omega) aa aa) ?_;have j:((x+a/x:Nat):Int)/2^1=(((x+a/x)/2:Nat):Int):=(by rw[show(2:Int)^1=((2:Nat):Int) from rfl,<-Int.natCast_ediv]);rw[j];dsimp only;have o:az ((x+a/x)/2)<=1000000:=(by have:=o0 (x+a/x) 1;rw[Nat.pow_one] at this;omega);refine ac.bs (F9 (x:=(((x+a/x)/2:Nat):Int)) (y:=(x:Int)) (by rw[d];omega) (by rw[d];omega)) ?_;dsimp only;rw[bj];refine ac.ite (λb=>?_) λb=>?_
 ·refine ac.af.2 ?_;have m:x<=(x+a/x)/2:=(by have:=ql.1 b;omega);have:=KK e m;rw[BH this (by
   have w:=iu (U:bz a+1<=x+1) (U:bz a+1<=x+1);omega)]
 refine ac.af.2 ⟨⟨(x+a/x)/2,rfl,KJ e h,o⟩,?_⟩;show(ae (aL (((x+a/x)/2:Nat):Int)).2.1).toNat<(ae (aL (x:Int)).2.1).toNat;rw[gd,gd];have:=mt ql.2 b;generalize(x+a/x)/2=s at*;omega
def MC {z:Int} {n:Nat} (c:az z.natAbs<=3000000) (e:n<=10000000):wM (aL z,(n:Int),())=some (decide ((z.natAbs:Int) %2^n≠0),()):=by obtain⟨a,b,d⟩:=fM c;unfold wM;dsimp only;refine ac.eq_iff.1 ?_;refine ac.bs (rb a b U) ?_;dsimp only;refine ac.aU (Gl a U (n:=n) U) ?_;rintro _ ⟨f,rfl,g,h,i⟩;rw[gd];exact ac.af.2 rfl
def Xl {z:Int} (p:0<=z) (d:z<9223372036854775808):Av (aL z,())=some (z,true,()):=by
 have f:az z.natAbs<=64:=de.2 U;obtain⟨b,n,o⟩:=fM (z:=z) U;have q:(aL z).2.1.length<=2:=m6 U;unfold Av;dsimp only;refine ac.eq_iff.1 ?_;refine ac.bs (vj U) ?_;dsimp only;rw[a2 (ay (show¬(ar (aL z).2.1>2) by simp only[aV];omega))];refine ac.aU (P:=λl=>l=(z,aL z,())) ?_ ?_
 ·have k:=gd z;refine ac.steps (aL z).2.1.length (λa m=>m=(ae ((aL z).2.1.take a),(a:Int),aL z,())) rfl ?_ ?_
  ·rintro a _ c rfl;have h:=b.get c;dsimp only;rw[bb (aA (show(a:Int)<ar (aL z).2.1 by simp only[aV];omega)),bL c,Option.bind_some];have d:=dw (b.take a);have e:=fb (b.take a);rw[List.length_take,Nat.min_eq_left U,oL] at e;have al:aq (32*(a:Int))=((32*a:Nat):Int):=(by rw[be U U];simp);have f:(2:Int)^(32*a)<=4294967296:=by
    rcases(U:a=0\/a=1) with rfl|rfl<;>decide
   have j:=h7 (32*a);have r:(aL z).2.1[a]*2^(32*a)<4294967296*4294967296:=(by have:=hW f h.1;omega);have g:0<=(aL z).2.1[a]*2^(32*a):=ll h.1 (dM j);rw[al,bV (x:=(aL z).2.1[a]) U U,lW U U,aG,bY,pY g U,k9 (32*a) d e g U U (Int.mul_emod_left _ _),bi U];refine ac.af.2 ?_;show(_,_,aL z,())=(_,_,aL z,());rw[fV c,oL,gV (2^(32*a))]
  rintro _ rfl;dsimp only;rw[a2 (ay (show¬(((aL z).2.1.length:Int)<ar (aL z).2.1) by simp only[aV];omega)),List.take_of_length_le (Nat.le_refl _),k];refine ac.af.2 ?_;show(((z.natAbs:Nat):Int),aL z,())=_;rw[(U:((z.natAbs:Nat):Int)=z)]
 rintro _ rfl;have i:(aL z).1=false:=ay U;dsimp only;rw[i,cond_false,a2 (ay (U:¬(z>9223372036854775807))),be U U];exact ac.af.2 rfl
def M1 (d:az e.natAbs<=1900000) (g:-1048576<=a) (h:a<=1048576):o9 (aL e,a,())=some (aL (nz e a),0,()):=by
 rcases gC a 0 with f|f
 ·obtain⟨b,c⟩:∃b:Nat,a=-(b:Int):=⟨(-a).toNat,U⟩;subst c;rw[XY d U U,vq]
 obtain⟨b,c⟩:∃b:Nat,a=(b:Int):=⟨a.toNat,U⟩;subst c;rw[XZ d U,lV]
def yh (f:az e.natAbs<=2900000) (g:-10000000<=a) (h:a<=10000000):jO (aL e,a,())=some (aL (nz e a),()):=by
 rcases gC a 0 with d|d
 ·obtain⟨b,c⟩:∃b:Nat,a=-(b:Int):=⟨(-a).toNat,U⟩;subst c;rw[MN f U U,vq]
 obtain⟨b,c⟩:∃b:Nat,a=(b:Int):=⟨a.toNat,U⟩;subst c;rw[yi U U,lV]
def bh (a:Int):Int:=if a=0 then 0 else ei a
def va:aZ 0=0:=rfl
def eK (a:Int):aT (some a)=(false,aL (aZ a),bh a,()):=by
 by_cases b:a=0
 ·subst b;rfl
 rw[I1 b,bh,ag b]
def hA (b:eR a):az (aZ a).natAbs<=131072:=by
 by_cases c:a=0
 ·subst c;exact b
 rw[Tw c];unfold eR at b;omega
def hQ (b:eR a):-65536<=bh a/\bh a<=65536:=by
 unfold bh;split
 ·omega
 rename_i c;have:=tc (n:=a.natAbs) U;unfold eR at b;unfold ei;omega
def BU (c:eR a):e8 (aZ a) (bh a)=some a:=by
 by_cases b:a=0
 ·subst b;rfl
 rw[bh,ag b,S1 c]
def Tx (c:a=0\/e<=ei a) (g:-65536<=e):aZ a*2^(bh a-e).toNat*2^(e+65536).toNat=a:=by
 by_cases b:a=0
 ·subst b;rw[va];simp
 have d:=q3 a;have f:=c.resolve_left b;rw[bh,ag b,i9,<-ja];have:(ei a-e).toNat+(e+65536).toNat=bq a.natAbs:=(by unfold ei at*;omega);rw[this,d]
def IZ (y:a≠0) (t:¬(e+bq a.natAbs< -65536\/65536<e+az a.natAbs)):aT (e8 a e)=(false,aL (a/2^bq a.natAbs),e+bq a.natAbs,())/\(e8 a e).isSome=true:=by
 obtain⟨b,o⟩:∃b,b=nz a (e+65536):=⟨_,rfl⟩;have B:e8 a e=some b:=(by unfold e8;rw[ag y,ag t,o]);rw[B];refine⟨?_,rfl⟩;obtain⟨g,w⟩:=rh (n:=a.natAbs) U;have l:=(sB (n:=a.natAbs) (k:=bq a.natAbs) U).1 (a6 _);have A:a/2^bq a.natAbs*2^bq a.natAbs=a:=Ea l;have z:(a/2^bq a.natAbs).natAbs=2*g+1:=by
  rw[xM l]
  conv=>lhs;lhs;rw[w]
  exact Nat.mul_div_cancel _ (hp _)
 generalize G:bq a.natAbs=d at*;generalize F:a/2^d=j at*;have i:b=j*2^(e+d+65536).toNat:=by
  rw[o,<-A];rcases Int.le_total 0 (e+65536) with s|s
  ·obtain⟨c,h⟩:∃c:Nat,e+65536=c:=⟨(e+65536).toNat,U⟩;rw[h,lV,i9,<-ja];congr 2;omega
  obtain⟨c,h⟩:∃c:Nat,e+65536=-(c:Int):=⟨(-(e+65536)).toNat,U⟩;obtain⟨q,x⟩:∃q:Nat,d=q+c:=⟨d-c,U⟩;rw[h,vq,x,ja,<-i9,Int.mul_ediv_cancel _ (by have:=h7 c;omega)];congr 2;omega
 obtain⟨f,v⟩:∃f:Nat,e+d+65536=f:=⟨(e+d+65536).toNat,U⟩;rw[v,bY] at i;have p:b.natAbs=(2*g+1)*2^f:=(by rw[i,k8,z]);have m:bq b.natAbs=f:=vv p;have C:b≠0:=(by intro u;rw[u] at p;have D:=Nat.mul_pos (U:0<2*g+1) (hp f);have E:(0:Int).natAbs=0:=rfl;omega);rw[I1 C];have al:aZ b=j:=(by unfold aZ;rw[m,i,Int.mul_ediv_cancel _ (by have:=h7 f;omega)]);have r:ei b=e+d:=(by unfold ei;rw[m];omega);rw[al,r]
def MB {m:Int} {n:Nat} (b:az m.natAbs<=1900000) (f:n<=1048576):wq (aL m,(n:Int),())=some (aL (m/2^n),()):=by
 unfold wq;dsimp only;refine ac.eq_iff.1 ?_;refine ac.aU (P:=λd=>d=((n:Int),aL m,(false,([],())),())) ?_ ?_
 ·refine ac.steps 0 (λc a=>a=((n:Int),aL m,(false,([],())),())) rfl (λc a e=>by omega) ?_;rintro _ rfl;dsimp only;rw[a2 (ay (U:¬((n:Int)>1048576)))];exact ac.af.2 rfl
 rintro _ rfl;dsimp only;rw[be U U,Int.zero_sub];refine ac.bs (M1 b U U) (ac.af.2 ?_);rw[vq]
def uS {m k:Int} (c:az m.natAbs<=1900000) (a:0<=k) (b:k<=1048576):lH (aL m,k,())=some (aL (m*2^k.toNat),()):=by unfold lH;refine ak (M1 c U b) ?_;obtain⟨d,rfl⟩:=eE a;show some (aL (nz m (d:Int)),())=_;rw[lV];rfl
def KN (r:az a.natAbs<=900000) (p:-1000000000000<=e) (q:e<=1000000000000):lI ((false,aL a,e,()),())=some (aT (e8 a e),(e8 a e).isSome,()):=by
 obtain⟨i,m,o⟩:=fM (z:=a) U;unfold lI;dsimp only;rw[cond_false];have h:=Tr (b:=aL a) i U;rw[mM] at h;refine ak h ?_;refine ak (pM (hx U)) ?_;dsimp only;rw[dO,bj];split
 ·rename_i c;have:a=0:=by
   unfold dE at c;split at c
   ·assumption
   split at c<;>omega
  subst this;rfl
 rename_i c;have d:a≠0:=(by intro e;subst e;exact c rfl);have s:=tc (n:=a.natAbs) U;refine ak (Nx (hx U) d) ?_;dsimp only;by_cases g:e+bq a.natAbs< -65536\/65536<e+az a.natAbs
 ·have l:e8 a e=none:=(by unfold e8;rw[if_neg d,if_pos g]);rw[l];refine ak (y:=.inr (aT none,false,())) ?_ rfl;refine ak (y:=(true,(false,((false,([],())),((0:Int),()))),aL a,())) ?_ rfl;refine ak (rL (hx U)) ?_;dsimp only;rw[be (x:=65536-(az a.natAbs:Int)) U U,be U U];by_cases f:e>65536-(az a.natAbs:Int)
  ·rw[aA f];rfl
  rw[ay f,aA (U:e< -65536-(bq a.natAbs:Int))];rfl
 obtain⟨j,k⟩:=IZ d g;rw[j,k];refine ak (y:=.inl ((false,((false,([],())),((0:Int),()))),aL a,())) ?_ ?_
 ·refine ak (y:=(false,(false,((false,([],())),((0:Int),()))),aL a,())) ?_ rfl;refine ak (rL (hx U)) ?_;dsimp only;rw[be (x:=65536-(az a.natAbs:Int)) U U,be U U];rw[ay (U:¬(e>65536-(az a.natAbs:Int))),ay (U:¬(e< -65536-(bq a.natAbs:Int)))];rfl
 refine ak (MB U U) ?_;dsimp only;rw[be U U]
def sO (b:dm i):lI (aT i,())=some (aT i,i.isSome,()):=by
 cases i with
 |none=>rfl
 |some c=>
  have a:=b c rfl;have d:=hA a;have e:=hQ a;rw[eK,KN U U U,BU a,eK]
def xG (d:az e.natAbs<=900000) (b:-1000000000000<=a) (c:a<=1000000000000):qn (aL e,a,())=some (aT (e8 e a),()):=by unfold qn;exact ak (KN d b c) rfl
def Bd (a:dm i):o6 (aT i,())=some (aT i,()):=by unfold o6;exact ak (sO a) rfl
def lU (a:ac2):Int:=dE (a.getD 0)
def Gs (a:Int):dE (aZ a)=dE a:=by
 unfold dE;have:=u9 (v:=a);by_cases b:a=0
 ·subst b;rfl
 have:=gH b;rw[ag this,ag b];split<;>split<;>first|rfl|omega
def mm (a:dm i):ob (aT i,())=some (lU i,()):=by
 unfold ob;refine ak (sO a) ?_;cases i with
 |none=>exact ak (pM (z:=0) (hx aa)) rfl
 |some b=>
  have c:=hA (a b rfl);rw[eK];refine ak (pM (hx U)) ?_;show some (dE (aZ b),())=_;rw[Gs];rfl
def GJ {a b:ac2} (c:dm a) (d:dm b):ud (aT a,aT b,())=some (aT a,aT b,a.isSome&&b.isSome,()):=by unfold ud;refine ak (sO c) (ak (sO d) ?_);cases a<;>rfl
def jU (c d:ac2):ac2:=c.bind λa=>d.bind λb=>e8 (aZ a*aZ b) (bh a+bh b)
def n3 (a b:ac2):ac2:=a.bind λc=>b.bind λd=>k2 (c+d)
def ot (a:ac2):ac2:=a.map λb=>-b
def y6 (a:ac2):ac2:=a.map λb=>(b.natAbs:Int)
def BY (b c:ac2):dm (jU b c):=by
 intro d a;unfold jU at a;cases b with
 |none=>cases a
 |some e=>cases c with
  |none=>cases a
  |some f=>exact Fj _ _ d a
def Ht (b c:ac2):dm (n3 b c):=by
 intro d a;unfold n3 at a;cases b with
 |none=>cases a
 |some e=>cases c with
  |none=>cases a
  |some f=>exact If _ d a
def Fs (b:dm i):dm (ot i):=by
 intro d a;cases i with
 |none=>cases a
 |some c=>cases a;have:=b c rfl;unfold eR at*;rw[p0];exact this
def IL (a:dm i) (b:dm m):tZ (aT i,aT m,())=some (aT (jU i m),()):=by
 unfold tZ;refine ak (GJ a b) ?_;cases i with
 |none=>rfl
 |some c=>
  cases m with
  |none=>rfl
  |some d=>
   have e:=hA (a c rfl);have f:=hA (b d rfl);have g:=hQ (a c rfl);have h:=hQ (b d rfl);rw[eK,eK];refine ak (Ky U U) ?_;dsimp only;rw[be U U];refine ak (xG ?_ U U) rfl;rw[Int.natAbs_mul];have:=n7 e f;omega
def Fw (a:Int):aZ (-a)=-aZ a:=by have c:=q3 a;have b:=q3 (-a);rw[p0] at b;have e:=h7 (bq a.natAbs);have d:aZ (-a)*2^bq a.natAbs=-aZ a*2^bq a.natAbs:=(by rw[b,Int.neg_mul,c]);exact Int.eq_of_mul_eq_mul_right U d
def Eo (a:Int):bh (-a)=bh a:=by
 unfold bh ei;rw[p0];by_cases b:a=0
 ·subst b;rfl
 rw[ag b,ag U]
def KP (a:Int):aZ (a.natAbs:Int)=((aZ a).natAbs:Int):=by
 have c:=u9 (v:=a);rcases gC a 0 with b|b
 ·rw[(U:(a.natAbs:Int)=-a),Fw];have:=c.2 b;omega
 rw[(U:(a.natAbs:Int)=a)];have:=mt c.1 U;omega
def I6 (a:Int):bh (a.natAbs:Int)=bh a:=by
 rcases gC a 0 with b|b
 ·rw[(U:(a.natAbs:Int)=-a),Eo]
 rw[(U:(a.natAbs:Int)=a)]
def IM (b:dm i):ua (aT i,())=some (aT (ot i),()):=by
 unfold ua;refine ak (sO b) ?_;cases i with
 |none=>rfl
 |some a=>
  have c:=hA (b a rfl);rw[eK];refine ak (ak (KI (hx U)) rfl) ?_;show some ((false,aL (-aZ a),bh a,()),())=some (aT (some (-a)),());rw[eK,Fw,Eo]
def Qg (b:dm i):zE (aT i,())=some (aT (y6 i),()):=by
 unfold zE;refine ak (sO b) ?_;cases i with
 |none=>rfl
 |some a=>
  have c:=hA (b a rfl);rw[eK];refine ak (ak (y7 (hx U)) rfl) ?_;show some ((false,aL ((aZ a).natAbs:Int),bh a,()),())=some (aT (some (a.natAbs:Int)),());rw[eK,KP,I6]
def gU (a b:Int):Int:=aZ a*2^(bh a-b).toNat
def pQ {v e:Int} (a:v=0\/e<=ei v) (b:-65536<=e):gU v e*2^(e+65536).toNat=v:=Tx a b
def oG (b:a=0\/e<=ei a) (f:-65536<=e) (g:eR a):az (gU a e).natAbs<=131072:=by
 have c:=pQ b f;have d:(gU a e).natAbs<=a.natAbs:=by
  conv=>rhs;rw[<-c,k8]
  exact Nat.le_mul_of_pos_right _ (hp _)
 exact db (hJ d) g
def E2 (c:a=0\/e<=ei a) (h:-65536<=e) (i:e<=65536) (b:eR a) (d:e<=bh a):lH (aL (aZ a),bh a-e,())=some (aL (gU a e),()):=by have f:=hA b;have g:=hQ b;exact uS U U U
def Kl (b:-65536<=a) (c:e=0\/a<=ei e) (d:r=0\/a<=ei r):e8 (gU e a+gU r a) a=k2 (e+r):=by refine BV b ?_;rw[Int.add_mul,pQ c b,pQ d b]
def hg (b:e<=bh a):a=0\/e<=ei a:=by
 by_cases c:a=0
 ·exact .inl c
 rw[bh,ag c] at b;exact .inr b
def Hw (g:eR a) (h:eR e):∃b,b<=bh a/\b<=bh e/\-65536<=b/\b<=65536/\wo (aT (some a),aT (some e),())=some (aL (gU a b),aL (gU e b),b,()):=by have i:=hQ g;have j:=hQ h;refine⟨if bh e<bh a then bh e else bh a,by split<;>omega,by split<;>omega,by split<;>omega,by split<;>omega,?_⟩;unfold wo;rw[eK,eK];dsimp only;generalize c:(if bh e<bh a then bh e else bh a)=b;have al:b<=bh a:=(by rw[<-c];split<;>omega);have d:b<=bh e:=(by rw[<-c];split<;>omega);have f:-65536<=b:=(by rw[<-c];split<;>omega);rw[be (x:=bh a-b) U U,be (x:=bh e-b) U U];exact ak (E2 (hg al) f U g al) (ak (E2 (hg d) f U h d) rfl)
def Qh (e:dm i) (b:dm m):wj (aT i,aT m,())=some (aT (n3 i m),()):=by
 unfold wj;refine ak (GJ e b) ?_;cases i with
 |none=>rfl
 |some h=>
  cases m with
  |none=>rfl
  |some j=>
   have f:=e h rfl;have g:=b j rfl;obtain⟨c,al,d,a,o,n⟩:=Hw f g;have k:=oG (hg al) a f;have l:=oG (hg d) a g;refine ak n (ak (Dn U U) ?_);have b:az (gU h c+gU j c).natAbs<=131073:=db (hJ (Int.natAbs_add_le _ _)) (zj k l);refine ak (xG U U U) ?_;rw[Kl a (hg al) (hg d)];rfl
def Qq (b:dm i) (a:dm m):zK (aT i,aT m,())=some (aT (n3 i (ot m)),()):=by unfold zK;exact ak (IM a) (ak (Qh b (Fs a)) rfl)
def CN (c:-65536<=a) (h:e=0\/a<=ei e) (i:r=0\/a<=ei r):gU e a<gU r a↔e<r:=by
 have f:=pQ h c;have g:=pQ i c;have d:=h7 (a+65536).toNat;constructor
 ·intro b;have:=pZ b d;omega
 intro b;rw[<-f,<-g] at b;exact Int.lt_of_mul_lt_mul_right b (dM d)
def Qi (g:eR e) (h:eR r):wk (aT (some e),aT (some r),())=some (dx e r,true,()):=by unfold wk;refine ak (GJ (a:=some e) (b:=some r) (λl f=>by cases f;exact g) (λl f=>by cases f;exact h)) ?_;obtain⟨o,al,d,c,p,i⟩:=Hw g h;have m:=oG (hg al) c g;have n:=oG (hg d) c h;refine ak i (ak (DD U U) ?_);have j:=CN c (hg al) (hg d);have k:=CN c (hg d) (hg al);dsimp only;unfold dx;simp only[j,k]
def ni (a:Int):ac2:=e8 a 0
def Qj (b:-9223372036854775808<=a) (c:a<=9223372036854775807):zF (a,())=some (aT (ni a),()):=by unfold zF;have d:az a.natAbs<=64:=de.2 U;exact ak (Bt b c) (ak (xG U aa aa) rfl)
def eZ:acU->Int
 |[]=>0
 |d::a=>d.getD 0+eZ a
def fL:acU->Bool
 |[]=>true
 |d::a=>d.isSome&&fL a
def fO (a:acU):ac2:=if fL a=true then k2 (eZ a) else none
def Nb (b:acU):dm (fO b):=by
 intro c a;unfold fO at a;split at a
 ·exact If _ c a
 cases a
def CJ (a b:acU):eZ (a++b)=eZ a+eZ b:=by
 induction a with
 |nil=>simp[eZ]
 |cons d a c=>simp only[jc,eZ,c];omega
def zc (a b:acU):fL (a++b)=(fL a&&fL b):=by
 induction a with
 |nil=>simp[fL]
 |cons d a c=>simp only[jc,fL,c,Bool.and_assoc]
def GG (a:b<p.length):eZ (p.take (b+1))=eZ (p.take b)+(p[b]).getD 0:=by rw[hD,a9 a];show eZ (p.take b++[p[b]])=_;rw[CJ];simp[eZ]
def HA (a:b<p.length):fL (p.take (b+1))=(fL (p.take b)&&(p[b]).isSome):=by rw[hD,a9 a];show fL (p.take b++[p[b]])=_;rw[zc];simp[fL]
def Hz (a:fL p=true) (c:b<p.length):∃e,p[b]=some e:=by
 induction p generalizing b with
 |nil=>simp at c
 |cons f p d=>
  simp only[fL,bc] at a;cases b with
  |zero=>exact Db.1 a.1
  |succ b=>exact d a.2 (by simpa using c)
def Hy (c:b<p.length) (a:p[b]=none):fL p=false:=by
 cases d:fL p with
 |false=>rfl
 |true=>obtain⟨f,e⟩:=Hz d c;rw[e] at a;cases a
def IN (A:∀B∈p,dm B) (L:p.length<=1000000):ub (p.map aT,())=some (aT (fO p),()):=by
 unfold ub;refine ac.eq_iff.1 ?_;dsimp only;refine ac.aU (P:=λs=>match s with
  |.inl o=>∃b,o=(b,(false,((false,([],())),((0:Int),()))),p.map aT,())/\fL p=true/\-65536<=b/\b<=0/\(∀a d,(C:a<p.length)->p[a]=some d->b<=bh d)
  |.inr o=>o=(aT (fO p),())) ?_ ?_
 ·refine ac.steps p.length (λa v=>∃b,v=(b,(a:Int),(false,((false,([],())),((0:Int),()))),(p.take a).map aT,())/\fL (p.take a)=true/\-65536<=b/\b<=0/\(∀h d,(C:h<p.length)->h<a->p[h]=some d->b<=bh d)) ⟨0,rfl,rfl,aa,aa,λh d f g=>by omega⟩ ?_ ?_
  ·rintro a _ e ⟨b,rfl,f,g,t,l⟩;have z:=A p[a] (List.getElem_mem e);dsimp only;rw[bb (aA (show(a:Int)<ar (p.map aT) by simp only[aV,List.length_map];omega))];refine ac.bs (y:=aT p[a]) ?_ (ac.bs (sO z) ?_)
   ·rw[bL (by simpa using e),List.getElem_map]
   dsimp only;cases m:p[a] with
   |none=>
    refine ac.bs rfl (ac.af.2 ?_);show(aT none,())=_;rw[fO,ag];rw[Hy e m];simp
   |some d=>
    have n:eR d:=z d m;have I:=hQ n;show ac ((bJ _).bind _) _;rw[er (by simp;omega)];refine ac.af.2 ⟨if bh d<b then bh d else b,?_,?_,by split<;>omega,by split<;>omega,?_⟩
    ·rw[bi U,hD,a9 e,m];simp only[Option.toList_some,fZ,eo,p5,eK]
    ·rw[HA e,f,m];rfl
    intro h K J N u;rcases bn h a with w|w
    ·have:=l h K J w u;split<;>omega
    obtain rfl:h=a:=U;rw[m] at u;cases u;split<;>omega
  rintro _ ⟨b,rfl,f,g,t,l⟩;dsimp only;rw[a2 (ay (show¬((p.length:Int)<ar (p.map aT)) by simp only[aV,List.length_map];omega))];rw[List.take_of_length_le (Nat.le_refl _)] at f|-;exact ac.af.2 ⟨b,rfl,f,g,t,λa d e j=>l a d e e j⟩
 rintro(s|s) r
 ·obtain⟨b,rfl,f,g,t,l⟩:=r;dsimp only;refine ac.aU (P:=λo=>∃c,o=((false,((false,([],())),((0:Int),()))),aL c,())/\c*2^(b+65536).toNat=eZ p/\az c.natAbs<=200000) ?_ ?_
  ·have x:∀c:Int,c.natAbs<=p.length*2^131072->az c.natAbs<=200000:=λc G=>by
    refine db (hJ G) ?_;have:az p.length<=20:=de.2 U;have D:az (2^131072)<=131073:=de.2 (x2 131072 131073 aa);have:=n7 this D;omega
   refine ac.steps p.length (λa v=>∃c,v=((a:Int),(false,((false,([],())),((0:Int),()))),p.map aT,aL c,())/\c*2^(b+65536).toNat=eZ (p.take a)/\c.natAbs<=a*2^131072) ⟨0,rfl,by rw[p2];simp[eZ],(bM _:(0:Nat)<=_)⟩ ?_ ?_
   ·rintro a _ e ⟨c,rfl,i,k⟩;obtain⟨d,j⟩:=Hz f e;have n:eR d:=A p[a] (List.getElem_mem e) d j;have q:=l a d e j;have H:=oG (hg q) g n;have I:=hQ n;have M:=x c (Nat.le_trans k (Nat.mul_le_mul_right _ U));dsimp only;rw[bb (aA (show(a:Int)<ar (p.map aT) by simp only[aV,List.length_map];omega)),iZ (by simpa using e),List.getElem_map,j,eK];dsimp only;rw[be U U];refine ac.bs (E2 (hg q) g U n q) (ac.bs (Dn U U) (ac.af.2 ⟨c+gU d b,by rw[bi U],?_,?_⟩))
    ·rw[Int.add_mul,i,pQ (hg q) g,GG e,j];rfl
    have E:=de.1 H;have F:=Int.natAbs_add_le c (gU d b);exact db F (KA k E)
   rintro _ ⟨c,rfl,i,k⟩;dsimp only;rw[a2 (ay (show¬((p.length:Int)<ar (p.map aT)) by simp only[aV,List.length_map];omega))];rw[List.take_of_length_le (Nat.le_refl _)] at i;exact ac.af.2 ⟨c,rfl,i,x c k⟩
  rintro _ ⟨c,rfl,i,k⟩;refine ac.bs (xG U U U) (ac.af.2 ?_);show(aT (e8 c b),())=_;rw[BV g i.symm,fO,aj f]
 have r:s=_:=r;rw[r];exact ac.af.2 rfl
def h9:(dE a==0)=decide (a=0):=by
 rw[dO,decide_eq_decide];unfold dE;constructor
 ·intro b;split at b
  ·assumption
  split at b<;>omega
 intro b;rw[aj b]
def Ge {m:Int} {n:Nat} (e:az m.natAbs<=1900000) (f:n<=1048576):uz (aL m,(n:Int),())=some (aL (m/2^n),()):=by
 unfold uz;dsimp only;refine ac.eq_iff.1 ?_;refine ac.aU (P:=λc=>c=((n:Int),aL m,(false,([],())),())) ?_ ?_
 ·refine ac.steps 0 (λb a=>a=((n:Int),aL m,(false,([],())),())) rfl (λb a d=>by omega) ?_;rintro _ rfl;dsimp only;rw[a2 (ay (U:¬((n:Int)>1048576)))];exact ac.af.2 rfl
 rintro _ rfl;dsimp only;rw[be U U,Int.zero_sub];refine ac.bs (yh U U U) (ac.af.2 ?_);rw[vq]
def MD {b:nG} {m:Int} (o:aN b.2.1) (w:b.2.1.length<=100000000) (d:e5 b=m) (F:az m.natAbs<=900000) (B:-1000000000000<=a) (C:a<=1000000000000):ml (b,a,())=some (aT (e8 m a),()):=by
 unfold ml;dsimp only;have p:=MH o w;rw[d] at p;refine ak p ?_;dsimp only;rw[pv,bj];split
 ·rename_i e;have:=uF.1 e;subst this;rfl
 rename_i e;have c:m≠0:=λa=>e (uF.2 a);have G:=tc (n:=m.natAbs) U;have E:=n8 (m:=m.natAbs) U;rw[bj];split
 ·rename_i q;have f:e8 m a=none:=(by unfold e8;rw[ag c,aj U]);rw[f];rfl
 rename_i q;refine ak (MQ U c) (ak (x6 U) (ak (Ge (m:=(m.natAbs:Int)) (by rw[Int.natAbs_natCast];omega) U) ?_));have l:=(sB (n:=m.natAbs) (k:=bq m.natAbs) U).1 (Nat.le_refl _);have u:(m.natAbs:Int)/2^bq m.natAbs=(((m/2^bq m.natAbs).natAbs:Nat):Int):=(by rw[xM l,<-iD,<-Int.natCast_ediv]);have h:az ((m/2^bq m.natAbs).natAbs)=az m.natAbs-bq m.natAbs:=(by rw[xM l,o0]);rw[u];dsimp only;rw[be (x:=a+(bq m.natAbs:Int)) U U];by_cases i:a+bq m.natAbs< -65536\/65536<a+az m.natAbs
 ·have f:e8 m a=none:=(by unfold e8;rw[ag c,aj i]);rw[f];refine ak (y:=.inr (aT none,())) ?_ rfl;refine ak (y:=(true,(false,((false,([],())),((0:Int),()))),aL ((m/2^bq m.natAbs).natAbs:Int),())) ?_ rfl;by_cases g:a+(bq m.natAbs:Int)< -65536
  ·rw[aA g];rfl
  rw[ay g];refine ak (s1 (by rw[Int.natAbs_natCast];omega)) ?_;rw[Int.natAbs_natCast,h];dsimp only;rw[be U U,aA (U:a+(bq m.natAbs:Int)+((az m.natAbs-bq m.natAbs:Nat):Int)>65536)]
 obtain⟨r,D⟩:=IZ c i;rw[r];refine ak (y:=.inl ((false,((false,([],())),((0:Int),()))),aL ((m/2^bq m.natAbs).natAbs:Int),())) ?_ ?_
 ·refine ak (y:=(false,(false,((false,([],())),((0:Int),()))),aL ((m/2^bq m.natAbs).natAbs:Int),())) ?_ rfl;rw[ay (U:¬(a+(bq m.natAbs:Int)< -65536))];refine ak (s1 (by rw[Int.natAbs_natCast];omega)) ?_;rw[Int.natAbs_natCast,h];dsimp only;rw[be U U,ay (U:¬(a+(bq m.natAbs:Int)+((az m.natAbs-bq m.natAbs:Nat):Int)>65536))]
 dsimp only;congr 3;have z:b.1=decide (m/2^bq m.natAbs<0):=by
  have s:(m/2^bq m.natAbs<0)↔m<0:=u9 (v:=m);have t:b.1=decide (m<0):=by
   have A:=dw o;unfold e5 at d;cases j:b.1 with
   |true=>rw[j,aj rfl] at d;exact(aA U).symm
   |false=>rw[j,ag ab] at d;exact(ay U).symm
  rw[t,decide_eq_decide];exact s.symm
 rw[z];rfl
def s5 {e:Int} (d:az a.natAbs<=900000) (b:-1000000000000<=e) (c:e<=1000000000000):ml (aL a,e,())=some (aT (e8 a e),()):=
 MD (kB a) (by have:=(fM (z:=a) U).2.2;omega) (mM a) d b c
def kl {d:ac2} (c:dm d):iU (aT d,())=some (aT d,()):=by
 cases d with
 |none=>rfl
 |some b=>
  have a:=c b rfl;have f:=hA a;have g:=hQ a;unfold iU;rw[eK];refine ak (s5 (e:=bh b) U U U) ?_;rw[BU a,eK]
def m5 (a:ac2):(aT a).1=!a.isSome:=by
 cases a with
 |none=>rfl
 |some b=>rw[eK];rfl
def Mr (a:dm i):wS (aT i,())=some (lU i,()):=by
 unfold wS;refine ak (kl a) ?_;cases i with
 |none=>rfl
 |some b=>
  have c:=hA (a b rfl);rw[eK];refine ak (hR U) ?_;show some (dE (aZ b),())=_;rw[Gs];rfl
def Mq (c:dm i):uy (aT i,())=some (aT (ot i),()):=by
 unfold uy;refine ak (kl c) ?_;cases i with
 |none=>rfl
 |some b=>
  have a:=c b rfl;have f:=hA a;have g:=hQ a;rw[eK];refine ak (MG U) (ak (s5 (e:=bh b) (by rw[p0];omega) U U) ?_);have d:eR (-b):=(by unfold eR at*;rw[p0];exact a);rw[<-Fw,<-Eo,BU d];rfl
def W4 (c:dm i):AA (aT i,())=some (aT (y6 i),()):=by
 unfold AA;refine ak (kl c) ?_;cases i with
 |none=>rfl
 |some b=>
  have a:=c b rfl;have f:=hA a;have g:=hQ a;rw[eK];refine ak (x6 U) (ak (s5 (e:=bh b) (by rw[rr];omega) U U) ?_);have d:eR (b.natAbs:Int):=(by unfold eR at*;rw[rr];exact a);rw[<-KP,<-I6,BU d];rfl
def Ny (a:Int):gU 0 a=0:=by unfold gU;rw[va,p2]
def vw (a:Int):gU a (bh a)=aZ a:=by unfold gU;simp
def Hv (i:eR a) (j:eR e):∃b,(a=0\/b<=ei a)/\(e=0\/b<=ei e)/\-65536<=b/\b<=65536/\qt (aT (some a),aT (some e),())=some (aL (gU a b),aL (gU e b),b,()):=by
 have m:=hQ i;have n:=hQ j;have k:=hA i;have l:=hA j;by_cases f:a=0
 ·subst f;refine⟨bh e,.inl rfl,hg (Int.le_refl _),U,U,?_⟩;unfold qt;rw[eK,eK];refine ak (hR U) ?_;dsimp only;rw[h9,aA (show aZ 0=0 from rfl),Ny,vw];rfl
 by_cases g:e=0
 ·subst g;refine⟨bh a,hg (Int.le_refl _),.inl rfl,U,U,?_⟩;unfold qt;rw[eK,eK];refine ak (hR U) ?_;dsimp only;rw[h9,ay (gH f)];refine ak (hR U) ?_;dsimp only;rw[h9,aA (show aZ 0=0 from rfl),Ny,vw];rfl
 by_cases h:bh a>bh e
 ·refine⟨bh e,hg U,hg (Int.le_refl _),U,U,?_⟩;unfold qt;rw[eK,eK];refine ak (hR U) ?_;dsimp only;rw[h9,ay (gH f)];refine ak (hR U) ?_;dsimp only;rw[h9,ay (gH g),aA h,be U U,vw];refine ak (yh U U U) ?_;dsimp only;obtain⟨d,c⟩:∃d:Nat,bh a-bh e=d:=⟨(bh a-bh e).toNat,U⟩;rw[c,lV,gU,c];rfl
 refine⟨bh a,hg (Int.le_refl _),hg U,U,U,?_⟩;unfold qt;rw[eK,eK];refine ak (hR U) ?_;dsimp only;rw[h9,ay (gH f)];refine ak (hR U) ?_;dsimp only;rw[h9,ay (gH g),ay h,be (x:=bh e-bh a) U U,vw];refine ak (yh U U U) ?_;dsimp only;obtain⟨d,c⟩:∃d:Nat,bh e-bh a=d:=⟨(bh e-bh a).toNat,U⟩;rw[c,lV,gU,c];rfl
def W5 (h:dm i) (f:dm m):AB (aT i,aT m,())=some (aT (n3 i m),()):=by
 unfold AB;refine ak (kl h) (ak (kl f) ?_);cases i with
 |none=>rfl
 |some a=>
  cases m with
  |none=>dsimp only;rw[eK a];rfl
  |some c=>
   have j:=h a rfl;have k:=f c rfl;obtain⟨b,al,g,d,p,o⟩:=Hv j k;have l:=oG al d j;have n:=oG g d k;refine ak (y:=.inl (aT (some a),aT (some c),(false,((false,([],())),((0:Int),()))),())) ?_ ?_
   ·dsimp only;rw[m5,m5];rfl
   dsimp only;refine ak o (ak (vh U U) ?_);have f:az (gU a b+gU c b).natAbs<=131073:=Nat.le_trans (hJ (Int.natAbs_add_le _ _)) (zj l n);refine ak (s5 (e:=b) U U U) ?_;rw[Kl d al g];rfl
def Xb (b:dm i) (a:dm m):AI (aT i,aT m,())=some (aT (n3 i (ot m)),()):=by unfold AI;exact ak (Mq a) (ak (W5 b (Fs a)) rfl)
def Xa (a:dm i) (b:dm m):AF (aT i,aT m,())=some (aT (jU i m),()):=by
 unfold AF;refine ak (kl a) (ak (kl b) ?_);cases i with
 |none=>rfl
 |some c=>
  cases m with
  |none=>dsimp only;rw[eK c];rfl
  |some d=>
   have e:=hA (a c rfl);have f:=hA (b d rfl);have g:=hQ (a c rfl);have h:=hQ (b d rfl);rw[eK,eK];refine ak rfl ?_;dsimp only;refine ak (ME U U) ?_;dsimp only;rw[be U U];refine ak (s5 ?_ U U) rfl;rw[Int.natAbs_mul];have:=n7 e f;omega
def W6 (g:eR e) (h:eR a):AC (aT (some e),aT (some a),())=some (dx e a,true,()):=by
 unfold AC;refine ak (kl (d:=some e) (λl f=>by cases f;exact g)) (ak (kl (d:=some a) (λl f=>by cases f;exact h)) ?_);obtain⟨o,al,c,b,p,i⟩:=Hv g h;have m:=oG al b g;have n:=oG c b h;refine ak (y:=.inl (aT (some e),aT (some a),())) ?_ ?_
 ·dsimp only;rw[m5,m5];rfl
 dsimp only;refine ak i (ak (F9 U U) ?_);have j:=CN b al c;have k:=CN b c al;dsimp only;unfold dx;simp only[j,k]
def W7 (b:-9223372036854775808<=a) (c:a<=9223372036854775807):AE (a,())=some (aT (ni a),()):=by unfold AE;have d:az a.natAbs<=64:=de.2 U;exact ak (Cu b c) (ak (s5 U aa aa) rfl)
def Ms (Q:∀F∈p,dm F) (r:p.length<=1000000):wT (p.map aT,())=some (aT (fO p),()):=by
 unfold wT;refine ac.eq_iff.1 ?_;dsimp only;have O:∀c:Int,c.natAbs<=p.length*2^131072->az c.natAbs<=200000:=λc S=>(by refine Nat.le_trans (hJ S) ?_;have:az p.length<=20:=de.2 U;have L:az (2^131072)<=131073:=de.2 (x2 131072 131073 aa);have:=n7 this L;omega);have z:∀(c a:Int) (d:Nat),-65536<=a->d<=p.length->(eZ (p.take d)).natAbs<=d*2^131072->c*2^(a+65536).toNat=eZ (p.take d)->az c.natAbs<=200000:=λc a d W l j f=>(by refine O c (Nat.le_trans ?_ (Nat.mul_le_mul_right _ l));refine Nat.le_trans ?_ j;rw[<-f,k8];exact Nat.le_mul_of_pos_right _ (Nat.two_pow_pos _));refine ac.aU (P:=λi=>match i with
  |.inl n=>∃a c,n=(a,(false,((false,([],())),((0:Int),()))),aL c,())/\fL p=true/\-65536<=a/\a<=65536/\c*2^(a+65536).toNat=eZ p/\az c.natAbs<=200000
  |.inr n=>n=(aT (fO p),())) ?_ ?_
 ·refine ac.steps p.length (λd T=>∃a c,T=(a,(d:Int),(false,((false,([],())),((0:Int),()))),aL c,())/\fL (p.take d)=true/\-65536<=a/\a<=65536/\c*2^(a+65536).toNat=eZ (p.take d)/\(eZ (p.take d)).natAbs<=d*2^131072) ⟨0,0,rfl,rfl,aa,aa,by rw[p2];simp[eZ],(bM _:(0:Nat)<=_)⟩ ?_ ?_
  ·rintro d _ l ⟨a,c,rfl,j,f,q,g,o⟩;have w:=Q p[d] (List.getElem_mem l);have D:=z c a d f U o g;dsimp only;rw[bb (aA (show(d:Int)<ar (p.map aT) by simp only[aV,List.length_map];omega))];refine ac.aU (P:=λi=>match i with
    |.inl n=>∃b a c,p[d]=some b/\n=(a,(false,((false,([],())),((0:Int),()))),aL c,())/\-65536<=a/\a<=65536/\c*2^(a+65536).toNat=eZ (p.take d)+b
    |.inr n=>n=.inr (.inr (aT (fO p),()))) ?_ ?_
   ·refine ac.bs (y:=aT p[d]) ?_ (ac.bs (kl w) ?_)
    ·rw[bL (by simpa using l),List.getElem_map]
    dsimp only;cases A:p[d] with
    |none=>
     refine ac.bs rfl (ac.af.2 ?_);show _=Sum.inr (Sum.inr (aT (fO p),()));rw[fO,ag]
     ·rfl
     rw[Hy l A];simp
    |some b=>
     have s:eR b:=w b A;have ad:=hQ s;have Y:=hA s;rw[eK];refine ac.bs (hR U) ?_;dsimp only;rw[h9];by_cases E:b=0
     ·subst E;rw[aA (show aZ 0=0 from rfl)];exact ac.af.2 ⟨0,a,c,rfl,rfl,f,q,by rw[g];omega⟩
     rw[ay (gH E)];refine ac.bs (hR U) ?_;dsimp only;rw[h9];by_cases C:c=0
     ·subst C;rw[aA rfl];refine ac.af.2 ⟨b,bh b,aZ b,rfl,rfl,U,U,?_⟩;have:=pQ (v:=b) (e:=bh b) (hg (l3 _)) U;rw[vw] at this;rw[this,<-g];simp
     rw[ay C];by_cases t:bh b>=a
     ·rw[aA t,be U U];refine ac.bs (yh U U U) ?_;have R:nz (aZ b) (bh b-a)=gU b a:=by
       obtain⟨m,r⟩:∃m:Nat,bh b-a=m:=⟨(bh b-a).toNat,U⟩;rw[r,lV,gU,r];rfl
      have Z:=oG (hg t) f s;rw[R];refine ac.bs (vh U U) (ac.af.2 ⟨b,a,c+gU b a,rfl,rfl,f,q,?_⟩);rw[Int.add_mul,g,pQ (hg t) f]
     rw[ay t,be (x:=a-bh b) U U];obtain⟨m,r⟩:∃m:Nat,a-bh b=m:=⟨(a-bh b).toNat,U⟩;have B:c*2^m*2^(bh b+65536).toNat=eZ (p.take d):=(by rw[<-g,i9,<-ja];congr 2;omega);have X:=z (c*2^m) (bh b) d U U o B;rw[r];refine ac.bs (yh U U U) ?_;rw[lV];refine ac.bs (vh U U) (ac.af.2 ⟨b,bh b,c*2^m+aZ b,rfl,rfl,U,U,?_⟩);have:=pQ (v:=b) (e:=bh b) (hg (l3 _)) U;rw[vw] at this;rw[Int.add_mul,B,this]
   rintro(i|i) h
   ·obtain⟨b,G,V,u,rfl,H,I,J⟩:=h;have s:eR b:=w b u;refine ac.af.2 ⟨G,V,by rw[bi U],by rw[HA l,j,u];rfl,H,I,by rw[GG l,u];exact J,?_⟩;rw[GG l,u];have M:=Int.natAbs_add_le (eZ (p.take d)) b;have N:b.natAbs<2^131072:=(de (k:=131072)).1 s;show(eZ (p.take d)+b).natAbs<=_;have K:=KA o N;exact db M K
   have h:i=_:=h;rw[h];exact ac.af.2 rfl
  rintro _ ⟨a,c,rfl,j,f,q,g,o⟩;dsimp only;rw[a2 (ay (show¬((p.length:Int)<ar (p.map aT)) by simp only[aV,List.length_map];omega))];have D:=z c a p.length f (Nat.le_refl _) o g;rw[List.take_of_length_le (Nat.le_refl _)] at j g;exact ac.af.2 ⟨a,c,rfl,j,f,q,g,D⟩
 rintro(i|i) h
 ·obtain⟨a,c,rfl,j,f,q,g,o⟩:=h;refine ac.bs (s5 U U U) (ac.af.2 ?_);show(aT (e8 c a),())=_;rw[BV f g.symm,fO,aj j]
 have h:i=_:=h;rw[h];exact ac.af.2 rfl
def bE (a:Int):Int:=a/4503599627370496 %2048
def eW (a:Int):Int:=a %4503599627370496
def dU (a:Int):Prop:=0<=a/\a<18446744073709551616
def dJ (a:Int):ac2:=
 if bE a=2047 then none
 else e8 (if a<9223372036854775808 then if bE a=0 then eW a else eW a+4503599627370496 else-(if bE a=0 then eW a else eW a+4503599627370496)) (if bE a=0 then-1074 else bE a-1075)
def jq (b:Int):dm (dJ b):=by
 intro c a;unfold dJ at a;split at a
 ·cases a
 exact Fj _ _ c a
def FY (b:dU a):ue (a,())=some (bE a,eW a,()):=by unfold ue;dsimp only;have c:=b.1;have d:=b.2;rw[rc aa aa,Option.bind_some,show(2:Int)^(52:Int).toNat=4503599627370496 from rfl,qb 11 U U 2047 aa aa,qb 52 U U 4503599627370495 aa aa,be U U];rfl
def H2 (k:dU a):(dc IntKind.u64 a 9223372036854775808 !=0)=decide (9223372036854775808<=a):=by
 obtain⟨c,m⟩:=k;obtain⟨b,rfl⟩:=eE c;have j:b<18446744073709551616:=U;have h:(9223372036854775808:Int)=((2^63:Nat):Int):=rfl;rw[h,HE j aa,bH];rcases bn b (2^63) with d|d
 ·have f:b&&&2^63=0:=by
   refine Nat.eq_of_testBit_eq λl=>?_;rw[Nat.testBit_and,yU,Nat.zero_testBit];by_cases e:63=l
   ·subst e;rw[Nat.testBit_lt_two_pow d];rfl
   rw[ay e,Bool.and_false]
  rw[f,aA (show((0:Nat):Int)=0 from rfl),ay (U:¬(((2^63:Nat):Int)<=(b:Int)))];rfl
 have f:b&&&2^63≠0:=(by intro i;have c:(b&&&2^63).testBit 63=false:=(by rw[i];exact Nat.zero_testBit 63);rw[Nat.testBit_and,yU] at c;obtain⟨g,rfl⟩:∃g,b=2^63*1+g:=⟨b-2^63,U⟩;rw[Nat.testBit_two_pow_mul_add 1 U,ag U] at c;exact absurd c aa);rw[ay (U:¬(((b&&&2^63:Nat):Int)=0)),aA (U:(((2^63:Nat):Int)<=(b:Int)))];rfl
def Te (b:dU a):zO (a,())=some (decide (9223372036854775808<=a),()):=by unfold zO;dsimp only;rw[H2 b]
def BG (b:dU a):o7 (a,())=some (!decide (bE a=2047),()):=by unfold o7;refine ak (FY b) ?_;dsimp only;rw[bH]
def nj (a:Int):Int:=if bE a=2047 then if eW a=0 then 2 else 3 else if bE a=0/\eW a=0 then 0 else 1
def Sf (f:dU a):ws (a,())=some (nj a,()):=by
 unfold ws nj;refine ak (FY f) ?_;dsimp only;rw[dO,bH,dO,dO];by_cases c:bE a=2047
 ·rw[aA c,aj c];by_cases b:eW a=0
  ·rw[aA b,aj b];rfl
  rw[ay b,ag b];rfl
 rw[ay c,ag c];by_cases d:bE a=0
 ·rw[aA d];by_cases b:eW a=0
  ·rw[aA b,aj ⟨d,b⟩];rfl
  rw[ay b,ag (λe=>b e.2)];rfl
 rw[ay d,ag (λe=>d e.1)];rfl
def xf (a:Int):0<=eW a/\eW a<4503599627370496:=by unfold eW;omega
def xe (a:Int):0<=bE a/\bE a<2048:=by unfold bE;omega
def sQ (g:dU a):mi (a,())=some (aT (dJ a),()):=by
 unfold mi dJ;have o:=xf a;have n:=xe a;refine ak (FY g) ?_;dsimp only;rw[dO,dO];by_cases e:bE a=2047
 ·rw[aA e,aj e];rfl
 rw[ay e,ag e];obtain⟨c,d,h,i,j,k,l,f⟩:∃c d,(bif decide (bE a=0) then some (Sum.inl ((-1074:Int),eW a,((false,((false,([],())),((0:Int),()))):bw),())) else some (.inl (aq (bE a-1075),eB IntKind.u64 (eW a) 4503599627370496,(false,((false,([],())),((0:Int),()))),())):Option ((Int×Int×bw×Unit)⊕dV))=some (.inl (d,c,(false,((false,([],())),((0:Int),()))),()))/\0<=c/\c<9007199254740992/\-1074<=d/\d<=972/\(c=(if bE a=0 then eW a else eW a+4503599627370496)/\d=(if bE a=0 then-1074 else bE a-1075)):=by
  by_cases b:bE a=0
  ·refine⟨eW a,-1074,?_,U,U,U,U,by rw[aj b],by rw[aj b]⟩;rw[aA b];rfl
  refine⟨eW a+4503599627370496,bE a-1075,?_,U,U,U,U,by rw[ag b],by rw[ag b]⟩;rw[ay b,be U U,k9 52 U U U U U aa];rfl
 rw[<-f.1,<-f.2];refine ak h ?_;dsimp only;rw[be U U];have m:az c.natAbs<=53:=de.2 U;refine ak (Bt U U) ?_;refine ak (y:=((false,((false,([],())),((0:Int),()))),aL (if a<9223372036854775808 then c else-c),())) ?_ ?_
 ·refine ak (Te g) ?_;dsimp only;by_cases b:a<9223372036854775808
  ·rw[ay (U:¬(9223372036854775808<=a)),aj b];rfl
  rw[aA (U:9223372036854775808<=a),ag b];exact ak (KI (hx U)) rfl
 dsimp only;refine ak (xG ?_ U U) rfl;split
 ·omega
 rw[p0];omega
def m7 (d:Bool) (a:Nat) (b:Int) (c:Bool):qa:=(d,aL (a:Int),b,c,())
def dt (a:Nat):(a:Int).natAbs=a:=by omega
def SA (e:az b<=900000) (c:-10000000<=a) (d:a<=10000000):zH (m7 k b a h,())=some (a+az b-1,()):=by unfold zH m7;refine ak (rL (hx (by rw[dt];omega))) ?_;rw[dt];dsimp only;rw[be (x:=a+(az b:Int)) U U,be U U]
def Qf {v:Bool} (o:az b<=900000) (w:0<b) (C:0<c) (D:c<=10000000):wl (m7 v b a h,(c:Int),())=some (aL ((b/2^c:Nat):Int),iS b c h,decide (b %2^c=0)&&!h,()):=by
 unfold wl m7;refine ak (rL (hx (by rw[dt];omega))) ?_;rw[dt];dsimp only;have E:=Nat.two_pow_pos c;rw[bj];split
 ·rename_i g;have s:b<2^(c-1):=de.1 U;obtain⟨d,rfl⟩:∃d,c=d+1:=⟨c-1,U⟩;simp only[tE] at s;have al:b %2^(d+1)=b:=Nat.mod_eq_of_lt (by rw[je];omega);have j:b/2^(d+1)=0:=Nat.div_eq_of_lt (by rw[je];omega);rw[al,j];have l:iS b (d+1) h=-1:=(by unfold iS;rw[al,aj (by rw[je];omega)]);rw[l,ay (U:¬b=0)];rfl
 rename_i g;have A:=Nat.div_add_mod b (2^c);have F:az (b/2^c)<=900000:=Nat.le_trans (hJ (Nat.div_le_self _ _)) o;have G:az (b %2^c)<=900000:=Nat.le_trans (hJ (Nat.mod_le _ _)) o;have p:b/2^c*2^c<=b:=Nat.div_mul_le_self _ _;refine ak (MB (m:=(b:Int)) (n:=c) (by rw[dt];omega) U) ?_;have al:(b:Int)/2^c=((b/2^c:Nat):Int):=(by rw[<-iD,<-Int.natCast_ediv]);rw[al];refine ak (uS (m:=((b/2^c:Nat):Int)) (k:=(c:Int)) (by rw[dt];omega) U U) ?_;have j:((b/2^c:Nat):Int)*2^(c:Int).toNat=((b/2^c*2^c:Nat):Int):=(by rw[Int.toNat_natCast,<-iD,<-Int.natCast_mul]);rw[j];refine ak (Yp (x:=(b:Int)) (y:=((b/2^c*2^c:Nat):Int)) (by rw[dt];omega) (by rw[dt];exact Nat.le_trans (hJ p) U)) ?_;have l:(b:Int)-((b/2^c*2^c:Nat):Int)=((b %2^c:Nat):Int):=(by rw[Nat.mul_comm] at p|-;omega);rw[l];refine ak (Bt (n:=1) aa aa) ?_;dsimp only;rw[be (x:=(c:Int)-1) U U];refine ak (uS (m:=1) (k:=(c:Int)-1) aa U U) ?_;obtain⟨d,rfl⟩:∃d,c=d+1:=⟨c-1,U⟩;have q:(1:Int)*2^(((d+1:Nat):Int)-1).toNat=((2^d:Nat):Int):=(by rw[Int.one_mul,<-iD];congr 2;omega);rw[q];have B:az (2^d)<=900000:=(by have:az (2^d)<=d+1:=de.2 (Nat.pow_lt_pow_right aa U);omega);refine ak (DD (x:=((b %2^(d+1):Nat):Int)) (y:=((2^d:Nat):Int)) (by rw[dt];omega) (by rw[dt];omega)) ?_;dsimp only;have r:(if dx ((b %2^(d+1):Nat):Int) ((2^d:Nat):Int)=0/\h=true then 1 else dx ((b %2^(d+1):Nat):Int) ((2^d:Nat):Int))=iS b (d+1) h:=by
  unfold iS dx;have t:2^(d+1)=2*2^d:=(by rw[je,jF]);generalize b %2^(d+1)=e at*;rw[t];generalize 2^d=i at*;rcases l6 e i with f|f|f
  ·rw[aj (U:(e:Int)<(i:Int)),ag ab,aj U]
  ·subst f;have u:(if(e:Int)<(e:Int) then(-1:Int) else if(e:Int)<(e:Int) then 1 else 0)=0:=ab;rw[u,ag (U:¬(2*e<2*e)),ag (U:¬(2*e<2*e))];cases h<;>simp
  rw[ag (U:¬((e:Int)<(i:Int))),aj (U:(i:Int)<(e:Int)),ag ab,ag U,aj U]
 refine ak (y:=(iS b (d+1) h,aL ((b/2^(d+1):Nat):Int),aL ((b %2^(d+1):Nat):Int),())) ?_ ?_
 ·rw[<-r,dO];by_cases f:dx ((b %2^(d+1):Nat):Int) ((2^d:Nat):Int)=0
  ·rw[aA f];cases h
   ·rw[ag (λg=>Bool.false_ne_true g.2)];rfl
   rw[aj ⟨f,rfl⟩];rfl
  rw[ay f,ag (λg=>f g.1)];rfl
 refine ak (pM (z:=((b %2^(d+1):Nat):Int)) (hx (by rw[dt];omega))) ?_;dsimp only;rw[h9];by_cases f:b %2^(d+1)=0
 ·rw[aA (U:((b %2^(d+1):Nat):Int)=0),aA f];cases h<;>rfl
 rw[ay (U:¬((b %2^(d+1):Nat):Int)=0),ay f];rfl
def xQ {n:Nat}:(n≠0/\bq n=0)↔n %2=1:=by
 constructor
 ·rintro⟨c,a⟩;have:=sB (n:=n) (k:=1) U;rw[a,Nat.pow_one] at this;omega
 intro b;refine⟨U,?_⟩;have:=sB (n:=n) (k:=1) U;rw[Nat.pow_one] at this;omega
def Tb (A:az b<=900000) (E:0<b) (K:-1000000<=a-e) (w:a-e<=1000000):zI (m7 k b a h,e,r,())=some (aL (if k then-((if e<=a then b*2^(a-e).toNat else gS k b (e-a).toNat h r:Nat):Int) else((if e<=a then b*2^(a-e).toNat else gS k b (e-a).toNat h r:Nat):Int)),()):=by
 unfold zI;have v:∀d:Nat,az d<=2000000->(Option.bind (α:=iQ) (
  bif k then
 (qp (aL (d:Int),())).bind λ(J,_)=>
 some (((false,([],())):bW),J,()) else
 some ((false,([],())),aL (d:Int),())) λ(_,I,_)=>
 some (I,()))=some (aL (if k then-(d:Int) else(d:Int)),()):=λd M=>by
  cases k
  ·rfl
  refine ak (y:=((false,([],())),aL (-(d:Int)),())) ?_ rfl;have L:Fit (d:Int)\/True:=.inr trivial;have B:=fM (z:=(d:Int)) (by rw[dt];omega);refine ak (y:=(aL (-(d:Int)),())) ?_ rfl;unfold qp;refine ak (wb (by have:=B.2.2;omega)) (ak (tO (kB _) (by have:=B.2.2;omega)) ?_);have f:=CT (aL (d:Int)).1 (aL (d:Int)).2.1;have w:=mM (d:Int);rw[f];show some (aL (-e5 (aL (d:Int))),())=_;rw[w]
 by_cases l:e<=a
 ·rw[aj l];obtain⟨c,i⟩:∃c:Nat,a-e=c:=⟨(a-e).toNat,U⟩;rw[i,bY];refine ak (y:=((-1:Int),true,(false,([],())),aL ((b*2^c:Nat):Int),())) ?_ ?_
  ·show(bif decide (e<=a) then _ else _)=_;rw[aA l];refine ak (y:=(aL ((b*2^c:Nat):Int),())) ?_ rfl;show lH (aL (b:Int),aq (a-e),())=_;rw[be U U,uS (by rw[dt];omega) U U,i,bY,jB,iD]
  refine ak rfl (ak rfl ?_);exact v _ (db qg U)
 rw[ag l];obtain⟨c,i⟩:∃c:Nat,e-a=c:=⟨(e-a).toNat,U⟩;rw[i,bY];refine ak (y:=(iS b c h,decide (b %2^c=0)&&!h,(false,([],())),aL ((b/2^c:Nat):Int),())) ?_ ?_
 ·show(bif decide (e<=a) then _ else _)=_;rw[ay l];refine ak (y:=(aL ((b/2^c:Nat):Int),iS b c h,decide (b %2^c=0)&&!h,())) ?_ rfl;show wl (m7 k b a h,aq (e-a),())=_;rw[be U U,i];exact Qf A E U U
 have F:az (b/2^c)<=900000:=db (hJ (rC _ _)) A;refine ak (y:=(!(decide (b %2^c=0)&&!h)&&td k (iS b c h) (decide (b/2^c %2=1)) r,(false,([],())),aL ((b/2^c:Nat):Int),())) ?_ ?_
 ·dsimp only;cases g:(decide (b %2^c=0)&&!h) with
  |true=>rfl
  |false=>
   show(bif r==1 then some (k,_,_,()) else _)=_;unfold td;rw[dO,dO,dO];by_cases o:r=1
   ·rw[aA o,aj o];rfl
   rw[ay o,ag o];by_cases p:r=2
   ·rw[aA p,aj p];rfl
   rw[ay p,ag p];by_cases q:r=3
   ·rw[aA q,aj q];rfl
   rw[ay q,ag q];generalize iS b c h=j;show(bif decide (j>0)==false then _ else _)=_;by_cases u:j>0
   ·rw[aA u];rfl
   rw[ay u];show(bif (j==0)==true then _ else _)=_;rw[dO];by_cases t:j=0
   ·rw[aA t];refine ak (pM (z:=((b/2^c:Nat):Int)) (hx (by rw[dt];omega))) ?_;dsimp only;have C:=xQ (n:=b/2^c);rw[bH];by_cases s:b/2^c=0
    ·rw[aA (show dE ((b/2^c:Nat):Int)=0 by rw[s];rfl),ay (show¬(b/2^c %2=1) by rw[s];decide)];rfl
    have G:dE ((b/2^c:Nat):Int)≠0:=(by unfold dE;rw[if_neg U];split<;>omega);rw[ay G];refine ak (Nx (z:=((b/2^c:Nat):Int)) (hx (by rw[dt];omega)) U) ?_;rw[dt];dsimp only;rw[dO];by_cases D:bq (b/2^c)=0
    ·rw[aA (U:(bq (b/2^c):Int)=0),aA (C.1 ⟨s,D⟩)];rfl
    rw[ay (U:¬(bq (b/2^c):Int)=0),ay (λf=>D (C.2 f).2)];rfl
   rw[ay t];rfl
 dsimp only;refine ak (y:=((false,([],())),aL ((gS k b c h r:Nat):Int),())) ?_ ?_
 ·unfold gS;by_cases g:b %2^c=0/\h=false
  ·rw[aj g,aA g.1,g.2];rfl
  have H:(decide (b %2^c=0)&&!h)=false:=by
   by_cases f:b %2^c=0
   ·cases h
    ·exact absurd ⟨f,rfl⟩ g
    rw[aA f];rfl
   rw[ay f];rfl
  rw[ag g,H];by_cases m:td k (iS b c h) (decide (b/2^c %2=1)) r=true
  ·rw[aj m,m];refine ak (Bt (n:=1) aa aa) ?_;refine ak (Dn (x:=((b/2^c:Nat):Int)) (y:=1) (by rw[dt];omega) aa) ?_;rfl
  rw[ag m,Bool.eq_false_iff.2 m];rfl
 refine v _ ?_;have:gS k b c h r<=b/2^c+1:=by
  unfold gS;split
  ·omega
  split<;>omega
 exact db (hJ this) (db (zj F (aa:az 1<=900000)) U)
def ys (b:0<=a) (c:a<9223372036854775808):rW (a,h,())=some (km h a,()):=by
 unfold rW km;cases h
 ·rfl
 dsimp only;rw[k9 63 b (by exact c) aa U aa aa,Int.add_comm];rfl
def LZ:zP (h,a,())=some (mE h a,()):=by
 unfold zP mE;dsimp only;refine ak (y:=if(a=3\/(a=1/\h=false)\/(a=2/\h=true)) then .inr (km h 9218868437227405311,()) else .inl ()) ?_ ?_
 ·refine ak (y:=(decide (a=3\/(a=1/\h=false)\/(a=2/\h=true)),())) ?_ ?_
  ·rw[dO,dO,dO];by_cases e:a=3
   ·subst e;simp
   by_cases c:a=1
   ·subst c;cases h<;>simp
   by_cases d:a=2
   ·subst d;cases h<;>simp
   simp[c,d,e]
  dsimp only;by_cases b:(a=3\/(a=1/\h=false)\/(a=2/\h=true))
  ·rw[aA b,aj b];exact ak (ys aa aa) rfl
  rw[ay b,ag b];rfl
 by_cases b:(a=3\/(a=1/\h=false)\/(a=2/\h=true))
 ·rw[aj b,aj b]
 rw[ag b,ag b];exact ak (ys aa aa) rfl
def CO {neg qY:Bool} {e ki:Int} (g:0<b):(if bv b e<=e then b*2^(e-bv b e).toNat else gS neg b (bv b e-e).toNat qY ki)<=9007199254740992:=by
 have c:=de.1 (a6 (az b));have i:=n8 g;have j:e+az b-53<=bv b e:=(by unfold bv;omega);split
 ·rename_i d;have a:b*2^(e-bv b e).toNat<2^az b*2^(e-bv b e).toNat:=Nat.mul_lt_mul_of_pos_right c (hp _);rw[<-gW] at a;have h:2^(az b+(e-bv b e).toNat)<=2^53:=nW aa U;have f:(2:Nat)^53=9007199254740992:=aa;omega
 rename_i d;have a:b/2^(bv b e-e).toNat<2^53:=(by rw[Nat.div_lt_iff_lt_mul (hp _),<-gW];exact gM c (nW aa U));have f:(2:Nat)^53=9007199254740992:=aa;unfold gS;split
 ·omega
 split<;>omega
def ML (s:az b<=800000) (i:0<b) (p:-500000<=a) (q:a<=500000):ww (m7 h b a k,r,())=some (h8 h b a k r,()):=by
 have t:=n8 i;have u:=CO (neg:=h) (qY:=k) (ki:=r) (e:=a) i;have n:h8 h b a k r=kI h (if bv b a<=a then b*2^(a-bv b a).toNat else gS h b (bv b a-a).toNat k r) (bv b a) r:=(by unfold h8;split<;>rfl);have o:bv b a=if(-1074:Int)>a+az b-1-52 then-1074 else a+az b-1-52:=by unfold bv;split<;>omega
 have w:-1074<=bv b a:=(by unfold bv;omega);have A:bv b a<=1400000:=(by unfold bv;omega);unfold ww;refine ak (SA U U U) ?_;dsimp only;rw[be U U,<-o,n];refine ak (Tb U i ?_ ?_) ?_
 ·unfold bv;omega
 ·unfold bv;omega
 generalize(if bv b a<=a then b*2^(a-bv b a).toNat else gS h b (bv b a-a).toNat k r)=c at*;generalize bv b a=d at*;have v:az c<=54:=de.2 U;have m:(if h then-(c:Int) else(c:Int)).natAbs=c:=(by cases h<;>simp);refine ak (y7 (hx (by rw[m];omega))) ?_;rw[m];refine ak (R2 (z:=(c:Int)) U U) ?_;dsimp only;rw[bV (x:=(c:Int)) U U,dO];show Option.bind _ _=some (kI h c d r,());unfold kI;by_cases j:c=9007199254740992
 ·rw[aA (U:(c:Int)=9007199254740992),ag (U:¬c<4503599627370496),aj j];refine ak (y:=(d+1,4503599627370496,())) ?_ ?_
  ·show some (aQ d,4503599627370496,())=_;unfold aQ;rw[wrap64 U U]
  dsimp only;rw[ay (U:¬((4503599627370496:Int)<4503599627370496)),be U U,cond_false,bj];split
  ·rename_i g;exact ak LZ rfl
  rename_i g;rw[bV U U,lW aa aa,show(2:Int)^(52:Int).toNat=4503599627370496 from rfl,aG];have al:aJ (4503599627370496-4503599627370496)=0:=(by rw[bV U U];omega);have f:(d+1+1075)*4503599627370496 %18446744073709551616=(d+1+1075)*4503599627370496:=U;rw[al,f,x1,k9 52 aa aa U aa U U,Int.zero_add];exact ak (ys U U) rfl
 rw[ay (U:¬(c:Int)=9007199254740992)];refine ak (y:=(d,(c:Int),())) rfl ?_;dsimp only;rw[bj];by_cases l:c<4503599627370496
 ·rw[aj (U:(c:Int)<4503599627370496),aj l];exact ak (ys U U) rfl
 rw[ag (U:¬(c:Int)<4503599627370496),ag l,ag j,be U U,bj];split
 ·rename_i g;exact ak LZ rfl
 rename_i g;rw[bV (x:=d+1075) U U,lW aa aa,show(2:Int)^(52:Int).toNat=4503599627370496 from rfl,Option.bind_some,bV (x:=(c:Int)-4503599627370496) U U];have f:(d+1075)*4503599627370496 %18446744073709551616=(d+1075)*4503599627370496:=U;rw[f,x1,k9 52 U U U U U U];refine ak (ys U U) ?_;dsimp only;congr 3;omega
def ld (c d:ac2) (e:Int):Int:=match c,d with
 |some a,some b=>if b=0 then 9221120237041090560 else if a=0 then 0 else sY a b e
 |_,_=>9221120237041090560
def jt (b:ac2) (c:Int):Int:=match b with
 |some a=>if a<0 then 9221120237041090560 else if a=0 then 0 else nw a c
 |none=>9221120237041090560
def xP (a:Int):(aL (aZ a)).1=decide (a<0):=by show decide (aZ a<0)=_;rw[decide_eq_decide];exact u9
def WW (i:eR a) (j:eR e) (o:a≠0) (p:e≠0) (k:Int):∃d f l,zG (aT (some a),aT (some e),56,())=some (m7 (decide (a<0)!=decide (e<0)) d f l,())/\0<d/\az d<=800000/\-500000<=f/\f<=500000/\h8 (decide (a<0)!=decide (e<0)) d f l k=sY a e k:=by
 have v:=hA i;have w:=hA j;have z:=hQ i;have A:=hQ j;have t:0<(aZ a).natAbs:=(by have:=gH o;omega);have u:0<(aZ e).natAbs:=(by have:=gH p;omega);obtain⟨b,g⟩:∃b,b=lc (aZ a).natAbs (aZ e).natAbs:=⟨_,rfl⟩;have C:b<=131131:=(by rw[g];unfold lc;omega);have h:58<=az ((aZ a).natAbs*2^b/(aZ e).natAbs):=Ck t u (by rw[g];unfold lc;omega);have B:az ((aZ a).natAbs*2^b)<=262203:=(by have:=qg (m:=(aZ a).natAbs) (n:=b);omega);refine⟨(aZ a).natAbs*2^b/(aZ e).natAbs,bh a-b-bh e,decide ((aZ a).natAbs*2^b %(aZ e).natAbs≠0),?_,?_,?_,U,U,?_⟩
 ·unfold zG;rw[eK,eK];refine ak (rL (hx U)) (ak (rL (hx U)) (ak (y7 (hx U)) ?_));dsimp only;have al:(if aq (aq (aq (56+3)+(az (aZ e).natAbs:Int))-(az (aZ a).natAbs:Int))>0 then aq (aq (aq (56+3)+(az (aZ e).natAbs:Int))-(az (aZ a).natAbs:Int)) else 0)=(b:Int):=by
   rw[be (x:=56+3) aa aa,be (x:=56+3+(az (aZ e).natAbs:Int)) U U,be U U,g];unfold lc;split<;>omega
  rw[al];refine ak (uS (m:=((aZ a).natAbs:Int)) (by rw[dt];omega) U U) (ak (y7 (hx U)) ?_);have q:((aZ a).natAbs:Int)*2^(b:Int).toNat=(((aZ a).natAbs*2^b:Nat):Int):=(by rw[Int.toNat_natCast,<-iD,<-Int.natCast_mul]);rw[q];refine ak (Qp (x:=(((aZ a).natAbs*2^b:Nat):Int)) (y:=((aZ e).natAbs:Int)) (by rw[dt];omega) (by rw[dt];omega) U U) ?_;rw[<-Int.natCast_ediv,<-Int.natCast_emod];have D:az ((aZ a).natAbs*2^b %(aZ e).natAbs)<=900000:=Nat.le_trans (hJ (Nat.mod_le _ _)) U;refine ak (pM (hx (by rw[dt];omega))) ?_;dsimp only;rw[be (x:=bh a-(b:Int)) U U,be U U,xP,xP];unfold m7;have r:(dE (((aZ a).natAbs*2^b %(aZ e).natAbs:Nat):Int)!=0)=decide ((aZ a).natAbs*2^b %(aZ e).natAbs≠0):=by
   show(!(dE (((aZ a).natAbs*2^b %(aZ e).natAbs:Nat):Int)==0))=_;rw[h9];by_cases c:(aZ a).natAbs*2^b %(aZ e).natAbs=0
   ·rw[aA U,ay (λs=>s c)];rfl
   rw[ay U,aA c];rfl
  rw[r];rfl
 ·rcases h0 ((aZ a).natAbs*2^b/(aZ e).natAbs) with c|c
  ·rw[c] at h;exact absurd h aa
  exact c
 ·exact db (hJ (rC _ _)) U
 unfold sY pG;rw[<-g];congr 1;unfold bh;rw[ag o,ag p];omega
def Rq (f:dm m) (e:dm i):wu (aT m,aT i,a,())=some (ld m i a,()):=by
 unfold wu;refine ak (Bd f) (ak (Bd e) ?_);dsimp only;rw[m5,m5];cases m with
 |none=>cases i<;>rfl
 |some c=>
  cases i with
  |none=>rfl
  |some b=>
   by_cases d:b=0
   ·subst d;refine ak (y:=.inr (9221120237041090560,())) ?_ rfl;refine ak (y:=(true,aT (some c),aT (some 0),())) ?_ rfl;refine ak (mm e) ?_;rfl
   by_cases g:c=0
   ·subst g;refine ak (y:=.inr (0,())) ?_ ?_
    ·refine ak (y:=(false,aT (some 0),aT (some b),())) ?_ ?_
     ·refine ak (mm e) ?_;dsimp only;rw[show lU (some b)=dE b from rfl,h9,ay d]
     refine ak (mm f) ?_;rfl
    unfold ld;simp only;rw[ag d];rfl
   obtain⟨p,q,r,h,j,k,l,n,o⟩:=WW (f c rfl) (e b rfl) g d a;refine ak (y:=.inl (aT (some c),aT (some b),())) ?_ ?_
   ·refine ak (y:=(false,aT (some c),aT (some b),())) ?_ ?_
    ·refine ak (mm e) ?_;dsimp only;rw[show lU (some b)=dE b from rfl,h9,ay d]
    refine ak (mm f) ?_;dsimp only;rw[show lU (some c)=dE c from rfl,h9,ay g];rfl
   refine ak h (ak (ML k j l n) ?_);unfold ld;simp only;rw[ag d,ag g,o]
def Xr (r:eR a) (I:0<a) (s:Int):∃g h t,zJ (aT (some a),56,())=some (m7 false g h t,())/\0<g/\az g<=800000/\-500000<=h/\h<=500000/\h8 false g h t s=nw a s:=by
 have A:=hA r;have J:=hQ r;have u:a≠0:=U;have O:0<aZ a:=(by have:=u9 (v:=a);have:=gH u;omega);obtain⟨b,B⟩:∃b:Nat,aZ a=b:=⟨(aZ a).toNat,U⟩;have o:(aZ a).natAbs=b:=U;rw[o] at A;have C:0<b:=U;have E:bh a=ei a:=(by unfold bh;rw[ag u]);obtain⟨c,f⟩:∃c,c=ip b (bh a):=⟨_,rfl⟩;have L:c<=119:=(by rw[f];unfold ip;split<;>omega);have M:118<=az b+c:=(by rw[f];unfold ip;split<;>omega);have N:(bh a-c) %2=0:=(by rw[f];unfold ip;split<;>omega);have K:az (b*2^c)<=131191:=(by have:=qg (m:=b) (n:=c);omega);have q:58<=az (bz (b*2^c)):=xw (by rw[k1 C];omega);have F:bz (b*2^c)<=b*2^c:=by
  obtain⟨H,R⟩:=pt (b*2^c);rcases h0 (bz (b*2^c)) with d|d
  ·omega
  exact db (Nat.le_mul_of_pos_left _ d) H
 have P:=hJ F;refine⟨bz (b*2^c),(bh a-c)/2,decide (bz (b*2^c)*bz (b*2^c)≠b*2^c),?_,?_,U,U,U,?_⟩
 ·unfold zJ;rw[eK,B];refine ak (rL (hx (by rw[dt];omega))) ?_;rw[dt];dsimp only;have al:(if aq (aq (2*aq (56+3))-(az b:Int))>0 then aq (aq (2*aq (56+3))-(az b:Int)) else 0)=((118-az b:Nat):Int):=by
   rw[be (x:=56+3) aa aa,be (x:=2*(56+3)) aa aa,be U U];split<;>omega
  rw[al];refine ak (y:=((c:Int),(false,((false,([],())),((0:Int),(false,())))),())) ?_ ?_
  ·rw[be U U];refine ak (y:=(bh a-((118-az b:Nat):Int)).tmod 2) (by unfold fS;rw[aj aa]) ?_;rw[bH];have p:((bh a-((118-az b:Nat):Int)).tmod 2=0)↔((bh a-((118-az b:Nat):Int)) %2=0):=by
    constructor
    ·intro e;have:=Int.dvd_of_tmod_eq_zero e;omega
    intro e;exact Int.tmod_eq_zero_of_dvd (Int.dvd_of_emod_eq_zero e)
   by_cases d:(bh a-((118-az b:Nat):Int)) %2=0
   ·rw[aA (p.2 d)];show some (((118-az b:Nat):Int),_,())=_;rw[f];unfold ip;rw[aj d]
   rw[ay (λe=>d (p.1 e))];show some (aQ ((118-az b:Nat):Int),_,())=_;rw[bi U,f];unfold ip;rw[ag d]
  dsimp only;refine ak (uS (m:=(b:Int)) (k:=(c:Int)) (by rw[dt];omega) U U) ?_;have w:(b:Int)*2^(c:Int).toNat=((b*2^c:Nat):Int):=(by rw[Int.toNat_natCast,<-iD,<-Int.natCast_mul]);rw[w];refine ak (Ye (x:=((b*2^c:Nat):Int)) (by rw[dt];omega) U) ?_;rw[Int.toNat_natCast];dsimp only;rw[be U U];refine ak (y:=(bh a-c)/2) ?_ ?_
  ·unfold gk;have:(bh a-(c:Int)).tdiv 2=(bh a-(c:Int))/2:=by
    obtain⟨j,D⟩:∃j,bh a-(c:Int)=2*j:=⟨(bh a-(c:Int))/2,U⟩;rw[D,Int.mul_tdiv_cancel_left _ aa,C2 _ aa]
   rw[aj aa,this,wrap64 U U]
  refine ak (Ky (x:=(bz (b*2^c):Int)) (y:=(bz (b*2^c):Int)) (by rw[dt];omega) (by rw[dt];omega)) ?_;rw[<-Int.natCast_mul];have Q:az (bz (b*2^c)*bz (b*2^c))<=900000:=(by have:=n7 (k:=131191) (l:=131191) (U:az (bz (b*2^c))<=131191) (U:az (bz (b*2^c))<=131191);omega);refine ak (DD (x:=((bz (b*2^c)*bz (b*2^c):Nat):Int)) (y:=((b*2^c:Nat):Int)) (by rw[dt];omega) (by rw[dt];omega)) ?_;dsimp only;unfold m7;have z:(dx ((bz (b*2^c)*bz (b*2^c):Nat):Int) ((b*2^c:Nat):Int)!=0)=decide (bz (b*2^c)*bz (b*2^c)≠b*2^c):=by
   rw[bH];generalize bz (b*2^c)*bz (b*2^c)=i;generalize b*2^c=G;by_cases d:i=G
   ·subst d;rw[ay (show¬(i≠i) fromλe=>e rfl),aA (by unfold dx;rw[ag U,ag U])];rfl
   rw[aA d,ay (by unfold dx;split;omega;split<;>omega)];rfl
  rw[z]
 ·rcases h0 (bz (b*2^c)) with d|d
  ·rw[d] at q;exact absurd q aa
  exact d
 unfold nw oy;rw[o,<-E,<-f]
def Rt (c:dm i):wv (aT i,a,())=some (jt i a,()):=by
 unfold wv;refine ak (Bd c) ?_;dsimp only;rw[m5];cases i with
 |none=>rfl
 |some b=>
  have e:lU (some b)=dE b:=rfl;by_cases d:b<0
  ·refine ak (y:=.inr (9221120237041090560,())) ?_ ?_
   ·refine ak (y:=(true,aT (some b),())) ?_ rfl;refine ak (mm c) ?_;dsimp only;rw[e,aA (show dE b<0 by unfold dE;rw[if_neg U,if_pos d];decide)]
   unfold jt;simp only;rw[aj d]
  have n:decide (dE b<0)=false:=ay (by unfold dE;split;omega;first|decide|(split<;>omega));by_cases f:b=0
  ·subst f;refine ak (y:=.inr (0,())) ?_ rfl;refine ak (y:=(false,aT (some 0),())) ?_ ?_
   ·exact ak (mm c) rfl
   exact ak (mm c) rfl
  obtain⟨o,p,q,g,h,j,k,l,m⟩:=Xr (c b rfl) U a;refine ak (y:=.inl (aT (some b),())) ?_ ?_
  ·refine ak (y:=(false,aT (some b),())) ?_ ?_
   ·refine ak (mm c) ?_;dsimp only;rw[e,n]
   refine ak (mm c) ?_;dsimp only;rw[e,h9,ay f];rfl
  refine ak g (ak (ML j h k l) ?_);unfold jt;simp only;rw[ag d,ag f,m]
def XH:pd (aL 0,())=some (0,()):=by
 unfold pd;refine ak (rb (l:=[]) aN.nil (λf b=>by cases b) aa) ?_;refine ac.eq_iff.1 (ac.aU (P:=λd=>d=.inl ()) ?_ ?_)
 ·refine ac.steps 0 (λc a=>a=((0:Int),())) rfl (λc a e=>by omega) ?_;rintro _ rfl;exact ac.af.2 rfl
 rintro _ rfl;exact ac.af.2 rfl
def MI {n:Nat} (e:az n<=900000):∃c,pd (aL (n:Int),())=some (c,())/\((c=0/\n≠0)↔n %2=1):=by
 by_cases d:n=0
 ·subst d;exact⟨0,XH,ab⟩
 refine⟨(bq n:Int),?_,?_⟩
 ·have:=MQ (z:=(n:Int)) (by rw[dt];omega) U;rw[dt] at this;exact this
 rw[<-xQ];constructor
 ·rintro⟨a,b⟩;exact⟨b,U⟩
 rintro⟨a,b⟩;exact⟨U,a⟩
def YY:AJ (k,e,h,a,())=some (td k e h a,()):=by
 unfold AJ td;dsimp only;rw[dO,dO,dO,dO];by_cases b:a=1
 ·rw[aA b,aj b];rfl
 rw[ay b,ag b];by_cases c:a=2
 ·rw[aA c,aj c];rfl
 rw[ay c,ag c];by_cases d:a=3
 ·rw[aA d,aj d];rfl
 rw[ay d,ag d];by_cases g:e>0
 ·rw[aA g];rfl
 rw[ay g];by_cases f:e=0
 ·rw[aA f];cases h<;>rfl
 rw[ay f];rfl
def WY (D:az b<=800000) (F:c<=1000000):AD (k,aL (b:Int),(c:Int),h,a,())=some (aL ((gS k b c h a:Nat):Int),()):=by
 unfold AD;have w:∀g:Nat,(b:Int)/2^g=((b/2^g:Nat):Int):=λg=>(by rw[<-iD,<-Int.natCast_ediv]);have A:∀g:Nat,decide (((b:Int).natAbs:Int) %2^g≠0)=decide (b %2^g≠0):=λg=>(by rw[dt,<-iD,<-Int.natCast_emod,decide_eq_decide];omega);have l:∀g,az (b/2^g)<=800000:=λg=>Nat.le_trans (hJ (Nat.div_le_self _ _)) D;refine ak (Ge (m:=(b:Int)) (n:=c) (by rw[dt];omega) U) ?_;rw[w];refine ak (MC (z:=(b:Int)) (n:=c) (by rw[dt];omega) U) ?_;rw[A];dsimp only;by_cases o:b %2^c=0/\h=false
 ·refine ak (y:=.inr (aL ((b/2^c:Nat):Int),())) ?_ ?_
  ·rw[ay (λe=>e o.1),o.2];rfl
  unfold gS;rw[aj o]
 refine ak (y:=.inl ((false,([],())),aL ((b/2^c:Nat):Int),())) ?_ ?_
 ·by_cases e:b %2^c=0
  ·have:h=true:=by
    cases h
    ·exact absurd ⟨e,rfl⟩ o
    rfl
   rw[ay (λC=>C e),this];rfl
  rw[aA e];rfl
 dsimp only;refine ak (y:=(iS b c h,(false,([],())),aL ((b/2^c:Nat):Int),())) ?_ ?_
 ·rw[bj];split
  ·rename_i e;obtain⟨d,rfl⟩:∃d,c=d+1:=⟨c-1,U⟩;have B:aq (((d+1:Nat):Int)-1)=(d:Int):=(by rw[be U U];omega);rw[B];refine ak (Ge (m:=(b:Int)) (n:=d) (by rw[dt];omega) U) ?_;rw[w];obtain⟨v,u,j⟩:=MI (n:=b/2^d) (by have:=l d;omega);have r:=Fl b d 1;rw[Nat.pow_one] at r;have E:=Nat.mod_lt b (hp d);have G:2^(d+1)=2*2^d:=(by rw[je,jF]);refine ak (y:=(decide (b/2^d %2=1),(false,([],())),aL ((b/2^(d+1):Nat):Int),())) ?_ ?_
   ·refine ak u ?_;dsimp only;rw[dO];by_cases i:v=0
    ·rw[aA i];refine ak (hR (z:=((b/2^d:Nat):Int)) (by rw[dt];have:=l d;omega)) ?_;dsimp only;have q:(dE ((b/2^d:Nat):Int)!=0)=decide (b/2^d %2=1):=by
      show(!(dE ((b/2^d:Nat):Int)==0))=_;rw[h9];by_cases f:b/2^d=0
      ·rw[aA U,ay (λe=>(j.2 e).2 f)];rfl
      rw[ay U,aA (j.1 ⟨i,f⟩)];rfl
     rw[q]
    rw[ay i,ay (λe=>i (j.2 e).1)];rfl
   dsimp only;unfold iS;by_cases s:b/2^d %2=1
   ·rw[aA s];have t:b %2^(d+1)=2^d+b %2^d:=(by rw[r,s,gN]);rw[t,ag U];cases h
    ·show(Option.bind _ _)=_;refine ak (MC (z:=(b:Int)) (n:=d) (by rw[dt];omega) U) ?_;rw[A];dsimp only;by_cases f:b %2^d=0
     ·rw[ay (λe=>e f),f,ag U];rfl
     rw[aA f,aj U];rfl
    show some (1,_,_,())=_;split<;>rfl
   rw[ay s];have t:b %2^(d+1)=b %2^d:=(by rw[r,(U:b/2^d %2=0),p8,hE]);rw[t,aj U];rfl
  rename_i e;obtain rfl:c=0:=U;unfold iS;rw[aj (by rw[Nat.pow_zero,Nat.mod_one];decide)]
 dsimp only;obtain⟨v,u,j⟩:=MI (n:=b/2^c) (by have:=l c;omega);refine ak (y:=(decide (b/2^c %2=1),(false,([],())),aL ((b/2^c:Nat):Int),())) ?_ ?_
 ·refine ak (hR (z:=((b/2^c:Nat):Int)) (by rw[dt];have:=l c;omega)) ?_;dsimp only;have q:(dE ((b/2^c:Nat):Int)!=0)=decide (b/2^c≠0):=by
   show(!(dE ((b/2^c:Nat):Int)==0))=_;rw[h9];by_cases f:b/2^c=0
   ·rw[aA U,ay (λe=>e f)];rfl
   rw[ay U,aA f];rfl
  rw[q];by_cases f:b/2^c=0
  ·rw[ay (λe=>e f),ay (λe=>(j.2 e).2 f)];rfl
  rw[aA f];refine ak u ?_;dsimp only;rw[dO];by_cases i:v=0
  ·rw[aA i,aA (j.1 ⟨i,f⟩)]
  rw[ay i,ay (λe=>i (j.2 e).1)]
 dsimp only;refine ak (y:=((false,([],())),aL ((gS k b c h a:Nat):Int),())) ?_ rfl;refine ak YY ?_;dsimp only;unfold gS;rw[if_neg o];by_cases p:td k (iS b c h) (decide (b/2^c %2=1)) a=true
 ·rw[aj p,p];refine ak (Cu (n:=1) aa aa) ?_;refine ak (vh (x:=((b/2^c:Nat):Int)) (y:=1) (by rw[dt];have:=l c;omega) aa) ?_;rfl
 rw[ag p,Bool.eq_false_iff.2 p];rfl
def yj (b:0<=a) (c:a<9223372036854775808):pe (h,a,())=some (km h a,()):=by
 unfold pe km;cases h
 ·rfl
 dsimp only;rw[k9 63 b (by exact c) aa U aa aa,Int.add_comm];rfl
def Gi:wU (h,a,())=some (mE h a,()):=by
 unfold wU mE;dsimp only;refine ak (y:=if(a=3\/(a=1/\h=false)\/(a=2/\h=true)) then .inr (km h 9218868437227405311,()) else .inl ()) ?_ ?_
 ·refine ak (y:=(decide (a=3\/(a=1/\h=false)\/(a=2/\h=true)),())) ?_ ?_
  ·rw[dO,dO,dO];by_cases e:a=3
   ·subst e;simp
   by_cases c:a=1
   ·subst c;cases h<;>simp
   by_cases d:a=2
   ·subst d;cases h<;>simp
   simp[c,d,e]
  dsimp only;by_cases b:(a=3\/(a=1/\h=false)\/(a=2/\h=true))
  ·rw[aA b,aj b];exact ak (yj aa aa) rfl
  rw[ay b,ag b];rfl
 by_cases b:(a=3\/(a=1/\h=false)\/(a=2/\h=true))
 ·rw[aj b,aj b]
 rw[ag b,ag b];exact ak (yj aa aa) rfl
def YX {neg qY:Bool} {e ki:Int} (c:0<b) (k:-1074<bv b e):4503599627370496<=(if bv b e<=e then b*2^(e-bv b e).toNat else gS neg b (bv b e-e).toNat qY ki):=by
 obtain⟨d,i⟩:=tR c;have j:=n8 c;have l:bv b e=e+az b-53:=(by unfold bv at*;omega);have h:(2:Nat)^52=4503599627370496:=aa;split
 ·rename_i f;have a:2^(az b-1)*2^(e-bv b e).toNat<=b*2^(e-bv b e).toNat:=gE _ d;rw[<-gW] at a;have g:2^52<=2^(az b-1+(e-bv b e).toNat):=nW aa U;omega
 rename_i f;have a:2^52<=b/2^(bv b e-e).toNat:=(by rw[yT (hp _),<-gW];exact db (nW aa U) d);unfold gS;split
 ·omega
 split<;>omega
def Gj (u:az b<=800000) (l:0<b) (E:-500000<=a) (F:a<=500000) (B:k=true->54<=az b):uA (h,aL (b:Int),a,k,r,())=some (h8 h b a k r,()):=by
 have G:=n8 l;have H:=CO (neg:=h) (qY:=k) (ki:=r) (e:=a) l;have p:=YX (neg:=h) (qY:=k) (ki:=r) (e:=a) l;have q:h8 h b a k r=kI h (if bv b a<=a then b*2^(a-bv b a).toNat else gS h b (bv b a-a).toNat k r) (bv b a) r:=(by unfold h8;split<;>rfl);have s:bv b a=if(-1074:Int)>a+az b-1-52 then-1074 else a+az b-1-52:=by unfold bv;split<;>omega
 have I:-1074<=bv b a:=(by unfold bv;omega);have J:bv b a<=1400000:=(by unfold bv;omega);have C:-1000000<=bv b a-a:=(by unfold bv;omega);have D:bv b a-a<=1000000:=(by unfold bv;omega);unfold uA;refine ak (s1 (z:=(b:Int)) (by rw[dt];omega)) ?_;rw[dt];dsimp only;rw[be (x:=a+(az b:Int)) U U,be (x:=a+(az b:Int)-1) U U,be (x:=a+(az b:Int)-1-52) U U,<-s,q,bj];split
 ·rename_i v;have K:972<=bv b a:=(by unfold bv;omega);have p:=p U;refine ak Gi ?_;clear s q C D;generalize(if bv b a<=a then b*2^(a-bv b a).toNat else gS h b (bv b a-a).toNat k r)=d at*;unfold kI;rw[ag U];by_cases i:d=9007199254740992
  ·rw[aj i,aj U]
  rw[ag i,aj U]
 rename_i v;refine ak (y:=(aL ((if bv b a<=a then b*2^(a-bv b a).toNat else gS h b (bv b a-a).toNat k r:Nat):Int),())) ?_ ?_
 ·rw[bj];split
  ·rename_i f;obtain⟨g,m⟩:∃g:Nat,bv b a-a=g:=⟨(bv b a-a).toNat,U⟩;rw[be (x:=bv b a-a) U U,m,Int.toNat_natCast];refine ak (WY u U) ?_;dsimp only;by_cases t:bv b a<=a
   ·have w:g=0:=U;have A:k=false:=by
     cases k
     ·rfl
     have:=B rfl;exfalso;unfold bv at*;omega
    rw[aj t,w];unfold gS;rw[aj ⟨by rw[Nat.pow_zero,Nat.mod_one],A⟩,(U:(a-bv b a).toNat=0)];simp
   rw[ag t]
  rename_i f;obtain⟨g,m⟩:∃g:Nat,a-bv b a=g:=⟨(a-bv b a).toNat,U⟩;rw[be (x:=a-bv b a) U U,aj U,m,bY];refine ak (yi (z:=(b:Int)) (n:=g) (by rw[dt];omega) U) ?_;rw[jB,iD]
 generalize(if bv b a<=a then b*2^(a-bv b a).toNat else gS h b (bv b a-a).toNat k r)=d at*;generalize bv b a=c at*;dsimp only;refine ak (Xl (z:=(d:Int)) U U) ?_;dsimp only;rw[dO];unfold kI;by_cases i:d=9007199254740992
 ·rw[aA (U:(d:Int)=9007199254740992),ag (U:¬d<4503599627370496),aj i];refine ak (y:=(c+1,4503599627370496,())) ?_ ?_
  ·show some (aQ c,4503599627370496,())=_;unfold aQ;rw[wrap64 U U]
  dsimp only;rw[be (x:=c+1+53) U U,aA (U:(4503599627370496:Int)>=4503599627370496)];by_cases f:c+1+1075>=2047
  ·rw[aj f];refine ak (y:=.inr (mE h r,())) ?_ rfl;refine ak (y:=(true,())) ?_ (ak Gi rfl);rw[aA (U:c+1+53>1024)];rfl
  rw[ag f];refine ak (y:=.inr (km h ((c+1+1075)*4503599627370496),())) ?_ rfl;refine ak (y:=(false,())) ?_ ?_
  ·rw[ay (U:¬c+1+53>1024)];rfl
  dsimp only;rw[be (x:=c+1+1075) U U,bV (x:=c+1+1075) U U,lW aa aa,show(2:Int)^(52:Int).toNat=4503599627370496 from rfl];have al:aJ (aq (4503599627370496-4503599627370496))=0:=(by rw[be U U,bV U U];omega);have j:(c+1+1075)*4503599627370496 %18446744073709551616=(c+1+1075)*4503599627370496:=U;rw[al,j];show((pe (h,eB IntKind.u64 ((c+1+1075)*4503599627370496) 0,())).bind _)=_;rw[x1,k9 52 aa aa U aa U U,Int.zero_add];exact ak (yj U U) rfl
 rw[ay (U:¬(d:Int)=9007199254740992)];refine ak (y:=(c,(d:Int),())) rfl ?_;dsimp only;rw[be (x:=c+53) U U];by_cases o:d<4503599627370496
 ·rw[ay (U:¬((d:Int)>=4503599627370496)),aj o,bV (x:=(d:Int)) U U];refine ak (y:=.inl ()) ?_ ?_
  ·exact ak rfl rfl
  exact ak (yj U U) rfl
 rw[aA (U:((d:Int)>=4503599627370496)),ag o,ag i];by_cases f:c+1075>=2047
 ·rw[aj f];refine ak (y:=.inr (mE h r,())) ?_ rfl;refine ak (y:=(true,())) ?_ (ak Gi rfl);rw[aA (U:c+53>1024)];rfl
 rw[ag f];refine ak (y:=.inr (km h ((c+1075)*4503599627370496+((d:Int)-4503599627370496)),())) ?_ rfl;refine ak (y:=(false,())) ?_ ?_
 ·rw[ay (U:¬c+53>1024)];rfl
 dsimp only;rw[be (x:=c+1075) U U,bV (x:=c+1075) U U,lW aa aa,show(2:Int)^(52:Int).toNat=4503599627370496 from rfl];have al:aJ (aq ((d:Int)-4503599627370496))=(d:Int)-4503599627370496:=(by rw[be U U,bV U U]);have j:(c+1075)*4503599627370496 %18446744073709551616=(c+1075)*4503599627370496:=U;rw[al,j];show((pe (h,eB IntKind.u64 ((c+1075)*4503599627370496) ((d:Int)-4503599627370496),())).bind _)=_;rw[x1,k9 52 U U U U U U];refine ak (yj U U) ?_;dsimp only;congr 4;omega
def HC (b:dU a):da IntKind.u64 a 52=some (a/4503599627370496)/\dc IntKind.u64 (a/4503599627370496) 2047=bE a/\dc IntKind.u64 a 4503599627370495=eW a:=by
 have c:=b.1;have d:=b.2;refine⟨?_,?_,?_⟩
 ·rw[rc aa aa];rfl
 ·rw[qb 11 U U 2047 aa aa];rfl
 rw[qb 52 U U 4503599627370495 aa aa];rfl
def yc (d:dU a):qu (a,())=some (!decide (bE a=2047),()):=by obtain⟨b,c,e⟩:=HC d;unfold qu;refine ak b ?_;rw[c,bH]
def Xm (b:dU a):AK (a,())=some (decide (9223372036854775808<=a),()):=by unfold AK;dsimp only;rw[H2 b]
end Go.ia
end
