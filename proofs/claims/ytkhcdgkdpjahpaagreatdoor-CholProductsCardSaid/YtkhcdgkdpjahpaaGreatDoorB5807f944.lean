/-
  Parts of the proof: Fw20, Fw21: the framework (Fw), pure forms (Dn), plain laws (Pl, Th), calls of functions (Ok).
-/
import Derived.Test.YtkhcdgkdpjahpaaGreatDoorB9fbc424d

set_option linter.all false
noncomputable section
namespace Go.i9
section
def kI {c d e:Type} (b:c->d->e->Prop):List c->List d->List e->Prop
 |[],[],[]=>True
 |a::as,f::g,h::i=>b a f h/\kI b as g i
 |_,_,_=>False
def g1 {c d:Type} (b:c->d->Prop):List c->List d->Prop
 |[],[]=>True
 |a::as,e::f=>b a e/\g1 b as f
 |_,_=>False
theorem Gl {d e:Type} {f:d->e->Prop}:∀{as:List d} {c:List e},g1 f as c->c.length=as.length
 |[],[],_=>rfl
 |[],_::_,b=>b.elim
 |_::_,[],b=>b.elim
 |a::as,g::c,b=>by have:=Gl b.2;simp[this]
theorem Cr {e f:Type} {c:e->f->Prop}:∀{as:List e} {d:List f} {g:List e} {h:List f},g1 c as d->g1 c g h->g1 c (as++g) (d++h)
 |[],[],_,_,_,b=>b
 |[],_::_,_,_,b,_=>b.elim
 |_::_,[],_,_,b,_=>b.elim
 |a::as,j::d,_,_,b,i=>⟨b.1,Cr b.2 i⟩
theorem yx {h i:Type} {f:h->i->Prop}:∀{as:List h} {d:List i},as.length=d.length->(∀(e:Nat) a c,as[e]?=some a->d[e]?=some c->f a c)->g1 f as d
 |[],[],_,_=>trivial
 |[],_::_,b,_=>by cases b
 |_::_,[],b,_=>by cases b
 |a::as,c::d,b,g=>⟨g 0 a c rfl rfl,yx (by simpa using b) (λe l m j k=>g (e+1) l m (by simpa using j) (by simpa using k))⟩
theorem Cs {b g h:Type} {c:g->h->Prop} {d:b->g} {e:b->h} (f:∀x,c (d x) (e x)):∀a:List b,g1 c (a.map d) (a.map e)
 |[]=>trivial
 |x::a=>⟨f x,Cs f a⟩
inductive fJ where
 |v (t:aC)
 |m (t:aC) (y:t.1.den)
 |o (t:aC)
 |c (f:Nat) (abp:List aC)
 |n
 |s (f:Nat) (l:cY)
 |w (σ:ag) (xs:List σ.den) (lo hi:Nat) (x7:List σ.den)
def vk (I c:Nat->Prop) (w:World) (a:aC) (d:Value):Prop:=∃b,d=bH a.1 b/\aN (ba I c) w a.1 b a.2 []
def ve (I f:Nat->Prop) (w:World):fJ->Value->cY->Prop
 |.v b,d,a=>a=[]/\∃e,d=bH b.1 e/\aN (ba I f) w b.1 e b.2 []
 |.m b _,d,a=>∃e,d=bH b.1 e/\aN (ba I f) w b.1 e b.2 a
 |.o b,d,a=>∃e,d=bH b.1 e/\aN (ba I f) w b.1 e b.2 a
 |.n,d,a=>a=[]/\d=.slice none 0 0
 |.s _ _,_,a=>a=[]
 |.w q h g j _,d,a=>∃k l i,d=.slice (some ⟨k,l+g*q.size,none⟩) (j-g) (i-g)/\(g<j/\j<=h.length/\h.length<=i)/\aN (ba I f) w (.osl q) [.slice (some ⟨k,l,none⟩) h.length i] h a
 |.c r t,d,a=>a=[]/\∃p:cS,d=.func (.func r) #[] p.toArray/\g1 (vk I f w) t p
def nq:Nat->List fJ->Option cy
 |_,[]=>none
 |k,.s a b::_=>some (k,a,b)
 |k,_::c=>nq (k+1) c
def F7 (w:World) (b:cS) (i:cN):Option cy->Prop
 |none=>True
 |some (d,h,e)=>d<b.length/\(∀c∈e,c<b.length)/\∃a f g,b.getD d undef=.pointer (some ⟨a,f,none⟩)/\a<w.heap.size/\a∉i.flatten/\w.cell? ⟨a,f,none⟩=some (.func (.func h) #[] g)/\g.toList=e.map λc=>b.getD c undef
def vf (I e:Nat->Prop) (w:World):fJ->Value->cY->Prop
 |.m i n,d,a=>∃g,d=bH i.1 g/\aN (ba I e) w i.1 g n a
 |.w j l b k o,d,a=>∃f h c,d=.slice (some ⟨f,h+b*j.size,none⟩) (k-b) (c-b)/\b<c/\aN (ba I e) w (.osl j) [.slice (some ⟨f,h,none⟩) l.length c] o a
 |_,_,a=>a=[]
def yo (I:Nat->Prop) (w:World) (a:aC) (d:Value) (c:cY):Prop:=∃b,d=bH a.1 b/\aN (ba I (λ_=>False)) w a.1 b a.2 c
def oe:cS->Value
 |[v]=>v
 |vs=>.tuple vs.toArray
structure F5 (I B:Nat->Prop) (w:World) (fs:cN) (args:List fJ) (vs:cS) (res:List aC) (I':Nat->Prop) (gs hs:cN) (ZL:cS) (w':World):Prop where
 args:kI (vf I' B w') args vs gs
 res:kI (yo I' w') res ZL hs
 uO:(gs.flatten++hs.flatten).Nodup
 GW:∀b∈gs.flatten++hs.flatten,¬I' b/\¬B b/\b<w'.heap.size/\(w.heap.size<=b\/b∈fs.flatten)
 i:∀b,I b->I' b
 i2:∀b,I' b->I b\/(b<w'.heap.size/\(w.heap.size<=b\/b∈fs.flatten))
 size:w.heap.size<=w'.heap.size
 os:w'.os=w.os
 tape:w'.tape=w.tape
 output:w'.output=w.output
 evo:∀b,b<w.heap.size->i7 w w' b
 heap:∀b,b<w.heap.size->b∉fs.flatten->w'.heap[b]?=w.heap[b]?
def jC (E:dW) (I:Nat->Prop) (w:World):Prop:=∀a∈E.glob,aN (ba I λ_=>False) w (.a7 .bA (.int a.k)) [.slice (some ⟨a.b,0,none⟩) a.xs.length a.xs.length] a.xs []
theorem jC.mono {E:dW} {I I':Nat->Prop} {w w':World} (g:jC E I w) (c:∀a,I a->I' a) (i:∀a,I a->w'.heap[a]?=w.heap[a]?):jC E I' w':=λf h=>
 (g f h).mono (λe a d=>by
  have b:I a:=(by cases e;exact d;exact d.elim id False.elim);exact⟨by cases e;exact c a b;exact .inl (c a b),bN.of_heap (i a b)⟩) (λa b=>by cases b)
def pI (E:dW) (h:FuncId) (e:List fJ) (k:List aC):Prop:=
 ∀(w:World) (I c:Nat->Prop) (d:cS) (b:cN),(∀a,I a\/c a->a<w.heap.size)->kI (ve I c w) e d b->b.flatten.Nodup->(∀a∈b.flatten,¬I a/\¬c a/\a<w.heap.size)->F7 w d b (nq 0 e)->jC E I w->Calls E.P h d.toArray w (λg w'=>∃I' i j f,g=.returned (oe f)/\F5 I c w b e d k I' i j f w')
def ag.eu:ag->Bool
 |.a7 .dN _|.ptr .dN _|.dC .dN _=>false
 |.a7 .bA a|.ptr .bA a|.osl a|.optr a|.st a|.mp a|.dC .bA a=>a.eu
 |.pr b c=>b.eu&&c.eu
 |_=>true
def pF:ag->Bool
 |.pr _ _|.nil|.c6=>false
 |_=>true
theorem Zf {a:ag} {b c:cS} (e:pF a=true) (f:b.length=a.size) (g:c.length=a.size) (d:bH a b=bH a c):b=c:=by
 have j:a.size=1->bH a b=b.headD undef->bH a c=c.headD undef->b=c:=(by intro i aj h;rw[i] at f g;obtain⟨l,rfl⟩:=tn.1 f;obtain⟨m,rfl⟩:=tn.1 g;rw[aj,h] at d;simpa using d);cases a with
 |st k=>have d:Value.agg b.toArray=Value.agg c.toArray:=d;simpa using d
 |pr=>cases e
 |nil=>cases e
 |c6=>cases e
 |_=>exact j rfl rfl rfl
def rk (g:List (Nat×aC)) (f:cY):al->aC->Prop
 |.val b i,a=>l4 b i a.1 a.2
 |.bP d,a=>hf a.1 d.cells.toList=some a.2/\bH a.1 d.cells.toList=d
 |.ref id h,a=>db id f=false/\∃c b e,ao g id=some c/\c4 c.1 c.2 h b e/\l4 b e a.1 a.2
 |_,_=>False
def ML (b:List (Nat×aC)) (f:cY):al->fJ->Prop
 |av,.v a=>rk b f av a
 |.ref id [],.m a _=>ao b id=some a/\a.1.eu=true/\pF a.1=true
 |.ref id [],.o a=>ao b id=some a
 |.dg l d,.c k p=>l=k/\g1 (rk b f) d p
 |.bP e,.o a=>e=.slice none 0 0/\∃r,a=⟨.osl r,[]⟩
 |.bP e,.n=>e=.slice none 0 0
 |.view id [] h g,.w i q d j _=>ao b id=some ⟨.osl i,q⟩/\(d=h/\j=g)/\h<g/\i.eu=true
 |_,.s _ _=>True
 |_,_=>False
def mM (c:List (Nat×aC)) (b:cY):List al->List fJ->Prop
 |[],[]=>True
 |a::as,d::e=>ML c b a d/\mM c b as e
 |_,_=>False
def eB:List al->List fJ->cY
 |.ref id []::as,.m _ _::a=>id::eB as a
 |.ref id []::as,.o _::a=>id::eB as a
 |.view id [] _ _::as,.w _ _ _ _ _::a=>id::eB as a
 |_::as,_::a=>eB as a
 |_,_=>[]
def kP:List al->List fJ->cY
 |.ref id []::as,.m _ _::a=>id::kP as a
 |.view id [] _ _::as,.w _ _ _ _ _::a=>id::kP as a
 |_::as,_::a=>kP as a
 |_,_=>[]
def il:List al->List fJ->List (Nat×aC)
 |.ref id []::as,.m b c::a=>(id,⟨b.1,c⟩)::il as a
 |.view id [] _ _::as,.w e _ _ _ d::a=>(id,⟨.osl e,d⟩)::il as a
 |_::as,_::a=>il as a
 |_,_=>[]
def pt (a:Nat) (c:Bool) (b:Nat):Nat:=bif c then a else 1000*(a+1)+b
def q5 (b:Nat) (c:Bool):Nat->List aC->List al
 |_,[]=>[]
 |j,a::d=>(bif a.1.pure then .val a.1 a.2 else .ref (pt b c j) [])::q5 b c (j+1) d
def ho (a:Nat) (b:Bool):Nat->List aC->List (Nat×aC)
 |_,[]=>[]
 |j,d::c=>bif d.1.pure then ho a b (j+1) c else(pt a b j,d)::ho a b (j+1) c
def sV (a:Nat):List aC->al
 |[t]=>bif t.1.pure then .val t.1 t.2 else .ref a []
 |l=>.dw (q5 a false 0 l)
def g5:List aC->Bool
 |[_]=>true
 |_=>false
def hM:cY->Bool
 |[]=>true
 |a::b=>!(db a b)&&hM b
theorem hM.ok:∀{c:cY},hM c=true->c.Nodup
 |[],_=>List.nodup_nil
 |a::e,b=>by simp only[hM,bd,vi] at b;exact je.2 ⟨(λd=>by rw[ek.2 d] at b;cases b.1),hM.ok b.2⟩
def Sc (c:Nat) (st:aJ) (b:List al) (a:List fJ) (d:List aC):aJ:=
 ⟨(c,sV c d)::kill (eB b a) (uy (kP b a)) st.g,(il b a++ho c (g5 d) 0 d)++del (eB b a) st.h⟩
theorem aN.eu {I L B':Nat->Prop} {w:World}:∀{τ:ag} {f:cS} {c:τ.den} {h:cY},τ.eu=true->aN (ba I L) w τ f c h->aN (ba I B') w τ f c h:=by
 intro τ
 induction τ with
 |a7 r q d=>
  intro f c h a b;cases r
  ·obtain⟨t,y,z,ar,i,o,p⟩:=b;refine⟨t,y,z,ar,i,o,p.imp id ?_⟩;rintro⟨e,n,O,D,Q⟩;refine⟨e,n,O,D,λm v F=>?_⟩;obtain⟨g,j,k,l⟩:=Q m v F;exact⟨g,j,k,d (by simpa only[ag.eu] using a) l⟩
  simp only[ag.eu] at a;cases a
 |ptr r q d=>
  intro f c h a b;cases r
  ·obtain⟨t,ar⟩:=b;refine⟨t,?_⟩;cases c with
   |none=>exact ar
   |some v=>
    obtain⟨e,n,g,G,H,J,aL,K⟩:=ar;exact⟨e,n,g,G,H,J,aL,d (by simpa only[ag.eu] using a) K⟩
  simp only[ag.eu] at a;cases a
 |osl q d=>
  intro f c h a b;obtain⟨y,z,ar,i⟩:=b;refine⟨y,z,ar,i.imp id ?_⟩;rintro⟨e,n,N,G,H,J,aL,K,U⟩;refine⟨e,n,N,G,H,J,aL,K,λm v B F P=>?_⟩;obtain⟨g,j,k,l⟩:=U m v B F P;exact⟨g,j,k,d (by simpa only[ag.eu] using a) l⟩
 |optr q d=>
  intro f c h a b;obtain⟨e,n,B,g,ar,i,o,p,u,T⟩:=b;exact⟨e,n,B,g,ar,i,o,p,u,d (by simpa only[ag.eu] using a) T⟩
 |st q d=>intro f c h a b;exact d (by simpa only[ag.eu] using a) b
 |mp q d=>
  intro f c h a b;cases c with
  |none=>exact b
  |some s=>
   obtain⟨e,A,x,ar,i,C,o,p,u⟩:=b;refine⟨e,A,x,ar,i,C,o,p,λm s E=>?_⟩;obtain⟨g,j,k,l⟩:=u m s E;exact⟨g,j,k,d (by simpa only[ag.eu] using a) l⟩
 |dC r q d=>
  intro f c h a b;cases r
  ·cases c with
   |none=>exact b
   |some s=>
    obtain⟨e,A,x,ar,i,C,D,o,p,u⟩:=b;refine⟨e,A,x,ar,i,C,D,o,p,λm s E=>?_⟩;obtain⟨g,j,k,l⟩:=u m s E;exact⟨g,j,k,d (by simpa only[ag.eu] using a) l⟩
  simp only[ag.eu] at a;cases a
 |pr V e R S=>
  intro f c h a b;simp only[ag.eu,bd] at a;obtain⟨M,f2,t,ar,i⟩:=b;exact⟨M,f2,t,R a.1 ar,S a.2 i⟩
 |_=>intro f c h a b;exact b
theorem IR {e f:Type} (c:e->f):∀(b:List (Nat×e)) (a:Nat),ao (b.map λd=>(d.1,c d.2)) a=(ao b a).map c
 |[],_=>rfl
 |(g,v)::b,a=>by rw[ep,bU,bU,IR c b a];split<;>rfl
abbrev vA:=aC×cS×cY
def fa (rt:Nat->cS):List al->List fJ->cN->List (Nat×vA)
 |.ref id []::as,.m d e::a,c::b=>(id,(⟨d.1,e⟩,rt id,c))::fa rt as a b
 |.view id [] _ _::as,.w g _ _ _ f::a,c::b=>(id,(⟨.osl g,f⟩,rt id,c))::fa rt as a b
 |_::as,_::a,_::b=>fa rt as a b
 |_,_,_=>[]
def jw (a:Nat) (b:Bool):Nat->List aC->cJ->cN->List (Nat×vA)
 |j,f::e,g::c,h::d=>bif f.1.pure then jw a b (j+1) e c d else(pt a b j,(f,g,h))::jw a b (j+1) e c d
 |_,_,_,_=>[]
theorem KF {rt:Nat->cS}:∀{as:List al} {bs:List fJ} {gs:cN},gs.length=bs.length->(fa rt as bs gs).map (λf=>(f.1,f.2.1))=il as bs
 |[],bs,gs,_=>by cases bs<;>cases gs<;>rfl
 |a::as,[],gs,d=>by cases gs with
  |nil=>cases a<;>first|rfl|(rename_i id b;cases b<;>rfl)|(rename_i id b h g;cases b<;>rfl)
  |cons=>cases d
 |a::as,c::bs,[],d=>by cases d
 |a::as,c::bs,i::gs,d=>by
  have e:=KF (rt:=rt) (as:=as) (bs:=bs) (gs:=gs) (by simpa using d);cases a with
  |ref id b=>cases b with
   |nil=>cases c<;>simp only[fa,il,ep,e]
   |cons=>cases c<;>simp only[fa,il,e]
  |view id b h g=>cases b with
   |nil=>cases c<;>simp only[fa,il,ep,e]
   |cons=>cases c<;>simp only[fa,il,e]
  |_=>cases c<;>simp only[fa,il,e]
theorem BE {d:Nat} {s:Bool}:∀{j:Nat} {res:List aC} {cs:cJ} {hs:cN},cs.length=res.length->hs.length=res.length->(jw d s j res cs hs).map (λg=>(g.1,g.2.1))=ho d s j res
 |j,[],cs,hs,a,b=>by cases cs<;>cases hs<;>simp[jw,ho]
 |j,e::c,[],hs,a,b=>by cases a
 |j,e::c,h::cs,[],a,b=>by cases b
 |j,e::c,h::cs,i::hs,a,b=>by
  have f:=BE (d:=d) (s:=s) (j:=j+1) (res:=c) (cs:=cs) (hs:=hs) (by simpa using a) (by simpa using b);simp only[jw,ho];cases e.1.pure
  ·simp only[cond_false,ep,f]
  simp only[cond_true,f]
section
variable {C:dn} {st:aJ} {A:cQ} {w w':World} {I I' B':Nat->Prop} {rt:Nat->cS} {fp:Nat->cY}
theorem KG (F:bt C st A w I rt fp) {S:cY}:∀{avs:List al} {t:cS} {args:List fJ} {gs:cN},g1 (bE (ba I C.B) w st.h rt fp) avs t->mM st.h S avs args->kI (vf I' B' w') args t gs->∀b∈fa rt avs args gs,aN (ba I' C.B) w' b.2.1.1 b.2.2.1 b.2.1.2 b.2.2.2/\b.2.2.1=rt b.1/\b.1∈eB avs args/\∃g,ao st.h b.1=some g/\b.2.1.1=g.1
 |[],t,args,gs,l,p,q,b,a=>by cases args<;>cases gs<;>cases a
 |x::i,t,[],gs,l,p,q,b,a=>by cases x<;>exact p.elim
 |x::i,[],d::u,gs,l,p,q,b,a=>l.elim
 |x::i,v::t,d::u,[],l,p,q,b,a=>q.elim
 |av::i,v::t,d::u,Y::gs,l,p,q,b,a=>by
  obtain⟨O,Z⟩:=l;obtain⟨L,ad⟩:=p;obtain⟨M,am⟩:=q;have an:=KG F (S:=S) (avs:=i) (args:=u) (gs:=gs) Z ad am;have e:b∈fa rt i u gs->aN (ba I' C.B) w' b.2.1.1 b.2.2.1 b.2.1.2 b.2.2.2/\b.2.2.1=rt b.1/\b.1∈eB (av::i) (d::u)/\∃g,ao st.h b.1=some g/\b.2.1.1=g.1:=by
   intro a;obtain⟨ar,T,r,E⟩:=an b a;refine⟨ar,T,?_,E⟩;cases av with
   |ref id f=>cases f<;>cases d<;>simp only[eB]<;>first|exact e2 _ r|exact r
   |view id f Q N=>cases f<;>cases d<;>simp only[eB]<;>first|exact e2 _ r|exact r
   |_=>cases d<;>exact r
  cases av with
  |ref id f=>
   cases f with
   |cons s f=>exact e (by cases d<;>exact a)
   |nil=>
    cases d with
    |v g=>exact e a
    |o g=>exact e a
    |c n d1=>exact e a
    |n=>exact e a
    |s co ap=>exact e a
    |w a4 i Q N V=>exact e a
    |m g d2=>
     simp only[fa,dh] at a;rcases a with rfl|a
     ·obtain⟨j,P,H⟩:=L;obtain⟨ce,k,D⟩:=M;cases O with|ref y G=>
      rw[j] at y;cases y;obtain⟨rfl,rfl,rfl⟩:=aP.eR.1 G;have:=Zf H (F.tree id _ j).1.len D.len k;subst this;exact⟨D.eu P,rfl,by simp[eB],g,j,rfl⟩
     exact e a
  |view id f Q N=>
   cases f with
   |cons s f=>exact e (by cases d<;>exact a)
   |nil=>
    cases d with
    |w a4 i ap k V=>
     simp only[fa,dh] at a;rcases a with rfl|a
     ·obtain⟨j,⟨rfl,rfl⟩,P,H⟩:=L;obtain⟨d,o,J,k,cs,D⟩:=M;cases O with
      |kv=>omega
      |view y G ar T r=>
      rename_i d0 d3 cv W R a0 K;rw[j] at y;cases y;obtain⟨aj,ci,X⟩:=aP.eR.1 G;simp only[ag.osl.injEq] at aj;subst aj;obtain⟨bl,bs,E,_⟩:=(F.tree id _ j).1;have z:rt id=[.slice (some ⟨W,R,none⟩) a0 K]:=X;rw[E] at z;simp only[fK,Value.slice.injEq,and_true] at z;rw[if_neg U] at k;simp only[Value.slice.injEq,bI,Addr.mk.injEq,and_true] at k;obtain⟨⟨a3,dl⟩,ds,aL⟩:=k;have:rt id=[.slice (some ⟨d,o,none⟩) i.length J]:=(by rw[E,z.1,z.2.2,<-a3,(U:o=R),(U:J=K)]);refine⟨?_,rfl,by simp[eB],_,j,rfl⟩;show aN (ba I' C.B) w' (.osl _) (rt id) V Y;rw[this];exact D.eu H
     exact e a
    |_=>exact e a
  |_=>exact e (by cases d<;>exact a)
theorem KE {x:cY}:∀{as:List al} {r:List fJ} {g:cS} {e:cN},mM st.h x as r->kI (vf I' B' w') r g e->((fa rt as r e).map (λz=>z.2.2.2)).flatten=e.flatten
 |[],[],g,e,f,d=>by cases g<;>cases e<;>first|rfl|exact d.elim
 |[],q::t,g,e,f,d=>f.elim
 |a::as,[],g,e,f,d=>by cases a<;>exact f.elim
 |a::as,q::t,[],e,f,d=>d.elim
 |a::as,q::t,v::g,[],f,d=>d.elim
 |a::as,q::t,v::g,k::e,f,d=>by
  have y:=KE (as:=as) f.2 d.2;have l:=f.1;have p:=d.1;rw[iu,<-y];cases q with
  |m u F=>
   cases a with
   |ref id b=>cases b with
    |nil=>simp only[fa,ep,iu]
    |cons=>exact l.elim
   |_=>exact l.elim
  |w H E C B G=>
   cases a with
   |view id b i j=>cases b with
    |nil=>simp only[fa,ep,iu]
    |cons=>exact l.elim
   |ref id b=>cases b<;>exact l.elim
   |_=>exact l.elim
  |v u=>
   have:k=[]:=p;subst this;cases a with
   |ref id b=>cases b<;>simp only[fa,fr]
   |view id b i j=>cases b<;>simp only[fa,fr]
   |_=>simp only[fa,fr]
  |o u=>
   have:k=[]:=p;subst this;cases a with
   |ref id b=>cases b<;>simp only[fa,fr]
   |view id b i j=>cases b<;>simp only[fa,fr]
   |_=>simp only[fa,fr]
  |n=>
   have:k=[]:=p;subst this;cases a with
   |ref id b=>cases b<;>simp only[fa,fr]
   |view id b i j=>cases b<;>simp only[fa,fr]
   |_=>simp only[fa,fr]
  |s A i=>
   have:k=[]:=p;subst this;cases a with
   |ref id b=>cases b<;>simp only[fa,fr]
   |view id b i j=>cases b<;>simp only[fa,fr]
   |_=>simp only[fa,fr]
  |c n D=>
   have:k=[]:=p;subst this;cases a with
   |ref id b=>cases b<;>simp only[fa,fr]
   |view id b i j=>cases b<;>simp only[fa,fr]
   |_=>simp only[fa,fr]
theorem Lk {I:Nat->Prop}:∀{f:List aC} {d:cS} {c:cN},kI (yo I w) f d c->∃h:cJ,h.length=f.length/\c.length=f.length/\d.length=f.length/\∀(b:Nat) (t:aC) (e:cS) (a:cY) (g:Value),f[b]?=some t->h[b]?=some e->c[b]?=some a->d[b]?=some g->g=bH t.1 e/\aN (ba I (λ_=>False)) w t.1 e t.2 a
 |[],d,c,a=>by cases d<;>cases c<;>first|exact⟨[],rfl,rfl,rfl,λb t e a g p=>by simp at p⟩|exact a.elim
 |t::l,[],c,a=>a.elim
 |t::l,g::d,[],a=>a.elim
 |t::l,g::d,A::c,a=>by
  obtain⟨⟨e,n,s⟩,q⟩:=a;obtain⟨h,u,v,x,r⟩:=Lk q;refine⟨e::h,by simp[u],by simp[v],by simp[x],λb y m o z aj i j k=>?_⟩;cases b with
  |zero=>simp only[iL,bI] at aj i j k;subst aj;subst i;subst j;subst k;exact⟨n,s⟩
  |succ b=>exact r b y m o z (by simpa using aj) (by simpa using i) (by simpa using j) (by simpa using k)
theorem Lm {m:Nat} {p:Bool}:∀{j:Nat} {i:List aC} {c:cJ} {d:cN},c.length=i.length->d.length=i.length->∀b∈jw m p j i c d,∃e:Nat,i[e]?=some b.2.1/\c[e]?=some b.2.2.1/\d[e]?=some b.2.2.2
 |j,[],c,d,f,g,b,a=>by cases c<;>cases d<;>simp[jw] at a
 |j,k::h,[],d,f,g,b,a=>by cases f
 |j,k::h,l::c,[],f,g,b,a=>by cases g
 |j,k::h,l::c,s::d,f,g,b,a=>by
  simp only[jw] at a;have o:b∈jw m p (j+1) h c d->∃e,(k::h)[e]?=some b.2.1/\(l::c)[e]?=some b.2.2.1/\(s::d)[e]?=some b.2.2.2:=λa=>(by obtain⟨e,aj,q,r⟩:=Lm (by simpa using f) (by simpa using g) b a;exact⟨e+1,by rw[oG];exact aj,by rw[oG];exact q,by rw[oG];exact r⟩);cases n:k.1.pure
  ·rw[n] at a;simp only[cond_false,dh] at a;rcases a with rfl|a
   ·exact⟨0,rfl,rfl,rfl⟩
   exact o a
  rw[n] at a;exact o a
theorem Ll {d:Nat} {s:Bool}:∀{j:Nat} {res:List aC} {cs:cJ} {hs:cN},((jw d s j res cs hs).map (λg=>g.2.2.2)).flatten.Sublist hs.flatten
 |j,[],cs,hs=>by simp[jw]
 |j,b::a,[],hs=>by simp[jw]
 |j,b::a,e::cs,[]=>by simp[jw]
 |j,b::a,e::cs,f::hs=>by
  have c:=Ll (d:=d) (s:=s) (j:=j+1) (res:=a) (cs:=cs) (hs:=hs);simp only[jw];cases b.1.pure
  ·simp only[cond_false,ep,iu];exact List.Sublist.append (List.Sublist.refl f) c
  simp only[cond_true,iu];exact c.trans (List.sublist_append_right _ _)
theorem GG (q:bt C st A w I rt fp) {g:cY} (j:∀b,C.B b->B' b) (p:∀id a,ao st.h id=some a->db id g=false->∀b∈fp id,B' b) {d:al} {m:Value} (e:bE (ba I C.B) w st.h rt fp d m) {a:aC} (c:rk st.h g d a):∃i,m=bH a.1 i/\aN (ba I B') w a.1 i a.2 []:=by
 cases d with
 |val o n=>
  have c:l4 o n a.1 a.2:=c;cases e with|val z=>
  exact⟨_,c.st _,c.rep j z ab⟩
 |bP G=>
  obtain⟨ar,y⟩:=c;cases e;exact⟨_,y.symm,nX ar⟩
 |ref id E=>
  obtain⟨r,F,o,n,f,x,l⟩:=c;cases e with|ref k u=>
  rw[f] at k;cases k;obtain⟨rfl,D,v,_,t⟩:=q.jq f x u;exact⟨_,l.st _,l.rep j v (λb s=>p id _ f r b (t b s))⟩
 |_=>exact c.elim
theorem GJ (i:bt C st A w I rt fp) {c:cY} (f:∀b,C.B b->B' b) (g:∀id l,ao st.h id=some l->db id c=false->∀b∈fp id,B' b):∀{d:List al} {k:cS} {j:List aC},g1 (bE (ba I C.B) w st.h rt fp) d k->g1 (rk st.h c) d j->g1 (vk I B' w) j k
 |[],[],[],_,_=>trivial
 |[],_::_,_,a,_=>a.elim
 |_::_,[],_,a,_=>a.elim
 |[],_,_::_,_,a=>a.elim
 |_::_,_,[],_,a=>a.elim
 |_::_,_::_,_::_,a,e=>⟨GG i f g a.1 e.1,GJ i f g a.2 e.2⟩
theorem GL (u:bt C st A w I rt fp) {S:cY} (G:∀d,C.B d->B' d) (J:∀id r,ao st.h id=some r->db id S=false->∀d∈fp id,B' d):∀{H:List al} {y:cS} {args:List fJ},g1 (bE (ba I C.B) w st.h rt fp) H y->mM st.h S H args->∃e,kI (ve I B' w) args y e/\e.flatten=((eB H args).map fp).flatten
 |[],y,args,j,i=>by cases args with
  |nil=>cases y with
   |nil=>exact⟨[],trivial,rfl⟩
   |cons=>exact j.elim
  |cons=>exact i.elim
 |x::p,y,[],j,i=>by cases x<;>exact i.elim
 |x::p,[],d::z,j,i=>j.elim
 |av::p,v::y,d::z,j,i=>by
  obtain⟨q,j⟩:=j;obtain⟨a,Y⟩:=i;obtain⟨e,f,g⟩:=GL u G J j Y;cases d with
  |v r=>
   have t:eB (av::p) (.v r::z)=eB p z:=by cases av<;>first|rfl|(rename_i id b;cases b<;>rfl)|(rename_i id b F t;cases b<;>rfl)
   have a:rk st.h S av r:=(by cases av<;>exact a);exact⟨[]::e,⟨⟨rfl,GG u G J q a⟩,f⟩,by rw[t];simpa using g⟩
  |s X F=>
   have t:eB (av::p) (.s X F::z)=eB p z:=by cases av<;>first|rfl|(rename_i id b;cases b<;>rfl)|(rename_i id b F t;cases b<;>rfl)
   exact⟨[]::e,⟨rfl,f⟩,by rw[t];simpa using g⟩
  |n=>
   cases av with
   |bP T=>
    obtain rfl:T=.slice none 0 0:=a;cases q;exact⟨[]::e,⟨⟨rfl,rfl⟩,f⟩,by simpa[eB] using g⟩
   |ref id b=>cases b<;>exact a.elim
   |_=>exact a.elim
  |c n d2=>
   cases av with
   |dg m F=>
    obtain⟨rfl,a⟩:=a;cases q with|dg ad Z=>
    rename_i a0;refine⟨[]::e,⟨⟨rfl,a0.toList,rfl,GJ u G J (yx (by simpa using ad) (λan V d f g=>Z an V d f (by simpa using g))) a⟩,f⟩,by simpa[eB] using g⟩
   |ref id b=>cases b<;>exact a.elim
   |_=>exact a.elim
  |w a3 p cs ci d4=>
   cases av with
   |view id b F t=>cases b with
    |nil=>
     obtain⟨l,⟨rfl,rfl⟩,K,ap⟩:=a;cases q with
     |kv=>omega
     |view k E ar dl ds=>
     rename_i d1 d5 cv L Q P M;rw[l] at k;cases k;obtain⟨aj,ce,W⟩:=aP.eR.1 E;simp only[ag.osl.injEq] at aj;subst aj;have O:=(u.tree id _ l).1;have D:rt id=[.slice (some ⟨L,Q,none⟩) P M]:=W;have am:=O;obtain⟨bl,bs,R,d0⟩:=am;rw[R] at D;simp only[fK,Value.slice.injEq,and_true] at D;have co:p.length=P:=D.2.1;refine⟨fp id::e,⟨⟨L,Q,M,?_,⟨K,U,U⟩,?_⟩,f⟩,by simp only[eB,ep,iu,g]⟩
     ·rw[if_neg U]
     have:=aN.eu (τ:=.osl a3) (B':=B') ap O;rw[R,D.1,D.2.2] at this;exact this
    |cons=>exact a.elim
   |ref id b=>cases b<;>exact a.elim
   |_=>exact a.elim
  |m r d3=>
   cases av with
   |ref id b=>cases b with
    |nil=>
     obtain⟨l,K,_⟩:=a;cases q with|ref k E=>
     rw[l] at k;cases k;obtain⟨rfl,rfl,rfl⟩:=aP.eR.1 E;exact⟨fp id::e,⟨⟨rt id,rfl,(u.tree id _ l).1.eu K⟩,f⟩,by simp only[eB,ep,iu,g]⟩
    |cons=>exact a.elim
   |_=>exact a.elim
  |o r=>
   cases av with
   |ref id b=>cases b with
    |nil=>
     have l:ao st.h id=some r:=a;cases q with|ref k E=>
     rw[l] at k;cases k;obtain⟨rfl,rfl,rfl⟩:=aP.eR.1 E;refine⟨fp id::e,⟨⟨rt id,rfl,(u.tree id _ l).1.mono (λm d N=>⟨?_,bN.refl w d⟩) (λd _=>bN.refl w d)⟩,f⟩,by simp only[eB,ep,iu,g]⟩;cases m
     ·exact N
     exact N.imp (λi=>i) (G d)
    |cons=>exact a.elim
   |bP T=>
    obtain⟨rfl,a4,rfl⟩:=a;cases q;exact⟨[]::e,⟨⟨[.slice none 0 0],rfl,none,0,rfl,.inl ⟨rfl,rfl,rfl,rfl⟩⟩,f⟩,by simpa[eB] using g⟩
   |_=>exact a.elim
end
end
section
def lH (d:Nat) (st:aJ) (c:List al) (b:List fJ) (a:List aC):Bool:=
 hM (eB c b)&&hM ((il c b++ho d (g5 a) 0 a).map (·.1))&&(ho d (g5 a) 0 a).all λe=>(ao st.h e.1).isNone
section
variable {E:dW} {C:dn} {st:aJ} {a:Act} {w w':World} {I I' B':Nat->Prop} {rt:Nat->cS} {fp:Nat->cY}
theorem IC {rt:Nat->cS} {n:cY} {b:List (Nat×aC)}:∀{as:List al} {bs:List fJ} {gs:cN},mM b n as bs->gs.length=bs.length->∀id∈kP as bs,∃c∈fa rt as bs gs,c.1=id/\ao b id=some ⟨c.2.1.1,(match ao b id with|some k=>if f:k.1=c.2.1.1 then f▸k.2 else c.2.1.2|none=>c.2.1.2)⟩
 |[],bs,gs,_,_,id,b=>by cases bs<;>cases b
 |a::as,[],gs,g,_,id,b=>by cases a<;>exact g.elim
 |a::as,e::bs,[],_,h,id,b=>by cases h
 |a::as,e::bs,p::gs,g,h,id,b=>by
  have d:=IC (rt:=rt) (as:=as) (bs:=bs) (gs:=gs) g.2 (by simpa using h) id;have l:=g.1;cases a with
  |ref o j=>cases j with
   |nil=>
    cases e with
    |m k u=>
     simp only[kP,dh] at b;simp only[fa];rcases b with rfl|b
     ·refine⟨_,jI ..,rfl,?_⟩;rw[l.1];simp
     obtain⟨c,i,f⟩:=d b;exact⟨c,e2 _ i,f⟩
    |_=>exact d b
   |cons=>cases e<;>exact d b
  |view o j r f=>cases j with
   |nil=>
    cases e with
    |w x t s q v=>
     simp only[kP,dh] at b;simp only[fa];rcases b with rfl|b
     ·refine⟨_,jI ..,rfl,?_⟩;rw[l.1];simp
     obtain⟨c,i,f⟩:=d b;exact⟨c,e2 _ i,f⟩
    |_=>exact d b
   |cons=>cases e<;>exact d b
  |_=>cases e<;>exact d b
theorem Ct {e f g:Type} {h:e->f->g->Prop}:∀{as:List e} {c:List f} {d:List g},kI h as c d->c.length=as.length/\d.length=as.length
 |[],c,d,b=>by cases c<;>cases d<;>first|exact⟨rfl,rfl⟩|exact b.elim
 |a::as,[],d,b=>b.elim
 |a::as,i::c,[],b=>b.elim
 |a::as,i::c,l::d,b=>by obtain⟨j,k⟩:=Ct b.2;simp[j,k]
theorem VO {b:List (Nat×vA)} (j:((b.map λc=>c.2.2.2).flatten).Nodup):(∀c∈b,c.2.2.2.Nodup)/\∀e f g h,ao b e=some g->ao b f=some h->e≠f->∀a∈g.2.2,a∉h.2.2:=by
 induction b with
 |nil=>exact⟨ab,λe f g h j=>by cases j⟩
 |cons t b A=>
  obtain⟨B,t⟩:=t;simp only[ep,iu,hF] at j;obtain⟨v,w,q⟩:=j;obtain⟨i1,z⟩:=A w;refine⟨λc n=>?_,λe f g h i d r a l=>?_⟩
  ·rcases dh.1 n with rfl|n
   ·exact v
   exact i1 c n
  rw[bU] at i d;have s:∀o k,ao b o=some k->∀p∈k.2.2,p∈(b.map λc=>c.2.2.2).flatten:=λo k y p x=>iv.2 ⟨_,bR.2 ⟨(o,k),w9 y,rfl⟩,x⟩;split at i
  ·rename_i aj;split at d
   ·rename_i u;exact absurd (aj.symm.trans u) r
   obtain rfl:=ec i;intro m;exact q a l a (s f h d a m) rfl
  split at d
  ·obtain rfl:=ec d;intro m;exact q a m a (s e g i a l) rfl
  exact z e f g h i d r a l
theorem AZ {e:Type}:∀{c:List (Nat×e)},(c.map (·.1)).Nodup->∀{b:Nat×e},b∈c->ao c b.1=some b.2
 |[],_,b,a=>by cases a
 |(k,x)::c,d,b,a=>by
  simp only[ep,je] at d;rw[bU];rcases dh.1 a with rfl|a
  ·rw[if_pos rfl]
  rw[if_neg (λf=>d.1 (by rw[f];exact bR.2 ⟨b,a,rfl⟩))];exact AZ d.2 a
theorem Lh {e:Nat} {g:Bool}:∀{j:Nat} {f:List aC} {a:Nat} {d:al},(q5 e g j f)[a]?=some d->∃c,f[a]?=some c/\d=(bif c.1.pure then .val c.1 c.2 else .ref (pt e g (j+a)) [])
 |j,[],a,d,b=>by simp[q5] at b
 |j,c::l,a,d,b=>by
  simp only[q5] at b;cases a with
  |zero=>simp only[iL,bI] at b;exact⟨c,rfl,b.symm⟩
  |succ a=>
   obtain⟨k,h,i⟩:=Lh (by simpa using b);exact⟨k,by simpa using h,by rw[i,(U:j+1+a=j+(a+1))]⟩
theorem Li {b:Nat} {c:Bool}:∀{j:Nat} {a:List aC},(q5 b c j a).length=a.length
 |j,[]=>rfl
 |j,e::d=>by simp[q5,Li]
theorem Ln {d:Nat} {s:Bool}:∀{j:Nat} {res:List aC} {cs:cJ} {hs:cN},cs.length=res.length->hs.length=res.length->∀(a:Nat) b c e,res[a]?=some b->cs[a]?=some c->hs[a]?=some e->b.1.pure=false->(pt d s (j+a),(b,c,e))∈jw d s j res cs hs
 |j,[],cs,hs,_,_,a,b,c,e,aj,_,_,_=>by simp at aj
 |j,b::k,[],hs,h,_,_,_,_,_,_,_,_,_=>by cases h
 |j,b::k,c::cs,[],_,i,_,_,_,_,_,_,_,_=>by cases i
 |j,b::k,c::cs,e::hs,h,i,a,o,m,n,aj,f,g,l=>by
  simp only[jw];cases a with
  |zero=>
   simp only[iL,bI] at aj f g;subst aj;subst f;subst g;rw[l];exact jI ..
  |succ a=>
   have:=Ln (d:=d) (s:=s) (j:=j+1) (res:=k) (cs:=cs) (hs:=hs) (by simpa using h) (by simpa using i) a o m n (by simpa using aj) (by simpa using f) (by simpa using g) l;rw[(U:j+1+a=j+(a+1))] at this;cases b.1.pure
   ·exact e2 _ this
   exact this
end
section
variable {E:dW} {C:dn} {st:aJ} {A:Array Oper} {Q:aJ->Prop}
theorem L8 {i:List (Nat×aC)} {j:cY}:∀{as:List al} {bs:List fJ},mM i j as bs->∀id∈eB as bs,∃h,ao i id=some h
 |[],bs,_,id,b=>by cases bs<;>cases b
 |a::as,[],e,id,b=>by cases a<;>exact e.elim
 |a::as,d::bs,e,id,b=>by
  have c:=L8 (as:=as) (bs:=bs) e.2 id;have f:=e.1;cases a with
  |ref k g=>cases g with
   |nil=>
    cases d with
    |m h s=>
     simp only[eB,dh] at b;rcases b with rfl|b
     ·exact⟨_,f.1⟩
     exact c b
    |o h=>
     simp only[eB,dh] at b;rcases b with rfl|b
     ·exact⟨_,f⟩
     exact c b
    |_=>exact c b
   |cons=>cases d<;>exact c b
  |view k g p l=>cases g with
   |nil=>
    cases d with
    |w u r q n t=>
     simp only[eB,dh] at b;rcases b with rfl|b
     ·exact⟨_,f.1⟩
     exact c b
    |_=>exact c b
   |cons=>cases d<;>exact c b
  |_=>cases d<;>exact c b
theorem En {t:cQ} {w:World} {I:Nat->Prop} {rt:Nat->cS} {fp:Nat->cY} (e:bt C st t w I rt fp):∀{a:cY},(∀id∈a,∃b,ao st.h id=some b)->a.Nodup->((a.map fp).flatten).Nodup
 |[],_,_=>by simp
 |id::a,d,f=>by rw[je] at f;simp only[ep,iu,hF];obtain⟨b,i⟩:=d id ab;refine⟨(e.tree id b i).2.1,En e (λr p=>d r (by simp[p])) f.2,λk n u o c=>?_⟩;subst c;obtain⟨v,l,m⟩:=iv.1 o;obtain⟨j,g,rfl⟩:=bR.1 l;obtain⟨s,q⟩:=d j (by simp[g]);exact e.dis id j b s i q (λc=>f.1 (c▸g)) k n m
def Rp (e:c5->Nat->Prop) (w:World) (c:Nat) (b:List aC) (f:Nat->cS) (g:Value):Prop:=
 ∀(d:List (Nat×aC)) (rt:Nat->cS) (fp:Nat->cY),(∀a∈ho c (g5 b) 0 b,ao d a.1=some a.2/\rt a.1=f a.1)->bE e w d rt fp (sV c b) g
theorem bt.glob {E:dW} {C:dn} {st:aJ} {f:cQ} {w:World} {I:Nat->Prop} {rt:Nat->cS} {fp:Nat->cY} (b:bt C st f w I rt fp) (d:∀a,C.I0 a\/C.B a->a<C.w0.heap.size/\¬C.F0 a) (e:jC E C.I0 C.w0):jC E I w:=
 e.mono b.i0 λa c=>b.frame a (d a (.inl c)).1 (d a (.inl c)).2
theorem bt.call {C:dn} {st:aJ} {lb:cQ} {w:World} {I:Nat->Prop} {rt:Nat->cS} {fp:Nat->cY} (J:bt C st lb w I rt fp) {o d2:Nat} {q:List al} {ap:cS} (d8:g1 (bE (ba I C.B) w st.h rt fp) q ap) {m:List fJ} {k:List aC} (go:pI E d2 m k) (av:mM st.h (eB q m) q m) (W:lH o st q m k=true) (i3:∀N:cN,(∀e∈N.flatten,∃id c,ao st.h id=some c/\e∈fp id)->F7 w ap N (nq 0 m)) (f8:jC E I w):Calls E.P d2 ap.toArray w (λQ w'=>∃I' H G v,Q=.returned (oe v)/\lE C st w w' I I' rt fp (eB q m) (uy (kP q m)) (il q m++ho o (g5 k) 0 k) H G/\Rp (ba I' C.B) w' o k H (oe v)):=by
 simp only[lH,bd,eI] at W;obtain⟨⟨cs,cv⟩,ii⟩:=W;have cs:=hM.ok cs;have cv:=hM.ok cv
 let D:=eB q m
 let B':Nat->Prop:=λe=>C.B e\/∃id c,ao st.h id=some c/\db id D=false/\e∈fp id
 have f6:∀e,C.B e->B' e:=λe f=>.inl f;have f7:∀id c,ao st.h id=some c->db id D=false->∀e∈fp id,B' e:=λid c r l e f=>.inr ⟨id,c,r,l,f⟩;obtain⟨N,hs,el⟩:=GL J (B':=B') (S:=D) f6 f7 (args:=m) d8 av;have fz:∀id∈D,∃c,ao st.h id=some c:=λid p=>L8 av id p;have V:∀e∈N.flatten,∃id∈D,∃c,ao st.h id=some c/\e∈fp id:=(by intro e f;rw[el] at f;obtain⟨lk,F,y⟩:=iv.1 f;obtain⟨id,p,rfl⟩:=bR.1 F;obtain⟨c,r⟩:=fz id p;exact⟨id,p,c,r,y⟩);have hv:N.flatten.Nodup:=(by rw[el];exact En J fz cs);have gt:=go w I B' ap N (λe f=>by
  rcases f with f|f|⟨id,c,r,_,f⟩
  ·exact J.ib e (.inl f)
  ·exact J.ib e (.inr f)
  ·exact((J.tree id c r).2.2 e f).2.2.1) hs hv (λe f=>by
  obtain⟨id,p,c,r,T⟩:=V e f;obtain⟨ar,a0,an,f1⟩:=(J.tree id c r).2.2 e T;refine⟨ar,?_,an⟩;rintro(x|⟨fT,a3,i8,l,gl⟩)
  ·exact a0 x
  ·have i0:id≠fT:=λQ=>(by rw[<-Q,ek.2 p] at l;cases l);exact J.dis id fT c a3 r i8 i0 e T gl) (i3 N λe f=>by
  obtain⟨id,_,c,r,T⟩:=V e f;exact⟨id,c,r,T⟩) f8
 refine gt.mono ?_;rintro Q w' ⟨I',M,L,v,rfl,u⟩;obtain⟨O,Z,ad,am,ft⟩:=Lk u.res;have em:=(Ct u.args).2;have d7:mM st.h D q m:=av
 let n:List (Nat×vA):=fa rt q m M++jw o (g5 k) 0 k O L
 have d6:n.map (λb=>(b.1,b.2.1))=il q m++ho o (g5 k) 0 k:=(by simp only[n,gb];rw[KF em,BE Z ad]);have d5:(n.map (·.1)).Nodup:=(by have:n.map (·.1)=(n.map (λb=>(b.1,b.2.1))).map (·.1):=(by simp[pR]);rw[this,d6];exact cv);have hi:((fa rt q m M).map (λb=>b.2.2.2)).flatten=M.flatten:=KE d7 u.args;have hr:((jw o (g5 k) 0 k O L).map (λb=>b.2.2.2)).flatten.Sublist L.flatten:=Ll;have d4:((n.map λb=>b.2.2.2).flatten).Sublist (M.flatten++L.flatten):=(by simp only[n,gb,oF];rw[hi];exact List.Sublist.append (List.Sublist.refl _) hr);obtain⟨ge,gc⟩:=VO (u.uO.sublist d4);have fn:∀b∈fa rt q m M,aN (ba I' C.B) w' b.2.1.1 b.2.2.1 b.2.1.2 b.2.2.2/\b.2.2.1=rt b.1/\b.1∈D/\∃c,ao st.h b.1=some c/\b.2.1.1=c.1:=(by exact KG J (S:=D) (args:=m) (gs:=M) d8 av u.args);have gf:∀b∈n,aN (ba I' C.B) w' b.2.1.1 b.2.2.1 b.2.1.2 b.2.2.2/\(b.1∈D\/ao st.h b.1=none):=by
  intro b z;rcases dO.1 z with z|z
  ·obtain⟨ar,_,an,_⟩:=fn b z;exact⟨ar,.inl an⟩
  obtain⟨g,aj,U,a4⟩:=Lm Z ad b z;have io:g<v.length:=(by rw[am];exact(eb.1 aj).1);obtain⟨_,X⟩:=ft g _ _ _ v[g] aj U a4 ab;refine⟨X.mono (λds e l=>⟨?_,bN.refl _ _⟩) (λe _=>bN.refl _ _),.inr ?_⟩
  ·cases ds
   ·exact l
   exact l.elim .inl (λx=>x.elim)
  have l:(b.1,b.2.1)∈ho o (g5 k) 0 k:=(by rw[<-BE (d:=o) (s:=g5 k) (j:=0) Z ad];exact bR.2 ⟨b,z,rfl⟩);exact Option.isNone_iff_eq_none.1 (ii _ l)
 have f9:∀b∈n,∀e∈b.2.2.2,e∈M.flatten++L.flatten:=λb z e f=>d4.subset (iv.2 ⟨_,bR.2 ⟨b,z,rfl⟩,f⟩);have dl:∀g,ao (il q m++ho o (g5 k) 0 k) g=(ao n g).map (·.1):=λg=>by rw[<-d6];exact IR (λb:vA=>b.1) n g
 let H:Nat->cS:=λg=>match ao n g with|some b=>b.2.1|none=>[]
 let G:Nat->cY:=λg=>match ao n g with|some b=>b.2.2|none=>[]
 have jp:lE C st w w' I I' rt fp D (uy (kP q m)) (il q m++ho o (g5 k) 0 k) H G:=
  ⟨u.size,u.os,u.tape,u.output,λe f gi=>u.heap e f (λhc=>by obtain⟨id,p,c,r,T⟩:=V e hc;exact gi id p c r T),u.evo,u.i,(λe f=>by
    rcases u.i2 e f with x|⟨F,y|y⟩
    ·exact .inl x
    ·exact .inr ⟨F,.inl y⟩
    exact .inr ⟨F,.inr (V e y)⟩),
   (λid c p=>by
    rw[dl] at p;cases R:ao n id with
    |none=>rw[R] at p;cases p
    |some b=>
     rw[R] at p;obtain rfl:b.1=c:=ec p;have l:=w9 R;obtain⟨F,y⟩:=gf _ l;refine⟨y,by simp only[H,G,R];exact F,by simp only[G,R];exact ge _ l,λe f=>?_⟩;simp only[G,R] at f;obtain⟨ar,a0,an,f1⟩:=u.GW e (f9 _ l e f);exact⟨ar,an,f1.imp (λx=>x) (V e)⟩),
   (λY d1 c lp ci co ic e f=>by
    rw[dl] at ci co;cases bl:ao n Y with
    |none=>rw[bl] at ci;cases ci
    |some kd=>
     cases bs:ao n d1 with
     |none=>rw[bs] at co;cases co
     |some kg=>
      simp only[G,bl] at f;simp only[G,bs];exact gc Y d1 kd kg bl bs ic e f),
   (λf2 ce c r=>by
    obtain⟨id,p,rfl⟩:=bR.1 ce;obtain⟨b,z,Q,_⟩:=IC (rt:=rt) d7 em id p;subst Q;have l:b∈n:=mO _ z;have eq:=AZ d5 l;obtain⟨_,y,_,a3,d3,f5⟩:=fn b z;rw[r] at d3;obtain rfl:=ec d3;exact⟨b.2.1,by rw[dl,eq];rfl,f5,by simp only[H,eq];exact y,⟨c.1,by cases c.1<;>rfl⟩,λb _ _ _ W=>by rw[AV] at W;cases W⟩),
   (λf2 ce c r b _ _ _ _ _ d9=>by
    obtain⟨id,p,rfl⟩:=bR.1 ce;rw[sb] at d9;cases d9)⟩
 refine⟨I',H,G,v,rfl,jp,λF k0 f4 hw=>?_⟩;have f0:∀(g:Nat) (c:aC) (A:Value),k[g]?=some c->v[g]?=some A->bE (ba I' C.B) w' F k0 f4 (bif c.1.pure then .val c.1 c.2 else .ref (pt o (g5 k) (0+g)) []) A:=by
  intro g c A aj U;have io:g<k.length:=(eb.1 aj).1;obtain⟨a4,X⟩:=ft g c O[g] L[g] A aj ab ab U;subst a4;cases fs:c.1.pure with
  |true=>
   simp only[cond_true];have:=X.pure fs;rw[this] at X;refine .val (X.mono (λds e l=>⟨?_,bN.refl _ _⟩) ab);cases ds
   ·exact l
   exact l.elim .inl (λx=>x.elim)
  |false=>
   simp only[cond_false];have ex:=Ln (d:=o) (s:=g5 k) (j:=0) Z ad g c O[g] L[g] aj ab ab fs;have l:(pt o (g5 k) (0+g),(c,O[g],L[g]))∈n:=k2 _ ex;have is:(pt o (g5 k) (0+g),c)∈ho o (g5 k) 0 k:=(by rw[<-BE (d:=o) (s:=g5 k) (j:=0) Z ad];exact bR.2 ⟨_,ex,rfl⟩);obtain⟨ar,a0⟩:=hw _ is;refine .ref (t:=c) (loc:=none) ar ?_;have f3:H (pt o (g5 k) (0+g))=O[g]:=(by simp only[H,AZ d5 l]);rw[a0,f3];exact aP.here
 cases K:k with
 |nil=>
  have:v=[]:=lv (by rw[am,K];rfl);subst this;exact .dw (vs:=#[]) rfl (λY a A x=>by simp[q5] at x)
 |cons c d0=>
  cases d0 with
  |nil=>
   obtain⟨A,rfl⟩:∃A,v=[A]:=tn.1 (by rw[am,K];rfl);have:=f0 0 c A (by rw[K];rfl) rfl;rw[K] at this;exact this
  |cons la d0=>
   have i1:oe v=.tuple v.toArray:=by
    have:v.length=(c::la::d0).length:=by rw[am,K]
    match v,this with
    |v1::e1::lo,_=>rfl
   rw[i1];refine .dw (by simp[Li,am,K]) (λY le A F y=>?_);obtain⟨a3,aj,U⟩:=Lh F;have:=f0 Y a3 A (by rw[K];exact aj) (by simpa using y);rw[K] at this;rw[U];exact this
theorem Lo {a:Nat} {d:Bool} {c:List aC} {e:List (Nat×aC)} (f:((e++ho a d 0 c).map (·.1)).Nodup):∀b∈ho a d 0 c,ao (e++ho a d 0 c) b.1=some b.2:=
 λb g=>AZ f (k2 _ g)
theorem dm.call {Q:aJ->Prop} {k d:Nat} {m:Oper} {f:Operand} {c:List al} {b s:Array _} (S:m.op=.call {callee:=.value f,args:=b,argTypes:=s}) (Z:aO st.g f=.dg d c) (K:m.dst=some k) (L:C.ok k) (H:∀(r:cQ) (w:World),(callFunc d r).run E.P w=.ok (.enter d r) w) {i:List fJ} {n:List aC} (G:pI E d i n) (W:nq 0 i=none) (z:∀j,C.I0 j\/C.B j->j<C.w0.heap.size/\¬C.F0 j) (A:jC E C.I0 C.w0) (D:mM st.h (eB (b.toList.map (aO st.g)++c) i) (b.toList.map (aO st.g)++c) i) (p:lH k st (b.toList.map (aO st.g)++c) i n=true) (u:Q (Sc k st (b.toList.map (aO st.g)++c) i n)):dm E C m st Q:=by
 rintro a w ⟨I,rt,fp,l⟩ next ap R
 obtain⟨e,Y,y⟩:∃e:cQ,a.eval f=.func (.func d) #[] e/\g1 (bE (ba I C.B) w st.h rt fp) c e.toList:=by
  have o:=l.aO f;rw[Z] at o;generalize bs:a.eval f=ci at o;cases o with|dg N M=>
  exact⟨_,rfl,yx (by simpa using N) (λad a j v x=>M ad a j v (by simpa using x))⟩
 have F:g1 (bE (ba I C.B) w st.h rt fp) (b.toList.map (aO st.g)++c) (b.toList.map a.eval++e.toList):=Cr (Cs (λf=>l.aO f) _) y;have J:=l.call F G D p (λ_ _=>by rw[W];trivial) (l.glob z A);generalize bl:b.toList.map (aO st.g)++c=a0 at*;have V:(execOp a.eval m).run E.P w=.ok (.enter d (b.toList.map a.eval++e.toList).toArray) w:=(by have aj:b.map a.eval=(b.toList.map a.eval).toArray:=(by rw[<-Array.toList_map]);have t:(b.toList.map a.eval++e.toList).toArray=(b.toList.map a.eval).toArray++e:=ab;rw[t];simp only[execOp,S,resolve,aj,Sem.run_bind,Y,Deferred.ofValue,Sem.run_pure,Result.andThen_ok,invoke,Array.empty_append,Array.append_empty];exact H _ _);unfold Oper.wp;rw[V];show Calls E.P d _ w _;refine J.mono ?_;rintro a3 w' ⟨I',ce,a4,an,rfl,X,U⟩;show next (a.put m.dst (oe an)) w'
 rw[K];have q:=p;simp only[lH,bd] at q;have O:=hM.ok q.1.2;refine R _ _ _ u rfl ⟨I',_,_,(l.eH X).put L (av:=sV k n) (U _ _ _ (λam T=>?_))⟩;have:=Lo O am T;exact⟨by rw[iF,this];rfl,by simp only[dA,this]⟩
end
end
end Go.i9
end
