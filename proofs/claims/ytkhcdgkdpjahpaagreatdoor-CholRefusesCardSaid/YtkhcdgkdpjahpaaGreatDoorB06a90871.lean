/-
  Parts of the proof: Fw20, Fw21: the framework (Fw), pure forms (Dn), plain laws (Pl, Th), calls of functions (Ok).
-/
import Derived.Test.YtkhcdgkdpjahpaaGreatDoorB0d7eb98d

set_option linter.all false
set_option maxHeartbeats 1000000
noncomputable section
namespace Go.ia
section
def kz {c d e:Type} (b:c->d->e->Prop):List c->List d->List e->Prop
 |[],[],[]=>True
 |a::as,f::g,h::i=>b a f h/\kz b as g i
 |_,_,_=>False
def g2 {c d:Type} (b:c->d->Prop):List c->List d->Prop
 |[],[]=>True
 |a::as,e::f=>b a e/\g2 b as f
 |_,_=>False
def Hx {d e:Type} {f:d->e->Prop}:∀{as:List d} {c:List e},g2 f as c->c.length=as.length
 |[],[],_=>rfl
 |[],_::_,b=>b.elim
 |_::_,[],b=>b.elim
 |a::as,g::c,b=>by have:=Hx b.2;simp[this]
def Do {e f:Type} {c:e->f->Prop}:∀{as:List e} {d:List f} {g:List e} {h:List f},g2 c as d->g2 c g h->g2 c (as++g) (d++h)
 |[],[],_,_,_,b=>b
 |[],_::_,_,_,b,_=>b.elim
 |_::_,[],_,_,b,_=>b.elim
 |a::as,j::d,_,_,b,i=>⟨b.1,Do b.2 i⟩
def za {h i:Type} {f:h->i->Prop}:∀{as:List h} {d:List i},as.length=d.length->(∀(e:Nat) a c,as[e]?=some a->d[e]?=some c->f a c)->g2 f as d
 |[],[],_,_=>trivial
 |[],_::_,b,_=>by cases b
 |_::_,[],b,_=>by cases b
 |a::as,c::d,b,g=>⟨g 0 a c rfl rfl,za (by simpa using b) (λe l m j k=>g (e+1) l m (by simpa using j) (by simpa using k))⟩
def Dp {b g h:Type} {c:g->h->Prop} {d:b->g} {e:b->h} (f:∀x,c (d x) (e x)):∀a:List b,g2 c (a.map d) (a.map e)
 |[]=>trivial
 |x::a=>⟨f x,Dp f a⟩
inductive fH where
 |v (t:aH)
 |m (t:aH) (y:t.1.den)
 |o (t:aH)
 |c (f:Nat) (ZN:List aH)
 |n
 |s (f:Nat) (l:ac7)
 |w (σ:ai) (xs:List σ.den) (lo hi:Nat) (yD:List σ.den)
def vF (I c:Nat->Prop) (w:World) (a:aH) (d:Value):Prop:=∃b,d=bG a.1 b/\aP (ba I c) w a.1 b a.2 []
def vz (I f:Nat->Prop) (w:World):fH->Value->ac7->Prop
 |.v b,d,a=>a=[]/\∃e,d=bG b.1 e/\aP (ba I f) w b.1 e b.2 []
 |.m b _,d,a=>∃e,d=bG b.1 e/\aP (ba I f) w b.1 e b.2 a
 |.o b,d,a=>∃e,d=bG b.1 e/\aP (ba I f) w b.1 e b.2 a
 |.n,d,a=>a=[]/\d=.slice none 0 0
 |.s _ _,_,a=>a=[]
 |.w q h g j _,d,a=>∃k l i,d=.slice (some ⟨k,l+g*q.size,none⟩) (j-g) (i-g)/\(g<j/\j<=h.length/\h.length<=i)/\aP (ba I f) w (.osl q) [.slice (some ⟨k,l,none⟩) h.length i] h a
 |.c r t,d,a=>a=[]/\∃p:ac1,d=.func (.func r) #[] p.toArray/\g2 (vF I f w) t p
def ny:Nat->List fH->Option cR
 |_,[]=>none
 |k,.s a b::_=>some (k,a,b)
 |k,_::c=>ny (k+1) c
def Hi (w:World) (b:ac1) (i:acW):Option cR->Prop
 |none=>True
 |some (d,h,e)=>d<b.length/\(∀c∈e,c<b.length)/\∃a f g,b.getD d undef=.pointer (some ⟨a,f,none⟩)/\a<w.heap.size/\a∉i.flatten/\w.cell? ⟨a,f,none⟩=some (.func (.func h) #[] g)/\g.toList=e.map λc=>b.getD c undef
def vA (I e:Nat->Prop) (w:World):fH->Value->ac7->Prop
 |.m i n,d,a=>∃g,d=bG i.1 g/\aP (ba I e) w i.1 g n a
 |.w j l b k o,d,a=>∃f h c,d=.slice (some ⟨f,h+b*j.size,none⟩) (k-b) (c-b)/\b<c/\aP (ba I e) w (.osl j) [.slice (some ⟨f,h,none⟩) l.length c] o a
 |_,_,a=>a=[]
def yY (I:Nat->Prop) (w:World) (a:aH) (d:Value) (c:ac7):Prop:=∃b,d=bG a.1 b/\aP (ba I (λ_=>False)) w a.1 b a.2 c
def ow:ac1->Value
 |[v]=>v
 |vs=>.tuple vs.toArray
structure Hh (I B:Nat->Prop) (w:World) (fs:acW) (args:List fH) (vs:ac1) (res:List aH) (I':Nat->Prop) (gs hs:acW) (XN:ac1) (w':World):Prop where
 args:kz (vA I' B w') args vs gs
 res:kz (yY I' w') res XN hs
 u6:(gs.flatten++hs.flatten).Nodup
 H6:∀b∈gs.flatten++hs.flatten,¬I' b/\¬B b/\b<w'.heap.size/\(w.heap.size<=b\/b∈fs.flatten)
 i:∀b,I b->I' b
 i2:∀b,I' b->I b\/(b<w'.heap.size/\(w.heap.size<=b\/b∈fs.flatten))
 size:w.heap.size<=w'.heap.size
 os:w'.os=w.os
 tape:w'.tape=w.tape
 output:w'.output=w.output
 evo:∀b,b<w.heap.size->i7 w w' b
 heap:∀b,b<w.heap.size->b∉fs.flatten->w'.heap[b]?=w.heap[b]?
def jy (E:dR) (I:Nat->Prop) (w:World):Prop:=∀a∈E.glob,aP (ba I λ_=>False) w (.a5 .bB (.int a.k)) [.slice (some ⟨a.b,0,none⟩) a.xs.length a.xs.length] a.xs []
def jy.mono {E:dR} {I I':Nat->Prop} {w w':World} (g:jy E I w) (c:∀a,I a->I' a) (i:∀a,I a->w'.heap[a]?=w.heap[a]?):jy E I' w':=λf h=>
 (g f h).mono (λe a d=>by
  have b:I a:=(by cases e;exact d;exact d.elim id False.elim);exact⟨by cases e;exact c a b;exact .inl (c a b),bN.of_heap (i a b)⟩) (λa b=>by cases b)
def pW (E:dR) (h:FuncId) (e:List fH) (k:List aH):Prop:=
 ∀(w:World) (I c:Nat->Prop) (d:ac1) (b:acW),(∀a,I a\/c a->a<w.heap.size)->kz (vz I c w) e d b->b.flatten.Nodup->(∀a∈b.flatten,¬I a/\¬c a/\a<w.heap.size)->Hi w d b (ny 0 e)->jy E I w->Calls E.P h d.toArray w (λg w'=>∃I' i j f,g=.returned (ow f)/\Hh I c w b e d k I' i j f w')
def ai.es:ai->Bool
 |.a5 .dd _|.ptr .dd _|.dB .dd _=>false
 |.a5 .bB a|.ptr .bB a|.osl a|.optr a|.st a|.mp a|.dB .bB a=>a.es
 |.pr b c=>b.es&&c.es
 |_=>true
def pT:ai->Bool
 |.pr _ _|.nil|.c6=>false
 |_=>true
def Xf {a:ai} {b c:ac1} (e:pT a=true) (f:b.length=a.size) (g:c.length=a.size) (d:bG a b=bG a c):b=c:=by
 have j:a.size=1->bG a b=b.headD undef->bG a c=c.headD undef->b=c:=(by intro i al h;rw[i] at f g;obtain⟨l,rfl⟩:=tB.1 f;obtain⟨m,rfl⟩:=tB.1 g;rw[al,h] at d;simpa using d);cases a with
 |st k=>have d:Value.agg b.toArray=Value.agg c.toArray:=d;simpa using d
 |pr=>cases e
 |nil=>cases e
 |c6=>cases e
 |_=>exact j rfl rfl rfl
def rn (g:List (Nat×aH)) (f:ac7):ao->aH->Prop
 |.val b i,a=>l8 b i a.1 a.2
 |.bQ d,a=>he a.1 d.cells.toList=some a.2/\bG a.1 d.cells.toList=d
 |.ref id h,a=>c9 id f=false/\∃c b e,au g id=some c/\c4 c.1 c.2 h b e/\l8 b e a.1 a.2
 |_,_=>False
def NV (b:List (Nat×aH)) (f:ac7):ao->fH->Prop
 |av,.v a=>rn b f av a
 |.ref id [],.m a _=>au b id=some a/\a.1.es=true/\pT a.1=true
 |.ref id [],.o a=>au b id=some a
 |.df l d,.c k p=>l=k/\g2 (rn b f) d p
 |.bQ e,.o a=>e=.slice none 0 0/\∃r,a=⟨.osl r,[]⟩
 |.bQ e,.n=>e=.slice none 0 0
 |.view id [] h g,.w i q d j _=>au b id=some ⟨.osl i,q⟩/\(d=h/\j=g)/\h<g/\i.es=true
 |_,.s _ _=>True
 |_,_=>False
def mP (c:List (Nat×aH)) (b:ac7):List ao->List fH->Prop
 |[],[]=>True
 |a::as,d::e=>NV c b a d/\mP c b as e
 |_,_=>False
def eC:List ao->List fH->ac7
 |.ref id []::as,.m _ _::a=>id::eC as a
 |.ref id []::as,.o _::a=>id::eC as a
 |.view id [] _ _::as,.w _ _ _ _ _::a=>id::eC as a
 |_::as,_::a=>eC as a
 |_,_=>[]
def kG:List ao->List fH->ac7
 |.ref id []::as,.m _ _::a=>id::kG as a
 |.view id [] _ _::as,.w _ _ _ _ _::a=>id::kG as a
 |_::as,_::a=>kG as a
 |_,_=>[]
def im:List ao->List fH->List (Nat×aH)
 |.ref id []::as,.m b c::a=>(id,⟨b.1,c⟩)::im as a
 |.view id [] _ _::as,.w e _ _ _ d::a=>(id,⟨.osl e,d⟩)::im as a
 |_::as,_::a=>im as a
 |_,_=>[]
def pH (a:Nat) (c:Bool) (b:Nat):Nat:=bif c then a else 1000*(a+1)+b
def q9 (b:Nat) (c:Bool):Nat->List aH->List ao
 |_,[]=>[]
 |j,a::d=>(bif a.1.pure then .val a.1 a.2 else .ref (pH b c j) [])::q9 b c (j+1) d
def hm (a:Nat) (b:Bool):Nat->List aH->List (Nat×aH)
 |_,[]=>[]
 |j,d::c=>bif d.1.pure then hm a b (j+1) c else(pH a b j,d)::hm a b (j+1) c
def s4 (a:Nat):List aH->ao
 |[t]=>bif t.1.pure then .val t.1 t.2 else .ref a []
 |l=>.dv (q9 a false 0 l)
def g7:List aH->Bool
 |[_]=>true
 |_=>false
def hO:ac7->Bool
 |[]=>true
 |a::b=>!(c9 a b)&&hO b
def hO.ok:∀{c:ac7},hO c=true->c.Nodup
 |[],_=>List.nodup_nil
 |a::e,b=>by simp only[hO,bc,vD] at b;exact jd.2 ⟨(λd=>by rw[ej.2 d] at b;cases b.1),hO.ok b.2⟩
def PG (c:Nat) (st:aO) (b:List ao) (a:List fH) (d:List aH):aO:=
 ⟨(c,s4 c d)::kill (eC b a) (uQ (kG b a)) st.g,(im b a++hm c (g7 d) 0 d)++del (eC b a) st.h⟩
def aP.es {I L B':Nat->Prop} {w:World}:∀{τ:ai} {f:ac1} {c:τ.den} {h:ac7},τ.es=true->aP (ba I L) w τ f c h->aP (ba I B') w τ f c h:=by
 intro τ
 induction τ with
 |a5 r q d=>
  intro f c h a b;cases r
  ·obtain⟨t,y,z,aw,i,o,p⟩:=b;refine⟨t,y,z,aw,i,o,p.imp id ?_⟩;rintro⟨e,n,O,D,Q⟩;refine⟨e,n,O,D,λm v F=>?_⟩;obtain⟨g,j,k,l⟩:=Q m v F;exact⟨g,j,k,d (by simpa only[ai.es] using a) l⟩
  simp only[ai.es] at a;cases a
 |ptr r q d=>
  intro f c h a b;cases r
  ·obtain⟨t,aw⟩:=b;refine⟨t,?_⟩;cases c with
   |none=>exact aw
   |some v=>
    obtain⟨e,n,g,G,H,J,aK,K⟩:=aw;exact⟨e,n,g,G,H,J,aK,d (by simpa only[ai.es] using a) K⟩
  simp only[ai.es] at a;cases a
 |osl q d=>
  intro f c h a b;obtain⟨y,z,aw,i⟩:=b;refine⟨y,z,aw,i.imp id ?_⟩;rintro⟨e,n,N,G,H,J,aK,K,U⟩;refine⟨e,n,N,G,H,J,aK,K,λm v B F P=>?_⟩;obtain⟨g,j,k,l⟩:=U m v B F P;exact⟨g,j,k,d (by simpa only[ai.es] using a) l⟩
 |optr q d=>
  intro f c h a b;obtain⟨e,n,B,g,aw,i,o,p,u,T⟩:=b;exact⟨e,n,B,g,aw,i,o,p,u,d (by simpa only[ai.es] using a) T⟩
 |st q d=>intro f c h a b;exact d (by simpa only[ai.es] using a) b
 |mp q d=>
  intro f c h a b;cases c with
  |none=>exact b
  |some s=>
   obtain⟨e,A,x,aw,i,C,o,p,u⟩:=b;refine⟨e,A,x,aw,i,C,o,p,λm s E=>?_⟩;obtain⟨g,j,k,l⟩:=u m s E;exact⟨g,j,k,d (by simpa only[ai.es] using a) l⟩
 |dB r q d=>
  intro f c h a b;cases r
  ·cases c with
   |none=>exact b
   |some s=>
    obtain⟨e,A,x,aw,i,C,D,o,p,u⟩:=b;refine⟨e,A,x,aw,i,C,D,o,p,λm s E=>?_⟩;obtain⟨g,j,k,l⟩:=u m s E;exact⟨g,j,k,d (by simpa only[ai.es] using a) l⟩
  simp only[ai.es] at a;cases a
 |pr V e R S=>
  intro f c h a b;simp only[ai.es,bc] at a;obtain⟨M,f2,t,aw,i⟩:=b;exact⟨M,f2,t,R a.1 aw,S a.2 i⟩
 |_=>intro f c h a b;exact b
def J9 {e f:Type} (c:e->f):∀(b:List (Nat×e)) (a:Nat),au (b.map λd=>(d.1,c d.2)) a=(au b a).map c
 |[],_=>rfl
 |(g,v)::b,a=>by rw[eo,bU,bU,J9 c b a];split<;>rfl
abbrev vR:=aH×ac1×ac7
def fa (rt:Nat->ac1):List ao->List fH->acW->List (Nat×vR)
 |.ref id []::as,.m d e::a,c::b=>(id,(⟨d.1,e⟩,rt id,c))::fa rt as a b
 |.view id [] _ _::as,.w g _ _ _ f::a,c::b=>(id,(⟨.osl g,f⟩,rt id,c))::fa rt as a b
 |_::as,_::a,_::b=>fa rt as a b
 |_,_,_=>[]
def js (a:Nat) (b:Bool):Nat->List aH->c3->acW->List (Nat×vR)
 |j,f::e,g::c,h::d=>bif f.1.pure then js a b (j+1) e c d else(pH a b j,(f,g,h))::js a b (j+1) e c d
 |_,_,_,_=>[]
def LW {rt:Nat->ac1}:∀{as:List ao} {bs:List fH} {gs:acW},gs.length=bs.length->(fa rt as bs gs).map (λf=>(f.1,f.2.1))=im as bs
 |[],bs,gs,_=>by cases bs<;>cases gs<;>rfl
 |a::as,[],gs,d=>by cases gs with
  |nil=>cases a<;>first|rfl|(rename_i id b;cases b<;>rfl)|(rename_i id b h g;cases b<;>rfl)
  |cons=>cases d
 |a::as,c::bs,[],d=>by cases d
 |a::as,c::bs,i::gs,d=>by
  have e:=LW (rt:=rt) (as:=as) (bs:=bs) (gs:=gs) (by simpa using d);cases a with
  |ref id b=>cases b with
   |nil=>cases c<;>simp only[fa,im,eo,e]
   |cons=>cases c<;>simp only[fa,im,e]
  |view id b h g=>cases b with
   |nil=>cases c<;>simp only[fa,im,eo,e]
   |cons=>cases c<;>simp only[fa,im,e]
  |_=>cases c<;>simp only[fa,im,e]
def Cs {d:Nat} {s:Bool}:∀{j:Nat} {res:List aH} {cs:c3} {hs:acW},cs.length=res.length->hs.length=res.length->(js d s j res cs hs).map (λg=>(g.1,g.2.1))=hm d s j res
 |j,[],cs,hs,a,b=>by cases cs<;>cases hs<;>simp[js,hm]
 |j,e::c,[],hs,a,b=>by cases a
 |j,e::c,h::cs,[],a,b=>by cases b
 |j,e::c,h::cs,i::hs,a,b=>by
  have f:=Cs (d:=d) (s:=s) (j:=j+1) (res:=c) (cs:=cs) (hs:=hs) (by simpa using a) (by simpa using b);simp only[js,hm];cases e.1.pure
  ·simp only[cond_false,eo,f]
  simp only[cond_true,f]
section
variable {C:dn} {st:aO} {A:acZ} {w w':World} {I I' B':Nat->Prop} {rt:Nat->ac1} {fp:Nat->ac7}
def LX (F:br C st A w I rt fp) {S:ac7}:∀{avs:List ao} {t:ac1} {args:List fH} {gs:acW},g2 (bC (ba I C.B) w st.h rt fp) avs t->mP st.h S avs args->kz (vA I' B' w') args t gs->∀b∈fa rt avs args gs,aP (ba I' C.B) w' b.2.1.1 b.2.2.1 b.2.1.2 b.2.2.2/\b.2.2.1=rt b.1/\b.1∈eC avs args/\∃g,au st.h b.1=some g/\b.2.1.1=g.1
 |[],t,args,gs,l,p,q,b,a=>by cases args<;>cases gs<;>cases a
 |x::i,t,[],gs,l,p,q,b,a=>by cases x<;>exact p.elim
 |x::i,[],d::u,gs,l,p,q,b,a=>l.elim
 |x::i,v::t,d::u,[],l,p,q,b,a=>q.elim
 |av::i,v::t,d::u,Y::gs,l,p,q,b,a=>by
  obtain⟨O,Z⟩:=l;obtain⟨L,ad⟩:=p;obtain⟨M,am⟩:=q;have an:=LX F (S:=S) (avs:=i) (args:=u) (gs:=gs) Z ad am;have e:b∈fa rt i u gs->aP (ba I' C.B) w' b.2.1.1 b.2.2.1 b.2.1.2 b.2.2.2/\b.2.2.1=rt b.1/\b.1∈eC (av::i) (d::u)/\∃g,au st.h b.1=some g/\b.2.1.1=g.1:=by
   intro a;obtain⟨aw,T,r,E⟩:=an b a;refine⟨aw,T,?_,E⟩;cases av with
   |ref id f=>cases f<;>cases d<;>simp only[eC]<;>first|exact e1 _ r|exact r
   |view id f Q N=>cases f<;>cases d<;>simp only[eC]<;>first|exact e1 _ r|exact r
   |_=>cases d<;>exact r
  cases av with
  |ref id f=>
   cases f with
   |cons s f=>exact e (by cases d<;>exact a)
   |nil=>
    cases d with
    |v g=>exact e a
    |o g=>exact e a
    |c n d1=>exact e a
    |n=>exact e a
    |s co ap=>exact e a
    |w a4 i Q N V=>exact e a
    |m g d2=>
     simp only[fa,dg] at a;rcases a with rfl|a
     ·obtain⟨j,P,H⟩:=L;obtain⟨ce,k,D⟩:=M;cases O with|ref y G=>
      rw[j] at y;cases y;obtain⟨rfl,rfl,rfl⟩:=aS.eQ.1 G;have:=Xf H (F.tree id _ j).1.len D.len k;subst this;exact⟨D.es P,rfl,by simp[eC],g,j,rfl⟩
     exact e a
  |view id f Q N=>
   cases f with
   |cons s f=>exact e (by cases d<;>exact a)
   |nil=>
    cases d with
    |w a4 i ap k V=>
     simp only[fa,dg] at a;rcases a with rfl|a
     ·obtain⟨j,⟨rfl,rfl⟩,P,H⟩:=L;obtain⟨d,o,J,k,cs,D⟩:=M;cases O with
      |kn=>omega
      |view y G aw T r=>
      rename_i d0 d3 cv W R a0 K;rw[j] at y;cases y;obtain⟨al,ci,X⟩:=aS.eQ.1 G;simp only[ai.osl.injEq] at al;subst al;obtain⟨bl,bs,E,_⟩:=(F.tree id _ j).1;have z:rt id=[.slice (some ⟨W,R,none⟩) a0 K]:=X;rw[E] at z;simp only[fJ,Value.slice.injEq,and_true] at z;rw[ag U] at k;simp only[Value.slice.injEq,bF,Addr.mk.injEq,and_true] at k;obtain⟨⟨a3,dl⟩,ds,aK⟩:=k;have:rt id=[.slice (some ⟨d,o,none⟩) i.length J]:=(by rw[E,z.1,z.2.2,<-a3,(U:o=R),(U:J=K)]);refine⟨?_,rfl,by simp[eC],_,j,rfl⟩;show aP (ba I' C.B) w' (.osl _) (rt id) V Y;rw[this];exact D.es H
     exact e a
    |_=>exact e a
  |_=>exact e (by cases d<;>exact a)
def LV {x:ac7}:∀{as:List ao} {r:List fH} {g:ac1} {e:acW},mP st.h x as r->kz (vA I' B' w') r g e->((fa rt as r e).map (λz=>z.2.2.2)).flatten=e.flatten
 |[],[],g,e,f,d=>by cases g<;>cases e<;>first|rfl|exact d.elim
 |[],q::t,g,e,f,d=>f.elim
 |a::as,[],g,e,f,d=>by cases a<;>exact f.elim
 |a::as,q::t,[],e,f,d=>d.elim
 |a::as,q::t,v::g,[],f,d=>d.elim
 |a::as,q::t,v::g,k::e,f,d=>by
  have y:=LV (as:=as) f.2 d.2;have l:=f.1;have p:=d.1;rw[ir,<-y];cases q with
  |m u F=>
   cases a with
   |ref id b=>cases b with
    |nil=>simp only[fa,eo,ir]
    |cons=>exact l.elim
   |_=>exact l.elim
  |w H E C B G=>
   cases a with
   |view id b i j=>cases b with
    |nil=>simp only[fa,eo,ir]
    |cons=>exact l.elim
   |ref id b=>cases b<;>exact l.elim
   |_=>exact l.elim
  |v u=>
   have:k=[]:=p;subst this;cases a with
   |ref id b=>cases b<;>simp only[fa,fi]
   |view id b i j=>cases b<;>simp only[fa,fi]
   |_=>simp only[fa,fi]
  |o u=>
   have:k=[]:=p;subst this;cases a with
   |ref id b=>cases b<;>simp only[fa,fi]
   |view id b i j=>cases b<;>simp only[fa,fi]
   |_=>simp only[fa,fi]
  |n=>
   have:k=[]:=p;subst this;cases a with
   |ref id b=>cases b<;>simp only[fa,fi]
   |view id b i j=>cases b<;>simp only[fa,fi]
   |_=>simp only[fa,fi]
  |s A i=>
   have:k=[]:=p;subst this;cases a with
   |ref id b=>cases b<;>simp only[fa,fi]
   |view id b i j=>cases b<;>simp only[fa,fi]
   |_=>simp only[fa,fi]
  |c n D=>
   have:k=[]:=p;subst this;cases a with
   |ref id b=>cases b<;>simp only[fa,fi]
   |view id b i j=>cases b<;>simp only[fa,fi]
   |_=>simp only[fa,fi]
def Mw {I:Nat->Prop}:∀{f:List aH} {d:ac1} {c:acW},kz (yY I w) f d c->∃h:c3,h.length=f.length/\c.length=f.length/\d.length=f.length/\∀(b:Nat) (t:aH) (e:ac1) (a:ac7) (g:Value),f[b]?=some t->h[b]?=some e->c[b]?=some a->d[b]?=some g->g=bG t.1 e/\aP (ba I (λ_=>False)) w t.1 e t.2 a
 |[],d,c,a=>by cases d<;>cases c<;>first|exact⟨[],rfl,rfl,rfl,λb t e a g p=>by simp at p⟩|exact a.elim
 |t::l,[],c,a=>a.elim
 |t::l,g::d,[],a=>a.elim
 |t::l,g::d,A::c,a=>by
  obtain⟨⟨e,n,s⟩,q⟩:=a;obtain⟨h,u,v,x,r⟩:=Mw q;refine⟨e::h,by simp[u],by simp[v],by simp[x],λb y m o z al i j k=>?_⟩;cases b with
  |zero=>simp only[iI,bF] at al i j k;subst al;subst i;subst j;subst k;exact⟨n,s⟩
  |succ b=>exact r b y m o z (by simpa using al) (by simpa using i) (by simpa using j) (by simpa using k)
def My {m:Nat} {p:Bool}:∀{j:Nat} {i:List aH} {c:c3} {d:acW},c.length=i.length->d.length=i.length->∀b∈js m p j i c d,∃e:Nat,i[e]?=some b.2.1/\c[e]?=some b.2.2.1/\d[e]?=some b.2.2.2
 |j,[],c,d,f,g,b,a=>by cases c<;>cases d<;>simp[js] at a
 |j,k::h,[],d,f,g,b,a=>by cases f
 |j,k::h,l::c,[],f,g,b,a=>by cases g
 |j,k::h,l::c,s::d,f,g,b,a=>by
  simp only[js] at a;have o:b∈js m p (j+1) h c d->∃e,(k::h)[e]?=some b.2.1/\(l::c)[e]?=some b.2.2.1/\(s::d)[e]?=some b.2.2.2:=λa=>(by obtain⟨e,al,q,r⟩:=My (by simpa using f) (by simpa using g) b a;exact⟨e+1,by rw[oQ];exact al,by rw[oQ];exact q,by rw[oQ];exact r⟩);cases n:k.1.pure
  ·rw[n] at a;simp only[cond_false,dg] at a;rcases a with rfl|a
   ·exact⟨0,rfl,rfl,rfl⟩
   exact o a
  rw[n] at a;exact o a
def Mx {d:Nat} {s:Bool}:∀{j:Nat} {res:List aH} {cs:c3} {hs:acW},((js d s j res cs hs).map (λg=>g.2.2.2)).flatten.Sublist hs.flatten
 |j,[],cs,hs=>by simp[js]
 |j,b::a,[],hs=>by simp[js]
 |j,b::a,e::cs,[]=>by simp[js]
 |j,b::a,e::cs,f::hs=>by
  have c:=Mx (d:=d) (s:=s) (j:=j+1) (res:=a) (cs:=cs) (hs:=hs);simp only[js];cases b.1.pure
  ·simp only[cond_false,eo,ir];exact List.Sublist.append (List.Sublist.refl f) c
  simp only[cond_true,ir];exact c.trans (List.sublist_append_right _ _)
def HQ (q:br C st A w I rt fp) {g:ac7} (j:∀b,C.B b->B' b) (p:∀id a,au st.h id=some a->c9 id g=false->∀b∈fp id,B' b) {d:ao} {m:Value} (e:bC (ba I C.B) w st.h rt fp d m) {a:aH} (c:rn st.h g d a):∃i,m=bG a.1 i/\aP (ba I B') w a.1 i a.2 []:=by
 cases d with
 |val o n=>
  have c:l8 o n a.1 a.2:=c;cases e with|val z=>
  exact⟨_,c.st _,c.rep j z ab⟩
 |bQ G=>
  obtain⟨aw,y⟩:=c;cases e;exact⟨_,y.symm,oa aw⟩
 |ref id E=>
  obtain⟨r,F,o,n,f,x,l⟩:=c;cases e with|ref k u=>
  rw[f] at k;cases k;obtain⟨rfl,D,v,_,t⟩:=q.jk f x u;exact⟨_,l.st _,l.rep j v (λb s=>p id _ f r b (t b s))⟩
 |_=>exact c.elim
def HT (i:br C st A w I rt fp) {c:ac7} (f:∀b,C.B b->B' b) (g:∀id l,au st.h id=some l->c9 id c=false->∀b∈fp id,B' b):∀{d:List ao} {k:ac1} {j:List aH},g2 (bC (ba I C.B) w st.h rt fp) d k->g2 (rn st.h c) d j->g2 (vF I B' w) j k
 |[],[],[],_,_=>trivial
 |[],_::_,_,a,_=>a.elim
 |_::_,[],_,a,_=>a.elim
 |[],_,_::_,_,a=>a.elim
 |_::_,_,[],_,a=>a.elim
 |_::_,_::_,_::_,a,e=>⟨HQ i f g a.1 e.1,HT i f g a.2 e.2⟩
def HV (u:br C st A w I rt fp) {S:ac7} (G:∀d,C.B d->B' d) (J:∀id r,au st.h id=some r->c9 id S=false->∀d∈fp id,B' d):∀{H:List ao} {y:ac1} {args:List fH},g2 (bC (ba I C.B) w st.h rt fp) H y->mP st.h S H args->∃e,kz (vz I B' w) args y e/\e.flatten=((eC H args).map fp).flatten
 |[],y,args,j,i=>by cases args with
  |nil=>cases y with
   |nil=>exact⟨[],trivial,rfl⟩
   |cons=>exact j.elim
  |cons=>exact i.elim
 |x::p,y,[],j,i=>by cases x<;>exact i.elim
 |x::p,[],d::z,j,i=>j.elim
 |av::p,v::y,d::z,j,i=>by
  obtain⟨q,j⟩:=j;obtain⟨a,Y⟩:=i;obtain⟨e,f,g⟩:=HV u G J j Y;cases d with
  |v r=>
   have t:eC (av::p) (.v r::z)=eC p z:=by cases av<;>first|rfl|(rename_i id b;cases b<;>rfl)|(rename_i id b F t;cases b<;>rfl)
   have a:rn st.h S av r:=(by cases av<;>exact a);exact⟨[]::e,⟨⟨rfl,HQ u G J q a⟩,f⟩,by rw[t];simpa using g⟩
  |s X F=>
   have t:eC (av::p) (.s X F::z)=eC p z:=by cases av<;>first|rfl|(rename_i id b;cases b<;>rfl)|(rename_i id b F t;cases b<;>rfl)
   exact⟨[]::e,⟨rfl,f⟩,by rw[t];simpa using g⟩
  |n=>
   cases av with
   |bQ T=>
    obtain rfl:T=.slice none 0 0:=a;cases q;exact⟨[]::e,⟨⟨rfl,rfl⟩,f⟩,by simpa[eC] using g⟩
   |ref id b=>cases b<;>exact a.elim
   |_=>exact a.elim
  |c n d2=>
   cases av with
   |df m F=>
    obtain⟨rfl,a⟩:=a;cases q with|df ad Z=>
    rename_i a0;refine⟨[]::e,⟨⟨rfl,a0.toList,rfl,HT u G J (za (by simpa using ad) (λan V d f g=>Z an V d f (by simpa using g))) a⟩,f⟩,by simpa[eC] using g⟩
   |ref id b=>cases b<;>exact a.elim
   |_=>exact a.elim
  |w a3 p cs ci d4=>
   cases av with
   |view id b F t=>cases b with
    |nil=>
     obtain⟨l,⟨rfl,rfl⟩,K,ap⟩:=a;cases q with
     |kn=>omega
     |view k E aw dl ds=>
     rename_i d1 d5 cv L Q P M;rw[l] at k;cases k;obtain⟨al,ce,W⟩:=aS.eQ.1 E;simp only[ai.osl.injEq] at al;subst al;have O:=(u.tree id _ l).1;have D:rt id=[.slice (some ⟨L,Q,none⟩) P M]:=W;have am:=O;obtain⟨bl,bs,R,d0⟩:=am;rw[R] at D;simp only[fJ,Value.slice.injEq,and_true] at D;have co:p.length=P:=D.2.1;refine⟨fp id::e,⟨⟨L,Q,M,?_,⟨K,U,U⟩,?_⟩,f⟩,by simp only[eC,eo,ir,g]⟩
     ·rw[ag U]
     have:=aP.es (τ:=.osl a3) (B':=B') ap O;rw[R,D.1,D.2.2] at this;exact this
    |cons=>exact a.elim
   |ref id b=>cases b<;>exact a.elim
   |_=>exact a.elim
  |m r d3=>
   cases av with
   |ref id b=>cases b with
    |nil=>
     obtain⟨l,K,_⟩:=a;cases q with|ref k E=>
     rw[l] at k;cases k;obtain⟨rfl,rfl,rfl⟩:=aS.eQ.1 E;exact⟨fp id::e,⟨⟨rt id,rfl,(u.tree id _ l).1.es K⟩,f⟩,by simp only[eC,eo,ir,g]⟩
    |cons=>exact a.elim
   |_=>exact a.elim
  |o r=>
   cases av with
   |ref id b=>cases b with
    |nil=>
     have l:au st.h id=some r:=a;cases q with|ref k E=>
     rw[l] at k;cases k;obtain⟨rfl,rfl,rfl⟩:=aS.eQ.1 E;refine⟨fp id::e,⟨⟨rt id,rfl,(u.tree id _ l).1.mono (λm d N=>⟨?_,bN.refl w d⟩) (λd _=>bN.refl w d)⟩,f⟩,by simp only[eC,eo,ir,g]⟩;cases m
     ·exact N
     exact N.imp (λi=>i) (G d)
    |cons=>exact a.elim
   |bQ T=>
    obtain⟨rfl,a4,rfl⟩:=a;cases q;exact⟨[]::e,⟨⟨[.slice none 0 0],rfl,none,0,rfl,.inl ⟨rfl,rfl,rfl,rfl⟩⟩,f⟩,by simpa[eC] using g⟩
   |_=>exact a.elim
end
end
section
def lF (d:Nat) (st:aO) (c:List ao) (b:List fH) (a:List aH):Bool:=
 hO (eC c b)&&hO ((im c b++hm d (g7 a) 0 a).map (·.1))&&(hm d (g7 a) 0 a).all λe=>(au st.h e.1).isNone
section
variable {E:dR} {C:dn} {st:aO} {a:Act} {w w':World} {I I' B':Nat->Prop} {rt:Nat->ac1} {fp:Nat->ac7}
def JU {rt:Nat->ac1} {n:ac7} {b:List (Nat×aH)}:∀{as:List ao} {bs:List fH} {gs:acW},mP b n as bs->gs.length=bs.length->∀id∈kG as bs,∃c∈fa rt as bs gs,c.1=id/\au b id=some ⟨c.2.1.1,(match au b id with|some k=>if f:k.1=c.2.1.1 then f▸k.2 else c.2.1.2|none=>c.2.1.2)⟩
 |[],bs,gs,_,_,id,b=>by cases bs<;>cases b
 |a::as,[],gs,g,_,id,b=>by cases a<;>exact g.elim
 |a::as,e::bs,[],_,h,id,b=>by cases h
 |a::as,e::bs,p::gs,g,h,id,b=>by
  have d:=JU (rt:=rt) (as:=as) (bs:=bs) (gs:=gs) g.2 (by simpa using h) id;have l:=g.1;cases a with
  |ref o j=>cases j with
   |nil=>
    cases e with
    |m k u=>
     simp only[kG,dg] at b;simp only[fa];rcases b with rfl|b
     ·refine⟨_,jE ..,rfl,?_⟩;rw[l.1];simp
     obtain⟨c,i,f⟩:=d b;exact⟨c,e1 _ i,f⟩
    |_=>exact d b
   |cons=>cases e<;>exact d b
  |view o j r f=>cases j with
   |nil=>
    cases e with
    |w x t s q v=>
     simp only[kG,dg] at b;simp only[fa];rcases b with rfl|b
     ·refine⟨_,jE ..,rfl,?_⟩;rw[l.1];simp
     obtain⟨c,i,f⟩:=d b;exact⟨c,e1 _ i,f⟩
    |_=>exact d b
   |cons=>cases e<;>exact d b
  |_=>cases e<;>exact d b
def Dq {e f g:Type} {h:e->f->g->Prop}:∀{as:List e} {c:List f} {d:List g},kz h as c d->c.length=as.length/\d.length=as.length
 |[],c,d,b=>by cases c<;>cases d<;>first|exact⟨rfl,rfl⟩|exact b.elim
 |a::as,[],d,b=>b.elim
 |a::as,i::c,[],b=>b.elim
 |a::as,i::c,l::d,b=>by obtain⟨j,k⟩:=Dq b.2;simp[j,k]
def Tm {b:List (Nat×vR)} (j:((b.map λc=>c.2.2.2).flatten).Nodup):(∀c∈b,c.2.2.2.Nodup)/\∀e f g h,au b e=some g->au b f=some h->e≠f->∀a∈g.2.2,a∉h.2.2:=by
 induction b with
 |nil=>exact⟨ab,λe f g h j=>by cases j⟩
 |cons t b A=>
  obtain⟨B,t⟩:=t;simp only[eo,ir,hC] at j;obtain⟨v,w,q⟩:=j;obtain⟨i1,z⟩:=A w;refine⟨λc n=>?_,λe f g h i d r a l=>?_⟩
  ·rcases dg.1 n with rfl|n
   ·exact v
   exact i1 c n
  rw[bU] at i d;have s:∀o k,au b o=some k->∀p∈k.2.2,p∈(b.map λc=>c.2.2.2).flatten:=λo k y p x=>it.2 ⟨_,bR.2 ⟨(o,k),xB y,rfl⟩,x⟩;split at i
  ·rename_i al;split at d
   ·rename_i u;exact absurd (al.symm.trans u) r
   obtain rfl:=ee i;intro m;exact q a l a (s f h d a m) rfl
  split at d
  ·obtain rfl:=ee d;intro m;exact q a m a (s e g i a l) rfl
  exact z e f g h i d r a l
def BM {e:Type}:∀{c:List (Nat×e)},(c.map (·.1)).Nodup->∀{b:Nat×e},b∈c->au c b.1=some b.2
 |[],_,b,a=>by cases a
 |(k,x)::c,d,b,a=>by
  simp only[eo,jd] at d;rw[bU];rcases dg.1 a with rfl|a
  ·rw[aj rfl]
  rw[ag (λf=>d.1 (by rw[f];exact bR.2 ⟨b,a,rfl⟩))];exact BM d.2 a
def Mt {e:Nat} {g:Bool}:∀{j:Nat} {f:List aH} {a:Nat} {d:ao},(q9 e g j f)[a]?=some d->∃c,f[a]?=some c/\d=(bif c.1.pure then .val c.1 c.2 else .ref (pH e g (j+a)) [])
 |j,[],a,d,b=>by simp[q9] at b
 |j,c::l,a,d,b=>by
  simp only[q9] at b;cases a with
  |zero=>simp only[iI,bF] at b;exact⟨c,rfl,b.symm⟩
  |succ a=>
   obtain⟨k,h,i⟩:=Mt (by simpa using b);exact⟨k,by simpa using h,by rw[i,(U:j+1+a=j+(a+1))]⟩
def Mu {b:Nat} {c:Bool}:∀{j:Nat} {a:List aH},(q9 b c j a).length=a.length
 |j,[]=>rfl
 |j,e::d=>by simp[q9,Mu]
def Mz {d:Nat} {s:Bool}:∀{j:Nat} {res:List aH} {cs:c3} {hs:acW},cs.length=res.length->hs.length=res.length->∀(a:Nat) b c e,res[a]?=some b->cs[a]?=some c->hs[a]?=some e->b.1.pure=false->(pH d s (j+a),(b,c,e))∈js d s j res cs hs
 |j,[],cs,hs,_,_,a,b,c,e,al,_,_,_=>by simp at al
 |j,b::k,[],hs,h,_,_,_,_,_,_,_,_,_=>by cases h
 |j,b::k,c::cs,[],_,i,_,_,_,_,_,_,_,_=>by cases i
 |j,b::k,c::cs,e::hs,h,i,a,o,m,n,al,f,g,l=>by
  simp only[js];cases a with
  |zero=>
   simp only[iI,bF] at al f g;subst al;subst f;subst g;rw[l];exact jE ..
  |succ a=>
   have:=Mz (d:=d) (s:=s) (j:=j+1) (res:=k) (cs:=cs) (hs:=hs) (by simpa using h) (by simpa using i) a o m n (by simpa using al) (by simpa using f) (by simpa using g) l;rw[(U:j+1+a=j+(a+1))] at this;cases b.1.pure
   ·exact e1 _ this
   exact this
end
section
variable {E:dR} {C:dn} {st:aO} {A:Array Oper} {Q:aO->Prop}
def Ng {i:List (Nat×aH)} {j:ac7}:∀{as:List ao} {bs:List fH},mP i j as bs->∀id∈eC as bs,∃h,au i id=some h
 |[],bs,_,id,b=>by cases bs<;>cases b
 |a::as,[],e,id,b=>by cases a<;>exact e.elim
 |a::as,d::bs,e,id,b=>by
  have c:=Ng (as:=as) (bs:=bs) e.2 id;have f:=e.1;cases a with
  |ref k g=>cases g with
   |nil=>
    cases d with
    |m h s=>
     simp only[eC,dg] at b;rcases b with rfl|b
     ·exact⟨_,f.1⟩
     exact c b
    |o h=>
     simp only[eC,dg] at b;rcases b with rfl|b
     ·exact⟨_,f⟩
     exact c b
    |_=>exact c b
   |cons=>cases d<;>exact c b
  |view k g p l=>cases g with
   |nil=>
    cases d with
    |w u r q n t=>
     simp only[eC,dg] at b;rcases b with rfl|b
     ·exact⟨_,f.1⟩
     exact c b
    |_=>exact c b
   |cons=>cases d<;>exact c b
  |_=>cases d<;>exact c b
def Fv {t:acZ} {w:World} {I:Nat->Prop} {rt:Nat->ac1} {fp:Nat->ac7} (e:br C st t w I rt fp):∀{a:ac7},(∀id∈a,∃b,au st.h id=some b)->a.Nodup->((a.map fp).flatten).Nodup
 |[],_,_=>by simp
 |id::a,d,f=>by rw[jd] at f;simp only[eo,ir,hC];obtain⟨b,i⟩:=d id ab;refine⟨(e.tree id b i).2.1,Fv e (λr p=>d r (by simp[p])) f.2,λk n u o c=>?_⟩;subst c;obtain⟨v,l,m⟩:=it.1 o;obtain⟨j,g,rfl⟩:=bR.1 l;obtain⟨s,q⟩:=d j (by simp[g]);exact e.dis id j b s i q (λc=>f.1 (c▸g)) k n m
def OG (e:c5->Nat->Prop) (w:World) (c:Nat) (b:List aH) (f:Nat->ac1) (g:Value):Prop:=
 ∀(d:List (Nat×aH)) (rt:Nat->ac1) (fp:Nat->ac7),(∀a∈hm c (g7 b) 0 b,au d a.1=some a.2/\rt a.1=f a.1)->bC e w d rt fp (s4 c b) g
def br.glob {E:dR} {C:dn} {st:aO} {f:acZ} {w:World} {I:Nat->Prop} {rt:Nat->ac1} {fp:Nat->ac7} (b:br C st f w I rt fp) (d:∀a,C.I0 a\/C.B a->a<C.w0.heap.size/\¬C.F0 a) (e:jy E C.I0 C.w0):jy E I w:=
 e.mono b.i0 λa c=>b.frame a (d a (.inl c)).1 (d a (.inl c)).2
def br.call {C:dn} {st:aO} {la:acZ} {w:World} {I:Nat->Prop} {rt:Nat->ac1} {fp:Nat->ac7} (J:br C st la w I rt fp) {o d2:Nat} {q:List ao} {ap:ac1} (d8:g2 (bC (ba I C.B) w st.h rt fp) q ap) {m:List fH} {k:List aH} (gl:pW E d2 m k) (av:mP st.h (eC q m) q m) (W:lF o st q m k=true) (i1:∀N:acW,(∀e∈N.flatten,∃id c,au st.h id=some c/\e∈fp id)->Hi w ap N (ny 0 m)) (f7:jy E I w):Calls E.P d2 ap.toArray w (λQ w'=>∃I' H G v,Q=.returned (ow v)/\lA C st w w' I I' rt fp (eC q m) (uQ (kG q m)) (im q m++hm o (g7 k) 0 k) H G/\OG (ba I' C.B) w' o k H (ow v)):=by
 simp only[lF,bc,eJ] at W;obtain⟨⟨cs,cv⟩,ic⟩:=W;have cs:=hO.ok cs;have cv:=hO.ok cv
 let D:=eC q m
 let B':Nat->Prop:=λe=>C.B e\/∃id c,au st.h id=some c/\c9 id D=false/\e∈fp id
 have f5:∀e,C.B e->B' e:=λe f=>.inl f;have f6:∀id c,au st.h id=some c->c9 id D=false->∀e∈fp id,B' e:=λid c r l e f=>.inr ⟨id,c,r,l,f⟩;obtain⟨N,hr,ek⟩:=HV J (B':=B') (S:=D) f5 f6 (args:=m) d8 av;have ft:∀id∈D,∃c,au st.h id=some c:=λid p=>Ng av id p;have V:∀e∈N.flatten,∃id∈D,∃c,au st.h id=some c/\e∈fp id:=(by intro e f;rw[ek] at f;obtain⟨le,F,y⟩:=it.1 f;obtain⟨id,p,rfl⟩:=bR.1 F;obtain⟨c,r⟩:=ft id p;exact⟨id,p,c,r,y⟩);have hs:N.flatten.Nodup:=(by rw[ek];exact Fv J ft cs);have go:=gl w I B' ap N (λe f=>by
  rcases f with f|f|⟨id,c,r,_,f⟩
  ·exact J.ib e (.inl f)
  ·exact J.ib e (.inr f)
  ·exact((J.tree id c r).2.2 e f).2.2.1) hr hs (λe f=>by
  obtain⟨id,p,c,r,T⟩:=V e f;obtain⟨aw,a0,an,f0⟩:=(J.tree id c r).2.2 e T;refine⟨aw,?_,an⟩;rintro(x|⟨fz,a3,i3,l,gi⟩)
  ·exact a0 x
  ·have is:id≠fz:=λQ=>(by rw[<-Q,ej.2 p] at l;cases l);exact J.dis id fz c a3 r i3 is e T gi) (i1 N λe f=>by
  obtain⟨id,_,c,r,T⟩:=V e f;exact⟨id,c,r,T⟩) f7
 refine go.mono ?_;rintro Q w' ⟨I',M,L,v,rfl,u⟩;obtain⟨O,Z,ad,am,fs⟩:=Mw u.res;have el:=(Dq u.args).2;have d7:mP st.h D q m:=av
 let n:List (Nat×vR):=fa rt q m M++js o (g7 k) 0 k O L
 have d6:n.map (λb=>(b.1,b.2.1))=im q m++hm o (g7 k) 0 k:=(by simp only[n,fZ];rw[LW el,Cs Z ad]);have d5:(n.map (·.1)).Nodup:=(by have:n.map (·.1)=(n.map (λb=>(b.1,b.2.1))).map (·.1):=(by simp[p4]);rw[this,d6];exact cv);have hc:((fa rt q m M).map (λb=>b.2.2.2)).flatten=M.flatten:=LV d7 u.args;have hi:((js o (g7 k) 0 k O L).map (λb=>b.2.2.2)).flatten.Sublist L.flatten:=Mx;have d4:((n.map λb=>b.2.2.2).flatten).Sublist (M.flatten++L.flatten):=(by simp only[n,fZ,oP];rw[hc];exact List.Sublist.append (List.Sublist.refl _) hi);obtain⟨gc,f9⟩:=Tm (u.u6.sublist d4);have ex:∀b∈fa rt q m M,aP (ba I' C.B) w' b.2.1.1 b.2.2.1 b.2.1.2 b.2.2.2/\b.2.2.1=rt b.1/\b.1∈D/\∃c,au st.h b.1=some c/\b.2.1.1=c.1:=(by exact LX J (S:=D) (args:=m) (gs:=M) d8 av u.args);have ge:∀b∈n,aP (ba I' C.B) w' b.2.1.1 b.2.2.1 b.2.1.2 b.2.2.2/\(b.1∈D\/au st.h b.1=none):=by
  intro b z;rcases dX.1 z with z|z
  ·obtain⟨aw,_,an,_⟩:=ex b z;exact⟨aw,.inl an⟩
  obtain⟨g,al,U,a4⟩:=My Z ad b z;have ii:g<v.length:=(by rw[am];exact(ec.1 al).1);obtain⟨_,X⟩:=fs g _ _ _ v[g] al U a4 ab;refine⟨X.mono (λds e l=>⟨?_,bN.refl _ _⟩) (λe _=>bN.refl _ _),.inr ?_⟩
  ·cases ds
   ·exact l
   exact l.elim .inl (λx=>x.elim)
  have l:(b.1,b.2.1)∈hm o (g7 k) 0 k:=(by rw[<-Cs (d:=o) (s:=g7 k) (j:=0) Z ad];exact bR.2 ⟨b,z,rfl⟩);exact Option.isNone_iff_eq_none.1 (ic _ l)
 have f8:∀b∈n,∀e∈b.2.2.2,e∈M.flatten++L.flatten:=λb z e f=>d4.subset (it.2 ⟨_,bR.2 ⟨b,z,rfl⟩,f⟩);have dl:∀g,au (im q m++hm o (g7 k) 0 k) g=(au n g).map (·.1):=λg=>by rw[<-d6];exact J9 (λb:vR=>b.1) n g
 let H:Nat->ac1:=λg=>match au n g with|some b=>b.2.1|none=>[]
 let G:Nat->ac7:=λg=>match au n g with|some b=>b.2.2|none=>[]
 have i8:lA C st w w' I I' rt fp D (uQ (kG q m)) (im q m++hm o (g7 k) 0 k) H G:=
  ⟨u.size,u.os,u.tape,u.output,λe f gf=>u.heap e f (λgt=>by obtain⟨id,p,c,r,T⟩:=V e gt;exact gf id p c r T),u.evo,u.i,(λe f=>by
    rcases u.i2 e f with x|⟨F,y|y⟩
    ·exact .inl x
    ·exact .inr ⟨F,.inl y⟩
    exact .inr ⟨F,.inr (V e y)⟩),
   (λid c p=>by
    rw[dl] at p;cases R:au n id with
    |none=>rw[R] at p;cases p
    |some b=>
     rw[R] at p;obtain rfl:b.1=c:=ee p;have l:=xB R;obtain⟨F,y⟩:=ge _ l;refine⟨y,by simp only[H,G,R];exact F,by simp only[G,R];exact gc _ l,λe f=>?_⟩;simp only[G,R] at f;obtain⟨aw,a0,an,f0⟩:=u.H6 e (f8 _ l e f);exact⟨aw,an,f0.imp (λx=>x) (V e)⟩),
   (λY d1 c lo ci co hw e f=>by
    rw[dl] at ci co;cases bl:au n Y with
    |none=>rw[bl] at ci;cases ci
    |some jp=>
     cases bs:au n d1 with
     |none=>rw[bs] at co;cases co
     |some kd=>
      simp only[G,bl] at f;simp only[G,bs];exact f9 Y d1 jp kd bl bs hw e f),
   (λf1 ce c r=>by
    obtain⟨id,p,rfl⟩:=bR.1 ce;obtain⟨b,z,Q,_⟩:=JU (rt:=rt) d7 el id p;subst Q;have l:b∈n:=mS _ z;have em:=BM d5 l;obtain⟨_,y,_,a3,d3,f4⟩:=ex b z;rw[r] at d3;obtain rfl:=ee d3;exact⟨b.2.1,by rw[dl,em];rfl,f4,by simp only[H,em];exact y,⟨c.1,by cases c.1<;>rfl⟩,λb _ _ _ W=>by rw[BI] at W;cases W⟩),
   (λf1 ce c r b _ _ _ _ _ d9=>by
    obtain⟨id,p,rfl⟩:=bR.1 ce;rw[se] at d9;cases d9)⟩
 refine⟨I',H,G,v,rfl,i8,λF kg f3 hv=>?_⟩;have fT:∀(g:Nat) (c:aH) (A:Value),k[g]?=some c->v[g]?=some A->bC (ba I' C.B) w' F kg f3 (bif c.1.pure then .val c.1 c.2 else .ref (pH o (g7 k) (0+g)) []) A:=by
  intro g c A al U;have ii:g<k.length:=(ec.1 al).1;obtain⟨a4,X⟩:=fs g c O[g] L[g] A al ab ab U;subst a4;cases fn:c.1.pure with
  |true=>
   simp only[cond_true];have:=X.pure fn;rw[this] at X;refine .val (X.mono (λds e l=>⟨?_,bN.refl _ _⟩) ab);cases ds
   ·exact l
   exact l.elim .inl (λx=>x.elim)
  |false=>
   simp only[cond_false];have eq:=Mz (d:=o) (s:=g7 k) (j:=0) Z ad g c O[g] L[g] al ab ab fn;have l:(pH o (g7 k) (0+g),(c,O[g],L[g]))∈n:=kU _ eq;have io:(pH o (g7 k) (0+g),c)∈hm o (g7 k) 0 k:=(by rw[<-Cs (d:=o) (s:=g7 k) (j:=0) Z ad];exact bR.2 ⟨_,eq,rfl⟩);obtain⟨aw,a0⟩:=hv _ io;refine .ref (t:=c) (loc:=none) aw ?_;have f2:H (pH o (g7 k) (0+g))=O[g]:=(by simp only[H,BM d5 l]);rw[a0,f2];exact aS.here
 cases K:k with
 |nil=>
  have:v=[]:=lm (by rw[am,K];rfl);subst this;exact .dv (vs:=#[]) rfl (λY a A x=>by simp[q9] at x)
 |cons c d0=>
  cases d0 with
  |nil=>
   obtain⟨A,rfl⟩:∃A,v=[A]:=tB.1 (by rw[am,K];rfl);have:=fT 0 c A (by rw[K];rfl) rfl;rw[K] at this;exact this
  |cons k0 d0=>
   have i0:ow v=.tuple v.toArray:=by
    have:v.length=(c::k0::d0).length:=by rw[am,K]
    match v,this with
    |v1::e0::lk,_=>rfl
   rw[i0];refine .dv (by simp[Mu,am,K]) (λY lb A F y=>?_);obtain⟨a3,al,U⟩:=Mt F;have:=fT Y a3 A (by rw[K];exact al) (by simpa using y);rw[K] at this;rw[U];exact this
def MA {a:Nat} {d:Bool} {c:List aH} {e:List (Nat×aH)} (f:((e++hm a d 0 c).map (·.1)).Nodup):∀b∈hm a d 0 c,au (e++hm a d 0 c) b.1=some b.2:=
 λb g=>BM f (kU _ g)
def dk.call {Q:aO->Prop} {k d:Nat} {m:Oper} {f:Operand} {c:List ao} {b s:Array _} (S:m.op=.call {callee:=.value f,args:=b,argTypes:=s}) (Z:aR st.g f=.df d c) (K:m.dst=some k) (L:C.ok k) (H:∀(r:acZ) (w:World),(callFunc d r).run E.P w=.ok (.enter d r) w) {i:List fH} {n:List aH} (G:pW E d i n) (W:ny 0 i=none) (z:∀j,C.I0 j\/C.B j->j<C.w0.heap.size/\¬C.F0 j) (A:jy E C.I0 C.w0) (D:mP st.h (eC (b.toList.map (aR st.g)++c) i) (b.toList.map (aR st.g)++c) i) (p:lF k st (b.toList.map (aR st.g)++c) i n=true) (u:Q (PG k st (b.toList.map (aR st.g)++c) i n)):dk E C m st Q:=by
 rintro a w ⟨I,rt,fp,l⟩ next ap R
 obtain⟨e,Y,y⟩:∃e:acZ,a.eval f=.func (.func d) #[] e/\g2 (bC (ba I C.B) w st.h rt fp) c e.toList:=by
  have o:=l.aR f;rw[Z] at o;generalize bs:a.eval f=ci at o;cases o with|df N M=>
  exact⟨_,rfl,za (by simpa using N) (λad a j v x=>M ad a j v (by simpa using x))⟩
 have F:g2 (bC (ba I C.B) w st.h rt fp) (b.toList.map (aR st.g)++c) (b.toList.map a.eval++e.toList):=Do (Dp (λf=>l.aR f) _) y;have J:=l.call F G D p (λ_ _=>by rw[W];trivial) (l.glob z A);generalize bl:b.toList.map (aR st.g)++c=a0 at*;have V:(execOp a.eval m).run E.P w=.ok (.enter d (b.toList.map a.eval++e.toList).toArray) w:=(by have al:b.map a.eval=(b.toList.map a.eval).toArray:=(by rw[<-Array.toList_map]);have t:(b.toList.map a.eval++e.toList).toArray=(b.toList.map a.eval).toArray++e:=ab;rw[t];simp only[execOp,S,resolve,al,Sem.run_bind,Y,Deferred.ofValue,Sem.run_pure,Result.andThen_ok,invoke,Array.empty_append,Array.append_empty];exact H _ _);unfold Oper.wp;rw[V];show Calls E.P d _ w _;refine J.mono ?_;rintro a3 w' ⟨I',ce,a4,an,rfl,X,U⟩;show next (a.put m.dst (ow an)) w'
 rw[K];have q:=p;simp only[lF,bc] at q;have O:=hO.ok q.1.2;refine R _ _ _ u rfl ⟨I',_,_,(l.eI X).put L (av:=s4 k n) (U _ _ _ (λam T=>?_))⟩;have:=MA O am T;exact⟨by rw[iB,this];rfl,by simp only[dz,this]⟩
end
end
end Go.ia
end
