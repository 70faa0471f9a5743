/-
  Parts of the proof: Fw20, Fw21: the framework (Fw), pure forms (Dn), plain laws (Pl, Th), calls of functions (Ok).
-/
import Derived.Test.YtkhcdgkdpjahpaaGreatDoorBb5d3f24a

set_option linter.all false
noncomputable section
namespace Go.hT
section
def kF {c d e:Type} (b:c->d->e->Prop):List c->List d->List e->Prop
 |[],[],[]=>True
 |a::as,f::g,h::i=>b a f h/\kF b as g i
 |_,_,_=>False
def hd {c d:Type} (b:c->d->Prop):List c->List d->Prop
 |[],[]=>True
 |a::as,e::f=>b a e/\hd b as f
 |_,_=>False
theorem Hj {d e:Type} {f:d->e->Prop}:∀{as:List d} {c:List e},hd f as c->c.length=as.length
 |[],[],_=>rfl
 |[],_::_,b=>b.elim
 |_::_,[],b=>b.elim
 |a::as,g::c,b=>by have:=Hj b.2;simp[this]
theorem C2 {e f:Type} {c:e->f->Prop}:∀{as:List e} {d:List f} {g:List e} {h:List f},hd c as d->hd c g h->hd c (as++g) (d++h)
 |[],[],_,_,_,b=>b
 |[],_::_,_,_,b,_=>b.elim
 |_::_,[],_,_,b,_=>b.elim
 |a::as,j::d,_,_,b,i=>⟨b.1,C2 b.2 i⟩
theorem y1 {h i:Type} {f:h->i->Prop}:∀{as:List h} {d:List i},as.length=d.length->(∀(e:Nat) a c,as[e]?=some a->d[e]?=some c->f a c)->hd f as d
 |[],[],_,_=>trivial
 |[],_::_,b,_=>by cases b
 |_::_,[],b,_=>by cases b
 |a::as,c::d,b,g=>⟨g 0 a c rfl rfl,y1 (by simpa using b) (λe l m j k=>g (e+1) l m (by simpa using j) (by simpa using k))⟩
theorem C3 {b g h:Type} {c:g->h->Prop} {d:b->g} {e:b->h} (f:∀x,c (d x) (e x)):∀a:List b,hd c (a.map d) (a.map e)
 |[]=>trivial
 |x::a=>⟨f x,C3 f a⟩
inductive fX where
 |v (t:aB)
 |m (t:aB) (y:t.1.den)
 |o (t:aB)
 |c (f:Nat) (abQ:List aB)
 |n
 |s (f:Nat) (l:ab0)
 |w (σ:ah) (xs:List σ.den) (lo hi:Nat) (yB:List σ.den)
def vO (I c:Nat->Prop) (w:World) (a:aB) (d:Value):Prop:=∃b,d=bL a.1 b/\aN (bc I c) w a.1 b a.2 []
def vH (I f:Nat->Prop) (w:World):fX->Value->ab0->Prop
 |.v b,d,a=>a=[]/\∃e,d=bL b.1 e/\aN (bc I f) w b.1 e b.2 []
 |.m b _,d,a=>∃e,d=bL b.1 e/\aN (bc I f) w b.1 e b.2 a
 |.o b,d,a=>∃e,d=bL b.1 e/\aN (bc I f) w b.1 e b.2 a
 |.n,d,a=>a=[]/\d=.slice none 0 0
 |.s _ _,_,a=>a=[]
 |.w q h g j _,d,a=>∃k l i,d=.slice (some ⟨k,l+g*q.size,none⟩) (j-g) (i-g)/\(g<j/\j<=h.length/\h.length<=i)/\aN (bc I f) w (.osl q) [.slice (some ⟨k,l,none⟩) h.length i] h a
 |.c r t,d,a=>a=[]/\∃p:abU,d=.func (.func r) #[] p.toArray/\hd (vO I f w) t p
def nC:Nat->List fX->Option cO
 |_,[]=>none
 |k,.s a b::_=>some (k,a,b)
 |k,_::c=>nC (k+1) c
def G6 (w:World) (b:abU) (i:c6):Option cO->Prop
 |none=>True
 |some (d,h,e)=>d<b.length/\(∀c∈e,c<b.length)/\∃a f g,b.getD d undef=.pointer (some ⟨a,f,none⟩)/\a<w.heap.size/\a∉i.flatten/\w.cell? ⟨a,f,none⟩=some (.func (.func h) #[] g)/\g.toList=e.map λc=>b.getD c undef
def vI (I e:Nat->Prop) (w:World):fX->Value->ab0->Prop
 |.m i n,d,a=>∃g,d=bL i.1 g/\aN (bc I e) w i.1 g n a
 |.w j l b k o,d,a=>∃f h c,d=.slice (some ⟨f,h+b*j.size,none⟩) (k-b) (c-b)/\b<c/\aN (bc I e) w (.osl j) [.slice (some ⟨f,h,none⟩) l.length c] o a
 |_,_,a=>a=[]
def yT (I:Nat->Prop) (w:World) (a:aB) (d:Value) (c:ab0):Prop:=∃b,d=bL a.1 b/\aN (bc I (λ_=>False)) w a.1 b a.2 c
def ox:abU->Value
 |[v]=>v
 |vs=>.tuple vs.toArray
structure G5 (I B:Nat->Prop) (w:World) (fs:c6) (args:List fX) (vs:abU) (res:List aB) (I':Nat->Prop) (gs hs:c6) (aad:abU) (w':World):Prop where
 args:kF (vI I' B w') args vs gs
 res:kF (yT I' w') res aad hs
 vg:(gs.flatten++hs.flatten).Nodup
 HU:∀b∈gs.flatten++hs.flatten,¬I' b/\¬B b/\b<w'.heap.size/\(w.heap.size<=b\/b∈fs.flatten)
 i:∀b,I b->I' b
 i2:∀b,I' b->I b\/(b<w'.heap.size/\(w.heap.size<=b\/b∈fs.flatten))
 size:w.heap.size<=w'.heap.size
 os:w'.os=w.os
 tape:w'.tape=w.tape
 output:w'.output=w.output
 evo:∀b,b<w.heap.size->jj w w' b
 heap:∀b,b<w.heap.size->b∉fs.flatten->w'.heap[b]?=w.heap[b]?
def jL (E:dY) (I:Nat->Prop) (w:World):Prop:=∀a∈E.glob,aN (bc I λ_=>False) w (.a6 .bx (.int a.k)) [.slice (some ⟨a.b,0,none⟩) a.xs.length a.xs.length] a.xs []
theorem jL.mono {E:dY} {I I':Nat->Prop} {w w':World} (g:jL E I w) (c:∀a,I a->I' a) (i:∀a,I a->w'.heap[a]?=w.heap[a]?):jL E I' w':=λf h=>
 (g f h).mono (λe a d=>by
  have b:I a:=(by cases e;exact d;exact d.elim id False.elim);exact⟨by cases e;exact c a b;exact .inl (c a b),bU.of_heap (i a b)⟩) (λa b=>by cases b)
def p7 (E:dY) (h:FuncId) (e:List fX) (k:List aB):Prop:=
 ∀(w:World) (I c:Nat->Prop) (d:abU) (b:c6),(∀a,I a\/c a->a<w.heap.size)->kF (vH I c w) e d b->b.flatten.Nodup->(∀a∈b.flatten,¬I a/\¬c a/\a<w.heap.size)->G6 w d b (nC 0 e)->jL E I w->Calls E.P h d.toArray w (λg w'=>∃I' i j f,g=.returned (ox f)/\G5 I c w b e d k I' i j f w')
def ah.eu:ah->Bool
 |.a6 .dk _|.ptr .dk _|.dJ .dk _=>false
 |.a6 .bx a|.ptr .bx a|.osl a|.optr a|.st a|.mp a|.dJ .bx a=>a.eu
 |.pr b c=>b.eu&&c.eu
 |_=>true
def p3:ah->Bool
 |.pr _ _|.nil|.de=>false
 |_=>true
theorem ZI {a:ah} {b c:abU} (e:p3 a=true) (f:b.length=a.size) (g:c.length=a.size) (d:bL a b=bL a c):b=c:=by
 have j:a.size=1->bL a b=b.headD undef->bL a c=c.headD undef->b=c:=(by intro i aj h;rw[i] at f g;obtain⟨l,rfl⟩:=tR.1 f;obtain⟨m,rfl⟩:=tR.1 g;rw[aj,h] at d;simpa using d);cases a with
 |st k=>have d:Value.agg b.toArray=Value.agg c.toArray:=d;simpa using d
 |pr=>cases e
 |nil=>cases e
 |de=>cases e
 |_=>exact j rfl rfl rfl
def rI (g:List (Nat×aB)) (f:ab0):ak->aB->Prop
 |.val b i,a=>mn b i a.1 a.2
 |.cv d,a=>hu a.1 d.cells.toList=some a.2/\bL a.1 d.cells.toList=d
 |.ref id h,a=>dj id f=false/\∃c b e,al g id=some c/\db c.1 c.2 h b e/\mn b e a.1 a.2
 |_,_=>False
def Ny (b:List (Nat×aB)) (f:ab0):ak->fX->Prop
 |av,.v a=>rI b f av a
 |.ref id [],.m a _=>al b id=some a/\a.1.eu=true/\p3 a.1=true
 |.ref id [],.o a=>al b id=some a
 |.dt l d,.c k p=>l=k/\hd (rI b f) d p
 |.cv e,.o a=>e=.slice none 0 0/\∃r,a=⟨.osl r,[]⟩
 |.cv e,.n=>e=.slice none 0 0
 |.view id [] h g,.w i q d j _=>al b id=some ⟨.osl i,q⟩/\(d=h/\j=g)/\h<g/\i.eu=true
 |_,.s _ _=>True
 |_,_=>False
def m1 (c:List (Nat×aB)) (b:ab0):List ak->List fX->Prop
 |[],[]=>True
 |a::as,d::e=>Ny c b a d/\m1 c b as e
 |_,_=>False
def eF:List ak->List fX->ab0
 |.ref id []::as,.m _ _::a=>id::eF as a
 |.ref id []::as,.o _::a=>id::eF as a
 |.view id [] _ _::as,.w _ _ _ _ _::a=>id::eF as a
 |_::as,_::a=>eF as a
 |_,_=>[]
def kO:List ak->List fX->ab0
 |.ref id []::as,.m _ _::a=>id::kO as a
 |.view id [] _ _::as,.w _ _ _ _ _::a=>id::kO as a
 |_::as,_::a=>kO as a
 |_,_=>[]
def iy:List ak->List fX->List (Nat×aB)
 |.ref id []::as,.m b c::a=>(id,⟨b.1,c⟩)::iy as a
 |.view id [] _ _::as,.w e _ _ _ d::a=>(id,⟨.osl e,d⟩)::iy as a
 |_::as,_::a=>iy as a
 |_,_=>[]
def pS (a:Nat) (c:Bool) (b:Nat):Nat:=bif c then a else 1000*(a+1)+b
def rv (b:Nat) (c:Bool):Nat->List aB->List ak
 |_,[]=>[]
 |j,a::d=>(bif a.1.pure then .val a.1 a.2 else .ref (pS b c j) [])::rv b c (j+1) d
def hE (a:Nat) (b:Bool):Nat->List aB->List (Nat×aB)
 |_,[]=>[]
 |j,d::c=>bif d.1.pure then hE a b (j+1) c else(pS a b j,d)::hE a b (j+1) c
def tn (a:Nat):List aB->ak
 |[t]=>bif t.1.pure then .val t.1 t.2 else .ref a []
 |l=>.dC (rv a false 0 l)
def hj:List aB->Bool
 |[_]=>true
 |_=>false
def h2:ab0->Bool
 |[]=>true
 |a::b=>!(dj a b)&&h2 b
theorem h2.ok:∀{c:ab0},h2 c=true->c.Nodup
 |[],_=>List.nodup_nil
 |a::e,b=>by simp only[h2,bg,vL] at b;exact jn.2 ⟨(λd=>by rw[ep.2 d] at b;cases b.1),h2.ok b.2⟩
def SC (c:Nat) (st:aH) (b:List ak) (a:List fX) (d:List aB):aH:=
 ⟨(c,tn c d)::kill (eF b a) (uZ (kO b a)) st.g,(iy b a++hE c (hj d) 0 d)++del (eF b a) st.h⟩
theorem aN.eu {I L B':Nat->Prop} {w:World}:∀{τ:ah} {f:abU} {c:τ.den} {h:ab0},τ.eu=true->aN (bc I L) w τ f c h->aN (bc I B') w τ f c h:=by
 intro τ
 induction τ with
 |a6 r q d=>
  intro f c h a b;cases r
  ·obtain⟨t,y,z,ar,i,o,p⟩:=b;refine⟨t,y,z,ar,i,o,p.imp id ?_⟩;rintro⟨e,n,O,D,Q⟩;refine⟨e,n,O,D,λm v F=>?_⟩;obtain⟨g,j,k,l⟩:=Q m v F;exact⟨g,j,k,d (by simpa only[ah.eu] using a) l⟩
  ·simp only[ah.eu] at a;cases a
 |ptr r q d=>
  intro f c h a b;cases r
  ·obtain⟨t,ar⟩:=b;refine⟨t,?_⟩;cases c with
   |none=>exact ar
   |some v=>
    obtain⟨e,n,g,G,H,J,aU,K⟩:=ar;exact⟨e,n,g,G,H,J,aU,d (by simpa only[ah.eu] using a) K⟩
  ·simp only[ah.eu] at a;cases a
 |osl q d=>
  intro f c h a b;obtain⟨y,z,ar,i⟩:=b;refine⟨y,z,ar,i.imp id ?_⟩;rintro⟨e,n,N,G,H,J,aU,K,U⟩;refine⟨e,n,N,G,H,J,aU,K,λm v B F P=>?_⟩;obtain⟨g,j,k,l⟩:=U m v B F P;exact⟨g,j,k,d (by simpa only[ah.eu] using a) l⟩
 |optr q d=>
  intro f c h a b;obtain⟨e,n,B,g,ar,i,o,p,u,T⟩:=b;exact⟨e,n,B,g,ar,i,o,p,u,d (by simpa only[ah.eu] using a) T⟩
 |st q d=>intro f c h a b;exact d (by simpa only[ah.eu] using a) b
 |mp q d=>
  intro f c h a b;cases c with
  |none=>exact b
  |some s=>
   obtain⟨e,A,x,ar,i,C,o,p,u⟩:=b;refine⟨e,A,x,ar,i,C,o,p,λm s E=>?_⟩;obtain⟨g,j,k,l⟩:=u m s E;exact⟨g,j,k,d (by simpa only[ah.eu] using a) l⟩
 |dJ r q d=>
  intro f c h a b;cases r
  ·cases c with
   |none=>exact b
   |some s=>
    obtain⟨e,A,x,ar,i,C,D,o,p,u⟩:=b;refine⟨e,A,x,ar,i,C,D,o,p,λm s E=>?_⟩;obtain⟨g,j,k,l⟩:=u m s E;exact⟨g,j,k,d (by simpa only[ah.eu] using a) l⟩
  ·simp only[ah.eu] at a;cases a
 |pr V e R S=>
  intro f c h a b;simp only[ah.eu,bg] at a;obtain⟨M,f2,t,ar,i⟩:=b;exact⟨M,f2,t,R a.1 ar,S a.2 i⟩
 |_=>intro f c h a b;exact b
theorem J3 {e f:Type} (c:e->f):∀(b:List (Nat×e)) (a:Nat),al (b.map λd=>(d.1,c d.2)) a=(al b a).map c
 |[],_=>rfl
 |(g,v)::b,a=>by rw[er,bY,bY,J3 c b a];split<;>rfl
abbrev wa:=aB×abU×ab0
def fr (rt:Nat->abU):List ak->List fX->c6->List (Nat×wa)
 |.ref id []::as,.m d e::a,c::b=>(id,(⟨d.1,e⟩,rt id,c))::fr rt as a b
 |.view id [] _ _::as,.w g _ _ _ f::a,c::b=>(id,(⟨.osl g,f⟩,rt id,c))::fr rt as a b
 |_::as,_::a,_::b=>fr rt as a b
 |_,_,_=>[]
def jH (a:Nat) (b:Bool):Nat->List aB->c0->c6->List (Nat×wa)
 |j,f::e,g::c,h::d=>bif f.1.pure then jH a b (j+1) e c d else(pS a b j,(f,g,h))::jH a b (j+1) e c d
 |_,_,_,_=>[]
theorem Ly {rt:Nat->abU}:∀{as:List ak} {bs:List fX} {gs:c6},gs.length=bs.length->(fr rt as bs gs).map (λf=>(f.1,f.2.1))=iy as bs
 |[],bs,gs,_=>by cases bs<;>cases gs<;>rfl
 |a::as,[],gs,d=>by cases gs with
  |nil=>cases a<;>first|rfl|(rename_i id b;cases b<;>rfl)|(rename_i id b h g;cases b<;>rfl)
  |cons=>cases d
 |a::as,c::bs,[],d=>by cases d
 |a::as,c::bs,i::gs,d=>by
  have e:=Ly (rt:=rt) (as:=as) (bs:=bs) (gs:=gs) (by simpa using d);cases a with
  |ref id b=>cases b with
   |nil=>cases c<;>simp only[fr,iy,er,e]
   |cons=>cases c<;>simp only[fr,iy,e]
  |view id b h g=>cases b with
   |nil=>cases c<;>simp only[fr,iy,er,e]
   |cons=>cases c<;>simp only[fr,iy,e]
  |_=>cases c<;>simp only[fr,iy,e]
theorem Cg {d:Nat} {s:Bool}:∀{j:Nat} {res:List aB} {cs:c0} {hs:c6},cs.length=res.length->hs.length=res.length->(jH d s j res cs hs).map (λg=>(g.1,g.2.1))=hE d s j res
 |j,[],cs,hs,a,b=>by cases cs<;>cases hs<;>simp[jH,hE]
 |j,e::c,[],hs,a,b=>by cases a
 |j,e::c,h::cs,[],a,b=>by cases b
 |j,e::c,h::cs,i::hs,a,b=>by
  have f:=Cg (d:=d) (s:=s) (j:=j+1) (res:=c) (cs:=cs) (hs:=hs) (by simpa using a) (by simpa using b);simp only[jH,hE];cases e.1.pure
  ·simp only[cond_false,er,f]
  ·simp only[cond_true,f]
section
variable {C:dA} {st:aH} {A:abS} {w w':World} {I I' B':Nat->Prop} {rt:Nat->abU} {fp:Nat->ab0}
theorem Lz (F:bE C st A w I rt fp) {S:ab0}:∀{avs:List ak} {t:abU} {args:List fX} {gs:c6},hd (bG (bc I C.B) w st.h rt fp) avs t->m1 st.h S avs args->kF (vI I' B' w') args t gs->∀b∈fr rt avs args gs,aN (bc I' C.B) w' b.2.1.1 b.2.2.1 b.2.1.2 b.2.2.2/\b.2.2.1=rt b.1/\b.1∈eF avs args/\∃g,al st.h b.1=some g/\b.2.1.1=g.1
 |[],t,args,gs,l,p,q,b,a=>by cases args<;>cases gs<;>cases a
 |x::i,t,[],gs,l,p,q,b,a=>by cases x<;>exact p.elim
 |x::i,[],d::u,gs,l,p,q,b,a=>l.elim
 |x::i,v::t,d::u,[],l,p,q,b,a=>q.elim
 |av::i,v::t,d::u,Y::gs,l,p,q,b,a=>by
  obtain⟨O,Z⟩:=l;obtain⟨L,ab⟩:=p;obtain⟨M,ad⟩:=q;have am:=Lz F (S:=S) (avs:=i) (args:=u) (gs:=gs) Z ab ad;have e:b∈fr rt i u gs->aN (bc I' C.B) w' b.2.1.1 b.2.2.1 b.2.1.2 b.2.2.2/\b.2.2.1=rt b.1/\b.1∈eF (av::i) (d::u)/\∃g,al st.h b.1=some g/\b.2.1.1=g.1:=by
   intro a;obtain⟨ar,T,r,E⟩:=am b a;refine⟨ar,T,?_,E⟩;cases av with
   |ref id f=>cases f<;>cases d<;>simp only[eF]<;>first|exact e0 _ r|exact r
   |view id f Q N=>cases f<;>cases d<;>simp only[eF]<;>first|exact e0 _ r|exact r
   |_=>cases d<;>exact r
  cases av with
  |ref id f=>
   cases f with
   |cons s f=>exact e (by cases d<;>exact a)
   |nil=>
    cases d with
    |v g=>exact e a
    |o g=>exact e a
    |c n c1=>exact e a
    |n=>exact e a
    |s bB an=>exact e a
    |w a3 i Q N V=>exact e a
    |m g c2=>
     simp only[fr,dh] at a;rcases a with rfl|a
     ·obtain⟨j,P,H⟩:=L;obtain⟨bl,k,D⟩:=M;cases O with|ref y G=>
      rw[j] at y;cases y;obtain⟨rfl,rfl,rfl⟩:=aP.eX.1 G;have:=ZI H (F.tree id _ j).1.len D.len k;subst this;exact⟨D.eu P,rfl,by simp[eF],g,j,rfl⟩
     ·exact e a
  |view id f Q N=>
   cases f with
   |cons s f=>exact e (by cases d<;>exact a)
   |nil=>
    cases d with
    |w a3 i an k V=>
     simp only[fr,dh] at a;rcases a with rfl|a
     ·obtain⟨j,⟨rfl,rfl⟩,P,H⟩:=L;obtain⟨d,o,J,k,ce,D⟩:=M;cases O with
      |ku=>omega
      |view y G ar T r=>
      rename_i cv dl ci W R ap K;rw[j] at y;cases y;obtain⟨aj,bs,X⟩:=aP.eX.1 G;simp only[ah.osl.injEq] at aj;subst aj;obtain⟨a4,bd,E,_⟩:=(F.tree id _ j).1;have z:rt id=[.slice (some ⟨W,R,none⟩) ap K]:=X;rw[E] at z;simp only[fY,Value.slice.injEq,and_true] at z;rw[if_neg U] at k;simp only[Value.slice.injEq,bH,Addr.mk.injEq,and_true] at k;obtain⟨⟨a0,co⟩,cs,aU⟩:=k;have:rt id=[.slice (some ⟨d,o,none⟩) i.length J]:=(by rw[E,z.1,z.2.2,<-a0,(U:o=R),(U:J=K)]);refine⟨?_,rfl,by simp[eF],_,j,rfl⟩;show aN (bc I' C.B) w' (.osl _) (rt id) V Y;rw[this];exact D.eu H
     ·exact e a
    |_=>exact e a
  |_=>exact e (by cases d<;>exact a)
theorem Lx {x:ab0}:∀{as:List ak} {r:List fX} {g:abU} {e:c6},m1 st.h x as r->kF (vI I' B' w') r g e->((fr rt as r e).map (λz=>z.2.2.2)).flatten=e.flatten
 |[],[],g,e,f,d=>by cases g<;>cases e<;>first|rfl|exact d.elim
 |[],q::t,g,e,f,d=>f.elim
 |a::as,[],g,e,f,d=>by cases a<;>exact f.elim
 |a::as,q::t,[],e,f,d=>d.elim
 |a::as,q::t,v::g,[],f,d=>d.elim
 |a::as,q::t,v::g,k::e,f,d=>by
  have y:=Lx (as:=as) f.2 d.2;have l:=f.1;have p:=d.1;rw[iE,<-y];cases q with
  |m u F=>
   cases a with
   |ref id b=>cases b with
    |nil=>simp only[fr,er,iE]
    |cons=>exact l.elim
   |_=>exact l.elim
  |w H E C B G=>
   cases a with
   |view id b i j=>cases b with
    |nil=>simp only[fr,er,iE]
    |cons=>exact l.elim
   |ref id b=>cases b<;>exact l.elim
   |_=>exact l.elim
  |v u=>
   have:k=[]:=p;subst this;cases a with
   |ref id b=>cases b<;>simp only[fr,fO]
   |view id b i j=>cases b<;>simp only[fr,fO]
   |_=>simp only[fr,fO]
  |o u=>
   have:k=[]:=p;subst this;cases a with
   |ref id b=>cases b<;>simp only[fr,fO]
   |view id b i j=>cases b<;>simp only[fr,fO]
   |_=>simp only[fr,fO]
  |n=>
   have:k=[]:=p;subst this;cases a with
   |ref id b=>cases b<;>simp only[fr,fO]
   |view id b i j=>cases b<;>simp only[fr,fO]
   |_=>simp only[fr,fO]
  |s A i=>
   have:k=[]:=p;subst this;cases a with
   |ref id b=>cases b<;>simp only[fr,fO]
   |view id b i j=>cases b<;>simp only[fr,fO]
   |_=>simp only[fr,fO]
  |c n D=>
   have:k=[]:=p;subst this;cases a with
   |ref id b=>cases b<;>simp only[fr,fO]
   |view id b i j=>cases b<;>simp only[fr,fO]
   |_=>simp only[fr,fO]
theorem LY {I:Nat->Prop}:∀{f:List aB} {d:abU} {c:c6},kF (yT I w) f d c->∃h:c0,h.length=f.length/\c.length=f.length/\d.length=f.length/\∀(b:Nat) (t:aB) (e:abU) (a:ab0) (g:Value),f[b]?=some t->h[b]?=some e->c[b]?=some a->d[b]?=some g->g=bL t.1 e/\aN (bc I (λ_=>False)) w t.1 e t.2 a
 |[],d,c,a=>by cases d<;>cases c<;>first|exact⟨[],rfl,rfl,rfl,λb t e a g p=>by simp at p⟩|exact a.elim
 |t::l,[],c,a=>a.elim
 |t::l,g::d,[],a=>a.elim
 |t::l,g::d,A::c,a=>by
  obtain⟨⟨e,n,s⟩,q⟩:=a;obtain⟨h,u,v,x,r⟩:=LY q;refine⟨e::h,by simp[u],by simp[v],by simp[x],λb y m o z aj i j k=>?_⟩;cases b with
  |zero=>simp only[iY,bH] at aj i j k;subst aj;subst i;subst j;subst k;exact⟨n,s⟩
  |succ b=>exact r b y m o z (by simpa using aj) (by simpa using i) (by simpa using j) (by simpa using k)
theorem L0 {m:Nat} {p:Bool}:∀{j:Nat} {i:List aB} {c:c0} {d:c6},c.length=i.length->d.length=i.length->∀b∈jH m p j i c d,∃e:Nat,i[e]?=some b.2.1/\c[e]?=some b.2.2.1/\d[e]?=some b.2.2.2
 |j,[],c,d,f,g,b,a=>by cases c<;>cases d<;>simp[jH] at a
 |j,k::h,[],d,f,g,b,a=>by cases f
 |j,k::h,l::c,[],f,g,b,a=>by cases g
 |j,k::h,l::c,s::d,f,g,b,a=>by
  simp only[jH] at a;have o:b∈jH m p (j+1) h c d->∃e,(k::h)[e]?=some b.2.1/\(l::c)[e]?=some b.2.2.1/\(s::d)[e]?=some b.2.2.2:=λa=>(by obtain⟨e,aj,q,r⟩:=L0 (by simpa using f) (by simpa using g) b a;exact⟨e+1,by rw[o1];exact aj,by rw[o1];exact q,by rw[o1];exact r⟩);cases n:k.1.pure
  ·rw[n] at a;simp only[cond_false,dh] at a;rcases a with rfl|a
   ·exact⟨0,rfl,rfl,rfl⟩
   ·exact o a
  ·rw[n] at a;exact o a
theorem LZ {d:Nat} {s:Bool}:∀{j:Nat} {res:List aB} {cs:c0} {hs:c6},((jH d s j res cs hs).map (λg=>g.2.2.2)).flatten.Sublist hs.flatten
 |j,[],cs,hs=>by simp[jH]
 |j,b::a,[],hs=>by simp[jH]
 |j,b::a,e::cs,[]=>by simp[jH]
 |j,b::a,e::cs,f::hs=>by
  have c:=LZ (d:=d) (s:=s) (j:=j+1) (res:=a) (cs:=cs) (hs:=hs);simp only[jH];cases b.1.pure
  ·simp only[cond_false,er,iE];exact List.Sublist.append (List.Sublist.refl f) c
  ·simp only[cond_true,iE];exact c.trans (List.sublist_append_right _ _)
theorem HC (q:bE C st A w I rt fp) {g:ab0} (j:∀b,C.B b->B' b) (p:∀id a,al st.h id=some a->dj id g=false->∀b∈fp id,B' b) {d:ak} {m:Value} (e:bG (bc I C.B) w st.h rt fp d m) {a:aB} (c:rI st.h g d a):∃i,m=bL a.1 i/\aN (bc I B') w a.1 i a.2 []:=by
 cases d with
 |val o n=>
  have c:mn o n a.1 a.2:=c;cases e with|val z=>
  exact⟨_,c.st _,c.rep j z ac⟩
 |cv G=>
  obtain⟨ar,y⟩:=c;cases e;exact⟨_,y.symm,n6 ar⟩
 |ref id E=>
  obtain⟨r,F,o,n,f,x,l⟩:=c;cases e with|ref k u=>
  rw[f] at k;cases k;obtain⟨rfl,D,v,_,t⟩:=q.jB f x u;exact⟨_,l.st _,l.rep j v (λb s=>p id _ f r b (t b s))⟩
 |_=>exact c.elim
theorem HF (i:bE C st A w I rt fp) {c:ab0} (f:∀b,C.B b->B' b) (g:∀id l,al st.h id=some l->dj id c=false->∀b∈fp id,B' b):∀{d:List ak} {k:abU} {j:List aB},hd (bG (bc I C.B) w st.h rt fp) d k->hd (rI st.h c) d j->hd (vO I B' w) j k
 |[],[],[],_,_=>trivial
 |[],_::_,_,a,_=>a.elim
 |_::_,[],_,a,_=>a.elim
 |[],_,_::_,_,a=>a.elim
 |_::_,_,[],_,a=>a.elim
 |_::_,_::_,_::_,a,e=>⟨HC i f g a.1 e.1,HF i f g a.2 e.2⟩
theorem HH (u:bE C st A w I rt fp) {S:ab0} (G:∀d,C.B d->B' d) (J:∀id r,al st.h id=some r->dj id S=false->∀d∈fp id,B' d):∀{H:List ak} {y:abU} {args:List fX},hd (bG (bc I C.B) w st.h rt fp) H y->m1 st.h S H args->∃e,kF (vH I B' w) args y e/\e.flatten=((eF H args).map fp).flatten
 |[],y,args,j,i=>by cases args with
  |nil=>cases y with
   |nil=>exact⟨[],trivial,rfl⟩
   |cons=>exact j.elim
  |cons=>exact i.elim
 |x::p,y,[],j,i=>by cases x<;>exact i.elim
 |x::p,[],d::z,j,i=>j.elim
 |av::p,v::y,d::z,j,i=>by
  obtain⟨q,j⟩:=j;obtain⟨a,Y⟩:=i;obtain⟨e,f,g⟩:=HH u G J j Y;cases d with
  |v r=>
   have t:eF (av::p) (.v r::z)=eF p z:=by cases av<;>first|rfl|(rename_i id b;cases b<;>rfl)|(rename_i id b F t;cases b<;>rfl)
   have a:rI st.h S av r:=(by cases av<;>exact a);exact⟨[]::e,⟨⟨rfl,HC u G J q a⟩,f⟩,by rw[t];simpa using g⟩
  |s X F=>
   have t:eF (av::p) (.s X F::z)=eF p z:=by cases av<;>first|rfl|(rename_i id b;cases b<;>rfl)|(rename_i id b F t;cases b<;>rfl)
   exact⟨[]::e,⟨rfl,f⟩,by rw[t];simpa using g⟩
  |n=>
   cases av with
   |cv T=>
    obtain rfl:T=.slice none 0 0:=a;cases q;exact⟨[]::e,⟨⟨rfl,rfl⟩,f⟩,by simpa[eF] using g⟩
   |ref id b=>cases b<;>exact a.elim
   |_=>exact a.elim
  |c n dl=>
   cases av with
   |dt m F=>
    obtain⟨rfl,a⟩:=a;cases q with|dt ab Z=>
    rename_i ap;refine⟨[]::e,⟨⟨rfl,ap.toList,rfl,HF u G J (y1 (by simpa using ab) (λam V d f g=>Z am V d f (by simpa using g))) a⟩,f⟩,by simpa[eF] using g⟩
   |ref id b=>cases b<;>exact a.elim
   |_=>exact a.elim
  |w a0 p ce bs d0=>
   cases av with
   |view id b F t=>cases b with
    |nil=>
     obtain⟨l,⟨rfl,rfl⟩,K,an⟩:=a;cases q with
     |ku=>omega
     |view k E ar co cs=>
     rename_i c2 d1 ci L Q P M;rw[l] at k;cases k;obtain⟨aj,bl,W⟩:=aP.eX.1 E;simp only[ah.osl.injEq] at aj;subst aj;have O:=(u.tree id _ l).1;have D:rt id=[.slice (some ⟨L,Q,none⟩) P M]:=W;have ad:=O;obtain⟨a4,bd,R,c1⟩:=ad;rw[R] at D;simp only[fY,Value.slice.injEq,and_true] at D;have bB:p.length=P:=D.2.1;refine⟨fp id::e,⟨⟨L,Q,M,?_,⟨K,U,U⟩,?_⟩,f⟩,by simp only[eF,er,iE,g]⟩
     ·rw[if_neg U]
     ·have:=aN.eu (τ:=.osl a0) (B':=B') an O;rw[R,D.1,D.2.2] at this;exact this
    |cons=>exact a.elim
   |ref id b=>cases b<;>exact a.elim
   |_=>exact a.elim
  |m r ds=>
   cases av with
   |ref id b=>cases b with
    |nil=>
     obtain⟨l,K,_⟩:=a;cases q with|ref k E=>
     rw[l] at k;cases k;obtain⟨rfl,rfl,rfl⟩:=aP.eX.1 E;exact⟨fp id::e,⟨⟨rt id,rfl,(u.tree id _ l).1.eu K⟩,f⟩,by simp only[eF,er,iE,g]⟩
    |cons=>exact a.elim
   |_=>exact a.elim
  |o r=>
   cases av with
   |ref id b=>cases b with
    |nil=>
     have l:al st.h id=some r:=a;cases q with|ref k E=>
     rw[l] at k;cases k;obtain⟨rfl,rfl,rfl⟩:=aP.eX.1 E;refine⟨fp id::e,⟨⟨rt id,rfl,(u.tree id _ l).1.mono (λm d N=>⟨?_,bU.refl w d⟩) (λd _=>bU.refl w d)⟩,f⟩,by simp only[eF,er,iE,g]⟩;cases m
     ·exact N
     ·exact N.imp (λi=>i) (G d)
    |cons=>exact a.elim
   |cv T=>
    obtain⟨rfl,a3,rfl⟩:=a;cases q;exact⟨[]::e,⟨⟨[.slice none 0 0],rfl,none,0,rfl,.inl ⟨rfl,rfl,rfl,rfl⟩⟩,f⟩,by simpa[eF] using g⟩
   |_=>exact a.elim
end
end
section
def lQ (d:Nat) (st:aH) (c:List ak) (b:List fX) (a:List aB):Bool:=
 h2 (eF c b)&&h2 ((iy c b++hE d (hj a) 0 a).map (·.1))&&(hE d (hj a) 0 a).all λe=>(al st.h e.1).isNone
section
variable {E:dY} {C:dA} {st:aH} {a:Act} {w w':World} {I I' B':Nat->Prop} {rt:Nat->abU} {fp:Nat->ab0}
theorem JH {rt:Nat->abU} {n:ab0} {b:List (Nat×aB)}:∀{as:List ak} {bs:List fX} {gs:c6},m1 b n as bs->gs.length=bs.length->∀id∈kO as bs,∃c∈fr rt as bs gs,c.1=id/\al b id=some ⟨c.2.1.1,(match al b id with|some k=>if f:k.1=c.2.1.1 then f▸k.2 else c.2.1.2|none=>c.2.1.2)⟩
 |[],bs,gs,_,_,id,b=>by cases bs<;>cases b
 |a::as,[],gs,g,_,id,b=>by cases a<;>exact g.elim
 |a::as,e::bs,[],_,h,id,b=>by cases h
 |a::as,e::bs,p::gs,g,h,id,b=>by
  have d:=JH (rt:=rt) (as:=as) (bs:=bs) (gs:=gs) g.2 (by simpa using h) id;have l:=g.1;cases a with
  |ref o j=>cases j with
   |nil=>
    cases e with
    |m k u=>
     simp only[kO,dh] at b;simp only[fr];rcases b with rfl|b
     ·refine⟨_,iH ..,rfl,?_⟩;rw[l.1];simp
     ·obtain⟨c,i,f⟩:=d b;exact⟨c,e0 _ i,f⟩
    |_=>exact d b
   |cons=>cases e<;>exact d b
  |view o j r f=>cases j with
   |nil=>
    cases e with
    |w x t s q v=>
     simp only[kO,dh] at b;simp only[fr];rcases b with rfl|b
     ·refine⟨_,iH ..,rfl,?_⟩;rw[l.1];simp
     ·obtain⟨c,i,f⟩:=d b;exact⟨c,e0 _ i,f⟩
    |_=>exact d b
   |cons=>cases e<;>exact d b
  |_=>cases e<;>exact d b
theorem C4 {e f g:Type} {h:e->f->g->Prop}:∀{as:List e} {c:List f} {d:List g},kF h as c d->c.length=as.length/\d.length=as.length
 |[],c,d,b=>by cases c<;>cases d<;>first|exact⟨rfl,rfl⟩|exact b.elim
 |a::as,[],d,b=>b.elim
 |a::as,i::c,[],b=>b.elim
 |a::as,i::c,l::d,b=>by obtain⟨j,k⟩:=C4 b.2;simp[j,k]
theorem Wx {b:List (Nat×wa)} (j:((b.map λc=>c.2.2.2).flatten).Nodup):(∀c∈b,c.2.2.2.Nodup)/\∀e f g h,al b e=some g->al b f=some h->e≠f->∀a∈g.2.2,a∉h.2.2:=by
 induction b with
 |nil=>exact⟨ac,λe f g h j=>by cases j⟩
 |cons t b A=>
  obtain⟨B,t⟩:=t;simp only[er,iE,iJ] at j;obtain⟨v,w,q⟩:=j;obtain⟨i1,z⟩:=A w;refine⟨λc n=>?_,λe f g h i d r a l=>?_⟩
  ·rcases dh.1 n with rfl|n
   ·exact v
   ·exact i1 c n
  ·rw[bY] at i d;have s:∀o k,al b o=some k->∀p∈k.2.2,p∈(b.map λc=>c.2.2.2).flatten:=λo k y p x=>iI.2 ⟨_,bT.2 ⟨(o,k),xL y,rfl⟩,x⟩;split at i
   ·rename_i aj;split at d
    ·rename_i u;exact absurd (aj.symm.trans u) r
    ·obtain rfl:=dV i;intro m;exact q a l a (s f h d a m) rfl
   ·split at d
    ·obtain rfl:=dV d;intro m;exact q a m a (s e g i a l) rfl
    ·exact z e f g h i d r a l
theorem Bu {e:Type}:∀{c:List (Nat×e)},(c.map (·.1)).Nodup->∀{b:Nat×e},b∈c->al c b.1=some b.2
 |[],_,b,a=>by cases a
 |(k,x)::c,d,b,a=>by
  simp only[er,jn] at d;rw[bY];rcases dh.1 a with rfl|a
  ·rw[if_pos rfl]
  ·rw[if_neg (λf=>d.1 (by rw[f];exact bT.2 ⟨b,a,rfl⟩))];exact Bu d.2 a
theorem LV {e:Nat} {g:Bool}:∀{j:Nat} {f:List aB} {a:Nat} {d:ak},(rv e g j f)[a]?=some d->∃c,f[a]?=some c/\d=(bif c.1.pure then .val c.1 c.2 else .ref (pS e g (j+a)) [])
 |j,[],a,d,b=>by simp[rv] at b
 |j,c::l,a,d,b=>by
  simp only[rv] at b;cases a with
  |zero=>simp only[iY,bH] at b;exact⟨c,rfl,b.symm⟩
  |succ a=>
   obtain⟨k,h,i⟩:=LV (by simpa using b);exact⟨k,by simpa using h,by rw[i,(U:j+1+a=j+(a+1))]⟩
theorem LW {b:Nat} {c:Bool}:∀{j:Nat} {a:List aB},(rv b c j a).length=a.length
 |j,[]=>rfl
 |j,e::d=>by simp[rv,LW]
theorem L1 {d:Nat} {s:Bool}:∀{j:Nat} {res:List aB} {cs:c0} {hs:c6},cs.length=res.length->hs.length=res.length->∀(a:Nat) b c e,res[a]?=some b->cs[a]?=some c->hs[a]?=some e->b.1.pure=false->(pS d s (j+a),(b,c,e))∈jH d s j res cs hs
 |j,[],cs,hs,_,_,a,b,c,e,aj,_,_,_=>by simp at aj
 |j,b::k,[],hs,h,_,_,_,_,_,_,_,_,_=>by cases h
 |j,b::k,c::cs,[],_,i,_,_,_,_,_,_,_,_=>by cases i
 |j,b::k,c::cs,e::hs,h,i,a,o,m,n,aj,f,g,l=>by
  simp only[jH];cases a with
  |zero=>
   simp only[iY,bH] at aj f g;subst aj;subst f;subst g;rw[l];exact iH ..
  |succ a=>
   have:=L1 (d:=d) (s:=s) (j:=j+1) (res:=k) (cs:=cs) (hs:=hs) (by simpa using h) (by simpa using i) a o m n (by simpa using aj) (by simpa using f) (by simpa using g) l;rw[(U:j+1+a=j+(a+1))] at this;cases b.1.pure
   ·exact e0 _ this
   ·exact this
end
section
variable {E:dY} {C:dA} {st:aH} {A:Array Oper} {Q:aH->Prop}
theorem MS {i:List (Nat×aB)} {j:ab0}:∀{as:List ak} {bs:List fX},m1 i j as bs->∀id∈eF as bs,∃h,al i id=some h
 |[],bs,_,id,b=>by cases bs<;>cases b
 |a::as,[],e,id,b=>by cases a<;>exact e.elim
 |a::as,d::bs,e,id,b=>by
  have c:=MS (as:=as) (bs:=bs) e.2 id;have f:=e.1;cases a with
  |ref k g=>cases g with
   |nil=>
    cases d with
    |m h s=>
     simp only[eF,dh] at b;rcases b with rfl|b
     ·exact⟨_,f.1⟩
     ·exact c b
    |o h=>
     simp only[eF,dh] at b;rcases b with rfl|b
     ·exact⟨_,f⟩
     ·exact c b
    |_=>exact c b
   |cons=>cases d<;>exact c b
  |view k g p l=>cases g with
   |nil=>
    cases d with
    |w u r q n t=>
     simp only[eF,dh] at b;rcases b with rfl|b
     ·exact⟨_,f.1⟩
     ·exact c b
    |_=>exact c b
   |cons=>cases d<;>exact c b
  |_=>cases d<;>exact c b
theorem Fa {t:abS} {w:World} {I:Nat->Prop} {rt:Nat->abU} {fp:Nat->ab0} (e:bE C st t w I rt fp):∀{a:ab0},(∀id∈a,∃b,al st.h id=some b)->a.Nodup->((a.map fp).flatten).Nodup
 |[],_,_=>by simp
 |id::a,d,f=>by rw[jn] at f;simp only[er,iE,iJ];obtain⟨b,i⟩:=d id ac;refine⟨(e.tree id b i).2.1,Fa e (λr p=>d r (by simp[p])) f.2,λk n u o c=>?_⟩;subst c;obtain⟨v,l,m⟩:=iI.1 o;obtain⟨j,g,rfl⟩:=bT.1 l;obtain⟨s,q⟩:=d j (by simp[g]);exact e.dis id j b s i q (λc=>f.1 (c▸g)) k n m
def RH (e:dd->Nat->Prop) (w:World) (c:Nat) (b:List aB) (f:Nat->abU) (g:Value):Prop:=
 ∀(d:List (Nat×aB)) (rt:Nat->abU) (fp:Nat->ab0),(∀a∈hE c (hj b) 0 b,al d a.1=some a.2/\rt a.1=f a.1)->bG e w d rt fp (tn c b) g
theorem bE.glob {E:dY} {C:dA} {st:aH} {f:abS} {w:World} {I:Nat->Prop} {rt:Nat->abU} {fp:Nat->ab0} (b:bE C st f w I rt fp) (d:∀a,C.I0 a\/C.B a->a<C.w0.heap.size/\¬C.F0 a) (e:jL E C.I0 C.w0):jL E I w:=
 e.mono b.i0 λa c=>b.frame a (d a (.inl c)).1 (d a (.inl c)).2
theorem bE.call {C:dA} {st:aH} {i1:abS} {w:World} {I:Nat->Prop} {rt:Nat->abU} {fp:Nat->ab0} (J:bE C st i1 w I rt fp) {o c2:Nat} {q:List ak} {an:abU} (d3:hd (bG (bc I C.B) w st.h rt fp) q an) {m:List fX} {k:List aB} (f8:p7 E c2 m k) (ap:m1 st.h (eF q m) q m) (W:lQ o st q m k=true) (hv:∀N:c6,(∀e∈N.flatten,∃id c,al st.h id=some c/\e∈fp id)->G6 w an N (nC 0 m)) (f1:jL E I w):Calls E.P c2 an.toArray w (λQ w'=>∃I' H G v,Q=.returned (ox v)/\lJ C st w w' I I' rt fp (eF q m) (uZ (kO q m)) (iy q m++hE o (hj k) 0 k) H G/\RH (bc I' C.B) w' o k H (ox v)):=by
 simp only[lQ,bg,eM] at W;obtain⟨⟨ce,ci⟩,gv⟩:=W;have ce:=h2.ok ce;have ci:=h2.ok ci
 let D:=eF q m
 let B':Nat->Prop:=λe=>C.B e\/∃id c,al st.h id=some c/\dj id D=false/\e∈fp id
 have fT:∀e,C.B e->B' e:=λe f=>.inl f;have f0:∀id c,al st.h id=some c->dj id D=false->∀e∈fp id,B' e:=λid c r l e f=>.inr ⟨id,c,r,l,f⟩;obtain⟨N,gi,d5⟩:=HH J (B':=B') (S:=D) fT f0 (args:=m) d3 ap;have el:∀id∈D,∃c,al st.h id=some c:=λid p=>MS ap id p;have V:∀e∈N.flatten,∃id∈D,∃c,al st.h id=some c/\e∈fp id:=(by intro e f;rw[d5] at f;obtain⟨i8,F,y⟩:=iI.1 f;obtain⟨id,p,rfl⟩:=bT.1 F;obtain⟨c,r⟩:=el id p;exact⟨id,p,c,r,y⟩);have gl:N.flatten.Nodup:=(by rw[d5];exact Fa J el ce);have f9:=f8 w I B' an N (λe f=>by
  rcases f with f|f|⟨id,c,r,_,f⟩
  ·exact J.ib e (.inl f)
  ·exact J.ib e (.inr f)
  ·exact((J.tree id c r).2.2 e f).2.2.1) gi gl (λe f=>by
  obtain⟨id,p,c,r,T⟩:=V e f;obtain⟨ar,av,am,ex⟩:=(J.tree id c r).2.2 e T;refine⟨ar,?_,am⟩;rintro(x|⟨em,a0,hw,l,f7⟩)
  ·exact av x
  ·have hr:id≠em:=λQ=>(by rw[<-Q,ep.2 p] at l;cases l);exact J.dis id em c a0 r hw hr e T f7) (hv N λe f=>by
  obtain⟨id,_,c,r,T⟩:=V e f;exact⟨id,c,r,T⟩) f1
 refine f9.mono ?_;rintro Q w' ⟨I',M,L,v,rfl,u⟩;obtain⟨O,Z,ab,ad,ek⟩:=LY u.res;have d6:=(C4 u.args).2;have d2:m1 st.h D q m:=ap
 let n:List (Nat×wa):=fr rt q m M++jH o (hj k) 0 k O L
 have d1:n.map (λb=>(b.1,b.2.1))=iy q m++hE o (hj k) 0 k:=(by simp only[n,fZ];rw[Ly d6,Cg Z ab]);have d0:(n.map (·.1)).Nodup:=(by have:n.map (·.1)=(n.map (λb=>(b.1,b.2.1))).map (·.1):=(by simp[qg]);rw[this,d1];exact ci);have ge:((fr rt q m M).map (λb=>b.2.2.2)).flatten=M.flatten:=Lx d2 u.args;have gf:((jH o (hj k) 0 k O L).map (λb=>b.2.2.2)).flatten.Sublist L.flatten:=LZ;have ds:((n.map λb=>b.2.2.2).flatten).Sublist (M.flatten++L.flatten):=(by simp only[n,fZ,oZ];rw[ge];exact List.Sublist.append (List.Sublist.refl _) gf);obtain⟨f4,f3⟩:=Wx (u.vg.sublist ds);have d9:∀b∈fr rt q m M,aN (bc I' C.B) w' b.2.1.1 b.2.2.1 b.2.1.2 b.2.2.2/\b.2.2.1=rt b.1/\b.1∈D/\∃c,al st.h b.1=some c/\b.2.1.1=c.1:=(by exact Lz J (S:=D) (args:=m) (gs:=M) d3 ap u.args);have f5:∀b∈n,aN (bc I' C.B) w' b.2.1.1 b.2.2.1 b.2.1.2 b.2.2.2/\(b.1∈D\/al st.h b.1=none):=by
  intro b z;rcases eH.1 z with z|z
  ·obtain⟨ar,_,am,_⟩:=d9 b z;exact⟨ar,.inl am⟩
  ·obtain⟨g,aj,U,a3⟩:=L0 Z ab b z;have hc:g<v.length:=(by rw[ad];exact(ey.1 aj).1);obtain⟨_,X⟩:=ek g _ _ _ v[g] aj U a3 ac;refine⟨X.mono (λcs e l=>⟨?_,bU.refl _ _⟩) (λe _=>bU.refl _ _),.inr ?_⟩
   ·cases cs
    ·exact l
    ·exact l.elim .inl (λx=>x.elim)
   ·have l:(b.1,b.2.1)∈hE o (hj k) 0 k:=by
     rw[<-Cg (d:=o) (s:=hj k) (j:=0) Z ab];exact bT.2 ⟨b,z,rfl⟩
    exact Option.isNone_iff_eq_none.1 (gv _ l)
 have f2:∀b∈n,∀e∈b.2.2.2,e∈M.flatten++L.flatten:=λb z e f=>ds.subset (iI.2 ⟨_,bT.2 ⟨b,z,rfl⟩,f⟩);have co:∀g,al (iy q m++hE o (hj k) 0 k) g=(al n g).map (·.1):=λg=>by rw[<-d1];exact J3 (λb:wa=>b.1) n g
 let H:Nat->abU:=λg=>match al n g with|some b=>b.2.1|none=>[]
 let G:Nat->ab0:=λg=>match al n g with|some b=>b.2.2|none=>[]
 have ic:lJ C st w w' I I' rt fp D (uZ (kO q m)) (iy q m++hE o (hj k) 0 k) H G:=
  ⟨u.size,u.os,u.tape,u.output,λe f f6=>u.heap e f (λgc=>by obtain⟨id,p,c,r,T⟩:=V e gc;exact f6 id p c r T),u.evo,u.i,(λe f=>by
    rcases u.i2 e f with x|⟨F,y|y⟩
    ·exact .inl x
    ·exact .inr ⟨F,.inl y⟩
    ·exact .inr ⟨F,.inr (V e y)⟩),
   (λid c p=>by
    rw[co] at p;cases R:al n id with
    |none=>rw[R] at p;cases p
    |some b=>
     rw[R] at p;obtain rfl:b.1=c:=dV p;have l:=xL R;obtain⟨F,y⟩:=f5 _ l;refine⟨y,by simp only[H,G,R];exact F,by simp only[G,R];exact f4 _ l,λe f=>?_⟩;simp only[G,R] at f;obtain⟨ar,av,am,ex⟩:=u.HU e (f2 _ l e f);exact⟨ar,am,ex.imp (λx=>x) (V e)⟩),
   (λY c1 c kd bs bB gt e f=>by
    rw[co] at bs bB;cases a4:al n Y with
    |none=>rw[a4] at bs;cases bs
    |some ii=>
     cases bd:al n c1 with
     |none=>rw[bd] at bB;cases bB
     |some io=>
      simp only[G,a4] at f;simp only[G,bd];exact f3 Y c1 ii io a4 bd gt e f),
   (λfn bl c r=>by
    obtain⟨id,p,rfl⟩:=bT.1 bl;obtain⟨b,z,Q,_⟩:=JH (rt:=rt) d2 d6 id p;subst Q;have l:b∈n:=m7 _ z;have d7:=Bu d0 l;obtain⟨_,y,_,a0,dl,fz⟩:=d9 b z;rw[r] at dl;obtain rfl:=dV dl;exact⟨b.2.1,by rw[co,d7];rfl,fz,by simp only[H,d7];exact y,⟨c.1,by cases c.1<;>rfl⟩,λb _ _ _ W=>by rw[Bp] at W;cases W⟩),
   (λfn bl c r b _ _ _ _ _ d4=>by
    obtain⟨id,p,rfl⟩:=bT.1 bl;rw[sD] at d4;cases d4)⟩
 refine⟨I',H,G,v,rfl,ic,λF is ft go=>?_⟩;have eq:∀(g:Nat) (c:aB) (A:Value),k[g]?=some c->v[g]?=some A->bG (bc I' C.B) w' F is ft (bif c.1.pure then .val c.1 c.2 else .ref (pS o (hj k) (0+g)) []) A:=by
  intro g c A aj U;have hc:g<k.length:=(ey.1 aj).1;obtain⟨a3,X⟩:=ek g c O[g] L[g] A aj ac ac U;subst a3;cases ed:c.1.pure with
  |true=>
   simp only[cond_true];have:=X.pure ed;rw[this] at X;refine .val (X.mono (λcs e l=>⟨?_,bU.refl _ _⟩) ac);cases cs
   ·exact l
   ·exact l.elim .inl (λx=>x.elim)
  |false=>
   simp only[cond_false];have d8:=L1 (d:=o) (s:=hj k) (j:=0) Z ab g c O[g] L[g] aj ac ac ed;have l:(pS o (hj k) (0+g),(c,O[g],L[g]))∈n:=k4 _ d8;have hi:(pS o (hj k) (0+g),c)∈hE o (hj k) 0 k:=(by rw[<-Cg (d:=o) (s:=hj k) (j:=0) Z ab];exact bT.2 ⟨_,d8,rfl⟩);obtain⟨ar,av⟩:=go _ hi;refine .ref (t:=c) (loc:=none) ar ?_;have fs:H (pS o (hj k) (0+g))=O[g]:=(by simp only[H,Bu d0 l]);rw[av,fs];exact aP.here
 cases K:k with
 |nil=>
  have:v=[]:=k2 (by rw[ad,K];rfl);subst this;exact .dC (vs:=#[]) rfl (λY a A x=>by simp[rv] at x)
 |cons c cv=>
  cases cv with
  |nil=>
   obtain⟨A,rfl⟩:∃A,v=[A]:=tR.1 (by rw[ad,K];rfl);have:=eq 0 c A (by rw[K];rfl) rfl;rw[K] at this;exact this
  |cons i0 cv=>
   have hs:ox v=.tuple v.toArray:=by
    have:v.length=(c::i0::cv).length:=by rw[ad,K]
    match v,this with
    |v1::fa::jp,_=>rfl
   rw[hs];refine .dC (by simp[LW,ad,K]) (λY i3 A F y=>?_);obtain⟨a0,aj,U⟩:=LV F;have:=eq Y a0 A (by rw[K];exact aj) (by simpa using y);rw[K] at this;rw[U];exact this
theorem L2 {a:Nat} {d:Bool} {c:List aB} {e:List (Nat×aB)} (f:((e++hE a d 0 c).map (·.1)).Nodup):∀b∈hE a d 0 c,al (e++hE a d 0 c) b.1=some b.2:=
 λb g=>Bu f (k4 _ g)
theorem dz.call {Q:aH->Prop} {k d:Nat} {m:Oper} {f:Operand} {c:List ak} {b s:Array _} (S:m.op=.call {callee:=.value f,args:=b,argTypes:=s}) (Z:aO st.g f=.dt d c) (K:m.dst=some k) (L:C.ok k) (H:∀(r:abS) (w:World),(callFunc d r).run E.P w=.ok (.enter d r) w) {i:List fX} {n:List aB} (G:p7 E d i n) (W:nC 0 i=none) (z:∀j,C.I0 j\/C.B j->j<C.w0.heap.size/\¬C.F0 j) (A:jL E C.I0 C.w0) (D:m1 st.h (eF (b.toList.map (aO st.g)++c) i) (b.toList.map (aO st.g)++c) i) (p:lQ k st (b.toList.map (aO st.g)++c) i n=true) (u:Q (SC k st (b.toList.map (aO st.g)++c) i n)):dz E C m st Q:=by
 rintro a w ⟨I,rt,fp,l⟩ next an R
 obtain⟨e,Y,y⟩:∃e:abS,a.eval f=.func (.func d) #[] e/\hd (bG (bc I C.B) w st.h rt fp) c e.toList:=by
  have o:=l.aO f;rw[Z] at o;generalize bd:a.eval f=bs at o;cases o with|dt N M=>
  exact⟨_,rfl,y1 (by simpa using N) (λab a j v x=>M ab a j v (by simpa using x))⟩
 have F:hd (bG (bc I C.B) w st.h rt fp) (b.toList.map (aO st.g)++c) (b.toList.map a.eval++e.toList):=C2 (C3 (λf=>l.aO f) _) y;have J:=l.call F G D p (λ_ _=>by rw[W];trivial) (l.glob z A);generalize a4:b.toList.map (aO st.g)++c=ap at*;have V:(execOp a.eval m).run E.P w=.ok (.enter d (b.toList.map a.eval++e.toList).toArray) w:=(by have aj:b.map a.eval=(b.toList.map a.eval).toArray:=(by rw[<-Array.toList_map]);have t:(b.toList.map a.eval++e.toList).toArray=(b.toList.map a.eval).toArray++e:=ac;rw[t];simp only[execOp,S,resolve,aj,Sem.run_bind,Y,Deferred.ofValue,Sem.run_pure,Result.andThen_ok,invoke,Array.empty_append,Array.append_empty];exact H _ _);unfold Oper.wp;rw[V];show Calls E.P d _ w _;refine J.mono ?_;rintro a0 w' ⟨I',bl,a3,am,rfl,X,U⟩;show next (a.put m.dst (ox am)) w'
 rw[K];have q:=p;simp only[lQ,bg] at q;have O:=h2.ok q.1.2;refine R _ _ _ u rfl ⟨I',_,_,(l.bZ X).put L (av:=tn k n) (U _ _ _ (λad T=>?_))⟩;have:=L2 O ad T;exact⟨by rw[iR,this];rfl,by simp only[dG,this]⟩
end
end
end Go.hT
end
