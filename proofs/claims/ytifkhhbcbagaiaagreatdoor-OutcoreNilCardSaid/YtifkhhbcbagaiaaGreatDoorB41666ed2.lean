/-
  Parts of the proof: Fw20, Fw21: the framework (Fw), pure forms (Dn), plain laws (Pl, Th), calls of functions (Ok).
-/
import Derived.Test.YtifkhhbcbagaiaaGreatDoorB1a4005a5

set_option linter.all false
set_option maxHeartbeats 1000000
open _root_ renaming List->bp,Nat->bo,False->bY,rfl->br,Bool->bA,congrArg->cp,Option->bv,and_true->b2,cond_false->cq,Array->bN,cond_true->bK
open Option renaming some->bn,none->bq
open Bool renaming true->bu,false->bw
open Go renaming World->bz,undef->bL,Oper->bJ,Operand->bH,callFunc->H0,execOp->bF,resolve->en
open Go.gG.aP renaming of_heap->Jq,refl->b4
open Go.Value renaming agg->Jr
open List renaming nodup_nil->JU,flatten_cons->IY
open Go.gG.ar renaming cO->cb,here->HZ
open Go.Value.slice renaming injEq->cg
open Go.Addr.mk renaming injEq->cm
open Nat renaming beq->bB,eq_of_beq_eq_true->et
open Go.Value.pointer renaming injEq->es
open Go.Sem renaming run_bind->bP,run_pure->b9
open Go.Result renaming andThen_ok->bT
open Go.Oper renaming wp->cc
noncomputable section
namespace Go.gG
variable{b:bp (bo×aj)}{c:bp ag}{d:ea}
section
def fi {c d e:Type} (b:c->d->e->Prop):bp c->bp d->bp e->Prop
 |[],[],[]=>True
 |a::as,f::g,h::i=>b a f h/\fi b as g i
 |_,_,_=>bY
def eU {c d:Type} (b:c->d->Prop):bp c->bp d->Prop
 |[],[]=>True
 |a::as,e::f=>b a e/\eU b as f
 |_,_=>bY
theorem pt {d e:Type} {f:d->e->Prop}:∀{as:bp d} {c:bp e},eU f as c->c.length=as.length
 |[],[],_=>rfl
 |[],_::_,b|_::_,[],b=>b.elim
 |a::as,g::c,b=>by have:=pt b.2;grind
def pq {e f:Type} {c:e->f->Prop}:∀{as:bp e} {d:bp f} {g:bp e} {h:bp f},eU c as d->eU c g h->eU c (as++g) (d++h)
 |[],[],_,_,_,b=>b
 |[],_::_,_,_,b,_|_::_,[],_,_,b,_=>b.elim
 |a::as,j::d,_,_,b,i=>⟨b.1,pq b.2 i⟩
theorem oi {h i:Type} {f:h->i->Prop}:∀{as:bp h} {c:bp i},as.length=c.length->(∀(e:bo) a b,as[e]?=bn a->c[e]?=bn b->f a b)->eU f as c
 |[],[],_,_=>trivial
 |[],_::_,d,_|_::_,[],d,_=>by cases d
 |a::as,b::c,d,g=>⟨g 0 a b br rfl,oi ab (λe j k l m=>g (e+1) j k ab ab)⟩
def q5 {b g h:Type} {c:g->h->Prop} {d:b->g} {e:b->h} (f:∀x,c (d x) (e x)):∀a:bp b,eU c (a.map d) (a.map e)
 |[]=>trivial
 |x::a=>⟨f x,q5 f a⟩
inductive aT where
 |v (t:aj)
 |mg (g:bA) (t:aj) (y:t.1.den)
 |o (t:aj)
 |c (f:bo) (ts:bp aj)
 |n
 |s (f:bo) (l:ei)
 |w (σ:af) (xs:bp σ.den) (k7 jZ:bo) (ys:bp σ.den)
 |d (k:bo) (q:bp ax) (a:bA)
def gS:bp aT->ea->ea
 |.mg bu _ _::_,_=>[]
 |_::as,a::b=>a::gS as b
 |_,_=>[]
def jn:bp aT->bo
 |.mg bu _ _::_=>0
 |_::as=>jn as+1
 |[]=>0
def s2:∀{as:bp aT} {d c:ea},jn as=d.length->gS as (d++c)=d
 |[],[],c,_=>rfl
 |[],_::_,c,b=>by cases b
 |a::as,[],c,b=>by
  cases a with
  |mg e g h=>cases e with
   |true=>rfl
   |false=>cases b
  |_=>cases b
 |a::as,f::d,c,b=>by
  cases a with
  |mg e g h=>cases e with
   |true=>cases b
   |false=>exact cp (f:: ·) (s2 (as:=as) (by simpa[jn] using b))
  |_=>exact cp (f:: ·) (s2 (as:=as) (by simpa[jn] using b))
def kn (w:bz) (e:bp aT) (n:ea):Prop:=∀(h a:bo) (k:bp ax) (c:bA),e[h]?=bn (.d a k c)->∃l p m,e[a]?=bn (.mg bu l p)/\n[a]?=bn m/\∃o i g b,ar w l.1 bq [m] k o i g/\n[h]?=bn b/\(bif c then∃f j,i=bn (f,j)/\b=.pointer (bn ⟨f,j,bq⟩) else b=aN o g)
def lg:aT->bA
 |.mg bu _ _|.d _ _ _=>bw
 |_=>bu
def nn {w:bz} {a:bp aT} (b:a.all lg=bu):kn w a d:=λf g h e c=>by have:=cX.1 b _ (hK c);cases this
def s4:∀{as:bp aT} {vs:ea},as.all lg=bu->vs.length=as.length->gS as vs=vs
 |[],[],_,_=>rfl
 |[],_::_,_,b|_::_,[],_,b=>by cases b
 |a::as,e::vs,b,g=>by simp only[fX,aC] at b;have d:=s4 (as:=as) (vs:=vs) b.2 (by simpa using g);have c:=b.1;cases a<;>first|exact cp (e:: ·) d|(rename_i f _ _;cases f<;>first|exact cp (e:: ·) d|cases c)|cases c
def n6 (I:aW) (c:bo->Prop) (w:bz) (a:aj) (d:Value):Prop:=∃b,d=aN a.1 b/\al (az I c) w a.1 b a.2 []
def jx (I:aW) (g:bo->Prop) (w:bz):aT->Value->ei->Prop
 |.v b,e,a=>a=[]/\∃f,e=aN b.1 f/\al (az I g) w b.1 f b.2 []
 |.mg _ b _,e,a|.o b,e,a=>∃f,e=aN b.1 f/\al (az I g) w b.1 f b.2 a
 |.n,e,a=>a=[]/\e=.slice bq 0 0
 |.s _ _,_,a|.d _ _ _,_,a=>a=[]
 |.w q i h k _,e,a=>∃l m j,e=.slice (bn ⟨l,m+h*q.size,bq⟩) (k-h) (j-h)/\(h<k/\k<=i.length/\i.length<=j)/\al (az I g) w (.osl q) [.slice (bn ⟨l,m,bq⟩) i.length j] i a
 |.c r t,e,a=>a=[]/\∃p:ea,e=.func (.func r) #[] p.toArray/\eU (n6 I g w) t p
def ha:bo->bp aT->bv dJ
 |_,[]=>bq
 |k,.s a b::_=>bn (k,a,b)
 |k,_::c=>ha (k+1) c
def tm (w:bz) (b:ea) (i:dV):bv dJ->Prop
 |none=>True
 |some (d,h,e)=>d<b.length/\(∀c∈e,c<b.length)/\∃a f g,b.getD d bL=.pointer (bn ⟨a,f,bq⟩)/\a<w.heap.size/\a∉i.flatten/\w.cell? ⟨a,f,bq⟩=bn (.func (.func h) #[] g)/\g.toList=e.map λc=>b.getD c bL
def iQ (I:aW) (e:bo->Prop) (w:bz):aT->Value->ei->Prop
 |.mg _ i m,d,a=>∃g,d=aN i.1 g/\al (az I e) w i.1 g m a
 |.w j l b k n,d,a=>∃f h c,d=.slice (bn ⟨f,h+b*j.size,bq⟩) (k-b) (c-b)/\b<c/\al (az I e) w (.osl j) [.slice (bn ⟨f,h,bq⟩) l.length c] n a
 |_,_,a=>a=[]
def lB (I:aW) (w:bz) (a:aj) (d:Value) (c:ei):Prop:=∃b,d=aN a.1 b/\al (az I (λ_=>bY)) w a.1 b a.2 c
def ih:ea->Value
 |[v]=>v
 |vs=>.tuple vs.toArray
structure tl (I:aW) (B:bo->Prop) (w:bz) (fs:dV) (args:bp aT) (vs:ea) (res:bp aj) (I':aW) (gs hs:dV) (Et:ea) (w':bz):Prop where
 zf:kn w' args vs
 args:fi (iQ I' B w') args vs gs
 res:fi (lB I' w') res Et hs
 nJ:(gs.flatten++hs.flatten).Nodup
 tR:∀b∈gs.flatten++hs.flatten,¬I' b/\¬B b/\b<w'.heap.size/\(w.heap.size<=b\/b∈fs.flatten)
 i:∀b,I b->I' b
 i2:∀b,I' b->I b\/(b<w'.heap.size/\(w.heap.size<=b\/b∈fs.flatten))
 size:w.heap.size<=w'.heap.size
 os:w'.os=w.os
 tape:w'.tape=w.tape
 output:w'.output=w.output
 evo:∀b,b<w.heap.size->gr w w' b
 heap:∀b,b<w.heap.size->b∉fs.flatten->w'.heap[b]?=w.heap[b]?
 le:I'.t=I.t
def gu (E:cG) (I:aW) (w:bz):Prop:=∀a∈E.glob,al (az I λ_=>bY) w (.au .aE (.int a.k)) [.slice (bn ⟨a.b,0,bq⟩) a.xs.length a.xs.length] a.xs []
def gu.mono {E:cG} {I I':aW} {w w':bz} (g:gu E I w) (d:∀a,I a->I' a) (i:∀a,I a->w'.heap[a]?=w.heap[a]?):gu E I' w':=λc h=>
 (show al ⟨(az I λ_=>bY).m,I'.t⟩ w _ _ _ _ from al.eS (τ:=.au .aE (.int c.k)) rfl (g c h)).mono (λf a e=>by
  have b:I a:=(by cases f;exact e;exact e.elim id False.elim);exact⟨by cases f;exact d a b;exact .inl (d a b),Jq (i a b)⟩) (λa b=>by cases b)
def jz (E:cG) (h:FuncId) (b:bp aT) (k:bp aj):Prop:=
 ∀(w:bz) (I:aW) (e:bo->Prop) (d:ea) (c:dV),(∀a,I a\/e a->a<w.heap.size)->fi (jx I e w) b d c->c.flatten.Nodup->(∀a∈c.flatten,¬I a/\¬e a/\a<w.heap.size)->tm w d c (ha 0 b)->gu E I w->kn w b d->Calls E.P h (gS b d).toArray w (λg w'=>∃I' i j f,g=.returned (ih f)/\tl I e w c b d k I' i j f w')
def af.cK:af->bA
 |.au .aG _|.ptr .aG _|.bh .aG _=>bw
 |.au .aE a|.ptr .aE a|.osl a|.opt _ a|.nu _ a|.st a|.mp a|.bh .aE a|.fn _ a=>a.cK
 |.pr b c=>b.cK&&c.cK
 |.eB a=>a.cK
 |_=>bu
def ki:af->bA
 |.pr _ _|.nil|.aY|.eB _=>bw
 |_=>bu
def Ei {a:af} {b:ea} (e:ki a=bu) (f:d.length=a.size) (g:b.length=a.size) (c:aN a d=aN a b):d=b:=by
 have j:a.size=1->aN a d=d.headD bL->aN a b=b.headD bL->d=b:=(by intro i ak h;rw[i] at f g;obtain⟨m,rfl⟩:=kt.1 f;obtain⟨n,rfl⟩:=kt.1 g;rw[ak,h] at c;simpa using c);cases a with
 |st k|aB l=>have c:Jr d.toArray=Jr b.toArray:=c;simpa using c
 |eB k|pr|nil|aY=>cases e
 |_=>exact j br rfl rfl
def n4 (h:bp (bo×aj)) (g:ei):ag->aj->Prop
 |.val c i,a=>gX c i a.1 a.2
 |.aS f,a=>eZ a.1 f.cells.toList=bn a.2/\aN a.1 f.cells.toList=f
 |.ref id e,a=>a5 id g=bw/\∃b c d,ah h id=bn b/\aX b.1 b.2 e c d/\gX c d a.1 a.2
 |.addr id e,a=>a5 id g=bw/\∃b c d,ah h id=bn b/\aX b.1 b.2 e c d/\gX (.opt 0 c) d a.1 a.2
 |_,_=>bY
mutual
inductive iq (h:bp (bo×aj)) (S:ei):ag->(τ:af)->τ.den->Prop
 |base {a:ag} {τ:af} {x:τ.den} (r7:n4 h S a ⟨τ,x⟩):iq h S a τ x
 |c0 {a:ag} {τ:af} {x:τ.den} (z5:im τ=bu) (r7:iq h S a τ x):iq h S (.c0 a) (.ptr .aE τ) (bn x)
 |aR {n:bo} {l:bp ag} {τ:af} {x:τ.den} (pW:mU h S l τ x):iq h S (.aR n l) (.fn n τ) x
inductive mU (h:bp (bo×aj)) (S:ei):bp ag->(τ:af)->τ.den->Prop
 |nil:mU h S [] .nil ()
 |cons {a:ag} {l:bp ag} {τ υ:af} {x:τ.den} {y:υ.den} (z5:im τ=bu) (r7:iq h S a τ x) (pW:mU h S l υ y):mU h S (a::l) (.pr τ υ) (x,y)
end
def xU (b:bp (bo×aj)) (g:ei):ag->aT->Prop
 |av,.v a=>n4 b g av a
 |.ref id [],.mg _ a _=>ah b id=bn a/\a.1.cK=bu/\ki a.1=bu
 |.ref id [],.o a=>ah b id=bn a
 |.aR p e,.c m q=>p=m/\eU (λk a=>iq b g k a.1 a.2) e q
 |.aS f,.o a=>f=.slice bq 0 0/\∃t,a=⟨.osl t,[]⟩
 |.aS f,.n=>f=.slice bq 0 0
 |.view id [] i h,.w j r e l _=>ah b id=bn ⟨.osl j,r⟩/\(e=i/\l=h)/\i<h/\j.cK=bu
 |_,.s _ _|_,.d _ _ _=>True
 |_,_=>bY
def fB (c:bp (bo×aj)) (b:ei):bp ag->bp aT->Prop
 |[],[]=>True
 |a::as,d::e=>xU c b a d/\fB c b as e
 |_,_=>bY
def cY:bp ag->bp aT->ei
 |.ref id []::as,.mg _ _ _::a|.ref id []::as,.o _::a|.view id [] _ _::as,.w _ _ _ _ _::a=>id::cY as a
 |_::as,_::a=>cY as a
 |_,_=>[]
def fR:bp ag->bp aT->ei
 |.ref id []::as,.mg _ _ _::a|.view id [] _ _::as,.w _ _ _ _ _::a=>id::fR as a
 |_::as,_::a=>fR as a
 |_,_=>[]
def fH:bp ag->bp aT->bp (bo×aj)
 |.ref id []::as,.mg _ b c::a=>(id,⟨b.1,c⟩)::fH as a
 |.view id [] _ _::as,.w e _ _ _ d::a=>(id,⟨.osl e,d⟩)::fH as a
 |_::as,_::a=>fH as a
 |_,_=>[]
def kb (a:bo) (c:bA) (b:bo):bo:=bif c then a else 1000*(a+1)+b
def mC (b:bo) (c:bA):bo->bp aj->bp ag
 |_,[]=>[]
 |j,a::d=>(bif a.1.pure then .val a.1 a.2 else .ref (kb b c j) [])::mC b c (j+1) d
def fh (a:bo) (b:bA):bo->bp aj->bp (bo×aj)
 |_,[]=>[]
 |j,d::c=>bif d.1.pure then fh a b (j+1) c else(kb a b j,d)::fh a b (j+1) c
def ll (a:bo):bp aj->ag
 |[t]=>bif t.1.pure then .val t.1 t.2 else .ref a []
 |l=>.bb (mC a bw 0 l)
def fg:bp aj->bA
 |[_]=>bu
 |_=>bw
def fA:ei->bA
 |[]=>bu
 |a::b=>!(a5 a b)&&fA b
theorem fA.ok:∀{c:ei},fA c=bu->c.Nodup
 |[],_=>JU
 |a::e,b=>by simp only[fA,aC,mT] at b;exact gW.2 ⟨(λd=>by rw[ey.2 d] at b;cases b.1),fA.ok b.2⟩
def rk (c:bo) (st:aq) (b:bp ag) (a:bp aT) (d:bp aj):aq:=
 ⟨(c,ll c d)::kill (cY b a) (k2 (fR b a)) st.g,(fH b a++fh c (fg d) 0 d)++del (cY b a) st.h⟩
theorem al.cK {H B':bo->Prop} {w:bz}:∀{τ:af} {I:aW} {h:ea} {c:τ.den} {i:ei},τ.cK=bu->al (az I H) w τ h c i->al (az I B') w τ h c i:=by
 intro τ
 induction τ with
 |au n k e=>
  intro I h c i d a;cases n
  ·obtain⟨m,t,u,b,f,aA,aH⟩:=a;refine⟨m,t,u,b,f,aA,aH.imp id ?_⟩;rintro⟨g,j,P,y,R⟩;refine⟨g,j,P,y,λq r G=>?_⟩;obtain⟨l,J,K,L⟩:=R q r G;exact⟨l,J,K,e (by simpa only[af.cK] using d) L⟩
  grind [af.cK]
 |ptr n k e=>
  intro I h c i d a;cases n
  ·obtain⟨m,b⟩:=a;refine⟨m,?_⟩;cases c with
   |none=>exact b
   |some r=>
    obtain⟨g,j,l,A,B,C,D,E⟩:=b;exact⟨g,j,l,A,B,C,D,e (by grind [af.cK]) E⟩
  grind [af.cK]
 |osl k e=>
  intro I h c i d a;obtain⟨t,u,b,f⟩:=a;refine⟨t,u,b,f.imp id ?_⟩;rintro⟨g,j,O,A,B,C,D,E,an⟩;refine⟨g,j,O,A,B,C,D,E,λq r o G ad=>?_⟩;grind [af.cK]
 |opt _ k e=>
  intro I h c i d a;obtain⟨g,j,o,l,b,f,aA,aH,cP,ka,iM⟩:=a;exact⟨g,j,o,l,b,f,aA,aH,cP,e (by grind [af.cK]) ka,iM⟩
 |nu _ k e=>
  intro I h c i d a;cases c with
  |none=>exact a
  |some r=>
   obtain⟨g,j,o,l,b,f,aA,aH,cP,ka,iM⟩:=a;exact⟨g,j,o,l,b,f,aA,aH,cP,e (by grind [af.cK]) ka,iM⟩
 |eB k e=>
  intro I h c i d a;obtain⟨F,a⟩:=a;exact⟨F,e (I:=⟨I.p,F⟩) (by grind [af.cK]) a⟩
 |st k e=>intro I h c i d a;exact e (by grind [af.cK]) a
 |mp k e=>
  intro I h c i d a;cases c with
  |none=>exact a
  |some z=>
   obtain⟨g,v,s,b,f,x,aA,aH,cP⟩:=a;refine⟨g,v,s,b,f,x,aA,aH,λq z Q=>?_⟩;grind [af.cK]
 |bh n k e=>
  intro I h c i d a;cases n
  ·cases c with
   |none=>exact a
   |some z=>
    obtain⟨g,v,s,b,f,x,y,aA,aH,cP⟩:=a;refine⟨g,v,s,b,f,x,y,aA,aH,λq z Q=>?_⟩;grind [af.cK]
  grind [af.cK]
 |fn am k e=>
  intro I h c i d a;obtain⟨m,U,b,f⟩:=a;exact⟨m,U,b,e (by simpa only[af.cK] using d) f⟩
 |pr V g S T=>
  intro I h c i d a;simp only[af.cK,aC] at d;obtain⟨M,N,m,b,f⟩:=a;exact⟨M,N,m,S d.1 b,T d.2 f⟩
 |_=>intro I h c i d a;exact a
theorem vY {e f:Type} (c:e->f):∀(b:bp (bo×e)) (a:bo),ah (b.map λd=>(d.1,c d.2)) a=(ah b a).map c
 |[],_=>rfl
 |(g,v)::b,a=>by rw[fm,aU,aU,vY c b a];grind
abbrev pf:=aj×ea×ei
def dc (rt:bo->ea):bp ag->bp aT->dV->bp (bo×pf)
 |.ref id []::as,.mg _ d e::a,c::b=>(id,(⟨d.1,e⟩,rt id,c))::dc rt as a b
 |.view id [] _ _::as,.w g _ _ _ f::a,c::b=>(id,(⟨.osl g,f⟩,rt id,c))::dc rt as a b
 |_::as,_::a,_::b=>dc rt as a b
 |_,_,_=>[]
def gD (a:bo) (b:bA):bo->bp aj->dT->dV->bp (bo×pf)
 |j,f::e,g::c,h::d=>bif f.1.pure then gD a b (j+1) e c d else(kb a b j,(f,g,h))::gD a b (j+1) e c d
 |_,_,_,_=>[]
theorem wP {rt:bo->ea}:∀{as:bp ag} {bs:bp aT} {gs:dV},gs.length=bs.length->(dc rt as bs gs).map (λf=>(f.1,f.2.1))=fH as bs
 |[],bs,gs,_=>by cases bs<;>cases gs<;>rfl
 |a::as,[],gs,e=>by cases gs with
  |nil=>cases a<;>first|rfl|(rename_i id b;cases b<;>rfl)|(rename_i id b h g;cases b<;>rfl)
  |cons=>cases e
 |a::as,c::bs,[],e=>by cases e
 |a::as,c::bs,i::gs,e=>by
  have d:=wP (rt:=rt) (as:=as) (bs:=bs) (gs:=gs) ab;cases a with
  |ref id b=>cases b with
   |nil=>cases c<;>simp only[dc,fH,fm,d]
   |cons=>cases c<;>simp only[dc,fH,d]
  |view id b h g=>cases b with
   |nil=>cases c<;>simp only[dc,fH,fm,d]
   |cons=>cases c<;>simp only[dc,fH,d]
  |_=>cases c<;>simp only[dc,fH,d]
theorem qw {d:bo} {s:bA}:∀{j:bo} {res:bp aj} {cs:dT} {hs:dV},cs.length=res.length->hs.length=res.length->(gD d s j res cs hs).map (λe=>(e.1,e.2.1))=fh d s j res
 |j,[],cs,hs,a,b=>by cases cs<;>cases hs<;>simp[gD,fh]
 |j,f::c,[],hs,a,b=>by cases a
 |j,f::c,g::cs,[],a,b=>by cases b
 |j,f::c,g::cs,h::hs,a,b=>by have i:=qw (d:=d) (s:=s) (j:=j+1) (res:=c) (cs:=cs) (hs:=hs) ab ab;simp only[gD,fh];grind
section
variable {C:a6} {st:aq} {A:dY} {w w':bz} {I I':aW} {B':bo->Prop} {rt:bo->ea} {fp:bo->ei}
theorem wQ (z:aK C st A w I rt fp) {S:ei}:∀{avs:bp ag} {r:ea} {args:bp aT} {gs:dV},eU (aJ (az I C.B) w st.h rt fp) avs r->fB st.h S avs args->fi (iQ I' B' w') args r gs->∀a∈dc rt avs args gs,al (az I' C.B) w' a.2.1.1 a.2.2.1 a.2.1.2 a.2.2.2/\a.2.2.1=rt a.1/\a.1∈cY avs args/\∃i,ah st.h a.1=bn i/\a.2.1.1=i.1
 |[],r,args,gs,m,p,q,a,b=>by cases args<;>cases gs<;>cases b
 |x::j,r,[],gs,m,p,q,a,b=>by cases x<;>exact p.elim
 |x::j,[],e::t,gs,m,p,q,a,b=>m.elim
 |x::j,v::r,e::t,[],m,p,q,a,b=>q.elim
 |av::j,v::r,e::t,ad::gs,m,p,q,a,b=>by
  obtain⟨K,am⟩:=m;obtain⟨G,an⟩:=p;obtain⟨H,ap⟩:=q;have a0:=wQ z (S:=S) (avs:=j) (args:=t) (gs:=gs) am an ap;have f:a∈dc rt j t gs->al (az I' C.B) w' a.2.1.1 a.2.2.1 a.2.1.2 a.2.2.2/\a.2.2.1=rt a.1/\a.1∈cY (av::j) (e::t)/\∃i,ah st.h a.1=bn i/\a.2.1.1=i.1:=by
   intro b;obtain⟨N,O,aA,aH⟩:=a0 a b;refine⟨N,O,?_,aH⟩;cases av with
   |ref id g|view id g M J=>cases g<;>cases e<;>simp only[cY]<;>first|exact eJ _ aA|exact aA
   |_=>cases e<;>exact aA
  cases av with
  |ref id g=>
   cases g with
   |cons s g=>exact f (by cases e<;>exact b)
   |nil=>
    cases e with
    |v i|o i|c n d7|n|s cv a3|d d0 a bx|w bs j M J P=>exact f b
    |mg dl i d8=>
     simp only[dc,c2] at b;rcases b with rfl|b
     ·obtain⟨k,L,E⟩:=G;obtain⟨co,l,y⟩:=H;cases K with|ref u D=>
      rw[k] at u;cases u;obtain⟨rfl,rfl,rfl⟩:=cb.1 D;have:=Ei E (z.tree id _ k).1.len y.len l;subst this;exact⟨y.cK L,br,by simp[cY],i,k,br⟩
     grind
  |view id g M J=>
   cases g with
   |cons s g=>exact f (by cases e<;>exact b)
   |nil=>
    cases e with
    |w bs j a3 l P=>
     simp only[dc,c2] at b;rcases b with rfl|b
     ·obtain⟨k,⟨rfl,rfl⟩,L,E⟩:=G;obtain⟨e,o,R,l,ds,y⟩:=H;cases K with
      |fV=>omega
      |view u D N O aA=>
      rename_i d6 d9 d1 Q bl a4 T;rw[k] at u;cases u;obtain⟨ak,cs,V⟩:=cb.1 D;simp only[af.osl.injEq] at ak;subst ak;obtain⟨ce,ci,aH,_⟩:=(z.tree id _ k).1;have F:rt id=[.slice (bn ⟨Q,bl,bq⟩) a4 T]:=V;rw[aH] at F;simp only[eQ,cg,b2] at F;rw[a8 U] at l;simp only[cg,aV,cm,b2] at l;obtain⟨⟨d2,d3⟩,d4,d5⟩:=l;have:rt id=[.slice (bn ⟨e,o,bq⟩) j.length R]:=ab;refine⟨?_,br,by simp[cY],_,k,br⟩;show al (az I' C.B) w' (.osl _) (rt id) P ad;rw[this];exact y.cK E
     grind
    |_=>exact f b
  |_=>exact f (by cases e<;>exact b)
theorem wO {x:ei}:∀{as:bp ag} {r:bp aT} {j:ea} {f:dV},fB st.h x as r->fi (iQ I' B' w') r j f->((dc rt as r f).map (λz=>z.2.2.2)).flatten=f.flatten
 |[],[],j,f,g,e=>by cases j<;>cases f<;>first|rfl|exact e.elim
 |[],q::t,j,f,g,e=>g.elim
 |a::as,[],j,f,g,e=>by cases a<;>exact g.elim
 |a::as,q::t,[],f,g,e|a::as,q::t,v::j,[],g,e=>e.elim
 |a::as,q::t,v::j,l::f,g,e=>by
  have y:=wO (as:=as) g.2 e.2;have p:=g.1;have m:=e.1;rw[hA,<-y];cases q with
  |mg C u J=>
   cases a with
   |ref id b=>cases b with
    |nil=>grind [IY,dc]
    |cons=>exact p.elim
   |_=>exact p.elim
  |w L I F D K=>
   cases a with
   |view id b i k=>cases b with
    |nil=>grind [IY,dc]
    |cons=>exact p.elim
   |ref id b=>cases b<;>exact p.elim
   |_=>exact p.elim
  |v u=>
   have:l=[]:=m;subst this;cases a with
   |ref id b|view id b i k=>grind [dc]
   |_=>simp only[dc,fI]
  |o u=>
   have:l=[]:=m;subst this;cases a with
   |ref id b|view id b i k=>grind [dc]
   |_=>simp only[dc,fI]
  |n=>
   have:l=[]:=m;subst this;cases a with
   |ref id b|view id b i k=>grind [dc]
   |_=>simp only[dc,fI]
  |s B i=>
   have:l=[]:=m;subst this;cases a with
   |ref id b|view id b i k=>grind [dc]
   |_=>simp only[dc,fI]
  |d E G A=>
   have:l=[]:=m;subst this;cases a with
   |ref id b|view id b i k=>grind [dc]
   |_=>simp only[dc,fI]
  |c n H=>
   have:l=[]:=m;subst this;cases a with
   |ref id b|view id b i k=>grind [dc]
   |_=>simp only[dc,fI]
theorem xi {I:aW}:∀{f:bp aj} {c:ea} {b:dV},fi (lB I w) f c b->∃h:dT,h.length=f.length/\b.length=f.length/\c.length=f.length/\∀(e:bo) (t:aj) (d:ea) (a:ei) (g:Value),f[e]?=bn t->h[e]?=bn d->b[e]?=bn a->c[e]?=bn g->g=aN t.1 d/\al (az I (λ_=>bY)) w t.1 d t.2 a
 |[],c,b,a=>by cases c<;>cases b<;>first|exact⟨[],br,br,br,λe t d a g r=>by grind⟩|exact a.elim
 |t::i,[],b,a|t::i,g::c,[],a=>a.elim
 |t::i,g::c,p::b,a=>by obtain⟨⟨d,l,u⟩,j⟩:=a;obtain⟨h,v,x,y,s⟩:=xi j;refine⟨d::h,ab,ab,ab,λe z k q A ak m n o=>?_⟩;grind
theorem xl {m:bo} {n:bA}:∀{j:bo} {i:bp aj} {c:dT} {d:dV},c.length=i.length->d.length=i.length->∀a∈gD m n j i c d,∃e:bo,i[e]?=bn a.2.1/\c[e]?=bn a.2.2.1/\d[e]?=bn a.2.2.2
 |j,[],c,d,f,g,a,b=>by cases c<;>cases d<;>simp[gD] at b
 |j,k::h,[],d,f,g,a,b=>by cases f
 |j,k::h,l::c,[],f,g,a,b=>by cases g
 |j,k::h,l::c,q::d,f,g,a,b=>by
  simp only[gD] at b;have s:a∈gD m n (j+1) h c d->∃e,(k::h)[e]?=bn a.2.1/\(l::c)[e]?=bn a.2.2.1/\(q::d)[e]?=bn a.2.2.2:=λb=>(by obtain⟨e,ak,o,p⟩:=xl ab ab a b;exact⟨e+1,by rw[m2];exact ak,by rw[m2];exact o,by rw[m2];exact p⟩);cases r:k.1.pure
  ·rw[r] at b;simp only[cq,c2] at b;rcases b with rfl|b
   ·exact⟨0,br,br,br⟩
   grind
  grind
theorem xk {d:bo} {s:bA}:∀{j:bo} {res:bp aj} {cs:dT} {hs:dV},((gD d s j res cs hs).map (λe=>e.2.2.2)).flatten.Sublist hs.flatten
 |j,[],cs,hs=>by simp[gD]
 |j,b::a,[],hs=>by simp[gD]
 |j,b::a,c::cs,[]=>by simp[gD]
 |j,b::a,c::cs,f::hs=>by have g:=xk (d:=d) (s:=s) (j:=j+1) (res:=a) (cs:=cs) (hs:=hs);simp only[gD];grind
theorem tH (q:aK C st A w I rt fp) {y:ei} (p:∀a,C.B a->B' a) (E:∀id c,ah st.h id=bn c->a5 id y=bw->∀a∈fp id,B' a) {o:ag} {L:Value} (l:aJ (az I C.B) w st.h rt fp o L) {c:aj} (d:n4 st.h y o c):∃j,L=aN c.1 j/\al (az I B') w c.1 j c.2 []:=by
 cases o with
 |val x n=>
  have d:gX x n c.1 c.2:=d;cases l with|val S=>
  exact⟨_,d.st _,d.rep p S aa⟩
 |aS ap=>
  obtain⟨v,H⟩:=d;cases l;grind [i9]
 |ref id G=>
  obtain⟨r,K,x,n,e,u,g⟩:=d;cases l with|ref i k=>
  rw[e] at i;cases i;obtain⟨rfl,z,R,_,Q⟩:=q.fF e u k;exact⟨_,g.st _,g.rep p R (λa s=>E id _ e r a (Q a s))⟩
 |addr id G=>
  obtain⟨r,K,x,n,e,u,g⟩:=d;cases l with|addr i k=>
  rename_i an U a m j;rw[e] at i;cases i;obtain⟨v,H,_⟩:=q.tree id K e;obtain⟨am,V,z,J,M,D,ad,N,O,_⟩:=kW G (loc:=bq) v (λ_ _ b=>by cases b) H (λ_ _ b=>by cases b) (q.notM e) u;obtain⟨rfl,rfl,rfl⟩:=k.fM M;have F:∀f,f∈z\/f∈J->B' f:=λf t=>E id _ e r f (N.mem_iff.2 (fY.2 t));have s:a∈J:=by
   rcases O a m br with⟨_,b,_⟩|b
   ·cases b
   exact b
  obtain⟨tt,T⟩:=c;have g:gX (.opt 0 U) n tt T:=g;cases g with
  |same b _=>simp[aQ] at b
  |ptr b P=>
   refine⟨[.pointer (bn ⟨a,m,bq⟩)],br,br,a,m,j,br,.inr (F a (.inr s)),?_,?_,D.aG p b P (λf t=>F f (.inl t))⟩
   ·have:=D.len;grind [aQ.size]
   exact(k.at v.len (λ_ _ b=>by cases b)).2 a m br
 |_=>exact d.elim
mutual
theorem rl (j:aK C st A w I rt fp) {m:ei} (g:∀a,C.B a->B' a) (i:∀id K,ah st.h id=bn K->a5 id m=bw->∀a∈fp id,B' a):∀{n:ag} {d:af} {u:d.den},iq st.h m n d u->∀{t:Value},aJ (az I C.B) w st.h rt fp n t->∃e,t=aN d e/\al (az I B') w d e u []
 |_,_,_,.base k,_,b=>tH j g i b k
 |_,_,_,.c0 G k,_,b=>by
  cases b with|c0 E F L f=>
  rename_i l a;obtain⟨e,ak,p⟩:=rl j g i k f;obtain⟨o,y⟩:=iG.one G;have c:=p.len;rw[o] at c;obtain⟨x,rfl⟩:=kt.1 c;rw[y] at ak;have ak:l=x:=ak;subst ak;have D:a9 w a 0 [l]:=λr N q=>by
   cases r with
   |zero=>cases q;exact F
   |succ r=>cases q
  exact⟨[.pointer (bn ⟨a,0,bq⟩)],br,br,a,0,[l],br,E,o.symm,D,p⟩
 |_,_,_,.aR c,_,b=>by
  cases b with|aR z f=>
  rename_i s;exact⟨[.func (.func _) #[] s],br,br,s.toList,br,tU j g i c (oi (by simpa using z) (λH v a J M=>f H v a J ab))⟩
theorem tU (k:aK C st A w I rt fp) {f:ei} (i:∀b,C.B b->B' b) (j:∀id x,ah st.h id=bn x->a5 id f=bw->∀b∈fp id,B' b):∀{m:bp ag} {e:af} {n:e.den},mU st.h f m e n->∀{a:ea},eU (aJ (az I C.B) w st.h rt fp) m a->al (az I B') w e a n []
 |_,_,_,.nil,a,c=>by
  cases a with
  |nil=>exact⟨br,br⟩
  |cons=>exact c.elim
 |_,_,_,.cons v t u,a,c=>by
  cases a with
  |nil=>exact c.elim
  |cons y a=>
   obtain⟨q,r⟩:=c;obtain⟨z,ak,g⟩:=rl k i j t q;have s:=tU k i j u r;obtain⟨d,p⟩:=iG.one v;have l:=g.len;rw[d] at l;obtain⟨o,rfl⟩:=kt.1 l;rw[p] at ak;have ak:y=o:=ak;subst ak;exact⟨[],[],br,by rw[d];exact g,by rw[d];exact s⟩
end
def tZ (j:aK C st A w I rt fp) {d:ei} (g:∀b,C.B b->B' b) (i:∀id c,ah st.h id=bn c->a5 id d=bw->∀b∈fp id,B' b):∀{e:bp ag} {l:ea} {k:bp aj},eU (aJ (az I C.B) w st.h rt fp) e l->eU (λm c=>iq st.h d m c.1 c.2) e k->eU (n6 I B' w) k l
 |[],[],[],_,_=>trivial
 |[],_::_,_,a,_|_::_,[],_,a,_|[],_,_::_,_,a|_::_,_,[],_,a=>a.elim
 |_::_,_::_,_::_,a,f=>⟨rl j g i f.1 a.1,tZ j g i a.2 f.2⟩
theorem tK (u:aK C st A w I rt fp) {S:ei} (E:∀e,C.B e->B' e) (J:∀id r,ah st.h id=bn r->a5 id S=bw->∀e∈fp id,B' e):∀{G:bp ag} {z:ea} {args:bp aT},eU (aJ (az I C.B) w st.h rt fp) G z->fB st.h S G args->∃f,fi (jx I B' w) args z f/\f.flatten=((cY G args).map fp).flatten
 |[],z,args,k,j=>by cases args with
  |nil=>cases z with
   |nil=>exact⟨[],trivial,br⟩
   |cons=>exact k.elim
  |cons=>exact j.elim
 |x::i,z,[],k,j=>by cases x<;>exact j.elim
 |x::i,[],e::p,k,j=>k.elim
 |av::i,v::z,e::p,k,j=>by
  obtain⟨q,k⟩:=k;obtain⟨b,an⟩:=j;obtain⟨f,g,am⟩:=tK u E J k an;cases e with
  |v r=>
   have t:cY (av::i) (.v r::p)=cY i p:=by cases av<;>first|rfl|(rename_i id a;cases a<;>rfl)|(rename_i id a y t;cases a<;>rfl)
   have b:n4 st.h S av r:=(by cases av<;>exact b);exact⟨[]::f,⟨⟨br,tH u E J q b⟩,g⟩,ab⟩
  |s ad y=>
   have t:cY (av::i) (.s ad y::p)=cY i p:=by cases av<;>first|rfl|(rename_i id a;cases a<;>rfl)|(rename_i id a y t;cases a<;>rfl)
   exact⟨[]::f,⟨br,g⟩,ab⟩
  |d a4 bs F=>
   have t:cY (av::i) (.d a4 bs F::p)=cY i p:=by cases av<;>first|rfl|(rename_i id a;cases a<;>rfl)|(rename_i id a y t;cases a<;>rfl)
   exact⟨[]::f,⟨br,g⟩,ab⟩
  |n=>
   cases av with
   |aS T=>
    obtain rfl:T=.slice none 0 0:=b;cases q;exact⟨[]::f,⟨⟨br,br⟩,g⟩,by grind [cY]⟩
   |ref id a=>cases a<;>exact b.elim
   |_=>exact b.elim
  |c n d7=>
   cases av with
   |aR Q y=>
    obtain⟨rfl,b⟩:=b;cases q with|aR d0 ap=>
    rename_i bx;refine⟨[]::f,⟨⟨br,bx.toList,br,tZ u E J (oi U (λa3 F e g am=>ap a3 F e g ab)) b⟩,g⟩,by grind [cY]⟩
   |ref id a=>cases a<;>exact b.elim
   |_=>exact b.elim
  |w ce i d2 ds d9=>
   cases av with
   |view id a y t=>cases a with
    |nil=>
     obtain⟨m,⟨rfl,rfl⟩,K,bl⟩:=b;cases q with
     |fV=>omega
     |view l D d4 d5 aA=>
     rename_i d6 el d3 L R P M;rw[m] at l;cases l;obtain⟨ak,cv,V⟩:=cb.1 D;simp only[af.osl.injEq] at ak;subst ak;have O:=(u.tree id _ m).1;have H:rt id=[.slice (bn ⟨L,R,bq⟩) P M]:=V;have a0:=O;obtain⟨co,cs,aH,cP⟩:=a0;rw[aH] at H;simp only[eQ,cg,b2] at H;have d1:i.length=P:=H.2.1;refine⟨fp id::f,⟨⟨L,R,M,?_,⟨K,U,U⟩,?_⟩,g⟩,by grind [IY,cY]⟩
     ·rw[a8 U]
     have:=al.cK (τ:=.osl ce) (B':=B') bl O;grind
    |cons=>exact b.elim
   |ref id a=>cases a<;>exact b.elim
   |_=>exact b.elim
  |mg dl r d8=>
   cases av with
   |ref id a=>cases a with
    |nil=>
     obtain⟨m,K,_⟩:=b;cases q with|ref l D=>
     rw[m] at l;cases l;obtain⟨rfl,rfl,rfl⟩:=cb.1 D;exact⟨fp id::f,⟨⟨rt id,br,(u.tree id _ m).1.cK K⟩,g⟩,by grind [IY,cY]⟩
    |cons=>exact b.elim
   |_=>exact b.elim
  |o r=>
   cases av with
   |ref id a=>cases a with
    |nil=>
     have m:ah st.h id=bn r:=b;cases q with|ref l D=>
     rw[m] at l;cases l;obtain⟨rfl,rfl,rfl⟩:=cb.1 D;refine⟨fp id::f,⟨⟨rt id,br,(u.tree id _ m).1.mono (λQ e N=>⟨?_,b4 w e⟩) (λe _=>b4 w e)⟩,g⟩,by grind [IY,cY]⟩;cases Q
     ·exact N
     exact N.imp (λj=>j) (E e)
    |cons=>exact b.elim
   |aS T=>
    obtain⟨rfl,ci,rfl⟩:=b;cases q;exact⟨[]::f,⟨⟨[.slice bq 0 0],br,bq,0,br,.inl ⟨br,br,br,br⟩⟩,g⟩,by grind [cY]⟩
   |_=>exact b.elim
end
end
section
def g1 (d:bo) (st:aq) (c:bp ag) (b:bp aT) (a:bp aj):bA:=
 fA (cY c b)&&fA ((fH c b++fh d (fg a) 0 a).map (·.1))&&(fh d (fg a) 0 a).all λe=>(ah st.h e.1).isNone
section
variable {E:cG} {C:a6} {st:aq} {a:Act} {w w':bz} {I I':aW} {B':bo->Prop} {rt:bo->ea} {fp:bo->ei}
theorem vK {rt:bo->ea} {l:ei} {b:bp (bo×aj)}:∀{as:bp ag} {bs:bp aT} {gs:dV},fB b l as bs->gs.length=bs.length->∀id∈fR as bs,∃e∈dc rt as bs gs,e.1=id/\ah b id=bn ⟨e.2.1.1,(match ah b id with|some h=>if i:h.1=e.2.1.1 then i▸h.2 else e.2.1.2|none=>e.2.1.2)⟩
 |[],bs,gs,_,_,id,b=>by cases bs<;>cases b
 |a::as,[],gs,f,_,id,b=>by cases a<;>exact f.elim
 |a::as,c::bs,[],_,k,id,b=>by cases k
 |a::as,c::bs,n::gs,f,k,id,b=>by
  have d:=vK (rt:=rt) (as:=as) (bs:=bs) (gs:=gs) f.2 ab id;have j:=f.1;cases a with
  |ref m g=>cases g with
   |nil=>
    cases c with
    |mg o h t=>
     simp only[fR,c2] at b;simp only[dc];rcases b with rfl|b
     ·refine⟨_,jC ..,br,?_⟩;rw[j.1];simp
     grind
    |_=>exact d b
   |cons=>cases c<;>exact d b
  |view m g q i=>cases g with
   |nil=>
    cases c with
    |w v s r p u=>
     simp only[fR,c2] at b;simp only[dc];rcases b with rfl|b
     ·refine⟨_,jC ..,br,?_⟩;rw[j.1];simp
     grind
    |_=>exact d b
   |cons=>cases c<;>exact d b
  |_=>cases c<;>exact d b
theorem pu {e f g:Type} {h:e->f->g->Prop}:∀{as:bp e} {c:bp f} {d:bp g},fi h as c d->c.length=as.length/\d.length=as.length
 |[],c,d,b=>by cases c<;>cases d<;>first|exact⟨br,br⟩|exact b.elim
 |a::as,[],d,b|a::as,i::c,[],b=>b.elim
 |a::as,i::c,j::d,b=>by obtain⟨k,l⟩:=pu b.2;grind
theorem Bh {a:bp (bo×pf)} (c:((a.map λb=>b.2.2.2).flatten).Nodup):(∀b∈a,b.2.2.2.Nodup)/\∀d e g h,ah a d=bn g->ah a e=bn h->d≠e->∀j∈g.2.2,j∉h.2.2:=by
 induction a with
 |nil=>exact⟨aa,λd e g h c=>by cases c⟩
 |cons l a r=>
  obtain⟨z,l⟩:=l;simp only[fm,hA,gI] at c;obtain⟨s,m,t⟩:=c;obtain⟨i1,x⟩:=r m;refine⟨λb w=>?_,λd e g h o p v j u=>?_⟩
  ·grind
  rw[aU] at o p;have y:∀i f,ah a i=bn f->∀k∈f.2.2,k∈(a.map λb=>b.2.2.2).flatten:=λi f q k n=>gV.2 ⟨_,c9.2 ⟨(i,f),mi q,br⟩,n⟩;grind
def p8 {e:Type}:∀{c:bp (bo×e)},(c.map (·.1)).Nodup->∀{b:bo×e},b∈c->ah c b.1=bn b.2
 |[],_,b,a=>by cases a
 |(k,x)::c,d,b,a=>by
  simp only[fm,gW] at d;rw[aU];rcases c2.1 a with rfl|a
  ·rw[bc br]
  rw[a8 (λf=>d.1 ab)];exact p8 d.2 a
theorem xf {e:bo} {g:bA}:∀{j:bo} {f:bp aj} {a:bo} {c:ag},(mC e g j f)[a]?=bn c->∃b,f[a]?=bn b/\c=(bif b.1.pure then .val b.1 b.2 else .ref (kb e g (j+a)) [])
 |j,[],a,c,d=>by grind [mC]
 |j,b::k,a,c,d=>by
  simp only[mC] at d;cases a with
  |zero=>grind
  |succ a=>
   obtain⟨l,h,i⟩:=xf (by simpa using d);grind
theorem xg {b:bo} {c:bA}:∀{j:bo} {a:bp aj},(mC b c j a).length=a.length
 |j,[]=>rfl
 |j,e::d=>by simp[mC,xg]
theorem xm {d:bo} {s:bA}:∀{j:bo} {res:bp aj} {cs:dT} {hs:dV},cs.length=res.length->hs.length=res.length->∀(a:bo) b c e,res[a]?=bn b->cs[a]?=bn c->hs[a]?=bn e->b.1.pure=bw->(kb d s (j+a),(b,c,e))∈gD d s j res cs hs
 |j,[],cs,hs,_,_,a,b,c,e,ak,_,_,_=>by grind
 |j,b::f,[],hs,g,_,_,_,_,_,_,_,_,_=>by cases g
 |j,b::f,c::cs,[],_,h,_,_,_,_,_,_,_,_=>by cases h
 |j,b::f,c::cs,e::hs,g,h,a,m,i,k,ak,n,o,l=>by
  simp only[gD];cases a with
  |zero=>
   grind
  |succ a=>
   have:=xm (d:=d) (s:=s) (j:=j+1) (res:=f) (cs:=cs) (hs:=hs) ab ab a m i k ab ab ab l;grind
end
section
variable {E:cG} {C:a6} {st:aq} {A:bN bJ} {Q:aq->Prop}
theorem xF {i:bp (bo×aj)} {j:ei}:∀{as:bp ag} {bs:bp aT},fB i j as bs->∀id∈cY as bs,∃h,ah i id=bn h
 |[],bs,_,id,b=>by cases bs<;>cases b
 |a::as,[],e,id,b=>by cases a<;>exact e.elim
 |a::as,c::bs,e,id,b=>by
  have d:=xF (as:=as) (bs:=bs) e.2 id;have f:=e.1;cases a with
  |ref k g=>cases g with
   |nil=>
    cases c with
    |mg m h s=>
     simp only[cY,c2] at b;rcases b with rfl|b
     ·exact⟨_,f.1⟩
     grind
    |o h=>
     simp only[cY,c2] at b;rcases b with rfl|b
     ·exact⟨_,f⟩
     grind
    |_=>exact d b
   |cons=>cases c<;>exact d b
  |view k g p l=>cases g with
   |nil=>
    cases c with
    |w u r q n t=>
     simp only[cY,c2] at b;rcases b with rfl|b
     ·exact⟨_,f.1⟩
     grind
    |_=>exact d b
   |cons=>cases c<;>exact d b
  |_=>cases c<;>exact d b
theorem sJ {s:dY} {w:bz} {I:aW} {rt:bo->ea} {fp:bo->ei} (e:aK C st s w I rt fp):∀{a:ei},(∀id∈a,∃b,ah st.h id=bn b)->a.Nodup->((a.map fp).flatten).Nodup
 |[],_,_=>by simp
 |id::a,d,f=>by rw[gW] at f;simp only[fm,hA,gI];obtain⟨b,g⟩:=d id aa;refine⟨(e.tree id b g).2.1,sJ e (λq u=>d q ab) f.2,λj m t n c=>?_⟩;subst c;obtain⟨v,k,l⟩:=gV.1 n;obtain⟨i,o,rfl⟩:=c9.1 k;obtain⟨r,p⟩:=d i ab;exact e.dis id i b r g p (λc=>f.1 (c▸o)) j m l
def x2 (e:aZ) (w:bz) (c:bo) (b:bp aj) (f:bo->ea) (g:Value):Prop:=
 ∀(d:bp (bo×aj)) (rt:bo->ea) (fp:bo->ei),(∀a∈fh c (fg b) 0 b,ah d a.1=bn a.2/\rt a.1=f a.1)->aJ e w d rt fp (ll c b) g
def aK.glob {E:cG} {C:a6} {st:aq} {f:dY} {w:bz} {I:aW} {rt:bo->ea} {fp:bo->ei} (b:aK C st f w I rt fp) (d:∀a,C.I0 a\/C.B a->a<C.w0.heap.size/\¬C.F0 a) (e:gu E C.I0 C.w0):gu E I w:=
 e.mono b.i0 λa c=>b.frame a (d a (.inl c)).1 (d a (.inl c)).2
theorem aK.call {C:a6} {st:aq} {ii:dY} {w:bz} {I:aW} {rt:bo->ea} {fp:bo->ei} (G:aK C st ii w I rt fp) {n ci:bo} {J:ea} (ds:eU (aJ (az I C.B) w st.h rt fp) c J) {m:bp aT} {k:bp aj} (fT:jz E ci m k) (V:fB st.h (cY c m) c m) (a4:g1 n st c m k=bu) (go:∀F:dV,(∀f∈F.flatten,∃id e,ah st.h id=bn e/\f∈fp id)->tm w J F (ha 0 m)) (fs:gu E I w) (f1:kn w m J):Calls E.P ci (gS m J).toArray w (λO w'=>∃I' H R q,O=.returned (ih q)/\kn w' m J/\hE C st w w' I I' rt fp (cY c m) (k2 (fR c m)) (fH c m++fh n (fg k) 0 k) H R/\x2 (az I' C.B) w' n k H (ih q)):=by
 simp only[g1,aC,cX] at a4;obtain⟨⟨d0,d1⟩,l2⟩:=a4;have d0:=fA.ok d0;have d1:=fA.ok d1
 let u:=cY c m
 let B':bo->Prop:=λf=>C.B f\/∃id e,ah st.h id=bn e/\a5 id u=bw/\f∈fp id
 have ex:∀f,C.B f->B' f:=λf l=>.inl l;have fn:∀id e,ah st.h id=bn e->a5 id u=bw->∀f∈fp id,B' f:=λid e x o f l=>.inr ⟨id,e,x,o,l⟩;obtain⟨F,f3,kg⟩:=tK G (B':=B') (S:=u) ex fn (args:=m) ds V;have mg:∀id∈u,∃e,ah st.h id=bn e:=λid v=>xF V id v;have ad:∀f∈F.flatten,∃id∈u,∃e,ah st.h id=bn e/\f∈fp id:=ab;have f4:F.flatten.Nodup:=(by grind [sJ]);have f0:=fT w I B' J F (λf l=>by
  rcases l with l|l|⟨id,e,x,_,l⟩
  ·exact G.ib f (.inl l)
  ·exact G.ib f (.inr l)
  ·exact((G.tree id e x).2.2 f l).2.2.1) f3 f4 (λf l=>by
  obtain⟨id,v,e,x,a0⟩:=ad f l;obtain⟨U,d8,aA,aH⟩:=(G.tree id e x).2.2 f a0;refine⟨U,?_,aA⟩;rintro(z|⟨d6,an,gt,o,fz⟩)
  ·grind
  ·have gf:id≠d6:=λO=>(by grind [ey]);exact G.dis id d6 e an x gt gf f a0 fz) (go F λf l=>by
  grind) fs f1
 refine f0.mono ?_;rintro O w' ⟨I',D,A,q,rfl,p⟩;obtain⟨K,bl,bs,mo,d4⟩:=xi p.res;have f5:=(pu p.args).2;have dl:fB st.h u c m:=V
 let L:bp (bo×pf):=dc rt c m D++gD n (fg k) 0 k K A
 have i3:L.map (λb=>(b.1,b.2.1))=fH c m++fh n (fg k) 0 k:=(by grind [wP,qw]);have cv:(L.map (·.1)).Nodup:=ab;have lb:((dc rt c m D).map (λb=>b.2.2.2)).flatten=D.flatten:=wO dl p.args;have lk:((gD n (fg k) 0 k K A).map (λb=>b.2.2.2)).flatten.Sublist A.flatten:=xk;have cs:((L.map λb=>b.2.2.2).flatten).Sublist (D.flatten++A.flatten):=ab;obtain⟨i8,it⟩:=Bh (p.nJ.sublist cs);have gh:∀b∈dc rt c m D,al (az I' C.B) w' b.2.1.1 b.2.2.1 b.2.1.2 b.2.2.2/\b.2.2.1=rt b.1/\b.1∈u/\∃e,ah st.h b.1=bn e/\b.2.1.1=e.1:=(by exact wQ G (S:=u) (args:=m) (gs:=D) ds V p.args);have fx:∀b∈L,al (az I' C.B) w' b.2.1.1 b.2.2.1 b.2.1.2 b.2.2.2/\(b.1∈u\/ah st.h b.1=bq):=by
  intro b y;rcases fY.1 y with y|y
  ·grind
  obtain⟨g,ak,Q,ap⟩:=xl bl bs b y;have f9:g<q.length:=ab;obtain⟨_,T⟩:=d4 g _ _ _ q[g] ak Q ap aa;refine⟨T.mono (λbx f o=>⟨?_,b4 _ _⟩) (λf _=>b4 _ _),.inr ?_⟩
  ·cases bx
   ·exact o
   exact o.elim .inl (λz=>z.elim)
  have o:(b.1,b.2.1)∈fh n (fg k) 0 k:=(by grind [qw]);grind [Option.isNone_iff_eq_none]
 have ft:∀b∈L,∀f∈b.2.2.2,f∈D.flatten++A.flatten:=λb y f l=>cs.subset (gV.2 ⟨_,c9.2 ⟨b,y,br⟩,l⟩);have d2:∀g,ah (fH c m++fh n (fg k) 0 k) g=(ah L g).map (·.1):=λg=>by grind [vY]
 let H:bo->ea:=λg=>match ah L g with|some b=>b.2.1|none=>[]
 let R:bo->ei:=λg=>match ah L g with|some b=>b.2.2|none=>[]
 have hp:hE C st w w' I I' rt fp u (k2 (fR c m)) (fH c m++fh n (fg k) 0 k) H R:=
  ⟨p.size,p.os,p.tape,p.output,λf l jp=>p.heap f l (λf2=>by obtain⟨id,v,e,x,a0⟩:=ad f f2;grind),p.evo,p.i,(λf l=>by
    rcases p.i2 f l with z|⟨M,N|N⟩
    ·grind
    ·omega
    exact .inr ⟨M,.inr (ad f N)⟩),
   (λid e v=>by
    rw[d2] at v;cases av:ah L id with
    |none=>grind
    |some b=>
     rw[av] at v;obtain rfl:b.1=e:=c6 v;have o:=mi av;obtain⟨M,N⟩:=fx _ o;refine⟨N,ab,ab,λf l=>?_⟩;simp only[R,av] at l;obtain⟨U,d8,aA,aH⟩:=p.tR f (ft _ o f l);exact⟨U,aA,aH.imp (λz=>z) (ad f)⟩),
   (λam d9 e ne f7 f8 lt f l=>by
    rw[d2] at f7 f8;cases i0:ah L am with
    |none=>grind
    |some mp=>
     cases i1:ah L d9 with
     |none=>grind
     |some mt=>
      grind),
   (λel a3 e x=>by
    obtain⟨id,v,rfl⟩:=c9.1 a3;obtain⟨b,y,O,_⟩:=vK (rt:=rt) dl f5 id v;subst O;have o:b∈L:=kv _ y;have mc:=p8 cv o;obtain⟨_,N,_,an,co,eq⟩:=gh b y;rw[x] at co;obtain rfl:=c6 co;exact⟨b.2.1,ab,eq,ab,⟨e.1,by cases e.1<;>rfl⟩,λb _ _ _ a4=>by grind [p0]⟩),
   (λel a3 e x b _ _ _ _ _ kd=>by
    obtain⟨id,v,rfl⟩:=c9.1 a3;grind [lW]),p.le⟩
 refine⟨I',H,R,q,br,p.zf,hp,λM hs em f6=>?_⟩;have d7:∀(g:bo) (e:aj) (r:Value),k[g]?=bn e->q[g]?=bn r->aJ (az I' C.B) w' M hs em (bif e.1.pure then .val e.1 e.2 else .ref (kb n (fg k) (0+g)) []) r:=by
  intro g e r ak Q;have f9:g<k.length:=(e5.1 ak).1;obtain⟨ap,T⟩:=d4 g e K[g] A[g] r ak aa aa Q;subst ap;cases d3:e.1.pure with
  |true=>
   simp only[bK];have:=T.pure d3;rw[this] at T;refine .val (T.mono (λbx f o=>⟨?_,b4 _ _⟩) aa);cases bx
   ·exact o
   exact o.elim .inl (λz=>z.elim)
  |false=>
   simp only[cq];have gc:=xm (d:=n) (s:=fg k) (j:=0) bl bs g e K[g] A[g] ak aa aa d3;have o:(kb n (fg k) (0+g),(e,K[g],A[g]))∈L:=jB _ gc;have ge:(kb n (fg k) (0+g),e)∈fh n (fg k) 0 k:=(by rw[<-qw (d:=n) (s:=fg k) (j:=0) bl bs];grind);obtain⟨U,d8⟩:=f6 _ ge;refine .ref (t:=e) (loc:=bq) U ?_;have is:H (kb n (fg k) (0+g))=K[g]:=(by simp only[H,p8 cv o]);grind [HZ]
 cases d5:k with
 |nil=>
  have:q=[]:=ko ab;subst this;exact .bb (vs:=#[]) rfl (λam a r z=>by grind)
 |cons e ce=>
  cases ce with
  |nil=>
   obtain⟨r,rfl⟩:∃r,q=[r]:=kt.1 ab;have:=d7 0 e r ab br;rw[d5] at this;exact this
  |cons ic ce=>
   have gl:ih q=.tuple q.toArray:=by
    have:q.length=(e::ic::ce).length:=by grind
    match q,this with
    |v1::no::nd,_=>rfl
   rw[gl];refine .bb (by grind [xg]) (λam io r M N=>?_);obtain⟨an,ak,Q⟩:=xf M;have:=d7 am an r ab ab;rw[d5] at this;rw[Q];exact this
theorem xn {a:bo} {e:bA} {d:bp aj} (f:((b++fh a e 0 d).map (·.1)).Nodup):∀c∈fh a e 0 d,ah (b++fh a e 0 d) c.1=bn c.2:=
 λc g=>p8 f (jB _ g)
def mI:ax->ax->bA
 |.idx a,.idx b=>bB a b
 |.deref,.deref|.unn,.unn|.unst,.unst|.fst,.fst|.snd,.snd=>bu
 |_,_=>bw
theorem mI.ok {a b:ax} (c:mI a b=bu):a=b:=by cases a<;>cases b<;>first|rfl|(cases c;done)|(rw[a7 c])
def g8:bp ax->bp ax->bA
 |[],[]=>bu
 |a::c,b::d=>mI a b&&g8 c d
 |_,_=>bw
theorem g8.ok:∀{c d:bp ax},g8 c d=bu->c=d
 |[],[],_=>rfl
 |[],_::_,b|_::_,[],b=>by cases b
 |a::c,e::d,b=>by simp only[g8,aC] at b;rw[mI.ok b.1,g8.ok b.2]
def gZ:ag->ag->bA
 |.ref a c,.ref b d|.addr a c,.addr b d=>bB a b&&g8 c d
 |_,_=>bw
theorem gZ.ok {a b:ag} (c:gZ a b=bu):a=b:=by cases a<;>cases b<;>first|(cases c;done)|(simp only[gZ,aC] at c;grind [et,g8.ok])
def hn:af->bA
 |.opt (_+1) _=>bu
 |_=>bw
def kO (c:bp ag) (b:bp aT):bp aT->bp ag->bA
 |.d f g a::as,i::e=>(match b[f]?,c[f]? with
  |some (.mg bu h _),bn (.ref id [])=>hn h.1&&gZ i (bif a then .addr id g else .ref id g)
  |_,_=>bw)&&kO c b as e
 |_::as,_::e=>kO c b as e
 |_,_=>bu
def oG (b:bp ag) (a:bp aT):bA:=kO b a a b
def rN {n:bp ag} {m:bp aT}:∀{as:bp aT} {g:bp ag} {j e:bo} {f:bp ax} {a:bA} {l:ag},kO n m as g=bu->as[j]?=bn (.d e f a)->g[j]?=bn l->∃k o id,m[e]?=bn (.mg bu k o)/\n[e]?=bn (.ref id [])/\hn k.1=bu/\l=bif a then .addr id f else .ref id f
 |[],_,j,_,_,_,_,_,c,_=>by simp at c
 |_::_,[],_,_,_,_,_,_,_,c=>by simp at c
 |b::as,r::g,0,e,f,a,l,c,h,i=>by
  simp only[fe,aV] at h i;subst h i;simp only[kO,aC] at c;obtain⟨c,_⟩:=c;split at c
  ·rename_i k o id ak p;rw[aC] at c;exact⟨k,o,id,ak,p,c.1,gZ.ok c.2⟩
  cases c
 |b::as,r::g,j+1,e,f,a,l,c,h,i=>by
  have q:kO n m as g=bu:=by cases b<;>first|exact c|(simp only[kO,aC] at c;exact c.2)
  exact rN q (by simpa using h) (by simpa using i)
def oh {g j:Type} {h:g->j->Prop}:∀{as:bp g} {d:bp j} {f:bo} {a:g},eU h as d->as[f]?=bn a->∃c,d[f]?=bn c/\h a c
 |[],_,_,_,_,b=>by simp at b
 |_::_,[],_,_,b,_=>b.elim
 |x::as,i::d,0,a,b,e=>by simp only[fe,aV] at e;subst e;exact⟨i,br,b.1⟩
 |x::as,i::d,f+1,a,b,e=>by obtain⟨c,k,l⟩:=oh b.2 (by simpa using e);exact⟨c,by simpa using k,l⟩
def al.tb {b:aZ} {w:bz} {a:af} {g:a.den} {c:ei} (e:hn a=bu) (f:al b w a d g c):d=[aN a d]:=by
 cases a with
 |opt i k=>
  obtain⟨h,j,_,_,rfl,_⟩:=f;rfl
 |_=>cases e
def zg {C:a6} {st:aq} {J:dY} {w:bz} {I:aW} {rt:bo->ea} {fp:bo->ei} (z:aK C st J w I rt fp) {j:bp aT} (E:c.length=j.length) (e:eU (aJ (az I C.B) w st.h rt fp) c d) (D:oG c j=bu) {p:ei} (A:fB st.h p c j):kn w j d:=by
 intro H N O a r;have s:H<c.length:=(by rw[E];exact(e5.1 r).1);obtain⟨m,v,id,ak,q,x,y⟩:=rN D r (fq s);obtain⟨u,K,L⟩:=oh e q;obtain⟨P,t,o⟩:=oh e (fq s);have l:ah st.h id=bn m:=by
  have:∀{as:bp ag} {f:bp aT} {g:bo},fB st.h p as f->as[g]?=bn (.ref id [])->f[g]?=bn (.mg bu m v)->ah st.h id=bn m:=by
   intro as
   induction as with
   |nil=>intro f g _ k;simp at k
   |cons Q as G=>
    intro f g k n e;cases f with
    |nil=>simp at e
    |cons M f=>
     cases g with
     |zero=>
      simp only[fe,aV] at n e;subst n e;exact k.1.1
     |succ g=>exact G k.2 (by simpa using n) (by simpa using e)
  exact this A q ak
 refine⟨m,v,u,ak,K,?_⟩;have F:rt id=[u]:=by
  cases L with|ref b i=>
  rw[l] at b;cases b;obtain⟨rfl,_,rfl⟩:=cb.1 i;exact al.tb x (z.tree id _ l).1
 rw[y] at o;rw[<-F];cases a with
 |false=>
  cases o with|ref b i=>
  rw[l] at b;cases b;exact⟨_,_,_,_,i,t,br⟩
 |true=>
  cases o with|addr b i=>
  rw[l] at b;cases b;exact⟨_,_,_,_,i,t,_,_,br,br⟩
def vr {C:a6} {st:aq} {k:dY} {w:bz} {I:aW} {rt:bo->ea} {fp:bo->ei} (f:aK C st k w I rt fp):∀{gh:bp ag},(∀a∈gh,∃id c,a=.ref id []/\ah st.h id=bn c)->∃b,eU (aJ (az I C.B) w st.h rt fp) gh b
 |[],_=>⟨[],trivial⟩
 |a::gh,d=>by obtain⟨id,c,rfl,j⟩:=d a (jC ..);obtain⟨b,i⟩:=vr f (gh:=gh) (λe g=>d e (eJ _ g));exact⟨aN c.1 (rt id)::b,.ref (loc:=bq) j HZ,i⟩
def pP:bp ax->bA
 |[]=>bu
 |.unst::a|.fst::a|.snd::a=>pP a
 |_=>bw
def ar.flat {w w2:bz}:∀{p:bp ax} {a e:af} {c d:Loc} {f g cs2:ea},pP p=bu->ar w a c f p e d g->∃i,ar w2 a c cs2 p e d i
 |[],a,e,c,d,f,g,cs2,_,b=>by obtain⟨rfl,rfl,_⟩:=cb.1 b;exact⟨cs2,HZ⟩
 |s::p,a,e,c,d,f,g,cs2,h,b=>by
  cases s<;>first|(cases h;done)|skip
  all_goals
   cases a<;>first|(exact b.elim)|skip
   exact ar.flat (p:=p) h b
def mX (e:bp ag) (c:bp aT) (h:ag):Prop:=
 (∃(f a:bo) (i:bp ax),c[f]?=bn (aT.d a i bw)/\e[f]?=bn h)\/∃(a id:bo) (b:aj) (j:b.1.den) (g:bp ax),e[a]?=bn (ag.ref id [])/\c[a]?=bn (aT.mg bu b j)/\hn b.1=bu/\h=ag.addr id (.deref::g)/\pP g=bu
def Ag {a:ag} {c:aT} {as:bp ag} {e:bp aT} {id:bo} (b:id∈fR as e):id∈fR (a::as) (c::e):=by
 cases a with
 |ref f d=>
  cases d with
  |nil=>cases c<;>first|exact b|exact eJ _ b
  |cons g d=>cases c<;>exact b
 |view f d i h=>
  cases d with
  |nil=>cases c<;>first|exact b|exact eJ _ b
  |cons g d=>cases c<;>exact b
 |_=>cases c<;>exact b
def vL:∀{c:bp ag} {b:bp aT} {k id:bo} {g:bA} {f:aj} {i:f.1.den},c[k]?=bn (.ref id [])->b[k]?=bn (.mg g f i)->id∈fR c b
 |[],_,k,id,_,_,_,h,_=>by simp at h
 |_::_,[],k,id,_,_,_,_,h=>by simp at h
 |a::c,j::b,0,id,g,f,i,d,e=>by simp only[fe,aV] at d e;subst d e;exact jC ..
 |a::c,j::b,k+1,id,g,f,i,d,e=>Ag (vL (k:=k) (by simpa using d) (by simpa using e))
def fB.mg {a:bp (bo×aj)} {i:ei}:∀{as:bp ag} {b:bp aT} {c id:bo} {f:bA} {d:aj} {h:d.1.den},fB a i as b->as[c]?=bn (.ref id [])->b[c]?=bn (.mg f d h)->ah a id=bn d:=by
 intro as
 induction as with
 |nil=>intro b c id f d h _ a;simp at a
 |cons l as j=>
  intro b c id f d h a g e;cases b with
  |nil=>simp at e
  |cons k b=>
   cases c with
   |zero=>
    simp only[fe,aV] at g e;subst g e;exact a.1.1
   |succ c=>exact j a.2 (by simpa using g) (by simpa using e)
theorem Ae {C:a6} {st:aq} {fT:dY} {w w':bz} {I I':aW} {rt l:bo->ea} {fp D:bo->ei} (d1:aK C st fT w I rt fp) {f:bp aT} (R:eU (aJ (az I C.B) w st.h rt fp) c d) (d3:oG c f=bu) {p:ei} (d2:fB st.h p c f) (f8:c.length=f.length) (U:hE C st w w' I I' rt fp p (k2 (fR c f)) b l D) (d4:kn w' f d) {v:ag} {J:Value} (V:aJ (az I C.B) w st.h rt fp v J) (d6:mX c f v):aJ (az I' C.B) w' (b++del p st.h) (bg b l rt) (bg b D fp) v J:=by
 have a0:∀{k id:bo} {a:aj} {x:a.1.den},c[k]?=bn (.ref id [])->f[k]?=bn (.mg bu a x)->ah st.h id=bn a/\∃e,ah (b++del p st.h) id=bn e/\e.1=a.1/\bg b l rt id=rt id/\ah b id=bn e/\l id=rt id:=(by intro k id a x q r;have g:=d2.mg q r;obtain⟨e,F,ex,am,_⟩:=U.keep (id,[]) (c9.2 ⟨id,vL q r,br⟩) a g;refine⟨g,e,by rw[fS,F];rfl,ex,?_,F,am⟩;simp only[bg,F];exact am);rcases d6 with⟨eq,k,av,S,ad⟩|⟨k,id,a,x,ap,q,r,Q,rfl,d5⟩
 ·obtain⟨a,x,id,ak,P,dl,A⟩:=rN d3 S ad;have A:v=.ref id av:=A;subst A;obtain⟨g,e,G,o,H,_⟩:=a0 P ak;obtain⟨gc,go,f1,M,N,m,bs,ci,a3,co,cv,y⟩:=d4 eq k av bw S;rw[ak] at M;cases M;have y:a3=aN m ci:=y;obtain⟨gl,f2,f3⟩:=oh R P;rw[f2] at N;cases N;have el:rt id=[f1]:=by
   cases f3 with|ref T d7=>
   rw[g] at T;cases T;obtain⟨rfl,_,rfl⟩:=cb.1 d7;exact al.tb dl (d1.tree id _ g).1
  obtain⟨gh,a4,f0⟩:=oh R ad;rw[cv] at a4;cases a4;have em:J=a3:=by
   cases V with|ref t n=>
   cases f0 with|ref u d8=>
   rw[t] at u;cases u;obtain⟨rfl,_,rfl⟩:=n.fM d8;rfl
  rw[em,y];refine .ref G (loc:=bs) ?_;rw[o,H,el];exact co
 obtain⟨g,e,G,o,H,fn,fs⟩:=a0 q r;cases V with|addr t n=>
 rename_i ge m K an bl;rw[g] at t;cases t;obtain⟨s,_⟩:=(U.tree id e fn).2;obtain⟨i,j,z⟩:∃i j,a.1=.opt i j:=by cases u:a.1<;>rw[u] at Q<;>first|exact⟨_,_,br⟩|cases Q
 obtain⟨tt,gf⟩:=a;have z:tt=.opt i j:=z;subst z;have n:ar w (.opt i j) bq (rt id) (.deref::ap) m (bn (K,an)) bl:=n;obtain⟨bx,ft,f5,L,_,_,ce⟩:=n;obtain⟨fx,fz⟩:=e;have o:fx=.opt i j:=o;subst o;have s:al (az I' C.B) w' (.opt i j) (l id) fz (D id):=s;rw[fs] at s;obtain⟨f4,f9,f6,O,E,_,ds,d0,f7,_⟩:=s;rw[L] at E;simp only[eQ,es,aV,cm,b2] at E;obtain⟨rfl,rfl⟩:=E;obtain⟨cs2,d9⟩:=ce.flat (w2:=w') (cs2:=O) d5;refine .addr G (cs:=cs2) (τ':=m) ?_;show ar w' (.opt i j) bq (bg b l rt id) (.deref::ap) m (bn (K,an)) cs2;rw[H];refine⟨bx,ft,O,L,?_,?_,d9⟩
 ·first|exact ds|grind
 first|exact d0|grind
theorem ba.call {Q:aq->Prop} {f k:bo} {q:bJ} {m:bH} {c gh:bp ag} {b N:bN _} (bl:q.op=.call {callee:=.value m,args:=b,argTypes:=N}) (co:aw st.g m=.aR k c) (ad:q.dst=bn f) (an:C.ok f) (d5:∀(M:dY) (w:bz),(H0 k M).run E.P w=.ok (.enter k M) w) {e:bp aT} {r:bp aj} (V:jz E k e r) (ce:ha 0 e=bq) (R:∀o,C.I0 o\/C.B o->o<C.w0.heap.size/\¬C.F0 o) (S:gu E C.I0 C.w0) (a0:∀a∈gh,∃id ds,a=.ref id []/\ah st.h id=bn ds) (d9:jn e=b.size+c.length) (A:oG (b.toList.map (aw st.g)++c++gh) e=bu) (p:fB st.h (cY (b.toList.map (aw st.g)++c++gh) e) (b.toList.map (aw st.g)++c++gh) e) (D:g1 f st (b.toList.map (aw st.g)++c++gh) e r=bu) {L:bp (bo×ag)} (T:∀d∈L,d.1≠f/\gt st.g d.1=d.2/\mX (b.toList.map (aw st.g)++c++gh) e d.2) (n:Q ⟨L++(rk f st (b.toList.map (aw st.g)++c++gh) e r).g,(rk f st (b.toList.map (aw st.g)++c++gh) e r).h⟩):ba E C q st Q:=by
 rintro a w ⟨I,rt,fp,i⟩ next d0 a4
 obtain⟨l,ci,y⟩:∃l:dY,a.eval m=.func (.func k) #[] l/\eU (aJ (az I C.B) w st.h rt fp) c l.toList:=by
  have t:=i.aw m;rw[co] at t;generalize el:a.eval m=eq at t;cases t with|aR d7 d6=>
  grind [oi]
 have U:eU (aJ (az I C.B) w st.h rt fp) (b.toList.map (aw st.g)++c) (b.toList.map a.eval++l.toList):=pq (q5 (λm=>i.aw m) _) y;obtain⟨d3,a3⟩:=vr i a0;have s:=pq U a3;have G:∀{v:ei} {as:bp ag} {j:bp aT},fB st.h v as j->as.length=j.length:=by
  intro v as
  induction as with
  |nil=>intro j n;cases j with|nil=>rfl|cons=>exact n.elim
  |cons a as cs=>intro j n;cases j with|nil=>cases a<;>exact n.elim|cons o j=>simp[cs n.2]
 have z:=i.call s V p D (λ_ _=>by rw[ce];trivial) (i.glob R S) (zg i (G p) s A p);rw[s2 (by have:=pt y;simp only[pe,jA,Array.length_toList] at this|-;omega)] at z;generalize d4:b.toList.map (aw st.g)++c++gh=d1 at*;have bx:(bF a.eval q).run E.P w=.ok (.enter k (b.toList.map a.eval++l.toList).toArray) w:=(by have ak:b.map a.eval=(b.toList.map a.eval).toArray:=ab;have O:(b.toList.map a.eval++l.toList).toArray=(b.toList.map a.eval).toArray++l:=aa;rw[O];simp only[bF,bl,en,ak,bP,ci,Deferred.ofValue,b9,bT,invoke,Array.empty_append,Array.append_empty];grind);unfold cc;rw[bx];show Calls E.P k _ w _;refine z.mono ?_;rintro x w' ⟨I',em,d2,u,rfl,am,K,bs⟩;show next (a.put q.dst (ih u)) w'
 rw[ad];have F:=D;simp only[g1,aC] at F;have d8:=fA.ok F.1.2;have ap:=(i.il K).put an (av:=ll f r) (bs _ _ _ (λd J=>by grind [fS,xn,bg]));refine a4 _ _ _ n br ⟨I',_,_,ap.tags (L:=L) (λd J=>?_)⟩;obtain⟨cv,dl,aA⟩:=T d J;have H:=i.tmp d.1;rw[dl] at H;have x:(a.put (bn f) (ih u)).tmps.getD d.1 bL=a.tmps.getD d.1 undef:=(by show(a.tmps.setIfInBounds f (ih u)).getD d.1 bL=_;simp[Array.getElem?_setIfInBounds_ne (Ne.symm cv)]);exact x▸Ae i s A p (G p) K am H aA
end
end
end Go.gG
end
