/-
  Parts of the proof: Fw22, Fw23, Fw26, Fw27, Fw28, Fw34, Fw35, Fw37, Fw42, Fw24, Fw29, Fw31, Fw32, Fw33, Fw48, Fw39, Fw49, Fw30, Fw25, Fw36, Fw46, Fw47, Pl1, Fs: the framework (Fw), pure forms (Dn), plain laws (Pl, Th), calls of functions (Ok).
-/
import Derived.Laws.StructEq
import Derived.ProofKit
import Derived.Handed
import Derived.KernelRfl
import Derived.Test.YtnndjinceoekdaaGreatDoorBa4777442

set_option linter.all false
set_option maxHeartbeats 1000000
open _root_ renaming Nat->X,List->bp,Array->bX,Int->Z,Option->bA,False->b7,rfl->bq,and_true->cf,Unit->bw,Bool->bD,cond_true->bI,if_true->cp,cond_false->bR,congrArg->b4,of_decide_eq_true->amF,decide_eq_true->alc
open Go renaming TypeId->bN,Oper->bU,Exit->ca,World->bH,Operand->bS,Program->b3,ResultVar->alk,undef->bZ,Code->cA,callFunc->amo,IntKind->cD,execOp->bT,Field->aly,sizeOf->alY,zeroValue->alL,typeInfo->alN,run_underlying->cz,newRow->alU,MapEntry->alg,binOp->alK,getD_set_ne->aoL,MemPlace->amG
open Option renaming none->bv,some->Y,bind->bE,bind_eq_some_iff->amp,map_eq_some_iff->apD
open Bool renaming true->bt,false->br,and_true->anP,false_and->aoA
open Go.l0.eF renaming refl->ald,of_heap->aoy
open Go.l0.a8 renaming here->anN,gY->alE
open Option.some renaming injEq->amD,inj->al6
open List renaming mem_flatten->amy,mem_of_getElem?->alo,flatten_cons->amn,all_nil->aox,all_eq_true->amj,replicate->bJ,any_eq_false->aoz,map_congr_left->alq,map_id'->aoB,length->cE,mem_singleton->ak9,drop_drop->amV,drop_eq_nil_iff->anE,range->bK,length_append->alr,length_take->alj,length_drop->aoF,getElem?_take->anx,getElem_mem->b1,getElem?_eq_getElem->bV,drop_eq_getElem_cons->anQ,getElem?_eq_some_iff->alT,mem_append_left->aoG,mem_append_right->anL,append_eq_nil_iff->aon,filter_eq_self->amA,filter->am6,getElem?_eq_none->amJ
open Pure renaming pure->amk
open Go.Sem renaming run_bind->b8,run_pure->alp,run->am1
open Array renaming mapM_eq_mapM_toList->aoq,replicate->aow,getD_eq_getD_getElem?->aov,map->anD,mem_append_right->al1,toArray_toList->apH
open Go.Result renaming andThen_ok->cd,ok->apC
open Go.Value.slice renaming injEq->alh
open List.Perm renaming append_left->anO
open Nat renaming beq->bL,eq_of_beq_eq_true->alX,blt->cg,ble->b5,mul_one->amE,beq_refl->anG,lor->aoJ,testBit_or->apE,testBit_two_pow->aoK
open Go.l0.au renaming ids->bW,o4->al8,fK->alm
open BitVec renaming ofInt->cn
open Int renaming toNat_of_nonneg->apB
open Go.World renaming cell?->aml,frozen?_setCells->aou,cell?_setCells_in->am5,cell?_setCells_out->anK
open Go.l0 renaming kill->alF
open Go.Oper renaming wp->alJ,upon_value->apF
open Go.l0.bi renaming size->aoC
open Go.l0.ao renaming size->alA
open Go.l0.fI renaming eval->alZ
open Go.l0.hL renaming alloc->al0
open Go.Instr renaming box->anC,sureAddr->amz
open Go.l0.fC renaming alloc->aoD
open Go.l0.jb renaming alloc->aoE
open Go.l0.a5 renaming pure->al9
open Go.Value renaming int->alz,nilFunc->amq,okWide->amH,bool->apJ
open Go.Op renaming equalIn->amW,eqFields->anR,operands->b2
open Go.l0.Yields renaming wp->aoH
open Go.Addr renaming add_lit->al7,add->anS
open Go.Addr.mk renaming injEq->alx
open Go.Call renaming operands->alV
open Go.Region renaming binds->aoI,ready->aoM,wanted->anM
open ByteArray renaming empty->anA
open Go.Program renaming cellsOf->apG
open Go.DataW renaming trod->aoN,TrodAll->amI
open Go.WideShapes renaming okWide_int->aqG,okWide_bool->aqH,okWide_string->aqI,okWide_slice->aqJ
open Go.ChangeShapes renaming trodAll_cons->aoO,trodAll_mk1->aqL,trodAll_append->aqM
open Go.WideElems renaming Trod_stays->aqK
open Go.MemPlace renaming cell->apI
open Decidable renaming decide->bz
open Go.IntKind renaming i64->bO,wrap->amK,u64->bG,u32->ch
noncomputable section
namespace Go.l0
variable{a r:X}{b s:au}{c:bp (X×aT)}{d R:bN}{e y:ak6}{f:Type}{g:bp (X×bp bd)}{h:bU}{i:aW}{j:bp (X×ao)}{k O:ao}{l:bp bd}{m:ca->Act->bH->Prop}{o:bX (X×bS)}{p:b3}{t:bH}{u:bp alk}{v:ca->aW->Prop}{w:aW->Prop}{x:X->Prop}{z:Value}{N V:bS}{P:Z}{Q:eW->X->Prop}{S:bS->au}{T:X->ak0}{U:X->ak6}
section
def ka:X->bp ie->bp (X×au)
 |_,[]=>[]
 |k,.v b::a=>(k,.val b.1 b.2)::ka (k+1) a
 |k,.m _ _::a|k,.o _::a=>(k,.ref k [])::ka (k+1) a
 |k,.n::a=>(k,.eN (.slice bv 0 0))::ka (k+1) a
 |k,.w _ _ e d _::a=>(k,.view k [] e d)::ka (k+1) a
 |k,.s _ _::a=>ka (k+1) a
 |k,.c f g::a=>(k,.eM f (g.map λb=>.val b.1 b.2))::ka (k+1) a
def kO:X->bp ie->bp (X×aT)
 |_,[]=>[]
 |k,.v _::a=>kO (k+1) a
 |k,.m b _::a|k,.o b::a=>(k,b)::kO (k+1) a
 |k,.w e d _ _ _::a=>(k,⟨.osl e,d⟩)::kO (k+1) a
 |k,.c _ _::a|k,.n::a|k,.s _ _::a=>kO (k+1) a
def ij:X->bp ie->ak6
 |_,[]=>[]
 |k,.m _ _::a|k,.w _ _ _ _ _::a=>k::ij (k+1) a
 |k,_::a=>ij (k+1) a
def u5 (a:fb):bA eh->Prop
 |none=>True
 |some (c,g,d)=>c∈a.pin/\(∀h∈d,h∈a.pin)/\∃b e f,a.vs c=.pointer (Y ⟨b,e,bv⟩)/\b<a.w0.heap.size/\¬a.F0 b/\a.w0.cell? ⟨b,e,bv⟩=Y (.func (.func g) #[] f)/\f.toList=d.map a.vs
def oq:bA eh->ak6
 |none=>[]
 |some (a,_,b)=>a::b
def sR (j:b3) (e:aW) (a:aT):alk->ak6->Prop
 |.tmp m,c=>match gt e.g m with
  |.val i n=>(⟨i,n⟩:aT)=a/\c=[]
  |.eN f=>jl a.1 f.cells.toList=Y a.2/\eY a.1 f.cells.toList=f/\c=[]
  |.ref id d=>c=[id]/\∃b,ay e.h id=Y b/\e7 b.1 b.2 d a.1 a.2
  |_=>b7
 |.cell l k,c=>fv j a.1 k/\match gt e.g l with
  |.ref id d=>c=[id]/\∃b i,ay e.h id=Y b/\gk b.1 d=Y (.optr i)/\e7 b.1 b.2 (d++[.deref]) a.1 a.2
  |_=>b7
def u4 (b:b3) (d:aW):bp alk->bp aT->ak6->Prop
 |[],[],a=>a=[]
 |r::f,e::g,a=>e.1.gx=bt/\∃i1 c,a=i1++c/\sR b d e r i1/\u4 b d f g c
 |_,_,_=>b7
def qi (a:aW):X->bp ie->Prop
 |_,[]=>True
 |k,.m c l::b=>(gt a.g k=.ref k []/\ay a.h k=Y ⟨c.1,l⟩/\c.1.gx=bt/\sx c.1=bt)/\qi a (k+1) b
 |k,.w i j e d f::b=>(gt a.g k=.view k [] e d/\ay a.h k=Y ⟨.osl i,f⟩/\(i.gx=bt/\e<d)/\f.length=j.length)/\qi a (k+1) b
 |k,_::b=>qi a (k+1) b
def MN (e:b3) (a:bp ie) (g:bp alk) (f:bp aT) (b:ca) (d:aW):Prop:=
 (b=.normal\/b=.ret)/\∃c,u4 e d g f c/\kn (ij 0 a++c)=bt/\qi d 0 a
section
variable {E:fY}
theorem WD {i:X->Prop} {b:bp aT} {d:ak0} (h:ku (zF i x t) b d):c8 (cG i x) t c T U (.eM a (b.map λe=>.val e.1 e.2)) (.func (.func a) #[] d.toArray):=by
 have r:=Ni h;refine .eM ae (λg p k f j=>?_);have l:∀{b:bp aT} {d:ak0} {g:X} {e:aT} {k:Value},ku (zF i x t) b d->b[g]?=Y e->d[g]?=Y k->zF i x t e k:=by
  intro b
  induction b with
  |nil=>grind
  |cons u b o=>
   intro d g e k h f j;cases d with
   |nil=>grind
   |cons s d=>
    cases g with
    |zero=>simp only[zP,fc] at f j;subst f j;exact h.1
    |succ g=>exact o h.2 (by simpa using f) ae
 rw[jQ] at f;obtain⟨e,n,rfl⟩:=fO.1 f;obtain⟨q,rfl,m⟩:=l h n (by simpa using j);exact .val m
theorem NA {q p:X->Prop} {w:bH}:∀{k:X} {d:bp ie} {D:ak0} {x:eC},mZ (zC q p w) d D x->∃(h:X->ak0) (e:X->ak6),(∀id b,ay (kO k d) id=Y b->k<=id/\(∃u,x[id-k]?=Y u/\e id=u)/\a5 (cG q p) w b.1 (h id) b.2 (e id))/\(∀a,gt (ka k d) (k+a)=.dead\/∃v,D[a]?=Y v/\c8 (cG q p) w (kO k d) h e (gt (ka k d) (k+a)) v)/\(∀a,a<k->gt (ka k d) a=.dead)
 |k,[],D,x,t=>⟨λ_=>[],λ_=>[],(λid b t=>by cases t),λa=>.inl bq,λa _=>rfl⟩
 |k,j::d,[],x,t|k,j::d,v::D,[],t=>t.elim
 |k,j::d,v::D,u::x,t=>by
  obtain⟨A,T⟩:=t;obtain⟨h,e,i1,H,Q⟩:=NA (k:=k+1) T;have I:∀id b,ay (kO (k+1) d) id=Y b->k<=id/\(∃E,(u::x)[id-k]?=Y E/\e id=E)/\a5 (cG q p) w b.1 (h id) b.2 (e id):=λid b P=>ae;have M:∀(b:aT) (r:ak0) (J:au),(∀(z:bp (X×aT)) (C:X->ak0) (F:X->ak6),ay z k=Y b->C k=r->c8 (cG q p) w z C F J v)->a5 (cG q p) w b.1 r b.2 u->kO k (j::d)=(k,b)::kO (k+1) d->ka k (j::d)=(k,J)::ka (k+1) d->_:=λb r J f l ax O=>by
   refine(⟨λG=>if G=k then r else h G,λG=>if G=k then u else e G,?_,?_,?_⟩:∃(h:X->ak0) (e:X->ak6),(∀id b,ay (kO k (j::d)) id=Y b->k<=id/\(∃E,(u::x)[id-k]?=Y E/\e id=E)/\a5 (cG q p) w b.1 (h id) b.2 (e id))/\(∀a,gt (ka k (j::d)) (k+a)=.dead\/∃i,(v::D)[a]?=Y i/\c8 (cG q p) w (kO k (j::d)) h e (gt (ka k (j::d)) (k+a)) i)/\(∀a,a<k->gt (ka k (j::d)) a=.dead))
   ·grind [eX]
   ·intro a;rw[O,jx];cases a with
    |zero=>
     right;refine⟨v,bq,?_⟩;rw[aB aa];exact f _ _ _ (by rw[ax,eX,aB bq]) ae
    |succ a=>
     rw[aA aa,(aa:k+(a+1)=k+1+a)];refine(H a).imp id ?_;rintro⟨i,aE,g⟩;refine⟨i,ae,?_⟩;refine g.ws (λm K U=>⟨U,ald w K⟩) (λid _ am P=>?_);obtain⟨bl,_,bs⟩:=i1 id am P;have an:¬id=k:=aa;have ap:¬k=id:=aa;simp_all [eX,aA,ald]
   intro a y;rw[O,jx,aA aa];grind
  cases j with
  |v b=>
   obtain⟨rfl,r,f,l⟩:=A;refine⟨h,e,I,λa=>?_,λa y=>?_⟩
   ·show gt ((k,_)::_) _=_\/_;rw[jx];cases a with
    |zero=>
     right;refine⟨v,bq,?_⟩;show c8 _ _ _ _ _ (gt ((k,_)::_) _) _;rw[jx,aB aa,f];exact .val l
    |succ a=>
     rw[aA aa,(aa:k+(a+1)=k+1+a)];refine(H a).imp id ?_;rintro⟨i,aE,g⟩;refine⟨i,ae,?_⟩;show c8 _ _ _ _ _ (gt ((k,_)::_) _) _;rw[jx,aA aa];exact g
   show gt ((k,_)::_) _=_;rw[jx,aA aa];grind
  |n=>
   obtain⟨rfl,f⟩:=A;refine⟨h,e,I,λa=>?_,λa y=>?_⟩
   ·show gt ((k,_)::_) _=_\/_;rw[jx];cases a with
    |zero=>
     right;refine⟨v,bq,?_⟩;show c8 _ _ _ _ _ (gt ((k,_)::_) _) _;rw[jx,aB aa,f];exact .eN _
    |succ a=>
     rw[aA aa,(aa:k+(a+1)=k+1+a)];refine(H a).imp id ?_;rintro⟨i,aE,g⟩;refine⟨i,ae,?_⟩;show c8 _ _ _ _ _ (gt ((k,_)::_) _) _;rw[jx,aA aa];exact g
   show gt ((k,_)::_) _=_;rw[jx,aA aa];grind
  |s av a3=>
   refine⟨h,e,I,λa=>?_,λa y=>Q a aa⟩;cases a with
   |zero=>exact .inl (Q k aa)
   |succ a=>
    have y:=H a;rw[(aa:k+1+a=k+(a+1))] at y;refine y.imp id ?_;rintro⟨i,aE,g⟩;exact⟨i,ae,g⟩
  |c n bx=>
   obtain⟨rfl,ce,f,l⟩:=A;refine⟨h,e,I,λa=>?_,λa y=>?_⟩
   ·show gt ((k,_)::_) _=_\/_;rw[jx];cases a with
    |zero=>
     right;refine⟨v,bq,?_⟩;show c8 _ _ _ _ _ (gt ((k,_)::_) _) _;rw[jx,aB aa,f];exact WD l
    |succ a=>
     rw[aA aa,(aa:k+(a+1)=k+1+a)];refine(H a).imp id ?_;rintro⟨i,aE,g⟩;refine⟨i,ae,?_⟩;show c8 _ _ _ _ _ (gt ((k,_)::_) _) _;rw[jx,aA aa];exact g
   show gt ((k,_)::_) _=_;rw[jx,aA aa];grind
  |m b ci=>obtain⟨r,f,l⟩:=A;exact M b r (.ref k []) (λz C F aE g=>by subst f;exact .ref (loc:=bv) aE (by grind [anN])) l bq rfl
  |o b=>obtain⟨r,f,l⟩:=A;exact M b r (.ref k []) (λz C F aE g=>by subst f;exact .ref (loc:=bv) aE (by grind [anN])) l bq rfl
  |w S R B L co=>
   obtain⟨K,o,N,f,⟨a4,V,ad⟩,l⟩:=A;refine M ⟨.osl S,R⟩ _ (.view k [] B L) (λz C F aE g=>?_) l bq rfl;have a0:c8 (cG q p) w z C F (.view k [] B L) (.slice (Y ⟨K,if N=B then o else o+B*S.size,bv⟩) (L-B) (N-B)):=.view (loc:=bv) (len:=R.length) aE (by grind [anN]) aa V ad;grind
theorem aav {a:eC} (g:a.flatten.Nodup):(∀(c:X) b,a[c]?=Y b->b.Nodup)/\∀(c e:X) b d,a[c]?=Y b->a[e]?=Y d->c≠e->∀f∈b,f∉d:=by
 induction a with
 |nil=>grind
 |cons i a h=>
  simp only[mq,j3] at g;grind [List.getElem?_cons_zero,amD,amy,alo]
def Co (b:akY):alk->Sem Value
 |.tmp a=>amk (b.getD a bZ)
 |.cell c a=>do loadVar a (<-asAddr (b.getD c bZ))
def afA {f:Func} (h:f.results=u.toArray) (c:akY) (a:bH) {d:ak0} (i:(u.mapM (Co c)).run p a=.ok d a):(results f c).run p a=.ok (sp d) a:=by
 unfold results;simp only[b8,h];rw[aoq,Sem.run_map];have j:∀b:alk->Sem Value,(∀e,b e=Co c e)->(u.mapM b).run p a=.ok d a:=λb g=>(by rw[show b=Co c from funext g];exact i);rw[j _ (λe=>by cases e<;>rfl)];simp only[cd,alp];congr 1
 match d with
 |[]|[r]=>rfl
 |r::l::k=>simp[sp]
theorem sR.rep {H:fb} {f:akY} (r:c6 H i f t x T U) {b:aT} (D:b.1.gx=bt) {d:alk} (a:sR p i b d e):∃q I,(Co f d).run p t=.ok q t/\Db x t b q I/\(∃ap,(e.map U).flatten.Perm (I++ap))/\∀id∈e,∃b,ay i.h id=Y b:=by
 have K:∀(id:X) (j:aT) (m:bp bd),ay i.h id=Y j->e7 j.1 j.2 m b.1 b.2->∃w n l o,a8 t j.1 bv (T id) m b.1 w n/\a5 (cG x H.B) t b.1 n b.2 l/\qh t w n b.1.size/\(U id).Perm (l++o):=(by intro id j m g s;obtain⟨aE,G,bl⟩:=r.tree id _ g;obtain⟨w,n,l,o,z,A,F,J,_⟩:=JG m (τ':=b.1) (y:=b.2) aE (loc:=bv) (λ_ _ a=>by cases a) G (λ_ _ a=>by cases a) (r.notM g) s;grind);cases d with
 |tmp d=>
  have c:=r.tmp d;simp only[sR] at a;split at a
  ·rename_i a0 bx k;rw[k] at c;obtain⟨rfl,rfl⟩:=a;generalize E:f.getD d bZ=q at c;cases c with|val av=>
   exact⟨_,[],by show(amk (f.getD d bZ):Sem Value).run p t=_;simp_all,⟨_,bq,av.gx D⟩,⟨[],ac⟩,ac⟩
  ·rename_i q k;rw[k] at c;obtain⟨aE,G,rfl⟩:=a;generalize E:f.getD d bZ=bs at c;cases c;exact⟨_,[],by show(amk (f.getD d bZ):Sem Value).run p t=_;simp_all,⟨_,G.symm,qy aE⟩,⟨[],ac⟩,ac⟩
  ·rename_i id m k;rw[k] at c;obtain⟨rfl,j,g,s⟩:=a;generalize E:f.getD d bZ=q at c;cases c with|ref v u=>
   rw[g] at v;cases v;obtain⟨w,n,l,o,z,A,F,J⟩:=K id j m g s;obtain⟨rfl,rfl,rfl⟩:=u.mC z;refine⟨_,l,by show(amk (f.getD d bZ):Sem Value).run p t=_;simp_all,⟨_,bq,A.gx D⟩,⟨o,ae⟩,λam S=>?_⟩;grind
  grind
 |cell C L=>
  have c:=r.tmp C;simp only[sR] at a;obtain⟨a3,a⟩:=a;split at a
  ·rename_i id m k;rw[k] at c;obtain⟨rfl,j,a0,g,ad,s⟩:=a;generalize E:f.getD C bZ=q at c;cases c with|ref v u=>
   rw[g] at v;cases v;have:=u.ty;rw[ad] at this;cases this;obtain⟨M,an,P,rfl,N,O⟩:=qS (r.tree id _ g).1 u;have V:=u.append (a8.Jb N O);obtain⟨w,n,l,o,z,A,F,J⟩:=K id j _ g s;obtain⟨ax,Q,R⟩:=V.mC z;subst Q;subst R;subst ax;have a4:=(F M an bq).1;refine⟨eY b.1 P,l,?_,⟨_,bq,A.gx D⟩,⟨o,ae⟩,λam S=>?_⟩
   ·show(do loadVar L (<-asAddr (f.getD C bZ)):Sem Value).run p t=_;grind [LS,b8,alp,cd,eY,List.headD,asAddr]
   grind
  grind
theorem u4.rep {j:b3} {o:fb} {f:aW} {n:akY} {e w0:bH} {i:X->Prop} {z:X->ak0} {k:X->ak6} (l:c6 o f n e i z k):∀{d:bp alk} {m:bp aT} {a:ak6},u4 j f d m a->∃vs c,(d.mapM (Co n)).run j e=.ok vs e/\mZ (Db i e) m vs c/\(∃w,(a.map k).flatten.Perm (c.flatten++w))/\∀id∈a,∃g,ay f.h id=Y g
 |[],[],a,b=>by obtain rfl:a=[]:=b;exact⟨[],[],bq,trivial,⟨[],.refl _⟩,ac⟩
 |[],g::A,a,b|r::d,[],a,b=>b.elim
 |r::d,g::A,a,b=>by
  obtain⟨v,i1,K,rfl,t,u⟩:=b;obtain⟨B,s,C,p,⟨x,D⟩,E⟩:=t.rep l v;obtain⟨vs,c,F,q,⟨y,G⟩,H⟩:=u4.rep (w0:=w0) l u;refine⟨B::vs,s::c,?_,⟨p,q⟩,⟨x++y,?_⟩,λJ I=>?_⟩
  ·simp_all
  ·grind
  grind
theorem NB:∀{k:X} {args:bp ie},∀b∈ij k args,k<=b
 |k,[],b,a=>by cases a
 |k,f::args,b,a=>by
  have d:=NB (k:=k+1) (args:=args);cases f with
  |m e q=>
   rcases gn.1 a with rfl|a
   ·omega
   grind
  |w t p j h r=>
   rcases gn.1 a with rfl|a
   ·omega
   grind
  |v e|o e|c n l|n|s g i=>have:=d b a;omega
theorem qi.rep {Q:fb} {A:aW} {E:akY} {w:bH} {F:X->Prop} {L:X->ak0} {t:X->ak6} (u:c6 Q A E w F L t) {B:X->Prop}:∀{k:X} {f:bp ie} {vs:ak0},qi A k f->vs.length=f.length->(∀e,e∈ij k f->∀v,vs[e-k]?=Y v->E.getD e bZ=v)->∃b,mZ (zD F B w) f vs b/\b.flatten=((ij k f).map t).flatten/\∀id∈ij k f,k<=id/\∃r,ay A.h id=Y r
 |k,[],vs,g,C,x=>by cases vs with
  |nil=>exact⟨[],trivial,bq,by simp[ij]⟩
  |cons=>cases C
 |k,G::f,[],g,C,x=>by cases C
 |k,G::f,v::vs,g,C,x=>by
  have p:qi A (k+1) f->(∀e,e∈ij (k+1) f->e∈ij k (G::f))->∃b,mZ (zD F B w) f vs b/\b.flatten=((ij (k+1) f).map t).flatten/\∀id∈ij (k+1) f,k+1<=id/\∃r,ay A.h id=Y r:=λg T=>by
   have a4:=NB (k:=k+1) (args:=f);exact qi.rep u g ae (λe i am bs=>x e (T e i) am (by
    grind))
  cases G with
  |v r=>
   obtain⟨b,j,q,d⟩:=p g (λe i=>i);exact⟨[]::b,⟨bq,j⟩,by grind [ij],λid a=>⟨by have:=(d id a).1;omega,(d id a).2⟩⟩
  |o r=>
   obtain⟨b,j,q,d⟩:=p g (λe i=>i);exact⟨[]::b,⟨bq,j⟩,by grind [ij],λid a=>⟨by have:=(d id a).1;omega,(d id a).2⟩⟩
  |n=>
   obtain⟨b,j,q,d⟩:=p g (λe i=>i);exact⟨[]::b,⟨bq,j⟩,by grind [ij],λid a=>⟨by have:=(d id a).1;omega,(d id a).2⟩⟩
  |s a3 ce=>
   obtain⟨b,j,q,d⟩:=p g (λe i=>i);exact⟨[]::b,⟨bq,j⟩,by grind [ij],λid a=>⟨by have:=(d id a).1;omega,(d id a).2⟩⟩
  |c n dg=>
   obtain⟨b,j,q,d⟩:=p g (λe i=>i);exact⟨[]::b,⟨bq,j⟩,by grind [ij],λid a=>⟨by have:=(d id a).1;omega,(d id a).2⟩⟩
  |m r ds=>
   obtain⟨⟨J,z,K,U⟩,g⟩:=g;obtain⟨b,j,q,d⟩:=p g (λe i=>ht _ i);have l:=u.tmp k;rw[J] at l;have I:E.getD k bZ=v:=x k (by simp[ij]) v ac;rw[I] at l;obtain⟨D,_⟩:=u.tree k _ z;refine⟨t k::b,⟨?_,j⟩,by grind [amn,ij],λid a=>?_⟩
   ·cases l with|ref y H=>
    rw[z] at y;cases y;obtain⟨rfl,rfl,rfl⟩:=alE.1 H;exact⟨L k,bq,D.gx K⟩
   rcases gn.1 a with rfl|a
   ·grind
   grind
  |w an dl ci bl d0=>
   obtain⟨⟨J,z,⟨K,U⟩,bx⟩,g⟩:=g;obtain⟨b,j,q,d⟩:=p g (λe i=>ht _ i);have l:=u.tmp k;rw[J] at l;have I:E.getD k bZ=v:=x k (by simp[ij]) v ac;rw[I] at l;obtain⟨D,_⟩:=u.tree k _ z;refine⟨t k::b,⟨?_,j⟩,by grind [amn,ij],λid a=>?_⟩
   ·cases l with
    |mN=>omega
    |view y H aE cs cv=>
    rename_i c2 d1 co M P V N;rw[z] at y;cases y;obtain⟨ax,a0,R⟩:=alE.1 H;simp only[ao.osl.injEq] at ax;subst ax;have O:L k=[.slice (Y ⟨M,P,bv⟩) V N]:=R;have S:=D;obtain⟨ap,av,ad,c1⟩:=S;rw[ad] at O;simp only[iC,alh,cf] at O;refine⟨M,P,N,by rw[aA aa],aa,?_⟩;have:=a5.gx (τ:=.osl an) (B':=B) K D;grind
   rcases gn.1 a with rfl|a
   ·grind
   grind
theorem uI.aaJ {q:FuncId} {j:Func} {c:cA} {b:bp ie} {D:bp aT} (dg:E.P.funcs[q]?=Y j) (f:j.body=Y c) (d1:j.results=u.toArray) (fp:b.length<=j.ntmps) (g:∀d:fb,d.n=j.ntmps->d.pin=ij 0 b++oq (qZ 0 b)->(∀a,d.I0 a\/d.B a->a<d.w0.heap.size/\¬d.F0 a)->u5 d (qZ 0 b)->mj E d.I0 d.w0->J E d c ⟨ka 0 b,kO 0 b⟩ (MN E.P b u D)):uI E q b D:=by
 intro r s z l L S O ds Q V dl;obtain⟨d4,fn⟩:=H1 O;obtain⟨a3,I,bs,bx,eq⟩:=NA (k:=0) O
 let d:fb:={I0:=s,B:=z,F0:=λa=>a∈L.flatten,w0:=r,n:=j.ntmps,pin:=ij 0 b++oq (qZ 0 b),vs:=λi=>l.getD i bZ}
 have am:∀i,(l.toArray++aow (j.ntmps-l.toArray.size) bZ).getD i bZ=l.getD i undef:=(by intro i;rw[aov,k2];grind);obtain⟨fs,ft⟩:=aav ds;have co:c6 d ⟨ka 0 b,kO 0 b⟩ (l.toArray++aow (j.ntmps-l.toArray.size) bZ) r s a3 I:=by
  refine{n:=?_,i0:=λ_ g=>g,i1:=λ_ g=>.inl g,ib:=S,tree:=?_,dis:=?_,tmp:=?_,frame:=λ_ _ _=>rfl,evo:=λ_ _=>.refl _ _,size:=bg _,os:=rfl,tape:=rfl,output:=rfl,pin:=λi _=>am i}
  ·grind
  ·intro id m w;obtain⟨_,⟨q,aE,d7⟩,d8⟩:=bs id m w;rw[Nat.sub_zero] at aE;grind [amy,alo]
  ·grind
  intro i;show c8 _ _ _ _ _ (gt (ka 0 b) i) _;rw[am];rcases bx i with g|⟨x,N,ci⟩
  ·rw[nv] at g;rw[g];exact .dead _
  grind
 have d2:u5 d (qZ 0 b):=by
  cases o:qZ 0 b with
  |none=>trivial
  |some d6=>
   obtain⟨i,q,av⟩:=d6;rw[o] at V;obtain⟨_,_,a,d5,em,F,G,a4,ek,el⟩:=V;have fr:d.pin=ij 0 b++oq (Y (i,q,av)):=ae;refine⟨by grind [oq],λap U=>by grind [oq],a,d5,em,F,G,a4,ek,el⟩
 refine calls_of_wp dg f (wp_mono (g d bq rfl (λa f=>⟨S a f,λt=>f.elim (Q a t).1 (Q a t).2.1⟩) d2 dl _ r ⟨s,a3,I,co⟩ rfl) ?_);rintro ex H y ⟨bl,⟨c2,an,d0,C,t⟩,⟨A,f0,K,e⟩,R⟩;obtain⟨f1,o,d9,F,⟨fT,G⟩,a4⟩:=u4.rep (w0:=r) e d0;obtain⟨p,ce,M,fl⟩:=qi.rep e (B:=z) (vs:=l) t d4 (λap U x d3=>by
  rw[Nat.sub_zero] at d3;rw[e.pin ap (oF _ U)];grind)
 have C:=kn.ok C;have ad:∀id∈ij 0 b++an,∃m,ay bl.h id=Y m:=λid T=>ae;have v:=KN e ad C;rw[iK,zO,<-M] at v;have v:(p.flatten++o.flatten).Nodup:=(by have:=(anO p.flatten G).nodup_iff.1 v;grind);have cs:∀a∈p.flatten++o.flatten,∃id m,ay bl.h id=Y m/\a∈K id:=λa f=>(by have f:a∈((ij 0 b++an).map K).flatten:=(by rw[iK,zO,<-M];grind);obtain⟨av,N,ci⟩:=ms.1 f;obtain⟨id,T,rfl⟩:=e1.1 N;obtain⟨m,w⟩:=ad id T;grind);have a0:∃x,(results j H.tmps).run E.P y=.ok x y/\∃A p o cT,Ending.returned x=.returned (sp cT)/\M2 s z r L b l D A p o cT y:=
  ⟨_,afA d1 H.tmps y d9,A,p,o,_,bq,ce,F,v,(λa f=>by
   obtain⟨id,m,w,cv⟩:=cs a f;obtain⟨aE,d7,d8,fz⟩:=(e.tree id m w).2.2 a cv;grind),e.i0,(λa f=>by
   rcases e.i1 a f with g|g|g
   ·grind
   ·exact .inr ⟨e.ib a (.inl f),.inl g⟩
   exact .inr ⟨e.ib a (.inl f),.inr g⟩),e.size,e.os,e.tape,e.output,e.evo,λa f c1=>e.frame a f c1⟩
 rcases c2 with rfl|rfl
 ·exact⟨R,a0⟩
 exact⟨R,a0⟩
end
end
section
open Classical in
def pick {a:Type} (c:a->Prop):bA a:=if h:∃b,c b then Y h.choose else bv
theorem ad9 {c:f->Prop} {b:f} (a:pick c=Y b):c b:=by
 unfold pick at a;split at a
 ·grind
 grind
inductive pu where
 |v (τ:ao)
 |s (a:au)
 |p (id:X) (a b:bp bd)
 |w (id:X)
structure nT where
 g:bp (X×pu)
 h:bp (X×ao)
@[reducible] def q0:bp (X×pu)->Type->Type
 |[],r=>r
 |(_,.v a)::l,r=>a.den×q0 l r
 |(_,.s _)::l,r=>q0 l r
 |(_,.p _ _ _)::l,r=>X×q0 l r
 |(_,.w _)::l,r=>ew×q0 l r
@[reducible] def wU:bp (X×ao)->Type
 |[]=>bw
 |(_,a)::l=>a.den×wU l
@[reducible] def nT.den (a:nT):Type:=q0 a.g (wU a.h)
def oY {e:Type}:(c:bp (X×pu))->q0 c e->bp (X×au)
 |[],_=>[]
 |(d,.v f)::c,s=>(d,.val f s.1)::oY c s.2
 |(d,.s a)::c,s=>(d,a)::oY c s
 |(d,.p id a b)::c,s=>(d,.ref id (a++.idx s.1::b))::oY c s.2
 |(d,.w id)::c,s=>(d,.view id [] s.1.1 s.1.2)::oY c s.2
def vV {b:Type}:(a:bp (X×pu))->q0 a b->b
 |[],s=>s
 |(_,.v _)::a,s=>vV a s.2
 |(_,.s _)::a,s=>vV a s
 |(_,.p _ _ _)::a,s|(_,.w _)::a,s=>vV a s.2
def vT:(a:bp (X×ao))->wU a->bp (X×aT)
 |[],_=>[]
 |(d,b)::a,s=>(d,⟨b,s.1⟩)::vT a s.2
def lH (a:nT) (b:a.den):aW:=⟨oY a.g b,vT a.h (vV a.g b)⟩
def iE {τ:ao} (a:ao) (b:τ.den):bA a.den:=if e:τ=a then Y (e▸b) else bv
theorem lD {a:O.den} {b:k.den} (c:iE k a=Y b):(⟨O,a⟩:aT)=⟨k,b⟩:=by grind [iE]
def wZ:bd->bd->bD
 |.idx a,.idx b=>bL a b
 |.deref,.deref|.unst,.unst|.fst,.fst|.snd,.snd=>bt
 |_,_=>br
theorem wZ.ok {a b:bd} (c:wZ a b=bt):a=b:=by cases a<;>cases b<;>first|rfl|(cases c;done)|(rw[fN c])
def oh:bp bd->bp bd->bD
 |[],[]=>bt
 |a::c,b::d=>wZ a b&&oh c d
 |_,_=>br
theorem oh.ok:∀{c d:bp bd},oh c d=bt->c=d
 |[],[],_=>rfl
 |[],_::_,b|_::_,[],b=>by cases b
 |a::c,e::d,b=>by simp only[oh,cL] at b;rw[wZ.ok b.1,oh.ok b.2]
def vc:au->au->bD
 |.ref a c,.ref b d|.addr a c,.addr b d=>bL a b&&oh c d
 |_,_=>br
theorem vc.ok {a b:au} (c:vc a b=bt):a=b:=by cases a<;>cases b<;>first|(cases c;done)|(simp only[vc,cL] at c;grind [alX,oh.ok])
def vd:bp au->bp au->bD
 |[],[]=>bt
 |a::c,b::d=>vc a b&&vd c d
 |_,_=>br
theorem vd.ok:∀{c d:bp au},vd c d=bt->c=d
 |[],[],_=>rfl
 |[],_::_,b|_::_,[],b=>by cases b
 |a::c,e::d,b=>by simp only[vd,cL] at b;rw[vc.ok b.1,vd.ok b.2]
def s2:au->au->bD
 |.eM c e,.eM d f=>bL c d&&vd e f
 |a,b=>vc a b
theorem s2.ok {a b:au} (c:s2 a b=bt):a=b:=by cases a<;>cases b<;>first|exact vc.ok c|(simp only[s2,cL] at c;grind [alX,vd.ok])
def CD:bp bd->bp bd->bp bd->ak2
 |[],a,.idx k::b=>bif oh a b then Y k else bv
 |s::c,a,d::b=>bif wZ s d then CD c a b else bv
 |_,_,_=>bv
theorem TF:∀{d b e:bp bd} {c:X},CD d b e=Y c->e=d++.idx c::b
 |[],b,[],c,a=>by cases a
 |[],b,s::e,c,a=>by
  cases s<;>simp only[CD] at a<;>try (cases a;done)
  grind [oh.ok]
 |s::d,b,[],c,a=>by cases a
 |s::d,b,g::e,c,a=>by
  simp only[CD] at a;cases f:wZ s g with
  |false=>grind
  |true=>rw[f] at a;rw[wZ.ok f,TF a];rfl
def qW {f:Type} (e:bp (X×au)) (g:bA f):(c:bp (X×pu))->bA (q0 c f)
 |[]=>g
 |(d,.v o)::c=>match gt e d with
  |.val _ m=>match iE o m with
   |some n=>(qW e g c).map (λi=>(n,i))
   |none=>bv
  |_=>bv
 |(d,.s a)::c=>match s2 a (gt e d) with
  |true=>qW e g c
  |false=>bv
 |(d,.p id a b)::c=>match gt e d with
  |.ref h i=>bif bL id h then match CD a b i with
   |some k=>(qW e g c).map (λf=>(k,f))
   |none=>bv else bv
  |_=>bv
 |(d,.w id)::c=>match gt e d with
  |.view h [] l j=>bif bL id h then(qW e g c).map (λf=>((l,j),f)) else bv
  |_=>bv
def GM (b:bp (X×aT)):(a:bp (X×ao))->bA (wU a)
 |[]=>Y ()
 |(d,g)::a=>match ay b d with
  |some e=>match iE g e.2 with
   |some f=>(GM b a).map (λc=>(f,c))
   |none=>bv
  |none=>bv
def yF:bp (X×ao)->X->bD
 |[],_=>br
 |(k,_)::r,n=>bif bL k n then bt else yF r n
def q2:bp (X×pu)->bp (X×ao)->bD
 |[],_=>bt
 |(_,.v _)::l,h=>q2 l h
 |(_,.s a)::l,h=>(a.ids.all λid=>yF h id)&&q2 l h
 |(_,.p id _ _)::l,h|(_,.w id)::l,h=>yF h id&&q2 l h
def proj (a:nT) (b:aW):bA a.den:=bif q2 a.g a.h then qW b.g (GM b.h a.h) a.g else bv
theorem Ft:∀{b:bp (X×ao)} {c:wU b} {id:X},yF b id=bt->(ay (vT b c) id).isSome=bt
 |[],_,_,a=>by cases a
 |(k,e)::b,c,id,a=>by
  simp only[yF] at a;simp only[vT,ay];cases d:bL k id with
  |true=>rfl
  |false=>rw[d] at a;exact Ft ae
theorem Cb {o:Type} {q:aW} {n:bA o}:∀{e:bp (X×pu)} {f:q0 e o},qW q.g n e=Y f->pC (oY e f) q/\n=Y (vV e f)
 |[],f,c=>⟨trivial,c⟩
 |(d,.v F)::e,f,c=>by
  simp only[qW] at c;split at c
  case h_2=>cases c
  rename_i G D t;split at c
  case h_2=>cases c
  rename_i E u;obtain⟨x,k,rfl⟩:=fO.1 c;obtain⟨h,i⟩:=Cb k;refine⟨⟨?_,h⟩,i⟩;rw[t];cases lD u;rfl
 |(d,.s a)::e,f,c=>by
  simp only[qW] at c;split at c
  case h_2=>cases c
  rename_i r;obtain⟨h,i⟩:=Cb c;exact⟨⟨(s2.ok r).symm,h⟩,i⟩
 |(d,.p id a b)::e,f,c=>by
  simp only[qW] at c;split at c
  case h_2=>cases c
  rename_i m x k;cases j:bL id m with
  |false=>grind
  |true=>
  rw[j] at c;simp only[bI] at c;split at c
  case h_2=>cases c
  rename_i B A;obtain⟨y,l,rfl⟩:=fO.1 c;obtain⟨h,i⟩:=Cb l;refine⟨⟨?_,h⟩,i⟩;grind [TF,alX]
 |(d,.w id)::e,f,c=>by
  simp only[qW] at c;split at c
  case h_2=>cases c
  rename_i m C z k;cases j:bL id m with
  |false=>grind
  |true=>
  rw[j] at c;simp only[bI] at c;obtain⟨y,l,rfl⟩:=fO.1 c;obtain⟨h,i⟩:=Cb l;refine⟨⟨?_,h⟩,i⟩;simp_all
theorem Sn {e:aW}:∀{b:bp (X×ao)} {c:wU b},GM e.h b=Y c->pD (vT b c) e
 |[],c,a=>trivial
 |(d,m)::b,c,a=>by
  simp only[GM] at a;split at a
  case h_2=>cases a
  rename_i k g;split at a
  case h_2=>cases a
  rename_i l i;obtain⟨j,f,rfl⟩:=fO.1 a;refine⟨?_,Sn f⟩;grind [lD]
theorem CB {r:Type} {c:bp (X×ao)} {t:wU c}:∀{l:bp (X×pu)} {s:q0 l r},q2 l c=bt->m6 (oY l s) (vT c t)=bt
 |[],s,h=>rfl
 |(d,.v e)::l,s,h=>by have:=CB (r:=r) (t:=t) (l:=l) (s:=s.2) h;simp only[m6,oY,sI,bW,aox,Bool.true_and] at this|-;omega
 |(d,.s a)::l,s,h=>by simp only[q2,cL] at h;have:=CB (r:=r) (t:=t) (l:=l) (s:=s) h.2;simp only[m6,oY,sI,cL] at this|-;grind [Ft,amj]
 |(_,.p id a b)::l,s,h=>by simp only[q2,cL] at h;have:=CB (r:=r) (t:=t) (l:=l) (s:=s.2) h.2;simp only[m6,oY,sI,cL] at this|-;refine⟨?_,this⟩;simp_all [Ft,sI,aox,anP,bW]
 |(_,.w id)::l,s,h=>by simp only[q2,cL] at h;have:=CB (r:=r) (t:=t) (l:=l) (s:=s.2) h.2;simp only[m6,oY,sI,cL] at this|-;refine⟨?_,this⟩;simp_all [Ft,sI,aox,anP,bW]
theorem uo {a:nT} {b:a.den} (c:proj a i=Y b):pC (lH a b).g i/\pD (lH a b).h i/\m6 (lH a b).g (lH a b).h=bt:=by
 unfold proj at c;cases d:q2 a.g a.h with
 |false=>grind
 |true=>
  rw[d] at c;obtain⟨e,f⟩:=Cb c;exact⟨e,Sn f,CB d⟩
inductive hW where
 |v (τ:ao)
 |m (τ:ao)
 |o (τ:ao)
 |c (f:X) (τs:bp ao)
 |n
 |s (f:X) (l:ak6)
 |w (σ:ao)
@[reducible] def mb:bp ao->Type
 |[]=>bw
 |τ::a=>τ.den×mb a
@[reducible] def hS:bp hW->Type
 |[]=>bw
 |.c _ e::a=>mb e×hS a
 |.n::a|.s _ _::a=>bw×hS a
 |.v b::a|.m b::a|.o b::a=>b.den×hS a
 |.w d::a=>(bp d.den×X×X)×hS a
@[reducible] def jo:bp hW->Type->Type
 |[],a=>a
 |.m e::b,a=>e.den×jo b a
 |.w d::b,a=>bp d.den×jo b a
 |.v _::b,a|.o _::b,a|.c _ _::b,a|.n::b,a|.s _ _::b,a=>jo b a
structure jP where
 f:X
 ps:bp hW
 rs:bp ao
 Cw:hS ps->bA (jo ps (mb rs))
def lN:(c:bp ao)->mb c->bp aT
 |[],_=>[]
 |τ::b,a=>⟨τ,a.1⟩::lN b a.2
def iw {j:Type}:(f:bp hW)->hS f->jo f j->bp ie
 |[],_,_=>[]
 |.v e::d,a,b=>.v ⟨e,a.1⟩::iw d a.2 b
 |.m e::d,a,b=>.m ⟨e,a.1⟩ b.1::iw d a.2 b.2
 |.o e::d,a,b=>.o ⟨e,a.1⟩::iw d a.2 b
 |.c h l::d,a,b=>.c h (lN l a.1)::iw d a.2 b
 |.n::d,a,b=>.n::iw d a.2 b
 |.w k::d,a,b=>.w k a.1.1 a.1.2.1 a.1.2.2 b.1::iw d a.2 b.2
 |.s g i::d,a,b=>.s g i::iw d a.2 b
def kF {d:Type}:(e:bp hW)->jo e d->d
 |[],a=>a
 |.m _::b,a|.w _::b,a=>kF b a.2
 |.v _::b,a|.o _::b,a|.c _ _::b,a|.n::b,a|.s _ _::b,a=>kF b a
def j1:X->bp hW->bA eh
 |_,[]=>bv
 |k,.s a b::_=>Y (k,a,b)
 |k,_::c=>j1 (k+1) c
theorem G3 {r:Type}:∀{k:X} {ps:bp hW} {a:hS ps} {b:jo ps r},qZ k (iw ps a b)=j1 k ps
 |k,[],a,b=>rfl
 |k,e::d,a,b=>by have c:=λa b=>G3 (r:=r) (k:=k+1) (ps:=d) (a:=a) (b:=b);cases e<;>first|exact c _ _|rfl
def aG (E:fY) (a:jP):Prop:=
 (∀(d:akY) (e:bH),(amo a.f d).run E.P e=.ok (.enter a.f d) e)/\∀c b,a.Cw c=Y b->uI E a.f (iw a.ps c b) (lN a.rs (kF a.ps b))
def jn:(j:ao)->j.den->bp bd->(a:ao)->bA a.den
 |_,c,[],a=>iE a c
 |.osl d,i,.idx h::b,a=>match i[h]? with
  |some g=>jn d g b a
  |none=>bv
 |.optr d,c,.deref::b,a|.st d,c,.unst::b,a=>jn d c b a
 |.pr e _,c,.fst::b,a=>jn e c.1 b a
 |.pr _ f,c,.snd::b,a=>jn f c.2 b a
 |_,_,_,_=>bv
def Yz {a:k.den}:jn k a [] O=iE O a:=by cases k<;>rfl
theorem kC:∀{g:bp bd} {τ:ao} {e:τ.den} {d:ao} {f:d.den},jn τ e g d=Y f->e7 τ e g d f
 |[],τ,e,d,f,c=>by rw[Yz] at c;cases lD c;grind [e7.gY]
 |s::g,τ,e,d,f,c=>by
  cases τ<;>cases s<;>simp only[jn] at c<;>try (cases c;done)
  case osl.idx t i=>
   split at c
   ·rename_i h j;exact⟨h,j,kC c⟩
   grind
  case optr.deref t=>exact kC (τ:=t) c
  case st.unst t=>exact kC (τ:=t) c
  case pr.fst a b=>exact kC (τ:=a) c
  case pr.snd a b=>exact kC (τ:=b) c
def y8 {τ':ao} (b:τ'.den) (a:ao):bA a.den:=if e:eS τ' a=bt then Y (cast (eS.den e) b) else bv
theorem Sa {b:O.den} {c:k.den} (a:y8 b k=Y c):oI O b k c:=by
 unfold y8 at a;split at a
 ·rename_i d;cases a;exact .same d (cast_heq _ _).symm
 grind
def B7:(c:ao)->c.den->(b:ao)->bA b.den
 |.optr d,a,.ptr .dm e=>(y8 (τ':=d) a e).map Y
 |_,a,b=>y8 a b
theorem adZ {c:O.den} {d:k.den} (a:B7 O c k=Y d):oI O c k d:=by
 unfold B7 at a;split at a
 ·obtain⟨f,b,rfl⟩:=fO.1 a;simp only[y8] at b;split at b
  ·rename_i e;cases b;exact .ptr e (cast_heq _ _).symm
  grind
 exact Sa a
def qz:ao->Value->bD
 |τ,.agg _=>qL τ
 |_,.tuple _=>br
 |τ,_=>!qL τ
theorem qz.ok (a:qz k z=bt):eY k z.cells.toList=z:=by
 cases z<;>simp only[qz] at a<;>first
  |(cases a;done)
  |(rw[LG a];rfl)
  |(rw[uG] at a;rw[LF a];rfl)
def n1 (
 h:bp (X×aT)) (f:ak6):au->(a:ao)->bA a.den
 |.val _ g,a=>y8 g a
 |.eN d,a=>bif qz a d then jl a d.cells.toList else bv
 |.ref id c,a=>match e6 id f with
  |true=>bv
  |false=>match ay h id with
   |none=>bv
   |some b=>match gk b.1 c with
    |none=>bv
    |some e=>match jn b.1 b.2 c e with
     |none=>bv
     |some i=>B7 e i a
 |_,_=>bv
theorem H6 {h:k.den} (a:n1 c e b k=Y h):zB c e b ⟨k,h⟩:=by
 cases b with
 |val f d=>exact Sa a
 |eN p=>
  simp only[n1] at a;cases i:qz k p with
  |false=>grind
  |true=>rw[i] at a;exact⟨a,qz.ok i⟩
 |ref id n=>
  simp only[n1] at a;split at a
  ·cases a
  rename_i j;split at a
  ·cases a
  rename_i o l;split at a
  ·cases a
  rename_i f q;split at a
  ·cases a
  rename_i d m;have:e6 id e=br/\∃g f d,ay c id=Y g/\e7 g.1 g.2 n f d/\oI f d k h:=⟨j,o,f,d,l,kC m,adZ a⟩;exact this
 |_=>cases a
def vi (d:bp (X×aT)) (c:ak6):au->(b:ao)->bA b.den
 |.hY a,.ptr .bo e=>bif pi e then(n1 d c a e).map Y else bv
 |a,b=>n1 d c a b
def s9 (d:bp (X×aT)) (c:ak6):bp au->(b:ao)->bA b.den
 |[],.nil=>Y ()
 |a::f,.pr e b=>bif pi e then(vi d c a e).bind λh=>(s9 d c f b).map λg=>(h,g) else bv
 |_,_=>bv
def xU (d:bp (X×aT)) (c:ak6):au->(b:ao)->bA b.den
 |.hY (.eM f e),.ptr .bo (.fn g h)=>bif bL f g then(s9 d c e h).map Y else bv
 |a,b=>vi d c a b
def NX {f:k.den} (a:vi c e b k=Y f):pk c e b k f:=by
 unfold vi at a;split at a
 ·rename_i i h;cases d:pi h with
  |false=>rw[d] at a;cases a
  |true=>
   rw[d,bI] at a;obtain⟨j,g,rfl⟩:=fO.1 a;exact .hY d (.base (H6 g))
 exact .base (H6 a)
def NZ {h:bp (X×aT)} {g:ak6}:∀{f:bp au} {c:ao} {d:c.den},s9 h g f c=Y d->xb h g f c d
 |[],c,d,b=>by
  cases c<;>simp only[s9] at b<;>try (cases b;done)
  exact .nil
 |a::f,c,d,b=>by
  cases c<;>simp only[s9] at b<;>try (cases b;done)
  rename_i c l;cases e:pi c with
  |false=>rw[e] at b;cases b
  |true=>
   rw[e,bI] at b;obtain⟨m,j,b⟩:=fh.1 b;obtain⟨k,i,rfl⟩:=fO.1 b;exact .cons e (NX j) (NZ i)
def WC {f:k.den} (a:xU c e b k=Y f):pk c e b k f:=by
 unfold xU at a;split at a
 ·rename_i h j i l;cases d:bL h i with
  |false=>rw[d] at a;cases a
  |true=>
   rw[d,bI] at a;obtain rfl:=fN d;obtain⟨m,g,rfl⟩:=fO.1 a;exact .hY bq (.eM (NZ g))
 exact NX a
def pO (b:bp (X×aT)) (a:ak6):(g:bp ao)->bp au->bA (mb g)
 |[],[]=>Y ()
 |τ::d,c::as=>match xU b a c τ with
  |some f=>(pO b a d as).map (λe=>(f,e))
  |none=>bv
 |_,_=>bv
def Pw {f:bp (X×aT)} {d:ak6}:∀{c:bp ao} {e:bp au} {b:mb c},pO f d c e=Y b->ku (λb g=>pk f d b g.1 g.2) e (lN c b)
 |[],[],_,_=>trivial
 |[],_::_,_,a|_::_,[],_,a=>by cases a
 |τ::k,j::as,b,a=>by
  simp only[pO] at a;split at a
  case h_2=>cases a
  rename_i m i;obtain⟨l,h,rfl⟩:=fO.1 a;exact⟨WC i,Pw h⟩
def uA:bp au->bp hW->ak6
 |.ref id []::as,.m _::a|.ref id []::as,.o _::a|.view id [] _ _::as,.w _::a=>id::uA as a
 |_::as,_::a=>uA as a
 |_,_=>[]
def ud:Value->bD
 |.slice bv 0 0=>bt
 |_=>br
theorem ud.ok (a:ud z=bt):z=.slice bv 0 0:=by grind [ud]
def BV:(a:ao)->Value->bA a.den
 |.osl _,.slice bv 0 0=>Y []
 |_,_=>bv
theorem aaF {b:k.den} (a:BV k z=Y b):z=.slice bv 0 0/\∃c,(⟨k,b⟩:aT)=⟨.osl c,[]⟩:=by
 unfold BV at a;split at a
 ·simp_all
 grind
def gr (d:bp (X×aT)) (f:ak6):(t:bp hW)->bp au->bA (hS t)
 |[],[]=>Y ()
 |.v g::b,p::as=>match n1 d f p g with
  |some e=>(gr d f b as).map (λa=>(e,a))
  |none=>bv
 |.c r u::b,.eM q a::as=>bif bL q r then match pO d f u a with
  |some e=>(gr d f b as).map (λa=>(e,a))
  |none=>bv else bv
 |.m g::b,.ref id []::as=>bif g.gx&&sx g then match ay d id with
  |some h=>match iE g h.2 with
   |some e=>(gr d f b as).map (λa=>(e,a))
   |none=>bv
  |none=>bv else bv
 |.o g::b,.ref id []::as=>match ay d id with
  |some h=>match iE g h.2 with
   |some e=>(gr d f b as).map (λa=>(e,a))
   |none=>bv
  |none=>bv
 |.n::b,.eN i::as=>bif ud i then(gr d f b as).map (λa=>((),a)) else bv
 |.s _ _::b,_::as=>(gr d f b as).map (λa=>((),a))
 |.o g::b,.eN i::as=>match BV g i with
  |some e=>(gr d f b as).map (λa=>(e,a))
  |none=>bv
 |.w l::b,.view id [] k j::as=>bif l.gx then(bif cg k j then match ay d id with
  |some h=>match iE (.osl l) h.2 with
   |some e=>(gr d f b as).map (λa=>((e,k,j),a))
   |none=>bv
  |none=>bv else bv) else bv
 |_,_=>bv
def Dp {h:Type} (f:bp (X×aT)) (e:ak6) (av:au) (c:ao) (d:c.den->bA h):bA h:=match av with
 |.ref id g=>match e6 id e with
  |true=>bv
  |false=>match ay f id with
   |none=>bv
   |some a=>match gk a.1 g with
    |none=>bv
    |some i=>(jn a.1 a.2 g i).bind λj=>match B7 i j c with
     |none=>bv
     |some b=>d b
 |av=>match n1 f e av c with
  |none=>bv
  |some b=>d b
theorem V3 {d:k.den->bA f}:Dp c e b k d=(n1 c e b k).bind d:=by
 cases b with
 |ref id g=>
  grind [e6,ay,gk,jn,B7,Dp,n1]
 |_=>
  simp only[Dp];split
  ·rename_i a;rw[a];rfl
  rename_i a;rw[a];rfl
def kQ {p:Type} (e:bp (X×aT)) (g:ak6):(x:bp hW)->bp au->(hS x->bA p)->bA p
 |[],[],a=>a ()
 |.v h::d,r::as,a=>Dp e g r h λf=>kQ e g d as λb=>a (f,b)
 |.c u y::d,.eM t b::as,a=>bif bL t u then match pO e g y b with
  |some f=>kQ e g d as λb=>a (f,b)
  |none=>bv else bv
 |.m h::d,.ref id []::as,a=>bif h.gx&&sx h then match ay e id with
  |some i=>match iE h i.2 with
   |some f=>kQ e g d as λb=>a (f,b)
   |none=>bv
  |none=>bv else bv
 |.o h::d,.ref id []::as,a=>match ay e id with
  |some i=>match iE h i.2 with
   |some f=>kQ e g d as λb=>a (f,b)
   |none=>bv
  |none=>bv
 |.n::d,.eN j::as,a=>bif ud j then kQ e g d as λb=>a ((),b) else bv
 |.s _ _::d,_::as,a=>kQ e g d as λb=>a ((),b)
 |.o h::d,.eN j::as,a=>match BV h j with
  |some f=>kQ e g d as λb=>a (f,b)
  |none=>bv
 |.w q::d,.view id [] l k::as,a=>bif q.gx then(bif cg l k then match ay e id with
  |some i=>match iE (.osl q) i.2 with
   |some f=>kQ e g d as λb=>a ((f,l,k),b)
   |none=>bv
  |none=>bv else bv) else bv
 |_,_,_=>bv
theorem n6 {A:Type} {d:bp (X×aT)} {f:ak6}:∀{k:bp hW} {q:bp au} {b:hS k->bA A},kQ d f k q b=(gr d f k q).bind b
 |[],[],b|[],_::_,b=>rfl
 |p::a,[],b=>by cases p<;>rfl
 |.v h::a,e::as,b=>by
  simp only[kQ,gr,V3];cases n1 d f e h with
  |none=>rfl
  |some g=>
   simp only[aF];rw[n6];cases gr d f a as<;>rfl
 |.c z B::a,e::as,b=>by
  cases e with
  |eM y i=>
   simp only[kQ,gr];cases bL y z with
   |false=>rfl
   |true=>
    simp only[bI];cases pO d f B i with
    |none=>rfl
    |some g=>
     simp only;rw[n6];cases gr d f a as<;>rfl
  |ref id p=>cases p<;>rfl
  |_=>rfl
 |.m h::a,e::as,b=>by
  cases e with
  |ref id p=>
   cases p with
   |cons=>rfl
   |nil=>
    simp only[kQ,gr];cases(h.gx&&sx h) with
    |false=>rfl
    |true=>
     simp only[bI];cases ay d id with
     |none=>rfl
     |some j=>
      simp only;cases iE h j.2 with
      |none=>rfl
      |some g=>
       simp only;rw[n6];cases gr d f a as<;>rfl
  |_=>rfl
 |.o h::a,e::as,b=>by
  cases e with
  |ref id p=>
   cases p with
   |cons=>rfl
   |nil=>
    simp only[kQ,gr];cases ay d id with
    |none=>rfl
    |some j=>
     simp only;cases iE h j.2 with
     |none=>rfl
     |some g=>
      simp only;rw[n6];cases gr d f a as<;>rfl
  |eN l=>
   simp only[kQ,gr];cases BV h l with
   |none=>rfl
   |some g=>
    simp only;rw[n6];cases gr d f a as<;>rfl
  |_=>rfl
 |.w u::a,e::as,b=>by
  cases e with
  |view id p t r=>
   cases p with
   |cons=>rfl
   |nil=>
    simp only[kQ,gr];cases u.gx with
    |false=>rfl
    |true=>
     simp only[bI];cases cg t r with
     |false=>rfl
     |true=>
     simp only[bI];cases ay d id with
     |none=>rfl
     |some j=>
      simp only;cases iE (.osl u) j.2 with
      |none=>rfl
      |some g=>
       simp only;rw[n6];cases gr d f a as<;>rfl
  |ref id p=>cases p<;>rfl
  |_=>rfl
 |.n::a,e::as,b=>by
  cases e with
  |eN l=>
   simp only[kQ,gr];cases ud l with
   |false=>rfl
   |true=>
    simp only[bI];rw[n6];cases gr d f a as<;>rfl
  |ref id p=>cases p<;>rfl
  |_=>rfl
 |.s C i::a,e::as,b=>by
  have x:∀g:bA (hS a),(g.bind λi=>b ((),i))=(g.map λi=>((),i)).bind b:=λg=>(by cases g<;>rfl);cases e with
  |ref id p|view id p t r=>cases p<;>(simp only[kQ,gr];rw[n6];grind)
  |_=>simp only[kQ,gr];rw[n6];exact x _
theorem TV {r:Type}:∀{ps:bp hW} {a:hS ps} {b:jo ps r} {avs:bp au},hy avs (iw ps a b)=uA avs ps
 |[],a,b,avs=>by cases avs with|nil=>rfl|cons h c=>cases h<;>first|rfl|(rename_i id p;cases p<;>rfl)|(rename_i id p c g;cases p<;>rfl)
 |p::c,a,b,[]=>by cases p<;>rfl
 |p::c,a,b,f::avs=>by have d:=λa b=>TV (r:=r) (ps:=c) (a:=a) (b:=b) (avs:=avs);cases p<;>cases f<;>first|exact d _ _|(rename_i id e;cases e<;>simp only[iw,hy,uA,d];done)|(rename_i id e c g;cases e<;>simp only[iw,hy,uA,d])
theorem r6 {G:Type} {q:bp (X×aT)} {u:ak6}:∀{r:bp hW} {e:hS r} {g:jo r G} {h:bp au},gr q u r h=Y e->p2 q u h (iw r e g)
 |[],e,g,[],_=>trivial
 |[],e,g,_::_,a=>by cases a
 |p::i,e,g,[],a=>by cases p<;>cases a
 |.v t::i,e,g,d::h,a=>by
  simp only[gr] at a;split at a
  case h_2=>cases a
  rename_i l j;obtain⟨k,b,rfl⟩:=fO.1 a;exact⟨by cases d<;>exact H6 j,r6 b⟩
 |.c F J::i,e,g,d::h,a=>by
  cases d with
  |eM E k=>
   simp only[gr] at a;cases f:bL E F with
   |false=>grind
   |true=>
    rw[f] at a;obtain rfl:=fN f;simp only[bI] at a;split at a
    case h_2=>cases a
    rename_i l j;obtain⟨I,b,rfl⟩:=fO.1 a;exact⟨⟨bq,Pw j⟩,r6 b⟩
  |ref id p=>cases p<;>cases a
  |_=>cases a
 |.m t::i,e,g,d::h,a=>by
  cases d with
  |ref id p=>cases p with
   |cons=>cases a
   |nil=>
    simp only[gr] at a;cases f:(t.gx&&sx t) with
    |false=>grind
    |true=>
     rw[f] at a;simp only[cL] at f;simp only[bI] at a;split at a
     case h_2=>cases a
     rename_i B A;split at a
     case h_2=>cases a
     rename_i l j;obtain⟨k,b,rfl⟩:=fO.1 a;refine⟨⟨?_,f.1,f.2⟩,r6 b⟩;grind [lD]
  |_=>cases a
 |.o t::i,e,g,d::h,a=>by
  cases d with
  |ref id p=>cases p with
   |cons=>cases a
   |nil=>
    simp only[gr] at a;split at a
    case h_2=>cases a
    rename_i B A;split at a
    case h_2=>cases a
    rename_i l j;obtain⟨k,b,rfl⟩:=fO.1 a;refine⟨?_,r6 b⟩;show ay q id=Y _;grind [lD]
  |eN C=>
   simp only[gr] at a;split at a
   case h_2=>cases a
   rename_i l j;obtain⟨k,b,rfl⟩:=fO.1 a;exact⟨aaF j,r6 b⟩
  |_=>cases a
 |.w H::i,e,g,d::h,a=>by
  cases d with
  |view id p y x=>cases p with
   |cons=>cases a
   |nil=>
    simp only[gr] at a;cases f:H.gx with
    |false=>grind
    |true=>
     rw[f] at a;simp only[bI] at a;cases z:cg y x with
     |false=>grind
     |true=>
     rw[z] at a;simp only[bI] at a;split at a
     case h_2=>cases a
     rename_i B A;split at a
     case h_2=>cases a
     rename_i l j;obtain⟨k,b,rfl⟩:=fO.1 a;refine⟨⟨?_,⟨bq,bq⟩,g8 z,f⟩,r6 b⟩;grind [lD]
  |ref id p=>cases p<;>cases a
  |_=>cases a
 |.n::i,e,g,d::h,a=>by
  cases d with
  |eN C=>
   simp only[gr] at a;cases f:ud C with
   |false=>grind
   |true=>
    rw[f] at a;obtain⟨k,b,rfl⟩:=fO.1 a;exact⟨ud.ok f,r6 b⟩
  |ref id p=>cases p<;>cases a
  |_=>cases a
 |.s D k::i,e,g,d::h,a=>by
  have a:(gr q u i h).map (λl=>(((),l):hS (.s D k::i)))=Y e:=by
   cases d with
   |ref id p|view id p y x=>cases p<;>exact a
   |_=>exact a
  obtain⟨l,b,rfl⟩:=fO.1 a;refine⟨?_,r6 b⟩;cases d with
  |ref id p|view id p y x=>cases p<;>trivial
  |_=>trivial
end
section
def pd:(τ:ao)->τ.den->bp bd->(b:ao)->b.den->bA τ.den
 |τ,_,[],_,a=>iE τ a
 |.osl f,h,.idx g::c,b,a=>match h[g]? with
  |some k=>(pd f k c b a).map λe=>h.set g e
  |none=>bv
 |.optr f,d,.deref::c,b,a|.st f,d,.unst::c,b,a=>pd f d c b a
 |.pr i _,d,.fst::c,b,a=>(pd i d.1 c b a).map λe=>(e,d.2)
 |.pr _ j,d,.snd::c,b,a=>(pd j d.2 c b a).map λe=>(d.1,e)
 |_,_,_,_,_=>bv
theorem afF {b:k.den} {a:O.den}:pd k b [] O a=iE k a:=by cases k<;>rfl
theorem gD.aat {d:k.den} {a:O.den} {b:k.den} (c:iE k a=Y b):gD k d [] O a b:=by cases lD c;cases k<;>exact⟨bq,bq⟩
theorem ss:∀{k:bp bd} {τ:ao} {g:τ.den} {f:ao} {h:f.den} {j:τ.den},pd τ g k f h=Y j->gD τ g k f h j
 |[],τ,g,f,h,j,c=>by grind [gD.aat,afF]
 |s::k,τ,g,f,h,j,c=>by
  cases τ<;>cases s<;>simp only[pd] at c<;>try (cases c;done)
  case osl.idx t i=>
   split at c
   ·rename_i l m;obtain⟨d,e,rfl⟩:=fO.1 c;exact⟨l,d,m,ss e,bq⟩
   grind
  case optr.deref t=>exact ss (τ:=t) c
  case st.unst t=>exact ss (τ:=t) c
  case pr.fst a b=>
   obtain⟨d,e,rfl⟩:=fO.1 c;exact⟨d,ss e,bq⟩
  case pr.snd a b=>
   obtain⟨d,e,rfl⟩:=fO.1 c;exact⟨d,ss e,bq⟩
def gF (a:Z):ak2:=if 0<=a then Y a.toNat else bv
theorem aam (b:gF P=Y a):P=(a:Z):=by grind [gF]
def bm (b:X) (a:Z):ak2:=if 0<=a/\a.toNat<b then Y a.toNat else bv
theorem PM (b:bm r P=Y a):P=(a:Z)/\a<r:=by grind [bm]
def cI (a:X):bA bw:=if a<=h1 then Y () else bv
theorem yO {b:bw} (c:cI a=Y b):a<=h1:=by grind [cI]
def kT (b:cD) (c a:Z):ak1:=if a≠0 then Y (b.wrap (c.tdiv a)) else bv
def jq (b a:Z):ak1:=if a≠0 then Y (b.tmod a) else bv
def iz (a:cD) (c b:Z):ak1:=if 0<=b then Y (a.wrap (c*2^min b.toNat a.bits)) else bv
def eT (b:cD) (c a:Z):ak1:=if 0<=a then Y (c.fdiv (2^min a.toNat b.bits)) else bv
def e3 (a:cD) (b c:Z):Z:=a.wrap (cn a.bits b&&&cn a.bits c).toNat
def gM (a:cD) (b c:Z):Z:=a.wrap (cn a.bits b|||cn a.bits c).toNat
def uF (a:cD) (b c:Z):Z:=a.wrap (cn a.bits b^^^cn a.bits c).toNat
def Dn (a:cD) (b c:Z):Z:=a.wrap (cn a.bits b&&&~~~cn a.bits c).toNat
def xO (c:bA au) (a:X):ak2:=
 match c with
 |none=>Y a
 |some (.val (.int _) b)=>gF b
 |some _=>bv
theorem Dw {c:bA au} (b:xO c a=Y r):s7 c a r:=by
 unfold xO at b;unfold s7;split at b
 ·grind
 ·exact aam b
 grind
def he (b a c:X):bA bw:=if b<=a/\a<=c then Y () else bv
theorem P3 {b:X} {c:bw} (d:he r a b=Y c):r<=a/\a<=b:=by grind [he]
def oi (_:X):bA bw:=Y ()
def fS (a b:Z):ak2:=if 0<=a/\a<=b/\b<=(h1:Z) then Y a.toNat else bv
open Classical in
def sh {b:Type} (c:X) (d a:bA b):bA b:=if c=0 then if d=a then a else bv else a
theorem aaq {c d:bA f} {b:f} (e:sh a c d=Y b):d=Y b/\(a=0->c=Y b):=by grind [absurd,sh]
def qw:ak7:=[0,1,28,2,29,14,24,3,30,22,20,15,25,17,4,8,31,27,13,23,21,19,16,7,26,12,18,6,11,5,10,9]
inductive HJ where
 |e9 (av:au)
 |opt (α:Type) (o:bA α) (f:α->au)
 |new (α:Type) (o:bA α) (t:α->aT) (d:X)
 |no
def lg (tt:bp (bN×ao)) (y:bp (X×ao)) (l:bp (X×aT)) (f:bS->au) (w:X) (v:Op):HJ:=
 match v with
 |.binOp v _ b d _=>match f b,f d with
  |.val (.int c) b,.val (.int z) d=>if c=z then
   (match v with
   |.add=>.e9 (.val (.int c) (c.wrap (b+d)))
   |.sub=>.e9 (.val (.int c) (c.wrap (b-d)))
   |.mul=>.e9 (.val (.int c) (c.wrap (b*d)))
   |.quo=>.opt Z (kT c b d) (.val (.int c))
   |.rem=>.opt Z (jq b d) (.val (.int c))
   |.shl=>.opt Z (iz c b d) (.val (.int c))
   |.shr=>.opt Z (eT c b d) (.val (.int c))
   |.and=>.e9 (.val (.int c) (e3 c b d))
   |.or=>.e9 (.val (.int c) (gM c b d))
   |.xor=>.e9 (.val (.int c) (uF c b d))
   |.andNot=>.e9 (.val (.int c) (Dn c b d))
   |_=>.no) else
   (match v with
   |.shl=>.opt Z (iz c b d) (.val (.int c))
   |.shr=>.opt Z (eT c b d) (.val (.int c))
   |_=>.no)
  |_,_=>.no
 |.unOp .neg _ b=>match f b with
  |.val (.int c) b=>.e9 (.val (.int c) (c.wrap (0-b)))
  |_=>.no
 |.convert t p b=>match ay tt t,ay tt p,f b with
  |some (.int _),Y (.int c),.val (.int _) b=>.e9 (.val (.int c) (c.wrap b))
  |_,_,_=>.no
 |.nilCheck b=>match f b with
  |.val (.ptr r a) b=>.opt a.den b λd=>.val (.ptr r a) (Y d)
  |_=>.no
 |.indexAddr i b q=>match hd tt i,f q with
  |some h,.val (.int _) q=>match f b with
   |.val (.bb r a) j=>bif bi h a then .opt a.den (aq j q) λd=>.val (.ptr r a) (Y d) else .no
   |.ref id g=>match ay l id with
    |some e=>match gk e.1 g with
     |some (.osl a)=>bif bi h a then .opt X ((jn e.1 e.2 g (.osl a)).bind λj=>bm j.length q) λc=>.addr id (g++[.idx c]) else .no
     |_=>.no
    |none=>.no
   |.view id [] s u=>match ay l id with
    |some e=>match e.1 with
     |.osl a=>bif bi h a then .opt X (bm (u-s) q) λc=>.addr id [.idx (s+c)] else .no
     |_=>.no
    |none=>.no
   |_=>.no
  |_,_=>.no
 |.load i b=>match ay tt i with
  |some h=>match f b with
   |.addr id g=>match ay l id with
    |some e=>match gk e.1 g with
     |some a=>bif bi h a&&a.pure then .opt a.den (jn e.1 e.2 g a) λd=>.val a d else .no
     |none=>.no
    |none=>.no
   |.ref id g=>match ay l id with
    |some e=>match gk e.1 g with
     |some (.optr a)=>bif bi h a&&a.pure then .opt a.den (jn e.1 e.2 (g++[.deref]) a) λd=>.val a d else .no
     |_=>.no
    |none=>.no
   |.val (.ptr _ a) b=>bif bi h a then .opt a.den b λd=>wF a d else .no
   |_=>.no
  |none=>.no
 |.fieldAddr i b m=>match m8 tt i,f b with
  |some h,.val (.ptr r (.st a)) b=>bif bi h a&&(ga a m).isSome then .opt a.den b λd=>(match r1 a d m with
   |some n=>.val (.ptr r n.1) (Y n.2)
   |none=>.dead) else .no
  |_,_=>.no
 |.slice i b s u bv=>match hd tt i with
  |some h=>match f b with
   |.val (.bb r a) j=>bif bi h a then
    .opt ew ((xO (s.map f) 0).bind λk=>(xO (u.map f) j.length).bind λp=>(he k p j.length).map λ_=>(k,p)) (λn=>.val (.bb r a) ((j.take n.2).drop n.1)) else .no
   |.ref id g=>match ay l id with
    |some e=>match gk e.1 g with
     |some (.osl a)=>bif bi h a then
      .opt ew ((jn e.1 e.2 g (.osl a)).bind λj=>(xO (s.map f) 0).bind λk=>(xO (u.map f) j.length).bind λp=>(he k p j.length).bind λ_=>(oi j.length).map λ_=>(k,p)) (λn=>.view id g n.1 n.2) else .no
     |_=>.no
    |none=>.no
   |_=>.no
  |none=>.no
 |.makeSlice i k o=>match hd tt i,ay y w,ay l w with
  |some h,Y (.osl a),bv=>match np a,f k,f o with
   |some x,.val (.int _) k,.val (.int _) o=>bif bi h a&&b5 a.size 2000 then
    .new X (fS k o) (λm=>⟨.osl a,bJ m x⟩) w else .no
   |_,_,_=>.no
  |_,_,_=>.no
 |.index i b q=>match ay tt i,f b,f q with
  |some .str,.eN (.string t),.val (.int _) m|some .str,.val .str t,.val (.int _) m=>.opt Z (q5 t m) (.val (.int .u8))
  |_,_,_=>.no
 |.lookup i b c B=>match sc tt i,f b,f c with
  |some h,.ref id g,.val (.int .i64) c=>match ay l id with
   |some e=>match gk e.1 g with
    |some (.mp a)=>match np a with
     |some x=>bif bi h a then .opt (bA (bp (Z×a.den)×X)) (jn e.1 e.2 g (.mp a)) λA=>F9 a A x c B else .no
     |none=>.no
    |_=>.no
   |none=>.no
  |_,_,_=>.no
 |.call o=>match o.callee,o.args.toList,o.argTypes.toList with
  |.builtin .len,[b],[i]=>match hd tt i,f b with
   |some _,.ref id g=>match ay l id with
    |some e=>match gk e.1 g with
     |some (.osl a)=>.opt (bp a.den) (jn e.1 e.2 g (.osl a)) λj=>.val (.int .i64) (j.length:Z)
     |_=>.no
    |none=>.no
   |_,_=>.no
  |_,_,_=>.no
 |_=>.no
theorem Ph:∀{t:ao} {y:t.den} {b:X},(ga t b).isSome=bt->∃d,r1 t y b=Y d
 |.pr e c,y,0,_=>⟨_,bq⟩
 |.pr e c,y,b+1,a=>by
  simp only[ga] at a;split at a
  ·rename_i d f;exact Ph (t:=c) ae
  grind
 |.int _,_,_,a|.bool,_,_,a|.str,_,_,a|.bb _ _,_,_,a|.ptr _ _,_,_,a|.osl _,_,_,a|.optr _,_,_,a|.st _,_,_,a|.nil,_,_,a|.eL,_,_,a=>by cases a
def HJ.K (g:HJ) (b:au->bp (X×aT)->Prop):Prop:=
 match g with
 |.e9 e=>b e []
 |.opt _ c f=>∃a,c=Y a/\b (f a) []
 |.new _ c h d=>∃a,c=Y a/\b (.ref d []) [(d,h a)]
 |.no=>b7
theorem Jq {tt:bp (bN×ao)} {O:Op} {P:au->bp (X×aT)->Prop} (b:(lg tt j c S a O).K P):(hj tt j c S a O).K P:=by
 unfold lg at b;split at b
 ·rename_i O r l k a0;simp only[hj];split at b
  case h_2=>exact b.elim
  rename_i q l T k h ad;simp only[h,ad];split at b
  ·rename_i x;subst x;split at b
   ·simp only[mx,cp];exact⟨_,⟨trivial,bq⟩,b⟩
   ·simp only[mx,cp];exact⟨_,⟨trivial,bq⟩,b⟩
   ·simp only[mx,cp];exact⟨_,⟨trivial,bq⟩,b⟩
   ·obtain⟨v,i,f⟩:=b;unfold kT at i;split at i
    ·rename_i e;cases i;simp only[mx,cp];exact⟨_,⟨e,bq⟩,f⟩
    grind
   ·obtain⟨v,i,f⟩:=b;unfold jq at i;split at i
    ·rename_i e;cases i;simp only[mx,cp];exact⟨_,⟨e,bq⟩,f⟩
    grind
   ·obtain⟨v,i,f⟩:=b;unfold iz at i;split at i
    ·rename_i e;cases i;exact⟨_,⟨e,bq⟩,f⟩
    grind
   ·obtain⟨v,i,f⟩:=b;unfold eT at i;split at i
    ·rename_i e;cases i;exact⟨_,⟨e,bq⟩,f⟩
    grind
   ·simp only[mx,cp];exact⟨_,⟨trivial,bq⟩,b⟩
   ·simp only[mx,cp];exact⟨_,⟨trivial,bq⟩,b⟩
   ·simp only[mx,cp];exact⟨_,⟨trivial,bq⟩,b⟩
   ·simp only[mx,cp];exact⟨_,⟨trivial,bq⟩,b⟩
   exact b.elim
  split at b
  ·obtain⟨v,i,f⟩:=b;unfold iz at i;split at i
   ·rename_i e;cases i;exact⟨_,⟨e,bq⟩,f⟩
   grind
  ·obtain⟨v,i,f⟩:=b;unfold eT at i;split at i
   ·rename_i e;cases i;exact⟨_,⟨e,bq⟩,f⟩
   grind
  exact b.elim
 ·rename_i r l;simp only[hj];split at b
  case h_2=>exact b.elim
  rename_i q l h;rw[h];exact⟨_,bq,b⟩
 ·rename_i U x l;simp only[hj,DB];split at b
  case h_2=>exact b.elim
  rename_i T q a4 l ax n h;rw[ax,n,h];exact⟨_,bq,b⟩
 ·rename_i l;simp only[hj,wx];split at b
  case h_2=>exact b.elim
  rename_i D g l h;rw[h];obtain⟨k,rfl,f⟩:=b;exact⟨k,bq,f⟩
 ·rename_i r l R;simp only[hj,v9];split at b
  case h_2=>exact b.elim
  rename_i m q R ax n;rw[ax,n];simp only;split at b
  ·rename_i D g B h;rw[h];simp only;cases d:bi m g with
   |false=>rw[d] at b;exact b.elim
   |true=>
   rw[d] at b;obtain⟨k,e,f⟩:=b;exact⟨k,e,f⟩
  ·rename_i id A h;rw[h];simp only;split at b
   case h_2=>exact b.elim
   rename_i w o;rw[o];simp only;split at b
   case h_2=>exact b.elim
   rename_i g p;rw[p];simp only;cases d:bi m g with
   |false=>rw[d] at b;exact b.elim
   |true=>
   rw[d] at b;obtain⟨k,e,f⟩:=b;obtain⟨B,M,e⟩:=fh.1 e;obtain⟨t,u⟩:=PM e;exact⟨(B,k),⟨kC M,t,u⟩,f⟩
  ·rename_i id ap am h;rw[h];simp only;split at b
   case h_2=>exact b.elim
   rename_i w o;obtain⟨bx,l⟩:=w;rw[o];simp only at b|-;split at b
   case h_2=>exact b.elim
   rename_i g;simp only[gk];cases d:bi m g with
   |false=>rw[d] at b;exact b.elim
   |true=>
   rw[d] at b;obtain⟨q,an,f⟩:=b;obtain⟨t,u⟩:=PM an;exact⟨(l,q),⟨⟨bq,bq⟩,t,u⟩,f⟩
  exact b.elim
 ·rename_i r l;simp only[hj,wg];split at b
  case h_2=>exact b.elim
  rename_i m ax;rw[ax];simp only;split at b
  ·rename_i id A h;rw[h];simp only;split at b
   case h_2=>exact b.elim
   rename_i w o;rw[o];simp only;split at b
   case h_2=>exact b.elim
   rename_i g p;rw[p];simp only[wM];cases d:(bi m g&&g.pure) with
   |false=>rw[d] at b;exact b.elim
   |true=>
   rw[d] at b;simp only[cL] at d;rw[d.1,d.2];obtain⟨k,e,f⟩:=b;exact⟨k,kC e,f⟩
  ·rename_i id A h;rw[h];simp only;split at b
   case h_2=>exact b.elim
   rename_i w o;rw[o];simp only;split at b
   case h_2=>exact b.elim
   rename_i g p;rw[p];simp only[wM];cases d:(bi m g&&g.pure) with
   |false=>rw[d] at b;exact b.elim
   |true=>
   rw[d] at b;simp only[cL] at d;rw[d.1,d.2];obtain⟨k,e,f⟩:=b;exact⟨k,kC e,f⟩
  ·rename_i D g l h;rw[h];cases d:bi m g with
   |false=>rw[d] at b;exact b.elim
   |true=>
   rw[d] at b;obtain⟨k,rfl,f⟩:=b;simp only[d,bI];exact f
  exact b.elim
 ·rename_i r l N;simp only[hj,vZ];split at b
  case h_2=>exact b.elim
  rename_i m D g l ax h;rw[ax,h];cases d:(bi m g&&(ga g N).isSome) with
  |false=>rw[d] at b;exact b.elim
  |true=>
  rw[d] at b;simp only[cL] at d;obtain⟨k,rfl,f⟩:=b;obtain⟨bs,Q⟩:=Ph (y:=k) d.2;simp only[Q] at f;simp only[d.1,bI,Q];exact f
 ·rename_i r l ap am;simp only[hj,wW];split at b
  case h_2=>exact b.elim
  rename_i m ax;rw[ax];simp only;split at b
  ·rename_i D g B h;rw[h];simp only;cases d:bi m g with
   |false=>rw[d] at b;exact b.elim
   |true=>
   rw[d] at b;obtain⟨k,e,f⟩:=b;obtain⟨z,J,e⟩:=fh.1 e;obtain⟨x,I,e⟩:=fh.1 e;obtain⟨av,L,rfl⟩:=fO.1 e;obtain⟨t,u⟩:=P3 L;exact⟨(z,x),⟨Dw J,Dw I,t,u⟩,f⟩
  ·rename_i id A h;rw[h];simp only;split at b
   case h_2=>exact b.elim
   rename_i w o;rw[o];simp only;split at b
   case h_2=>exact b.elim
   rename_i g p;rw[p];simp only;cases d:bi m g with
   |false=>rw[d] at b;exact b.elim
   |true=>
   rw[d] at b;obtain⟨k,e,f⟩:=b;obtain⟨B,M,e⟩:=fh.1 e;obtain⟨z,J,e⟩:=fh.1 e;obtain⟨x,I,e⟩:=fh.1 e;obtain⟨av,L,e⟩:=fh.1 e;obtain⟨fL,a3,rfl⟩:=fO.1 e;obtain⟨t,u⟩:=P3 L;exact⟨(B,z,x),⟨kC M,Dw J,Dw I,t,u⟩,f⟩
  exact b.elim
 ·rename_i r z F;simp only[hj,wj];split at b
  case h_2=>exact b.elim
  rename_i m g ax n s;rw[ax,n,s];simp only;split at b
  case h_2=>exact b.elim
  rename_i v q z T F C G V;rw[C,G,V];simp only;cases d:(bi m g&&b5 g.size 2000) with
  |false=>rw[d] at b;exact b.elim
  |true=>
  rw[d] at b;obtain⟨k,e,f⟩:=b;unfold fS at e;split at e
  ·rename_i H;cases e;exact⟨(z.toNat,F.toNat),⟨(apB H.1).symm,(apB (Int.le_trans H.1 H.2.1)).symm,aa,aa⟩,f⟩
  grind
 ·rename_i r l R;simp only[hj,G8];split at b
  ·rename_i U q N ax n s;rw[ax,n,s];obtain⟨E,d,f⟩:=b;exact⟨E,d,f⟩
  ·rename_i U q N ax n s;rw[ax,n,s];obtain⟨E,d,f⟩:=b;exact⟨E,d,f⟩
  exact b.elim
 ·rename_i r l q bl;simp only[hj,wh];split at b
  case h_2=>exact b.elim
  rename_i m id A q ax n s;rw[ax,n,s];simp only;split at b
  case h_2=>exact b.elim
  rename_i w o;rw[o];simp only;split at b
  case h_2=>exact b.elim
  rename_i g p;rw[p];simp only;split at b
  case h_2=>exact b.elim
  rename_i v i;rw[i];simp only;cases d:bi m g with
  |false=>rw[d] at b;exact b.elim
  |true=>
  rw[d] at b;obtain⟨k,e,f⟩:=b;exact⟨k,kC e,f⟩
 ·rename_i F;simp only[hj];split at b
  ·rename_i l r ax n s;rw[ax,n,s];simp only;split at b
   ·rename_i m id A C G;rw[C,G];simp only[we,C];split at b
    case h_2=>exact b.elim
    rename_i w o;rw[o];simp only;split at b
    case h_2=>exact b.elim
    rename_i g p;rw[p];obtain⟨k,e,f⟩:=b;exact⟨k,kC e,f⟩
   exact b.elim
  exact b.elim
 exact b.elim
def jS {e:Type} (c d:bp e) (a b:X):bp e:=c.take a++(d.take (b-a)++c.drop (a+min d.length (b-a)))
end
section
def BC:au->bD
 |.val _ _=>bt
 |_=>br
def Ki:au->bD
 |.val _ _=>bt
 |.eM _ a=>a.all BC
 |_=>br
theorem Kj (c:Ki b=bt):∀id∈b.ids,False:=by
 intro id d;cases b with
 |val f e=>grind [bW]
 |eM g a=>
  have c:a.all BC=bt:=c;have:∀a:bp au,a.all BC=bt->∀id∈al8 a,False:=by
   intro a
   induction a with
   |nil=>grind [al8]
   |cons b a h=>
    intro c id d;simp only[sI,cL] at c;simp only[al8,hM] at d;rcases d with d|d
    ·cases b with
     |val f e=>grind [bW]
     |_=>cases c.1
    grind
  exact this a c id d
 |_=>cases c
def p9 (C:fb) (c:bp (X×au)):Prop:=
 (∀a,C.I0 a\/C.B a->a<C.w0.heap.size/\¬C.F0 a)/\
 ∀b∈c,b.1∈C.pin/\Ki b.2=bt/\c8 (cG C.I0 C.B) C.w0 [] (λ_=>[]) (λ_=>[]) b.2 (C.vs b.1)
section
variable {E:fY} {C:fb}
def p9.nil (b:∀a,C.I0 a\/C.B a->a<C.w0.heap.size/\¬C.F0 a):p9 C []:=⟨b,λc b=>by cases b⟩
theorem YG (c b:bp (X×au)) (a:X):gt (c++b) a=match ay c a with|some d=>d|none=>gt b a:=by grind [lL,ay,gt]
theorem BH {e:Type}:∀{c:bp (X×e)} {b:X} {d:e},ay c b=Y d->(b,d)∈c
 |[],_,_,a=>by cases a
 |(f,v0)::c,b,d,a=>by
  rw[eX] at a;split at a
  ·grind
  exact ht _ (BH a)
def g0.kg {f:bp (X×au)} (j:p9 C f) {k:akY} (o:g0 C i k t):g0 C ⟨f++i.g,i.h⟩ k t:=by
 obtain⟨l,x,n,b⟩:=o;refine⟨l,x,n,{b with tmp:=λc=>?_}⟩;show c8 _ _ _ _ _ (gt (f++i.g) c) _;rw[YG];split
 ·rename_i m u;obtain⟨p,q,d⟩:=j.2 _ (BH u);have d:c8 (cG C.I0 C.B) C.w0 [] (λ_=>[]) (λ_=>[]) m (C.vs c):=d;rw[b.pin c p];refine d.ws (λv a e=>?_) (λid s=>(Kj q id s).elim);have r:C.I0 a\/C.B a:=od e;obtain⟨aE,w⟩:=j.1 a r;refine⟨?_,aoy (b.frame a aE w)⟩;cases v
  ·exact b.i0 a e
  exact e.imp (b.i0 a) id
 exact b.tmp c
def J.kg {d:bp (X×au)} (k:p9 C d) {c:cA} {a:aW} {b:ca->aW->Prop} (f:J E C c ⟨d++a.g,a.h⟩ b):J E C c a b:=
 λe l i j=>f e l (i.kg k) j
def tS (a:bp (X×au)):ak6->bA (bp (X×au))
 |[]=>Y []
 |k::c=>match gt a k with
  |.val g f=>(tS a c).map λb=>(k,.val g f)::b
  |.eM e d=>bif d.all BC then(tS a c).map λb=>(k,.eM e d)::b else bv
  |_=>bv
theorem J9 {h:bp (X×au)}:∀{g:ak6} {d:bp (X×au)},tS h g=Y d->∀b∈d,b.1∈g/\Ki b.2=bt/\gt h b.1=b.2
 |[],d,c,b,a=>by cases c;cases a
 |k::g,d,c,b,a=>by
  simp only[tS] at c;split at c
  ·rename_i q p f;obtain⟨n,e,rfl⟩:=fO.1 c;rcases gn.1 a with rfl|a
   ·exact⟨mU ..,bq,f⟩
   obtain⟨j,l⟩:=J9 e b a;grind
  ·rename_i o m f;cases i:m.all BC with
   |false=>grind
   |true=>
   rw[i] at c;obtain⟨n,e,rfl⟩:=fO.1 c;rcases gn.1 a with rfl|a
   ·exact⟨mU ..,i,f⟩
   obtain⟨j,l⟩:=J9 e b a;grind
  grind
theorem J.keep {L:cA} {H I:bp (X×au)} (r:p9 C H) (ap:tS i.g e=Y I) (l:∀k:fb,k.n=C.n->k.pin=e++C.pin->p9 k (I++H)->(∀t,u5 C t->u5 k t)->(mj E C.I0 C.w0->mj E k.I0 k.w0)->J E k L i v):J E C L i v:=by
 rintro u K ⟨z,N,A,b⟩ ad
 let k:fb:={I0:=z,B:=C.B,F0:=λa=>∃id d,ay i.h id=Y d/\a∈A id,w0:=K,n:=C.n,pin:=e++C.pin,vs:=λq=>u.tmps.getD q bZ}
 have U:c6 k i u.tmps K z N A:=
  {n:=b.n,i0:=λ_ l=>l,i1:=λ_ l=>.inl l,ib:=b.ib,tree:=λid d j=>⟨(b.tree id d j).1,(b.tree id d j).2.1,λa c=>⟨((b.tree id d j).2.2 a c).1,((b.tree id d j).2.2 a c).2.1,((b.tree id d j).2.2 a c).2.2.1,.inr ⟨id,d,j,c⟩⟩⟩,dis:=b.dis,tmp:=b.tmp,frame:=λ_ _ _=>rfl,evo:=λ_ _=>.refl _ _,size:=bg _,os:=rfl,tape:=rfl,output:=rfl,pin:=λq _=>rfl}
 have an:p9 k (I++H):=by
  refine⟨λa c=>⟨b.ib a c,?_⟩,λx p=>?_⟩
  ·rintro⟨id,d,j,V⟩;obtain⟨aE,y,_⟩:=(b.tree id d j).2.2 a V;grind
  rcases hM.1 p with p|p
  ·obtain⟨m,o,D⟩:=J9 ap x p;refine⟨hM.2 (.inl m),o,?_⟩;have:=b.tmp x.1;rw[D] at this;exact this.ws (λM a s=>⟨s,ald _ _⟩) (λid F=>(Kj o id F).elim)
  obtain⟨m,o,D⟩:=r.2 x p;refine⟨hM.2 (.inr m),o,?_⟩;show c8 _ _ _ _ _ _ (u.tmps.getD x.1 bZ);rw[b.pin _ m];refine D.ws (λM a s=>?_) (λid F=>(Kj o id F).elim);obtain⟨aE,y⟩:=r.1 a (od s);refine⟨?_,aoy (b.frame a aE y)⟩;cases M
  ·exact b.i0 a s
  exact s.imp (b.i0 a) id
 have a0:∀t,u5 C t->u5 k t:=by
  rintro(_|⟨q,dl,d0⟩) av
  ·trivial
  obtain⟨O,P,a,a3,c1,ci,Q,co,d1,cs⟩:=av;refine⟨lw _ O,λw G=>lw _ (P w G),a,a3,c1,(b.pin q O).trans ci,jG Q b.size,?_,?_,?_⟩
  ·rintro⟨id,d,j,c⟩;rcases((b.tree id d j).2.2 a c).2.2.2 with m|m
   ·omega
   grind
  ·have c:=b.frame a Q co;grind [block,aml]
  rw[cs];exact iL λw G=>(b.pin w (P w G)).symm
 refine wp_mono (l k bq rfl an a0 (λT=>b.glob r.1 T) u K ⟨z,N,A,U⟩ ad) ?_;rintro dg c2 d2 ⟨cv,p,⟨R,ce,S,f⟩,am⟩;have ds:∀a,k.F0 a->C.w0.heap.size<=a\/C.F0 a:=(by rintro a ⟨id,d,j,c⟩;exact((b.tree id d j).2.2 a c).2.2.2);refine⟨cv,p,⟨R,ce,S,?_⟩,am⟩;refine{n:=f.n,i0:=λa c=>f.i0 a (b.i0 a c),i1:=λa c=>?_,ib:=f.ib,tree:=λid d j=>?_,dis:=f.dis,tmp:=f.tmp,frame:=λa m o=>?_,evo:=λa c=>(b.evo a c).trans (f.evo a (jG c b.size)),size:=dk b.size f.size,os:=f.os.trans b.os,tape:=f.tape.trans b.tape,output:=f.output.trans b.output,pin:=λq r=>?_}
 ·rcases f.i1 a c with l|l|l
  ·exact b.i1 a l
  ·exact .inr (.inl (dk b.size l))
  grind
 ·obtain⟨aE,y,a4⟩:=f.tree id d j;refine⟨aE,y,λa c=>?_⟩;obtain⟨bl,bs,bx,aU⟩:=a4 a c;refine⟨bl,bs,bx,?_⟩;rcases aU with l|l
  ·exact .inl (dk b.size l)
  grind
 ·refine(f.frame a (jG m b.size) ?_).trans (b.frame a m o);grind
 rw[f.pin q (hM.2 (.inr r))];exact b.pin q r
end
end
structure c0 where
 d:bA (X×au)
 S:ak6
 keep:bp (X×bp bd)
 put:bp (X×aT)
variable{n:c0}
def ob (a:ak6) (c:bp (X×bp bd)) (b:bp (X×au)):bp (X×au):=match a with
 |[]=>b
 |_=>alF a c b
def rU (a:ak6) (b:bp (X×aT)):bp (X×aT):=match a with
 |[]=>b
 |_=>del a b
def c0.app (a:c0) (b:aW):aW:=⟨match a.d with
 |some c=>c::ob a.S a.keep b.g
 |none=>ob a.S a.keep b.g,a.put++rU a.S b.h⟩
theorem Zc (b:bp (X×bp bd)) (a:au):gb [] b a=a:=by
 have c:∀a,fy [] b a=a:=λa=>(by have:(a.ids.any λd=>e6 d [])=br:=(by grind [aoz,e6]);simp only[fy,alm,this,aoA,bR]);cases a with
 |fG e=>grind [alq,aoB,gb]
 |_=>exact c _
theorem Zg (c:bp (X×bp bd)):∀b:bp (X×au),alF [] c b=b
 |[]=>rfl
 |(k,a)::b=>by simp_all [ir,Zc,alF]
theorem Xb:∀a:bp (X×aT),del [] a=a
 |[]=>rfl
 |x::a=>by simp_all [qd,aB,e6,del]
theorem tT (a:ak6) (c:bp (X×bp bd)) (b:bp (X×au)):ob a c b=alF a c b:=by
 cases a
 ·exact(Zg c b).symm
 rfl
theorem yt (a:ak6) (b:bp (X×aT)):rU a b=del a b:=by
 cases a
 ·exact(Xb b).symm
 rfl
def sv {k:Type} (tt:bp (bN×ao)) (f:bp (X×aT)) (m:bN) (q v:au) (e:c0->bA k):bA k:=
 match sk f q with
 |none=>bv
 |some (
  id,p)=>match ay f id,ay tt m with
  |some a,Y o=>match gk a.1 p with
   |none=>bv
   |some b=>bif bi o b then match v with
    |.ref c g=>match ay f c with
     |some l=>bif bL id c then bv else(jn l.1 l.2 g b).bind λh=>(pd a.1 a.2 p b h).bind λd=>e ⟨bv,[id,c],[(id,p)],[(id,⟨a.1,d⟩)]⟩
     |none=>bv
    |.app c g i j n=>match iE (τ:=.osl i) b j with
     |some _=>bif bL c id&&oh g p then(jn a.1 a.2 p (.osl i)).bind λr=>(pd a.1 a.2 p (.osl i) (r++j)).bind λd=>e ⟨bv,id::n,[(id,p)],[(id,⟨a.1,d⟩)]⟩ else bv
     |none=>bv
    |v=>match coe b v with
     |some h=>(pd a.1 a.2 p b h).bind λd=>e ⟨bv,[id],[(id,p)],[(id,⟨a.1,d⟩)]⟩
     |none=>bv
   else bv
  |_,_=>bv
theorem af9 {q:f} {n:c0->bA f} {tt:bp (bN×ao)} (a:sv tt i.h d s b n=Y q) (k:∀o,n o=Y q->w (o.app i)):(G7 tt i d s b).K w:=by
 unfold sv at a;unfold G7;split at a
 ·cases a
 rename_i id A u;rw[u];simp only;split at a
 case h_2=>cases a
 rename_i F B v r;obtain⟨O,M⟩:=F;rw[v,r];simp only at a|-;split at a
 ·cases a
 rename_i D z;rw[z];simp only;cases t:bi B D with
 |false=>grind
 |true=>
 rw[t] at a;simp only[bI] at a|-;split at a
 ·rename_i l p;split at a
  case h_2=>cases a
  rename_i E x;obtain⟨P,J⟩:=E;cases c:bL id l with
  |true=>grind
  |false=>
  rw[c] at a;obtain⟨m,e,a⟩:=fh.1 a;obtain⟨j,g,a⟩:=fh.1 a;simp only[x,c,bR];exact⟨(m,j),⟨kC e,ss g⟩,k _ a⟩
 ·rename_i l p N L I;split at a
  case h_2=>cases a
  rename_i m e;cases lD e;cases c:(bL l id&&oh p A) with
  |false=>grind
  |true=>
  rw[c] at a;simp only[cL] at c;obtain⟨C,y,a⟩:=fh.1 a;obtain⟨j,g,a⟩:=fh.1 a;simp only[dif_pos];exact⟨(C,j),⟨fN c.1,oh.ok c.2,kC y,ss g⟩,k _ a⟩
 rename_i b G H;split at a
 case h_2=>cases a
 rename_i m e;obtain⟨j,g,a⟩:=fh.1 a;split
 ·grind
 ·grind
 rw[e];exact⟨j,ss g,k _ a⟩
def lZ (e:bp (X×aT)) (a:ao) (i:au):bA (bp a.den):=
 match i with
 |.val (.bb _ h) d=>iE (τ:=.osl h) (.osl a) d
 |.eN (.slice bv 0 0)=>Y []
 |.ref id c=>match ay e id with
  |some b=>bif a.pure then jn b.1 b.2 c (.osl a) else bv
  |none=>bv
 |.view id c g f=>match ay e id with
  |some b=>bif a.pure then(jn b.1 b.2 c (.osl a)).bind λd=>Y ((d.take f).drop g) else bv
  |none=>bv
 |_=>bv
def mw.Hy {c:ao} (e:mw c) (b:bp c.den):Prop:=
 match e with
 |.e9 f=>f=b
 |.part _ g d=>∃a,g a/\d a=b
 |.bad=>b7
theorem CS {f:bp k.den} (a:lZ c k b=Y f):(sA c k b).Hy f:=by
 unfold lZ at a;unfold sA;split at a
 ·rename_i p q h;cases lD a;simp only[dif_pos];rfl
 ·cases a;rfl
 ·rename_i id j;split at a
  case h_2=>cases a
  rename_i g e;obtain⟨m,l⟩:=g;simp only[e];cases d:k.pure with
  |false=>grind
  |true=>rw[d] at a;exact⟨f,kC a,bq⟩
 ·rename_i id j o n;split at a
  case h_2=>cases a
  rename_i g e;obtain⟨m,l⟩:=g;simp only[e];cases d:k.pure with
  |false=>grind
  |true=>
   rw[d] at a;obtain⟨h,i,a⟩:=fh.1 a;cases a;exact⟨h,kC i,bq⟩
 grind
def mw.Hy.to {d:ao} {c:mw d} {a:bp d.den} (b:c.Hy a) {g:X->Prop} {f:bp d.den->aW} {e:aW->Prop} (h:g a.length) (i:e (f a)):(c.to g f).K e:=by
 cases c with
 |e9 l=>obtain rfl:l=a:=b;exact⟨(),h,i⟩
 |part n o m=>obtain⟨k,j,rfl⟩:=b;exact⟨k,⟨j,h⟩,i⟩
 |bad=>exact b.elim
def pB {n:Type} (tt:bp (bN×ao)) (p:bp (X×ao)) (d:bp (X×aT)) (b:X) (o:bN) (q g:au) (f:c0->bA n):bA n:=
 match hd tt o with
 |none=>bv
 |some i=>
  match q with
  |.ref id []=>match ay d id with
   |some ⟨.osl a,e⟩=>bif bi i a&&b5 a.size 1300 then
    match a.pure with
    |true=>(lZ d a g).bind λc=>(cI (e.length+c.length)).bind λ_=>f ⟨Y (b,.ref b []),[id,b],[],[(b,⟨.osl a,e++c⟩)]⟩
    |false=>match g with
     |.ref k []=>match ay d k with
      |some r=>match iE (.osl a) r.2 with
       |some c=>bif bL id k then bv else(cI (e.length+cE (α:=a.den) c)).bind λ_=>f ⟨Y (b,.ref b []),[id,k,b],[],[(b,⟨.osl a,List.append (α:=a.den) e c⟩)]⟩
       |none=>bv
      |none=>bv
     |_=>bv
    else bv
   |_=>bv
  |.ref id h=>match ay d id,ay d b with
   |some j,bv=>match gk j.1 h with
    |some (.osl a)=>bif bi i a&&b5 a.size 1300&&a.lm then
     (jn j.1 j.2 h (.osl a)).bind λe=>(lZ d a g).bind λc=>(cI (cE (α:=a.den) e+c.length)).bind λ_=>
      f ⟨Y (b,.app id h a c [b]),[id],[(id,h),(id,[])],[(b,⟨.eL,()⟩),(id,j)]⟩
     else bv
    |_=>bv
   |_,_=>bv
  |.view id [] m l=>match ay d id with
   |some ⟨.osl a,e⟩=>bif bi i a&&b5 a.size 1300 then
    (lZ d a g).bind λc=>(cI (cE (α:=a.den) ((e.take l).drop m)+c.length)).bind λ_=>f ⟨Y (b,.ref b []),[id,b],[],[(b,⟨.osl a,(e.take l).drop m++c⟩)]⟩
    else bv
   |_=>bv
  |.eN (.slice bv 0 0)=>match ay p b with
   |some (.osl a)=>bif bi i a&&b5 a.size 1300 then
    (lZ d a g).bind λc=>(cI c.length).bind λ_=>f ⟨Y (b,.ref b []),[b],[],[(b,⟨.osl a,c⟩)]⟩
    else bv
   |_=>bv
  |_=>bv
theorem VV {A:f} {v:c0->bA f} {tt:bp (bN×ao)} (c:pB tt j i.h a d b s v=Y A) (m:∀x,v x=Y A->w (x.app i)):(Do tt j i a d b s).K w:=by
 unfold pB at c;unfold Do;split at c
 ·cases c
 rename_i t F;rw[F];simp only;split at c
 ·rename_i id;simp only;split at c
  case h_2=>cases c
  rename_i k u n;rw[n];simp only;cases l:(bi t k&&b5 k.size 1300) with
  |false=>grind
  |true=>
  rw[l] at c;simp only[bI] at c|-;split at c
  ·rename_i q;rw[q];obtain⟨p,e,c⟩:=fh.1 c;obtain⟨_,g,c⟩:=fh.1 c;exact(CS e).to (yO g) (m _ c)
  rename_i q;rw[q];split at c
  case h_2=>cases c
  rename_i H;split at c
  case h_2=>cases c
  rename_i M E;obtain⟨V,R⟩:=M;split at c
  case h_2=>cases c
  rename_i p e;cases lD e;cases y:bL id H with
  |true=>grind
  |false=>
  rw[y] at c;obtain⟨_,g,c⟩:=fh.1 c;simp only[E,dif_pos,y,bR];exact⟨(),yO g,m _ c⟩
 ·rename_i id z q;split at c
  case h_2=>cases c
  rename_i L n D;obtain⟨U,S⟩:=L;simp only at c;split at c
  case h_2=>cases c
  rename_i k G;cases l:(bi t k&&b5 k.size 1300&&k.lm) with
  |false=>grind
  |true=>
  rw[l] at c;obtain⟨u,r,c⟩:=fh.1 c;obtain⟨p,e,c⟩:=fh.1 c;obtain⟨_,g,c⟩:=fh.1 c;have g:=yO g;have e:=CS e;have r:=kC r;cases z with
  |nil=>grind
  |cons Q z=>
  simp only[n,D,G,l,bI];split
  ·rename_i J o;rw[o] at e;obtain rfl:J=p:=e;exact⟨u,⟨r,g⟩,m _ c⟩
  ·rename_i T ad N o;rw[o] at e;obtain⟨I,B,rfl⟩:=e;exact⟨(u,I),⟨r,B,g⟩,m _ c⟩
  rename_i o;rw[o] at e;exact e.elim
 ·rename_i id P O;simp only;split at c
  case h_2=>cases c
  rename_i k u n;rw[n];simp only;cases l:(bi t k&&b5 k.size 1300) with
  |false=>grind
  |true=>
  rw[l] at c;simp only[bI] at c|-;obtain⟨p,e,c⟩:=fh.1 c;obtain⟨_,g,c⟩:=fh.1 c;exact(CS e).to (yO g) (m _ c)
 ·simp only;split at c
  case h_2=>cases c
  rename_i k C;rw[C];simp only;cases l:(bi t k&&b5 k.size 1300) with
  |false=>grind
  |true=>
  rw[l] at c;simp only[bI] at c|-;obtain⟨p,e,c⟩:=fh.1 c;obtain⟨_,g,c⟩:=fh.1 c;exact(CS e).to (yO g) (m _ c)
 grind
def qt (d:bp (X×ao)) (c:bp (X×aT)) (a:X) (h:au):bA c0:=
 match h with
 |.ref id []=>match ay c id with
  |some b=>Y ⟨Y (a,.ref a []),[id,a],[],[(a,b)]⟩
  |none=>bv
 |.ref id g=>bif bL id a then bv else Y ⟨Y (a,.ref id g),[a],[],[]⟩
 |.view id [] f e=>match ay c id with
  |some ⟨.osl b,i⟩=>Y ⟨Y (a,.ref a []),[id,a],[],[(a,⟨.osl b,(i.take e).drop f⟩)]⟩
  |_=>bv
 |.eN (.slice bv 0 0)=>match ay d a with
  |some (.osl b)=>Y ⟨Y (a,.ref a []),[a],[],[(a,⟨.osl b,[]⟩)]⟩
  |_=>bv
 |_=>bv
theorem V7 (c:qt j i.h a b=Y n) (e:w (n.app i)):(Dq j i a b).K w:=by
 unfold qt at c;unfold Dq;split at c
 ·split at c
  ·rename_i k d;cases c;simp only[d];exact e
  grind
 ·rename_i id g l;cases f:bL id a with
  |true=>grind
  |false=>
  rw[f] at c;cases c;cases g with
  |nil=>grind
  |cons m g=>simp only[f,bR];exact e
 ·split at c
  ·rename_i k o d;cases c;simp only[d];exact e
  grind
 ·split at c
  ·rename_i k d;cases c;simp only[d];exact e
  grind
 grind
section
section
variable {E:fY} {C:fb} {st:aW} {a:Act} {w w':bH} {I:X->Prop} {rt:X->ak0} {fp:X->ak6} {o:bU} {Q:aW->Prop}
def fI.own {S:ak6} {t:aT} {cs:ak0} {f:ak6} {v:Value} {next:Act->bH->Prop} (A:o.dst=Y r) (F:C.ok r) (l:c6 C st a.tmps w I rt fp) (J:∀s k w',Q s->k.defers=a.defers->g0 C s k.tmps w'->next k w') (D:r∈S\/ay st.h r=bv) (M:(bT a.eval o).run E.P w=.ok (.value v) w') (c:hL w w') (N:v=eY t.1 cs) (L:a5 (cG I C.B) w' t.1 cs t.2 f) (G:f.Nodup) (i:∀b∈f,(w.heap.size<=b/\b<w'.heap.size)\/∃q∈S,∃R,ay st.h q=Y R/\b∈fp q) (K:Q ⟨(r,.ref r [])::alF S [] st.g,(r,t)::del S st.h⟩):o.wp E.P a w next m:=by
 have j:=l.eK (rB.one (st:=st) (C:=C) (rt:=rt) (w':=w') (I':=I) (S:=S) (d:=r) (t:=t) (cs:=cs) (f:=f) D c.size c.os c.tape c.output (λb i _=>c.heap b i) (λb i=>(aoy (c.heap b i)).2) (λ_ e=>e) (λ_ e=>.inl e) L G (λb z=>by
  rcases i b z with⟨x,y⟩|⟨p,H,u,j,n⟩
  ·exact⟨λe=>by have:=l.ib b (.inl e);omega,y,.inl x⟩
  obtain⟨aE,T,O,U⟩:=(l.tree p u j).2.2 b n;exact⟨aE,jG O c.size,.inr ⟨p,H,u,j,n⟩⟩))
 unfold alJ;rw[M];show next (a.put o.dst v) w'
 rw[A];refine J _ _ _ K bq ⟨_,_,_,j.put F (av:=.ref r []) ?_⟩;rw[N];refine .ref (t:=t) (loc:=bv) (by rw[lL,eX,aB bq];rfl) ?_;rw[Gd];exact anN
def y7 (e:bp (X×aT)) (a:ao):au->bA (aT×ak6)
 |.val d b=>bif bi a d then Y (⟨d,b⟩,[]) else bv
 |.eN f=>match jl a f.cells.toList with
  |some b=>Y (⟨a,b⟩,[])
  |none=>bv
 |.ref id []=>match ay e id with
  |some c=>bif bi a c.1 then Y (c,[id]) else bv
  |none=>bv
 |_=>bv
theorem R9 {h:eW->X->Prop} (m:∀id t,ay c id=Y t->a5 h w t.1 (rt id) t.2 (fp id)) {a:ao} (j:fv p a d) (i:c8 h w c rt fp b z) {t:aT} {ids:ak6} (e:y7 c a b=Y (t,ids)):a5 h w t.1 z.cells.toList t.2 (ids.map fp).flatten/\t.1.size=a.size/\∀id∈ids,∃q,ay c id=Y q:=by
 unfold y7 at e;split at e
 ·rename_i s r;cases f:bi a s with
  |false=>grind
  |true=>
   rw[f] at e;cases e;cases i with|val g=>
   rw[pb (j.lay f) g.len g.one];grind [aoC]
 ·rename_i v;split at e
  ·rename_i r u;cases e;cases i;grind [qy]
  grind
 ·rename_i id;split at e
  ·rename_i o k;cases f:bi a o.1 with
   |false=>grind
   |true=>
    rw[f] at e;cases e;cases i with|ref l n=>
    rw[k] at l;cases l;obtain⟨rfl,rfl,rfl⟩:=alE.1 n;have g:=m id _ k;rw[pb (j.lay f) g.len g.one];grind [ak9,aoC]
  grind
 grind
def nI (e:bp (X×aT)) (d:bS->au) (g:bp (X×bS)):ao->X->bA (aT×ak6)
 |.pr a h,f=>
  match(match mH g f with
   |none=>match np a with
    |some i=>Y ((⟨a,i⟩:aT),([]:ak6))
    |none=>bv
   |some b=>y7 e a (d b)),nI e d g h (f+1) with
  |some b,Y c=>Y (⟨.pr b.1.1 c.1.1,(b.1.2,c.1.2)⟩,b.2++c.2)
  |_,_=>bv
 |.nil,_=>Y (⟨.nil,()⟩,[])
 |_,_=>bv
theorem QD {p:b3} {g:eW->X->Prop} {b:bp (X×aT)} (z:∀id t,ay b id=Y t->a5 g w t.1 (rt id) t.2 (fp id)) {m:bS->au} {h:bS->Value} (y:∀c,c8 g w b rt fp (m c) (h c)) {parts:bp (X×bS)} {cells:ak0}:∀{u:ao} {n:X} {r:bp aly} {off:X} {zs:ak0} {t:aT} {ids:ak6},jt p u r off zs->nI b m parts u n=Y (t,ids)->cells.length=off+u.size->(∀d k e,ga u d=Y (k,e)->(∀c,mH parts (n+d)=Y c->(h c).cells.size=e.size/\(cells.drop (off+gE u d)).take e.size=(h c).cells.toList)/\(mH parts (n+d)=bv->(cells.drop (off+gE u d)).take e.size=(zs.drop (gE u d)).take e.size))->a5 g w t.1 (cells.drop off) t.2 (ids.map fp).flatten/\t.1.size=u.size/\∀id∈ids,∃u,ay b id=Y u
 |.pr a q,n,E::O,off,zs,t,ids,o,f,A,i=>by
  simp only[nI] at f;split at f
  case h_2=>cases f
  rename_i c l j C;cases f;obtain⟨F,s,G,⟨K,R,aE,M,N⟩,v⟩:=o;have x:=i 0 _ a bq;simp only[nu,gE,mm] at x;have H:a5 g w c.1.1 ((cells.drop off).take a.size) c.1.2 (c.2.map fp).flatten/\c.1.1.size=a.size/\∀id∈c.2,∃u,ay b id=Y u:=by
   split at j
   ·rename_i J;split at j
    ·rename_i S D;cases j;obtain⟨L,T,P,Q,_,aU⟩:=zz s D;grind
    grind
   grind [R9]
  have I:=QD z y (parts:=parts) (cells:=cells) (u:=q) (n:=n+1) (off:=off+a.size) (zs:=zs.drop a.size) (t:=l.1) (ids:=l.2) v C (by grind [alA]) (by
   intro d k e B;have:=i (d+1) (.snd::k) e (by simp[ga,B]);grind [amV,gE])
  refine⟨⟨(c.2.map fp).flatten,(l.2.map fp).flatten,ac,?_,?_⟩,by grind [alA],?_⟩
  ·grind
  ·simp_all
  grind
 |.nil,n,[],off,zs,t,ids,o,f,A,i=>by cases f;exact⟨⟨bq,by grind [anE,alA]⟩,bq,ac⟩
 |.pr _ _,_,[],_,_,_,_,b,_,_,_|.nil,_,_::_,_,_,_,_,b,_,_,_=>b.elim
 |.int _,_,_,_,_,_,_,b,_,_,_|.bool,_,_,_,_,_,_,b,_,_,_|.str,_,_,_,_,_,_,b,_,_,_|.bb _ _,_,_,_,_,_,_,b,_,_,_|.osl _,_,_,_,_,_,_,b,_,_,_|.ptr _ _,_,_,_,_,_,_,b,_,_,_|.optr _,_,_,_,_,_,_,b,_,_,_|.st _,_,_,_,_,_,_,b,_,_,_|.eL,_,_,_,_,_,_,b,_,_,_=>by cases b
theorem QE {z:b3} {h:eW->X->Prop} {b:bp (X×aT)} (l:∀id t,ay b id=Y t->a5 h w t.1 (rt id) t.2 (fp id)) {j:bS->au} {i:bS->Value} (k:∀e,c8 h w b rt fp (j e) (i e)) {q:bp (X×bS)}:∀{u:ao} {n:X} {B:bp aly} {p:X} {y:ak0} {t:aT} {ids:ak6},jt z u B p y->nI b j q u n=Y (t,ids)->∀d s g,ga u d=Y (s,g)->∀e,mH q (n+d)=Y e->(i e).cells.size=g.size
 |.pr a A,n,I::P,p,y,t,ids,E,f,d,s,g,c,e,m=>by
  simp only[nI] at f;split at f
  case h_2=>cases f
  rename_i v x o G;obtain⟨J,C,K,⟨L,Q,aE,N,O⟩,D⟩:=E;cases d with
  |zero=>
   simp only[ga,fc,iY] at c;obtain⟨_,rfl⟩:=c;rw[nu] at m;rw[m] at o;obtain⟨H,M,_⟩:=R9 (t:=v.1) (ids:=v.2) l C (k e) o;have:=H.len;grind
  |succ d=>
   simp only[ga] at c;split at c
   ·rename_i r F;simp only[fc,iY] at c;obtain⟨_,rfl⟩:=c;exact QE l k (u:=A) (n:=n+1) (t:=x.1) (ids:=x.2) D G d r.1 r.2 F e (by rwa[(aa:n+1+d=n+(d+1))])
   grind
 |.pr _ _,_,[],_,_,_,_,b,_,_,_,_,_,_,_=>b.elim
 |.nil,_,_,_,_,_,_,_,_,_,_,_,c,_,_=>by cases c
 |.int _,_,_,_,_,_,_,b,_,_,_,_,_,_,_|.bool,_,_,_,_,_,_,b,_,_,_,_,_,_,_|.str,_,_,_,_,_,_,b,_,_,_,_,_,_,_|.bb _ _,_,_,_,_,_,_,b,_,_,_,_,_,_,_|.osl _,_,_,_,_,_,_,b,_,_,_,_,_,_,_|.ptr _ _,_,_,_,_,_,_,b,_,_,_,_,_,_,_|.optr _,_,_,_,_,_,_,b,_,_,_,_,_,_,_|.st _,_,_,_,_,_,_,b,_,_,_,_,_,_,_|.eL,_,_,_,_,_,_,b,_,_,_,_,_,_,_=>by cases b
theorem Wu {l:bX (X×bS)} (av:o.op=.build d l) (D:m8 E.tt d=Y O) (ds:bi O k=bt\/O=k) (R:m7 l.toList 0=bt) (A:∀c∈l.toList,cg c.1 (gX k)=bt) (N:∀e m b,ga k e=Y (m,b)->∀f,mH l.toList e=Y f->(a.eval f).cells.size=b.size):∃h g q,jt E.P k h 0 g/\(bT a.eval o).run E.P w=.ok (.value (.agg q)) w/\q.toList.length=k.size/\(∀e m b,ga k e=Y (m,b)->(∀f,mH l.toList (0+e)=Y f->(a.eval f).cells.size=b.size/\(q.toList.drop (0+gE k e)).take b.size=(a.eval f).cells.toList)/\(mH l.toList (0+e)=bv->(q.toList.drop (0+gE k e)).take b.size=(g.drop (gE k e)).take b.size)):=by
 obtain⟨n,h,g,S,c1,T,U,r,c2⟩:∃n h g,E.P.info? d=some n/\n.size=k.size/\n.zero=some (.agg g)/\E.P.underlying d=some (.struct h)/\jt E.P k h.toList 0 g.toList/\g.size=k.size:=by
  unfold m8 at D;split at D
  ·rename_i ek ad;cases D;obtain⟨_,n,h,g,aE,d1,_,d2,d3,d4,d5⟩:=E.ok d _ ad;grind [aoC,jt.lay]
  grind
 have F:=run_places (P:=E.P) w k h.toList 0 g.toList r;simp only[nv] at F;generalize dl:((bK (gX k)).map λp=>(gE k p,match ga k p with|some c=>c.2.size|none=>0))=H at F;have v:∀p m b,ga k p=Y (m,b)->p<gX k->H.toArray[p]?=Y (gE k p,b.size):=ae;obtain⟨q,ce,d6,ci,aU⟩:=Br (λn=>H.toArray[n]?) (l.toList.map λc=>(c.1,a.eval c.2)) g (by
  intro c x;obtain⟨j,B,rfl⟩:=e1.1 x;have t:j.1<gX k:=g8 (A j B);obtain⟨m,b,i⟩:=sg r j.1 t;refine⟨_,_,v _ _ _ i t,N _ _ _ i j.2 ?_,by simp_all [Bv]⟩;grind [J1]) (by
  rw[oG];refine(J2 R).imp_of_mem ?_;intro c I x a4 t bx co d0 d7 ax K;have z:c.1<gX k:=g8 (A c x);have Q:I.1<gX k:=g8 (A I a4);obtain⟨cs,cv,s⟩:=sg r c.1 z;obtain⟨d8,d9,M⟩:=sg r I.1 Q;rw[v _ _ _ s z] at ax;rw[v _ _ _ M Q] at K;cases ax;cases K;exact .inl (v2 s M t))
 have bl:q.toList.length=k.size:=ae;refine⟨h.toList,g.toList,q,r,?_,bl,?_⟩
 ·have a3:(anD (λf=>(f.fst,a.eval f.snd)) l).toList=l.toList.map λc=>(c.1,a.eval c.2):=ac;have a0:(h.mapM λL=>do amk (L.offset,<-alY L.type):Sem (bX ew)).run E.P w=.ok H.toArray w:=by
   rw[aoq,Sem.run_map,F];rfl
  have G:(alL d).run E.P w=.ok (.agg g) w:=(by simp[alL,alN,S,T]);simp only[bT,av,Instr.build,b8,G,cz U,cd,a0,a3,Value.cells,ce];rfl
 intro e m b i;have am:e<gX k:=JF i;simp only[nv];have dg:=Bv i;refine⟨λf C=>?_,λC=>?_⟩
 ·have an:=BG C;have G:=N e m b i f C;refine⟨G,?_⟩;apply ig;intro y;rcases cY y b.size with u|u
  ·obtain⟨J,bs⟩:∃J,(a.eval f).cells[y]?=some J:=⟨_,Hs aa⟩;have:=aU (e,a.eval f) (e1.2 ⟨(e,f),an,bq⟩) _ _ (v _ _ _ i am) y J bs;grind
  grind
 apply ig;intro y;rcases cY y b.size with u|u
 ·rw[sK u,sK u,qf,qf];simp only[CU];refine ci _ ?_;intro c x bx co ax;obtain⟨j,B,rfl⟩:=e1.1 x;have ap:=Kq C j B;have z:j.1<gX k:=g8 (A j B);obtain⟨cs,cv,s⟩:=sg r j.1 z;rw[v _ _ _ s z] at ax;cases ax;rcases Nat.lt_or_gt_of_ne ap with t|V
  ·have:=v2 s i t;omega
  have:=v2 i s V;omega
 grind
def c6.JH {t:akY} (d:c6 C st t w I rt fp):∀{a:ak6},a.Nodup->(∀id∈a,∃b,ay st.h id=Y b)->(a.map fp).flatten.Nodup
 |[],_,_=>by simp
 |i::a,r,e=>by obtain⟨k,l⟩:=lx.1 r;obtain⟨b,f⟩:=e i ac;simp only[ir,mq];refine j3.2 ⟨(d.tree i b f).2.1,c6.JH d l (λid x=>e id ae),λj m v o c=>?_⟩;subst c;obtain⟨y,q,n⟩:=ms.1 o;obtain⟨g,p,rfl⟩:=e1.1 q;obtain⟨u,s⟩:=e g ae;exact d.dis i g b u f s (λc=>k (c▸p)) j m n
theorem Z5 (a:r∈(e.map fp).flatten):∃id∈e,r∈fp id:=by grind
def s6 {k:Type} (tt:bp (bN×ao)) (m:bp (X×ao)) (e:bp (X×aT)) (h:bS->au) (a:X) (l:bN) (c:bp (X×bS)) (g:c0->bA k):bA k:=
 match m8 tt l with
 |none=>bv
 |some f=>match ay m a with
  |some (.st j)=>bif bi f j&&(m7 c 0&&c.all (λi=>cg i.1 (gX j))) then match ay e a,nI e h c j 0 with
   |none,Y (b,d)=>bif kn d then g ⟨Y (a,.ref a []),d,[],[(a,⟨.st b.1,b.2⟩)]⟩ else bv
   |_,_=>bv
   else bv
  |_=>bif m7 c 0&&c.all (λi=>cg i.1 (gX f)) then match qP h c f 0 with
   |some b=>g ⟨Y (a,.val (.st b.1) b.2),[],[],[]⟩
   |none=>match ay e a,nI e h c f 0 with
    |none,Y (b,d)=>bif kn d then g ⟨Y (a,.ref a []),d,[],[(a,⟨.st b.1,b.2⟩)]⟩ else bv
    |_,_=>bv
   else bv
theorem NP {F:Type} {A:F} {q:c0->bA F} {m:bX (X×bS)} (U:o.op=.build d m) (N:o.dst=Y r) (P:C.ok r) (v:m8 E.tt d=Y O) (z:bi O k=bt\/O=k) (p:(m7 m.toList 0&&m.toList.all (λn=>cg n.1 (gX k)))=bt) (e:(match ay st.h r,nI st.h (bc st.g) m.toList k 0 with
  |none,Y (b,c)=>bif kn c then q ⟨Y (r,.ref r []),c,[],[(r,⟨.st b.1,b.2⟩)]⟩ else bv
  |_,_=>bv)=Y A)
 (V:∀s,q s=Y A->Q (s.app st)):fI E C o st Q:=by
 split at e
 case h_2=>cases e
 rename_i b c R l;cases y:kn c with
 |false=>grind
 |true=>
 rw[y] at e;simp only[cL,hp] at p;obtain⟨G,H⟩:=p;rintro a w ⟨I,rt,fp,i⟩ next a3 T
 have x:∀id b,ay st.h id=Y b->a5 (cG I C.B) w b.1 (rt id) b.2 (fp id):=λid b l=>(i.tree id b l).1;obtain⟨J,av,D,L,ad,bx,M⟩:=Wu (a:=a) (w:=w) U v z G H (by
  obtain⟨J,av,_,n⟩:=m8.ok v;intro an ap a0 am j bs;exact QE x (λj=>i.bc j) (z.elim (λe=>jt.lay e n) (λe=>e▸n)) l an ap a0 am j (by rwa[nv]))
 obtain⟨u,bl,K⟩:=QD x (λj=>i.bc j) (cells:=D.toList) L l aa M;rw[mm] at u;refine fI.own (S:=c) (t:=⟨.st b.1,b.2⟩) (cs:=D.toList) (f:=(c.map fp).flatten) N P i T (.inr R) ad (hL.refl w) rfl u (i.JH (kn.ok y) K) (λa4 p=>?_) ?_
 ·grind
 have:=V _ e;rw[show(c0.mk (Y (r,.ref r [])) c [] [(r,⟨.st b.1,b.2⟩)]).app st=⟨(r,.ref r [])::alF c [] st.g,(r,⟨.st b.1,b.2⟩)::del c st.h⟩ by
  show aW.mk ((r,_)::ob c [] st.g) ([_]++rU c st.h)=_;rw[tT,yt];rfl] at this
 omega
theorem Wk {t:f} {q:c0->bA f} {c:bX (X×bS)} (m:o.op=.build d c) (k:o.dst=Y r) (l:C.ok r) (a:s6 E.tt j st.h (bc st.g) r d c.toList q=Y t) (n:∀s,q s=Y t->Q (s.app st)):fI E C o st Q:=by
 unfold s6 at a;split at a
 ·cases a
 rename_i u e;split at a
 ·rename_i v x;cases b:(bi u v&&(m7 c.toList 0&&c.toList.all (λp=>cg p.1 (gX v)))) with
  |false=>grind
  |true=>
  rw[b] at a;simp only[bI] at a;have i:=b;rw[cL] at i;exact NP m k l e (.inl i.1) i.2 a n
 cases b:(m7 c.toList 0&&c.toList.all (λp=>cg p.1 (gX u))) with
 |false=>grind
 |true=>
 rw[b] at a;simp only[bI] at a;split at a
 ·rename_i y w;refine alZ (an:=[]) k l ?_;rw[m];simp only[hj,Ah,e,b,bI,w];exact n _ a
 exact NP m k l e (.inr bq) b a n
def vg {i:Type} (tt:bp (bN×ao)) (f:bp (X×ao)) (g:bp (X×aT)) (a:X) (j:bN) (d:au) (b:c0->bA i):bA i:=
 match ay tt j,ay g a with
 |some h,bv=>match d with
  |.val e d=>bif bi h e then match ay f a with
   |some (.ptr .bo _)=>b ⟨Y (a,.val (.ptr .bo e) (Y d)),[],[],[]⟩
   |_=>b ⟨Y (a,.ref a []),[],[],[(a,⟨.optr e,d⟩)]⟩
   else bv
  |.ref id []=>match ay g id with
   |some c=>bif bi h c.1 then match ay f a with
    |some (.ptr .bo _)=>bif pi c.1 then b ⟨Y (a,.hY (.ref id [])),[],[],[]⟩ else bv
    |_=>b ⟨Y (a,.ref a []),[id],[],[(a,⟨.optr c.1,c.2⟩)]⟩
    else bv
   |none=>bv
  |_=>bv
 |_,_=>bv
theorem Wn {d1:Type} {dl:d1} {ce:c0->bA d1} (M:o.op=.box d N) (K:o.dst=Y r) (L:C.ok r) (c:vg E.tt j st.h r d (bc st.g N) ce=Y dl) (O:∀cv,ce cv=Y dl->Q (cv.app st)):fI E C o st Q:=by
 unfold vg at c;split at c
 case h_2=>cases c
 rename_i n J c2;split at c
 ·rename_i V d0 u;cases e:bi n V with
  |false=>grind
  |true=>
  rw[e] at c;simp only[bI] at c;split at c
  ·rintro a w ⟨I,rt,fp,i⟩ next ci A
   have l:=i.bc N;rw[u] at l;have y:=(E.ok d n J).lay e;generalize F:a.eval N=H at l;cases l with|val T=>
   rename_i U;have q:∀p b,cG I C.B p b->eF w (w.alloc (.cells U.toArray d)) b:=λp b e=>.of_heap ((al0 w _).heap b (i.ib b (od e)));have bl:Yields E C st a w I rt fp o (λs G=>Q ⟨(r,s)::st.g,G++st.h⟩):=by
    refine⟨.pointer (Y ⟨w.heap.size,0,bv⟩),w.alloc (.cells U.toArray d),λb=>I b\/b=w.heap.size,λ_=>[],λ_=>[],.val (.ptr .bo V) (Y d0),[],?_,al0 w _,λ_ c=>.inl c,?_,.nil,?_,O _ c⟩
    ·simp[bT,M,F,anC,newVar,alU,pb y T.len T.one]
    ·rintro b (c|rfl)
     ·grind
     simp_all
    refine .val (τ:=.ptr .bo V) (x:=Y d0) (cs:=[.pointer (Y ⟨w.heap.size,0,bv⟩)]) ⟨bq,w.heap.size,0,U,bq,.inr bq,T.len,aoD (λd5 H d3=>by grind),?_⟩;refine T.mono (λp b e=>⟨?_,q p b e⟩) ac;cases p
    ·exact .inl e
    exact e.imp .inl (λc=>c)
   exact bl.wp i K L (λs G ad w' a0 am a3=>A _ ad w' a0 am a3)
  refine alZ (an:=[]) K L ?_;rw[M];simp only[hj,Ai,J,c2,u,e,bI];exact O _ c
 ·rename_i id u;split at c
  case h_2=>cases c
  rename_i k P;cases e:bi n k.1 with
  |false=>grind
  |true=>
  rw[e] at c;simp only[bI] at c;split at c
  ·cases a4:pi k.1 with
   |false=>rw[a4] at c;cases c
   |true=>
   rw[a4,bI] at c;rintro a w ⟨I,rt,fp,i⟩ next ci A
   have l:=i.bc N;rw[u] at l;obtain⟨m,ds,bx⟩:=i.tree id k P;have y:=(E.ok d n J).lay e;generalize F:a.eval N=H at l;have d4:=l;cases l with|ref D av=>
   rw[P] at D;cases D;obtain⟨rfl,rfl,rfl⟩:=alE.1 av;obtain⟨ax,d2⟩:=pM.one a4;have dg:=m.len;rw[ax] at dg;obtain⟨co,c1⟩:=rn.1 dg;have q:∀b,b<w.heap.size->eF w (w.alloc (.cells (rt id).toArray d)) b:=λb e=>.of_heap ((al0 w _).heap b e);have bl:Yields E C st a w I rt fp o (λs G=>Q ⟨(r,s)::st.g,G++st.h⟩):=by
    refine⟨.pointer (Y ⟨w.heap.size,0,bv⟩),w.alloc (.cells (rt id).toArray d),λb=>I b\/b=w.heap.size,rt,fp,.hY (.ref id []),[],?_,al0 w _,λ_ c=>.inl c,?_,.nil,?_,O _ c⟩
    ·simp[bT,M,F,anC,newVar,alU,pb y m.len m.one]
    ·rintro b (c|rfl)
     ·exact .inl c
     exact .inr ⟨bg _,ac⟩
    have ap:c8 (cG (λb=>I b\/b=w.heap.size) C.B) (w.alloc (.cells (rt id).toArray d)) ([]++st.h) (fA [] rt rt) (fA [] fp fp) (.ref id []) (eY k.1 (rt id)):=by
     refine d4.mono (λp b z=>⟨?_,q b (i.ib b (od z))⟩) (λbs n R=>⟨(i.tree bs n R).1,λb e=>q b ((i.tree bs n R).2.2 b e).2.2.1⟩) (λbs n R=>⟨R,bq,bq⟩);cases p
     ·exact .inl z
     exact z.imp .inl (λc=>c)
    rw[c1] at ap|-;rw[d2] at ap;refine .hY (v:=co) (.inr bq) ?_ (m.one co (by rw[c1];simp)) ap;rw[World.cell?_alloc_new];rfl
   exact bl.wp i K L (λs G ad w' a0 am a3=>A _ ad w' a0 am a3)
  rintro a w ⟨I,rt,fp,i⟩ next ci A
  have l:=i.bc N;rw[u] at l;obtain⟨m,ds,bx⟩:=i.tree id k P;have y:=(E.ok d n J).lay e;generalize F:a.eval N=H at l;cases l with|ref D av=>
  rw[P] at D;cases D;obtain⟨rfl,rfl,rfl⟩:=alE.1 av;have q:∀b,b<w.heap.size->eF w (w.alloc (.cells (rt id).toArray d)) b:=λb e=>.of_heap ((al0 w _).heap b e);have d6:a5 (cG I C.B) (w.alloc (.cells (rt id).toArray d)) k.1 (rt id) k.2 (fp id):=m.mono (λp b e=>⟨e,q b (i.ib b (od e))⟩) (λb e=>q b (bx b e).2.2.1);refine fI.own (S:=[id]) (t:=⟨.optr k.1,k.2⟩) (cs:=[.pointer (Y ⟨w.heap.size,0,bv⟩)]) (f:=w.heap.size::fp id) (v:=.pointer (Y ⟨w.heap.size,0,bv⟩)) (w':=w.alloc (.cells (rt id).toArray d)) K L i A (.inr c2) ?_ (al0 w _) rfl ⟨w.heap.size,0,fp id,rt id,bq,bq,m.len,aoD (λd5 H d3=>by grind),aoE (by simp[m.len]),d6⟩ (lx.2 ⟨λz=>xq _ (bx _ z).2.2.1,ds⟩) ?_ ?_
  ·simp[bT,M,F,anC,newVar,alU,pb y m.len m.one]
  ·intro b e;rcases gn.1 e with rfl|e
   ·simp_all
   grind
  have:=O _ c;rw[show(c0.mk (Y (r,.ref r [])) [id] [] [(r,⟨.optr k.1,k.2⟩)]).app st=⟨(r,.ref r [])::alF [id] [] st.g,(r,⟨.optr k.1,k.2⟩)::del [id] st.h⟩ from rfl] at this;omega
 grind
def KM (a:ao) (b:au):bA a.den:=match a with
 |.osl _=>match b with
  |.eN (.slice bv 0 0)=>Y []
  |_=>bv
 |_=>bv
def aas {d:eW->X->Prop} {w:bH} {rt:X->ak0} {fp:X->ak6} (f:c8 d w c rt fp b z) {e:k.den} (a:KM k b=Y e):a5 d w k z.cells.toList e []:=by
 unfold KM at a;split at a
 ·split at a
  ·cases a;cases f;exact⟨bv,0,bq,.inl ⟨bq,bq,bq,bq⟩⟩
  cases a
 cases a
def vk (c:bp (X×aT)) (b:ao) (x:au):bA (b.den×ak6):=
 match x with
 |.ref id []=>match ay c id with
  |some d=>match iE b d.2 with
   |some a=>Y (a,[id])
   |none=>bv
  |none=>bv
 |x=>match coe b x with
  |some a=>Y (a,[])
  |none=>(KM b x).map λa=>(a,[])
def vl (b:bp (X×aT)) (a:ao):bp au->bA (bp a.den×eC)
 |[]=>Y ([],[])
 |x::e=>match vk b a x,vl b a e with
  |some d,Y c=>Y (d.1::c.1,d.2::c.2)
  |_,_=>bv
theorem WN {f:eW->X->Prop} (p:∀id k,ay c id=Y k->a5 f w k.1 (rt id) k.2 (fp id)) (n:fv E.P k d) (i:c8 f w c rt fp b z) {l:k.den} (a:vk c k b=Y (l,e)):a5 f w k z.cells.toList l (e.map fp).flatten/\∀id∈e,∃t,ay c id=Y t:=by
 unfold vk at a;split at a
 ·rename_i id;split at a
  case h_2=>cases a
  rename_i u g;split at a
  case h_2=>cases a
  rename_i v r;cases a;obtain⟨y,b⟩:=u;have o:=lD r;cases o;cases i with|ref h q=>
  rw[g] at h;cases h;obtain⟨rfl,rfl,rfl⟩:=alE.1 q;have j:=p id _ g;rw[pb n j.len j.one];grind
 split at a
 ·grind [Iu]
 obtain⟨x,s,m⟩:=fO.1 a;cases m;exact⟨aas i s,ac⟩
theorem Oi {e:bp (X×aT)} {c:ao}:∀{b:bp au} {xs:bp c.den} {is:eC},vl e c b=Y (xs,is)->xs.length=b.length/\is.length=b.length/\∀(d:X) (h:c.den),xs[d]?=Y h->∃(y:au) (f:ak6),b[d]?=Y y/\is[d]?=Y f/\vk e c y=Y (h,f)
 |[],xs,is,a=>by cases a;grind
 |y::b,xs,is,a=>by
  simp only[vl] at a;split at a
  ·rename_i n g m i;cases a;obtain⟨j,k,l⟩:=Oi (xs:=g.1) (is:=g.2) i;grind
  grind
def s8 {i:Type} (tt:bp (bN×ao)) (k:bp (X×ao)) (f:bp (X×aT)) (e:bS->au) (a:X) (j:bN) (g:X) (c:bp (X×bS)) (d:c0->bA i):bA i:=
 match hd tt j,ay f a with
 |some h,bv=>
  match(match ay k a with|some (.osl t)=>t|_=>h) with
  |t=>bif bi h t&&b5 t.size 2000&&b5 g 1000&&wT c 0&&bL c.length g then
   match An t (c.map λb=>e b.2) with
   |some l=>d ⟨Y (a,.ref a []),[],[],[(a,⟨.osl t,l⟩)]⟩
   |none=>match vl f t (c.map λb=>e b.2) with
    |some b=>bif kn b.2.flatten then d ⟨Y (a,.ref a []),b.2.flatten,[],[(a,⟨.osl t,b.1⟩)]⟩ else bv
    |none=>bv
  else bv
 |_,_=>bv
theorem Wr {d9:Type} {d6:d9} {bl:c0->bA d9} {p:X} {e:bX (X×bS)} (dg:o.op=.buildSlice d r e) (co:o.dst=Y p) (cv:C.ok p) (k:s8 E.tt j st.h (bc st.g) p d r e.toList bl=Y d6) (K:∀N,bl N=Y d6->Q (N.app st)):fI E C o st Q:=by
 unfold s8 at k;split at k
 case h_2=>cases k
 rename_i q ci c1;generalize u:(match ay j p with|some (.osl b)=>b|_=>q)=b at k;simp only at k;cases i:(bi q b&&b5 b.size 2000&&b5 r 1000&&wT e.toList 0&&bL e.toList.length r) with
 |false=>grind
 |true=>
 rw[i] at k;simp only[bI] at k;split at k
 ·rename_i y d2;refine alZ (an:=j) co cv ?_;rw[dg];simp only[hj,xQ,ci,c1];cases G:ay j p with
  |none=>
   rw[G] at u;simp only at u;subst u;simp only[i,bI,d2];exact K _ k
  |some l=>
   rw[G] at u;cases l<;>(simp only at u;subst u;simp only[i,bI,d2];exact K _ k)
 split at k
 case h_2=>cases k
 rename_i l ds;obtain⟨y,n⟩:=l;cases ap:kn n.flatten with
 |false=>grind
 |true=>
 rw[ap] at k;rintro a w ⟨I,rt,fp,A⟩ next gc f4
 have fs:∀id b,ay st.h id=Y b->a5 (cG I C.B) w b.1 (rt id) b.2 (fp id):=λid b u=>(A.tree id b u).1;simp only[cL] at i;obtain⟨⟨⟨⟨el,U⟩,V⟩,M⟩,bs⟩:=i;have U:=g8 U;have V:=g8 V;have bs:e.toList.length=r:=fN bs;obtain⟨d4,T,_,ex,fl⟩:=hd.ok ci;have J:=fl.lay el;obtain⟨a3,ge,d5,_⟩:=J.info;have hc:=J.pos;obtain⟨em,bx,ce⟩:=Oi ds;simp only[di] at em bx;have f7:y.length=r:=aa;have gs:r*b.size<=16777216:=(by have:r*b.size<=1000*2000:=mV V U;omega);have ad:∀(c:X) (l:X×bS),e.toList[c]?=Y l->∃(x:b.den) (s:ak6),y[c]?=Y x/\n[c]?=Y s/\a5 (cG I C.B) w b (a.eval l.2).cells.toList x (s.map fp).flatten/\∀id∈s,∃q,ay st.h id=Y q:=(by intro c l D;have f0:c<y.length:=ae;obtain⟨i3,s,ax,gf,O⟩:=ce c y[c] ac;rw[jQ,D] at ax;simp only[jv,fc] at ax;subst ax;obtain⟨hs,hv⟩:=WN fs J (A.bc l.2) O;grind);have am:∀id∈n.flatten,∃q,ay st.h id=Y q:=by
  intro id R;obtain⟨L,G,gl⟩:=ms.1 R;obtain⟨c,D,rfl⟩:=hV.1 G;have F:e.toList[c]?=Y (e.toList[c]'(by omega)):=bh _
  grind
 obtain⟨d3,fz,fT⟩:∃d8:akY,(r*b.size=0->d8=#[])/\(r*b.size≠0->∃H,(alL T).run E.P w=.ok H w/\d8=H.cells):=by
  by_cases z:r*b.size=0
  ·simp_all
  obtain⟨H,_,f9⟩:=fv.JW J;exact⟨H.cells,λk=>absurd k z,λ_=>⟨H,by simp[alL,alN,d5.info,f9 a3 d5.info],bq⟩⟩
 obtain⟨a4,d7,is,ix,aU⟩:=Br (λa3=>Y (a3*b.size,b.size)) (e.toList.map λl=>(l.1,a.eval l.2)) ((Array.range (r*b.size)).map (d3[· %d3.size]!)) (by
  intro l K;obtain⟨io,f5,rfl⟩:=e1.1 K;obtain⟨c,D,rfl⟩:=hV.1 f5;have F:e.toList[c]?=Y e.toList[c]:=ac;obtain⟨x,_,_,_,a0,_⟩:=ad c _ F;have N:=sq M c _ F;have:(c+1)*b.size<=r*b.size:=iX _ aa;rw[kL,kM] at this;refine⟨_,_,bq,by have:=a0.len;omega,?_⟩;grind) (by
  rw[it];intro c L D G f0 ic i0 ii i1 ax O;simp only[oE,fc,iY] at ax O;simp only[di] at D G;have eq:=sq M c e.toList[c] ac;have f2:=sq M L e.toList[L] ac;obtain⟨rfl,rfl⟩:=ax;obtain⟨rfl,rfl⟩:=O;left;rw[eq,f2];have:(0+c+1)*b.size<=(0+L)*b.size:=iX _ aa;grind)
 have hi:a4.size=r*b.size:=ae;have fn:∀m,m<w.heap.size->eF w (w.alloc (.cells a4 T)) m:=λm i=>.of_heap ((al0 w _).heap m i);have fr:(n.map λs=>(s.map fp).flatten).flatten=(n.flatten.map fp).flatten:=by
  clear ad am ce ap k ds bx
  induction n with
  |nil=>rfl
  |cons x L hr=>grind
 have f1:∀m∈(n.flatten.map fp).flatten,m<w.heap.size/\∃id∈n.flatten,∃q,ay st.h id=Y q/\m∈fp id:=(by intro m i;obtain⟨id,R,i⟩:=Z5 i;obtain⟨q,av⟩:=am id R;exact⟨((A.tree id q av).2.2 m i).2.2.1,id,R,q,av,i⟩);refine fI.own (S:=n.flatten) (t:=⟨.osl b,y⟩) (cs:=[.slice (Y ⟨w.heap.size,0,bv⟩) r r]) (f:=w.heap.size::(n.flatten.map fp).flatten) (v:=.slice (Y ⟨w.heap.size,0,bv⟩) r r) (w':=w.alloc (.cells a4 T)) co cv A f4 (.inr c1) ?_ (al0 w _) rfl ?_ (lx.2 ⟨λf3=>xq _ (f1 _ f3).1,A.JH (kn.ok ap) am⟩) ?_ ?_
 ·have f6:=J.sizeOf w;have gt:¬(16777216<r*b.size):=aa;have dl:(anD (λx=>(x.fst,a.eval x.snd)) e).toList=e.toList.map λl=>(l.1,a.eval l.2):=ac;simp only[bT,dg,Instr.buildSlice,b8,cz ex,cd,f6];rw[aA aa];by_cases z:r*b.size=0
  ·rw[aB z];obtain rfl:=fz z;rw[dl];simp only[b8,alp,cd,d7,alU,newObj];rfl
  rw[aA z];obtain⟨H,f8,rfl⟩:=fT z;rw[dl];simp only[b8,alp,cd,f8,d7,alU,newObj];rfl
 ·refine⟨Y ⟨w.heap.size,0,bv⟩,r,by rw[f7],.inr ⟨w.heap.size,0,n.map λs=>(s.map fp).flatten,bq,by rw[fr],ae,ae,aoE aa,λc x gi a0 c2=>?_⟩⟩;have D:c<r:=ae;have F:e.toList[c]?=Y (e.toList[c]'(by omega)):=by simp
  obtain⟨i2,s,d1,ft,d0,av⟩:=ad c _ F;rw[a0] at d1;obtain rfl:=gy d1;rw[jQ,ft] at c2;obtain rfl:=gy c2;refine⟨_,d0.len,aoD (λd4 ek go=>?_),d0.mono (λhw m i=>⟨i,fn m (A.ib m (od i))⟩) (λm i=>?_)⟩
  ·have:=aU (e.toList[c].1,a.eval e.toList[c].2) (e1.2 ⟨e.toList[c],cK _,bq⟩) _ _ rfl d4 ek ae;have N:=sq M c _ F;grind
  grind
 ·intro m i;rcases gn.1 i with rfl|i
  ·exact .inl ⟨bg _,ac⟩
  grind
 have:=K _ k;rw[show(c0.mk (Y (p,.ref p [])) n.flatten [] [(p,⟨.osl b,y⟩)]).app st=⟨(p,.ref p [])::alF n.flatten [] st.g,(p,⟨.osl b,y⟩)::del n.flatten st.h⟩ by
  show aW.mk ((p,_)::ob _ [] st.g) ([_]++rU _ st.h)=_;rw[tT,yt];rfl] at this
 omega
end
end
section
def kj:ao->ao
 |.osl a=>.bb .bo (kj a)
 |.st a=>.st (kj a)
 |.pr b c=>.pr (kj b) (kj c)
 |.mp a=>.fm .bo a
 |τ=>τ
def r3:ao->bD
 |.osl a|.st a=>r3 a
 |.pr b c=>r3 b&&r3 c
 |.optr _|.eL=>br
 |_=>bt
def r5:∀d:ao,(kj d).den=d.den
 |.osl c=>b4 bp (r5 c)
 |.st c=>r5 c
 |.pr a b=>by show((kj a).den×(kj b).den)=(a.den×b.den);rw[r5 a,r5 b]
 |.int _|.bool|.str|.bb _ _|.ptr _ _|.optr _|.nil|.eL|.mp _|.fm _ _|.fn _ _=>rfl
def n5 (a:ao) (b:a.den):(kj a).den:=cast (r5 a).symm b
def WE {b:Type} (c:f=b) (d:bp f=bp b) (a:bp f):cast d a=a.map (cast c):=by subst c;show a=a.map (λe=>e);simp
theorem Im {b C c:Type} (d:f=b) (g:C=c) (e:(f×C)=(b×c)) (a:f×C):cast e a=(cast d a.1,cast g a.2):=by grind
def Pq (a:ao) (b:bp a.den):(n5 (.osl a) b:bp (kj a).den)=b.map (n5 a):=WE (r5 a).symm _ b
def Yo (a b:ao) (c:a.den×b.den):(n5 (.pr a b) c:(kj a).den×(kj b).den)=(n5 a c.1,n5 b c.2):=Im (r5 a).symm (r5 b).symm _ c
theorem tO:∀b:ao,(kj b).size=b.size
 |.osl a=>rfl
 |.st a=>tO a
 |.pr c d=>by simp only[kj,alA,tO c,tO d]
 |.int _|.bool|.str|.bb _ _|.ptr _ _|.optr _|.nil|.eL|.mp _|.fm _ _|.fn _ _=>rfl
theorem wO {z q:eW->X->Prop} {w:bH} (i:∀c b,z c b->q c b):∀{τ:ao} {g:ak0} {e:τ.den} {h:ak6},r3 τ=bt->a5 z w τ g e h->(∀b∈h,q .bo b)->a5 q w (kj τ) g (n5 τ e) []
 |.osl f,g,p,h,j,a,k=>by
  obtain⟨A,I,D,a⟩:=a;have E:(n5 (.osl f) p:bp (kj f).den).length=cE (α:=f.den) p:=(by rw[Pq];simp);rcases a with⟨rfl,T,rfl,rfl⟩|⟨b,P,B,rfl,rfl,o,v,C,x⟩
  ·refine⟨bq,bv,0,by rw[D,E],ae,λ_=>rfl,.inl ?_⟩;grind
  refine⟨bq,_,I,by rw[D,E],aa,(λa=>by cases a),?_⟩;refine .inr ⟨b,P,bq,k b ac,λl e n=>?_⟩;rw[Pq] at n;have n:(List.map (n5 f) p)[l]?=Y e:=n;rw[jQ] at n;obtain⟨Q,F,rfl⟩:=fO.1 n;have U:l<cE (α:=f.den) p:=(ih.1 F).1;have M:B[l]?=Y (B[l]'(by omega)):=bh _
  obtain⟨u,r,s,t⟩:=x l Q _ F M;rw[tO];exact⟨u,r,s,wO i j t (λm y=>k m (ht _ (ms.2 ⟨_,cK _,y⟩)))⟩
 |.st f,g,e,h,j,a,k=>wO (τ:=f) i j a k
 |.pr A b,g,e,h,j,a,k=>by
  simp only[r3,cL] at j;obtain⟨S,f2,rfl,o,v⟩:=a;have R:=Yo A b e;refine⟨[],[],bq,?_,?_⟩
  ·rw[tO];have:=wO i j.1 o (λm y=>k m ae);grind
  rw[tO];have:=wO i j.2 v (λm y=>k m ae);grind
 |.int O,g,e,h,_,a,_=>by obtain rfl:=al9 (τ:=.int O) rfl a;exact a.mono (λc b d=>⟨i c b d,ald _ _⟩) ac
 |.bool,g,e,h,_,a,_=>by obtain rfl:=al9 (τ:=.bool) rfl a;exact a.mono (λc b d=>⟨i c b d,ald _ _⟩) ac
 |.str,g,e,h,_,a,_=>by obtain rfl:=al9 (τ:=.str) rfl a;exact a.mono (λc b d=>⟨i c b d,ald _ _⟩) ac
 |.bb c f,g,e,h,_,a,_=>by obtain rfl:=al9 (τ:=.bb c f) rfl a;exact a.mono (λc b d=>⟨i c b d,ald _ _⟩) ac
 |.ptr c f,g,e,h,_,a,_=>by obtain rfl:=al9 (τ:=.ptr c f) rfl a;exact a.mono (λc b d=>⟨i c b d,ald _ _⟩) ac
 |.nil,g,e,h,_,a,_=>by obtain rfl:=al9 (τ:=.nil) rfl a;exact a.mono (λc b d=>⟨i c b d,ald _ _⟩) ac
 |.optr _,_,_,_,j,_,_=>by cases j
 |.fm c f,g,e,h,_,a,_=>by obtain rfl:=al9 (τ:=.fm c f) rfl a;exact a.mono (λc b d=>⟨i c b d,ald _ _⟩) ac
 |.fn c f,g,e,h,_,a,_=>by obtain rfl:=al9 (τ:=.fn c f) rfl a;exact a.mono (λc b d=>⟨i c b d,ald _ _⟩) ac
 |.mp f,g,e,h,_,a,k=>by
  cases e with
  |none=>exact⟨bq,a.2⟩
  |some G=>
   obtain⟨b,J,H,o,v,L,C,x,K⟩:=a;refine⟨b,J,H,o,bq,L,k b ae,C,x,λl G N=>?_⟩;obtain⟨u,r,s,t⟩:=K l G N;exact⟨u,r,s,t.mono (λc b d=>⟨i c b d,ald _ _⟩) ac⟩
 |.eL,_,_,_,j,_,_=>by cases j
def r4:aT->au
 |⟨.optr u,x⟩=>.val (.ptr .bo (kj u)) (Y (n5 u x))
 |⟨a,x⟩=>.val (kj a) (n5 a x)
def JK:ao->bD
 |.optr a=>r3 a
 |τ=>r3 τ
def hb (c:bp (X×aT)) (b:ak6) (a:au):au:=
 match a with
 |.ref id []=>bif e6 id b then match ay c id with
  |some d=>r4 d
  |none=>.dead else .ref id []
 |a=>bif a.fK b then .dead else a
theorem m4 (c:bp (X×aT)) (b:ak6) (a:au):(∃id d,a=.ref id []/\id∈b/\ay c id=Y d/\hb c b a=r4 d)\/(hb c b a=.dead/\a.fK b=bt)\/(hb c b a=a/\a.fK b=br):=by
 have e:∀a:au,hb c b a=(bif a.fK b then .dead else a)->(∃id d,a=.ref id []/\id∈b/\ay c id=Y d/\hb c b a=r4 d)\/(hb c b a=.dead/\a.fK b=bt)\/(hb c b a=a/\a.fK b=br):=ae;cases a with
 |ref id g=>
  cases g with
  |nil=>
   cases f:e6 id b with
   |true=>
    have i:(au.ref id []).fK b=bt:=(by simp[alm,bW,f]);cases h:ay c id with
    |none=>grind [hb]
    |some d=>exact .inl ⟨id,d,bq,hQ.1 f,h,by grind [hb]⟩
   |false=>grind [hb,alm,bW]
  |cons j g=>exact e _ rfl
 |_=>exact e _ rfl
def i6 (c:bp (X×aT)) (b:ak6):au->au
 |.fG d=>.fG (d.map (hb c b))
 |a=>hb c b a
theorem JJ (d:∀a,b≠.fG a):i6 c e b=hb c e b:=by
 cases b with
 |fG a=>grind
 |_=>rfl
def tN (a:ak6) (st:aW):aW:=⟨st.g.map λb=>(b.1,i6 st.h a b.2),del a st.h⟩
def JU (c:au->au) (e:c .dead=.dead):∀(d:bp (X×au)) (b:X),gt (d.map λf=>(f.1,c f.2)) b=c (gt d b)
 |[],b=>e.symm
 |(g,a)::d,b=>by
  show gt ((g,c a)::_) b=_;rw[jx,jx];split
  ·rfl
  exact JU c e d b
theorem FJ (a:ak6) (st:aW) (b:X):gt (tN a st).g b=i6 st.h a (gt st.g b):=JU (i6 st.h a) rfl st.g b
def Yr (a:ak6) (st:aW):bc (tN a st).g=λb=>i6 st.h a (bc st.g b):=by
 funext b;cases b with
 |tmp c=>exact FJ a st c
 |const d=>cases d<;>rfl
 |func e|global f=>rfl
theorem Hj (c:b.fK e=br) (a:bp (X×bp bd)):fy e a b=b:=by grind [fy]
def agX {a:bp au} (c:(au.fG a).fK e=br) (f:b∈a):b.fK e=br:=by unfold alm at c|-;rw[uQ] at c|-;intro id h;obtain⟨d,g,rfl⟩:=hV.1 f;exact c id (au.BQ (l:=a) (i:=d) (bh g) h)
theorem Mr (c:b.fK e=br) (a:bp (X×bp bd)):gb e a b=b:=by
 cases b with
 |fG f=>
  simp only[gb];rw[iL (λb d=>Hj (agX c d) a),aoB]
 |_=>exact Hj c a
theorem Ys (a:ak6) (b:bp (X×bp bd)) (c:aT):gb a b (r4 c)=fy a b (r4 c):=by unfold r4;split<;>rfl
def zA (a e:au):Prop:=a=.dead\/a=e\/∃b c,a=.fG b/\e=.fG c/\b.length=c.length/\∀(f:X) (d g:au),b[f]?=Y d->c[f]?=Y g->d=.dead\/d=g
section
variable {C:fb} {st:aW} {G:akY} {w:bH}
theorem c6.freeze {i:X->Prop} (u:c6 C st G w i T U) (Q:∀id∈e,∃b,ay st.h id=Y b/\JK b.1=bt):g0 C (tN e st) G w:=by
 have J:=u.eK (S:=e) (keep:=[]) (new:=[]) (rtn:=T) (fpn:=U) (w':=w) (I':=λa=>i a\/∃id∈e,∃b,ay st.h id=Y b/\a∈U id) ⟨bg _,bq,bq,bq,λ_ _ _=>rfl,λ_ _=>.refl _ _,λ_ c=>.inl c,λa c=>c.imp id λ⟨id,ad,b,s,l⟩=>
  ⟨((u.tree id b s).2.2 a l).2.2.1,.inr ⟨id,ad,b,s,l⟩⟩,(λ_ _ c=>by cases c),(λ_ _ _ _ c=>by cases c),(λ_ c=>by cases c),(λ_ c=>by cases c)⟩
 refine⟨_,_,_,{J with tmp:=λq=>?_}⟩;rw[FJ];have m:=u.tmp q;have p:=J.tmp q;rw[show gt (aW.mk (alF e [] st.g) ([]++del e st.h)).g q=gb e [] (gt st.g q) from sb _ _ _ _] at p;generalize gt st.g q=j at m p;generalize G.getD q bZ=f at m p;have D:∀(j:au) (f:Value),c8 (cG i C.B) w st.h T U j f->c8 (cG (λa=>i a\/∃id∈e,∃b,ay st.h id=Y b/\a∈U id) C.B) w ([]++del e st.h) (fA [] T T) (fA [] U U) (fy e [] j) f->
  c8 (cG (λa=>i a\/∃id∈e,∃b,ay st.h id=Y b/\a∈U id) C.B) w ([]++del e st.h) (fA [] T T) (fA [] U U) (hb st.h e j) f:=by
  intro j f m p;rcases m4 st.h e j with⟨id,b,k,n,o,P⟩|⟨k,_⟩|⟨k,n⟩
  ·rw[P];rw[k] at m;cases m with|ref s am=>
   rw[o] at s;cases s;obtain⟨rfl,rfl,rfl⟩:=alE.1 am;obtain⟨c1,I,F⟩:=Q id n;rw[o] at I;cases I;have E:∀v a,cG i C.B v a->cG (λa=>i a\/∃id∈e,∃b,ay st.h id=Y b/\a∈U id) C.B v a:=by
    intro v a l;cases v
    ·exact .inl l
    exact l.imp .inl (λc=>c)
   have H:=(u.tree id b o).1;have y:∀a∈U id,cG (λa=>i a\/∃id∈e,∃b,ay st.h id=Y b/\a∈U id) C.B .bo a:=λa l=>.inr ⟨id,n,b,o,l⟩;obtain⟨d,t⟩:=b;by_cases an:∃r,d=.optr r
   ·obtain⟨r,rfl⟩:=an;obtain⟨a,z,bx,M,ax,a4,bl,N,bs,O⟩:=H;show c8 _ _ _ _ _ (.val (.ptr .bo (kj r)) (Y (n5 r t))) _;have ax:T id=[.pointer (Y ⟨a,z,bv⟩)]:=ax;rw[ax];refine .val (τ:=.ptr .bo (kj r)) (x:=Y (n5 r t)) (cs:=[.pointer (Y ⟨a,z,bv⟩)]) ⟨bq,a,z,M,bq,y a ae,by grind [tO],N,wO E F O (λL ce=>y L ae)⟩
   have av:eY d (T id)=eY (kj d) (T id):=(by cases d<;>rfl);have a0:r4 ⟨d,t⟩=.val (kj d) (n5 d t):=by cases d<;>first|rfl|grind
   have ap:r3 d=bt:=by cases d<;>first|exact F|grind
   rw[a0];show c8 _ _ _ _ _ _ (eY d (T id));rw[av];exact .val (wO E ap H y)
  ·rw[k];exact .dead _
  grind [Hj]
 cases j with
 |fG cv=>
  cases m with|fG ci R=>
  cases p with|fG co V=>
  refine .fG ae (λK a3 f k n=>?_);rw[jQ] at k;obtain⟨A,o,rfl⟩:=fO.1 k;exact D A f (R K A f o n) (V K _ f ae n)
 |_=>exact D _ _ m p
theorem g0.P7 (t:g0 C st G w) (y:∀a,zA (gt i.g a) (gt st.g a)) (J:∀id,ay i.h id=ay st.h id):g0 C i G w:=by
 obtain⟨k,n,l,d⟩:=t;refine⟨k,n,l,{d with tree:=λid e p=>d.tree id e ae,dis:=λj D e F L M=>d.dis j D e F ae ae,tmp:=λa=>?_}⟩;have P:∀(b:au) (f:Value),c8 (cG k C.B) w st.h n l b f->c8 (cG k C.B) w i.h n l b f:=λb f v=>
  v.ws (λO H x=>⟨x,ald _ _⟩) (λid _ e p=>⟨ae,bq,bq,(d.tree id e p).1,λ_ _=>ald _ _⟩)
 have m:=d.tmp a;rcases y a with c|c|⟨N,E,ax,q,r,s⟩
 ·rw[c];exact .dead _
 ·grind
 rw[ax];rw[q] at m;generalize G.getD a bZ=f at m;cases m with|fG z K=>
 refine .fG (r.trans z) (λj b f u I=>?_);obtain⟨o,A⟩:∃o,E[j]?=some o:=ae;rcases s j b o u A with c|c
 ·rw[c];exact .dead _
 grind
def g0.less (b:g0 C st G w) (c:∀a,gt i.g a=.dead\/gt i.g a=gt st.g a) (d:∀id,ay i.h id=ay st.h id):g0 C i G w:=
 b.P7 (λa=>(c a).imp id .inl) d
end
def sw:Op->bp bS
 |.build _ c|.buildSlice _ _ c=>c.toList.map (·.2)
 |.store _ _ a|.mapUpdate _ _ _ a|.insert _ _ _ a|.entryStore _ _ _ a|.box _ a|.assign a=>[a]
 |.call b=>match b.callee with
  |.value _=>b.args.toList
  |.builtin .append=>b.args.toList.drop 1
  |_=>[]
 |_=>[]
def v5 (b:bU):X:=match b.dst with
 |some a=>a
 |none=>999999
def m5 (a:ak8) (c:X) (b:bS->au):bp bS->ak6
 |[]=>[]
 |x::d=>match b x with
  |.ref id []=>bif a.any (λe=>bL e.1 c&&bL e.2 id) then id::m5 a c b d else m5 a c b d
  |_=>m5 a c b d
end
section
theorem Iy {b c:bp f} (d:r<=a) (e:a<=b.length):(jS b c r a).length=b.length:=by grind [alr,alj,aoF,jS]
theorem Oq {c d:bp f} (e:a<=r) (g:r<=c.length) (b:X):(jS c d a r)[b]?=if a<=b/\b<a+min d.length (r-a) then d[b-a]? else c[b]?:=by grind [jS]
def rK {k:Type} (tt:bp (bN×ao)) (d:bp (X×aT)) (f:X) (l:bN) (m j:au) (e:c0->bA k):bA k:=
 match hd tt l with
 |none=>bv
 |some i=>match m with
  |.ref id []=>match ay d id with
   |some ⟨.osl a,b⟩=>bif bi i a&&bL a.size 1&&a.pure then
    (lZ d a j).bind λc=>e ⟨Y (f,.val (.int .i64) ((min c.length (b.length-0):X):Z)),[id],[(id,[])],[(id,⟨.osl a,jS b c 0 b.length⟩)]⟩
    else bv
   |_=>bv
  |.view id [] h g=>match ay d id with
   |some ⟨.osl a,b⟩=>bif bi i a&&bL a.size 1&&a.pure then
    (lZ d a j).bind λc=>e ⟨Y (f,.val (.int .i64) ((min c.length (g-h):X):Z)),[id],[(id,[])],[(id,⟨.osl a,jS b c h g⟩)]⟩
    else bv
   |_=>bv
  |_=>bv
def c0.V2 {d:bp (X×bp bd)} {st:aW}:(c0.mk (Y (a,b)) e d c).app st=⟨(a,b)::alF e d st.g,c++del e st.h⟩:=by show aW.mk ((a,b)::ob e d st.g) (c++rU e st.h)=_;rw[tT,yt]
section
variable {E:fY} {C:fb} {st:aW} {a:Act} {w:bH} {I:X->Prop} {rt:X->ak0} {fp:X->ak6} {o:bU}
def MB (e:c6 C st a.tmps w I rt fp) {b:bp k.den} (c:lZ st.h k (bc st.g N)=Y b):z8 I C.B w k (a.eval N) b:=by
 refine w5 e ?_;have:=CS c;generalize sA st.h k (bc st.g N)=i at this;cases i with
 |e9 l=>exact this.symm
 |part m n j=>obtain⟨f,d,rfl⟩:=this;exact⟨f,d,bq⟩
 |bad=>exact this.elim
theorem Ix (cv:c6 C st a.tmps w I rt fp) {em:f} {dl:c0->bA f} {x:X} (gl:o.op=.call {callee:=.builtin .copy,args:=#[N,V],argTypes:=#[d,R]}) (f6:o.dst=Y x) (f7:C.ok x) {next:Act->bH->Prop} (gi:∀eq a4 w',(∃q,dl q=Y em/\eq=q.app st)->a4.defers=a.defers->g0 C eq a4.tmps w'->next a4 w') (f3:hd E.tt d=Y O) (gf:bi O k=bt) (F:k.size=1) (ad:k.pure=bt) {id c:X} {j i:bp k.den} (an:ay st.h id=Y ⟨.osl k,j⟩) (ci:r<=c) (co:c<=j.length) (hc:z8 I C.B w k (a.eval V) i) {bl:bA Addr} {d0:X} (gs:a.eval N=.slice bl (c-r) d0) (gt:c-r=0\/∃b n K,rt id=[.slice (Y ⟨b,n,bv⟩) j.length K]/\bl=Y ⟨b,n+r,bv⟩) (f0:dl ⟨Y (x,.val (.int .i64) ((min i.length (c-r):X):Z)),[id],[(id,[])],[(id,⟨.osl k,jS j i r c⟩)]⟩=Y em):o.wp E.P a w next m:=by
 obtain⟨e,ds,aE,d6,fz⟩:=hd.ok f3;have fT:=fz.lay gf;obtain⟨mp,_,a0,_⟩:=fT.info;obtain⟨fl,nn,no⟩:=cv.tree id _ an;obtain⟨fn,i3,d2,hr,c1,lf⟩:=hc;have d1:∀w':bH,w'.heap.size=w.heap.size->w'.os=w.os->w'.tape=w.tape->w'.output=w.output->(∀b,b∉fp id->w'.heap[b]?=w.heap[b]?)->(∀b,jy w' b=jy w b)->a5 (cG I C.B) w' (.osl k) (rt id) (jS j i r c) (fp id)->
  (Builtin.copy_ #[d,R] o.type #[a.eval N,a.eval V]).run E.P w=.ok (goInt ((min i.length (c-r):X):Z)) w'->o.wp E.P a w next m:=by
  intro w' io is ix i0 i1 i2 ne am;have am:(bT a.eval o).run E.P w=.ok (.value (goInt ((min i.length (c-r):X):Z))) w':=(by simp only[bT,gl,resolve,invoke,builtin,b8,alp,cd,List.map_toArray,ir,sL,am]);have go:=cv.eK (S:=[id]) (keep:=[(id,[])]) (new:=[(id,⟨.osl k,jS j i r c⟩)]) (rtn:=rt) (fpn:=fp) (w':=w') (I':=I)
   ⟨Nat.le_of_eq io.symm,is,ix,i0,λb lc f2=>i1 b (f2 id ac _ an),λb _=>.of_eq (i2 b),λ_ L=>L,λ_ L=>.inl L,(by
    intro e ex s;rw[eX] at s;split at s
    ·grind
    ·cases s),(by
    intro e g nx n7 s c2 lk;rw[eX] at s c2;split at s
    ·split at c2
     ·omega
     cases c2
    ·cases s),(by
    intro q M ex ap;simp only[fH] at M;subst M;have ap:ay st.h id=Y ex:=ap;rw[an] at ap;obtain rfl:=gy ap;exact⟨⟨.osl k,jS j i r c⟩,by rw[eX,aB bq],bq,bq,⟨_,bq⟩,λnd _ _ _ T=>by grind [Ka]⟩),(by
    grind [yu,ak9])⟩
  unfold alJ;rw[am];show next (a.put o.dst _) w'
  rw[f6];have ad:=go.put f7 (av:=.val (.int .i64) ((min i.length (c-r):X):Z)) (v:=goInt ((min i.length (c-r):X):Z)) (.val (τ:=.int .i64) (cs:=[.int .i64 _]) ⟨bq,bq⟩);have hrel:g0 C ((c0.mk (Y (x,.val (.int .i64) ((min i.length (c-r):X):Z))) [id] [(id,[])] [(id,⟨.osl k,jS j i r c⟩)]).app st) (a.put (Y x) (goInt ((min i.length (c-r):X):Z))).tmps w':=(by rw[c0.V2];exact⟨I,_,_,ad⟩);exact gi _ _ _ ⟨_,f0,bq⟩ rfl hrel
 have l2:Nat.min i.length (c-r)=min i.length (c-r):=rfl;by_cases T:min i.length (c-r)=0
 ·have le:jS j i r c=j:=by
   apply ig;intro e;rw[Oq ci co,aA aa]
  refine d1 w bq rfl rfl rfl (λ_ _=>rfl) (λ_=>rfl) ae ?_;rw[gs,hr,T];exact run_copy_none w d R o.type ds bl fn _ _ _ _ d6 (by rw[a0.info];simp[a0.size,F]) aa
 rcases gt with lb|⟨b,n,K,ek,rfl⟩
 ·omega
 rw[ek] at fl;obtain⟨i8,kg,ax,ft⟩:=fl;simp only[iC,alh,cf] at ax;obtain⟨rfl,_,rfl⟩:=ax;rcases ft with⟨bs,_⟩|⟨jp,mz,A,bs,d9,d3,d4,ce,d5⟩
 ·cases bs
 cases bs;have d4:j.length<=K:=d4;have d3:A.length=j.length:=d3;have gc:A.flatten=[]:=JC (λbx Q=>by
  obtain⟨e,s,rfl⟩:=hV.1 Q;have lt:e<j.length:=aa;obtain⟨z,_,_,y⟩:=d5 e j[e] A[e] ac ac;exact y.pure ad)
 rw[gc] at d9;obtain⟨dg,hw,ib,ic,ii⟩:=c1.cells aa;rw[F,amE] at hw;have hi:i≠[]:=λq=>ae;obtain⟨a3,rfl⟩:∃a3,fn=some a3:=by
  rcases c1.2 with L|⟨kd,mt,rfl,_⟩
  ·grind
  grind
 let l:=dg.take (min i.length (c-r))
 have f4:l.length=min i.length (c-r):=ae;have f5:∀g v,l[g]?=Y v->dg[g]?=Y v:=λg v p=>by
  rw[anx] at p;split at p
  ·exact p
  grind
 have d8:∀g,g<l.length->(w.cell? ⟨b,n+r+g,bv⟩).isSome=bt:=λg p=>(ce (n+r+g) aa ae).1;have am:=run_copy_cells (P:=E.P) w d R o.type ds b (n+r) (c-r) d0 a3 i.length i3 l d6 (by rw[a0.info];simp[a0.size,F]) (by rw[f4]) (λg v p=>ic a3 bq hi g v (f5 g v p)) d8 (λg p=>(ce (n+r+g) aa ae).2) (λv u=>ib v (uT u));have d7:b∈fp id:=ae;have f1:∀H t,cG I C.B H t->t≠b:=λH t U q=>cv.notM an b d7 H (q▸U);refine d1 (w.setCells b (n+r) l) (uw b l _ w) (pW b l _ w).1 (pW b l _ w).2.1 (pW b l _ w).2.2 (λt T=>zl b l _ w t (λq=>T (q▸d7))) (λt=>BM _ _ _ _ _) ?_ ?_
 ·rw[ek,d9];refine⟨Y ⟨b,n,bv⟩,K,by rw[Iy ci co],.inr ⟨b,n,bJ j.length [],bq,by rw[JC (λbx Q=>List.eq_of_mem_replicate Q)],by grind [Iy],by grind [Iy],?_,?_⟩⟩
  ·intro g hs hv;obtain⟨of,ol⟩:=ce g hs hv;grind [LW,aou]
  intro e J bx G Q;have f9:bx=[]:=ae;subst f9;rw[Oq ci co] at G;have el:∀{z:ak0} {J:k.den},a5 (cG I C.B) w k z J []->a5 (cG I C.B) (w.setCells b (n+r) l) k z J []:=λD=>D.mono (λH t U=>⟨U,sr (f1 H t U)⟩) ac;split at G
  ·rename_i lo;have p:e-r<l.length:=aa;have ge:d2[e-r]?=Y []:=by
    have mc:e-r<d2.length:=(by rw[c1.1];omega);grind [List.flatten_eq_nil_iff,b1,bV]
   have D:=ii (e-r) J [] G ge;rw[F,amE] at D;have f8:(dg.drop (e-r)).take 1=[l[e-r]]:=(by grind [anQ]);rw[f8] at D;refine⟨[l[e-r]],ae,?_,el D⟩;intro g v u;cases g with
   |zero=>
    simp only[zP,fc] at u;subst u;have:=am5 b l (n+r) w d8 (e-r) p;rw[<-this,F];congr 2;omega
   |succ g=>grind
  rename_i mo;have ll:e<j.length:=(ih.1 G).1;obtain⟨z,fr,fs,y⟩:=d5 e J (A[e]'(by omega)) G ac
  have M:A[e]'(by omega)=[]:=y.pure ad
  rw[M] at y;refine⟨z,fr,?_,el y⟩;intro g v u;have:=fs g v u;grind [anK,alT]
 grind
theorem fI.copy {H:f} {B:c0->bA f} (y:o.op=.call {callee:=.builtin .copy,args:=#[N,V],argTypes:=#[d,R]}) (t:o.dst=Y r) (u:C.ok r) (b:rK E.tt st.h r d (bc st.g N) (bc st.g V) B=Y H):fI E C o st (λS=>∃G,B G=Y H/\S=G.app st):=by
 rintro a w ⟨I,rt,fp,e⟩ next am x
 have k:=e.bc N;unfold rK at b;split at b
 ·cases b
 rename_i J z;split at b
 ·rename_i id s;split at b
  case h_2=>cases b
  rename_i j K i;cases c:(bi J j&&bL j.size 1&&j.pure) with
  |false=>grind
  |true=>
  rw[c] at b;simp only[cL] at c;obtain⟨U,n,b⟩:=fh.1 b;rw[s] at k;generalize m:a.eval N=T at k;cases k with|ref l v=>
  rw[i] at l;cases l;obtain⟨rfl,rfl,rfl⟩:=alE.1 v;have A:=(e.tree id _ i).1;obtain⟨D,F,ax,L⟩:=A;have O:a.eval N=.slice D (K.length-0) F:=(by rw[m,ax];rfl);refine Ix e y t u x z c.1.1 (fN c.1.2) c.2 i (dj _) (bg _) (MB e n) O ?_ b;grind
 ·rename_i id a4 av s;split at b
  case h_2=>cases b
  rename_i j K i;cases c:(bi J j&&bL j.size 1&&j.pure) with
  |false=>grind
  |true=>
  rw[c] at b;simp only[cL] at c;obtain⟨U,n,b⟩:=fh.1 b;rw[s] at k;generalize m:a.eval N=T at k;cases k with|mN=>(exact Ix e y t u x z c.1.1 (fN c.1.2) c.2 i (bg _) (dj _) (MB e n) m (.inl bq) b)|view l v P Q a0=>
  rw[i] at l;cases l;rename_i ad bl an bs a3 F;obtain⟨p,_,q⟩:=alE.1 v;have p:ao.osl j=ao.osl ad:=p;cases p;have M:=fN c.1.2;have A:=(e.tree id _ i).1;obtain⟨D,ap,ax,L⟩:=A;rw[ax] at q;simp only[iC,alh,cf] at q;obtain⟨rfl,rfl,rfl⟩:=q;refine Ix e y t u x z c.1.1 M c.2 i P Q (MB e n) m ?_ b;grind
 grind
end
end
section
def a8.cells {w q:bH} (e:∀a,q.cell? a=w.cell? a):∀{p:bp bd} {τ r:ao} {m n:Loc} {f g:ak0},a8 w τ m f p r n g->a8 q τ m f p r n g
 |[],τ,_,_,_,_,_,c=>by cases τ<;>exact c
 |s::p,τ,r,m,n,f,g,c=>by
  have u:∀{b o:X} {d:ak0},fC w b o d->fC q b o d:=λy A C z=>(by rw[e];exact y A C z);cases τ<;>cases s<;>simp only[a8] at c
  case osl.idx t i=>
   obtain⟨b,o,B,v,d,h,j,k,l,x⟩:=c;exact⟨b,o,B,v,d,h,j,k,u l,x.cells e⟩
  case optr.deref t=>
   obtain⟨b,o,d,h,j,k,l⟩:=c;exact⟨b,o,d,h,j,u k,l.cells e⟩
  case st.unst t=>exact a8.cells e (τ:=t) c
  case pr.fst a b=>exact a8.cells e (τ:=a) c
  case pr.snd a b=>exact a8.cells e (τ:=b) c
theorem agH (a:ao):gk a []=Y a:=by cases a<;>rfl
theorem a8.zu {w:bH} {r:bp bd}:∀{p:bp bd} {τ c:ao} {m n:Loc} {e f:ak0},a8 w τ m e p c n f->gk τ (p++r)=gk c r
 |[],τ,_,_,_,_,_,a=>by grind [alE]
 |s::p,τ,_,_,_,_,_,a=>by
  cases τ<;>cases s<;>simp only[a8] at a
  case osl.idx t i=>obtain⟨d,o,u,q,g,h,j,k,b,l⟩:=a;exact l.zu
  case optr.deref t=>obtain⟨d,o,g,h,j,k,b⟩:=a;exact b.zu
  case st.unst t=>exact a8.zu (p:=p) (τ:=t) a
  case pr.fst t1 t2=>exact a8.zu (p:=p) (τ:=t1) a
  case pr.snd t1 t2=>exact a8.zu (p:=p) (τ:=t2) a
section
variable {E:fY} {C:fb} {st:aW} {a:Act} {A:akY} {w:bH} {I:X->Prop} {rt:X->ak0} {fp:X->ak6} {o:bU} {Q:aW->Prop}
def OB:∀{p q:bp bd},lF (p++[.deref]) q=bt->lF p q=bt
 |[],q,a=>by
  cases q with
  |nil=>cases a
  |cons s q=>
   cases s<;>cases a
 |s::p,[],a=>by cases s<;>cases a
 |s::p,b::q,a=>by cases s<;>cases b<;>first|(cases a;done)|exact OB (p:=p) (q:=q) a|rfl
theorem c6.Z3 (v:c6 C st A w I rt fp) {id:X} {d:aT} (t:ay st.h id=Y d) {am:Loc} {M:ak0} (Q:a8 w d.1 bv (rt id) l O am M) {U:bp (Z×k.den)} {L:X} (c1:e7 d.1 d.2 l (.mp k) (Y (U,L))):∃a E D,M=[.map (Y a)]/\a∈fp id/\(∀q b,cG I C.B q b->b≠a)/\ly (cG I C.B) w k a U L E D/\∀{f:bX alg} {c:X} {z:bp (Z×k.den)} {K:bp (Z×X×k.den)} {p:d.1.den},ly (cG I C.B) (kV w a f c) k a z c f K->mQ w (kV w a f c) a->gD d.1 d.2 l (.mp k) (Y (z,c)) p->∃d6 a3,c6 C ⟨alF [id] [(id,l++[.deref])] st.g,(id,⟨d.1,p⟩)::del [id] st.h⟩ A (kV w a f c) I d6 a3:=by
 obtain⟨d0,S,cs⟩:=v.tree id d t;obtain⟨f3,d9,el,d5,a4,bl,bs,N,em,bx,ce⟩:=FE l (loc:=bv) d0 (λ_ _ j=>by cases j) S (λ_ _ j=>by cases j) (v.notM t) c1;obtain⟨ap,ax,av⟩:=Q.mC a4;subst ap;subst ax;subst av;obtain⟨a,E,D,rfl,rfl,F⟩:=bl.QI;have G:a∈fp id:=N.mem_iff.2 ac;have co:∀q b,cG I C.B q b->b≠a:=λq b i n=>v.notM t a G q (n▸i);refine⟨a,E,D,bq,G,co,F,?_⟩;intro f c z K p ci ex T;have R:=N.nodup_iff.1 S;rw[j3] at R;have ft:∀b∈d5,b≠a:=λb i n=>R.2.2 a ac b i n.symm;have x:=afG (es':=f) (c':=c) F.h;have cv:=afH (es':=f) (c':=c) F.h;have d2:∀b,b≠a->eF w (kV w a f c) b:=λb i=>Tp i;obtain⟨ek,a0,fz,_,d3,_,f0,_,fT⟩:=bx (kV w a f c) (cG I C.B) [.map (Y a)] (Y (z,c)) [a] p (λ_ _ j=>j) (λb i=>by
   have c2:b≠a:=by
    rcases i with⟨q,fr⟩|i|⟨o,fs⟩
    ·grind
    ·grind
    grind
   exact⟨λu _=>x _,λu=>cv _,λu=>by rw[x],(d2 b c2).2⟩)
  (a5.QJ ci) (λ_ _=>rfl) (λan d4 n=>by
   have:=(bs an d4 n).1;exactλu ad s=>by rw[x];exact this u ad s) T
 obtain rfl:=d3 bq (.inr bq);have fn:=(cs a G).2.2.1;have e:rB C st w (kV w a f c) I I rt fp [id] [(id,l++[.deref])] [(id,⟨d.1,p⟩)] (λ_=>rt id) (λ_=>a0):=by
  refine⟨by grind [To],bq,bq,bq,?_,?_,λ_ j=>j,λ_ j=>.inl j,?_,?_,?_,?_⟩
  ·grind [Cy]
  ·intro b _;by_cases n:b=a
   ·grind
   exact .of_heap (Cy n)
  ·intro H J e;rw[eX] at e;split at e
   ·grind [To]
   cases e
  ·intro H u J ad m s fl;rw[eX] at m s;split at m
   ·split at s
    ·omega
    cases s
   cases m
  ·intro H m J e;simp only[fH] at m;subst m;rw[t] at e;obtain rfl:=gy e;refine⟨⟨d.1,p⟩,by rw[eX,aB bq],bq,bq,?_,λV f8 f4 d8 _ ds=>ds.cells x⟩;have eq:=Q.zu (r:=[.deref]);grind [agH,gk]
  intro H m J e V f7 f6 f1 d7 f2 y dl dg P d1;simp only[fH] at m;subst m;rw[t] at e;obtain rfl:=gy e;have y:=OB y;refine⟨⟨d.1,p⟩,by rw[eX,aB bq],yv y T P,λb i=>?_⟩;obtain⟨aE,f5⟩:=ce V _ _ _ _ _ y (by exact dl) P dg d1 b i;grind
 exact⟨_,_,v.eK e⟩
def BK {α:Type} (c:bA (bp (Z×α)×X)) (b:Z) (d:α):bA (bA (bp (Z×α)×X)):=match c with
 |none=>bv
 |some a=>Y (Y (lj a.1 b d,bif (im a.1 b).isSome then a.2 else a.2+1))
def qR {f:Type} (tt:bp (bN×ao)) (i:bp (X×aT)) (h:bN) (n d m:au) (g:c0->bA f):bA f:=
 match n with
 |.ref id c=>match ay i id with
  |some a=>match sc tt h,d,m with
   |some l,.val (.int .i64) d,.val p e=>match gk a.1 c with
    |some (.mp b)=>bif bi l b then match iE b e with
     |some e=>(jn a.1 a.2 c (.mp b)).bind λj=>(BK (α:=b.den) j d e).bind λk=>(pd a.1 a.2 c (.mp b) k).bind λo=>g ⟨bv,[id],[(id,c++[.deref])],[(id,⟨a.1,o⟩)]⟩
     |none=>bv
     else bv
    |_=>bv
   |_,_,_=>bv
  |none=>bv
 |_=>bv
theorem QO {z:f} {q:c0->bA f} {e:bS} (j:o.op=.mapUpdate d e N V\/o.op=.insert d e N V) (R:o.dst=bv) (b:qR E.tt st.h d (bc st.g e) (bc st.g N) (bc st.g V) q=Y z):fI E C o st (λcv=>∃s,q s=Y z/\cv=s.app st):=by
 rintro a w ⟨I,rt,fp,i⟩ next d2 ad
 have n:=i.bc e;have c:=i.bc N;have m:=i.bc V;unfold qR at b;split at b
 case h_2=>cases b
 rename_i id d6 F;split at b
 case h_2=>cases b
 rename_i ex x;split at b
 case h_2=>cases b
 rename_i dg k eq el Q A D;obtain⟨dl,d1,c1,c2,d7⟩:=sc.ok Q;split at b
 case h_2=>cases b
 rename_i p an;cases t:bi dg p with
 |false=>grind
 |true=>
 rw[t] at b;simp only[bI] at b;split at b
 case h_2=>cases b
 rename_i ek a0;obtain⟨bs,T,H⟩:=fh.1 b;obtain⟨d5,u,J⟩:=fh.1 H;obtain⟨em,a3,K⟩:=fh.1 J;cases bs with
 |none=>cases u
 |some bx=>
 obtain⟨a4,r⟩:=bx;cases u;cases lD a0;rw[F] at n;rw[A] at c;rw[D] at m;generalize av:a.eval e=d9 at n;generalize U:a.eval N=d4 at c;generalize ap:a.eval V=d8 at m;cases c with|val co=>
 obtain⟨_,rfl⟩:=co;cases m with|val cT=>
 cases n with|ref y v=>
 rw[x] at y;cases y;obtain⟨l,d3,ds,rfl,t,M,L,S⟩:=i.Z3 x v (kC T);have:=v.ty;rw[an] at this;cases this;obtain⟨B,d0,aE,ce,ci⟩:=L.update (P:=E.P) c1 c2 k cT.len cT;obtain⟨cs,G,O⟩:=S (ce (λbl N c=>⟨c,M bl N c⟩)) ci (ss a3);unfold alJ;have am:(bT a.eval o).run E.P w=.ok .skip (kV w l B (bif (im a4 k).isSome then r else r+1)):=by
  have this:∀p:ao,eY (.mp p) [Value.map (Y l)]=.map (Y l):=λ_=>rfl;rcases j with j|j<;>
  ·simp only[bT,j,av,U,ap,b8];rw[this,show eY (.int .i64) [alz .i64 k]=.int .i64 k from rfl,aE];rfl
 rw[am];show next (a.put o.dst bZ) _
 rw[R];refine ad _ _ _ ⟨_,K,?_⟩ rfl ⟨I,cs,G,O⟩;rfl
def wG (c:bp (X×aT)) (f g:au):bA (X×bp bd×X×aT):=match f,g with
 |.ref id (e::d),.ref a []=>match ay c a with
  |some b=>match b.1 with
   |.osl h=>match h.pure with
    |true=>bv
    |false=>Y (id,e::d,a,b)
   |_=>bv
  |none=>bv
 |_,_=>bv
def Ab {h:Type} (tt:bp (bN×ao)) (e:bp (X×aT)) (b:X) (j:bN) (id:X) (c:bp bd) (f:X) (k:aT) (i:c0->bA h):bA h:=
 match hd tt j,ay e id,ay e b with
 |some l,Y d,bv=>match gk d.1 c with
  |some (.osl a)=>match iE (.osl a) k.2 with
   |some g=>bif bi l a&&(b5 a.size 1300&&(a.lm&&!(bL f id))) then
    (jn d.1 d.2 c (.osl a)).bind λm=>(cI (cE (α:=a.den) m+cE (α:=a.den) g)).bind λ_=>i ⟨Y (b,.app id c a g [b,f]),[id],[(id,c),(id,[])],[(b,⟨.eL,()⟩),(id,d)]⟩
    else bv
   |none=>bv
  |_=>bv
 |_,_,_=>bv
def oQ {g:Type} (tt:bp (bN×ao)) (h:bp (X×ao)) (a:bp (X×aT)) (d:X) (c:bN) (e f:au) (b:c0->bA g):bA g:=match wG a e f with
 |some (id,j,i,k)=>Ab tt a d c id j i k b
 |none=>pB tt h a d c e f b
theorem Lk {id:X} {a:aT} (d:wG c b s=Y (id,l,r,a)):b=.ref id l/\s=.ref r []/\ay c r=Y a:=by unfold wG at d;grind
theorem VY {z:f} {q:c0->bA f} (x:o.op=.call {callee:=.builtin .append,args:=#[V,N],argTypes:=#[d,d]}) (u:o.dst=Y r) (v:C.ok r) (b:oQ E.tt j st.h r d (bc st.g V) (bc st.g N) q=Y z):fI E C o st (λce=>∃e,q e=Y z/\ce=e.app st):=by
 unfold oQ at b;split at b
 case h_2=>exact fI.app x u v (VV b (λe m=>⟨e,m,bq⟩))
 rename_i id dg c ci am;obtain⟨L,M,n⟩:=Lk am;unfold Ab at b;split at b
 case h_2=>cases b
 rename_i co d3 J av K;split at b
 case h_2=>cases b
 rename_i k c1;split at b
 case h_2=>cases b
 rename_i d1 a3;cases i:(bi co k&&(b5 k.size 1300&&(k.lm&&!(bL c id)))) with
 |false=>grind
 |true=>
 rw[i] at b;simp only[cL] at i;obtain⟨Q,ap,T,U⟩:=i;have U:c≠id:=λe=>ag;obtain⟨d0,a0,G⟩:=fh.1 b;obtain⟨_,R,H⟩:=fh.1 G;obtain⟨d2,A⟩:=ci;cases lD a3;rintro a w ⟨I,rt,fp,l⟩ next cs ad
 refine Nz (S2:=[c]) x u v l ad J Q (g8 ap) T L av K (kC a0) ?_ ?_ (yO R) ⟨_,H,bq⟩
 ·have p:=l.bc N;rw[M] at p;generalize c2:a.eval N=ds at p;cases p with|ref y S=>
  rw[n] at y;cases y;obtain⟨rfl,rfl,rfl⟩:=alE.1 S;obtain⟨bl,bx,dl⟩:=l.tree c _ n;have a4:=bl;obtain⟨s,t,an,cv⟩:=a4;have bs:a5 (cG I C.B) w (.osl k) [.slice s (cE (α:=k.den) A) t] A (fp c):=ae;obtain⟨_,_,F,m,O,P,_⟩:=k0.osl bs;exact⟨s,t,F,by rw[an];rfl,m,P bx,λD i=>⟨c,ac,_,n,O D i⟩⟩
 grind
end
end
section
structure VG where
 c:cA
 n:X
 pin:bA ak6
 ds:ak6
 α:Type
 f:aW->bA α
 g:aW->α->aW
structure hz where
 tt:bp (bN×ao)
 TY:bp (X×jP)
 an:bp (X×ao)
 n:X
 pin:ak6
 kg:bp (X×au)
 qJ:ak8
 afW:bA eh
 aC:akZ
 akV:bp VG
 v8:bp u6
 eq:akZ
def zJ (b:b3) (c:bN):Prop:=∃a e d,b.info? c=Y a/\a.size=1/\a.zero=Y e/\e.cells.size=1/\b.underlying c=Y d/\(match d with|.struct _|.array _ _=>bt|_=>br)=br
def Bt:bp hW->bp au->bD
 |.c d _::a,.eM b _::as=>bL b d&&Bt a as
 |.c _ _::_,_=>br
 |_::a,_::as=>Bt a as
 |_,_=>bt
def yP:bp (X×jP)->X->bp au->bA jP
 |[],_,_=>bv
 |(k,F)::l,f,as=>bif bL k f&&(Bt F.ps as&&(j1 0 F.ps).isNone) then Y F else yP l f as
theorem Qg:∀{e:bp (X×jP)} {c:X} {as:bp au} {b:jP},yP e c as=Y b->∃d,(d,b)∈e
 |[],_,_,_,a=>by cases a
 |(d,G)::e,c,as,b,a=>by
  simp only[yP] at a;cases f:(bL d c&&(Bt G.ps as&&(j1 0 G.ps).isNone)) with
  |true=>grind
  |false=>
   rw[f] at a;obtain⟨h,g⟩:=Qg a;grind
theorem Qh:∀{d:bp (X×jP)} {c:X} {as:bp au} {b:jP},yP d c as=Y b->j1 0 b.ps=bv
 |[],_,_,_,a=>by cases a
 |(k,G)::d,c,as,b,a=>by
  simp only[yP] at a;cases e:(bL k c&&(Bt G.ps as&&(j1 0 G.ps).isNone)) with
  |true=>
   simp_all
  |false=>
   rw[e] at a;exact Qh a
def vU (ic:hz) (a:nT) (b:a.den):aW:=⟨ic.kg++oY a.g b,vT a.h (vV a.g b)⟩
def hI (b:X) (c:ak6) (a:X):bD:=cg a b&&!(e6 a c)
def ax (ic:hz) {A:Type} (b:bS->au) (h:bp (X×aT)) (q:bU) (c:c0->bA A):bA A:=
 match q.dst with
 |none=>match q.op with
  |.store e g v=>sv ic.tt h e (b g) (b v) c
  |.mapUpdate e g s v|.insert e g s v=>qR ic.tt h e (b g) (b s) (b v) c
  |_=>bv
 |some a=>
  bif hI ic.n ic.pin a then
  match q.op with
  |.pick y g i=>match b y with
   |.val .bool j=>(match b g,b i with
    |.val k u,.val G v=>match iE (τ:=G) k v with
     |some v=>c ⟨Y (a,.val k (bif j then u else v)),[],[],[]⟩
     |none=>bv
    |u,v=>match j with
     |true=>c ⟨Y (a,u),[],[],[]⟩
     |false=>c ⟨Y (a,v),[],[],[]⟩)
   |_=>bv
  |.call {callee:=.value z,args:=xs,argTypes:=_}=>match b z with
   |.eM l m=>
    match yP ic.TY l (xs.toList.map b++m) with
    |none=>bv
    |some d=>bif bL d.f l then
     kQ h (uA (xs.toList.map b++m) d.ps) d.ps (xs.toList.map b++m) λp=>(d.Cw p).bind λj=>bif rH a ⟨[],h⟩ (xs.toList.map b++m) (iw d.ps p j) (lN d.rs (kF d.ps j)) then
      c ⟨Y (a,GU a (lN d.rs (kF d.ps j))),hy (xs.toList.map b++m) (iw d.ps p j),F2 (qM (xs.toList.map b++m) (iw d.ps p j)),mG (xs.toList.map b++m) (iw d.ps p j)++kU a (kR (lN d.rs (kF d.ps j))) 0 (lN d.rs (kF d.ps j))⟩ else bv
     else bv
   |_=>bv
  |.call {callee:=.builtin .append,args:=xs,argTypes:=w}=>match xs.toList,w.toList with
   |[g,i],[e,x]=>bif bL e x then oQ ic.tt ic.an h a e (b g) (b i) c else bv
   |_,_=>bv
  |.call {callee:=.builtin .copy,args:=xs,argTypes:=w}=>match xs.toList,w.toList with
   |[g,i],[e,_]=>rK ic.tt h a e (b g) (b i) c
   |_,_=>bv
  |.assign g=>match b g with
   |.val k i=>c ⟨Y (a,.val k i),[],[],[]⟩
   |.eM l m=>c ⟨Y (a,.eM l m),[],[],[]⟩
   |.addr id E=>c ⟨Y (a,.addr id E),[],[],[]⟩
   |.eN v=>match ay ic.an a with
    |none=>c ⟨Y (a,.eN v),[],[],[]⟩
    |some k=>match k.pure&&qz k v with
     |true=>(jl k v.cells.toList).bind λi=>c ⟨Y (a,.val k i),[],[],[]⟩
     |false=>(qt ic.an h a (.eN v)).bind c
   |v=>(qt ic.an h a v).bind c
  |.build e t=>s6 ic.tt ic.an h b a e t.toList c
  |.box e g=>vg ic.tt ic.an h a e (b g) c
  |.buildSlice e C t=>s8 ic.tt ic.an h b a e C t.toList c
  |_=>match lg ic.tt ic.an h b a q.op with
   |.e9 r=>c ⟨Y (a,r),[],[],[]⟩
   |.opt _ i l=>i.bind λo=>c ⟨Y (a,l o),[],[],[]⟩
   |.new _ i F B=>bif bL B a then i.bind λo=>c ⟨Y (a,.ref a []),[],[],[(a,F o)]⟩ else bv
   |.no=>match hj ic.tt ic.an h b a q.op with
    |.e9 r D=>c ⟨Y (a,r),[],[],D⟩
    |.part _ H l=>(pick H).bind λo=>c ⟨Y (a,(l o).1),[],[],(l o).2⟩
    |.bad=>bv
  else bv
def n2 (b:bp (X×aT)) (a:ak6):bD:=a.all λid=>match ay b id with|some c=>JK c.1|none=>br
def ky (ic:hz) {A:Type} (e:bS->au) (b:bp (X×aT)) (c:bU) (f:c0->bA A):bA A:=
 match m5 ic.qJ (v5 c) e (sw c.op) with
 |[]=>ax ic e b c f
 |F=>bif n2 b F then ax ic (λh=>i6 b F (e h)) (del F b) c λa=>bif a.keep.all (λg=>!e6 g.1 F) then f ⟨a.d,F++a.S,a.keep,a.put⟩ else bv else bv
def KL (ic:hz) (b:bS->au) (c:bU):bA ew:=match c.dst,c.op with
 |some a,.binOp .eql d e g _=>match hd ic.tt d,b e,b g with
  |some _,.val (.bb _ h) f,.eN (.slice bv 0 0)=>bif hI ic.n ic.pin a then Y (a,cE (α:=h.den) f) else bv
  |_,_,_=>bv
 |_,_=>bv
def Bu:ao->bD
 |.nil=>bt
 |.pr (.int _) a=>Bu a
 |_=>br
def tH:(a:ao)->a.den->a.den->bD
 |.pr (.int _) d,b,c=>((b.1:Z)==(c.1:Z))&&tH d b.2 c.2
 |_,_,_=>bt
def Jo (ic:hz) (e:bS->au) (f:bU):bA (X×bD):=match f.dst,f.op with
 |some d,.binOp .eql c i j _=>match ay ic.tt c,e i,e j with
  |some h,.val (.st a) g,.val k b=>bif e6 c ic.eq&&(Bu a&&(bi h (.st a)&&hI ic.n ic.pin d)) then(iE (τ:=k) (.st a) b).map λb=>(d,tH a g b) else bv
  |_,_,_=>bv
 |_,_=>bv
def Ma (ic:hz) (f:bS->au) (d:bU):bA (X×u6×Z):=match d.dst,d.op with
 |some c,.indexAddr e (.global h) g=>match ic.v8.find? (λa=>bL a.b h&&bL a.T e),f g with
  |some a,.val (.int _) i=>bif hI ic.n ic.pin c then Y (c,a,i) else bv
  |_,_=>bv
 |_,_=>bv
def i1 (ic:hz) {A:Type} (a:aW) (d:bU) (c:aW->bA A):bA A:=
 match Ma ic (bc a.g) d with
 |some (b,f,e)=>(aq f.xs e).bind λl=>c ⟨(b,.val (.ptr .bo (.int f.k)) (Y l))::a.g,a.h⟩
 |none=>match Jo ic (bc a.g) d with
 |some (b,i)=>c ⟨(b,.val .bool i)::a.g,a.h⟩
 |none=>match KL ic (bc a.g) d with
 |some (b,e)=>sh e (c ⟨(b,.val .bool bt)::a.g,a.h⟩) (c ⟨(b,.val .bool br)::a.g,a.h⟩)
 |none=>ky ic (bc a.g) a.h d λj=>c (j.app a)
def lI (ic:hz) {A:Type} (c:bX bU):ak6->aW->(aW->bA A)->bA A
 |[],a,b=>b a
 |i::e,a,b=>match c[i]? with
  |none=>bv
  |some f=>match f.guard with
   |none=>i1 ic a f λk=>lI ic c e k b
   |some (
    l,uD)=>match(c[l]?).bind (·.dst),f.dst with
    |some j,Y d=>match gt a.g j with
     |.val .bool m=>bif hI ic.n ic.pin d then
      (match m==uD with
      |true=>i1 ic ⟨(j,.val .bool uD)::a.g,a.h⟩ f λk=>lI ic c e k b
      |false=>lI ic c e ⟨(d,.eN bZ)::(j,.val .bool (!uD))::a.g,a.h⟩ b) else bv
     |.eN (.tuple _)=>bif hI ic.n ic.pin d then lI ic c e ⟨(d,.eN bZ)::a.g,a.h⟩ b else bv
     |_=>bv
    |_,_=>bv
section
variable {E:fY} {C:fb} {ic:hz} {A:Type}
def hz.ah (E:fY) (C:fb) (ic:hz):Prop:=ic.tt=E.tt/\ic.n=C.n/\ic.pin=C.pin/\((∀b∈ic.TY,aG E b.2)/\u5 C ic.afW/\(∀a∈ic.aC,zJ E.P a)/\mj E C.I0 C.w0/\ic.v8=E.glob/\ic.eq=E.eqs)/\p9 C ic.kg
theorem hI.ok (b:ic.ah E C) {d:X} (a:hI ic.n ic.pin d=bt):C.ok d:=by obtain⟨_,c,e,_,_⟩:=b;rw[c,e] at a;simp only[hI,cL] at a;exact⟨g8 a.1,λf=>by grind [hQ]⟩
def g0.same {e:akY} {d:aW} (l:∀b,gt d.g b=gt i.g b) (c:d.h=i.h) (k:g0 C i e t):g0 C d e t:=by obtain⟨f,m,j,a⟩:=k;exact⟨f,m,j,{a with tree:=by rw[c];exact a.tree,dis:=by rw[c];exact a.dis,tmp:=λb=>by rw[c,l];exact a.tmp b}⟩
def jf.same {f:bX bU} {e:ak6} {a b:aW} {c:aW->Prop} (l:∀d,gt b.g d=gt a.g d) (m:b.h=a.h) (j:jf E C f e b c):jf E C f e a c:=
 λi n k=>j i n (k.same l m)
def c0.VZ {d:bp (X×bp bd)}:(c0.mk (Y (a,b)) e d c).app i=⟨(a,b)::alF e d i.g,c++del e i.h⟩:=by show aW.mk ((a,b)::ob e d i.g) (c++rU e i.h)=_;rw[tT,yt]
theorem OL (K:ic.ah E C) {l:bU} {st:aW} {o:c0->bA A} {r:A} (a:ax ic (bc st.g) st.h l o=Y r):fI E C l st (λu=>∃c,o c=Y r/\u=c.app st):=by
 obtain⟨D,d6,d7,c2,_⟩:=id K;unfold ax at a;split at a
 ·rename_i e;split at a
  ·grind [aga,af9]
  ·grind [QO]
  ·rename_i w b d9 ad i;rw[D] at a;exact QO (.inr i) e a
  grind
 rename_i y e;cases T:hI ic.n ic.pin y with
 |false=>grind
 |true=>
 rw[T] at a;have j:=hI.ok K T;simp only[bI] at a;split at a
 ·rename_i d3 b m i;split at a
  case h_2=>cases a
  rename_i p J;have d4:∀x,(p=bt->x=bc st.g b)->(p=br->x=bc st.g m)->o ⟨Y (y,x),[],[],[]⟩=Y r->fI E C l st (λu=>∃c,o c=Y r/\u=c.app st):=by
   clear a;intro x bs bx t;refine alZ (an:=ic.an) e j ?_;rw[i];simp only[hj,GJ,J];refine⟨p,bq,_,t,?_⟩;cases p
   ·rw[bx bq];rfl
   rw[bs bq];rfl
  split at a
  ·rename_i d2 ex fn ad d8 U;split at a
   case h_2=>cases a
   rename_i d1 dg;cases lD dg;grind
  grind
 ·rename_i fl G _ i;split at a
  case h_2=>cases a
  rename_i I V ds;split at a
  ·cases a
  rename_i H ce;cases q:bL H.f I with
  |false=>grind
  |true=>
  rw[q] at a;obtain rfl:=fN q;simp only[bI,n6] at a;obtain⟨d,d5,a⟩:=fh.1 a;obtain⟨p,c1,a⟩:=fh.1 a;cases J:rH y ⟨[],st.h⟩ (G.toList.map (bc st.g)++V) (iw H.ps d p) (lN H.rs (kF H.ps p)) with
  |false=>grind
  |true=>
  rw[J] at a;obtain⟨ek,cv⟩:=Qg ce;obtain⟨co,cs⟩:=c2.1 _ cv;refine fI.call i ds e j co (cs d p c1) (by grind [Qh,G3]) K.2.2.2.2.1 K.2.2.2.1.2.2.2.1 ?_ J ⟨_,a,?_⟩
  ·grind [r6,TV]
  rw[c0.VZ];rfl
 ·rename_i G R i;split at a
  case h_2=>cases a
  rename_i b m w M ax a3;cases q:bL w M with
  |false=>grind
  |true=>
  rw[q] at a;obtain rfl:=fN q;have a0:G=#[b,m]:=ae;have a4:R=#[w,w]:=ae;grind [VY]
 ·rename_i G R i;split at a
  case h_2=>cases a
  rename_i b m w M ax a3;have a0:G=#[b,m]:=ae;have a4:R=#[w,M]:=ae;grind [fI.copy]
 ·rename_i b i;have N:J5 (bc st.g b)=bt->o ⟨Y (y,bc st.g b),[],[],[]⟩=Y r->fI E C l st (λu=>∃c,o c=Y r/\u=c.app st):=λU t=>by
   refine alZ (an:=ic.an) e j ?_;rw[i];simp only[hj,U,bI];exact⟨_,t,bq⟩
  have as:(qt ic.an st.h y (bc st.g b)).bind o=Y r->fI E C l st (λu=>∃c,o c=Y r/\u=c.app st):=λt=>(by obtain⟨c,ci,t⟩:=fh.1 t;exact fI.V6 i e j (V7 ci ⟨c,t,bq⟩));split at a
  ·rename_i d2 m s;exact N (by rw[s];rfl) ae
  ·rename_i I V s;exact N (by rw[s];rfl) ae
  ·rename_i id em s;rintro d v ⟨ap,d0,bl,z⟩ next av O
   have L:=z.bc b;have Q:(bT d.eval l).run E.P v=.ok (.value (d.eval b)) v:=(by simp[bT,i]);unfold alJ;rw[Q];show next (d.put l.dst (d.eval b)) v
   rw[e];refine O _ _ _ ⟨_,a,bq⟩ rfl ⟨_,_,_,z.put j ?_⟩;grind
  ·rename_i ad s;split at a
   ·exact N (by rw[s];rfl) ae
   split at a
   ·rename_i S;simp only[cL] at S;obtain⟨m,dl,a⟩:=fh.1 a;rintro d v ⟨ap,d0,bl,z⟩ next av O
    have L:=z.bc b;have Q:(bT d.eval l).run E.P v=.ok (.value (d.eval b)) v:=(by simp[bT,i]);unfold alJ;rw[Q];show next (d.put l.dst (d.eval b)) v
    rw[e];refine O _ _ _ ⟨_,a,bq⟩ rfl ⟨_,_,_,z.put j ?_⟩;rw[s] at L;generalize d.eval b=d1 at L;cases L;rw[<-qz.ok S.2];exact .val (qy dl)
   grind
  grind
 ·grind [Wk]
 ·grind [Wn]
 ·grind [Wr]
 split at a
 ·rename_i x k;refine alZ (an:=ic.an) e j ?_;rw[<-D];exact Jq (by rw[k];exact⟨_,a,bq⟩)
 ·rename_i am m I k;refine alZ (an:=ic.an) e j ?_;rw[<-D];obtain⟨F,B,a⟩:=fh.1 a;exact Jq (by rw[k];exact⟨F,B,_,a,bq⟩)
 ·rename_i am m eq c k;cases q:bL c y with
  |false=>grind
  |true=>
  rw[q] at a;obtain rfl:=fN q;obtain⟨F,B,a⟩:=fh.1 a;refine alZ (an:=ic.an) e j ?_;rw[<-D];exact Jq (by rw[k];exact⟨F,B,_,a,bq⟩)
 refine alZ (an:=ic.an) e j ?_;rw[D] at a;split at a
 ·rename_i x el k;rw[k];exact⟨_,a,bq⟩
 ·rename_i am fp I k;rw[k];obtain⟨F,B,a⟩:=fh.1 a;exact⟨F,ad9 B,_,a,bq⟩
 grind
theorem fI.mono {P:aW->Prop} (e:fI E C h i P) (j:∀a,P a->w a):fI E C h i w:=
 λc l f next b g=>e c l f next b (λa d m k=>g a d m (j a k))
theorem afl (c:nH g b=bt):∃id,b.ids=[id]/\∃a∈g,a.1=id:=by
 have e:∀(id:X) (f:X×bp bd->bD),(g.any λa=>bL a.1 id&&f a)=bt->∃a∈g,a.1=id:=(by intro id f k;obtain⟨a,h,i⟩:=qa.1 k;simp only[cL] at i;grind [alX]);cases b with
 |ref id d=>
  cases d with
  |nil=>
   obtain⟨a,h,j⟩:=qa.1 (show(g.any λa=>bL a.1 id)=bt from c);exact⟨id,bq,a,h,fN j⟩
  |cons n d=>exact⟨id,bq,e id _ c⟩
 |addr id d|view id d m l=>exact⟨id,bq,e id _ c⟩
 |_=>cases c
theorem Hi:b.fK (e++y)=(b.fK e||b.fK y):=by simp only[alm];rw[xa];simp only[qa,jO];grind [hQ,aoG,anL]
theorem Oa {b:bp au}:(au.eM a b).fK e=b.any λc=>c.fK e:=by
 show(al8 b).any _=_
 induction b with
 |nil=>rfl
 |cons c b d=>grind [al8,alm]
theorem SZ (c:b.fK y=br):li (y++e) g b=li e g b:=by
 cases b with
 |eM m p=>
  rw[Oa,uQ] at c;rw[xa];simp only[li,hp];constructor<;>intro i f h<;>have:=i f h<;>rw[Hi,Bool.eq_false_iff.2 (c f h)] at*<;>simpa using this
 |app id q s r d=>
  have j:=Uj c;have o:∀a∈d,e6 a (y++e)=e6 a e:=λa k=>(by have n:a∉y:=j a (ht _ k);rw[xa,hQ,hQ,hM];grind);have l:(d.all λa=>!(e6 a (y++e)))=d.all λa=>!(e6 a e):=ae;grind [li]
 |_=>rfl
theorem Za {F S:ak6} {keep:bp (X×bp bd)} {a:au}:fy (F++S) keep a=.dead\/(a.fK F=br/\fy (F++S) keep a=fy S keep a)\/(li (F++S) keep a=bt/\fy (F++S) keep a=a):=by grind [SZ,Hi,li,fy]
theorem n2.ok (b:n2 c e=bt):∀id∈e,∃a,ay c id=Y a/\JK a.1=bt:=by intro id d;have:=hp.1 b id d;grind
theorem ON (bx:ic.ah E C) {L:bU} {O:c0->bA A} {am:A} (e:ky ic (bc i.g) i.h L O=Y am):fI E C L i (λN=>∃b,O b=Y am/\N=b.app i):=by
 unfold ky at e;split at e
 ·grind [OL]
 generalize m5 ic.qJ (v5 L) (bc i.g) (sw L.op)=c at e;cases T:n2 i.h c with
 |false=>grind
 |true=>
 rw[T] at e;simp only[bI] at e;rw[<-Yr c i] at e;have m:=OL (st:=tN c i) bx e;intro j c1 M next an ci
 obtain⟨dg,d5,dl,M⟩:=M;refine m j c1 (M.freeze (n2.ok T)) next an (λd6 ap c2 cs bl a0=>?_)
 obtain⟨b,U,rfl⟩:=cs;cases V:b.keep.all (λl=>!e6 l.1 c) with
 |false=>grind
 |true=>
 rw[V] at U;have V:∀l∈b.keep,l.1∉c:=λl q ce=>(by grind [hQ,amj]);refine ci _ ap c2 ⟨_,U,bq⟩ bl (a0.P7 ?_ ?_)
 ·intro B;have r:∀j:au,fy (c++b.S) b.keep j=.dead\/fy (c++b.S) b.keep j=fy b.S b.keep (hb i.h c j):=by
   intro j;rcases Za (F:=c) (S:=b.S) (keep:=b.keep) (a:=j) with e|⟨m,y⟩|⟨m,y⟩
   ·grind
   ·right;rw[y];rcases m4 i.h c j with⟨id,p,rfl,cv,_⟩|⟨_,o⟩|⟨o,_⟩
    ·grind [hQ,alm,bW]
    ·grind
    grind
   have co:∀(id:X),(∃k∈b.keep,k.1=id)->e6 id c=br:=λid ⟨k,z,b⟩=>ae;have u:li (c++b.S) b.keep j=li b.S b.keep j->∀(id:X),j.ids=[id]->(∃k∈b.keep,k.1=id)->fy (c++b.S) b.keep j=.dead\/fy (c++b.S) b.keep j=fy b.S b.keep (hb i.h c j):=by
    intro d0 id d2 z;have ad:j.fK c=br:=(by grind [alm]);right;rcases m4 i.h c j with⟨l,p,rfl,cv,_⟩|⟨_,o⟩|⟨o,_⟩
    ·grind [hQ,alm,bW]
    ·grind
    grind [fy,li]
   have w:∀(id:X) (P:X×bp bd->bD),(b.keep.any λk=>bL k.1 id&&P k)=bt->∃k∈b.keep,k.1=id:=(by intro id P bs;obtain⟨k,z,y⟩:=qa.1 bs;simp only[cL] at y;grind [alX]);cases j with
   |ref id f=>
    cases f with
    |nil=>
     obtain⟨k,z,G⟩:=qa.1 (show(b.keep.any λk=>bL k.1 id)=bt from m);exact u bq id bq ⟨k,z,fN G⟩
    |cons N f=>exact u bq id bq (w id _ m)
   |addr id f|view id f D q=>exact u bq id bq (w id _ m)
   |eM t n=>
    have a3:=hp.1 m;have ad:(au.eM t n).fK c=br:=(by rw[Oa,uQ];grind [afl,Hi,id,alm,ax]);right;rcases m4 i.h c (.eM t n) with⟨l,p,aE,_⟩|⟨_,o⟩|⟨o,_⟩
    ·cases aE
    ·grind
    rw[o,y];unfold fy;have ds:li b.S b.keep (.eM t n)=bt:=hp.2 λav a4=>(by have G:=a3 av a4;rw[Hi,Bool.not_or,jO,cL] at G;grind);grind
   |app id f v x s=>
    have R:((s.all λl=>!(e6 l (c++b.S)))&&b.keep.any λk=>bL k.1 id&&lF k.2 f)=bt:=m;rw[cL] at R;have d1:=co id (w id _ R.2);have ad:(au.app id f v x s).fK c=br:=by
     unfold alm;rw[uQ];intro l q ce;rcases gn.1 (show l∈id::s from q) with rfl|q
     ·grind
     grind [amj,hQ,aoG]
    right;rcases m4 i.h c (.app id f v x s) with⟨l,p,aE,_⟩|⟨_,o⟩|⟨o,_⟩
    ·cases aE
    ·grind
    grind [SZ,fy]
   |hY j=>
    have m:nH b.keep j=bt:=m;cases j with
    |ref id f=>
     cases f with
     |nil=>
      obtain⟨k,z,G⟩:=qa.1 (show(b.keep.any λk=>bL k.1 id)=bt from m);exact u bq id bq ⟨k,z,fN G⟩
     |cons N f=>exact u bq id bq (w id _ m)
    |addr id f|view id f D q=>exact u bq id bq (w id _ m)
    |_=>cases m
   |_=>cases m
  have d3:∀j:au,zA (gb (c++b.S) b.keep j) (gb b.S b.keep (i6 i.h c j)):=by
   intro j;cases j with
   |fG n=>
    refine .inr (.inr ⟨_,_,bq,bq,ac,λl k d8 m y=>?_⟩);grind
   |ref id f=>
    have o:=r (.ref id f);have ax:gb b.S b.keep (i6 i.h c (.ref id f))=fy b.S b.keep (hb i.h c (.ref id f)):=by show gb b.S b.keep (hb i.h c (.ref id f))=_;rcases m4 i.h c (.ref id f) with⟨l,p,_,_,_,e⟩|⟨e,_⟩|⟨e,_⟩<;>rw[e]<;>first|rfl|grind [Ys]
    rw[ax];exact o.imp (λe=>e) .inl
   |dead=>exact(r .dead).imp (λe=>e) .inl
   |val v k=>exact .inr (.inl (by
    simp[fy,hb,i6,gb,alm,bW]))
   |eN d7=>exact .inr (.inl (by
    simp[fy,hb,i6,gb,alm,bW]))
   |addr id f=>
    have ax:gb b.S b.keep (i6 i.h c (.addr id f))=fy b.S b.keep (hb i.h c (.addr id f)):=by show gb b.S b.keep (hb i.h c (.addr id f))=_;rcases m4 i.h c (.addr id f) with⟨l,p,_,_,_,e⟩|⟨e,_⟩|⟨e,_⟩<;>rw[e]<;>first|rfl|grind
    rw[ax];exact(r _).imp (λe=>e) .inl
   |view id f D q=>
    have ax:gb b.S b.keep (i6 i.h c (.view id f D q))=fy b.S b.keep (hb i.h c (.view id f D q)):=by show gb b.S b.keep (hb i.h c (.view id f D q))=_;rcases m4 i.h c (.view id f D q) with⟨l,p,_,_,_,e⟩|⟨e,_⟩|⟨e,_⟩<;>rw[e]<;>first|rfl|grind
    rw[ax];exact(r _).imp (λe=>e) .inl
   |ent id f K=>
    have ax:gb b.S b.keep (i6 i.h c (.ent id f K))=fy b.S b.keep (hb i.h c (.ent id f K)):=by show gb b.S b.keep (hb i.h c (.ent id f K))=_;rcases m4 i.h c (.ent id f K) with⟨l,p,_,_,_,e⟩|⟨e,_⟩|⟨e,_⟩<;>rw[e]<;>first|rfl|grind
    rw[ax];exact(r _).imp (λe=>e) .inl
   |app id f v x s=>
    have ax:gb b.S b.keep (i6 i.h c (.app id f v x s))=fy b.S b.keep (hb i.h c (.app id f v x s)):=by show gb b.S b.keep (hb i.h c (.app id f v x s))=_;rcases m4 i.h c (.app id f v x s) with⟨l,p,_,_,_,e⟩|⟨e,_⟩|⟨e,_⟩<;>rw[e]<;>first|rfl|grind
    rw[ax];exact(r _).imp (λe=>e) .inl
   |agg n=>
    have ax:gb b.S b.keep (i6 i.h c (.agg n))=fy b.S b.keep (hb i.h c (.agg n)):=by show gb b.S b.keep (hb i.h c (.agg n))=_;rcases m4 i.h c (.agg n) with⟨l,p,_,_,_,e⟩|⟨e,_⟩|⟨e,_⟩<;>rw[e]<;>first|rfl|grind
    rw[ax];exact(r _).imp (λe=>e) .inl
   |eM t n=>
    have ax:gb b.S b.keep (i6 i.h c (.eM t n))=fy b.S b.keep (hb i.h c (.eM t n)):=by show gb b.S b.keep (hb i.h c (.eM t n))=_;rcases m4 i.h c (.eM t n) with⟨l,p,_,_,_,e⟩|⟨e,_⟩|⟨e,_⟩<;>rw[e]<;>first|rfl|grind
    rw[ax];exact(r _).imp (λe=>e) .inl
   |hY j=>
    have ax:gb b.S b.keep (i6 i.h c (.hY j))=fy b.S b.keep (hb i.h c (.hY j)):=by show gb b.S b.keep (hb i.h c (.hY j))=_;rcases m4 i.h c (.hY j) with⟨l,p,_,_,_,e⟩|⟨e,_⟩|⟨e,_⟩<;>rw[e]<;>first|rfl|grind
    rw[ax];exact(r _).imp (λe=>e) .inl
  show zA (gt (c0.app ⟨b.d,c++b.S,b.keep,b.put⟩ i).g B) (gt (b.app (tN c i)).g B);obtain⟨J,H,I,d4⟩:=b;cases J with
  |none=>
   show zA (gt (ob (c++H) I i.g) B) (gt (ob H I (tN c i).g) B);grind [tT,sb,FJ]
  |some o=>
   obtain⟨J,Q⟩:=o;show zA (gt ((J,Q)::ob (c++H) I i.g) B) (gt ((J,Q)::ob H I (tN c i).g) B);rw[jx,jx];split
   ·exact .inr (.inl bq)
   grind [tT,sb,FJ]
 intro id;show ay (b.put++rU (c++b.S) i.h) id=ay (b.put++rU b.S (del c i.h)) id;grind [yt,lL,oc]
def afz (b:bH) (e:X) (a:bA Addr) (g c:X) (f:p.underlying d=Y (.slice R)):(amW (e+1) d (.slice a g c) (.slice bv 0 0)).run p b=.ok a.isNone b:=by cases a<;>simp[amW,cz f]
theorem afy (b:bH) (a:bA Addr) (e c:X) (f:p.underlying d=Y (.slice R)):(alK .eql d (.slice a e c) (.slice bv 0 0)).run p b=.ok (.bool a.isNone) b:=by simp_all [afz,Op.equal,Op.maxDepth,alK]
theorem aar (s:ic.ah E C) {x:bU} (b:KL ic (bc i.g) x=Y (a,r)):fI E C x i (λR=>∃c:bD,R=⟨(a,.val .bool c)::i.g,i.h⟩/\(c=bt->r=0)):=by
 unfold KL at b;split at b
 case h_2=>cases b
 rename_i D A j k a3 H J;split at b
 case h_2=>cases b
 rename_i a0 ap z y q F G;cases t:hI ic.n ic.pin D with
 |false=>grind
 |true=>
 rw[t] at b;simp only[bI,fc,iY] at b;obtain⟨rfl,rfl⟩:=b;rw[s.1] at q;obtain⟨_,T,_,K,_⟩:=hd.ok q;rintro e f ⟨S,av,V,l⟩ next U an
 have m:=l.bc j;have o:=l.bc k;rw[F] at m;rw[G] at o;obtain⟨d,u⟩:∃d,d=e.eval j:=⟨_,bq⟩;obtain⟨fL,w⟩:∃d,d=e.eval k:=⟨_,bq⟩;rw[<-u] at m;rw[<-w] at o;cases m with|val O=>cases o with|eN _=>
 obtain⟨_,c,p,rfl,ad,am,_⟩:=O;have L:e.eval j=.slice c (cE (α:=z.den) y) p:=u.symm;have M:e.eval k=.slice bv 0 0:=w.symm;have I:∀f,(eqGuard .eql A j k (.slice c (cE (α:=z.den) y) p) (.slice bv 0 0)).run E.P f=.ok () f:=λf=>(by unfold eqGuard;simp);refine aoH (Q:=λB N=>B=.val .bool c.isNone/\N=[]) l (.pure (v:=.bool _) (by simp only[bT,J,L,M,b8,I,cd,afy _ _ _ _ K];rfl) (.bool _) ⟨bq,bq⟩) H (hI.ok s t) ?_;grind
def agu {c:X} {f:cD} (i:E.P.underlying R=Y (.array c d)) (g:fv E.P (.int f) d) {b:Act} (k:h.op=.indexAddr R (.global r) N) {n:cD} (j:b.eval N=.int n a) (o:a<c):(bT b.eval h).run E.P t=.ok (.value (.pointer (Y ⟨r,0+a*1,bv⟩))) t:=by have e:=g.sizeOf t;have m:b.eval (.global r)=.pointer (Y ⟨r,0,bv⟩):=rfl;have:(0:Z)<=(a:Z)/\(a:Z)<(c:Z):=⟨aa,aa⟩;have l:(ao.int f).size=1:=rfl;rw[l] at e;simp[bT,k,m,j,Instr.indexAt,amz,asIntOf,cz i,this,e,al7];omega
theorem agq (e:ic.ah E C) {z:bU} {q:u6} {y:Z} (c:Ma ic (bc i.g) z=Y (a,q,y)) (V:aq q.xs y=Y P):fI E C z i (λap=>ap=⟨(a,.val (.ptr .bo (.int q.k)) (Y P))::i.g,i.h⟩):=by
 unfold Ma at c;split at c
 case h_2=>cases c
 rename_i D a3 co o R S;split at c
 case h_2=>cases c
 rename_i d w p u L;cases v:hI ic.n ic.pin D with
 |false=>grind
 |true=>
 rw[v] at c;simp only[bI,fc,iY] at c;obtain⟨rfl,rfl,rfl⟩:=c;have j:=List.find?_some u;have m:=HE u;rw[cL] at j;obtain rfl:=fN j.1;obtain rfl:=fN j.2;rw[e.2.2.2.1.2.2.2.2.1] at m;obtain⟨a0,O,N⟩:=E.gok d m;rintro r dl ⟨av,c2,ce,f⟩ next a4 ci
 have l:=f.bc o;rw[L] at l;generalize T:r.eval o=dg at l;cases l with|val an=>
 obtain⟨_,rfl⟩:=an;obtain⟨ax,J,K⟩:=Pu V;obtain⟨_,bl,bx,t,aE,c1,A⟩:=f.glob e.2.2.2.2.1 e.2.2.2.1.2.2.2.1 d m;simp only[iC,alh,cf] at t;obtain⟨rfl,_⟩:=t;rcases A with A|⟨bs,cv,s,M,am⟩
 ·grind
 simp only[fc,alx,cf] at s;obtain⟨rfl,rfl⟩:=s;obtain⟨I,F,G,H⟩:=am _ _ K;have U:r.eval o=.int w (p.toNat:X):=(by rw[T];show alz w p=_;grind);refine aoH (Q:=λB ad=>B=.val (.ptr .bo (.int d.k)) (Y P)/\ad=[]) f (.pure (agu O N S U J) (.val (τ:=.ptr .bo (.int d.k)) (x:=Y P) (cs:=[.pointer (Y ⟨d.b,0+p.toNat*1,bv⟩)]) ⟨bq,d.b,_,I,bq,M,F,G,H⟩) ⟨bq,bq⟩) R (hI.ok e v) ?_;grind
def OY {P:b3} {M:eW->X->Prop} {w w0:bH} {d:X}:∀{t:ao} {fs:bp aly} {off:X} {b:ak0} {xs ys:akY} {p q:t.den},Bu t=bt->jt P t fs off b->(fs.all λf=>f.name !="_")=bt->a5 M w0 t (xs.toList.drop off) p []->a5 M w0 t (ys.toList.drop off) q []->(anR (d+1) xs ys fs).run P w=.ok (tH t p q) w
 |.nil,[],_,_,_,_,_,_,_,_,_,_,_=>by simp[anR,tH]
 |.nil,_::_,_,_,_,_,_,_,_,c,_,_,_|.pr i e,[],_,_,_,_,_,_,_,c,_,_,_=>c.elim
 |.pr i e,f::fs,off,b,xs,ys,p,q,a,c,h,A,B=>by
  cases i<;>simp only[Bu] at a<;>try (cases a;done)
  rename_i L;obtain⟨v,k,J,_,x⟩:=c;simp only[sI,cL,bne_iff_ne,ne_eq] at h;obtain⟨G,f2,o,E,m⟩:=A;obtain⟨H,I,r,F,n⟩:=B;obtain⟨rfl,rfl⟩:=aon.1 o.symm;obtain⟨rfl,rfl⟩:=aon.1 r.symm;have j:∀(b:akY) (g:Value),(b.toList.drop off).take 1=[g]->(part f.type b f.offset).run P w=.ok g w:=λb g z=>(by have C:b[off]?=Y g:=(by have:=b4 (·[0]?) z;simpa[anx,qf] using this);simp only[part,b8,k.isAgg,cd,v,C,qL];rfl);have s:=j xs _ E.2;have u:=j ys _ F.2;obtain⟨K,_,_,_,_,y⟩:=k;have D:=OY (P:=P) (M:=M) (w:=w) (w0:=w0) (d:=d) (t:=e) (fs:=fs) (off:=off+1) (xs:=xs) (ys:=ys) (p:=p.2) (q:=q.2) a x (by simpa using h.2)
   (by rw[ri] at m;exact m) (by rw[ri] at n;exact n)
  simp only[anR,h.1,not_false_eq_true,cp,ne_eq,b8,s,u,cd,run_equalIn_int _ _ _ _ _ _ _ y];show am1 P (if(!((p.1:Z)==(q.1:Z)))=bt then pure br else anR (d+1) xs ys fs) w=_;cases l:((p.1:Z)==(q.1:Z)) with
  |true=>
   rw[aA ac,D];show _=apC (((p.1:Z)==(q.1:Z))&&tH e p.2 q.2) w;rw[l,Bool.true_and]
  |false=>
   rw[aB ac];show _=apC (((p.1:Z)==(q.1:Z))&&tH e p.2 q.2) w;rw[l,aoA];rfl
 |.int _,_,_,_,_,_,_,_,a,_,_,_,_|.bool,_,_,_,_,_,_,_,a,_,_,_,_|.str,_,_,_,_,_,_,_,a,_,_,_,_|.bb _ _,_,_,_,_,_,_,_,a,_,_,_,_|.ptr _ _,_,_,_,_,_,_,_,a,_,_,_,_|.osl _,_,_,_,_,_,_,_,a,_,_,_,_|.optr _,_,_,_,_,_,_,_,a,_,_,_,_|.st _,_,_,_,_,_,_,_,a,_,_,_,_|.eL,_,_,_,_,_,_,_,a,_,_,_,_|.mp _,_,_,_,_,_,_,_,a,_,_,_,_|.fm _ _,_,_,_,_,_,_,_,a,_,_,_,_|.fn _ _,_,_,_,_,_,_,_,a,_,_,_,_=>by cases a
theorem XH (o:ic.ah E C) {H:bU} {w:bD} (b:Jo ic (bc i.g) H=Y (a,w)):fI E C H i (λco=>co=⟨(a,.val .bool w)::i.g,i.h⟩):=by
 unfold Jo at b;split at b
 case h_2=>cases b
 rename_i R c s u d5 ap a0;split at b
 case h_2=>cases b
 rename_i cs e I d7 ds B U V;cases j:e6 c ic.eq&&(Bu e&&(bi cs (.st e)&&hI ic.n ic.pin R)) with
 |false=>rw[j] at b;cases b
 |true=>
 rw[j,bI] at b;obtain⟨J,a3,b⟩:=fO.1 b;cases b;simp only[cL] at j;obtain⟨L,M,N,O⟩:=j;rw[o.1] at B;have am:=(E.ok c _ B).lay N;have an:=E.eqok c (by rw[<-o.2.2.2.1.2.2.2.2.2];exact hQ.1 L);cases lD a3;obtain⟨_,dl,A,d6,aE,d0,d1,d2,r,bx,d3⟩:=am;obtain⟨ax,S,ad,z,T⟩:=an;rw[r] at z;obtain rfl:A=ad:=(by simpa using z);rintro f k ⟨cv,d4,c2,m⟩ next c1 dg
 have p:=m.bc s;have q:=m.bc u;rw[U] at p;rw[V] at q;obtain⟨v1,F⟩:∃l,l=f.eval s:=⟨_,bq⟩;obtain⟨fL,G⟩:∃l,l=f.eval u:=⟨_,bq⟩;rw[<-F] at p;rw[<-G] at q;cases p with|val ce=>cases q with|val ci=>
 rename_i x y;have a4:f.eval s=.agg x.toArray:=F.symm;have bl:f.eval u=.agg y.toArray:=G.symm;have D:E.P.fieldsOf c=A:=(by unfold Program.fieldsOf;rw[r]);have av:(amW 10000 c (.agg x.toArray) (.agg y.toArray)).run E.P k=.ok (tH e I J) k:=(by rw[run_equalIn_struct k 9999 c _ _ (by rw[D];exact r) ax,D];exact OY (t:=e) (off:=0) (d:=9998) M bx T (by rw[mm];exact ce) (by rw[mm];exact ci));refine aoH (Q:=λK bs=>K=.val .bool (tH e I J)/\bs=[]) m (.pure (v:=.bool _) (by simp only[bT,a0,a4,bl,b8,run_eqGuard_agg k _ _ _ _ _ _ S,cd,run_eql_struct,av];rfl) (.bool _) ⟨bq,bq⟩) ap (hI.ok o O) ?_;grind
theorem PI (f:ic.ah E C) {l:bX bU} {m:aW->bA A} {p:A} (g:l[a]?=Y h) (k:ls l i h bt) (b:i1 ic i h m=Y p) (v:∀c,m c=Y p->jf E C l e c w):jf E C l (a::e) i w:=
by
 unfold i1 at b;split at b
 ·rename_i o z r d;obtain⟨B,q,b⟩:=fh.1 b;refine jf.op g k ((agq f d q).mono (λc j=>?_));grind
 split at b
 ·rename_i o n d;refine jf.op g k ((XH f d).mono (λc j=>?_));grind
 split at b
 ·rename_i o r d;obtain⟨t,u⟩:=aaq b;refine jf.op g k ((aar f d).mono (λc j=>?_));obtain⟨n,rfl,x⟩:=j;cases n with
  |false|true=>grind
 exact jf.op g k ((ON f b).mono (λc ⟨s,y,j⟩=>by grind))
theorem BB {l2:ak6} (d:ic.ah E C) {q:bX bU} {s:aW->bA A} {y:A} {t:aW->Prop} (f:∀k,s k=Y y->jf E C q l2 k t):∀{p:ak6} {b:aW},lI ic q p b s=Y y->jf E C q (p++l2) b t
 |[],b,a=>f _ a
 |i::p,b,a=>by
  simp only[lI] at a;split at a
  ·cases a
  rename_i H j;split at a
  ·rename_i z;exact PI d j (by grind [ls]) a (λk c=>BB d f c)
  rename_i G l z;split at a
  case h_2=>cases a
  rename_i v u D x;split at a
  case h_3=>cases a
  case h_2=>
   rename_i I B;cases c:hI ic.n ic.pin u with
   |false=>grind
   |true=>
   rw[c] at a;have o:=hI.ok d c;refine jf.skip j x o ?_ (BB d f a);grind [ls]
  rename_i m B;cases c:hI ic.n ic.pin u with
  |false=>grind
  |true=>
  rw[c] at a;have o:=hI.ok d c;simp only[bI] at a;split at a
  ·rename_i w;obtain rfl:m=l:=ae;have r:∀e,gt (⟨(v,.val .bool m)::b.g,b.h⟩:aW).g e=gt b.g e:=λe=>by
    grind [jx]
   refine jf.same r bq (PI d j ?_ a (λk c=>BB d f c));grind [ls]
  rename_i w;have F:m=!l:=by cases m<;>cases l<;>first|rfl|cases w
  have r:∀e,gt (⟨(v,.val .bool (!l))::b.g,b.h⟩:aW).g e=gt b.g e:=λe=>(by grind [jx]);refine jf.same r bq (jf.skip j x o ?_ (BB d f a));grind [ls]
theorem YR (h:ic.ah E C) {c:bX bU} {b:aW->bA A} {d:A} (g:∀a,b a=Y d->w a) (f:lI ic c e i b=Y d):jf E C c e i w:=by have:=BB (l2:=[]) h (λa j=>jf.nil (g a j)) f;grind
end
end
structure k4 (s t:aW):Prop where
 g:∀k,gt s.g k=gt t.g k
 h:∀id,ay s.h id=ay t.h id
def k4.refl (a:aW):k4 a a:=⟨λ_=>rfl,λ_=>rfl⟩
def k4.symm {c d:aW} (b:k4 c d):k4 d c:=⟨λa=>(b.g a).symm,λa=>(b.h a).symm⟩
theorem k4.trans {d e f:aW} (b:k4 d e) (c:k4 e f):k4 d f:=⟨λa=>(b.g a).trans (c.g a),λa=>(b.h a).trans (c.h a)⟩
def c0.vb (a:c0) (e:aW) (b:X):gt (a.app e).g b=match a.d with
 |some (c,f)=>if c=b then f else gb a.S a.keep (gt e.g b)
 |none=>gb a.S a.keep (gt e.g b):=by
 obtain⟨c,h,i,k⟩:=a;cases c with
 |none=>
  show gt (ob h i e.g) b=_;rw[tT,sb]
 |some j=>
  obtain⟨c,f⟩:=j;show gt ((c,f)::ob h i e.g) b=_;rw[jx,tT,sb]
theorem c0.sY (a:c0) (b:aW) (id:X):ay (a.app b).h id=(ay a.put id).or (if id∈a.S then bv else ay b.h id):=by show ay (a.put++rU a.S b.h) id=_;rw[yt,lL,oc]
def k4.app {c t:aW} (b:k4 c t) (a:c0):k4 (a.app c) (a.app t):=
 ⟨λd=>by rw[c0.vb,c0.vb,b.g],λd=>by rw[c0.sY,c0.sY,b.h]⟩
def g0.seq {a:fb} {c:aW} {d:akY} (b:k4 i c) (e:g0 a i d t):g0 a c d t:=e.less (λf=>.inr (b.g f).symm) (λid=>(b.h id).symm)
def Fo:bA (X×au)->ak2->bD
 |some b,Y a=>bL b.1 a
 |none,bv=>bt
 |_,_=>br
def uf:au->bD
 |.dead=>br
 |_=>bt
def pY (b c:ak6):bD:=b.all λa=>e6 a c
theorem pY.ok (b:pY e y=bt):∀a∈e,a∈y:=λa c=>hQ.1 (hp.1 b a c)
def pX (a:ak6):au->bD
 |.ref id []=>e6 (id+500000) a
 |_=>br
def yI:Op->bD
 |.move _=>bt
 |_=>br
def FK:X->bp bd->bA (X×bp bd)
 |k,.snd::a=>FK (k+1) a
 |k,.fst::a=>Y (k,a)
 |_,_=>bv
def yB:bp bd->bA (X×bp bd)
 |.deref::.unst::a=>FK 0 a
 |_=>bv
def tL (q:bp bd):ak2:=match q with
 |[]=>Y 1
 |[.deref]=>Y 2
 |q=>match yB q with
  |some (a,[])=>Y (2*a+4)
  |some (a,_::_)=>Y (2*a+5)
  |none=>bv
def rJ:au->bA ew
 |.ref id a=>match tL a with
  |some b=>Y (id,b)
  |none=>bv
 |.addr id a=>match tL a with
  |some b=>Y (id,b)
  |none=>bv
 |.app id a _ _ d=>match e6 id d,yB a with
  |false,Y (c,_)=>Y (id,2*c+5)
  |_,_=>bv
 |_=>bv
def tV (b:ak6) (a:au):bD:=match rJ a with
 |some (id,d)=>cg id 500000&&(e6 (id+1000000*d) b&&a.ids.all λc=>bL c id||e6 c b)
 |none=>br
def y9 (b:bp bd) (a:X):bD:=(bL a 1&&n8 b)||((bL a 2&&n8 b.tail&&(match b with|.deref::_=>bt|_=>br))||match yB b with
 |some (c,d)=>b5 4 a&&(!(bL (a/2) (c+2))||(bL (a %2) 0&&n8 d))
 |none=>br)
def sX (a:bS->au) (b:bU):bA (X×bp bd):=match b.op with
 |.call {callee:=.builtin .append,args:=xs,argTypes:=_}=>match xs.toList with
  |[x,_]=>match a x with
   |.ref id (d::c)=>Y (id,d::c)
   |_=>bv
  |_=>bv
 |_=>bv
def Ln (c:ak6) (b:bS->au) (d:bU):bD:=c.all λa=>cg a 1000000||(match sX b d with
 |some (id,e)=>bL (a %1000000) (id+500000)&&(cg id 500000&&y9 e (a/1000000))
 |none=>br)
def Zf (a:ak6) (c:bp (X×bp bd)) (b:ak6):bD:=b.all λid=>cg id 500000&&((e6 id a&&(e6 (id+500000) a||nH c (.ref id [])))||e6 (id+1500000) a)
def Dm:au->bD
 |.fG b=>b.all uf
 |a=>uf a
def o8 (op:Op) (b:ak6) (a:au):bD:=match op with
 |.extract _ d=>match a with
  |.fG e=>match e[d]? with
   |some c=>uf c&&(pY c.ids b||pX b c)
   |none=>br
  |_=>br
 |op=>Dm a&&(pY a.ids b||((yI op&&pX b a)||tV b a))
def r2 (c e:ak6) (g:bS->au) (f:bU) (b:c0):bD:=
 Fo b.d f.dst&&(f.op.operands.toList.all λh=>o8 f.op c (g h))&&Zf e b.keep b.S&&(b.put.all λa=>cg a.1 500000&&(e6 a.1 e||e6 (a.1+1500000) e))&&((match b.d with|some a=>pY a.2.ids c||(pX c a.2||tV c a.2)|none=>bt)&&Ln e g f)
theorem ta {d:Type} (b:bD) (c:bA f) (a:f->bA d):(bif b then c else bv).bind a=bif b then c.bind a else bv:=by grind
theorem af7 (tt:bp (bN×ao)) (c:bp (X×aT)) (b:bN) (e d:au) (a:c0->bA f):sv tt c b e d a=(sv tt c b e d Y).bind a:=by
 unfold sv;split
 ·rfl
 split
 case h_2=>rfl
 split
 ·rfl
 rw[ta];congr 1;split
 ·grind
 ·grind
 grind
theorem QM (tt:bp (bN×ao)) (c:bp (X×aT)) (b:bN) (g d e:au) (a:c0->bA f):qR tt c b g d e a=(qR tt c b g d e Y).bind a:=by
 unfold qR;split
 case h_2=>rfl
 split
 case h_2=>rfl
 split
 case h_2=>rfl
 split
 case h_2=>rfl
 grind
theorem VT (tt:bp (bN×ao)) (c:bp (X×ao)) (e:bp (X×aT)) (d:X) (b:bN) (g h:au) (a:c0->bA f):pB tt c e d b g h a=(pB tt c e d b g h Y).bind a:=by
 unfold pB;split
 ·rfl
 split
 ·split
  case h_2=>rfl
  rw[ta];congr 1;split
  ·grind
  grind
 ·split
  case h_2=>rfl
  split
  case h_2=>rfl
  grind
 ·split
  case h_2=>rfl
  grind
 ·grind
 rfl
theorem VW (tt:bp (bN×ao)) (c:bp (X×ao)) (e:bp (X×aT)) (d:X) (b:bN) (g h:au) (a:c0->bA f):oQ tt c e d b g h a=(oQ tt c e d b g h Y).bind a:=by
 unfold oQ;split
 ·unfold Ab;split
  case h_2=>rfl
  split
  case h_2=>rfl
  grind
 grind [VT]
theorem W4 (tt:bp (bN×ao)) (d:bp (X×aT)) (c:X) (b:bN) (e g:au) (a:c0->bA f):rK tt d c b e g a=(rK tt d c b e g Y).bind a:=by
 unfold rK;split
 ·rfl
 split
 ·split
  case h_2=>rfl
  grind
 ·split
  case h_2=>rfl
  grind
 rfl
theorem Wj (tt:bp (bN×ao)) (c:bp (X×ao)) (g:bp (X×aT)) (e:bS->au) (d:X) (b:bN) (h:bp (X×bS)) (a:c0->bA f):s6 tt c g e d b h a=(s6 tt c g e d b h Y).bind a:=by
 unfold s6;split
 ·rfl
 split
 ·rw[ta];congr 1;split
  ·grind
  rfl
 rw[ta];congr 1;split
 ·rfl
 split
 ·grind
 rfl
theorem Wm (tt:bp (bN×ao)) (c:bp (X×ao)) (e:bp (X×aT)) (d:X) (b:bN) (g:au) (a:c0->bA f):vg tt c e d b g a=(vg tt c e d b g Y).bind a:=by
 unfold vg;split
 ·split
  ·grind
  ·grind
  rfl
 rfl
theorem Wq (tt:bp (bN×ao)) (c:bp (X×ao)) (g:bp (X×aT)) (e:bS->au) (d:X) (b:bN) (h:X) (i:bp (X×bS)) (a:c0->bA f):s8 tt c g e d b h i a=(s8 tt c g e d b h i Y).bind a:=by
 unfold s8;split
 ·grind
 rfl
theorem Bm {d:hz} (b:bS->au) (c:bp (X×aT)) (e:bU) (a:c0->bA f):ax d b c e a=(ax d b c e Y).bind a:=by
 unfold ax;split
 ·split
  ·grind [af7]
  ·grind [QM]
  ·grind [QM]
  rfl
 rw[ta];congr 1;split
 ·grind
 ·split
  case h_2=>rfl
  split
  ·rfl
  simp_all [n6,Option.bind_assoc,ta,aF]
 ·split
  case h_2=>rfl
  rw[ta];grind [VW]
 ·grind [W4]
 ·split
  ·rfl
  ·rfl
  ·rfl
  ·grind
  grind
 ·grind [Wj]
 ·grind [Wm]
 ·grind [Wq]
 grind
theorem Xr {d:hz} (b:bS->au) (c:bp (X×aT)) (e:bU) (a:c0->bA f):ky d b c e a=(ky d b c e Y).bind a:=by
 unfold ky;split
 ·grind [Bm]
 rw[ta];congr 1;refine(Bm _ _ _ _).trans (Eq.trans ?_ (b4 (λg=>bE g a) (Bm _ _ _ _)).symm);grind
theorem Ps:∀{d:bp bd} {b a:X} {e:bp bd},FK b d=Y (a,e)->b<=a/\d=bJ (a-b) .snd++.fst::e
 |[],_,_,_,c=>by cases c
 |s::d,b,a,e,c=>by
  cases s<;>simp only[FK] at c<;>first|(cases c;done)|skip
  ·simp_all
  obtain⟨g,f⟩:=Ps c;refine⟨aa,?_⟩;rw[(aa:a-b=(a-(b+1))+1),List.replicate_succ,oB,<-f]
theorem FL {c:bp bd} (b:yB l=Y (a,c)):l=.deref::.unst::(bJ a .snd++.fst::c):=by
 unfold yB at b;split at b
 ·rename_i l;have:=(Ps b).2;grind
 grind
def Je:∀{j k:X} {r r':bp bd},j≠k->lF (bJ j .snd++.fst::r) (bJ k .snd++.fst::r')=bt
 |0,0,_,_,a=>absurd rfl a
 |0,k+1,_,_,_|j+1,0,_,_,_=>rfl
 |j+1,k+1,r,r',a=>Je (j:=j) (k:=k) (r:=r) (r':=r') (λb=>a (by rw[b]))
def PT:∀{j:X} {r:bp bd},hG (bJ j .snd++.fst::r) (bJ j .snd++[.fst])=n8 r
 |0,r=>by cases r<;>rfl
 |j+1,r=>PT (j:=j) (r:=r)
def PS (a:bp bd):hG a []=n8 a:=by cases a<;>rfl
def ad3 (c:tL l=Y a):(a=1↔l=[])/\(a=2↔l=[.deref])/\(4<=a->∃d e,yB l=Y (d,e)/\((e=[]/\a=2*d+4)\/(e≠[]/\a=2*d+5)))/\(a=1\/a=2\/4<=a):=by
 unfold tL at c;split at c
 ·cases c;simp
 ·cases c;simp
 rename_i g h;split at c
 ·rename_i d f;cases c;refine⟨⟨λb=>by omega,λb=>absurd b g⟩,⟨λb=>by omega,λb=>absurd b h⟩,λ_=>⟨d,[],f,.inl ⟨bq,bq⟩⟩,aa⟩
 ·rename_i d i e f;cases c;refine⟨⟨λb=>by omega,λb=>absurd b g⟩,⟨λb=>by omega,λb=>absurd b h⟩,λ_=>⟨d,i::e,f,.inr ⟨ac,bq⟩⟩,aa⟩
 cases c
def ad4 {i:bp bd} (b:y9 l a=bt) (s:tL i=Y a):hG l i=bt:=by
 obtain⟨k,m,n,w⟩:=ad3 s;unfold y9 at b;rcases CV.1 b with b|b
 ·obtain⟨c,f⟩:=sC.1 b;rw[k.1 (fN c),PS];exact f
 rcases CV.1 b with b|b
 ·obtain⟨b,g⟩:=sC.1 b;obtain⟨c,f⟩:=sC.1 b;rw[m.1 (fN c)];cases l with
  |nil=>cases g
  |cons v l=>
   cases v<;>first|(cases g;done)|skip
   show hG l []=bt;rw[PS];exact f
 split at b
 ·rename_i d j t;obtain⟨o,b⟩:=sC.1 b;obtain⟨h,u,r,q⟩:=n (g8 o);rw[FL r,FL t];show hG (bJ d .snd++.fst::j) (bJ h .snd++.fst::u)=bt;by_cases c:d=h
  ·subst c;rcases q with⟨rfl,p⟩|⟨x,p⟩
   ·have ax:a/2=d+2:=aa;have e:a %2=0:=aa;rw[ax,e] at b;have:n8 j=bt:=(by simpa using b);rw[PT,this]
   have ax:a/2=d+2:=aa;have e:a %2=1:=aa;rw[ax,e] at b;simp at b
  exact Jd (Je c)
 cases b
theorem ad2 {id:X} (c:y9 l a=bt) (i:rJ b=Y (id,a)) (n:∀d∈b.ids,d=id\/d∉e):li e [(id,l),(id,[])] b=bt:=by
 have z:∀h,tL h=Y a->hG l h=bt:=λh p=>ad4 c p;have v:∀g:X,bL g g=bt:=anG;unfold rJ at i;split at i
 ·grind [li,nH]
 ·grind [li,nH,J8]
 ·rename_i g h B A k;split at i
  case h_2=>cases i
  rename_i j t x o;cases i;have w:lF l h=bt:=by
   unfold y9 at c;rcases CV.1 c with c|c
   ·have:=fN (sC.1 c).1;omega
   rcases CV.1 c with c|c
   ·have:=fN (sC.1 (sC.1 c).1).1;omega
   split at c
   ·rename_i d s q;obtain⟨_,c⟩:=sC.1 c;rw[FL o,FL q];show lF (bJ d .snd++.fst::s) (bJ j .snd++.fst::t)=bt;by_cases f:d=j
    ·subst f;have ax:(2*d+5)/2=d+2:=aa;have m:(2*d+5) %2=1:=aa;rw[ax,m] at c;simp at c
    exact Je f
   cases c
  have y:(k.all λg=>!(e6 g e))=bt:=hp.2 λu r=>by
   rcases n u (ht _ r) with f|f
   ·grind [hQ]
   grind [hQ]
  show((k.all λg=>!(e6 g e))&&([(id,l),(id,[])].any λf=>bL f.1 id&&lF f.2 h))=bt;grind
 grind
section
theorem KF {g B:bS->au} {b:bp (X×bS)} (d:∀e∈b,g e.2=B e.2):∀(f:ao) (a:X),qP g b f a=qP B b f a
 |.pr j h,a=>by
  simp only[qP,KF d h (a+1)];cases i:mH b a with
  |none=>rfl
  |some c=>
   have:g c=B c:=d (a,c) (BH i);grind
 |.nil,_|.int _,_|.bool,_|.str,_|.bb _ _,_|.ptr _ _,_|.osl _,_|.optr _,_|.st _,_|.eL,_|.mp _,_|.fm _ _,_|.fn _ _,_=>rfl
theorem QB {h:bp (X×aT)} {g B:bS->au} {b:bp (X×bS)} (d:∀e∈b,g e.2=B e.2):∀(f:ao) (a:X),nI h g b f a=nI h B b f a
 |.pr k i,a=>by
  simp only[nI,QB d i (a+1)];cases j:mH b a with
  |none=>rfl
  |some c=>
   have:g c=B c:=d (a,c) (BH j);grind
 |.nil,_|.int _,_|.bool,_|.str,_|.bb _ _,_|.ptr _ _,_|.osl _,_|.optr _,_|.st _,_|.eL,_|.mp _,_|.fm _ _,_|.fn _ _,_=>rfl
section
variable {tt:bp (bN×ao)} {an:bp (X×ao)} {h A:bp (X×aT)} {d:X} {g B:bS->au}
theorem GF {a:akX} (c:∀b∈a.toArray,g b=B b):a.map g=a.map B:=by
 cases a with
 |none=>rfl
 |some b=>grind
theorem XL {f:Op} (b:∀a∈f.operands,g a=B a):hj tt an h g d f=hj tt an h B d f:=by
 cases f
 case build T ps=>
  have:∀e∈ps.toList,g e.2=B e.2:=λe m=>b e.2 (by simp only[b2,zU,e1];grind);grind [KF,hj,Ah]
 case buildSlice T n ps=>
  have:∀e∈ps.toList,g e.2=B e.2:=λe m=>b e.2 (by simp only[b2,zU,e1];grind);grind [alq,hj,xQ]
 case slice T a j hi p=>
  simp only[b2] at b;have t:g a=B a:=b a ac;have u:j.map g=j.map B:=GF (λi o=>b i ae);have v:hi.map g=hi.map B:=GF (λi o=>b i ae);cases p
  ·grind [hj]
  rfl
 case makeMap T q=>
  cases q<;>rfl
 case makeFunc l s cs=>
  cases l<;>try rfl
  grind [alq,al1,hj,b2]
 case call c=>
  obtain⟨r,k,y⟩:=c;have w:∀a∈k.toList,g a=B a:=λa x=>b a (by grind [al1,b2,alV]);clear b;simp only[hj];split
  ·grind
  ·grind [alq]
  ·grind [alq]
  rfl
 all_goals (simp only[b2] at b;simp only[hj])
 all_goals (first|rfl|(simp_all;done))
theorem XO {e:Op} (b:∀a∈e.operands,g a=B a):lg tt an h g d e=lg tt an h B d e:=by
 cases e
 case slice T a j hi l=>
  simp only[b2] at b;have i:g a=B a:=b a ac;have n:j.map g=j.map B:=GF (λf k=>b f ae);have o:hi.map g=hi.map B:=GF (λf k=>b f ae);cases l
  ·simp_all [lg]
  rfl
 case call c=>
  grind [al1,ax,lg,b2,alV]
 case unOp m T a=>
  have i:g a=B a:=b a (by simp[b2]);cases m<;>simp only[lg,i]
 all_goals (simp only[b2] at b;simp only[lg])
 all_goals (first|rfl|(simp_all;done))
theorem OJ {i:hz} {l:bU} {q:c0->bA f} (a:∀j∈l.op.operands,g j=B j):ax i g h l q=ax i B h l q:=by
 have x:=λ(d:X)=>XO (tt:=i.tt) (an:=i.an) (h:=h) (d:=d) a;have w:=λ(d:X)=>XL (tt:=i.tt) (an:=i.an) (h:=h) (d:=d) a;unfold ax;cases y:l.dst with
 |none=>
  simp only;split
  ·grind [b2]
  ·grind [b2]
  ·grind [b2]
  rfl
 |some d=>
  simp only;congr 1;split
  ·grind [b2]
  ·rename_i b k _ c;rw[c] at a;have:k.toList.map g=k.toList.map B:=iL λj r=>a j (by grind [al1,b2,alV]);have o:g b=B b:=a b (by simp[b2,alV]);rw[this,o]
  ·rename_i k u c;rw[c] at a;split
   ·rename_i j v m s ax _;have r:∀b∈k.toList,g b=B b:=λb o=>a b (by grind [al1,b2,alV]);grind
   rfl
  ·rename_i k u c;rw[c] at a;split
   ·rename_i j v m s ax _;have r:∀b∈k.toList,g b=B b:=λb o=>a b (by grind [al1,b2,alV]);grind
   rfl
  ·grind [b2]
  ·rename_i m p c;rw[c] at a;have n:∀e∈p.toList,g e.2=B e.2:=λe t=>a e.2 (by simp only[b2,zU,e1];grind);simp only[s6,KF n,QB n]
  ·grind [b2]
  ·rename_i m z p c;rw[c] at a;have n:∀e∈p.toList,g e.2=B e.2:=λe t=>a e.2 (by simp only[b2,zU,e1];grind);grind [alq,s8]
  grind
def gZ (h A:bp (X×aT)) (a:au):Prop:=∀id∈a.ids,ay h id=ay A id
def aeb (a:gZ h A b):sk h b=sk A b:=by
 cases b with
 |ref id c=>simp only[sk,a id (by simp[bW])]
 |_=>rfl
theorem aea {id:X} (a:sk h b=Y (id,l)):id∈b.ids:=by
 unfold sk at a;split at a
 ·grind [bW]
 ·grind [bW]
 grind
theorem af8 {a:c0->bA f} (c:gZ h A s) (e:gZ h A b):sv tt h R s b a=sv tt A R s b a:=by
 unfold sv;rw[<-aeb c];split
 ·rfl
 rename_i id i d;rw[c id (aea d)];cases b with
 |ref g j=>simp only[e g (by simp[bW])]
 |_=>rfl
theorem Uy (a:gZ h A b):lZ h k b=lZ A k b:=by
 cases b with
 |ref id c|view id c f e=>simp only[lZ,a id (by simp[bW])]
 |val d i=>cases d<;>rfl
 |eN g=>unfold lZ;grind
 |_=>rfl
theorem VU {i:c0->bA f} (c:gZ h A s) (j:gZ h A b) (m:ay h d=ay A d):pB tt an h d R s b i=pB tt an A d R s b i:=by
 unfold pB;split
 ·rfl
 have e:∀g:ao,lZ h g b=lZ A g b:=λg=>Uy j;cases s with
 |ref id a=>
  cases a with
  |nil=>
   simp only[c id (by simp[bW]),e];cases b with
   |ref n k=>
    cases k with
    |nil=>simp only[j n (by simp[bW])]
    |cons l k=>rfl
   |_=>rfl
  |cons l a=>simp only[c id (by simp[bW]),e,m]
 |view id a p o=>
  cases a with
  |nil=>simp only[c id (by simp[bW]),e]
  |cons l a=>rfl
 |eN q=>grind
 |_=>rfl
def adR (d:gZ h A b):wG h s b=wG A s b:=by
 unfold wG;cases s with
 |ref id a=>
  cases a with
  |nil=>rfl
  |cons f a=>
   cases b with
   |ref e c=>
    cases c with
    |nil=>simp only[d e (by simp[bW])]
    |cons g c=>rfl
   |_=>rfl
 |_=>rfl
theorem VX {a:c0->bA f} (e:gZ h A b) (g:gZ h A s) (c:ay h d=ay A d):oQ tt an h d R b s a=oQ tt an A d R b s a:=by
 unfold oQ;rw[adR g,VU e g c];split
 ·rename_i id k j l i;obtain⟨rfl,_,_⟩:=Lk i;unfold Ab;rw[e id (by simp[bW]),c]
 rfl
theorem W5 {e:c0->bA f} (g:gZ h A s) (j:gZ h A b):rK tt h d R s b e=rK tt A d R s b e:=by
 unfold rK;split
 ·rfl
 have i:∀c:ao,lZ h c b=lZ A c b:=λc=>Uy j;cases s with
 |ref id a=>
  cases a with
  |nil=>simp only[g id (by simp[bW]),i]
  |cons k a=>rfl
 |view id a m l=>
  cases a with
  |nil=>simp only[g id (by simp[bW]),i]
  |cons k a=>rfl
 |_=>rfl
theorem H7 (c:gZ h A b):qt an h d b=qt an A d b:=by
 cases b with
 |ref id a=>
  cases a with
  |nil=>simp only[qt,c id (by simp[bW])]
  |cons e a=>rfl
 |view id a g f=>
  cases a with
  |nil=>simp only[qt,c id (by simp[bW])]
  |cons e a=>rfl
 |eN b=>unfold qt;grind
 |_=>rfl
def adY (c:gZ h A b):y7 h k b=y7 A k b:=by
 cases b with
 |ref id a=>
  cases a with
  |nil=>simp only[y7,c id (by simp[bW])]
  |cons d a=>rfl
 |_=>rfl
def QC {b:bp (X×bS)} (c:∀i∈b,gZ h A (g i.2)):∀(d:ao) (a:X),nI h g b d a=nI A g b d a
 |.pr k e,a=>by
  simp only[nI,QC c e (a+1)];cases f:mH b a with
  |none=>rfl
  |some j=>simp only[adY (c (a,j) (BH f))]
 |.nil,_|.int _,_|.bool,_|.str,_|.bb _ _,_|.ptr _ _,_|.osl _,_|.optr _,_|.st _,_|.eL,_|.mp _,_|.fm _ _,_|.fn _ _,_=>rfl
def WM (c:gZ h A b):vk h k b=vk A k b:=by
 cases b with
 |ref id a=>
  cases a with
  |nil=>simp only[vk,c id (by simp[bW])]
  |cons d a=>rfl
 |_=>rfl
def Oj {c:ao}:∀{l:bp au},(∀a∈l,gZ h A a)->vl h c l=vl A c l
 |[],_=>rfl
 |x::d,b=>by simp only[vl,WM (b x ac),Oj (l:=d) (λa e=>b a ae)]
def H5 {v:au} (a:gZ h A v):n1 h e v k=n1 A e v k:=by
 cases v with
 |ref id b=>simp only[n1,a id (by simp[bW])]
 |_=>rfl
theorem au.Kz {f:X} {a:bp au} {id:X} (d:b∈a) (g:id∈b.ids):id∈(au.eM f a).ids:=by obtain⟨c,e,rfl⟩:=hV.1 d;exact au.BQ (l:=a) (i:=c) (bh e) g
def NW (a:gZ h A b):vi h e b k=vi A e b k:=by
 unfold vi;split
 ·rename_i c f;rw[H5 (v:=c) (λid d=>a id (by simpa[bW] using d))]
 exact H5 a
def NY {c:ak6}:∀{l:bp au} {b:ao},(∀a∈l,gZ h A a)->s9 h c l b=s9 A c l b
 |[],b,_=>by cases b<;>rfl
 |a::l,b,d=>by
  cases b<;>first|rfl|skip
  simp only[s9,NW (d a ac),NY (l:=l) (λa e=>d a (by simp[e]))]
def WB (a:gZ h A b):xU h e b k=xU A e b k:=by
 unfold xU;split
 ·rename_i i c m n;rw[NY (l:=c) (λj d id g=>a id (by
   have:=au.Kz (f:=i) d g;simpa[bW] using this))]
 exact NW a
def Pv {b:ak6}:∀{τs:bp ao} {avs:bp au},(∀a∈avs,gZ h A a)->pO h b τs avs=pO A b τs avs
 |[],[],_|[],_::_,_|_::_,[],_=>rfl
 |τ::e,d::as,c=>by simp only[pO,WB (c d ac),Pv (τs:=e) (avs:=as) (λa f=>c a ae)]
theorem tP {S:ak6}:∀{ps:bp hW} {avs:bp au},(∀b∈avs,gZ h A b)->gr h S ps avs=gr A S ps avs
 |[],[],_|[],_::_,_=>rfl
 |p::d,[],_=>by cases p<;>rfl
 |.v q::d,e::as,a=>by simp only[gr,H5 (a e ac),tP (ps:=d) (avs:=as) (λb g=>a b ae)]
 |.c z r::d,e::as,a=>by
  have f:=tP (S:=S) (ps:=d) (avs:=as) (λb g=>a b ae);cases e with
  |eM u i=>
   have:pO h S r i=pO A S r i:=Pv (λb g id t=>a (.eM u i) ac id (au.Kz g t));grind [gr]
  |_=>rfl
 |.m q::d,e::as,a=>by
  have f:=tP (S:=S) (ps:=d) (avs:=as) (λb g=>a b ae);cases e with
  |ref id p=>
   cases p with
   |nil=>simp only[gr,a (.ref id []) ac id (by simp[bW]),f]
   |cons l p=>rfl
  |_=>rfl
 |.o q::d,e::as,a=>by
  have f:=tP (S:=S) (ps:=d) (avs:=as) (λb g=>a b ae);cases e with
  |ref id p=>
   cases p with
   |nil=>simp only[gr,a (.ref id []) ac id (by simp[bW]),f]
   |cons l p=>rfl
  |eN x=>grind [gr]
  |_=>rfl
 |.w B::d,e::as,a=>by
  have f:=tP (S:=S) (ps:=d) (avs:=as) (λb g=>a b ae);cases e with
  |view id p k j=>
   cases p with
   |nil=>simp only[gr,a (.view id [] k j) ac id (by simp[bW]),f]
   |cons l p=>rfl
  |_=>rfl
 |.n::d,e::as,a=>by
  have f:=tP (S:=S) (ps:=d) (avs:=as) (λb g=>a b ae);cases e with
  |eN x=>grind [gr]
  |_=>rfl
 |.s y i::d,e::as,a=>by
  have f:=tP (S:=S) (ps:=d) (avs:=as) (λb g=>a b ae);cases e with
  |ref id p|view id p k j=>grind [gr]
  |_=>simp only[gr,f]
theorem ZF (a:gZ h A b):we tt h R b=we tt A R b:=by
 unfold we;cases b with
 |ref id d|app id d c i e=>simp only[a id (by simp[bW])]
 |val c j=>cases hd tt R with|none=>rfl|some f=>cases c<;>rfl
 |eN g=>grind
 |_=>rfl
def ZP {a:bD} (c:gZ h A b):wh tt h R b s a=wh tt A R b s a:=by
 unfold wh;cases b with
 |ref id e=>simp only[c id (by simp[bW])]
 |val d f=>split<;>first|rfl|(cases d<;>rfl)
 |_=>split<;>rfl
theorem aab (a:ay h d=ay A d):yW tt an h d R=yW tt an A d R:=by grind [yW]
theorem QN {a:c0->bA f} {c:au} (d:gZ h A b):qR tt h R b s c a=qR tt A R b s c a:=by
 unfold qR;cases b with
 |ref id e=>simp only[d id (by simp[bW])]
 |_=>rfl
def YS (a:gZ h A b):v9 tt h R b s=v9 tt A R b s:=by
 unfold v9;cases b with
 |ref id c|view id c f e=>simp only[a id (by simp[bW])]
 |val d i=>cases d<;>rfl
 |eN g|_=>rfl
theorem ZM (a:gZ h A b):wg tt h R b=wg tt A R b:=by
 unfold wg;cases b with
 |ref id c|addr id c=>simp only[a id (by simp[bW])]
 |val d f=>cases d<;>first|rfl|grind
 |eN e|_=>rfl
theorem X9 (c:gZ h A b):vZ tt h R b a=vZ tt A R b a:=by
 unfold vZ;cases b with
 |ref id d|addr id d=>simp only[c id (by simp[bW])]
 |val e g=>cases e<;>first|rfl|grind
 |eN f|_=>rfl
def aao (a:gZ h A b):wx h b=wx A b:=by
 unfold wx;cases b with
 |ref id d=>simp only[a id (by simp[bW])]
 |val c f=>cases c<;>rfl
 |eN e|_=>rfl
def afU {c a:bA au} (d:gZ h A b):wW tt h R b c a=wW tt A R b c a:=by
 unfold wW;cases b with
 |ref id f=>simp only[d id (by simp[bW])]
 |val e i=>cases e<;>rfl
 |eN g|_=>rfl
theorem ZZ (a:ay h d=ay A d):wj tt an h d R s b=wj tt an A d R s b:=by grind [wj]
theorem VO (a:ay h d=ay A d):xE tt an h d R=xE tt an A d R:=by grind [xE]
theorem XM {e:Op} (b:∀a∈e.operands,gZ h A (g a)) (f:ay h d=ay A d):hj tt an h g d e=hj tt an A g d e:=by
 cases e
 case box T a=>grind [hj,Ai]
 case buildSlice T n ps=>grind [hj,xQ]
 case alloc T=>exact VO f
 case makeSlice T l c=>exact ZZ f
 case makeMap T p=>
  cases p
  ·exact aab f
  rfl
 case lookup T a k ok=>exact ZP (b a (by simp[b2]))
 case load T a=>exact ZM (b a (by simp[b2]))
 case nilCheck a=>exact aao (b a (by simp[b2]))
 case indexAddr T a i=>exact YS (b a (by simp[b2]))
 case fieldAddr T a n=>exact X9 (b a (by simp[b2]))
 case slice T a u hi o=>
  cases o
  ·exact afU (b a (by simp[b2]))
  rfl
 case call c=>
  obtain⟨q,j,v⟩:=c;have s:∀a∈j.toList,gZ h A (g a):=λa t=>b a (by grind [al1,b2,alV]);clear b;simp only[hj];split
  ·grind [ZF]
  ·rfl
  ·rfl
  rfl
 case makeFunc m r cs=>cases m<;>rfl
 all_goals rfl
theorem XP {n:Op} (j:∀b∈n.operands,gZ h A (g b)) (z:ay h d=ay A d):lg tt an h g d n=lg tt an A g d n:=by
 cases n
 case lookup e b k ok=>
  have a:=j b (by simp[b2]);simp only[lg];split
  ·rename_i w id f B ax r y;rw[r] at a;rw[a id (by simp[bW])]
  rfl
 case makeSlice e l c=>grind [lg]
 case unOp v e b=>cases v<;>rfl
 case indexAddr e b i=>
  have a:=j b (by simp[b2]);simp only[lg];revert a;cases g b with
  |ref id f=>intro a;simp only[a id (by simp[bW])]
  |view id f t s=>
   intro a;cases f with
   |nil=>simp only[a id (by simp[bW])]
   |cons=>rfl
  |val m p=>intro _;cases m<;>rfl
  |_=>intro _;rfl
 case load e b=>
  have a:=j b (by simp[b2]);simp only[lg];revert a;cases g b with
  |ref id f|addr id f=>intro a;simp only[a id (by simp[bW])]
  |val m p=>intro _;cases m<;>rfl
  |_=>intro _;rfl
 case slice e b t s u=>
  have a:=j b (by simp[b2]);cases u
  ·simp only[lg];revert a;cases g b with
   |ref id f=>intro a;simp only[a id (by simp[bW])]
   |val m p=>intro _;cases m<;>rfl
   |_=>intro _;rfl
  rfl
 case call c=>
  obtain⟨x,q,C⟩:=c;have o:∀b∈q.toList,gZ h A (g b):=λb a=>j b (by grind [al1,b2,alV]);clear j;simp only[lg];split
  ·rename_i b e ax _;rw[ax] at o;have a:=o b ac;cases hd tt e with
   |none=>cases g b<;>rfl
   |some w=>
    revert a;cases g b with
    |ref id f=>intro a;simp only;rw[a id (by simp[bW])]
    |_=>intro _;rfl
  rfl
 all_goals rfl
theorem wo {b:Callee} {a:bX bS} {c:bX bN} (d:N∈a.toList):N∈(Op.call {callee:=b,args:=a,argTypes:=c}).operands:=by grind [al1,b2,alV]
theorem OK {s:hz} {r:bU} {u:c0} (a:ax s g h r Y=Y u) (e:∀l∈r.op.operands,gZ h A (g l)) (o:∀d,r.dst=Y d->ay h d=ay A d) (p:∀b∈u.put,ay h b.1=ay A b.1):ax s g A r Y=Y u:=by
 unfold ax at a|-;cases v:r.dst with
 |none=>
  rw[v] at a;simp only at a|-;split at a
  ·grind [af8,b2]
  ·grind [QN,b2]
  ·grind [QN,b2]
  omega
 |some d=>
  rw[v] at a;have o:=o d v;simp only at a|-;cases G:hI s.n s.pin d with
  |false=>grind
  |true=>
  rw[G] at a;simp only[bI] at a|-;split at a
  ·omega
  ·rename_i J z _ i;rw[i] at e;split at a
   case h_2=>cases a
   rename_i D x I
   try rw[I]
   try simp only
   have F:∀j∈z.toList.map g++x,gZ h A j:=λj k=>by
    rcases hM.1 k with k|k
    ·grind [wo]
    intro id N;exact e J (by simp[b2,alV]) id (by grind [au.Kz])
   split at a
   ·cases a
   rename_i c K;cases E:bL c.f D with
   |false=>grind
   |true=>
   rw[E] at a;simp only[bI,n6] at a|-;rw[<-tP F];obtain⟨j,k,a⟩:=fh.1 a;obtain⟨m,H,a⟩:=fh.1 a;simp only[k,H,aF];cases C:rH d ⟨[],h⟩ (z.toList.map g++x) (iw c.ps j m) (lN c.rs (kF c.ps m)) with
   |false=>grind
   |true=>
   rw[C] at a;have L:rH d ⟨[],A⟩ (z.toList.map g++x) (iw c.ps j m) (lN c.rs (kF c.ps m))=bt:=(by rw[<-C];unfold rH;congr 1;rw[xa,hp,hp];cases a;have w:∀b∈kU d (kR (lN c.rs (kF c.ps m))) 0 (lN c.rs (kF c.ps m)),ay h b.1=ay A b.1:=λb w=>p b ae;grind);grind
  ·grind [VX,wo]
  ·grind [W5,wo]
  ·rename_i l i;rw[i] at e;have q:=e l (by simp[b2]);revert a q;cases g l with
   |val T S=>grind
   |eN R|ref id t|view id t O M=>grind [H7]
   |_=>intro a _;exact a
  ·rename_i B y i;rw[i] at e;have p:∀b∈y.toList,gZ h A (g b.2):=λb w=>e b.2 (by simp only[b2,zU,e1];grind);rw[<-a];simp only[s6,QC p,o]
  ·rename_i B l i;rw[i] at e;have q:=e l (by simp[b2]);rw[<-a];simp only[vg,o];revert q;cases g l with
   |ref id t=>
    intro q;cases t with
    |nil=>simp only[q id (by simp[bW])]
    |cons Q t=>rfl
   |_=>intro _;rfl
  ·rename_i B P y i;rw[i] at e;have p:∀j∈y.toList.map (λb=>g b.2),gZ h A j:=λj k=>by
    obtain⟨b,w,rfl⟩:=e1.1 k;exact e b.2 (by simp only[b2,zU,e1];grind)
   rw[<-a];simp only[s8,Oj p,o]
  grind [XP,XM]
end
theorem Uo {d:Op}:∀e∈sw d,e∈d.operands:=by
 intro e b;cases d<;>simp only[sw] at b<;>first|(cases b;done)|skip
 case assign y=>grind [b2]
 case box T y=>grind [b2]
 case build T ps=>grind [b2]
 case buildSlice T n ps=>grind [b2]
 case store T a v=>grind [b2]
 case mapUpdate T a k v=>grind [b2]
 case insert T a k v=>grind [b2]
 case entryStore T a k v=>grind [b2]
 case call c=>
  obtain⟨g,f,h⟩:=c;simp only at b;split at b
  ·exact wo b
  ·exact wo (List.mem_of_mem_drop b)
  grind
theorem FI {e:ak8} {f:X} {g:bS->au}:∀{a:bp bS},∀id∈m5 e f g a,∃x∈a,g x=.ref id []
 |[],id,h=>by cases h
 |x::a,id,h=>by
  simp only[m5] at h;split at h
  ·rename_i j i;rw[Bool.cond_eq_ite] at h;split at h
   ·rcases gn.1 h with rfl|h
    ·grind
    obtain⟨d,c,b⟩:=FI id h;grind
   obtain⟨d,c,b⟩:=FI id h;grind
  obtain⟨d,c,b⟩:=FI id h;grind
def Pr {a:ak8} {c:X} {g B:bS->au}:∀{l:bp bS},(∀x∈l,g x=B x)->m5 a c g l=m5 a c B l
 |[],_=>rfl
 |x::l,b=>by simp only[m5,b x ac,Pr (l:=l) (λd e=>b d ae)]
theorem Pp {h A:bp (X×aT)} (c:∀id∈e,ay h id=ay A id) (a:au):hb h e a=hb A e a:=by
 cases a with
 |ref id b=>
  cases b with
  |nil=>
   grind [hQ,e6,hb]
  |cons d b=>rfl
 |_=>rfl
theorem Yn {h A:bp (X×aT)} (d:∀id∈e,ay h id=ay A id) (a:au):i6 h e a=i6 A e a:=by
 by_cases c:∃b,a=.fG b
 ·obtain⟨b,rfl⟩:=c;grind [alq,Pp,i6]
 grind [JJ,Pp]
theorem Po {h:bp (X×aT)}:∀id∈(hb h e b).ids,id∈b.ids:=by
 intro id c;rcases m4 h e b with⟨f,d,rfl,_,_,a⟩|⟨a,_⟩|⟨a,_⟩
 ·rw[a] at c;have:(r4 d).ids=[]:=(by unfold r4;split<;>rfl);grind
 ·rw[a] at c;cases c
 grind
def PK {c:au->au} (d:∀a,∀id∈(c a).ids,id∈a.ids):∀{b:bp au} {id:X},id∈al8 (b.map c)->id∈al8 b
 |[],_,h=>h
 |a::b,id,h=>by simp only[ir,al8,hM] at h|-;exact h.imp (d a id) (PK d)
theorem Ym {h:bp (X×aT)}:∀id∈(i6 h e b).ids,id∈b.ids:=by
 by_cases d:∃a,b=.fG a
 ·obtain⟨a,rfl⟩:=d;exactλid c=>PK (λb=>Po) c
 grind [JJ,Po]
theorem Xt {i:hz} {g B:bS->au} {h A:bp (X×aT)} {b:bU} (c:ky i g h b Y=Y n) (p:∀a∈b.op.operands,g a=B a) (o:∀a∈b.op.operands,gZ h A (g a)) (t:∀d,b.dst=Y d->ay h d=ay A d) (y:∀l∈n.put,ay h l.1=ay A l.1):ky i B A b Y=Y n:=by
 unfold ky at c|-;rw[<-Pr (λa f=>p a (Uo a f))];split
 ·rename_i j;rw[j] at c;rw[<-OJ p];grind [OK]
 rename_i x;split at c
 ·grind
 have j:∀id∈m5 i.qJ (v5 b) g (sw b.op),ay h id=ay A id:=λid k=>(by obtain⟨a,f,n⟩:=FI id k;exact o a (Uo a f) id (by grind [bW]));generalize m5 i.qJ (v5 b) g (sw b.op)=e at c j|-;have r:n2 A e=n2 h e:=(by unfold n2;grind);rw[r];cases s:n2 h e with
 |false=>grind
 |true=>
 rw[s] at c;simp only[bI] at c|-;rw[Bm] at c|-;obtain⟨m,q,v⟩:=fh.1 c;have z:m.put=n.put:=ae;have w:ax i (λa=>i6 A e (B a)) (del e A) b Y=Y m:=by
  rw[<-OJ (g:=λa=>i6 h e (g a)) (λa f=>by grind [Yn])];refine OK q (λa f id k=>?_) (λd u=>?_) (λl C=>?_)
  ·rw[oc,oc,o a f id (Ym id k)]
  ·rw[oc,oc,t d u]
  grind [oc]
 grind
end
section
def qV (D:bX bU) (a:X):ak6:=match D[a]? with
 |some b=>(b.after.toList.filter (aoI .any)).map (·.on)
 |none=>[]
def zp (a:X):c0:=⟨Y (a,.eN bZ),[],[],[]⟩
def Fr (ic:hz) {d:Type} (G C:ak6) (a:aW) (c:bU) (e:c0->bA d):bA d:=
 ky ic (bc a.g) a.h c λb=>bif r2 G C (bc a.g) c b then e b else bv
def iZ (ic:hz) (D:bX bU) (G C:X->ak6) (e:X) (b:aW) (d:c0):Prop:=
 ∃a,D[e]?=Y a/\((ls D b a bt/\ky ic (bc b.g) b.h a Y=Y d/\r2 (G e) (C e) (bc b.g) a d=bt)\/(ls D b a br/\∃c,a.dst=Y c/\hI ic.n ic.pin c=bt/\d=zp c))
def tQ (ic:hz) {k:Type} (D:bX bU) (G C:X->ak6):ak6->aW->(aW->bA k)->bA k
 |[],a,b=>b a
 |i::e,a,b=>match D[i]? with
  |none=>bv
  |some f=>match f.guard with
   |none=>Fr ic (G i) (C i) a f λj=>tQ ic D G C e (j.app a) b
   |some (
    l,uD)=>match(D[l]?).bind (·.dst),f.dst with
    |some d,Y c=>match gt a.g d with
     |.val .bool m=>bif hI ic.n ic.pin c then
      (match m==uD with
      |true=>Fr ic (G i) (C i) ⟨(d,.val .bool uD)::a.g,a.h⟩ f λj=>tQ ic D G C e (j.app ⟨(d,.val .bool uD)::a.g,a.h⟩) b
      |false=>tQ ic D G C e ⟨(c,.eN bZ)::(d,.val .bool (!uD))::a.g,a.h⟩ b) else bv
     |.eN (.tuple _)=>bif hI ic.n ic.pin c then tQ ic D G C e ⟨(c,.eN bZ)::a.g,a.h⟩ b else bv
     |_=>bv
    |_,_=>bv
def oJ (ic:hz) (D:bX bU) (G C:X->ak6):ak6->aW->aW->Prop
 |[],a,b=>k4 a b
 |i::d,a,b=>∃c,iZ ic D G C i a c/\oJ ic D G C d (c.app a) b
theorem VS {tt:bp (bN×ao)} {id:X} {f:bd} (e:oQ tt j c a d (.ref id (f::l)) b Y=Y n):n.keep=[(id,f::l),(id,[])]/\n.S=[id]/\ay n.put id=ay c id:=by
 have p:∀{h:au} {g:aT},ay c id=Y g->ay c a=bv->Y (c0.mk (Y (a,h)) [id] [(id,f::l),(id,[])] [(a,⟨.eL,()⟩),(id,g)])=Y n->n.keep=[(id,f::l),(id,[])]/\n.S=[id]/\ay n.put id=ay c id:=(by intro h g i q k;cases k;have m:¬a=id:=λn=>ae;exact⟨bq,bq,by rw[eX,aA m,eX,aB bq,i]⟩);unfold oQ at e;split at e
 ·rename_i r t s u o;obtain⟨ax,_,_⟩:=Lk o;cases ax;unfold Ab at e;split at e
  case h_2=>cases e
  grind [amp]
 unfold pB at e;split at e
 ·cases e
 rename_i v _;simp only at e;split at e
 case h_2=>cases e
 grind [amp]
theorem H3 {id:X} (e:sX S h=Y (id,l)):∃d f c g b a,h.op=.call {callee:=.builtin .append,args:=d,argTypes:=f}/\d.toList=[c,g]/\l=b::a/\S c=.ref id (b::a):=by unfold sX at e;grind
theorem OI {ic:hz} {g:bS->au} {b:c0} {id:X} {f:bX bS} {p:bX bN} {e:bd} {d:bp bd} (k:h.op=.call {callee:=.builtin .append,args:=f,argTypes:=p}) (o:f.toList=[N,V]) (r:l=e::d) (q:g N=.ref id (e::d)) (a:ax ic g c h Y=Y b):b.keep=[(id,l),(id,[])]/\b.S=[id]/\ay b.put id=ay c id:=by
 unfold ax at a;cases j:h.dst with
 |none=>grind
 |some i=>
  rw[j] at a;simp only at a;cases m:hI ic.n ic.pin i with
  |false=>grind
  |true=>
  rw[m] at a;simp only[bI,k,o] at a;grind [VS]
theorem OM {ic:hz} {d:c0} {id:X} (x:sX S h=Y (id,l)) (e:ky ic S c h Y=Y d):d.keep=[(id,l),(id,[])]/\ay d.put id=ay c id:=by
 obtain⟨M,K,k,N,j,i,q,r,C,p⟩:=H3 x;unfold ky at e;split at e
 ·grind [OI]
 generalize m5 ic.qJ (v5 h) S (sw h.op)=b at e;cases z:n2 c b with
 |false=>grind
 |true=>
 rw[z] at e;simp only[bI] at e;rw[Bm] at e;obtain⟨m,a,o⟩:=fh.1 e;cases B:m.keep.all (λs=>!e6 s.1 b) with
 |false=>grind
 |true=>
 rw[B] at o;cases o;have f:i6 c b (.ref id (j::i))=.ref id (j::i)\/i6 c b (.ref id (j::i))=.dead:=by
  rw[JJ ae];rcases m4 c b (.ref id (j::i)) with⟨s,J,d,_⟩|⟨d,_⟩|⟨d,_⟩
  ·cases d
  ·grind
  grind
 rcases f with f|f
 ·obtain⟨E,_,F⟩:=OI (g:=λk=>i6 c b (S k)) q r C (by show i6 c b (S k)=_;rw[p];exact f) a;refine⟨E,?_⟩;show ay m.put id=_;rw[F,oc];have I:id∉b:=λH=>by
   grind [hQ,amj]
  grind
 exfalso;unfold ax at a;cases A:h.dst with
 |none=>grind
 |some v=>
  rw[A] at a;simp only at a;cases D:hI ic.n ic.pin v with
  |false=>grind
  |true=>
  rw[D] at a;simp only[bI,q,r] at a;split at a
  case h_2=>cases a
  rename_i L O t u w G;cases w;cases y:bL t u with
  |false=>grind
  |true=>
  rw[y] at a;simp only[bI,p,f,oQ,wG,pB] at a;grind
section
variable {ic:hz} {D:bX bU} {G C:X->ak6}
theorem Fo.ok {e:bA (X×au)} {a:ak2} (c:Fo e a=bt):∀d b,e=Y (d,b)->a=Y d:=by
 intro d b g;subst g;cases a with
 |none=>cases c
 |some f=>rw[fN (show bL d f=bt from c)]
theorem OO {b:bU} {c:c0->bA f} {d:f} (j:Fr ic e y i b c=Y d):∃a,ky ic (bc i.g) i.h b Y=Y a/\r2 e y (bc i.g) b a=bt/\c a=Y d:=by unfold Fr at j;grind [amp,Xr]
def nq (b:ak6) (a:au):Prop:=(∀id∈a.ids,id∈b)\/(∃id,a=.ref id []/\id+500000∈b)\/∃id c,rJ a=Y (id,c)/\id<500000/\id+1000000*c∈b/\∀d∈a.ids,d=id\/d∈b
theorem tV.ok (a:tV e b=bt):∃id c,rJ b=Y (id,c)/\id<500000/\id+1000000*c∈e/\∀d∈b.ids,d=id\/d∈e:=by
 unfold tV at a;split at a
 case h_2=>cases a
 rename_i id c f;simp only[cL] at a;refine⟨id,c,f,g8 a.1,hQ.1 a.2.1,λd g=>?_⟩;simp_all [fN,hQ,jO,hp]
theorem pX.ok (a:pX e b=bt):∃id,b=.ref id []/\id+500000∈e:=by unfold pX at a;grind [hQ]
theorem nq.ok {c:ak6} {b:au} (a:(pY b.ids c||pX c b)=bt):nq c b:=by
 rcases jO _ _▸a with a|a
 ·exact .inl (pY.ok a)
 exact .inr (.inl (pX.ok a))
theorem nq.abK (a:(pY b.ids e||(pX e b||tV e b))=bt):nq e b:=by
 simp only[jO] at a;rcases a with a|a|a
 ·exact .inl (pY.ok a)
 ·exact .inr (.inl (pX.ok a))
 exact .inr (.inr (tV.ok a))
theorem O7 (b:tL l=Y a):1<=a:=by unfold tL at b;grind
theorem WL {id:X} (c:rJ b=Y (id,a)):1<=a:=by
 unfold rJ at c;split at c
 ·split at c
  ·rename_i d;cases c;exact O7 d
  grind
 ·split at c
  ·rename_i d;cases c;exact O7 d
  grind
 ·grind
 grind
def M0 (e:Op) (c:ak6) (b:au):Prop:=
 (∃f d g a,e=.extract f d/\b=.fG g/\g[d]?=Y a/\uf a=bt/\nq c a)\/
 ((∀f d,e≠.extract f d)/\Dm b=bt/\nq c b/\((∀id∈b.ids,id∈c\/∃a,1<=a/\id<500000/\id+1000000*a∈c)\/yI e=bt))
theorem o8.ok {h:Op} {f:ak6} {e:au} (a:o8 h f e=bt):M0 h f e:=by
 unfold o8 at a;split at a
 ·rename_i d b;split at a
  case h_2=>cases a
  rename_i q;split at a
  case h_2=>cases a
  rename_i c o;rw[cL] at a;exact .inl ⟨d,b,q,c,bq,bq,o,a.1,.ok a.2⟩
 rename_i p;simp only[cL,jO] at a;refine .inr ⟨λd b i=>p d b i,a.1,?_⟩;rcases a.2 with a|⟨a,j⟩|a
 ·exact⟨.inl (pY.ok a),.inl λb g=>.inl (pY.ok a b g)⟩
 ·exact⟨.inr (.inl (pX.ok j)),.inr a⟩
 obtain⟨id,c,k,l,m,n⟩:=tV.ok a;refine⟨.inr (.inr ⟨id,c,k,l,m,n⟩),.inl λb g=>?_⟩;grind
theorem r2.ok {i b:ak6} {j:bS->au} {g:bU} {c:c0} (a:r2 i b j g c=bt):(∀d f,c.d=Y (d,f)->g.dst=Y d)/\(∀l∈g.op.operands,M0 g.op i (j l))/\(∀id∈c.S,id<500000/\(id∈b/\(id+500000∈b\/nH c.keep (.ref id [])=bt)\/id+1500000∈b))/\(∀h∈c.put,h.1<500000/\(h.1∈b\/h.1+1500000∈b))/\(∀d f,c.d=Y (d,f)->nq i f)/\(∀e∈b,1000000<=e->∃id k,sX j g=Y (id,k)/\e %1000000=id+500000/\id<500000/\y9 k (e/1000000)=bt):=by
 unfold r2 at a;simp only[cL] at a;obtain⟨⟨⟨⟨m,t⟩,n⟩,o⟩,u,p⟩:=a;refine⟨Fo.ok m,λl y=>?_,λid q=>?_,λh s=>?_,λd f w=>?_,λe r x=>?_⟩
 ·grind [o8.ok,amj]
 ·have:=hp.1 n id q;simp_all [g8,hQ,cL,jO]
 ·have:=hp.1 o h s;simp_all [g8,hQ,cL,jO]
 ·grind [nq.abK]
 have:=hp.1 p e r;rw[jO] at this;rcases this with a|a
 ·have:e<1000000:=g8 a;omega
 split at a
 case h_2=>cases a
 rename_i id k v;simp only[cL] at a;grind [alX,Nat.le_of_ble_eq_true]
def rr (d:ak6) (a c:au):Prop:=(Dm a=bt->nq d a->c=a)/\∀f,a=.fG f->∃g,c=.fG g/\∀(e:X) (b:au),f[e]?=Y b->uf b=bt->nq d b->g[e]?=Y b
def rr.refl (a:s=b):rr e b s:=⟨λ_ _=>a,λd c=>⟨d,by rw[a,c],λ_ _ a _ _=>a⟩⟩
theorem rr.o8 {a:ak6} {h:Op} {c d:au} (e:rr a c d) (g:o8 h a c=bt):l0.o8 h a d=bt:=by
 rcases o8.ok g with⟨r,p,k,l,i,b,f,j,n⟩|⟨i,b,f,j⟩
 ·obtain⟨q,m,o⟩:=e.2 k b;grind [l0.o8]
 rw[e.1 b f];exact g
theorem Xs {ic:hz} {d:bS->au} {g:bp (X×aT)} {e f:bp au} (o:h.op=.extract N a) (m:ky ic S c h Y=Y n) (i:S N=.fG e) (j:d N=.fG f) (k:e[a]?=Y b) (l:f[a]?=Y b):ky ic d g h Y=Y n:=by simp_all [lg,hj,Fw,ax,m5,v5,sw,ky]
theorem Xu {ic:hz} {a:bS->au} {e:bp (X×aT)} (b:yI h.op=bt) (f:ky ic S c h Y=Y n) (g:∀d∈h.op.operands,S d=a d):ky ic a e h Y=Y n:=by
 unfold yI at b;split at b
 ·simp_all [lg,hj,ax,m5,v5,sw,ky,b2]
 grind
def Z6 (b:.tmp a∈h.op.operands):a∈h.looksAt D:=
 oF _ (List.mem_filterMap.2 ⟨.tmp a,ae,bq⟩)
def Z7 {b:bD} (c:h.guard=Y (r,b)) (d:(D[r]?).bind (·.dst)=Y a):a∈h.looksAt D:=
 lw _ ae
theorem Us {l:aW} {c:bD} (n:∀k∈h.looksAt D,rr e (gt i.g k) (gt l.g k)) (a:ls D i h c):ls D l h c:=by
 unfold ls at*;cases d:h.guard with
 |none=>grind
 |some p=>
  obtain⟨o,r⟩:=p;rw[d] at a;simp only at a|-;cases f:(D[o]?).bind (·.dst) with
  |none=>grind
  |some m=>
   rw[f] at a;simp only at a|-;have j:=n m (Z7 d f);split at a
   ·rename_i s b;rw[j.1 (by rw[b];rfl) (by rw[b];exact .inl (by simp[bW])),b];exact a
   ·rename_i q b;rw[j.1 (by rw[b];rfl) (by rw[b];exact .inl (by simp[bW])),b];exact a
   grind
theorem iZ.congr {f:aW} (e:iZ ic D G C a i n) (m:∀c,D[a]?=Y c->∀p∈c.looksAt D,rr (G a) (gt i.g p) (gt f.g p)) (w:∀c,D[a]?=Y c->∀id,id∈G a\/id∈C a\/c.dst=Y id->ay i.h id=ay f.h id) (c1:∀id j,1<=j->id<500000->id+1000000*j∈G a->ay i.h id=ay f.h id):iZ ic D G C a f n:=by
 obtain⟨c,x,e⟩:=e;have m:=m c x;have w:=w c x;refine⟨c,x,e.imp (λ⟨s,t,l⟩=>⟨Us m s,?_⟩) (λ⟨s,t⟩=>⟨Us m s,t⟩)⟩;obtain⟨bx,f2,ce,f4,f5,P⟩:=r2.ok l;have o:∀b∈c.op.operands,rr (G a) (bc i.g b) (bc f.g b):=by
  intro b d;cases b with
  |tmp p=>exact m p (Z6 d)
  |const ap=>exact .refl (by cases ap<;>rfl)
  |func bs|global Q=>exact .refl bq
 constructor
 ·by_cases S:∃b F,c.op=.extract b F
  ·obtain⟨b,F,U⟩:=S;have d:b∈c.op.operands:=(by grind [b2]);rcases f2 b d with⟨J,H,y,j,k,r,z,ci,co⟩|⟨k,_⟩
   ·rw[U] at k;cases k;obtain⟨ds,aE,d0⟩:=(o b d).2 y r;grind [Xs]
   grind
  have A:∀b∈c.op.operands,Dm (bc i.g b)=bt/\nq (G a) (bc i.g b)/\((∀id∈(bc i.g b).ids,id∈G a\/∃j,1<=j/\id<500000/\id+1000000*j∈G a)\/yI c.op=bt):=λb d=>by
   rcases f2 b d with⟨J,H,y,j,k,_⟩|⟨_,Q⟩
   ·grind
   omega
  have v:∀b∈c.op.operands,bc i.g b=bc f.g b:=λb d=>((o b d).1 (A b d).1 (A b d).2.1).symm;by_cases c2:yI c.op=bt
  ·grind [Xu]
  have V:∀b∈c.op.operands,∀id∈(bc i.g b).ids,ay i.h id=ay f.h id:=λb d id cv=>ae;refine Xt t v V (λO R=>w O (.inr (.inr R))) (λI B=>?_);rcases(f4 I B).2 with e|e
  ·grind
  obtain⟨id,q,K,a3,a4,_⟩:=P _ e aa;have:=(f4 I B).1;obtain⟨av,an,b,a0,am,aE,L,M,_,N⟩:=H3 K;grind [ak9,wo,bW]
 unfold r2 at*;have:(c.op.operands.toList.all λb=>o8 c.op (G a) (bc f.g b))=bt:=(by simp only[cL] at l;rw[hp];intro b d;exact(o b ae).o8 (hp.1 l.1.1.1.2 b d));have cs:∀id q,sX (bc i.g) c=Y (id,q)->sX (bc f.g) c=Y (id,q):=λid q v=>by
  obtain⟨av,an,b,a0,am,aE,L,M,bl,N⟩:=H3 v;have E:b∈c.op.operands:=(by grind [wo]);have dl:bc f.g b=bc i.g b:=by
   rcases f2 b E with⟨J,H,y,j,k,_⟩|⟨_,r,z,_⟩
   ·grind
   exact(o b E).1 r z
  grind [sX]
 have dg:Ln (C a) (bc f.g) c=bt:=by
  simp only[cL] at l;have u:=l.2.2;unfold Ln at u|-;rw[hp] at u|-;intro ad T;have:=u ad T;rw[jO] at this|-;refine this.imp (λe=>e) (λe=>?_);split at e
  case h_2=>cases e
  grind
 grind
theorem iZ.Fs (g:iZ ic D G C a i n) {r:bU} (F:D[a]?=Y r):(∀f c,n.d=Y (f,c)->r.dst=Y f)/\(∀id∈n.S,id<500000/\(id∈C a/\(id+500000∈C a\/nH n.keep (.ref id [])=bt)\/id+1500000∈C a))/\(∀k∈n.put,k.1<500000/\(k.1∈C a\/k.1+1500000∈C a))/\(∀f c,n.d=Y (f,c)->nq (G a) c)/\(∀id,id<500000->id+1500000∈C a->ay (n.app i).h id=ay i.h id)/\(∀id b e,id∈n.S->id<500000->id+1000000*b+500000∈C a->1<=b->rJ e=Y (id,b)->(∀q∈e.ids,q=id\/q∉n.S)->li n.S n.keep e=bt):=by
 obtain⟨L,o,g⟩:=g;rw[F] at o;cases o;rcases g with⟨_,x,g⟩|⟨_,f,A,_,rfl⟩
 ·obtain⟨u,f2,v,f4,f5,w⟩:=r2.ok g;refine⟨u,v,f4,f5,λid B m=>?_,λid b e l B m K z E=>?_⟩
  ·grind [c0.sY,OM]
  obtain⟨p,M,s,H,I,J⟩:=w _ m aa;obtain rfl:p=id:=aa;obtain⟨y,_⟩:=OM s x;rw[y];refine ad2 ?_ z E;have:(p+1000000*b+500000)/1000000=b:=aa;grind
 refine⟨λt c j=>?_,by simp[zp],by simp[zp],λt c j=>?_,λid _ _=>rfl,λid b e l=>by cases l⟩
 ·cases j;exact A
 cases j;exact .inl (by simp[bW])
structure zY (f S:ak6) (keep:bp (X×bp bd)):Prop where
 a:∀id∈S,id∉f
 b:∀id∈S,id+500000∈f->nH keep (.ref id [])=bt
 c:∀id∈S,∀c v,1<=c->id<500000->id+1000000*c∈f->rJ v=Y (id,c)->(∀j∈v.ids,j=id\/j∉S)->li S keep v=bt
theorem F1 (b:ak6) (c:bp (X×bp bd)) (a:au):fy b c a=.dead\/fy b c a=a:=by grind [li,fy]
theorem Kc (c:uf (fy e g b)=bt):fy e g b=b:=by
 rcases F1 e g b with a|a
 ·rw[a] at c;cases c
 omega
theorem Kb (a:∀id∈b.ids,id∉e):fy e g b=b:=by grind [hQ,aoz,Hj,id,alm]
theorem Zb (a:∀id∈b.ids,id∉e):gb e g b=b:=by grind [hQ,aoz,Mr,id,alm]
theorem PX (d:nq y s) (h:zY y e g):fy e g s=s:=by
 rcases d with d|⟨id,rfl,d⟩|⟨id,n,j,o,p,k⟩
 ·exact Kb λid r f=>h.a id f (d id r)
 ·by_cases f:id∈e
  ·unfold fy;rw[show li e g (.ref id [])=nH g (.ref id []) from rfl,h.b id f d];simp
  grind [Kb,ak9,bW]
 by_cases f:id∈e
 ·unfold fy;rw[h.c id f n s (WL j) o p j (λm t=>(k m t).imp (λd=>d) (λd f=>h.a m f d))];simp
 exact Kb λl q u=>by
  rcases k l q with i|i
  ·grind
  exact h.a l u i
theorem BE (c:nq y b) (f:zY y e g):gb e g b=b:=by
 cases b with
 |fG k=>
  rcases c with c|⟨id,d,_⟩|⟨id,j,d,_⟩
  ·exact Zb λid h i=>f.a id i (c id h)
  ·cases d
  cases d
 |_=>exact PX c f
theorem PW (a:ak6) (d:bp (X×bp bd)) (b:ak6) (e:bp (X×bp bd)) (c:au):fy a d (fy b e c)=fy b e (fy a d c):=by grind [F1]
theorem PV (c:∀a,b≠.fG a):gb e g b=fy e g b:=by
 cases b with
 |fG a=>grind
 |_=>rfl
theorem FZ (b:ak6) (d:bp (X×bp bd)) (c:ak6) (e:bp (X×bp bd)) (a:au):gb b d (gb c e a)=gb c e (gb b d a):=by
 by_cases g:∃f,a=.fG f
 ·obtain⟨f,rfl⟩:=g;simp_all [b4,iL,PW,pp,gb]
 grind [F1,PV,PW]
theorem Zd (l d:ak6) (e:bp (X×bp bd)) (b:au):rr l (gb d e b) b:=by
 by_cases j:∃a,b=.fG a
 ·obtain⟨a,rfl⟩:=j;refine⟨λc _=>?_,λr m=>⟨a,bq,λq o p i _=>?_⟩⟩
  ·simp only[gb] at c|-;have c:∀g∈a.map (fy d e),uf g=bt:=hp.1 c;congr 1;rw[iL (λg n=>Kc (c _ (e1.2 ⟨g,n,bq⟩))),aoB]
  simp only[gb,au.fG.injEq] at m;grind [Kc,apD]
 have i:∀a,b≠.fG a:=λa f=>j ⟨a,f⟩;rw[PV i];have h:∀a,fy d e b≠.fG a:=λa f=>(by grind [F1]);refine⟨λc _=>?_,λa f=>absurd f (h a)⟩;have:uf (fy d e b)=bt:=by
  generalize fy d e b=k at c h;cases k with
  |fG a=>grind
  |_=>exact c
 grind [Kc]
theorem Ze (a:au) (d:zY y e g):rr y a (gb e g a):=by refine⟨λ_ c=>BE c d,λk b=>?_⟩;subst b;refine⟨_,bq,λj f h _ i=>?_⟩;grind [PX]
def Nu (e:∀b c,n.d=Y (b,c)->b≠a):gt (n.app i).g a=gb n.S n.keep (gt i.g a):=by
 rw[c0.vb];cases f:n.d with
 |none=>rfl
 |some h=>obtain⟨b,c⟩:=h;simp only;rw[aA (e b c f)]
def ZL {b:bp (X×f)} {id:X} (c:∀a∈b,a.1≠id):ay b id=bv:=by
 induction b with
 |nil=>rfl
 |cons a b e=>
  obtain⟨g,h⟩:=a;rw[eX,aA (c (g,h) ac),e (λa d=>c a (by simp[d]))]
def Nv {id:X} (a:id∉n.S) (b:∀c∈n.put,c.1≠id):ay (n.app i).h id=ay i.h id:=by rw[c0.sY,aA a,ZL b];rfl
def tE (b c:ak6):bD:=b.all λa=>!(e6 a c)
theorem tE.ok (b:tE e y=bt):∀a∈e,a∉y:=λa c d=>by have:=hp.1 b a c;rw[hQ.2 d] at this;cases this
def dl (b:bU):ak6:=match b.dst with
 |some a=>[a]
 |none=>[]
theorem yU (b:h.dst=Y a):a∈dl h:=by unfold dl;rw[b];simp
def tF (b c:ak6):bD:=b.all λa=>b5 1000000 a||!(e6 a c)
theorem tF.ok (a:tF e y=bt):∀b∈e,b<1000000->b∉y:=λb c f d=>by
 have:=hp.1 a b c;rw[hQ.2 d,jO] at this;rcases this with a|a
 ·have:=g8 a;omega
 cases a
def r9 (e d f b:ak6):bD:=(b.all λa=>cg a 1000000||(!(e6 (a %1000000-500000) e)&&(!(e6 (a %1000000-500000) d)&&!(e6 (a %1000000-500000) f))))&&d.all λc=>cg c 1000000||(!(e6 (c %1000000) b)&&(!(e6 (c %1000000+1500000) b)||e6 (c+500000) b))
theorem r9.ok {d i:ak6} (a:r9 d y i e=bt):(∀id,id<500000->id+1500000∈e->id∉d/\id∉y/\id∉i)/\∀id b,1<=b->id<500000->id+1000000*b∈y->id∉e/\(id+1500000∈e->id+1000000*b+500000∈e):=by
 unfold r9 at a;rw[cL] at a;have f:∀{g:X} {h:ak6},(!(e6 g h))=bt->g∉h:=λ{g h} a c=>(by rw[hQ.2 c] at a;cases a);constructor
 ·intro id k c;have:=hp.1 a.1 _ c;rw[jO] at this;rcases this with a|a
  ·have:id+1500000<1000000:=g8 a;omega
  rw[(aa:(id+1500000) %1000000-500000=id)] at a;simp only[cL] at a;exact⟨f a.1,f a.2.1,f a.2.2⟩
 intro id b l k c;have:=hp.1 a.2 _ c;rw[jO] at this;rcases this with a|a
 ·have:id+1000000*b<1000000:=g8 a;omega
 rw[(aa:(id+1000000*b) %1000000=id)] at a;simp only[cL,jO] at a;refine⟨f a.1,λj=>?_⟩;rcases a.2 with a|a
 ·exact absurd j (f a)
 exact hQ.1 a
def vp (D:bX bU) (G C:X->ak6) (a b:X):bD:=
 match D[a]?,D[b]? with
 |some d,Y c=>d.apart D c&&tF (C b) (dl d++(G a++C a))&&tF (C a) (dl c++G b)&&(r9 (dl d) (G a) (C a) (C b)&&r9 (dl c) (G b) (C b) (C a))
 |_,_=>br
def iZ.yQ (b:iZ ic D G C a i n) {id:X} (m:500000<=id):ay (n.app i).h id=ay i.h id:=by obtain⟨k,c,j⟩:=b;have b:iZ ic D G C a i n:=⟨k,c,j⟩;obtain⟨_,d,e,_⟩:=b.Fs c;exact Nv (λf=>by have:=(d id f).1;omega) (λl g n=>by have:=(e l g).1;omega)
def iZ.tW (d:iZ ic D G C a i n) {id:X} (e:id∉C a):ay (n.app i).h id=ay i.h id:=by
 obtain⟨p,f,o⟩:=d;have d:iZ ic D G C a i n:=⟨p,f,o⟩;obtain⟨_,g,j,_,k,_⟩:=d.Fs f;by_cases c:id<500000/\id+1500000∈C a
 ·exact k id c.1 c.2
 refine Nv (λl=>?_) (λq m n=>?_)
 ·obtain⟨aE,b⟩:=g id l;rcases b with b|b
  ·exact e b.1
  exact c ⟨aE,b⟩
 subst n;obtain⟨aE,b⟩:=j q m;rcases b with b|b
 ·exact e b
 exact c ⟨aE,b⟩
theorem iZ.swap {e:c0} (l:vp D G C r a=bt) (o:iZ ic D G C r i e) (B:iZ ic D G C a (e.app i) n):iZ ic D G C a i n/\iZ ic D G C r (n.app i) e/\k4 (n.app (e.app i)) (e.app (n.app i)):=by
 unfold vp at l;split at l
 case h_2=>cases l
 rename_i a3 a0 ap an;simp only[cL] at l;obtain⟨⟨⟨c2,J⟩,K⟩,ds,d0⟩:=l;have J:=tF.ok J;have K:=tF.ok K;obtain⟨cv,U⟩:=r9.ok ds;obtain⟨c1,V⟩:=r9.ok d0;obtain⟨ce,ci,co⟩:=Oper.apart_spec c2;obtain⟨bs,T,el,em,eq,bx⟩:=o.Fs ap;obtain⟨i1,N,d4,d5,d6,av⟩:=B.Fs an;have d8:∀p∈a0.looksAt D,gt (e.app i).g p=gb e.S e.keep (gt i.g p):=λp A=>Nu λj w z y=>ce j (bs j w z) (y▸A);have d7:∀p∈a3.looksAt D,gt (n.app i).g p=gb n.S n.keep (gt i.g p):=λp A=>Nu λj w z y=>co j (i1 j w z) (y▸A);have L:∀j H t I,n.d=Y (j,H)->e.d=Y (t,I)->j≠t:=λj H t I z dg y=>ci t (bs t I dg) (y▸i1 j H z);have E:∀id,id<1000000->id∈G r\/id∈C r\/a3.dst=Y id->id∉C a:=λid h c s=>J id s h (by
  rcases c with c|c|c
  ·simp[c]
  ·simp[c]
  simp[yU c])
 have bl:∀id,id<1000000->id∈G a\/a0.dst=Y id->id∉C r:=λid h c s=>K id s h (by
  rcases c with c|c
  ·simp[c]
  simp[yU c])
 have d3:∀id,id<1000000->id∈C a->id∉C r:=λid h c s=>E id h (.inr (.inl s)) c;have ek:zY (G a) e.S e.keep:=by
  refine⟨λid k f=>?_,λid k f=>?_,λid k q R l m f M x=>?_⟩
  ·obtain⟨aE,b⟩:=T id k;rcases b with b|b
   ·exact bl id aa (.inl f) b.1
   exact(c1 id aE b).2.1 f
  ·obtain⟨aE,b⟩:=T id k;rcases b with b|b
   ·exact b.2.resolve_left (bl _ aa (.inl f))
   exact bx id 1 (.ref id []) k aE (by rw[(aa:id+1000000*1+500000=id+1500000)];exact b) (bg _) rfl (λd1 x=>.inl (by simpa[bW] using x))
  obtain⟨_,b⟩:=T id k;obtain⟨a4,Q⟩:=V id q l m f;rcases b with b|b
  ·exact absurd b.1 a4
  exact bx id q R k m (Q b) l M x
 have d9:zY (G r) n.S n.keep:=by
  refine⟨λid k f=>?_,λid k f=>?_,λid k q R l m f M x=>?_⟩
  ·obtain⟨aE,b⟩:=N id k;rcases b with b|b
   ·exact E id aa (.inl f) b.1
   exact(cv id aE b).2.1 f
  ·obtain⟨aE,b⟩:=N id k;rcases b with b|b
   ·exact b.2.resolve_left (E _ aa (.inl f))
   exact av id 1 (.ref id []) k aE (by rw[(aa:id+1000000*1+500000=id+1500000)];exact b) (bg _) rfl (λd1 x=>.inl (by grind [bW]))
  obtain⟨_,b⟩:=N id k;obtain⟨a4,Q⟩:=U id q l m f;rcases b with b|b
  ·grind
  exact av id q R k m (Q b) l M x
 have v:iZ ic D G C a i n:=by
  refine B.congr (λO u p A=>?_) (λO u id m=>?_) (λid q l m f=>?_)
  ·grind [Zd]
  ·rw[an] at u;cases u;rcases cY id 500000 with h|h
   ·refine o.tW ?_;rcases m with c|c|c
    ·grind
    ·grind
    grind
   exact o.yQ h
  exact o.tW (V id q l m f).1
 have F:iZ ic D G C r (n.app i) e:=by
  refine o.congr (λO u p A=>?_) (λO u id m=>?_) (λid q l m f=>?_)
  ·grind [Ze]
  ·rw[ap] at u;cases u;rcases cY id 500000 with h|h
   ·exact(v.tW (E id aa m)).symm
   exact(v.yQ h).symm
  exact(v.tW (U id q l m f).1).symm
 refine⟨v,F,?_,λid=>?_⟩
 ·intro p;rw[c0.vb n,c0.vb e (n.app i),c0.vb e i,c0.vb n i];cases dl:e.d with
  |none=>
   cases ad:n.d with
   |none=>grind [FZ]
   |some P=>
    obtain⟨j,w⟩:=P;simp only;split
    ·grind [BE]
    grind [FZ]
  |some d2=>
   obtain⟨t,cs⟩:=d2;cases ad:n.d with
   |none=>
    simp only;split
    ·grind [BE]
    grind [FZ]
   |some P=>
    obtain⟨j,w⟩:=P;have L:j≠t:=L j w t cs ad dl;simp only;by_cases o:j=p
    ·subst o;rw[aB bq,aA (Ne.symm L),aB bq];grind [BE]
    rw[aA o,aA o];split
    ·grind [BE]
    grind [FZ]
 rcases cY id 500000 with h|h
 ·by_cases s:id∈C a
  ·have am:=d3 id aa s;rw[F.tW am,c0.sY n,c0.sY n,o.tW am]
  rw[B.tW s,c0.sY e,c0.sY e,v.tW s]
 rw[B.yQ h,o.yQ h,F.yQ h,v.yQ h]
def iZ.seq {c:aW} (b:k4 i c) (d:iZ ic D G C a i n):iZ ic D G C a c n:=
 d.congr (λ_ _ e _=>.refl (b.g e).symm) (λ_ _ id _=>b.h id) (λid _ _ _ _=>b.h id)
def oJ.seq:∀{c:ak6} {d e f:aW},k4 d e->oJ ic D G C c d f->oJ ic D G C c e f
 |[],_,_,_,a,h=>a.symm.trans h
 |_::_,_,_,_,a,⟨b,g,i⟩=>⟨b,g.seq a,oJ.seq (a.app b) i⟩
def oJ.front {g:X} {h:ak6}:∀{b:ak6} {a d:aW},(∀x∈b,vp D G C x g=bt)->oJ ic D G C (b++g::h) a d->∃c,iZ ic D G C g a c/\oJ ic D G C (b++h) (c.app a) d
 |[],a,d,_,⟨c,e,f⟩=>⟨c,e,f⟩
 |x::b,a,d,i,⟨k,e,f⟩=>by obtain⟨j,o,p⟩:=oJ.front (λq r=>i q ae) f;obtain⟨l,m,n⟩:=iZ.swap (i x ac) e o;exact⟨j,l,k,m,p.seq n⟩
end
end
section
section
variable {ic:hz} {F:bX bU} {i7 iy:X->ak6}
theorem Bz {D:Type} {y:aW->bA D} {C:D}:∀{w:ak6} {b:aW},tQ ic F i7 iy w b y=Y C->∃c,oJ ic F i7 iy w b c/\y c=Y C
 |[],b,a=>⟨b,k4.refl b,a⟩
 |i::w,b,a=>by
  simp only[tQ] at a;split at a
  ·cases a
  rename_i o m;split at a
  ·rename_i A;obtain⟨k,s,t,u⟩:=OO a;obtain⟨c,f,j⟩:=Bz u;exact⟨c,⟨k,⟨o,m,.inl ⟨by grind [ls],s,t⟩⟩,f⟩,j⟩
  rename_i I x A;split at a
  case h_2=>cases a
  rename_i r e G z;split at a
  case h_3=>cases a
  case h_2=>
   rename_i K B;cases l:hI ic.n ic.pin e with
   |false=>grind
   |true=>
   rw[l] at a;obtain⟨c,f,j⟩:=Bz a;refine⟨c,⟨zp e,⟨o,m,.inr ⟨?_,e,z,l,bq⟩⟩,f⟩,j⟩;grind [ls]
  rename_i d B;cases l:hI ic.n ic.pin e with
  |false=>grind
  |true=>
  rw[l] at a;simp only[bI] at a;have p:∀q,d=q->k4 ⟨(r,.val .bool q)::b.g,b.h⟩ b:=λq v=>⟨λJ=>by
   grind [jx],λ_=>rfl⟩
  split at a
  ·rename_i v;obtain rfl:d=x:=ae;obtain⟨k,s,t,u⟩:=OO a;obtain⟨c,f,j⟩:=Bz u;have E:iZ ic F i7 iy i ⟨(r,.val .bool d)::b.g,b.h⟩ k:=by
    refine⟨o,m,.inl ⟨?_,s,t⟩⟩;unfold ls;rw[A];simp only[G,(p d bq).g r,B];simp
   exact⟨c,⟨k,E.seq (p d bq),f.seq ((p d bq).app k)⟩,j⟩
  rename_i v;have H:d=!x:=by cases d<;>cases x<;>first|rfl|cases v
  obtain⟨c,f,j⟩:=Bz a;refine⟨c,⟨zp e,⟨o,m,.inr ⟨?_,e,z,l,bq⟩⟩,f.seq ((p _ H).app (zp e))⟩,j⟩;grind [ls]
structure mi where
 i:X
 d:ak6
 ay:ak6
 ps:ak6
 i7:ak6
 iy:ak6
def tI:ak6->ak6->bD
 |[],[]=>bt
 |a::c,b::d=>bL a b&&tI c d
 |_,_=>br
theorem qG:∀{c d:ak6},tI c d=bt->c=d
 |[],[],_=>rfl
 |a::c,e::d,b=>by simp only[tI,cL] at b;rw[fN b.1,qG b.2]
 |[],_::_,b|_::_,[],b=>by cases b
def qY (F:bX bU) (i7 iy:X->ak6) (a:mi):bD:=match F[a.i]? with
 |some b=>tI (dl b) a.d&&tI (b.looksAt F) a.ay&&tI (qV F a.i) a.ps&&tI (i7 a.i) a.i7&&tI (iy a.i) a.iy
 |none=>br
def Iv (a b:mi):bD:=tE a.d b.ay&&tE a.d b.d&&tE b.d a.ay&&tF b.iy (a.d++(a.i7++a.iy))&&tF a.iy (b.d++b.i7)&&(r9 a.d a.i7 a.iy b.iy&&r9 b.d b.i7 b.iy a.iy)
theorem WW {j h:mi} (b:qY F i7 iy j=bt) (a:qY F i7 iy h=bt) (c:Iv j h=bt):vp F i7 iy j.i h.i=bt:=by
 unfold qY at b a;split at b
 case h_2=>cases b
 rename_i v q;split at a
 case h_2=>cases a
 rename_i u p;simp only[cL] at b a;obtain⟨⟨⟨⟨w,x⟩,D⟩,y⟩,z⟩:=b;obtain⟨⟨⟨⟨i1,r⟩,A⟩,s⟩,t⟩:=a;unfold Iv at c;rw[<-qG w,<-qG x,<-qG y,<-qG z,<-qG i1,<-qG r,<-qG s,<-qG t] at c;simp only[cL] at c;obtain⟨⟨⟨⟨⟨e,f⟩,k⟩,l⟩,m⟩,n,o⟩:=c;unfold vp;simp only[q,p,l,m,n,o,anP];have e:=tE.ok e;have f:=tE.ok f;have k:=tE.ok k;unfold Oper.apart;rw[cL];constructor
 ·cases g:v.dst with
  |none=>rfl
  |some d=>
   have B:=e d (yU g);have C:=f d (yU g);simp only[cL,uG];refine⟨?_,?_⟩
   ·grind
   rw[bne_iff_ne];grind [yU]
 cases g:u.dst with
 |none=>rfl
 |some d=>
  simp_all [Bool.not_eq_true,List.contains_iff_mem,uG,yU]
def l7 (a b:X):bD:=bL (Nat.land (Nat.shiftRight a b) 1) 1
def HZ (a b:X):X:=aoJ a (Nat.shiftLeft 1 b)
theorem Af:l7 a r=bt↔a.testBit r=bt:=by simp_all [amF,alc,fN,Nat.shiftRight_eq_div_pow,Nat.and_one_is_mod,Nat.testBit_eq_decide_div_mod_eq,bL,l7]
theorem NL {b:X} (c:l7 (aoJ r b) a=bt):l7 r a=bt\/l7 b a=bt:=by simp_all [apE,Af]
theorem NK {c:X} (b:l7 (HZ r c) a=bt):l7 r a=bt\/a=c:=by
 rcases NL b with b|b
 ·grind
 simp_all [Af,Nat.shiftLeft_eq,kM,aoK,amF]
theorem Dv (b:l7 0 a=bt):False:=by grind [Af]
def Aa (a:ak8):ak6->X
 |[]=>0
 |p::b=>aoJ (HZ ((l0.ay a p).getD 0) p) (Aa a b)
theorem No {e:ak8}:∀{d:ak6} {b:X},l7 (Aa e d) b=bt->∃p∈d,b=p\/∃c,l0.ay e p=Y c/\l7 c b=bt
 |[],_,a=>(Dv a).elim
 |p::d,b,a=>by
  rcases NL a with a|a
  ·refine⟨p,ac,?_⟩;rcases NK a with a|a
   ·cases g:l0.ay e p with
    |none=>grind [Dv]
    |some c=>grind
   omega
  obtain⟨i,h,f⟩:=No a;grind
def Dy (c:X):X->bp mi->ak8->bp mi->bD
 |_,_,_,[]=>bt
 |sm,d,b,a::f=>
  a.ps.all (λg=>l7 sm g)&&(d.all λe=>l7 (Aa b a.ps) e.i||Iv e a)&&!(l7 sm a.i)&&cg a.i c&&Dy c (HZ sm a.i) (a::d) ((a.i,Aa b a.ps)::b) f
def lJ (a:bp mi):ak6:=a.map (·.i)
def vj (F:bX bU) (i7 iy:X->ak6) (a:bp mi):bD:=a.all (qY F i7 iy)&&Dy F.size 0 [] [] a&&((bK F.size).all λb=>e6 b (lJ a))&&b5 a.length F.size
def CX (F:bX bU) (a:X->Prop):Prop:=∀b,a b->∀c∈qV F b,a c
theorem qY.ps {b:mi} (a:qY F i7 iy b=bt):qV F b.i=b.ps:=by
 unfold qY at a;split at a
 case h_2=>cases a
 simp only[cL] at a;grind [qG]
theorem Iq:∀{q j:bp mi} {o:X} {s:ak8},Dy F.size o j s q=bt->(∀r∈q,qY F i7 iy r=bt)->(∀r∈j,qY F i7 iy r=bt)->(∀h,l7 o h=bt->h∈lJ j)->(∀h∈lJ j,l7 o h=bt)->(∀e v,l0.ay s e=Y v->∀b,CX F b->b e->∀a,l7 v a=bt->b a)->∀f g p,lJ q=f++g::p->(∀e∈qV F g,e∈lJ j\/e∈f)/\(∀b,CX F b->(∀e∈qV F g,b e)->∀a,(a∈lJ j\/a∈f)->¬b a->vp F i7 iy a g=bt)/\g∉lJ j/\g∉f/\g<F.size
 |[],_,_,_,t,_,_,_,_,M,f,g,p,m=>by cases f<;>cases m
 |r::q,j,o,s,t,z,S,d,J,M,f,g,p,m=>by
  simp only[Dy,cL,hp,uG] at t;obtain⟨⟨⟨⟨E,G⟩,x⟩,H⟩,I⟩:=t;have L:=z r ac;have K:=qY.ps L;have x:r.i∉lJ j:=λk=>ae;have N:∀b,CX F b->(∀e∈qV F r.i,b e)->∀a,l7 (Aa s r.ps) a=bt->b a:=(by grind [No]);cases f with
  |nil=>
   cases m;refine⟨λe l=>.inl (d _ (E e (K▸l))),λb n l a c y=>?_,x,ac,g8 H⟩;rcases c with c|c
   ·obtain⟨P,O,rfl⟩:=e1.1 c;have:=G P O;rcases jO _ _▸this with d|d
    ·grind
    grind [WW]
   grind
  |cons Q f=>
   simp only[lJ,ir,oB,iC] at m;obtain⟨rfl,m⟩:=m;obtain⟨B,C,w,R,D⟩:=Iq I (λa c=>z a ae) (λa c=>by
    grind) (λh k=>by
    rcases NK k with k|rfl
    ·exact ht _ (d h k)
    ·exact mU ..) (λh k=>by
    rw[Af];show(o|||(1<<<r.i)).testBit h=bt;rw[apE,jO];rcases gn.1 k with rfl|k
    ·grind
    ·left;exact Af.1 (J h k)) (λe v u b n l a c=>by
    rw[eX] at u;split at u
    ·rename_i A;cases u;subst A;exact N b n (n _ l) a c
    grind) f g p m
   refine⟨λe l=>?_,λb n l a c y=>C b n l a ?_ y,λd=>w (ht _ d),λd=>?_,D⟩
   ·rcases B e l with d|d
    ·rcases gn.1 d with rfl|d
     ·grind
     exact .inl d
    grind
   ·rcases c with c|c
    ·exact .inl (ht _ c)
    rcases gn.1 c with rfl|c
    ·exact .inl (mU ..)
    grind
   rcases gn.1 d with rfl|d
   ·exact w (mU ..)
   grind
variable {E:fY} {C:fb}
theorem iZ.wp (h:ic.ah E C) (d:iZ ic F i7 iy a i n) {b:Act} (g:g0 C i b.tmps t) {next:Act->bH->Prop} (q:∀c j,c.defers=b.defers->g0 C (n.app i) c.tmps j->next c j):wpOp E.P F m a next b t:=by
 obtain⟨w,r,d⟩:=d;obtain⟨k,u,l,e⟩:=id g;unfold wpOp;simp only[r];rcases d with⟨f,o,_⟩|⟨f,v,p,s,rfl⟩
 ·rw[f.ok e,aB bq];refine .inl (ON h o b t g _ _ ?_);grind
 rw[f.ok e,aA ac,p];exact q _ t bq ⟨k,u,l,e.put (hI.ok h s) (.eN bZ)⟩
def left (a:ak6) (c:bX bD):ak6:=a.filter λb=>!c.getD b bt
theorem P5 {b:bX bD} {c:ak6} (g:left e b=y++a::c) (h:a∉y) (i:a∉c) (j:a<b.size):left e (b.setIfInBounds a bt)=y++c:=by
 have:left e (b.setIfInBounds a bt)=(left e b).filter λd=>!(d==a):=by
  unfold left;rw[C3];refine qc λd _=>?_;by_cases f:a=d
  ·simp_all
  rw[aoL bt f];grind
 grind [amA,List.filter_cons_of_neg]
theorem Lr (c:F[a]?=Y h):r∈qV F a↔∃b∈h.after,aoI .any b=bt/\b.on=r:=by grind [qV]
theorem VR (d3:ic.ah E C) {R:bp mi} (dg:e=lJ R) (r:vj F i7 iy R=bt) {t:aW} {ds:bp Deferred} (am:∀d g,d.defers=ds->g0 C t d.tmps g->m .normal d g):∀(q:X) (a:bX bD) (d:Act) (g:bH) (w:aW),a.size=F.size->(left e a).length<=q->CX F (λf=>a.getD f bt=bt/\f<F.size)->oJ ic F i7 iy (left e a) w t->g0 C w d.tmps g->d.defers=ds->wpAny E.P .any F m q a d g:=by
 unfold vj at r;simp only[cL,hp,hN] at r;obtain⟨⟨⟨el,r⟩,an⟩,_⟩:=r;have I:=Iq r el ac (λf d4=>(Dv d4).elim) (by simp[lJ]) (λH f4 c=>by cases c);rw[<-dg] at I an;have Q:∀i,i<F.size->i∈e:=λi M=>hQ.1 (an i M);have ft:∀{a:bX bD} {f:X},a.size=F.size->f<F.size->a.getD f bt=bt->a.getD f br=bt:=ae;have a4:∀{a:bX bD} {i:X},a.size=F.size->i∈aoM .any F a->i<F.size/\a.getD i bt=br/\∃n,F[i]?=Y n/\∀b∈n.after,aoI .any b=bt->a.getD b.on br=bt:=(by grind [Array.getElem?_eq_some_iff,mem_ready]);have first:∀{a:bX bD} {i:X} {K:ak6},a.size=F.size->left e a=i::K->i∈aoM .any F a:=by
  intro a i K D N;have u:i∈left e a:=ae;have d2:i∈e:=(h4.1 u).1;have em:a.getD i bt=br:=(by simpa using(h4.1 u).2);obtain⟨h,o,z⟩:=zM d2;obtain⟨ci,_,_,x,cs⟩:=I h i o z;obtain⟨n,v⟩:∃n,F[i]?=some n:=⟨_,Hs cs⟩;refine mem_ready.2 ⟨em,n,v,λb k s=>?_⟩;have p:b.on∈qV F i:=(Lr v).2 ⟨b,k,s,bq⟩;have fT:b.on∈h:=by
   rcases ci _ p with c|c
   ·cases c
   omega
  have f1:∀j∈h,a.getD j bt=bt:=by
   intro j G;cases eq:a.getD j bt with
   |true=>rfl
   |false=>
    obtain⟨J,bl,ad⟩:=zM G;have:left e a=left J a++j::(left bl a++left (i::o) a):=(by show am6 _ e=_;rw[z,ad];simp only[left,qb,qd,eq,jd,oB];rfl);rw[N] at this;cases c2:left J a with
    |nil=>grind
    |cons f5 fn=>
     rw[c2] at this;cases this;have:i∈left J a:=ae;exact absurd (by rw[ad];exact oF _ (h4.1 this).1) x
  have a3:b.on<F.size:=(by have:b.on∈e:=ae;obtain⟨fr,fs,fz⟩:=zM this;grind);grind
 intro q
 induction q with
 |zero=>
  intro a d g w D d6 L l A B;have d8:left e a=[]:=List.length_eq_zero_iff.1 aa;rw[d8] at l;refine⟨?_,am d g B (A.seq l)⟩;cases ek:aoM .any F a with
  |nil=>rfl
  |cons i fn=>
   obtain⟨y,cv,_⟩:=a4 D (i:=i) ae;have:i∈left e a:=h4.2 ⟨Q i y,ae⟩;grind
 |succ q fl=>
  intro a d g w D d6 L l A B;constructor
  ·intro ek;cases N:left e a with
   |nil=>rw[N] at l;exact am d g B (A.seq l)
   |cons i K=>
    grind
  intro i M;obtain⟨y,cv,n,v,T⟩:=a4 D M;have u:i∈left e a:=h4.2 ⟨Q i y,ae⟩;obtain⟨h,o,z⟩:=zM (Q i y);obtain⟨_,co,_,x,_⟩:=I h i o z;have ap:i∉o:=(by intro u;obtain⟨bs,bx,f0⟩:=zM u;have:=(I (h++i::bs) i bx ae).2.2.2.1;grind);have O:left e a=left h a++i::left o a:=(by grind [left,am6]);have d0:∀j∈left h a,vp F i7 iy j i=bt:=(by intro j G;obtain⟨ex,f3⟩:=h4.1 G;refine co _ L (λH p=>?_) j (.inr ex) (λG=>by grind);obtain⟨b,k,s,rfl⟩:=(Lr v).1 p;have U:=T b k s;have a3:b.on<a.size:=ae;grind);rw[O] at l;obtain⟨b,k,f2⟩:=oJ.front d0 l;refine k.wp d3 A (λce fp d1 dl=>fl _ ce fp (b.app w) ae ?_ ?_ ?_ dl (d1.trans B))
  ·rw[P5 O (λc=>x (h4.1 c).1) (λc=>ap (h4.1 c).1) aa];grind
  ·intro f ⟨av,d5⟩ H p;by_cases a0:i=f
   ·subst a0;obtain⟨b,k,s,rfl⟩:=(Lr v).1 p;have U:=T b k s;have a3:b.on<a.size:=by
     grind
    have V:=getD_set_true (i:=i) U;refine⟨?_,aa⟩;have d7:b.on<(a.setIfInBounds i bt).size:=ae;have ax:∀S,(a.setIfInBounds i bt).getD b.on S=(a.setIfInBounds i bt)[b.on]:=λS=>(by simp only[Array.getD,d7,dif_pos];rfl);grind
   rw[aoL bt a0] at av;obtain⟨V,c1⟩:=L f ⟨av,d5⟩ H p;refine⟨?_,c1⟩;by_cases d9:i=H
   ·grind
   rw[aoL bt d9];exact V
  rw[P5 O (λc=>x (h4.1 c).1) (λc=>ap (h4.1 c).1) aa];omega
theorem J.draw (A:E.P.follows .mixedOrders=bt) (y:ic.ah E C) {g:aW->bA f} {h:f} {id:X} {a:bp mi} (b:vj F i7 iy a=bt) (d:tQ ic F i7 iy (lJ a) i g=Y h) (r:∀j,g j=Y h->v .normal j):J E C (.region id F bt) i v:=by
 obtain⟨c,K,p⟩:=Bz d;intro n H e u;refine wp_region_any A ?_;have L:left (lJ a) (aow F.size br)=lJ a:=(by refine oD.2 λB x=>?_;unfold vj at b;simp only[cL,hp] at b;obtain⟨k,l,q⟩:=zM x;have:=(Iq b.1.1.2 b.1.1.1 ac (λD z=>(Dv z).elim) (by simp[lJ]) (λQ R d=>by cases d) k B l q).2.2.2.2;simp_all);have O:(lJ a).length<=F.size:=(by simp_all [g8,di,cL,lJ,vj]);refine VR y bq b (t:=c) (ds:=[]) (λI S w s=>⟨c,r c p,s,w⟩) F.size _ n _ i ac ae ?_ ae ?_ u
 ·intro D ⟨M,N⟩;simp_all
 obtain⟨m,G,o,e⟩:=e;exact⟨m,G,o,e.YF (hL.refl H).drew⟩
end
end
section
def kA:bp bd->ao->ao
 |[],e=>kj e
 |.deref::a,.optr d=>.optr (kA a d)
 |.unst::a,.st d=>.st (kA a d)
 |.fst::a,.pr b c=>.pr (kA a b) c
 |.snd::a,.pr b c=>.pr b (kA a c)
 |_,e=>e
def o2:bp bd->ao->bD
 |[],e=>r3 e
 |.deref::a,.optr b|.unst::a,.st b=>o2 a b
 |.fst::a,.pr c _=>o2 a c
 |.snd::a,.pr _ d=>o2 a d
 |_,_=>br
def v7:∀(a:bp bd) (e:ao),o2 a e=bt->(kA a e).den=e.den
 |[],e,_=>r5 e
 |.deref::a,.optr f,b|.unst::a,.st f,b=>v7 a f b
 |.fst::a,.pr c d,b=>by show((kA a c).den×d.den)=(c.den×d.den);rw[v7 a c b]
 |.snd::a,.pr c d,b=>by show(c.den×(kA a d).den)=(c.den×d.den);rw[v7 a d b]
def yA:∀(a:bp bd) (c:ao),o2 a c=bt->(kA a c).size=c.size
 |[],c,_=>tO c
 |.deref::a,.optr f,b=>rfl
 |.unst::a,.st f,b=>yA a f b
 |.fst::a,.pr d e,b=>by simp only[kA,alA,yA a d b]
 |.snd::a,.pr d e,b=>by simp only[kA,alA,yA a e b]
def o1 (b:bp bd) (a:ao) (c:o2 b a=bt) (d:a.den):(kA b a).den:=cast (v7 b a c).symm d
theorem Cm {E:eW->X->Prop} {w:bH}:∀{p:bp bd} {τ:ao} {m:ak0} {x:τ.den} {h:ak6} (c:o2 p τ=bt),a5 E w τ m x h->h.Nodup->∃f f2:ak6,(∀a,a∈h↔a∈f\/a∈f2)/\(∀a∈f,a∉f2)/\f.Nodup/\∀g:eW->X->Prop,(∀o a,E o a->g o a)->(∀a∈f2,g .bo a)->a5 g w (kA p τ) m (o1 p τ c x) f
 |[],τ,m,x,h,c,i,e=>⟨[],h,ac,ac,List.nodup_nil,λg j n=>wO j c i n⟩
 |.deref::p,.optr y,m,x,h,c,i,e=>by
  obtain⟨a,L,l,G,r,rfl,H,I,J,K⟩:=i;rw[lx] at e;obtain⟨f,f2,aE,s,t,u⟩:=Cm (p:=p) (τ:=y) c K e.2;refine⟨a::f,f2,λb=>by simp only[gn,aE];grind,λb d=>?_,?_,λg j n=>?_⟩
  ·rcases gn.1 d with rfl|d
   ·exactλl=>e.1 ((aE b).2 (.inr l))
   exact s b d
  ·rw[lx];exact⟨λl=>e.1 ((aE a).2 (.inl l)),t⟩
  have F:=yA p y c;exact⟨a,L,f,G,r,bq,by rw[F];exact H,I,by rw[F];exact J,u g j n⟩
 |.unst::p,.st y,m,x,h,c,i,e=>Cm (p:=p) (τ:=y) (x:=x) c i e
 |.fst::p,.pr k a,m,x,h,c,i,e=>by
  obtain⟨z,A,rfl,r,B⟩:=i;rw[j3] at e;obtain⟨f,f2,aE,s,t,u⟩:=Cm (p:=p) (τ:=k) c r e.1;refine⟨f++A,f2,λb=>by simp only[hM,aE];grind,λb d=>?_,?_,λg j n=>?_⟩
  ·rcases hM.1 d with d|d
   ·exact s b d
   exactλl=>e.2.2 b ((aE b).2 (.inr l)) b d bq
  ·rw[j3];exact⟨t,e.2.1,λb d v D=>e.2.2 b ((aE b).2 (.inl d)) v D⟩
  have q:o1 (.fst::p) (.pr k a) c x=(o1 p k c x.1,x.2):=Im (v7 p k c).symm bq _ x;refine⟨f,A,bq,?_,?_⟩
  ·rw[yA p k c,q];exact u g j n
  rw[yA p k c,q];exact B.mono (λo a C=>⟨j o a C,ald _ _⟩) λ_ _=>ald _ _
 |.snd::p,.pr k a,m,x,h,c,i,e=>by
  obtain⟨z,A,rfl,r,B⟩:=i;rw[j3] at e;obtain⟨f,f2,aE,s,t,u⟩:=Cm (p:=p) (τ:=a) c B e.2.1;refine⟨z++f,f2,λb=>by simp only[hM,aE];grind,λb d=>?_,?_,λg j n=>?_⟩
  ·rcases hM.1 d with d|d
   ·exactλl=>e.2.2 b d b ((aE b).2 (.inr l)) rfl
   exact s b d
  ·rw[j3];exact⟨e.1,t,λb d v D=>e.2.2 b d v ((aE v).2 (.inl D))⟩
  have q:o1 (.snd::p) (.pr k a) c x=(x.1,o1 p a c x.2):=Im bq (v7 p a c).symm _ x;refine⟨z,f,bq,?_,?_⟩
  ·rw[q];exact r.mono (λo a C=>⟨j o a C,ald _ _⟩) λ_ _=>ald _ _
  rw[q];exact u g j n
def qI (id:X):au->au
 |.ref b []=>.ref b []
 |a=>bif a.fK [id] then .dead else a
def JL (id:X) (b:bp bd) (a:aT) (d:o2 b a.1=bt) (st:aW):aW:=⟨st.g.map λc=>(c.1,qI id c.2),(id,⟨kA b a.1,o1 b a.1 d a.2⟩)::del [id] st.h⟩
def Yp (id:X) (a:au):(∃b,a=.ref b []/\qI id a=.ref b [])\/(qI id a=.dead)\/(qI id a=a/\a.fK [id]=br):=by
 have d:∀a:au,qI id a=(bif a.fK [id] then .dead else a)->(∃b,a=.ref b []/\qI id a=.ref b [])\/(qI id a=.dead)\/(qI id a=a/\a.fK [id]=br):=by
  intro a c;cases e:a.fK [id] with
  |true=>rw[e] at c;exact .inr (.inl c)
  |false=>rw[e] at c;exact .inr (.inr ⟨c,bq⟩)
 cases a with
 |ref b f=>
  cases f with
  |nil=>exact .inl ⟨b,bq,bq⟩
  |cons g f=>exact d _ rfl
 |_=>exact d _ rfl
def Yq:∀(a:bp bd) (c:ao) (b:ak0),a≠[]->o2 a c=bt->eY (kA a c) b=eY c b
 |[],_,_,h,_=>absurd rfl h
 |.deref::a,.optr f,b,_,_|.unst::a,.st f,b,_,_|.fst::a,.pr d e,b,_,_|.snd::a,.pr d e,b,_,_=>rfl
section
variable {C:fb} {st:aW} {A:akY} {w:bH}
def c6.Yj (q:c6 C st A w x T U) {id:X} {a:aT} (J:l≠[]) (n:ay st.h id=Y a) (d:o2 l a.1=bt):g0 C (JL id l a d st) A w:=by
 obtain⟨P,Q,v⟩:=q.tree id a n;obtain⟨y,f2,aE,L,N,O⟩:=Cm d P Q;have G:∀o b,cG x C.B o b->cG (λb=>x b\/b∈f2) C.B o b:=by
  intro o b c;cases o
  ·exact .inl c
  exact c.imp .inl (λd=>d)
 have D:=q.eK (S:=[id]) (keep:=[]) (new:=[(id,⟨kA l a.1,o1 l a.1 d a.2⟩)]) (rtn:=T) (fpn:=λ_=>y) (w':=w) (I':=λb=>x b\/b∈f2) ⟨bg _,bq,bq,bq,λ_ _ _=>rfl,λ_ _=>.refl _ _,λ_ d=>.inl d,λb c=>c.imp (λd=>d) λc=>⟨(v b ((aE b).2 (.inr c))).2.2.1,.inr ⟨id,ac,a,n,(aE b).2 (.inr c)⟩⟩,(λe R f=>by
    rw[eX] at f;split at f
    ·rename_i i;subst i;cases f;refine⟨.inl ac,O _ G (λb c=>.inr c),N,λb c=>⟨λm=>?_,(v b ((aE b).2 (.inl c))).2.2.1,.inr ⟨id,ac,a,n,(aE b).2 (.inl c)⟩⟩⟩;rcases m with m|m
     ·exact(v b ((aE b).2 (.inl c))).1 m
     exact L b c m
    cases f),
   (λe ad R V f s z=>by
    rw[eX] at f s;split at f
    ·split at s
     ·omega
     cases s
    cases f),(λi r=>by cases r),(λi r=>by cases r)⟩
 refine⟨_,_,_,{D with tmp:=λj=>?_}⟩;have u:=q.tmp j;have k:=D.tmp j;rw[show gt (aW.mk (alF [id] [] st.g) ([(id,⟨kA l a.1,o1 l a.1 d a.2⟩)]++del [id] st.h)).g j=gb [id] [] (gt st.g j) from sb _ _ _ _] at k;have H:gt (JL id l a d st).g j=qI id (gt st.g j):=JU (qI id) rfl st.g j;rw[H];generalize gt st.g j=F at u k;generalize A.getD j bZ=V at u k;rcases Yp id F with⟨e,rfl,i⟩|i|⟨i,K⟩
 ·rw[i];by_cases f:e=id
  ·subst f;cases u with|ref E I=>
   rw[n] at E;cases E;obtain⟨rfl,rfl,rfl⟩:=alE.1 I;have:=c8.ref (M:=cG (λb=>x b\/b∈f2) C.B) (w:=w) (h:=[(e,(⟨kA l a.1,o1 l a.1 d a.2⟩:aT))]++del [e] st.h) (rt:=fA [(e,(⟨kA l a.1,o1 l a.1 d a.2⟩:aT))] T T) (fp:=fA [(e,(⟨kA l a.1,o1 l a.1 d a.2⟩:aT))] (λ_=>y) U) (id:=e) (p:=[]) (t:=⟨kA l a.1,o1 l a.1 d a.2⟩) (τ':=kA l a.1) (loc:=bv) (cs:=T e)
    (by rw[zV,eX,aB bq]) (alE.2 ⟨bq,bq,by unfold fA;split<;>rfl⟩)
   rw[Yq l a.1 _ J d] at this;exact this
  have c:bL id e=br:=by
   cases c:bL id e with
   |false=>rfl
   |true=>exact absurd (fN c).symm f
  have z:(au.ref e []).fK [id]=br:=(by simp[alm,bW,e6,c]);rw[Mr z] at k;exact k
 ·rw[i];exact .dead _
 rw[i];rw[Mr K] at k;exact k
end
end
section
section
variable {E:fY} {C:fb} {ic:hz}
def zJ.store (g:zJ p d) {w:bH} {b o:X} {v:Value} (k:v.cells=#[v]) (h:v.oneCell'=bt) (e:jb w b o (o+1)):(storeVar d ⟨b,o,bv⟩ v).run p w=.ok () (w.setCells b o [v]):=by obtain⟨n,x,m,aE,l,q,r,s,t⟩:=g;have j:=run_storeCells_cells (P:=p) b o [v] 0 w (λc a=>by simpa using(e (o+c) aa (by simp at a;omega)).1) (λc a=>by simpa using(e (o+c) aa (by simp at a;omega)).2) (λu f=>by rw[fH] at f;subst f;exact h);have i:(alY d).run p w=.ok 1 w:=(by simp[alY,alN,aE,l]);simp only[storeVar,k,b8,i,cd];simpa using j
def Mt (a:h.guard=bv) (b:X->bA bD):anM h b=bt:=by unfold anM;rw[a]
end
end
section
def Ij (ic:hz) (q:bX bU) (c:aW):bA aW:=
 match q.toList with
 |[d,e,f]=>match d.guard,e.guard,f.guard with
  |none,bv,bv=>match d.op,d.dst,e.op,e.dst,f.op,f.dst with
   |.makeFunc (.func k) p j,Y b,.alloc i,Y a,.store l (.tmp m) (.tmp o),bv=>match ay ic.tt i with
    |some (.fn _ _)=>bif (bL i l&&(bL a m&&(bL b o&&!(bL a b))))&&(p.isEmpty&&(hI ic.n ic.pin a&&hI ic.n ic.pin b)) then
     Y ⟨(a,.hY (.eM k (j.toList.map (bc c.g))))::(b,.eM k (j.toList.map (bc c.g)))::c.g,c.h⟩ else bv
    |_=>bv
   |_,_,_,_,_,_=>bv
  |_,_,_=>bv
 |_=>bv
section
variable {E:fY} {C:fb} {ic:hz}
theorem J.Aj (am:ic.ah E C) {M:bX bU} {id:X} {ap:aW} {O:ca->aW->Prop} (f:Ij ic M i=Y ap) (ex:O .normal ap):J E C (.region id M br) i O:=by
 have an:=λa3=>hI.ok am (d:=a3);have fr:=am.1;unfold Ij at f;split at f
 case h_2=>cases f
 rename_i r s t hw;split at f
 case h_2=>cases f
 rename_i dg dl ds;split at f
 case h_2=>cases f
 rename_i a Q q m k l a4 bl cs fT cv i1 c1 i2 c2;split at f
 case h_2=>cases f
 rename_i i0 kd z;cases hcond:(bL k a4&&(bL l bl&&(bL m cs&&!(bL l m))))&&(Q.isEmpty&&(hI ic.n ic.pin l&&hI ic.n ic.pin m)) with
 |false=>grind
 |true=>
 rw[hcond] at f;simp only[bI,fc] at f;subst f;simp only[cL] at hcond;obtain⟨⟨bs,bx,ce,gi⟩,gl,ci,co⟩:=hcond;obtain rfl:=fN bs;obtain rfl:=fN bx;obtain rfl:=fN ce;have hv:¬l=m:=λgo=>ae;have U:=an _ ci;have ad:=an _ co;rw[fr] at z;obtain⟨ft,i3,i8,kg,f6,f7,_,f8,f9⟩:=E.ok k _ z;have z:zJ E.P k:=⟨ft,.nilFunc,_,f6,f7,f8,bq,f9,bq⟩;have jp:amq.cells.size=1:=rfl;have el:Q=#[]:=ae;subst el;obtain rfl:M=#[r,s,t]:=ae;rintro e w ⟨F,N,H,I⟩ d6;have gc:(#[r,s,t]:bX bU)[0]?=Y r:=rfl;have ge:(#[r,s,t]:bX bU)[1]?=Y s:=rfl;have gf:(#[r,s,t]:bX bU)[2]?=Y t:=rfl;have f3:(bT e.eval r).run E.P w=.ok (.value (.func (.func a) #[] (q.map e.eval))) w:=(by simp[bT,fT,Instr.makeFunc]);have io:q.toList.length=(q.map e.eval).size:=ac;have fs:∀(x:X) (y:Value),(q.map e.eval)[x]?=Y y->∃D,q.toList[x]?=Y D/\y=e.eval D:=λx y hs=>ae;generalize q.map e.eval=c at*;generalize K:e.put (Y m) (.func (.func a) #[] c)=u;have hi:m<e.tmps.size:=(by rw[I.n];exact ad.1);have gt:l<e.tmps.size:=(by rw[I.n];exact U.1);have fn:u.tmps=e.tmps.setIfInBounds m (.func (.func a) #[] c):=(by rw[<-K];rfl);have d7:u.defers=e.defers:=(by rw[<-K];rfl);have f4:(bT u.eval s).run E.P w=.ok (.value (.pointer (Y ⟨w.heap.size,0,bv⟩))) (w.alloc (.cells amq.cells k)):=(by simp_all [bT,Instr.alloc,alL,alN,newVar,alU]);generalize L:u.put (Y l) (.pointer (Y ⟨w.heap.size,0,bv⟩))=p;have fp:p.tmps=u.tmps.setIfInBounds l (.pointer (Y ⟨w.heap.size,0,bv⟩)):=(by rw[<-L];rfl);have d8:p.defers=u.defers:=(by rw[<-L];rfl);have d5:p.tmps.getD l bZ=.pointer (Y ⟨w.heap.size,0,bv⟩):=ag;have d9:p.tmps.getD m bZ=.func (.func a) #[] c:=ag;have hc:((w.alloc (.cells amq.cells k)).cell? ⟨w.heap.size,0,bv⟩).isSome=bt:=ag;have fl:(w.alloc (.cells amq.cells k)).heap.size=w.heap.size+1:=ag;have ek:jb (w.alloc (.cells amq.cells k)) w.heap.size 0 (0+1):=aoE aa;have A:hL w (w.alloc (.cells amq.cells k)):=al0 w _;generalize is:w.alloc (.cells amq.cells k)=j at*;have f5:(bT p.eval t).run E.P j=.ok .skip (j.setCells w.heap.size 0 [.func (.func a) #[] c]):=(by have ib:=z.store (w:=j) (b:=w.heap.size) (o:=0) (v:=.func (.func a) #[] c) rfl rfl ek;have ax:p.eval (.tmp l)=.pointer (Y ⟨w.heap.size,0,bv⟩):=d5;have gs:p.eval (.tmp m)=.func (.func a) #[] c:=d9;simp_all [bT,Instr.storeAt,amz]);have fz:∀G:ca->Act->bH->Prop,G .normal p (j.setCells w.heap.size 0 [.func (.func a) #[] c])->wpOps E.P #[r,s,t] G [0,1,2] e w:=(by intro G d2;simp only[wpOps,gc,ge,gf];rw[aB (Mt dg _)];refine .inl ?_;unfold alJ;rw[f3,apF,cv,K,aB (Mt dl _)];refine .inl ?_;rw[f4,apF,c1,L,aB (Mt ds _)];refine .inl ?_;rw[f5,Oper.upon_skip,c2];exact d2);refine wp_region (fz _ ?_);have eq:(j.setCells w.heap.size 0 [.func (.func a) #[] c]).cell? ⟨w.heap.size,0,bv⟩=Y (.func (.func a) #[] c):=
  am5 w.heap.size [.func (.func a) #[] c] 0 j (λix hr=>by
   grind) 0 ac
 have em:hL w (j.setCells w.heap.size 0 [.func (.func a) #[] c]):=(by obtain⟨f0,f1,f2⟩:=pW w.heap.size [.func (.func a) #[] c] 0 j;exact⟨f0.trans A.os,f1.trans A.tape,f2.trans A.output,by grind [uw],λb d4=>(zl _ _ _ _ _ aa).trans (A.heap b d4)⟩);have ii:(j.setCells w.heap.size 0 [.func (.func a) #[] c]).heap.size=w.heap.size+1:=(by rw[uw,fl]);generalize j.setCells w.heap.size 0 [.func (.func a) #[] c]=a0 at*;have T:c6 C i e.tmps a0 (λb=>F b\/b=w.heap.size) N H:=by
  have:=I.ext (I':=λb=>F b\/b=w.heap.size) (rtn:=N) (fpn:=H) em (λ_ d0=>.inl d0) (by
   grind) (new:=[]) .nil
  exact this
 have V:c8 (cG (λb=>F b\/b=w.heap.size) C.B) a0 i.h N H (.eM a (q.toList.map (bc i.g))) (.func (.func a) #[] c):=(by refine .eM ae (λx av y R d1=>?_);obtain⟨D,aE,rfl⟩:=fs x y d1;rw[jQ,aE] at R;cases R;exact T.bc D);have d3:=(T.put ad V);have S:=d3.put U (av:=.hY (.eM a (q.toList.map (bc i.g)))) (v:=.pointer (Y ⟨w.heap.size,0,bv⟩)) (.hY (.inr bq) eq bq V);rw[<-fn,<-fp] at S;exact⟨_,ex,⟨_,_,_,S⟩,d8.trans (d7.trans d6)⟩
end
end
section
inductive Hz where
 |none
 |x (l:ak6) (CA:nT)
 |w4 (l:ak6) (CA:nT)
inductive HA where
 |r
 |x (id:X) (CA:nT)
 |w4 (id:X) (CA:nT)
inductive mO where
 |leaf
 |one (a:mO)
 |two (j:Hz) (a b:mO)
 |loop (CA:nT) (m:HA) (a:mO)
 |keep (l:ak6) (a:mO)
 |qJ (F:ak6) (a:mO)
 |fp (id:X) (p:bp bd) (a:mO)
 |draw (L:bp mi)
 |Aj
def FM:bp mi->X->ak6
 |[],_=>[]
 |r::b,a=>bif bL r.i a then r.i7 else FM b a
def Gg:bp mi->X->ak6
 |[],_=>[]
 |r::b,a=>bif bL r.i a then r.iy else Gg b a
def NQ {A:Type} (id:X) (b:ca->aW->bA A):ca->aW->bA A
 |.exit c,a=>match bL c id with
  |true=>b .normal a
  |false=>b (.exit c) a
 |e,a=>b e a
def Y8 {a:Type} (c:aW->bA a):ca->aW->bA a
 |.normal,b=>c b
 |_,_=>bv
def Y9 {b A:Type} (d:aW->bA b) (c:ca->aW->bA A):ca->aW->bA (b⊕A)
 |.normal,a=>(d a).map .inl
 |e,a=>(c e a).map .inr
def Cx {A:Type} (c:aW->bA A) (b:ca->aW->bA A):ca->aW->bA A
 |.normal,a=>c a
 |e,a=>b e a
def ZV {b A:Type} (d:aW->bA b) (c:ca->aW->bA A):ca->aW->bA (b⊕A)
 |.normal,a=>(d a).map .inl
 |e,a=>(c e a).map .inr
def Qn {b c:Type} (e:aW->bA b) (id:X) (f:aW->bA c):ca->aW->bA (b⊕c)
 |.normal,a=>(e a).map .inl
 |.exit d,a=>match bL d id with
  |true=>(f a).map .inr
  |false=>bv
 |_,_=>bv
def Qo {f g A:Type} (h:aW->bA f) (id:X) (i:aW->bA g) (c:ca->aW->bA A):ca->aW->bA (f⊕(g⊕A))
 |.normal,a=>(h a).map .inl
 |.exit d,a=>match bL d id with
  |true=>(i a).map λb=>.inr (.inl b)
  |false=>(c (.exit d) a).map λb=>.inr (.inr b)
 |e,a=>(c e a).map λb=>.inr (.inr b)
def h8:hz->mO->cA->aW->(A:Type)->(ca->aW->bA A)->bA A
 |ic,.leaf,d,a,_,b=>match d with
  |.skip=>b .normal a
  |.exit id=>b (.exit id) a
  |.ret=>b .ret a
  |.region _ l br=>lI ic l (bK l.size) a (b .normal)
  |_=>bv
 |ic,.one e,d,a,A,b=>match d with
  |.block id j=>h8 ic e j a A (NQ id b)
  |_=>bv
 |ic,.two w e q,d,a,A,b=>match d with
  |.seq j p=>match w with
   |.none=>h8 ic e j a A (Cx (λf=>h8 ic q p f A b) b)
   |.x k c=>match tS a.g k with
    |some i=>(h8 {ic with pin:=k++ic.pin,kg:=i++ic.kg} e j a c.den (Y8 (proj c))).bind λm=>h8 ic q p (vU {ic with pin:=k++ic.pin,kg:=i++ic.kg} c m) A b
    |none=>bv
   |.w4 k c=>match tS a.g k with
    |some i=>(h8 {ic with pin:=k++ic.pin,kg:=i++ic.kg} e j a (c.den⊕A) (Y9 (proj c) b)).bind λ
     |.inl m=>h8 ic q p (vU {ic with pin:=k++ic.pin,kg:=i++ic.kg} c m) A b
     |.inr i=>Y i
    |none=>bv
  |.cond t j p=>match bc a.g t with
   |.val .bool z=>match z with
    |true=>h8 ic e j a A b
    |false=>h8 ic q p a A b
   |_=>bv
  |_=>bv
 |ic,.loop c y e,d,a,A,b=>match d with
  |.loop j=>(proj c a).bind λu=>match y with
   |.r=>(loop (λf=>h8 ic e j (vU ic c f) (c.den⊕A) (ZV (proj c) b)) u).bind Y
   |.x id n=>(loop (λf=>h8 ic e j (vU ic c f) (c.den⊕n.den) (Qn (proj c) id (proj n))) u).bind λm=>b (.exit id) (vU ic n m)
   |.w4 id n=>(loop (λf=>h8 ic e j (vU ic c f) (c.den⊕(n.den⊕A)) (Qo (proj c) id (proj n) b)) u).bind λ
    |.inl m=>b (.exit id) (vU ic n m)
    |.inr i=>Y i
  |_=>bv
 |ic,.draw o,d,a,_,b=>match d with
  |.region _ l bt=>bif vj l (FM o) (Gg o) o then tQ ic l (FM o) (Gg o) (lJ o) a (b .normal) else bv
  |_=>bv
 |ic,.Aj,d,a,_,b=>match d with
  |.region _ l br=>match Ij ic l a with
   |some f=>b .normal f
   |none=>bv
  |_=>bv
 |ic,.qJ v e,d,a,A,b=>bif n2 a.h v then h8 ic e d (tN v a) A b else bv
 |ic,.fp id s e,d,a,A,b=>match ay a.h id,s with
  |some t,f::s=>if h:o2 (f::s) t.1=bt then h8 ic e d (JL id (f::s) t h a) A b else bv
  |_,_=>bv
 |ic,.keep k e,d,a,A,b=>match tS a.g k with
  |some i=>h8 {ic with pin:=k++ic.pin,kg:=i++ic.kg} e d a A b
  |none=>bv
section
variable {E:fY} {C:fb} {ic:hz} {A:Type}
theorem J.post {j:bp (X×au)} (t:p9 C j) {e:cA} (l:J E C e i (λf c=>v f c\/∃(d a:aW),v f d/\d=⟨j++a.g,a.h⟩/\pC a.g c/\pD a.h c/\m6 a.g a.h=bt)):J E C e i v:=
 λk u r s=>wp_mono (l k u r s) (λ_ _ _ ⟨c,b,p,q⟩=>by
  rcases b with b|⟨d,a,b,rfl,m,n,o⟩
  ·grind
  exact⟨_,b,(p.Ap m n o).kg t,q⟩)
theorem mE:∀{am:mO} {C:fb} {ic:hz} {m:cA} {j:aW} {A:Type} {k:ca->aW->bA A} {r:A} {l:ca->aW->Prop},ic.ah E C->h8 ic am m j A k=Y r->(∀e i,k e i=Y r->l e i)->J E C m j l
 |.leaf,C,ic,m,j,A,k,r,l,b,a,d=>by
  simp only[h8] at a;split at a
  ·grind [J.skip]
  ·grind [J.exit]
  ·grind [J.ret]
  ·grind [J.region,YR]
  grind
 |.one q,C,ic,m,j,A,k,r,l,b,a,d=>by
  simp only[h8] at a;split at a
  ·refine J.block (mE b a ?_);intro e i c;cases e with
   |exit M=>
    grind [Ih,NQ]
   |_=>exact d _ _ c
  grind
 |.two M q cv,C,ic,m,j,A,k,r,l,b,a,d=>by
  simp only[h8] at a;split at a
  ·rename_i x cs;refine J.seq ?_;split at a
   ·refine mE b a ?_;intro e i c;cases e with
    |normal=>exact mE b c d
    |_=>exact d _ _ c
   ·rename_i D F;split at a
    case h_2=>cases a
    rename_i Q L;obtain⟨n,B,a⟩:=fh.1 a;refine J.keep b.2.2.2.2 L (λS s t o u v=>J.post o (mE (ic:={ic with pin:=D++ic.pin,kg:=Q++ic.kg}) ⟨b.1,b.2.1.trans s.symm,by rw[t,<-b.2.2.1],⟨b.2.2.2.1.1,u _ b.2.2.2.1.2.1,b.2.2.2.1.2.2.1,v b.2.2.2.1.2.2.2.1,b.2.2.2.1.2.2.2.2⟩,o⟩ B ?_));intro e i c;cases e with
    |normal=>exact .inr ⟨_,_,mE b a d,bq,uo c⟩
    |_=>cases c
   rename_i D F;split at a
   case h_2=>cases a
   rename_i Q L;obtain⟨n,B,a⟩:=fh.1 a;refine J.keep b.2.2.2.2 L (λS s t o u v=>J.post o (mE (ic:={ic with pin:=D++ic.pin,kg:=Q++ic.kg}) ⟨b.1,b.2.1.trans s.symm,by rw[t,<-b.2.2.1],⟨b.2.2.2.1.1,u _ b.2.2.2.1.2.1,b.2.2.2.1.2.2.1,v b.2.2.2.1.2.2.2.1,b.2.2.2.1.2.2.2.2⟩,o⟩ B ?_));intro e i c;cases e with
   |normal=>
    obtain⟨bx,g,f⟩:=fO.1 c;cases f;exact .inr ⟨_,_,mE b a d,bq,uo g⟩
   |_=>
    obtain⟨bx,g,f⟩:=fO.1 c;cases f;cases a;exact .inl (d _ _ g)
  ·rename_i ci x cs;split at a
   ·rename_i c2 a3;refine J.cond a3 (λe=>?_) (λe=>?_)
    ·subst e;exact mE b a d
    subst e;exact mE b a d
   grind
  grind
 |.loop F a4 q,C,ic,m,j,A,k,r,l,b,a,d=>by
  simp only[h8] at a;split at a
  case h_2=>cases a
  rename_i x;obtain⟨c1,ap,a⟩:=fh.1 a;obtain⟨N,O,P⟩:=uo ap;refine J.post b.2.2.2.2 ?_;cases a4 with
  |r=>
   refine J.loop (lH F) a N O P ?_;intro i T y z;refine J.kg b.2.2.2.2 (mE b y ?_);intro e U c;cases e with
   |normal=>
    obtain⟨n,g,f⟩:=fO.1 c;grind [uo]
   |_=>
    obtain⟨n,g,f⟩:=fO.1 c;cases f;cases z;exact⟨(λa=>by cases a),.inl (d _ _ g)⟩
  |x id co=>
   refine J.loop (lH F) a N O P ?_;intro i T y z;refine J.kg b.2.2.2.2 (mE b y ?_);intro e U c;cases e with
   |normal=>
    obtain⟨n,g,f⟩:=fO.1 c;grind [uo]
   |exit M=>
    simp only[Qn] at c;split at c
    ·rename_i K;obtain rfl:=fN K;obtain⟨n,g,f⟩:=fO.1 c;cases f;exact⟨(λa=>by cases a),.inr ⟨_,_,d _ _ z,bq,uo g⟩⟩
    grind
   |_=>cases c
  |w4 id co=>
   refine J.loop (lH F) a N O P ?_;intro i T y z;refine J.kg b.2.2.2.2 (mE b y ?_);intro e U c;cases e with
   |normal=>
    obtain⟨n,g,f⟩:=fO.1 c;grind [uo]
   |exit M=>
    simp only[Qo] at c;split at c
    ·rename_i K;obtain rfl:=fN K;obtain⟨n,g,f⟩:=fO.1 c;cases f;exact⟨(λa=>by cases a),.inr ⟨_,_,d _ _ z,bq,uo g⟩⟩
    grind [apD]
   |_=>
    obtain⟨n,g,f⟩:=fO.1 c;grind
 |.draw G,C,ic,m,j,A,k,r,l,b,a,d=>by
  simp only[h8] at a;split at a
  case h_2=>cases a
  rename_i id bl;cases w:vj bl (FM G) (Gg G) G with
  |false=>grind
  |true=>
  rw[w] at a;exact J.draw E.mix b w a (λi c=>d _ i c)
 |.Aj,C,ic,m,j,A,k,r,l,b,a,d=>by simp only[h8] at a;grind [J.Aj]
 |.qJ V q,C,ic,m,j,A,k,r,l,b,a,d=>by
  simp only[h8] at a;cases w:n2 j.h V with
  |false=>grind
  |true=>
  rw[w] at a;intro H R p I;obtain⟨ad,ce,an,p⟩:=p;exact mE b a d H R (p.freeze (n2.ok w)) I
 |.fp id bs q,C,ic,m,j,A,k,r,l,b,a,d=>by
  simp only[h8] at a;split at a
  case h_2=>cases a
  rename_i ci i bs a0;split at a
  case isFalse=>cases a
  rename_i av;intro H R p I;obtain⟨ad,ce,an,p⟩:=p;exact mE b a d H R (p.Yj ac a0 av) I
 |.keep D q,C,ic,m,j,A,k,r,l,b,a,d=>by
  simp only[h8] at a;split at a
  case h_2=>cases a
  rename_i n B;refine J.keep b.2.2.2.2 B ?_;intro S s t o u v;exact mE (ic:={ic with pin:=D++ic.pin,kg:=n++ic.kg}) ⟨b.1,b.2.1.trans s.symm,by rw[t,<-b.2.2.1],⟨b.2.2.2.1.1,u _ b.2.2.2.1.2.1,b.2.2.2.1.2.2.1,v b.2.2.2.1.2.2.2.1,b.2.2.2.1.2.2.2.2⟩,o⟩ a d
end
end
section
def nZ:X->(f:bp hW)->hS f->bp (X×au)
 |_,[],_=>[]
 |k,.v g::b,a=>(k,.val g a.1)::nZ (k+1) b a.2
 |k,.m _::b,a|k,.o _::b,a=>(k,.ref k [])::nZ (k+1) b a.2
 |k,.c e h::b,a=>(k,.eM e ((lN h a.1).map λd=>.val d.1 d.2))::nZ (k+1) b a.2
 |k,.n::b,a=>(k,.eN (.slice bv 0 0))::nZ (k+1) b a.2
 |k,.w _::b,a=>(k,.view k [] a.1.2.1 a.1.2.2)::nZ (k+1) b a.2
 |k,.s _ _::b,a=>nZ (k+1) b a.2
def n0:X->(e:bp hW)->hS e->bp (X×aT)
 |_,[],_=>[]
 |k,.v _::b,a=>n0 (k+1) b a.2
 |k,.m d::b,a|k,.o d::b,a=>(k,⟨d,a.1⟩)::n0 (k+1) b a.2
 |k,.c _ _::b,a|k,.n::b,a=>n0 (k+1) b a.2
 |k,.w f::b,a=>(k,⟨.osl f,a.1.1⟩)::n0 (k+1) b a.2
 |k,.s _ _::b,a=>n0 (k+1) b a.2
def kv:X->bp hW->ak6
 |_,[]=>[]
 |k,.m _::a=>k::kv (k+1) a
 |k,.v _::a|k,.o _::a|k,.c _ _::a|k,.n::a=>kv (k+1) a
 |k,.w _::a=>k::kv (k+1) a
 |k,.s _ _::a=>kv (k+1) a
def H4 {r:Type}:∀{k:X} {ps:bp hW} {a:hS ps} {b:jo ps r},ka k (iw ps a b)=nZ k ps a/\kO k (iw ps a b)=n0 k ps a/\ij k (iw ps a b)=kv k ps/\(iw ps a b).length=ps.length
 |k,[],a,b=>⟨bq,bq,bq,bq⟩
 |k,i::h,a,b=>by
  have g:=λa b=>H4 (r:=r) (k:=k+1) (ps:=h) (a:=a) (b:=b);cases i
  case m=>
   obtain⟨c,d,e,f⟩:=g a.2 b.2;simp only[iw,ka,kO,ij,nZ,n0,kv,ju,c,d,e,f,and_self]
  case w=>
   obtain⟨c,d,e,f⟩:=g a.2 b.2;simp only[iw,ka,kO,ij,nZ,n0,kv,ju,c,d,e,f,and_self]
  all_goals obtain⟨c,d,e,f⟩:=g a.2 b;simp only[iw,ka,kO,ij,nZ,n0,kv,ju,c,d,e,f,and_self]
def GW (tt:bp (bN×ao)) (e:aW) (b:ao):alk->bA (b.den×ak6)
 |.tmp k=>match gt e.g k with
  |.val _ l=>(iE b l).bind λa=>Y (a,[])
  |.eN f=>bif qz b f then(jl b f.cells.toList).bind λa=>Y (a,[]) else bv
  |.ref id d=>match ay e.h id with
   |some c=>(jn c.1 c.2 d b).bind λa=>Y (a,[id])
   |none=>bv
  |_=>bv
 |.cell j i=>match ay tt i with
  |some m=>bif bi m b then match gt e.g j with
   |.ref id d=>match ay e.h id with
    |some c=>match gk c.1 d with
     |some (.optr _)=>(jn c.1 c.2 (d++[.deref]) b).bind λa=>Y (a,[id])
     |_=>bv
    |none=>bv
   |_=>bv else bv
  |none=>bv
def GV (tt:bp (bN×ao)) (c:aW):bp alk->(a:bp ao)->bA (mb a×ak6)
 |[],[]=>Y ((),[])
 |r::f,e::a=>bif e.gx then(GW tt c e r).bind λd=>(GV tt c f a).map λb=>((d.1,b.1),d.2++b.2) else bv
 |_,_=>bv
theorem afa {E:fY} {b:alk} {c:k.den×ak6} (a:GW E.tt i k b=Y c):sR E.P i ⟨k,c.1⟩ b c.2:=by
 cases b with
 |tmp b=>
  simp only[GW] at a;simp only[sR];split at a
  ·grind [lD,amp]
  ·grind [amp,qz.ok]
  ·grind [kC,amp]
  grind
 |cell h f=>
  simp only[GW] at a;simp only[sR];split at a
  case h_2=>cases a
  rename_i e g;cases d:bi e k with
  |false=>grind
  |true=>
  rw[d] at a;refine⟨(E.ok f e g).lay d,?_⟩;simp only[bI] at a;grind [kC,amp]
theorem SI {E:fY} {f:aW}:∀{d:bp alk} {c:bp ao} {b:mb c×ak6},GV E.tt f d c=Y b->u4 E.P f d (lN c b.1) b.2
 |[],[],b,a=>by cases a;rfl
 |[],_::_,b,a|_::_,[],b,a=>by cases a
 |r::d,k::c,b,a=>by
  simp only[GV] at a;cases e:k.gx with
  |false=>grind
  |true=>
  rw[e] at a;simp only[bI] at a;obtain⟨j,h,a⟩:=fh.1 a;obtain⟨i,g,rfl⟩:=fO.1 a;exact⟨e,j.2,i.2,bq,afa h,SI g⟩
def pR (
 st:aW) {t:Type} (d:bA t):X->(r:bp hW)->hS r->bA (jo r t)
 |_,[],_=>d
 |k,.v _::b,a|k,.o _::b,a|k,.c _ _::b,a|k,.n::b,a|k,.s _ _::b,a=>pR st d (k+1) b a.2
 |k,.m l::b,a=>bif s2 (.ref k []) (gt st.g k)&&(l.gx&&sx l) then match ay st.h k with
  |some j=>match iE l j.2 with
   |some e=>(pR st d (k+1) b a.2).map λi=>(e,i)
   |none=>bv
  |none=>bv else bv
 |k,.w f::b,a=>match gt st.g k with
  |.view u [] q p=>bif bL k u&&f.gx then match ay st.h k with
   |some j=>match iE (.osl f) j.2 with
    |some e=>bif bL q a.1.2.1&&(bL p a.1.2.2&&(bL (cE (α:=f.den) e) (cE (α:=f.den) a.1.1)&&cg q p)) then(pR st d (k+1) b a.2).map λi=>(e,i) else bv
    |none=>bv
   |none=>bv else bv
  |_=>bv
theorem ub {y:aW} {C:Type} {B:bA C}:∀{k:X} {ps:bp hW} {a:hS ps} {d:jo ps C},pR y B k ps a=Y d->qi y k (iw ps a d)/\B=Y (kF ps d)
 |k,[],a,d,b=>⟨trivial,b⟩
 |k,.v _::e,a,d,b|k,.o _::e,a,d,b|k,.c _ _::e,a,d,b|k,.n::e,a,d,b|k,.s _ _::e,a,d,b=>ub (ps:=e) b
 |k,.m E::e,a,d,b=>by
  simp only[pR] at b;cases f:(s2 (.ref k []) (gt y.g k)&&(E.gx&&sx E)) with
  |false=>grind
  |true=>
  rw[f] at b;simp only[cL] at f;simp only[bI] at b;split at b
  case h_2=>cases b
  rename_i J t;split at b
  case h_2=>cases b
  rename_i D u;obtain⟨I,r,rfl⟩:=fO.1 b;obtain⟨j,l⟩:=ub (a:=a.2) r;refine⟨⟨⟨(s2.ok f.1).symm,?_,f.2.1,f.2.2⟩,j⟩,l⟩;rw[t];exact b4 Y (lD u)
 |k,.w z::e,a,d,b=>by
  simp only[pR] at b;split at b
  case h_2=>cases b
  rename_i H x q G;cases f:(bL k H&&z.gx) with
  |false=>grind
  |true=>
  rw[f] at b;simp only[cL] at f;obtain rfl:=fN f.1;simp only[bI] at b;split at b
  case h_2=>cases b
  rename_i J t;split at b
  case h_2=>cases b
  rename_i D u;cases p:(bL x a.1.2.1&&(bL q a.1.2.2&&(bL (cE (α:=z.den) D) (cE (α:=z.den) a.1.1)&&cg x q))) with
  |false=>grind
  |true=>
  rw[p] at b;simp only[cL] at p;obtain⟨h,i,F,A⟩:=p;have h:=fN h;have i:=fN i;have A:x<q:=g8 A;obtain⟨I,r,rfl⟩:=fO.1 b;obtain⟨j,l⟩:=ub (a:=a.2) r;refine⟨⟨⟨by rw[G,h,i],?_,⟨f.2,aa⟩,fN F⟩,j⟩,l⟩;rw[t];exact b4 Y (lD u)
def FB (tt:bp (bN×ao)) (a:bp hW) (f:bp alk) (d:bp ao) (e:hS a) (c:aW):bA (jo a (mb d)):=
 match GV tt c f d with
 |some b=>bif kn (kv 0 a++b.2) then pR c (Y b.1) 0 a e else bv
 |none=>bv
theorem Pa {E:fY} {c:bp hW} {g:bp ao} {d:hS c} {e:jo c (mb g)} {f:ca} (l:f=.normal\/f=.ret) (b:FB E.tt c u g d i=Y e):MN E.P (iw c d e) u (lN g (kF c e)) f i:=by
 unfold FB at b;split at b
 case h_2=>cases b
 rename_i h n;cases k:kn (kv 0 c++h.2) with
 |false=>grind
 |true=>
 rw[k] at b;simp only[bI] at b;obtain⟨j,m⟩:=ub (a:=d) b;refine⟨l,h.2,?_,?_,j⟩
 ·grind [SI,al6]
 simp_all [H4]
def Pb (tt:bp (bN×ao)) (a:bp hW) (e:bp alk) (c:bp ao) (d:hS a):ca->aW->bA (jo a (mb c))
 |.normal,b|.ret,b=>FB tt a e c d b
 |_,_=>bv
def BA (c:hz) (e:mO) (f:cA) (a:bp hW) (g:bp alk) (d:bp ao) (b:hS a):bA (jo a (mb d)):=
 h8 c e f ⟨nZ 0 a b,n0 0 a b⟩ _ (Pb c.tt a g d b)
section
variable {E:fY}
theorem aG.Q3 {e:Func} {d:bp hW} {h:bp ao} {g:hS d->bA (jo d (mb h))} (l:bp (X×jP)) (p:bp (X×ao)) (m:ak8) (w:mO) (aC:akZ) (F:∀v∈aC,zJ E.P v) (D:E.P.funcs[r]?=Y e) (O:e.body.isSome=bt) (I:e.results=u.toArray) (R:b5 d.length e.ntmps=bt) (C:∀(q:akY) (s:bH),(amo r q).run E.P s=.ok (.enter r q) s) (J:∀K∈l,aG E K.2) (A:∀f,BA ⟨E.tt,l,p,e.ntmps,kv 0 d++oq (j1 0 d),[],m,j1 0 d,aC,[],E.glob,E.eqs⟩ w (e.body.getD .skip) d u h f=g f):aG E ⟨r,d,h,g⟩:=by
 refine⟨C,λf t n=>?_⟩;rw[show(jP.mk r d h g).Cw f=g f from rfl,<-A f] at n;obtain⟨ax,y,z,N⟩:=H4 (k:=0) (ps:=d) (a:=f) (b:=t);refine uI.aaJ D (c:=e.body.getD .skip) (by cases Q:e.body with|none=>grind|some L=>rfl) I ag ?_;intro M B i H o G;rw[ax,y];rw[G3] at i o;rw[z] at i;refine mE (ic:=⟨E.tt,l,p,e.ntmps,kv 0 d++oq (j1 0 d),[],m,j1 0 d,aC,[],E.glob,E.eqs⟩) ⟨bq,B.symm,i.symm,⟨J,o,F,G,bq,bq⟩,p9.nil H⟩ n ?_;intro x S j;cases x with
 |normal=>exact Pa (.inl bq) j
 |ret=>exact Pa (.inr bq) j
 |_=>cases j
def aG.of {fn:Func} {b:bp hW} {rs:bp alk} {e:bp ao} {j:hS b->bA (jo b (mb e))} (d:bp (X×jP)) (i:bp (X×ao)) (h:ak8) (g:mO) (o:E.P.funcs[a]?=Y fn) (m:fn.body.isSome=bt) (q:fn.results=rs.toArray) (p:b5 b.length fn.ntmps=bt) (n:∀(k:akY) (l:bH),(amo a k).run E.P l=.ok (.enter a k) l) (r:∀s∈d,aG E s.2) (c:∀f,BA ⟨E.tt,d,i,fn.ntmps,kv 0 b++oq (j1 0 b),[],h,j1 0 b,[],[],E.glob,E.eqs⟩ g (fn.body.getD .skip) b rs e f=j f):aG E ⟨a,b,e,j⟩:=
 aG.Q3 d i h g [] (λ_ c=>by cases c) o m q p n r c
def G4:cA->cA
 |.seq a _=>a
 |c=>c
def Tn:cA->cA
 |.seq _ a=>a
 |c=>c
def wN (a:X):cA->bA (bX bU)
 |.region d e _=>if d=a then Y e else bv
 |.seq b c=>(wN a b).orElse λ_=>wN a c
 |.cond _ b c=>(wN a b).orElse λ_=>wN a c
 |.block _ b|.loop b=>wN a b
 |_=>bv
def JY {b:hz} {k:Type} {c:bX bU} {f:ak6} {d:aW->bA k}:∀(j:ak6) (g:aW),lI b c (j++f) g d=lI b c j g λa=>lI b c f a d
 |[],g=>rfl
 |i::e,g=>by
  have h:(λa=>lI b c (e++f) a d)=λa=>lI b c e a λa=>lI b c f a d:=funext λa=>JY e a;simp only[oB,lI];split
  ·rfl
  split
  ·rw[h]
  simp only[h,JY e]
def YC {tt:bp (bN×ao)} (h:∀b e,ay tt b=Y e->fv p e b) {a:u6} {S:bN} (f:p.underlying a.T=Y (.array a.xs.length S)) (g:ay tt S=Y (.int a.k)):∀d∈[a],M5 p d:=λd c=>by rw[fH] at c;subst c;exact⟨S,f,h _ _ g⟩
def TZ:∀b∈([]:bp (X×jP)),aG E b.2:=λ_ a=>by cases a
theorem agx {c:jP} {d:bp (X×jP)} (f:aG E c) (g:∀b∈d,aG E b.2):∀b∈(a,c)::d,aG E b.2:=λb e=>by grind
end
def w6:Value->Value->bD
 |.int c a,.int d b=>if c=d/\a=b then bt else br
 |.bool a,.bool b=>a==b
 |.string a,.string b=>a.data.toList.isEmpty&&b.data.toList.isEmpty
 |.slice bv 0 0,.slice bv 0 0|.map bv,.map bv|.pointer bv,.pointer bv|.nilFunc,.nilFunc=>bt
 |_,_=>br
def Wb {a:ByteArray} (c:a.data.toList.isEmpty=bt):a=anA:=by
 cases a with|mk b=>cases b with|mk d=>cases d with
  |nil=>rfl
  |cons=>cases c
theorem w6.ok {b:Value} (a:w6 z b=bt):z=b:=by
 unfold w6 at a;split at a
 ·grind
 ·rw[beq_iff_eq.1 a]
 ·simp_all [Wb,cL]
 ·rfl
 ·rfl
 ·rfl
 ·rfl
 cases a
def w7:ak0->ak0->bD
 |[],[]=>bt
 |a::c,b::d=>w6 a b&&w7 c d
 |_,_=>br
theorem w7.ok:∀{c d:ak0},w7 c d=bt->c=d
 |[],[],_=>rfl
 |[],_::_,b|_::_,[],b=>by cases b
 |a::c,e::d,b=>by simp only[w7,cL] at b;rw[w6.ok b.1,w7.ok b.2]
def jV (b:b3) (c:bN) (d:X) (f:Value):bD:=match b.info? c with
 |some a=>bL a.size 1&&b5 a.bytes d&&(match a.zero with|some e=>w6 e f|none=>br)
 |none=>br
theorem jV.ok {d:b3} {e:bN} {f:X} {g:Value} (b:jV d e f g=bt):∃a,d.info? e=Y a/\a.size=1/\a.bytes<=f/\a.zero=Y g:=by
 unfold jV at b;split at b
 case h_2=>cases b
 rename_i a j;simp only[cL] at b;obtain⟨⟨h,i⟩,c⟩:=b;split at c
 case h_2=>cases c
 rename_i l k;exact⟨a,j,fN h,g8 i,by rw[k,w6.ok c]⟩
mutual
def ip (b:b3):ao->bN->bD
 |.int g,a=>jV b a 24 (.int g 0)&&(match b.underlying a with|some (.int j)=>if j=g then bt else br|_=>br)
 |.bool,a=>jV b a 24 (.bool br)&&(match b.underlying a with|some .bool=>bt|_=>br)
 |.str,a=>jV b a 24 (.string anA)&&(match b.underlying a with|some .string=>bt|_=>br)
 |.bb _ c,a=>jV b a 24 (.slice bv 0 0)&&(match b.underlying a with|some (.slice d)=>ip b c d|_=>br)
 |.osl c,a=>jV b a 24 (.slice bv 0 0)&&(match b.underlying a with|some (.slice d)=>ip b c d|_=>br)
 |.ptr _ c,a=>jV b a 24 (.pointer bv)&&(match b.underlying a with|some (.pointer d)=>ip b c d|_=>br)
 |.optr c,a=>jV b a 24 (.pointer bv)&&(match b.underlying a with|some (.pointer d)=>ip b c d|_=>br)
 |.mp c,a=>jV b a 24 (.map bv)&&(match b.underlying a with|some (.map e d)=>(match b.underlying e with|some (.int .i64)=>ip b c d|_=>br)|_=>br)
 |.fm _ c,a=>jV b a 24 (.map bv)&&(match b.underlying a with|some (.map e d)=>(match b.underlying e with|some (.int .i64)=>ip b c d|_=>br)|_=>br)
 |.fn _ _,a=>jV b a 24 .nilFunc&&(match b.underlying a with|some (.func _ _ _)=>bt|_=>br)
 |.st c,a=>cg 0 c.size&&match b.info? a with
  |some f=>bL f.size c.size&&b5 f.bytes (24*c.size)&&(match f.zero with
   |some (.agg h)=>bL h.size c.size&&(match b.underlying a with|some (.struct i)=>tM b c i.toList 0 h.toList|_=>br)
   |_=>br)
  |none=>br
 |_,_=>br
def tM (c:b3):ao->bp aly->X->ak0->bD
 |.pr a f,d::h,e,b=>bL d.offset e&&ip c a d.type&&cg 0 a.size&&(match c.info? d.type with|some g=>(match g.zero with|some i=>w7 (b.take a.size) i.cells.toList|none=>br)|none=>br)&&tM c f h (e+a.size) (b.drop a.size)
 |.nil,[],_,b=>b.isEmpty
 |_,_,_,_=>br
end
mutual
theorem ip.ok {n:b3}:∀{o:ao} {i:bN},ip n o i=bt->fv n o i
 |.int z,i,a=>by
  simp only[ip,cL] at a;obtain⟨c,b⟩:=a;obtain⟨e,aE,f,g,h⟩:=jV.ok c;split at b
  ·rename_i A d;split at b
   ·rename_i p;subst p;exact⟨e,aE,f,g,h,d⟩
   grind
  grind
 |.bool,i,a=>by
  simp only[ip,cL] at a;obtain⟨c,b⟩:=a;obtain⟨e,aE,f,g,h⟩:=jV.ok c;split at b
  ·rename_i d;exact⟨e,aE,f,g,h,d⟩
  grind
 |.str,i,a=>by
  simp only[ip,cL] at a;obtain⟨c,b⟩:=a;obtain⟨e,aE,f,g,h⟩:=jV.ok c;split at b
  ·rename_i d;exact⟨e,aE,f,g,h,d⟩
  grind
 |.bb _ k,i,a=>by
  simp only[ip,cL] at a;obtain⟨c,b⟩:=a;obtain⟨e,aE,f,g,h⟩:=jV.ok c;split at b
  ·rename_i j d;exact⟨e,j,aE,f,g,h,d,ip.ok b⟩
  grind
 |.osl k,i,a=>by
  simp only[ip,cL] at a;obtain⟨c,b⟩:=a;obtain⟨e,aE,f,g,h⟩:=jV.ok c;split at b
  ·rename_i j d;exact⟨e,j,aE,f,g,h,d,ip.ok b⟩
  grind
 |.ptr _ k,i,a=>by
  simp only[ip,cL] at a;obtain⟨c,b⟩:=a;obtain⟨e,aE,f,g,h⟩:=jV.ok c;split at b
  ·rename_i j d;exact⟨e,j,aE,f,g,h,d,ip.ok b⟩
  grind
 |.optr k,i,a=>by
  simp only[ip,cL] at a;obtain⟨c,b⟩:=a;obtain⟨e,aE,f,g,h⟩:=jV.ok c;split at b
  ·rename_i j d;exact⟨e,j,aE,f,g,h,d,ip.ok b⟩
  grind
 |.mp k,i,a=>by
  simp only[ip,cL] at a;obtain⟨c,b⟩:=a;obtain⟨e,aE,f,g,h⟩:=jV.ok c;split at b
  ·rename_i l j d;split at b
   ·rename_i m;exact⟨e,l,j,aE,f,g,h,d,m,ip.ok b⟩
   grind
  grind
 |.fm _ k,i,a=>by
  simp only[ip,cL] at a;obtain⟨c,b⟩:=a;obtain⟨e,aE,f,g,h⟩:=jV.ok c;split at b
  ·rename_i l j d;split at b
   ·rename_i m;exact⟨e,l,j,aE,f,g,h,d,m,ip.ok b⟩
   grind
  grind
 |.fn _ _,i,a=>by
  simp only[ip,cL] at a;obtain⟨c,b⟩:=a;obtain⟨e,aE,f,g,h⟩:=jV.ok c;split at b
  ·rename_i v w x d;exact⟨e,v,w,x,aE,f,g,h,d⟩
  grind
 |.st k,i,a=>by
  simp only[ip,cL] at a;obtain⟨r,a⟩:=a;split at a
  case h_2=>cases a
  rename_i e t;simp only[cL] at a;obtain⟨⟨c,b⟩,a⟩:=a;split at a
  case h_2=>cases a
  rename_i y u;simp only[cL] at a;obtain⟨s,a⟩:=a;split at a
  case h_2=>cases a
  rename_i q d;exact⟨g8 r,e,q,y,t,fN c,g8 b,u,d,tM.ok a,fN s⟩
 |.pr _ _,_,a|.nil,_,a|.eL,_,a=>by cases a
theorem tM.ok {f:b3}:∀{g:ao} {b:bp aly} {d:X} {c:ak0},tM f g b d c=bt->jt f g b d c
 |.pr h i,[],d,c,a=>by cases a
 |.pr h i,r::s,d,c,a=>by
  simp only[tM,cL] at a;obtain⟨⟨⟨⟨j,k⟩,l⟩,e⟩,m⟩:=a;split at e
  case h_2=>cases e
  rename_i p n;split at e
  case h_2=>cases e
  rename_i q o;exact⟨fN j,ip.ok k,g8 l,⟨p,q,n,o,w7.ok e⟩,tM.ok m⟩
 |.nil,[],d,c,a=>by have a:c=[]:=(by grind [tM]);exact a
 |.nil,_::_,d,c,a=>by cases a
 |.int _,b,d,c,a=>by cases b<;>cases a
 |.bool,b,d,c,a=>by cases b<;>cases a
 |.str,b,d,c,a=>by cases b<;>cases a
 |.bb _ _,b,d,c,a=>by cases b<;>cases a
 |.ptr _ _,b,d,c,a=>by cases b<;>cases a
 |.osl _,b,d,c,a=>by cases b<;>cases a
 |.optr _,b,d,c,a=>by cases b<;>cases a
 |.st _,b,d,c,a=>by cases b<;>cases a
 |.eL,b,d,c,a=>by cases b<;>cases a
end
theorem Ua {e:b3}:∀{tt:bp (bN×ao)},(tt.all λf=>ip e f.2 f.1)=bt->∀a b,ay tt a=Y b->fv e b a
 |[],_,_,_,c=>by cases c
 |(k,g)::r,c,a,b,d=>by
  simp only[sI,cL] at c;rw[eX] at d;split at d
  ·grind [ip.ok]
  exact Ua ae a b d
def Jp (a:b3):akZ->bD
 |[]=>bt
 |T::d=>!a.stoodInHeld T&&(!a.eqGuardType a.depth T&&((match a.underlying T with|some (.struct c)=>c.toList.all λb=>b.name !="_"|_=>br)&&Jp a d))
def OZ {e:b3}:∀{d:akZ},Jp e d=bt->∀b∈d,MH e b
 |[],_,b,a=>by cases a
 |U::d,f,b,a=>by
  simp only[Jp,cL,uG] at f;obtain⟨h,i,c,j⟩:=f;rcases gn.1 a with rfl|a
  ·split at c
   ·rename_i g k;exact⟨h,i,g,k,c⟩
   cases c
  exact OZ j b a
end
section
def qm:(i:ao)->i.den->Prop
 |.int g,h=>(Lit.int g h).wf=bt
 |.bb _ b,c=>c.length<=maxLen/\∀a∈c,qm b a
 |.ptr _ b,a=>∀d,a=Y d->qm b d
 |.st b,a=>qm b a
 |.pr e f,a=>qm e a.1/\qm f a.2
 |_,_=>True
def sZ:ao->bD
 |.int _|.bool|.str|.nil=>bt
 |.bb _ a|.ptr _ a|.st a=>sZ a
 |.pr b c=>sZ b&&sZ c
 |_=>br
def In {P:b3} (b:fv P k d):P.cellsOf d=k.size:=by obtain⟨e,c,a,_⟩:=b.info;unfold apG;rw[a.info];simp[a.size]
section
variable {A:Type} {enc:bN×Value->A} {P:b3} {w:bH}
theorem Io {b:Addr} {c:ak0} (d:w.cells? r b a=Y c) (f:0<a):b.spot=bv/\c.length=a/\b.block<w.heap.size/\fC w b.block b.off c:=by
 have k:=World.cells?_block d f;obtain⟨_,j,e⟩:=World.cells?_some d;have l:b.spot=bv:=by
  have n:=e 0 f;have:(w.cell? (b.add 0)).isSome=bt:=ae;simp only[anS,cp] at this;unfold aml at this;split at this
  ·cases o:b.spot with
   |none=>rfl
   |some t=>grind
  grind
 refine⟨l,j,k,λg s h=>?_⟩;have i:g<a:=ae;have:=e g i;rw[h] at this;rw[<-this];congr 1;unfold anS;obtain⟨m,p,q⟩:=b;grind
def Da (w:bH):eW->X->Prop:=λ_ a=>a<w.heap.size
mutual
theorem Hf:∀{τ:ao} {j:bN} {i:ak0} {l:X} {o:DataW A×bp amG},sZ τ=bt->fv P τ j->aoN enc P w 0 (λ_=>bt) bt l j i=Y o->∃a:τ.den,a5 (Da w) w τ i a []/\qm τ a
 |.int n,j,i,l,o,_,⟨b,_,_,_,_,h⟩,d=>by obtain⟨x,rfl,_,ad⟩:=DataW.trod_int h d;exact⟨x,⟨bq,bq⟩,ad⟩
 |.bool,j,i,l,o,_,⟨b,_,_,_,_,h⟩,d=>by obtain⟨y,rfl,_⟩:=DataW.trod_bool h d;exact⟨y,⟨bq,bq⟩,trivial⟩
 |.str,j,i,l,o,_,⟨b,_,_,_,_,h⟩,d=>by obtain⟨av,rfl,_,_⟩:=DataW.trod_string h d;exact⟨av,⟨bq,bq⟩,trivial⟩
 |.bb an c,j,i,l,o,g,⟨b,O,_,_,_,_,h,m⟩,d=>by
  rcases DataW.trod_slice h d with⟨rfl,_⟩|⟨e,u,Q,F,dl,x,rfl,rfl,_,_,cv,bx,ce,K,_⟩
  ·exact⟨[],⟨bq,bv,0,bq,bg _,λ_=>rfl,.inl bq⟩,ae,ac⟩
  have H:=In m;have L:=m.pos;have E:∀b,b<u->∃a:c.den,∃f:ak0,f.length=c.size/\w.cells? 0 (e.add (b*c.size)) c.size=Y f/\a5 (Da w) w c f a []/\qm c a:=by
   intro b v;have s:=K b v;have t:F[b]?=Y (F[b]'(by omega)):=bh _
   rw[t] at s;obtain⟨f,q,z⟩:=fh.1 s;rw[H] at q;obtain⟨a,k,r⟩:=Hf (τ:=c) g m z;exact⟨a,f,k.len,q,k,r⟩
  have U:∀n,n<=u->∃p:bp c.den,p.length=n/\∀(b:X) (a:c.den),p[b]?=Y a->∃f:ak0,f.length=c.size/\w.cells? 0 (e.add (b*c.size)) c.size=Y f/\a5 (Da w) w c f a []/\qm c a:=by
   intro n
   induction n with
   |zero=>simp_all
   |succ n am=>
    intro ci;obtain⟨p,s,t⟩:=am aa;obtain⟨a,f,q⟩:=E n aa;refine⟨p++[a],ae,λb M D=>?_⟩;grind
  obtain⟨p,s,t⟩:=U u (bg _);refine⟨p,⟨bq,Y e,Q,by rw[s],aa,(λd=>by cases d),?_⟩,aa,λa k=>?_⟩
  ·cases u with
   |zero=>grind
   |succ u=>
    right;obtain⟨ds,bl,_,I,_⟩:=E 0 aa;have T:e.add (0*c.size)=e:=(by simp[anS]);rw[T] at I;obtain⟨V,_,C,_⟩:=Io I L;refine⟨e.block,e.off,by obtain⟨y,ap,a0⟩:=e;grind,C,λb a k=>?_⟩;obtain⟨f,a3,S,a4,_⟩:=t b a k;obtain⟨_,_,_,G⟩:=Io S L;grind [ax,anS]
  obtain⟨b,v,rfl⟩:=hV.1 k;obtain⟨_,_,_,_,r⟩:=t b _ (bh v);exact r
 |.ptr an c,j,i,l,o,g,⟨b,O,_,_,_,_,h,m⟩,d=>by
  rcases DataW.trod_pointer h d with⟨rfl,_⟩|⟨e,R,a,x,rfl,rfl,_,q,z⟩
  ·exact⟨bv,⟨bq,bq⟩,λa d=>by cases d⟩
  rw[In m] at q;obtain⟨M,D,r⟩:=Hf (τ:=c) g m z;obtain⟨V,_,C,G⟩:=Io q m.pos;refine⟨Y M,⟨bq,e.block,e.off,R,by obtain⟨y,ap,a0⟩:=e;grind,C,D.len,G,D⟩,λa d=>by grind⟩
 |.st c,j,i,l,o,g,⟨_,b,N,d0,v,c1,_,_,h,J,_⟩,d=>by
  obtain⟨p,x,rfl,_,co,c2,K⟩:=DataW.trod_struct h d;have H:P.cellsOf j=c.size:=(by grind [apG]);obtain⟨a,k,r⟩:=T8 (τ:=c) (fs:=N.toList) (cs:=i) g J aa (λdg bs J=>by
   grind)
  rw[mm] at k;exact⟨a,k,r⟩
 |.osl _,_,_,_,_,g,_,_|.optr _,_,_,_,_,g,_,_=>by cases g
 |.pr _ _,_,_,_,_,_,B,_|.nil,_,_,_,_,_,B,_=>B.elim
 |.eL,_,_,_,_,g,_,_=>by cases g
theorem T8:∀{τ:ao} {fs:bp aly} {c:X} {f cs:ak0},sZ τ=bt->jt P τ fs c f->cs.length=c+τ.size->(∀(e:X) b,fs[e]?=Y b->∃(j:X) (k:DataW A×bp amG),aoN enc P w 0 (λ_=>bt) bt j b.type ((cs.drop b.offset).take (P.cellsOf b.type))=Y k)->∃l:τ.den,a5 (Da w) w τ (cs.drop c) l []/\qm τ l
 |.pr y z,b::D,c,f,cs,d,p,r,i=>by simp only[sZ,cL] at d;obtain⟨n,g,B,_,o⟩:=p;obtain⟨j,k,h⟩:=i 0 b bq;rw[n,In g] at h;obtain⟨v,s,t⟩:=Hf d.1 g h;obtain⟨x,C,u⟩:=T8 (cs:=cs) d.2 o (by grind [alA]) (λe m q=>i (e+1) m q);exact⟨(v,x),⟨[],[],bq,s,ag⟩,t,u⟩
 |.nil,[],c,f,cs,_,_,r,_=>by refine⟨(),⟨bq,?_⟩,trivial⟩;grind [anE,alA]
 |.pr _ _,[],_,_,_,_,a,_,_|.nil,_::_,_,_,_,_,a,_,_=>a.elim
 |.int _,fs,_,_,_,_,a,_,_=>by cases fs<;>exact a.elim
 |.bool,fs,_,_,_,_,a,_,_=>by cases fs<;>exact a.elim
 |.str,fs,_,_,_,_,a,_,_=>by cases fs<;>exact a.elim
 |.bb _ _,fs,_,_,_,_,a,_,_=>by cases fs<;>exact a.elim
 |.ptr _ _,fs,_,_,_,_,a,_,_=>by cases fs<;>exact a.elim
 |.osl _,fs,_,_,_,_,a,_,_=>by cases fs<;>exact a.elim
 |.optr _,fs,_,_,_,_,a,_,_=>by cases fs<;>exact a.elim
 |.st _,fs,_,_,_,_,a,_,_=>by cases fs<;>exact a.elim
 |.eL,fs,_,_,_,_,a,_,_=>by cases fs<;>exact a.elim
end
theorem adJ (j:sZ k=bt) (e:fv P k d) (c:amH P w .any a d z):z=eY k z.cells.toList:=by
 cases k with
 |int q=>
  obtain⟨f,_,_,_,_,b⟩:=e;obtain⟨g,rfl⟩:=aqG b c;rfl
 |bool=>
  obtain⟨f,_,_,_,_,b⟩:=e;obtain⟨g,rfl⟩:=aqH b c;rfl
 |str=>
  obtain⟨f,_,_,_,_,b⟩:=e;obtain⟨g,rfl⟩:=aqI b c;rfl
 |bb l h=>
  obtain⟨f,i,_,_,_,_,b,_⟩:=e;obtain⟨m,r,n,rfl⟩:=aqJ b c;rfl
 |ptr l h=>
  obtain⟨f,i,_,_,_,_,b,_⟩:=e;simp only[amH,b,Cell.okWide] at c;cases z<;>first|rfl|simp_all [Cell.ok]
 |st h=>
  obtain⟨_,f,p,s,_,_,_,_,b,_,_⟩:=e;simp only[amH,b] at c;obtain⟨o,rfl,_⟩:=c;rfl
 |_=>first|(cases j;done)|exact e.elim
def xF (P:b3):bp hW->akZ->bD
 |[],[]=>bt
 |.v a::c,b::d=>sZ a&&ip P a b&&xF P c d
 |_,_=>br
def qn:(d:bp hW)->hS d->Prop
 |[],_=>True
 |.v e::b,a=>qm e a.1/\qn b a.2
 |.m _::b,a|.o _::b,a|.c _ _::b,a|.n::b,a|.w _::b,a|.s _ _::b,a=>qn b a.2
def ND {P:b3}:∀{ps:bp hW} {b:akZ} {k:X},xF P ps b=bt->j1 k ps=bv
 |[],_,_,_=>rfl
 |.v g::d,e::f,k,a=>by simp only[xF,cL] at a;exact ND (ps:=d) (k:=k+1) a.2
 |.v _::_,[],_,a=>by cases a
 |.m _::_,b,_,a=>by cases b<;>cases a
 |.o _::_,b,_,a=>by cases b<;>cases a
 |.c _ _::_,b,_,a=>by cases b<;>cases a
 |.n::_,b,_,a=>by cases b<;>cases a
 |.w _::_,b,_,a=>by cases b<;>cases a
 |.s _ _::_,b,_,a=>by cases b<;>cases a
def Cn {b:Type}:bp b->eC
 |[]=>[]
 |_::a=>[]::Cn a
theorem GS {b:Type}:∀a:bp b,(Cn a).flatten=[]
 |[]=>rfl
 |_::a=>by simp only[Cn,mq,GS a,iD]
def NF:∀{f:bp hW} {l:akZ} {base:X} {b:ak0} {i:bp (DataW A)} {r:bp amG},xF P f l=bt->amI enc P w 0 (λ_=>bt) bt l b i r->(∀(j:X) k g,l[j]?=Y k->b[j]?=Y g->amH P w .any base k g)->∃h:hS f,qn f h/\∀{x:Type} (d:jo f x),mZ (zC (λd=>d<w.heap.size) (λ_=>b7) w) (iw f h d) b (Cn b)
 |[],[],base,b,i,r,_,q,_=>by cases b<;>cases i<;>first|exact⟨(),trivial,λ_=>trivial⟩|exact q.elim
 |.v U::Q,y::x,base,b,i,r,e,q,u=>by
  simp only[xF,cL] at e;obtain⟨⟨s,z⟩,B⟩:=e;obtain⟨g,T,K,L,R,S,rfl,rfl,rfl,p,C⟩:=aoO q;obtain⟨M,p⟩:=p;have t:=ip.ok z;obtain⟨J,G,F⟩:=Hf s t p;obtain⟨h,D,E⟩:=NF B C (λj k I N O=>u (j+1) k I ae ae);refine⟨(J,h),⟨F,D⟩,λd=>⟨⟨bq,g.cells.toList,adJ s t (u 0 y g bq rfl),?_⟩,E d⟩⟩;exact G.mono (λH d e=>⟨by cases H with
   |bo=>exact e
   |dm=>exact .inl e,ald _ _⟩) ac
 |[],_::_,_,_,_,_,a,_,_|.v _::_,[],_,_,_,_,a,_,_|.m _::_,_,_,_,_,_,a,_,_|.o _::_,_,_,_,_,_,a,_,_|.c _ _::_,_,_,_,_,_,a,_,_|.n::_,_,_,_,_,_,a,_,_|.w _::_,_,_,_,_,_,a,_,_=>by cases a
theorem T7 {P:b3} (k:laidOutB P=bt) {i j:bH} {o:X->bD}:∀{e:akZ} {d:ak0} {c:bp (DataW A)} {b:bp amG},(∀g∈e,P.readableRec g=bt/\g<P.types.size)->amI enc P i 0 (λ_=>bt) bt e d c b->(∀a∈b,i.sameAt j a)->(∀a∈b,o a.block=bt)->amI enc P j 0 o bt e d c b
 |[],d,c,b,_,f,_,_=>by cases d<;>cases c<;>first|exact f|exact f.elim
 |T::e,d,c,b,l,f,m,n=>by obtain⟨y,z,v,w,r,s,rfl,rfl,rfl,p,q⟩:=aoO f;obtain⟨t,u⟩:=l T ac;exact⟨r,s,aqK k t u p (λa h=>m a ae) (λa h=>n a ae),T7 k (λg x=>l g ae) q (λa h=>m a ae) (λa h=>n a ae),bq⟩
theorem Zu {E:fY} {F:jP} {g:Func} {k:ChangeSpec} {T:bN} (a4:aG E F) (el:laidOutB E.P=bt) (dl:(g.params.toList.all λd=>E.P.readableRec d&&cg d E.P.types.size)=bt) (S:xF E.P F.ps g.params.toList=bt) (_hrs:F.rs=[.bool]) (H:g.resultTypes=#[T]) (u:E.P.underlying T=Y .bool) (am:k.vars=[]) (fp:∀c:bp (DataW A),c.length=g.params.toList.length->k.fn A c=⟨[.lit (.bool bt)],c,[]⟩) (d2:∀s,qn F.ps s->∃b,F.Cw s=Y b/\lN F.rs (kF F.ps b)=[⟨.bool,bt⟩]) {D a0 ce av:bD} {o:akY} {c y:bp (DataW A)} {h:bp amG} (d3:∀(q:X) d n,g.params[q]?=Y d->o[q]?=Y n->amH E.P t .any a d n) (I:DataW.Whole enc E.P g.params.toList k.vars D t o.toList c y h) (bl:mj E (λb=>b<t.heap.size) t):Calls E.P F.f o t λG e=>∃n,G=.returned n/\k.post enc E.P g D a0 ce av t o n e:=by
 have J:=I;obtain⟨B,d4,a3,z,R,co,em⟩:=I;rw[am] at z;have cs:y=[]/\d4=[]:=by cases y with
  |nil=>exact⟨bq,z⟩
  |cons=>exact z.elim
 obtain⟨rfl,rfl⟩:=cs;rw[oA] at R;subst R;obtain⟨s,dg,bx⟩:=NF (w:=t) (base:=a) S a3 (λq d n V ad=>d3 q d n ae ae);obtain⟨b,bs,ds⟩:=d2 s dg;have ek:∀{r:akZ} {C:ak0} {c:bp (DataW A)} {B:bp amG},amI enc E.P t 0 (λ_=>bt) bt r C c B->c.length=r.length:=by
  intro r
  induction r with
  |nil=>intro C c B p;cases C<;>cases c<;>first|rfl|exact p.elim
  |cons T r fs=>
   grind [aoO]
 have N:k.fn A (c++[])=⟨[.lit (.bool bt)],c,[]⟩:=ae;have Q:=J.lt;have L:=a4.2 s b bs t (λb=>b<t.heap.size) (λ_=>b7) o.toList (Cn o.toList) (λb p=>p.elim id (λp=>p.elim)) (bx b) (by grind [GS]) (by rw[GS];simp) (by rw[G3,ND S];trivial);rw[apH] at L;refine(L bl).mono ?_;rintro G e ⟨d5,d7,v,cT,rfl,m⟩;refine⟨_,bq,?_⟩;have d1:sp cT=.bool bt:=by
  have:=m.res;rw[ds] at this;cases cT with
  |nil=>cases v<;>exact this.elim
  |cons n cT=>
   cases v with
   |nil=>exact this.elim
   |cons d8 v=>
    obtain⟨⟨d6,ad,_,rfl⟩,d0⟩:=this;cases cT with
    |nil=>exact ad
    |cons=>cases v<;>exact d0.elim
 have O:∀b,b<t.heap.size->e.heap[b]?=t.heap[b]?:=λb u=>m.heap b u (by rw[GS];simp);have ex:∀i∈h,t.sameAt e i:=λi x=>by
  have:=O i.block (Q i x);cases i with
  |cell b j=>show e.cell? _=t.cell? _;unfold aml;rw[show e.heap[b]?=t.heap[b]? from this]
  |map b=>exact this
 have ci:∀b j,apI b j∈h->e.frozen? ⟨b,j,bv⟩=t.frozen? ⟨b,j,bv⟩:=λb j x=>(by unfold World.frozen?;rw[show e.heap[b]?=t.heap[b]? from O b (Q _ x)]);rw[d1];have eq:∀d∈g.params.toList,E.P.readableRec d=bt/\d<E.P.types.size:=λd V=>(by have:=hp.1 dl d V;simp_all);have K:∀l:X->bD,(∀i∈h,l i.block=bt)->amI enc E.P e 0 l bt g.params.toList o.toList (k.fn A (c++[])).args h:=λl fl=>(by grind [T7]);have U:∀(b:X) (l:X->bD) (M:bD),amI enc E.P e b l M g.resultTypes.toList ((apJ bt).resultList g.resultTypes.size) (k.fn A (c++[])).results []:=λb l M=>(by rw[N,H];exact aqL ⟨1,by unfold aoN;rw[u];rfl⟩);have an:∀l:X->bD,DataW.TrodVars enc E.P e l k.vars (k.fn A (c++[])).vars []:=λl=>(by rw[N,am];rfl);have c1:∀(q:X) (d:bN) (ap:Value),g.resultTypes[q]?=Y d->((apJ bt).resultList g.resultTypes.size)[q]?=Y ap->amH E.P e .any 0 d ap:=
  Go.RowKit.ok_one H bq (Go.RowKit.okWide_bool_mk u bt)
 have c2:∀i∈h,(λb=>bz (b<t.heap.size)) i.block=bt:=λi x=>ae;have cv:t.keptBut e (λ_=>b7):=(by refine⟨m.os,m.output,λfr d9=>?_⟩;grind);refine⟨c,[],h,[],h,[],J,U _ _ _,K _ c2,an _,World.keptBut_mono (λ_ p=>p.elim) cv,λ_=>?_⟩;refine⟨c1,_,_,([]++h)++[],⟨[]++h,[],aqM (K _ (λ_ _=>rfl)) (U _ _ _),an _,bq,?_,?_⟩,?_⟩
 ·intro b j m;have m:apI b j∈h:=ae;rw[ci b j m];exact co b j m
 ·grind
 grind
end
end
section
inductive Hv where
 |a
 |b (f:ak6)
 |c (f m:ak6)
def Jg (a:X):X:=a/32+a %32*500000
abbrev mI (a:X):X×pu:=(a,.s (.ref a []))
abbrev CL (a:X):X×pu:=(a,.v (.int .i64))
inductive pj where
 |l
 |o (a:pj)
 |t (j:Hz) (a b:pj)
 |n (b:pj)
 |p (CA:nT) (m:HA) (a:pj)
 |k (l:ak6) (a:pj)
 |z (F:ak6) (a:pj)
 |d (L:bp Hv)
def GZ (b:bX bU) (a:X) (f c:ak6):mi:=match b[a]? with
 |some d=>⟨a,dl d,d.looksAt b,qV b a,f,c⟩
 |none=>⟨a,[],[],[],f,c⟩
def Fm (d:bX bU):X->bp Hv->bp mi
 |_,[]=>[]
 |i,.a::e=>GZ d i [] []::Fm d (i+1) e
 |i,.b f::e=>GZ d i (f.map Jg) []::Fm d (i+1) e
 |i,.c f g::e=>GZ d i (f.map Jg) (g.map Jg)::Fm d (i+1) e
def tJ:cA->mO
 |.seq a b|.cond _ a b=>.two .none (tJ a) (tJ b)
 |.block _ a=>.one (tJ a)
 |.region _ c bt=>.draw ((bK c.size).map λd=>GZ c d [] [])
 |_=>.leaf
def B8:X->X->bp bd
 |0,_=>[]
 |k+1,a=>match a %5 with
  |1=>.deref::B8 k (a/5)
  |2=>.unst::B8 k (a/5)
  |3=>.fst::B8 k (a/5)
  |4=>.snd::B8 k (a/5)
  |_=>[]
def pj.ex:pj->cA->mO
 |.l,a=>tJ a
 |.o b,.block _ a=>.one (b.ex a)
 |.t J b c,.seq a e|.t J b c,.cond _ a e=>.two J (b.ex a) (c.ex e)
 |.n c,.seq a e|.n c,.cond _ a e=>.two .none (tJ a) (c.ex e)
 |.p j h b,.loop a=>.loop j h (b.ex a)
 |.k g b,a=>.keep g (b.ex a)
 |.z f b,a=>match f with
  |[q]=>bif b5 1000000 q then .fp (q %1000000) (B8 12 (q/1000000)) (b.ex a) else bif bL q 888888 then .Aj else .qJ f (b.ex a)
  |_=>.qJ f (b.ex a)
 |.d g,.region _ i _=>.draw (Fm i 0 g)
 |_,_=>.leaf
def zZ (E:fY):Type:={a:bp (X×jP)//∀b∈a,aG E b.2}
def aK {E:fY}:zZ E:=⟨[],TZ⟩
def al {E:fY} {a:jP} (c:aG E a) (b:zZ E):zZ E:=⟨(a.f,a)::b.1,agx c b.2⟩
section
variable {E:fY} {f:X} {fn:Func} {ps:bp hW} {C:bp ao} {D:hS ps->bA (jo ps (mb C))}
def aG.q (d:zZ E) (l:pj) (k:E.P.funcs[f]?=Y fn) (j:∀(h:akY) (i:bH),(amo f h).run E.P i=.ok (.enter f h) i) (g:bp (X×ao):=[]) (e:ak8:=[]) (a:(fn.body.isSome&&b5 ps.length fn.ntmps)=bt:=by kernel_rfl) (c:∀b,BA ⟨E.tt,d.1,g,fn.ntmps,kv 0 ps++oq (j1 0 ps),[],e,j1 0 ps,[],[],E.glob,E.eqs⟩ (l.ex (fn.body.getD .skip)) (fn.body.getD .skip) ps fn.results.toList C b=D b:=by intro b;kernel_rfl):aG E ⟨f,ps,C,D⟩:=
 have a:=cL _ _▸a
 aG.Q3 d.1 g e _ [] (λ_ c=>by cases c) k a.1 apH.symm a.2 j d.2 c
end
end
def lP (a:X):X×X:=bif cg (a %32) 28 then(a %32,a/32) else bif bL (a %32) 31 then(a/32 %134217728,a/4294967296) else((a %32-28)*256+a/32 %256+28,a/8192)
def oj {c:Type} (b:X->c×X):X->X->bp c×X
 |0,a=>([],a)
 |k+1,a=>match a %2 with
  |0=>([],a/2)
  |_=>match b (a/2) with
   |(x,t)=>match oj b k t with
    |(l,u)=>(x::l,u)
def Lz (a:bp ao) (b:X):ao×X:=match lP b with
 |(i,t)=>(a.getD i .nil,t)
def om {a b:Type} (c:X->a×X) (d:X->b×X) (e:X):(a×b)×X:=match c e with
 |(x,t)=>match d t with
  |(y,u)=>((x,y),u)
def aeW (b:bp ao) (a:X):(X×pu)×X:=match a %4 with
 |0=>match lP (a/4) with
  |(k,t)=>(mI k,t)
 |1=>match lP (a/4) with
  |(k,t)=>(CL k,t)
 |2=>match om lP (Lz b) (a/4) with
  |((k,x),t)=>((k,.v x),t)
 |_=>match om lP lP (a/4) with
  |((k,x),t)=>((k,.s (.ref x [])),t)
def Ch (a:bp ao) (b:X):nT×X:=match om (oj (aeW a) 99) (oj (om lP (Lz a)) 99) b with
 |((x,y),t)=>(⟨x,y⟩,t)
def aeV (b:bp ao) (a:X):Hz×X:=match a %3 with
 |0=>(.none,a/3)
 |1=>match om (oj lP 99) (Ch b) (a/3) with
  |((x,y),t)=>(.x x y,t)
 |_=>match om (oj lP 99) (Ch b) (a/3) with
  |((x,y),t)=>(.w4 x y,t)
def aeX (b:bp ao) (a:X):HA×X:=match a %3 with
 |0=>(.r,a/3)
 |1=>match om lP (Ch b) (a/3) with
  |((x,y),t)=>(.x x y,t)
 |_=>match om lP (Ch b) (a/3) with
  |((x,y),t)=>(.w4 x y,t)
def Lx (a:X):X×X:=match a %2 with
 |0=>match lP (a/2) with
  |(k,t)=>(k*32,t)
 |_=>match lP (a/64) with
  |(k,t)=>(k*32+a/2 %32,t)
def aeU (d:X):Hv×X:=match d %3 with
 |0=>(.a,d/3)
 |1=>match oj Lx 99 (d/3) with
  |(x,t)=>(.b x,t)
 |_=>match om (oj Lx 99) (oj Lx 99) (d/3) with
  |((x,y),t)=>(.c x y,t)
def uq (e:bp ao):X->X->pj×X
 |0,c=>(.l,c)
 |k+1,c=>match c %8 with
  |0=>(.l,c/8)
  |1=>match uq e k (c/8) with
   |(a,t)=>(.o a,t)
  |2=>match aeV e (c/8) with
   |(f,t)=>match uq e k t with
    |(a,t)=>match uq e k t with
     |(b,t)=>(.t f a b,t)
  |3=>match uq e k (c/8) with
   |(a,t)=>(.n a,t)
  |4=>match om (Ch e) (aeX e) (c/8) with
   |((x,y),t)=>match uq e k t with
    |(a,t)=>(.p x y a,t)
  |5=>match oj lP 99 (c/8) with
   |(x,t)=>match uq e k t with
    |(a,t)=>(.k x a,t)
  |6=>match oj lP 99 (c/8) with
   |(x,t)=>match uq e k t with
    |(a,t)=>(.z x a,t)
  |_=>match oj aeU 999 (c/8) with
   |(x,t)=>(.d x,t)
def Ly (b:bp ao) (c:X):pj×bp (X×ao)×ak8:=match uq b 999 c with
 |(a,t)=>match om (oj (om lP (Lz b)) 99) (oj (om lP lP) 99) t with
  |((x,y),_)=>(a,x,y)
def WA {b:Func} (h:p.funcs[a]?=Y b) (i:(b.name=="runtime.NumGoroutine")=br) (g:b.body.isSome=bt) (c:akY) (d:bH):(amo a c).run p d=.ok (.enter a c) d:=by have e:b.name≠"runtime.NumGoroutine":=(by simpa using i);obtain⟨j,f⟩:=HG.1 g;simp[amo,h,e,f,am1]
section
def ah {α:Type} (c:bA α) (b:α->Prop):Prop:=∃a,c=Y a/\b a
section
variable {α A σ ρ τ:Type}
theorem ah.ai {a:α} {b:α->Prop}:ah (Y a) b↔b a:=⟨λ⟨_,c,d⟩=>by grind,λc=>⟨a,bq,c⟩⟩
theorem ah.ue {a:α->Prop}:ah bv a↔False:=⟨(λ⟨_,b,_⟩=>by cases b),False.elim⟩
theorem ah.fe {x:bA α} {b:α->bA A} {a:A->Prop}:ah (x.bind b) a↔ah x (λc=>ah (b c) a):=by
 cases x with
 |none=>grind [ah.ue]
 |some c=>grind [ah.ai]
theorem ah.Ky {a:bA α} {c:α->A} {b:A->Prop}:ah (a.map c) b↔ah a (λd=>b (c d)):=by
 cases a with
 |none=>grind [ah.ue]
 |some d=>grind [ah.ai]
theorem ah.fi {b:bD} {c d:bA α} {a:α->Prop}:ah (bif b then c else d) a↔(b=bt->ah c a)/\(b=br->ah d a):=by grind
theorem ah.mono {c:bA α} {P b:α->Prop} (d:ah c P) (g:∀a,P a->b a):ah c b:=let⟨a,e,f⟩:=d;⟨a,e,g a f⟩
def ah.eq_iff {c:bA α} {b:α}:ah c (· =b)↔c=Y b:=⟨λ⟨e,a,d⟩=>by rw[a,d],λa=>⟨b,a,bq⟩⟩
theorem ah.Pt {a:bp α} {b:α->Prop}:ah (aq a P) b↔∃(d:P.toNat<a.length),0<=P/\b a[P.toNat]:=by
 unfold aq;by_cases c:0<=P
 ·rw[aB c];grind [amJ,ah.ue,bV,ah.ai]
 rw[aA c,ah.ue];grind
theorem ah.lh {b:bp α} {c:α->Prop}:ah (aq b (a:Z)) c↔∃(d:a<b.length),c b[a]:=by rw[ah.Pt];simp
theorem ah.FT:ah (bm a P) x↔(0<=P/\P.toNat<a)/\x P.toNat:=by
 unfold bm;by_cases b:0<=P/\P.toNat<a
 ·simp_all [aB,ah.ai]
 rw[aA b,ah.ue];simp[b]
theorem ah.yN {b:bw->Prop}:ah (cI a) b↔a<=h1/\b ():=by
 unfold cI;by_cases c:a<=h1
 ·simp_all [aB,ah.ai]
 rw[aA c,ah.ue];simp[c]
theorem ah.Kx {a:Z}:ah (fS P a) x↔(0<=P/\P<=a/\a<=(h1:Z))/\x P.toNat:=by
 unfold fS;by_cases b:0<=P/\P<=a/\a<=(h1:Z)
 ·simp_all [aB,ah.ai]
 rw[aA b,ah.ue];simp[b]
def ba (d:bp α) (c:X) (b:α->bA A):bA A:=match d[c]? with
 |some a=>b a
 |none=>bv
theorem ah.Dr {b:bp α} {d:α->bA A} {c:A->Prop}:ah (ba b a d) c↔∃(e:a<b.length),ah (d b[a]) c:=by grind [amJ,ah.ue,bV,ba]
theorem ah.loop {g:σ->bA (σ⊕ρ)} {f:ρ->Prop} (d:σ->Prop) (e:σ->X) {a:σ} (m:d a) (k:∀a,d a->ah (g a) (λ|.inl l=>d l/\e l<e a|.inr b=>f b)):ah (loop g a) f:=by
 have o:∀c a,e a<=c->d a->∃b,kE g (c+1) a=Y b/\f b:=by
  intro c
  induction c with
  |zero=>
   intro a n j;obtain⟨p,h,i⟩:=k a j;grind [kE]
  |succ c q=>
   intro a n j;obtain⟨p,h,i⟩:=k a j;grind [kE]
 obtain⟨b,h,i⟩:=o (e a) a (bg _) m;exact⟨b,yR.2 ⟨_,h⟩,i⟩
theorem ah.for {g:Z×τ->bA ((Z×τ)⊕ρ)} {f:ρ->Prop} (b:X) (d:X->τ->Prop) {i0:X} {l:τ} (n:P=(i0:Z)) (m:d i0 l) (j:i0<=b) (p:∀a c,i0<=a->a<b->d a c->ah (g ((a:Z),c)) (λ|.inl k=>k.1=((a+1:X):Z)/\d (a+1) k.2|.inr h=>f h)) (r:∀c,d b c->ah (g ((b:Z),c)) (λ|.inl _=>b7|.inr h=>f h)):ah (l0.loop g (P,l)) f:=by
 subst n;refine ah.loop (λe=>∃a:X,i0<=a/\a<=b/\e.1=(a:Z)/\d a e.2) (λe=>b-e.1.toNat) ⟨i0,bg _,j,bq,m⟩ ?_;rintro⟨s,c⟩ ⟨a,o,j,rfl,q⟩;rcases cY a b with i|i
 ·refine(p a c o i q).mono ?_;grind
 grind [mono]
end
theorem ahg (a:Z):bO.wrap a=if(9223372036854775808:Z)<=a %18446744073709551616 then a %18446744073709551616-18446744073709551616 else a %18446744073709551616:=by
 unfold amK;by_cases b:(9223372036854775808:Z)<=a %18446744073709551616
 ·rw[aB b];exact aB (show(bt&&bz (a %18446744073709551616>=(9223372036854775808:Z)))=bt by simp[b])
 rw[aA b];exact aA (show¬(bt&&bz (a %18446744073709551616>=(9223372036854775808:Z)))=bt by simp[b])
theorem wrap64 (a:-9223372036854775808<=P) (b:P<=9223372036854775807):bO.wrap P=P:=by grind [ahg]
theorem js (b:a<9223372036854775807):bO.wrap ((a:Z)+1)=((a+1:X):Z):=by grind [wrap64]
end
section
abbrev ar {α:Type} (a:bp α):Z:=((a.length:X):Z)
abbrev az (a:Z):Z:=bO.wrap a
abbrev aR (a:Z):Z:=bG.wrap a
abbrev eD (a:Z):Z:=ch.wrap a
abbrev aO (a:Z):Z:=bO.wrap (a+1)
def rd {α A:Type} (a:bp α) (c:Z) (e:α->bA A):bA A:=(bm a.length c).bind λd=>(ba a d λb=>Y b).bind e
def wr {α A:Type} (a:bp α) (c:Z) (e:α) (d:bp α->bA A):bA A:=(bm a.length c).bind λb=>(ba a b λ_=>Y (a.set b e)).bind d
section
variable {α A:Type}
def jM {b:bp α} (d:a<b.length) (c:α->bA A):rd b (a:Z) c=c b[a]:=by unfold rd bm;rw[aB ⟨aa,by simpa using d⟩];show(ba b (a:Z).toNat _).bind c=_;unfold ba;rw[gg,bh d];rfl
def aeY {b:bp α} {c:α} (e:0<=P) (d:b[P.toNat]?=Y c) (a:α->bA A):rd b P a=a c:=by obtain⟨f,g⟩:=ih.1 d;obtain⟨i,rfl⟩:=gB e;have h:i<b.length:=f;exact(jM h a).trans (b4 a g)
theorem lX {b:bp α} (d:a<b.length) (e:α) (c:bp α->bA A):wr b (a:Z) e c=c (b.set a e):=by unfold wr bm;rw[aB ⟨aa,by simpa using d⟩];show(ba b (a:Z).toNat _).bind c=_;unfold ba;rw[gg,bh d];rfl
end
end
end Go.l0
end
