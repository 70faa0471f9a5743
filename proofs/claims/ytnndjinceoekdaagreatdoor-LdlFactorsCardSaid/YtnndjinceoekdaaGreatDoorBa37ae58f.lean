/-
  Parts of the proof: Fw38, Fw22, Fw23, Fw26, Fw27, Fw28, Fw34, Fw35, Fw37, Fw42, Fw45, Fw24, Fw29, Fw31, Fw32, Fw33, Fw48, Fw39, Fw49, Fw30: the framework (Fw), pure forms (Dn), plain laws (Pl, Th), calls of functions (Ok).
-/
import Derived.Laws.StructEq
import Derived.Test.YtnndjinceoekdaaGreatDoorBc3df0493

set_option linter.all false
set_option maxHeartbeats 1000000
open _root_ renaming Nat->X,List->bm,Array->bU,Option->bv,rfl->bn,False->b6,and_true->b9,Unit->bt,Bool->bA,cond_true->bG,Int->Z,if_true->cj,cond_false->bP,dif_pos->ajr,congrArg->b4,true_and->ajF,decide_eq_true->aij
open Go renaming TypeId->bF,Oper->bR,Operand->bO,Exit->b5,World->bC,Program->b0,execOp->bN,resolve->aiW,ResultVar->aip,undef->bW,IntKind->cw,Field->aiE,sizeOf->ai2,zeroValue->aix,typeInfo->aiM,run_underlying->b8,newRow->aiX,builtin->ajc,MapEntry->cm,asIntOf->ajo,binOp->ait,eqGuard->ajb,getD_set_ne->alP
open Bool renaming true->bp,false->bq,true_and->ake,and_true->akU,false_and->alE
open Option renaming some->Y,none->bo,isSome_none->als,isSome_some->akJ,bind->bB,bind_eq_some_iff->ajv,map_eq_some_iff->amz
open Option.some renaming inj->ai1,injEq->aju
open Go.jg.c8 renaming refl->cq,of_heap->alC
open Go.jg.aW renaming here->ajN,gv->aiJ
open Go.jg renaming kill->aiz,run_getObj_map->ajP
open Go.Sem renaming run_bind->bY,run_pure->cx
open Go.Result renaming andThen_ok->b1,ok->amy
open Go.Oper renaming wp->ais,upon_value->amB
open List renaming mem_flatten->ajE,mem_of_getElem?->aiw,flatten_cons->ajt,all_nil->alB,all_eq_true->ajm,replicate->bJ,any_eq_false->alD,map_congr_left->aiy,map_id'->alF,length->aiq,mem_singleton->aik,drop_drop->aj3,range->bI,length_append->aiP,length_take->air,length_drop->alJ,map_toArray->akM,map_nil->ajs,getElem?_take->akC,getElem_mem->b7,getElem?_eq_getElem->bS,getElem?_eq_some_iff->aiV,getElem?_inj->akK,mem_append_left->amx,mem_append_right->akR,append_eq_nil_iff->aln,filter_eq_self->ajH,filter->akh,length_eq_zero_iff->alR
open Pure renaming pure->ajp
open Array renaming mapM_eq_mapM_toList->alq,replicate->alA,getD_eq_getD_getElem?->alz,map->akG,mem_append_right->aiY
open Go.Value.slice renaming injEq->aio
open List.Perm renaming append_left->akT
open Nat renaming beq->bH,eq_of_beq_eq_true->ai0,blt->ca,ble->b2,lt_irrefl->akf,mul_one->ajO,beq_refl->aka,lor->alN,testBit_or->amA,testBit_two_pow->alO
open Go.jg.ak renaming ids->bT,oi->ajd,fo->aiv
open BitVec renaming ofInt->ck
open Int renaming toNat_of_nonneg->amv
open Go.World renaming cell?->ajq,frozen?_setCells->aly,cell?_setCells_in->akd,cell?_setCells_out->akQ
open Go.jg.a7 renaming size->alG
open Go.jg.ah renaming size->aiG
open Go.jg.e0 renaming eval->ai4
open Go.jg.hj renaming alloc->ai5
open Go.Instr renaming box->akF,mapEntry->alK,mapUpdate->ai3,keyThatStays->ajJ,sameBits->alu,entryStore->amw,sureAddr->ajG
open Go.jg.fq renaming alloc->alH
open Go.jg.iC renaming alloc->alI
open Go.jg.aS renaming pure->aje
open Go.Value renaming map->ajK,int->aiu,nilFunc->ajw
open Go.MapEntry renaming mk->akz
open Go.Result.ok renaming injEq->alL
open Go.Op renaming equalIn->ajn,equal->aj4,maxDepth->aj5,eqFields->akV,operands->bV
open Go.jg.Yields renaming wp->akg
open Go.Addr renaming add_lit->aja
open Go.Addr.mk renaming injEq->aiD
open Go.jg.ia renaming op->ajQ
open Go.Call renaming operands->aiS
open Go.Region renaming binds->alM,ready->alQ,wanted->akS
noncomputable section
namespace Go.jg
variable{a m:X}{b:Type}{c r:bF}{d t:ak}{e:bm (X×aG)}{f w:aie}{g:bm (X×bm aZ)}{h:bR}{i:aO}{j:bm aZ}{k Q:ah}{l:bm (X×ah)}{n N:bO}{o:b5->Act->bC->Prop}{p:b0}{s:bU (X×bO)}{u:aO->Prop}{v:bC}{x:X->ah8}{y:X->aie}{z:b5->aO->Prop}{O:X->Prop}{P:aG}{R:ah8}{S:Value}{T:bm (X×ak)}{U:eD->X->Prop}{V:bO->ak}
section
def tw:bm ak->aib->bv (X×bm aZ)
 |.ref id (c::b)::_,bp::_=>Y (id,c::b)
 |_::as,_::a=>tw as a
 |_,_=>bo
def qm (id:X) (a:ak):ak:=bif a.fo [id] then .dead else a
def mC (id:X):bm ak->aib->bm ak
 |.ref _ (_::_)::as,bp::_=>.ref id []::as.map (qm id)
 |a::as,_::b=>qm id a::mC id as b
 |as,_=>as.map (qm id)
def kJ {a:Type} (c:X->a) (d:X) (e:a):X->a:=λb=>if b=d then e else c b
theorem nR {d:X->b} {c:b}:kJ d a c a=c:=by simp[kJ]
theorem k7 {c:X->b} {e:b} (d:a≠m):kJ c m e a=c a:=by simp[kJ,d]
section
variable {E:fA} {C:eY} {st:aO} {A:ah6} {w w':bC} {I I':X->Prop} {rt:X->ah8} {fp:X->aie}
theorem s1 {id:X} (a:X):ar ((id,P)::del [id] e) a=if id=a then Y P else ar e a:=by
 rw[ey];split
 ·rfl
 rename_i b;rw[mV,az (by grind)]
theorem cN.split (e:cN C st A w I rt fp) {id:X} (n:ar st.h id=Y P) {j:k.den} {z:aie} (E:aS (bb I C.B) w k R j f) (v:(fp id).Perm (f++z)):cN C ⟨[],(id,⟨k,j⟩)::del [id] st.h⟩ A w I (kJ rt id R) (kJ fp id f):=by
 obtain⟨_,F,G⟩:=e.tree id P n;have r:∀c∈f,c∈fp id:=λc d=>v.mem_iff.2 (by grind);have l:∀a b,ar ((id,(⟨k,j⟩:aG))::del [id] st.h) a=Y b->(a=id/\b=⟨k,j⟩)\/(a≠id/\ar st.h a=Y b):=λa b q=>(by grind [ai1,s1]);refine{e with tree:=?_,dis:=?_,tmp:=λa=>.dead _}
 ·intro a b q;rcases l a b q with⟨rfl,rfl⟩|⟨g,i⟩
  ·grind [List.nodup_append,nR]
  rw[k7 g,k7 g];exact e.tree a b i
 intro x y b D t u m c d;rcases l x b t with⟨rfl,rfl⟩|⟨g,i⟩<;>rcases l y D u with⟨rfl,rfl⟩|⟨o,p⟩
 ·omega
 ·rw[nR] at d;rw[k7 o];exact e.dis _ _ _ _ n p m c (r c d)
 ·rw[k7 g] at d;rw[nR];exactλs=>e.dis _ _ _ _ i n m c d (r c s)
 rw[k7 g] at d;rw[k7 o];exact e.dis _ _ _ _ i p m c d
def cP.qm (l:cN C st A w I rt fp) {id:X} {q:aG} {i:ah8} {j:aie} {a:ak} {f:Value} (k:cP (bb I C.B) w st.h rt fp a f):cP (bb I C.B) w ((id,q)::del [id] st.h) (kJ rt id i) (kJ fp id j) (qm id a) f:=by
 unfold jg.qm;cases o:a.fo [id] with
 |true=>exact .dead _
 |false=>
  refine k.s9 (λr g n=>⟨n,cq _ _⟩) (λd m p e=>?_);have c:d≠id:=λb=>Kp o d m (by simp[b]);refine⟨?_,k7 c,k7 c,(l.tree d p e).1,λg _=>cq _ _⟩;rw[s1,az (λb=>c b.symm)];exact e
theorem SX (p:cN C st A w I rt fp) {id:X} (F:ar st.h id=Y P) {y:k.den} {u:Loc} {f:aie} {r:aZ} (D:aW w P.1 bo (rt id) (r::j) k u R):∀{d:bm ak} {c:aib} {a:ah8},iv (cP (bb I C.B) w st.h rt fp) d a->tw d c=Y (id,r::j)->iv (cP (bb I C.B) w ((id,⟨k,y⟩)::del [id] st.h) (kJ rt id R) (kJ fp id f)) (mC id d c) a:=by
 have G:∀{d:bm ak} {a:ah8},iv (cP (bb I C.B) w st.h rt fp) d a->iv (cP (bb I C.B) w ((id,⟨k,y⟩)::del [id] st.h) (kJ rt id R) (kJ fp id f)) (d.map (jg.qm id)) a:=by
  intro d
  induction d with
  |nil=>intro a b;cases a with|nil=>trivial|cons=>exact b.elim
  |cons e n o=>intro a b;cases a with|nil=>exact b.elim|cons H a=>exact⟨b.1.qm p,o b.2⟩
 intro d
 induction d with
 |nil=>intro c a _ b;cases c<;>cases b
 |cons e n o=>
  intro c a b i;cases a with
  |nil=>exact b.elim
  |cons H a=>
  cases c with
  |nil=>cases e<;>first|(cases i;done)|(rename_i m g;cases g<;>cases i)
  |cons l c=>
   by_cases z:∃m s g,e=.ref m (s::g)/\l=bp
   ·obtain⟨m,s,g,rfl,rfl⟩:=z;simp only[tw,eS,ie,hN] at i;obtain⟨rfl,rfl,rfl⟩:=i;have x:=b.1;cases x with|ref q E=>
    rw[F] at q;cases q;obtain⟨rfl,rfl,rfl⟩:=E.lw D;refine⟨.ref (t:=⟨_,y⟩) (loc:=bo) (by rw[s1,au bn]) ?_,G b.2⟩;rw[nR];exact ajN
   have aq:tw (e::n) (l::c)=tw n c:=by cases e<;>first|rfl|(rename_i m g;cases g<;>cases l<;>first|rfl|grind)
   have v:mC id (e::n) (l::c)=jg.qm id e::mC id n c:=by cases e<;>first|rfl|(rename_i m g;cases g<;>cases l<;>first|rfl|grind)
   rw[aq] at i;rw[v];exact⟨b.1.qm p,o b.2 i⟩
theorem nk.abx (J:cN C st A w I rt fp) {id:X} (z:ar st.h id=Y P) {x:k.den} (eq:eN P.1 P.2 j k x) {av:Loc} (co:aW w P.1 bo (rt id) j k av R):∃p u,aS (bb I C.B) w k R x p/\(fp id).Perm (p++u)/\∀{w':bC} {I':X->Prop} {s:aie} {K:bm (X×bm aZ)} {D:bm (X×aG)} {N:X->ah8} {E:X->aie} {O:k.den} {t:P.1.den},nk C ⟨[],(id,⟨k,x⟩)::del [id] st.h⟩ w w' I I' (kJ rt id R) (kJ fp id p) s K D N E->id∈s->ar D id=Y ⟨k,O⟩->(id,[])∈K->(∀m∈K,m.2=[])->fa P.1 P.2 j k O t->∃d0 d6,nk C st w w' I I' rt fp s ((id,j)::K) ((id,⟨P.1,t⟩)::D) d0 d6/\∀l,l≠id->d0 l=N l:=by
 obtain⟨f3,ds,f4⟩:=J.tree id P z;obtain⟨hw,gc,p,u,d7,d8,d9,G,gi,ek,el⟩:=z8 j (loc:=bo) f3 (λ_ _ b=>by cases b) ds (λ_ _ b=>by cases b) (J.notM z) eq;obtain⟨_,rfl,rfl⟩:=co.lw d7;refine⟨p,u,d8,G,λ{w' I' s K D N E O t} f bs V q fl cs=>?_⟩;have hr:∀a∈p,a∈fp id:=λa c=>G.mem_iff.2 (by grind);have gs:=jO.1 (G.nodup_iff.1 ds);have M:∀a,(∃d∈s,∃e,ar ((id,(⟨k,x⟩:aG))::del [id] st.h) d=Y e/\a∈kJ fp id p d)->∃d∈s,∃e,ar st.h d=Y e/\a∈fp d/\(d=id->a∈p):=by
  rintro a ⟨d,o,e,g,c⟩;by_cases m:d=id
  ·grind [nR]
  rw[s1,az (λd5=>m d5.symm)] at g;grind [k7]
 have am:∀a∈u,a<w.heap.size/\¬∃d∈s,∃e,ar ((id,(⟨k,x⟩:aG))::del [id] st.h) d=Y e/\a∈kJ fp id p d:=λa c=>by
  have L:a∈fp id:=G.mem_iff.2 (by grind);refine⟨(f4 a L).2.2.1,λb=>?_⟩;obtain⟨d,_,e,g,n,H⟩:=M a b;by_cases m:d=id
  ·grind
  exact J.dis d id e P g z m a n L
 have S:∀a∈u,w'.heap[a]?=w.heap[a]?:=λa c=>f.heap a (am a c).1 (λd o e g b=>(am a c).2 ⟨d,o,e,g,b⟩);have gl:∀F a,bb I C.B F a->c8 w w' a:=λF a U=>.of_heap (f.heap a (J.ib a (mW U)) (λd o e g b=>by
  obtain⟨d,_,e,g,n,_⟩:=M a ⟨d,o,e,g,b⟩;exact J.notM g a n F U))
 obtain⟨_,an,ic,f2⟩:=f.tree id _ V;obtain⟨v,hs,_,cv,_⟩:=f.keep _ q ⟨k,x⟩ (by rw[s1,au bn]);simp only[nR] at cv;rw[cv] at an;have d4:∀a,c8 w w' a->rV w w' av k.size a:=λa b=>⟨λr _=>(b.1 r).1,λr=>(b.1 r).2,λr=>by rw[(b.1 r).1],b.2⟩;obtain⟨ge,a3,fT,_,f1,_,c1,_,f0⟩:=ek w' (bb I' C.B) R O (E id) t (λF a c=>by cases F;exact f.i a c;exact c.imp (f.i a) (λb=>b)) (by
   rintro a (⟨F,U⟩|c|⟨c2,hc⟩)
   ·grind
   ·exact d4 a (.of_heap (S a c))
   grind) an (λ_ _=>rfl)
  (λa c2 fn=>by
   have c:a∈u:=(by grind);exact(d9 a c2 fn).1.sm (.of_heap (S a c))) cs
 obtain rfl:=f1 bn (.inr bn);have Q:∀a∈a3,a∈E id\/a∈u:=λa c=>h9.1 (c1.mem_iff.1 c);have gt:∀l e,ar D l=Y e->∀a∈E l,a∉u:=λl e q a c hi=>by
  rcases((f.tree l e q).2.2.2 a c).2.2 with b|b
  ·grind
  grind
 have ad:∀l v,ar ((id,(⟨P.1,t⟩:aG))::D) l=Y v->(l=id/\v=⟨P.1,t⟩)\/(l≠id/\ar D l=Y v):=λl v q=>(by rw[ey] at q;grind);have ci:∀a,(w.heap.size<=a\/∃d∈s,∃e,ar ((id,(⟨k,x⟩:aG))::del [id] st.h) d=Y e/\a∈kJ fp id p d)->w.heap.size<=a\/∃d∈s,∃e,ar st.h d=Y e/\a∈fp d:=λa b=>b.imp (λb=>b) (λb=>by
  obtain⟨d,o,e,g,n,_⟩:=M a b;grind)
 refine⟨kJ N id (rt id),kJ E id a3,⟨f.size,f.os,f.tape,f.output,?_,f.evo,f.i,?_,?_,?_,?_,?_⟩,λl q=>k7 q⟩
 ·intro a c go;refine f.heap a c (λd o e g b=>?_);obtain⟨d,o,e,g,n,_⟩:=M a ⟨d,o,e,g,b⟩;grind
 ·intro a c;exact(f.i2 a c).imp (λb=>b) (λb=>⟨b.1,ci a b.2⟩)
 ·intro l v q;rcases ad l v q with⟨rfl,rfl⟩|⟨n,H⟩
  ·rw[nR,nR];refine⟨.inl bs,fT,?_,λa c=>?_⟩
   ·grind
   rcases Q a c with c|c
   ·obtain⟨d1,d2,d3⟩:=f2 a c;grind
   have L:a∈fp l:=G.mem_iff.2 (by grind);refine⟨λo=>?_,i9 (am a c).1 f.size,.inr ⟨l,bs,P,z,L⟩⟩;rcases f.i2 a o with b|⟨_,b|b⟩
   ·grind
   ·grind
   grind
  rw[k7 n,k7 n];obtain⟨f5,d1,d2,d3⟩:=f.tree l v H;refine⟨f5.imp (λb=>b) (λb=>?_),d1,d2,λa c=>?_⟩
  ·have b:ar ((id,(⟨k,x⟩:aG))::del [id] st.h) l=bo:=b;rw[s1,az (λm=>n m.symm)] at b;exact b
  obtain⟨v1,fv,ap⟩:=d3 a c;exact⟨v1,fv,ci a ap⟩
 ·intro d r f6 f7 o ex T a c;rcases ad d f6 o with⟨rfl,rfl⟩|⟨n,H⟩<;>rcases ad r f7 ex with⟨rfl,rfl⟩|⟨a4,bl⟩
  ·omega
  ·rw[nR] at c;rw[k7 a4];rcases Q a c with c|c
   ·exact f.dis d r _ _ V bl T a c
   grind
  ·rw[k7 n] at c;rw[nR];intro b;rcases Q a b with b|b
   ·exact f.dis d r _ _ H V T a c b
   grind
  rw[k7 n] at c;rw[k7 a4];exact f.dis d r _ _ H bl T a c
 ·intro m y e g;rcases fR.1 y with rfl|y
  ·rw[z] at g;cases g;exact⟨⟨P.1,t⟩,by rw[ey,au bn],bn,nR,⟨_,co.ty⟩,f0⟩
  by_cases aq:m.1=id
  ·rw[aq,z] at g;cases g;refine⟨⟨P.1,t⟩,by rw[ey,au aq.symm],bn,by grind [nR],⟨P.1,by rw[fl m y];cases P.1<;>rfl⟩,λdl _ _ _ q=>?_⟩;grind [Ej]
  obtain⟨v1,fv,ap,v4,f8,Kr⟩:=f.keep m y e (by rw[s1,az (λb=>aq b.symm)];omega);rw[k7 aq] at v4 Kr;exact⟨v1,by rw[ey,az (λb=>aq b.symm)];exact fv,ap,by grind [k7],f8,Kr⟩
 intro m y e g dl io ii hv f9 gf bx ft fs ce fz;rcases fR.1 y with rfl|y
 ·rw[z] at g;cases g;refine⟨⟨P.1,t⟩,by rw[ey,au bn],uP bx cs ce,λa0 em=>?_⟩;obtain⟨aw,an⟩:=el dl _ _ _ _ _ bx (by exact ft) ce fs fz a0 em;rw[nR];exact⟨c1.mem_iff.2 (lm _ aw),.of_heap (S a0 aw)⟩
 grind [uO]
theorem e0.sub {v:bR} {t:bm ak} {i S:bU _} (dl:v.op=.call {callee:=.value n,args:=i,argTypes:=S}) (d8:aT st.g n=.eB m t) (ce:v.dst=Y a) (ci:C.ok a) (fz:∀(R:ah6) (w:bC),(callFunc m R).run E.P w=.ok (.enter m R) w) {b:bm hG} {e:bm aG} (bs:rU E m b e) (d3:pb 0 b=bo) (am:∀F,C.I0 F\/C.B F->F<C.w0.heap.size/\¬C.F0 F) (an:lg E C.I0 C.w0) {id:X} {j:aG} (s:ar st.h id=Y j) {A:aZ} {p:bm aZ} {D:k.den} (O:eN j.1 j.2 (A::p) k D) {J:aib} (d4:tw (i.toList.map (aT st.g)++t) J=Y (id,A::p)) {c:bm ak} (a4:c=mC id (i.toList.map (aT st.g)++t) J) (a3:oF ((id,⟨k,D⟩)::del [id] st.h) (gn c b) c b) (G:nv a ⟨[],(id,⟨k,D⟩)::del [id] st.h⟩ c b e=bp) (a0:id∈gn c b) (ap:id∈mr c b) {y':k.den} {z:j.1.den} (cs:ar (j0 c b++iU a (iR e) 0 e) id=Y ⟨k,y'⟩) (d2:fa j.1 j.2 (A::p) k y' z) (r:u ⟨(a,vy a e)::aiz (gn c b) ((id,A::p)::xx (mr c b)) st.g,((id,⟨j.1,z⟩)::(j0 c b++iU a (iR e) 0 e))++del (gn c b) st.h⟩):e0 E C v st u:=by
 rintro d w ⟨I,rt,fp,l⟩ next ex c2
 obtain⟨o,d7,ad⟩:∃o:ah6,d.eval n=.func (.func m) #[] o/\iv (cP (bb I C.B) w st.h rt fp) t o.toList:=by
  have H:=l.aT n;rw[d8] at H;generalize f2:d.eval n=f8 at H;cases H with|eB f0 fT=>
  grind [yJ]
 have bl:iv (cP (bb I C.B) w st.h rt fp) (i.toList.map (aT st.g)++t) (i.toList.map d.eval++o.toList):=Gh (Gi (λn=>l.aT n) _) ad;obtain⟨ek,el,f4⟩:=l.tree id j s;obtain⟨eq,fl,_,_,K,_⟩:=D0 (A::p) (loc:=bo) ek (λ_ _ r=>by cases r) el (λ_ _ r=>by cases r) (l.notM s) O;obtain⟨U,f5,aw,d9,ds⟩:=nk.abx l s O K;have M:=l.split s aw d9;have N:=SX (y:=D) (f:=U) l s K bl d4;rw[<-a4] at N;have bx:=M.call N bs a3 G (λ_ _=>by rw[d3];trivial) (M.glob am an);have d1:(bN d.eval v).run E.P w=.ok (.enter m (i.toList.map d.eval++o.toList).toArray) w:=(by have aq:i.map d.eval=(i.toList.map d.eval).toArray:=(by rw[<-Array.toList_map]);have T:(i.toList.map d.eval++o.toList).toArray=(i.toList.map d.eval).toArray++o:=ac;rw[T];simp only[bN,dl,aiW,aq,bY,d7,Deferred.ofValue,cx,b1,invoke,Array.empty_append,Array.append_empty];grind);unfold ais;rw[d1];show Calls E.P m _ w _;refine bx.mono ?_;rintro q w' ⟨I',f6,fn,em,rfl,d5,d0⟩;show next (d.put v.dst (qg em)) w'
 rw[ce];obtain⟨f7,fs,d6,f1⟩:=ds d5 a0 cs (eZ.2 ⟨id,ap,bn⟩) (λq co=>by obtain⟨f3,_,rfl⟩:=eZ.1 co;rfl) d2;simp only[nv,bk,g0] at G;have cv:=jr.ok G.1.2;refine c2 _ _ _ r bn ⟨I',_,_,(l.eC d6).put ci (av:=vy a e) (d0 _ _ _ (λx Q=>?_))⟩;have V:=Qg cv x Q;have L:=G.2 x Q;have c1:x.1≠id:=λq=>(by rw[q,s1,au bn] at L;cases L);have ft:ar ((id,(⟨j.1,z⟩:aG))::(j0 c b++iU a (iR e) 0 e)) x.1=Y x.2:=(by rw[ey,az (λq=>c1 q.symm)];exact V);grind [kA,fh]
end
end
section
def jC:X->bm hG->bm (X×ak)
 |_,[]=>[]
 |k,.v b::a=>(k,.val b.1 b.2)::jC (k+1) a
 |k,.m _ _::a=>(k,.ref k [])::jC (k+1) a
 |k,.o _::a=>(k,.ref k [])::jC (k+1) a
 |k,.n::a=>(k,.dh (.slice bo 0 0))::jC (k+1) a
 |k,.w _ _ e d _::a=>(k,.view k [] e d)::jC (k+1) a
 |k,.s _ _::a=>jC (k+1) a
 |k,.c f g::a=>(k,.eB f (g.map λb=>.val b.1 b.2))::jC (k+1) a
def j5:X->bm hG->bm (X×aG)
 |_,[]=>[]
 |k,.v _::a=>j5 (k+1) a
 |k,.m b _::a=>(k,b)::j5 (k+1) a
 |k,.o b::a=>(k,b)::j5 (k+1) a
 |k,.w e d _ _ _::a=>(k,⟨.osl e,d⟩)::j5 (k+1) a
 |k,.c _ _::a=>j5 (k+1) a
 |k,.n::a=>j5 (k+1) a
 |k,.s _ _::a=>j5 (k+1) a
def hQ:X->bm hG->aie
 |_,[]=>[]
 |k,.m _ _::a=>k::hQ (k+1) a
 |k,.w _ _ _ _ _::a=>k::hQ (k+1) a
 |k,_::a=>hQ (k+1) a
def tY (a:eY):bv ec->Prop
 |none=>True
 |some (c,g,d)=>c∈a.pin/\(∀h∈d,h∈a.pin)/\∃b e f,a.vs c=.pointer (Y ⟨b,e,bo⟩)/\b<a.w0.heap.size/\¬a.F0 b/\a.w0.cell? ⟨b,e,bo⟩=Y (.func (.func g) #[] f)/\f.toList=d.map a.vs
def nQ:bv ec->aie
 |none=>[]
 |some (a,_,b)=>a::b
def r9 (j:b0) (e:aO) (a:aG):aip->aie->Prop
 |.tmp m,c=>match gt e.g m with
  |.val i n=>(⟨i,n⟩:aG)=a/\c=[]
  |.dh f=>iJ a.1 f.cells.toList=Y a.2/\cW a.1 f.cells.toList=f/\c=[]
  |.ref id d=>c=[id]/\∃b,ar e.h id=Y b/\eN b.1 b.2 d a.1 a.2
  |_=>b6
 |.cell l k,c=>fi j a.1 k/\match gt e.g l with
  |.ref id d=>c=[id]/\∃b i,ar e.h id=Y b/\fm b.1 d=Y (.optr i)/\eN b.1 b.2 (d++[.deref]) a.1 a.2
  |_=>b6
def tX (b:b0) (d:aO):bm aip->bm aG->aie->Prop
 |[],[],a=>a=[]
 |r::f,e::g,a=>e.1.fW=bp/\∃i1 c,a=i1++c/\r9 b d e r i1/\tX b d f g c
 |_,_,_=>b6
def pA (a:aO):X->bm hG->Prop
 |_,[]=>True
 |k,.m c l::b=>(gt a.g k=.ref k []/\ar a.h k=Y ⟨c.1,l⟩/\c.1.fW=bp/\rQ c.1=bp)/\pA a (k+1) b
 |k,.w i j e d f::b=>(gt a.g k=.view k [] e d/\ar a.h k=Y ⟨.osl i,f⟩/\(i.fW=bp/\e<d)/\f.length=j.length)/\pA a (k+1) b
 |k,_::b=>pA a (k+1) b
def KK (e:b0) (a:bm hG) (g:bm aip) (f:bm aG) (b:b5) (d:aO):Prop:=
 (b=.normal\/b=.ret)/\∃c,tX e d g f c/\jr (hQ 0 a++c)=bp/\pA d 0 a
section
variable {E:fA}
theorem TQ {h:X->Prop} {b:bm aG} (g:iv (yl h O v) b R):cP (bb h O) v e x y (.eB a (b.map λc=>.val c.1 c.2)) (.func (.func a) #[] R.toArray):=by
 have q:=La g;refine .eB (by grind) (λf o j d i=>?_);have k:∀{b:bm aG} {R:ah8} {f:X} {c:aG} {j:Value},iv (yl h O v) b R->b[f]?=Y c->R[f]?=Y j->yl h O v c j:=by
  intro b
  induction b with
  |nil=>grind
  |cons s b n=>
   intro R f c j g d i;cases R with
   |nil=>grind
   |cons r R=>
    cases f with
    |zero=>simp only[qD,eS] at d i;subst d i;exact g.1
    |succ f=>exact n g.2 (by simpa using d) (by grind)
 rw[jh] at d;obtain⟨c,m,rfl⟩:=fC.1 d;obtain⟨p,rfl,l⟩:=k g m (by simpa using i);exact .val l
theorem Lo {q p:X->Prop} {w:bC}:∀{k:X} {d:bm hG} {D:ah8} {x:ev},mg (yi q p w) d D x->∃(h:X->ah8) (e:X->aie),(∀id b,ar (j5 k d) id=Y b->k<=id/\(∃u,x[id-k]?=Y u/\e id=u)/\aS (bb q p) w b.1 (h id) b.2 (e id))/\(∀a,gt (jC k d) (k+a)=.dead\/∃v,D[a]?=Y v/\cP (bb q p) w (j5 k d) h e (gt (jC k d) (k+a)) v)/\(∀a,a<k->gt (jC k d) a=.dead)
 |k,[],D,x,t=>⟨λ_=>[],λ_=>[],(λid b t=>by cases t),λa=>.inl bn,λa _=>rfl⟩
 |k,j::d,[],x,t=>t.elim
 |k,j::d,v::D,[],t=>t.elim
 |k,j::d,v::D,u::x,t=>by
  obtain⟨A,T⟩:=t;obtain⟨h,e,i1,H,Q⟩:=Lo (k:=k+1) T;have I:∀id b,ar (j5 (k+1) d) id=Y b->k<=id/\(∃E,(u::x)[id-k]?=Y E/\e id=E)/\aS (bb q p) w b.1 (h id) b.2 (e id):=λid b P=>(by grind);have M:∀(b:aG) (r:ah8) (J:ak),(∀(z:bm (X×aG)) (C:X->ah8) (F:X->aie),ar z k=Y b->C k=r->cP (bb q p) w z C F J v)->aS (bb q p) w b.1 r b.2 u->j5 k (j::d)=(k,b)::j5 (k+1) d->jC k (j::d)=(k,J)::jC (k+1) d->_:=λb r J f l aq O=>by
   refine(⟨λG=>if G=k then r else h G,λG=>if G=k then u else e G,?_,?_,?_⟩:∃(h:X->ah8) (e:X->aie),(∀id b,ar (j5 k (j::d)) id=Y b->k<=id/\(∃E,(u::x)[id-k]?=Y E/\e id=E)/\aS (bb q p) w b.1 (h id) b.2 (e id))/\(∀a,gt (jC k (j::d)) (k+a)=.dead\/∃i,(v::D)[a]?=Y i/\cP (bb q p) w (j5 k (j::d)) h e (gt (jC k (j::d)) (k+a)) i)/\(∀a,a<k->gt (jC k (j::d)) a=.dead))
   ·grind [ey]
   ·intro a;rw[O,iQ];cases a with
    |zero=>
     right;refine⟨v,bn,?_⟩;rw[au aa];exact f _ _ _ (by rw[aq,ey,au bn]) (by grind)
    |succ a=>
     rw[az aa,(aa:k+(a+1)=k+1+a)];refine(H a).imp id ?_;rintro⟨i,aw,g⟩;refine⟨i,by grind,?_⟩;refine g.s9 (λm K U=>⟨U,cq w K⟩) (λid _ am P=>?_);obtain⟨bl,_,bs⟩:=i1 id am P;have an:¬id=k:=aa;have ap:¬k=id:=aa;simp_all [ey,az,cq]
   intro a y;rw[O,iQ,az aa];grind
  cases j with
  |v b=>
   obtain⟨rfl,r,f,l⟩:=A;refine⟨h,e,I,λa=>?_,λa y=>?_⟩
   ·show gt ((k,_)::_) _=_\/_;rw[iQ];cases a with
    |zero=>
     right;refine⟨v,bn,?_⟩;show cP _ _ _ _ _ (gt ((k,_)::_) _) _;rw[iQ,au aa,f];exact .val l
    |succ a=>
     rw[az aa,(aa:k+(a+1)=k+1+a)];refine(H a).imp id ?_;rintro⟨i,aw,g⟩;refine⟨i,by grind,?_⟩;show cP _ _ _ _ _ (gt ((k,_)::_) _) _;rw[iQ,az aa];exact g
   show gt ((k,_)::_) _=_;rw[iQ,az aa];grind
  |n=>
   obtain⟨rfl,f⟩:=A;refine⟨h,e,I,λa=>?_,λa y=>?_⟩
   ·show gt ((k,_)::_) _=_\/_;rw[iQ];cases a with
    |zero=>
     right;refine⟨v,bn,?_⟩;show cP _ _ _ _ _ (gt ((k,_)::_) _) _;rw[iQ,au aa,f];exact .dh _
    |succ a=>
     rw[az aa,(aa:k+(a+1)=k+1+a)];refine(H a).imp id ?_;rintro⟨i,aw,g⟩;refine⟨i,by grind,?_⟩;show cP _ _ _ _ _ (gt ((k,_)::_) _) _;rw[iQ,az aa];exact g
   show gt ((k,_)::_) _=_;rw[iQ,az aa];grind
  |s av a3=>
   refine⟨h,e,I,λa=>?_,λa y=>Q a aa⟩;cases a with
   |zero=>exact .inl (Q k aa)
   |succ a=>
    have y:=H a;rw[(aa:k+1+a=k+(a+1))] at y;refine y.imp id ?_;rintro⟨i,aw,g⟩;exact⟨i,by grind,g⟩
  |c n bx=>
   obtain⟨rfl,ce,f,l⟩:=A;refine⟨h,e,I,λa=>?_,λa y=>?_⟩
   ·show gt ((k,_)::_) _=_\/_;rw[iQ];cases a with
    |zero=>
     right;refine⟨v,bn,?_⟩;show cP _ _ _ _ _ (gt ((k,_)::_) _) _;rw[iQ,au aa,f];exact TQ l
    |succ a=>
     rw[az aa,(aa:k+(a+1)=k+1+a)];refine(H a).imp id ?_;rintro⟨i,aw,g⟩;refine⟨i,by grind,?_⟩;show cP _ _ _ _ _ (gt ((k,_)::_) _) _;rw[iQ,az aa];exact g
   show gt ((k,_)::_) _=_;rw[iQ,az aa];grind
  |m b ci=>obtain⟨r,f,l⟩:=A;exact M b r (.ref k []) (λz C F aw g=>by subst f;exact .ref (loc:=bo) aw (by grind [ajN])) l bn rfl
  |o b=>obtain⟨r,f,l⟩:=A;exact M b r (.ref k []) (λz C F aw g=>by subst f;exact .ref (loc:=bo) aw (by grind [ajN])) l bn rfl
  |w S R B L co=>
   obtain⟨K,o,N,f,⟨a4,V,ad⟩,l⟩:=A;refine M ⟨.osl S,R⟩ _ (.view k [] B L) (λz C F aw g=>?_) l bn rfl;have a0:cP (bb q p) w z C F (.view k [] B L) (.slice (Y ⟨K,if N=B then o else o+B*S.size,bo⟩) (L-B) (N-B)):=.view (loc:=bo) (len:=R.length) aw (by grind [ajN]) aa V ad;grind
theorem XY {a:ev} (g:a.flatten.Nodup):(∀(c:X) b,a[c]?=Y b->b.Nodup)/\∀(c e:X) b d,a[c]?=Y b->a[e]?=Y d->c≠e->∀f∈b,f∉d:=by
 induction a with
 |nil=>grind
 |cons i a h=>
  simp only[lQ,jO] at g;grind [List.getElem?_cons_zero,aju,ajE,aiw]
def A1 (b:ah6):aip->Sem Value
 |.tmp a=>ajp (b.getD a bW)
 |.cell c a=>do loadVar a (<-asAddr (b.getD c bW))
def acS {f:Func} {e:bm aip} (h:f.results=e.toArray) (c:ah6) (a:bC) (i:(e.mapM (A1 c)).run p a=.ok R a):(results f c).run p a=.ok (qg R) a:=by
 unfold results;simp only[bY,h];rw[alq,Sem.run_map];have j:∀b:aip->Sem Value,(∀d,b d=A1 c d)->(e.mapM b).run p a=.ok R a:=λb g=>(by rw[show b=A1 c from funext g];exact i);rw[j _ (λd=>by cases d<;>rfl)];simp only[b1,cx];congr 1
 match R with
 |[]=>rfl
 |[r]=>rfl
 |r::l::k=>simp[qg]
theorem r9.rep {H:eY} {d:ah6} {C:X->aie} (q:cN H i d v O x C) (D:P.1.fW=bp) {c:aip} (a:r9 p i P c f):∃o I,(A1 d c).run p v=.ok o v/\BB O v P o I/\(∃ap,(f.map C).flatten.Perm (I++ap))/\∀id∈f,∃P,ar i.h id=Y P:=by
 have K:∀(id:X) (g:aG) (l:bm aZ),ar i.h id=Y g->eN g.1 g.2 l P.1 P.2->∃u m k n,aW v g.1 bo (x id) l P.1 u m/\aS (bb O H.B) v P.1 m P.2 k/\pz v u m P.1.size/\(C id).Perm (k++n):=(by intro id g l e r;obtain⟨aw,G,bl⟩:=q.tree id _ e;obtain⟨u,m,k,n,w,z,F,J,_⟩:=D0 l (τ':=P.1) (y:=P.2) aw (loc:=bo) (λ_ _ a=>by cases a) G (λ_ _ a=>by cases a) (q.notM e) r;grind);cases c with
 |tmp c=>
  have b:=q.tmp c;simp only[r9] at a;split at a
  ·rename_i a0 bx j;rw[j] at b;obtain⟨rfl,rfl⟩:=a;generalize E:d.getD c bW=o at b;cases b with|val av=>
   exact⟨_,[],by show(ajp (d.getD c bW):Sem Value).run p v=_;simp_all,⟨_,bn,av.fW D⟩,⟨[],ac⟩,ac⟩
  ·rename_i o j;rw[j] at b;obtain⟨aw,G,rfl⟩:=a;generalize E:d.getD c bW=bs at b;cases b;exact⟨_,[],by show(ajp (d.getD c bW):Sem Value).run p v=_;simp_all,⟨_,G.symm,pS aw⟩,⟨[],ac⟩,ac⟩
  ·rename_i id l j;rw[j] at b;obtain⟨rfl,g,e,r⟩:=a;generalize E:d.getD c bW=o at b;cases b with|ref t s=>
   rw[e] at t;cases t;obtain⟨u,m,k,n,w,z,F,J⟩:=K id g l e r;obtain⟨rfl,rfl,rfl⟩:=s.lw w;refine⟨_,k,by show(ajp (d.getD c bW):Sem Value).run p v=_;simp_all,⟨_,bn,z.fW D⟩,⟨n,by grind⟩,λam U=>?_⟩;grind
  grind
 |cell A L=>
  have b:=q.tmp A;simp only[r9] at a;obtain⟨a3,a⟩:=a;split at a
  ·rename_i id l j;rw[j] at b;obtain⟨rfl,g,a0,e,ad,r⟩:=a;generalize E:d.getD A bW=o at b;cases b with|ref t s=>
   rw[e] at t;cases t;have:=s.ty;rw[ad] at this;cases this;obtain⟨M,an,R,rfl,N,Q⟩:=o7 (q.tree id _ e).1 s;have V:=s.append (aW.Hi N Q);obtain⟨u,m,k,n,w,z,F,J⟩:=K id g _ e r;obtain⟨aq,S,T⟩:=V.lw w;subst S;subst T;subst aq;have a4:=(F M an bn).1;refine⟨cW P.1 R,k,?_,⟨_,bn,z.fW D⟩,⟨n,by grind⟩,λam U=>?_⟩
   ·show(do loadVar L (<-asAddr (d.getD A bW)):Sem Value).run p v=_;grind [JP,bY,cx,b1,cW,List.headD,asAddr]
   grind
  grind
theorem tX.rep {j:b0} {o:eY} {f:aO} {n:ah6} {e w0:bC} {i:X->Prop} {z:X->ah8} {k:X->aie} (l:cN o f n e i z k):∀{d:bm aip} {m:bm aG} {a:aie},tX j f d m a->∃vs c,(d.mapM (A1 n)).run j e=.ok vs e/\mg (BB i e) m vs c/\(∃w,(a.map k).flatten.Perm (c.flatten++w))/\∀id∈a,∃g,ar f.h id=Y g
 |[],[],a,b=>by obtain rfl:a=[]:=b;exact⟨[],[],bn,trivial,⟨[],.refl _⟩,ac⟩
 |[],g::A,a,b=>b.elim
 |r::d,[],a,b=>b.elim
 |r::d,g::A,a,b=>by
  obtain⟨v,i1,K,rfl,t,u⟩:=b;obtain⟨B,s,C,p,⟨x,D⟩,E⟩:=t.rep l v;obtain⟨vs,c,F,q,⟨y,G⟩,H⟩:=tX.rep (w0:=w0) l u;refine⟨B::vs,s::c,?_,⟨p,q⟩,⟨x++y,?_⟩,λJ I=>?_⟩
  ·simp_all
  ·grind
  grind
theorem Lp:∀{k:X} {args:bm hG},∀b∈hQ k args,k<=b
 |k,[],b,a=>by cases a
 |k,f::args,b,a=>by
  have d:=Lp (k:=k+1) (args:=args);cases f with
  |m e q=>
   rcases fR.1 a with rfl|a
   ·omega
   grind
  |w t p j h r=>
   rcases fR.1 a with rfl|a
   ·omega
   grind
  |v e=>have:=d b a;omega
  |o e=>have:=d b a;omega
  |c n l=>have:=d b a;omega
  |n=>have:=d b a;omega
  |s g i=>have:=d b a;omega
theorem pA.rep {Q:eY} {A:aO} {E:ah6} {w:bC} {F:X->Prop} {L:X->ah8} {t:X->aie} (u:cN Q A E w F L t) {B:X->Prop}:∀{k:X} {f:bm hG} {vs:ah8},pA A k f->vs.length=f.length->(∀e,e∈hQ k f->∀v,vs[e-k]?=Y v->E.getD e bW=v)->∃b,mg (yj F B w) f vs b/\b.flatten=((hQ k f).map t).flatten/\∀id∈hQ k f,k<=id/\∃r,ar A.h id=Y r
 |k,[],vs,g,C,x=>by cases vs with
  |nil=>exact⟨[],trivial,bn,by simp[hQ]⟩
  |cons=>cases C
 |k,G::f,[],g,C,x=>by cases C
 |k,G::f,v::vs,g,C,x=>by
  have p:pA A (k+1) f->(∀e,e∈hQ (k+1) f->e∈hQ k (G::f))->∃b,mg (yj F B w) f vs b/\b.flatten=((hQ (k+1) f).map t).flatten/\∀id∈hQ (k+1) f,k+1<=id/\∃r,ar A.h id=Y r:=λg T=>by
   have a4:=Lp (k:=k+1) (args:=f);exact pA.rep u g (by grind) (λe i am bs=>x e (T e i) am (by
    grind))
  cases G with
  |v r=>
   obtain⟨b,j,q,d⟩:=p g (λe i=>i);exact⟨[]::b,⟨bn,j⟩,by grind [hQ],λid a=>⟨by have:=(d id a).1;omega,(d id a).2⟩⟩
  |o r=>
   obtain⟨b,j,q,d⟩:=p g (λe i=>i);exact⟨[]::b,⟨bn,j⟩,by grind [hQ],λid a=>⟨by have:=(d id a).1;omega,(d id a).2⟩⟩
  |n=>
   obtain⟨b,j,q,d⟩:=p g (λe i=>i);exact⟨[]::b,⟨bn,j⟩,by grind [hQ],λid a=>⟨by have:=(d id a).1;omega,(d id a).2⟩⟩
  |s a3 ce=>
   obtain⟨b,j,q,d⟩:=p g (λe i=>i);exact⟨[]::b,⟨bn,j⟩,by grind [hQ],λid a=>⟨by have:=(d id a).1;omega,(d id a).2⟩⟩
  |c n dl=>
   obtain⟨b,j,q,d⟩:=p g (λe i=>i);exact⟨[]::b,⟨bn,j⟩,by grind [hQ],λid a=>⟨by have:=(d id a).1;omega,(d id a).2⟩⟩
  |m r d0=>
   obtain⟨⟨J,z,K,U⟩,g⟩:=g;obtain⟨b,j,q,d⟩:=p g (λe i=>hW _ i);have l:=u.tmp k;rw[J] at l;have I:E.getD k bW=v:=x k (by simp[hQ]) v ac;rw[I] at l;obtain⟨D,_⟩:=u.tree k _ z;refine⟨t k::b,⟨?_,j⟩,by grind [ajt,hQ],λid a=>?_⟩
   ·cases l with|ref y H=>
    rw[z] at y;cases y;obtain⟨rfl,rfl,rfl⟩:=aiJ.1 H;exact⟨L k,bn,D.fW K⟩
   rcases fR.1 a with rfl|a
   ·grind
   grind
  |w an ds ci bl d1=>
   obtain⟨⟨J,z,⟨K,U⟩,bx⟩,g⟩:=g;obtain⟨b,j,q,d⟩:=p g (λe i=>hW _ i);have l:=u.tmp k;rw[J] at l;have I:E.getD k bW=v:=x k (by simp[hQ]) v ac;rw[I] at l;obtain⟨D,_⟩:=u.tree k _ z;refine⟨t k::b,⟨?_,j⟩,by grind [ajt,hQ],λid a=>?_⟩
   ·cases l with
    |l7=>omega
    |view y H aw cs cv=>
    rename_i c2 d2 co M P V N;rw[z] at y;cases y;obtain⟨aq,a0,R⟩:=aiJ.1 H;simp only[ah.osl.injEq] at aq;subst aq;have O:L k=[.slice (Y ⟨M,P,bo⟩) V N]:=R;have S:=D;obtain⟨ap,av,ad,c1⟩:=S;rw[ad] at O;simp only[hN,aio,b9] at O;refine⟨M,P,N,by rw[az aa],aa,?_⟩;have:=aS.fW (τ:=.osl an) (B':=B) K D;grind
   rcases fR.1 a with rfl|a
   ·grind
   grind
theorem rU.Yd {q:FuncId} {j:Func} {c:Code} {b:bm hG} {a0:bm aip} {C:bm aG} (ds:E.P.funcs[q]?=Y j) (f:j.body=Y c) (d3:j.results=a0.toArray) (ft:b.length<=j.ntmps) (g:∀d:eY,d.n=j.ntmps->d.pin=hQ 0 b++nQ (pb 0 b)->(∀a,d.I0 a\/d.B a->a<d.w0.heap.size/\¬d.F0 a)->tY d (pb 0 b)->lg E d.I0 d.w0->J E d c ⟨jC 0 b,j5 0 b⟩ (KK E.P b a0 C)):rU E q b C:=by
 intro r s y l K R N d1 O U d0;obtain⟨d6,fs⟩:=Gj N;obtain⟨a3,H,bx,ce,fl⟩:=Lo (k:=0) N
 let d:eY:={I0:=s,B:=y,F0:=λa=>a∈K.flatten,w0:=r,n:=j.ntmps,pin:=hQ 0 b++nQ (pb 0 b),vs:=λi=>l.getD i bW}
 have ad:∀i,(l.toArray++alA (j.ntmps-l.toArray.size) bW).getD i bW=l.getD i undef:=(by intro i;rw[alz,lR];grind);obtain⟨fT,f0⟩:=XY d1;have cs:cN d ⟨jC 0 b,j5 0 b⟩ (l.toArray++alA (j.ntmps-l.toArray.size) bW) r s a3 H:=by
  refine{n:=?_,i0:=λ_ g=>g,i1:=λ_ g=>.inl g,ib:=R,tree:=?_,dis:=?_,tmp:=?_,frame:=λ_ _ _=>rfl,evo:=λ_ _=>.refl _ _,size:=bc _,os:=rfl,tape:=rfl,output:=rfl,pin:=λi _=>ad i}
  ·grind
  ·intro id m v;obtain⟨_,⟨q,aw,d9⟩,ek⟩:=bx id m v;rw[Nat.sub_zero] at aw;grind [ajE,aiw]
  ·grind
  intro i;show cP _ _ _ _ _ (gt (jC 0 b) i) _;rw[ad];rcases ce i with g|⟨w,M,co⟩
  ·rw[nh] at g;rw[g];exact .dead _
  grind
 have d4:tY d (pb 0 b):=by
  cases o:pb 0 b with
  |none=>trivial
  |some d8=>
   obtain⟨i,q,ap⟩:=d8;rw[o] at U;obtain⟨_,_,a,d7,ex,D,F,bl,em,eq⟩:=U;have fz:d.pin=hQ 0 b++nQ (Y (i,q,ap)):=(by grind);refine⟨by grind [nQ],λan T=>by grind [nQ],a,d7,ex,D,F,bl,em,eq⟩
 refine calls_of_wp ds f (wp_mono (g d bn rfl (λa f=>⟨R a f,λt=>f.elim (O a t).1 (O a t).2.1⟩) d4 d0 _ r ⟨s,a3,H,cs⟩ rfl) ?_);rintro fn G x ⟨bs,⟨dl,am,d2,A,t⟩,⟨z,f3,I,e⟩,Q⟩;obtain⟨f4,o,el,D,⟨f2,F⟩,bl⟩:=tX.rep (w0:=r) e d2;obtain⟨p,ci,L,fp⟩:=pA.rep e (B:=y) (vs:=l) t d6 (λan T w d5=>by
  rw[Nat.sub_zero] at d5;rw[e.pin an (r4 _ T)];grind)
 have A:=jr.ok A;have V:∀id∈hQ 0 b++am,∃m,ar bs.h id=Y m:=λid S=>(by grind);have u:=IU e V A;rw[ji,yw,<-L] at u;have u:(p.flatten++o.flatten).Nodup:=(by have:=(akT p.flatten F).nodup_iff.1 u;grind);have cv:∀a∈p.flatten++o.flatten,∃id m,ar bs.h id=Y m/\a∈I id:=λa f=>(by have f:a∈((hQ 0 b++am).map I).flatten:=(by rw[ji,yw,<-L];grind);obtain⟨ap,M,co⟩:=lS.1 f;obtain⟨id,S,rfl⟩:=eZ.1 M;obtain⟨m,v⟩:=V id S;grind);have av:∃w,(results j G.tmps).run E.P x=.ok w x/\∃z p o a4,Ending.returned w=.returned (qg a4)/\KV s y r K b l C z p o a4 x:=
  ⟨_,acS d3 G.tmps x el,z,p,o,_,bn,ci,D,u,(λa f=>by
   obtain⟨id,m,v,c1⟩:=cv a f;obtain⟨aw,d9,ek,f1⟩:=(e.tree id m v).2.2 a c1;grind),e.i0,(λa f=>by
   rcases e.i1 a f with g|g|g
   ·grind
   ·exact .inr ⟨e.ib a (.inl f),.inl g⟩
   exact .inr ⟨e.ib a (.inl f),.inr g⟩),e.size,e.os,e.tape,e.output,e.evo,λa f c2=>e.frame a f c2⟩
 rcases dl with rfl|rfl
 ·exact⟨Q,av⟩
 exact⟨Q,av⟩
end
end
section
open Classical in
def pick {a:Type} (c:a->Prop):bv a:=if h:∃b,c b then Y h.choose else bo
theorem abr {d:b->Prop} {c:b} (a:pick d=Y c):d c:=by
 unfold pick at a;split at a
 ·grind
 grind
inductive oK where
 |v (τ:ah)
 |s (a:ak)
 |p (id:X) (a b:bm aZ)
 |w (id:X)
structure ni where
 g:bm (X×oK)
 h:bm (X×ah)
@[reducible] def qj:bm (X×oK)->Type->Type
 |[],r=>r
 |(_,.v a)::l,r=>a.den×qj l r
 |(_,.s _)::l,r=>qj l r
 |(_,.p _ _ _)::l,r=>X×qj l r
 |(_,.w _)::l,r=>ep×qj l r
@[reducible] def vC:bm (X×ah)->Type
 |[]=>bt
 |(_,a)::l=>a.den×vC l
@[reducible] def ni.den (a:ni):Type:=qj a.g (vC a.h)
def ob {e:Type}:(c:bm (X×oK))->qj c e->bm (X×ak)
 |[],_=>[]
 |(d,.v f)::c,s=>(d,.val f s.1)::ob c s.2
 |(d,.s a)::c,s=>(d,a)::ob c s
 |(d,.p id a b)::c,s=>(d,.ref id (a++.idx s.1::b))::ob c s.2
 |(d,.w id)::c,s=>(d,.view id [] s.1.1 s.1.2)::ob c s.2
def uS {b:Type}:(a:bm (X×oK))->qj a b->b
 |[],s=>s
 |(_,.v _)::a,s=>uS a s.2
 |(_,.s _)::a,s=>uS a s
 |(_,.p _ _ _)::a,s=>uS a s.2
 |(_,.w _)::a,s=>uS a s.2
def uQ:(a:bm (X×ah))->vC a->bm (X×aG)
 |[],_=>[]
 |(d,b)::a,s=>(d,⟨b,s.1⟩)::uQ a s.2
def kU (a:ni) (b:a.den):aO:=⟨ob a.g b,uQ a.h (uS a.g b)⟩
def hX {τ:ah} (a:ah) (b:τ.den):bv a.den:=if e:τ=a then Y (e▸b) else bo
theorem j7 {a:Q.den} {b:k.den} (c:hX k a=Y b):(⟨Q,a⟩:aG)=⟨k,b⟩:=by grind [hX]
def vH:aZ->aZ->bA
 |.idx a,.idx b=>bH a b
 |.deref,.deref|.unst,.unst|.fst,.fst|.snd,.snd=>bp
 |_,_=>bq
theorem vH.ok {a b:aZ} (c:vH a b=bp):a=b:=by cases a<;>cases b<;>first|rfl|(cases c;done)|(rw[fu c])
def l3:bm aZ->bm aZ->bA
 |[],[]=>bp
 |a::c,b::d=>vH a b&&l3 c d
 |_,_=>bq
theorem l3.ok:∀{c d:bm aZ},l3 c d=bp->c=d
 |[],[],_=>rfl
 |[],_::_,b=>by cases b
 |_::_,[],b=>by cases b
 |a::c,e::d,b=>by simp only[l3,bk] at b;rw[vH.ok b.1,l3.ok b.2]
def uc:ak->ak->bA
 |.ref a c,.ref b d=>bH a b&&l3 c d
 |.addr a c,.addr b d=>bH a b&&l3 c d
 |_,_=>bq
theorem uc.ok {a b:ak} (c:uc a b=bp):a=b:=by cases a<;>cases b<;>first|(cases c;done)|(simp only[uc,bk] at c;grind [ai0,l3.ok])
def ud:bm ak->bm ak->bA
 |[],[]=>bp
 |a::c,b::d=>uc a b&&ud c d
 |_,_=>bq
theorem ud.ok:∀{c d:bm ak},ud c d=bp->c=d
 |[],[],_=>rfl
 |[],_::_,b=>by cases b
 |_::_,[],b=>by cases b
 |a::c,e::d,b=>by simp only[ud,bk] at b;rw[uc.ok b.1,ud.ok b.2]
def si:ak->ak->bA
 |.eB c e,.eB d f=>bH c d&&ud e f
 |a,b=>uc a b
theorem si.ok {a b:ak} (c:si a b=bp):a=b:=by cases a<;>cases b<;>first|exact uc.ok c|(simp only[si,bk] at c;grind [ai0,ud.ok])
def Bf:bm aZ->bm aZ->bm aZ->aia
 |[],a,.idx k::b=>bif l3 a b then Y k else bo
 |s::c,a,d::b=>bif vH s d then Bf c a b else bo
 |_,_,_=>bo
theorem QZ:∀{d b e:bm aZ} {c:X},Bf d b e=Y c->e=d++.idx c::b
 |[],b,[],c,a=>by cases a
 |[],b,s::e,c,a=>by
  cases s<;>simp only[Bf] at a<;>try (cases a;done)
  grind [l3.ok]
 |s::d,b,[],c,a=>by cases a
 |s::d,b,g::e,c,a=>by
  simp only[Bf] at a;cases f:vH s g with
  |false=>grind
  |true=>rw[f] at a;rw[vH.ok f,QZ a];rfl
def qe {f:Type} (e:bm (X×ak)) (g:bv f):(c:bm (X×oK))->bv (qj c f)
 |[]=>g
 |(d,.v o)::c=>match gt e d with
  |.val _ m=>match hX o m with
   |some n=>(qe e g c).map (λi=>(n,i))
   |none=>bo
  |_=>bo
 |(d,.s a)::c=>match si a (gt e d) with
  |true=>qe e g c
  |false=>bo
 |(d,.p id a b)::c=>match gt e d with
  |.ref h i=>bif bH id h then match Bf a b i with
   |some k=>(qe e g c).map (λf=>(k,f))
   |none=>bo else bo
  |_=>bo
 |(d,.w id)::c=>match gt e d with
  |.view h [] l j=>bif bH id h then(qe e g c).map (λf=>((l,j),f)) else bo
  |_=>bo
def E2 (b:bm (X×aG)):(a:bm (X×ah))->bv (vC a)
 |[]=>Y ()
 |(d,g)::a=>match ar b d with
  |some e=>match hX g e.2 with
   |some f=>(E2 b a).map (λc=>(f,c))
   |none=>bo
  |none=>bo
def xq:bm (X×ah)->X->bA
 |[],_=>bq
 |(k,_)::r,n=>bif bH k n then bp else xq r n
def ql:bm (X×oK)->bm (X×ah)->bA
 |[],_=>bp
 |(_,.v _)::l,h=>ql l h
 |(_,.s a)::l,h=>(a.ids.all λid=>xq h id)&&ql l h
 |(_,.p id _ _)::l,h=>xq h id&&ql l h
 |(_,.w id)::l,h=>xq h id&&ql l h
def proj (a:ni) (b:aO):bv a.den:=bif ql a.g a.h then qe b.g (E2 b.h a.h) a.g else bo
theorem DM:∀{b:bm (X×ah)} {c:vC b} {id:X},xq b id=bp->(ar (uQ b c) id).isSome=bp
 |[],_,_,a=>by cases a
 |(k,e)::b,c,id,a=>by
  simp only[xq] at a;simp only[uQ,ar];cases d:bH k id with
  |true=>rfl
  |false=>rw[d] at a;exact DM (by grind)
theorem AP {o:Type} {q:aO} {n:bv o}:∀{e:bm (X×oK)} {f:qj e o},qe q.g n e=Y f->oS (ob e f) q/\n=Y (uS e f)
 |[],f,c=>⟨trivial,c⟩
 |(d,.v F)::e,f,c=>by
  simp only[qe] at c;split at c
  case h_2=>cases c
  rename_i G D t;split at c
  case h_2=>cases c
  rename_i E u;obtain⟨x,k,rfl⟩:=fC.1 c;obtain⟨h,i⟩:=AP k;refine⟨⟨?_,h⟩,i⟩;rw[t];cases j7 u;rfl
 |(d,.s a)::e,f,c=>by
  simp only[qe] at c;split at c
  case h_2=>cases c
  rename_i r;obtain⟨h,i⟩:=AP c;exact⟨⟨(si.ok r).symm,h⟩,i⟩
 |(d,.p id a b)::e,f,c=>by
  simp only[qe] at c;split at c
  case h_2=>cases c
  rename_i m x k;cases j:bH id m with
  |false=>grind
  |true=>
  rw[j] at c;simp only[bG] at c;split at c
  case h_2=>cases c
  rename_i B A;obtain⟨y,l,rfl⟩:=fC.1 c;obtain⟨h,i⟩:=AP l;refine⟨⟨?_,h⟩,i⟩;grind [QZ,ai0]
 |(d,.w id)::e,f,c=>by
  simp only[qe] at c;split at c
  case h_2=>cases c
  rename_i m C z k;cases j:bH id m with
  |false=>grind
  |true=>
  rw[j] at c;simp only[bG] at c;obtain⟨y,l,rfl⟩:=fC.1 c;obtain⟨h,i⟩:=AP l;refine⟨⟨?_,h⟩,i⟩;simp_all
theorem PW {e:aO}:∀{b:bm (X×ah)} {c:vC b},E2 e.h b=Y c->oT (uQ b c) e
 |[],c,a=>trivial
 |(d,m)::b,c,a=>by
  simp only[E2] at a;split at a
  case h_2=>cases a
  rename_i k g;split at a
  case h_2=>cases a
  rename_i l i;obtain⟨j,f,rfl⟩:=fC.1 a;refine⟨?_,PW f⟩;grind [j7]
theorem Bd {r:Type} {c:bm (X×ah)} {t:vC c}:∀{l:bm (X×oK)} {s:qj l r},ql l c=bp->mn (ob l s) (uQ c t)=bp
 |[],s,h=>rfl
 |(d,.v e)::l,s,h=>by have:=Bd (r:=r) (t:=t) (l:=l) (s:=s.2) h;simp only[mn,ob,r0,bT,alB,ake] at this|-;omega
 |(d,.s a)::l,s,h=>by simp only[ql,bk] at h;have:=Bd (r:=r) (t:=t) (l:=l) (s:=s) h.2;simp only[mn,ob,r0,bk] at this|-;grind [DM,ajm]
 |(_,.p id a b)::l,s,h=>by simp only[ql,bk] at h;have:=Bd (r:=r) (t:=t) (l:=l) (s:=s.2) h.2;simp only[mn,ob,r0,bk] at this|-;refine⟨?_,this⟩;simp_all [DM,r0,alB,akU,bT]
 |(_,.w id)::l,s,h=>by simp only[ql,bk] at h;have:=Bd (r:=r) (t:=t) (l:=l) (s:=s.2) h.2;simp only[mn,ob,r0,bk] at this|-;refine⟨?_,this⟩;simp_all [DM,r0,alB,akU,bT]
theorem tm {a:ni} {b:a.den} (c:proj a i=Y b):oS (kU a b).g i/\oT (kU a b).h i/\mn (kU a b).g (kU a b).h=bp:=by
 unfold proj at c;cases d:ql a.g a.h with
 |false=>grind
 |true=>
  rw[d] at c;obtain⟨e,f⟩:=AP c;exact⟨e,PW f,Bd d⟩
inductive hl where
 |v (τ:ah)
 |m (τ:ah)
 |o (τ:ah)
 |c (f:X) (τs:bm ah)
 |n
 |s (f:X) (l:aie)
 |w (σ:ah)
@[reducible] def lE:bm ah->Type
 |[]=>bt
 |τ::a=>τ.den×lE a
@[reducible] def hp:bm hl->Type
 |[]=>bt
 |.c _ e::a=>lE e×hp a
 |.n::a=>bt×hp a
 |.s _ _::a=>bt×hp a
 |.v b::a=>b.den×hp a
 |.m b::a=>b.den×hp a
 |.o b::a=>b.den×hp a
 |.w d::a=>(bm d.den×X×X)×hp a
@[reducible] def iL:bm hl->Type->Type
 |[],a=>a
 |.m e::b,a=>e.den×iL b a
 |.w d::b,a=>bm d.den×iL b a
 |.v _::b,a=>iL b a
 |.o _::b,a=>iL b a
 |.c _ _::b,a=>iL b a
 |.n::b,a=>iL b a
 |.s _ _::b,a=>iL b a
structure jw where
 f:X
 ps:bm hl
 rs:bm ah
 x4:hp ps->bv (iL ps (lE rs))
def iT:(c:bm ah)->lE c->bm aG
 |[],_=>[]
 |τ::b,a=>⟨τ,a.1⟩::iT b a.2
def gF {j:Type}:(f:bm hl)->hp f->iL f j->bm hG
 |[],_,_=>[]
 |.v e::d,a,b=>.v ⟨e,a.1⟩::gF d a.2 b
 |.m e::d,a,b=>.m ⟨e,a.1⟩ b.1::gF d a.2 b.2
 |.o e::d,a,b=>.o ⟨e,a.1⟩::gF d a.2 b
 |.c h l::d,a,b=>.c h (iT l a.1)::gF d a.2 b
 |.n::d,a,b=>.n::gF d a.2 b
 |.w k::d,a,b=>.w k a.1.1 a.1.2.1 a.1.2.2 b.1::gF d a.2 b.2
 |.s g i::d,a,b=>.s g i::gF d a.2 b
def ik {d:Type}:(e:bm hl)->iL e d->d
 |[],a=>a
 |.m _::b,a=>ik b a.2
 |.w _::b,a=>ik b a.2
 |.v _::b,a=>ik b a
 |.o _::b,a=>ik b a
 |.c _ _::b,a=>ik b a
 |.n::b,a=>ik b a
 |.s _ _::b,a=>ik b a
def ju:X->bm hl->bv ec
 |_,[]=>bo
 |k,.s a b::_=>Y (k,a,b)
 |k,_::c=>ju (k+1) c
theorem A8 {r:Type}:∀{k:X} {ps:bm hl} {a:hp ps} {b:iL ps r},pb k (gF ps a b)=ju k ps
 |k,[],a,b=>rfl
 |k,e::d,a,b=>by have c:=λa b=>A8 (r:=r) (k:=k+1) (ps:=d) (a:=a) (b:=b);cases e<;>first|exact c _ _|rfl
def aC (E:fA) (a:jw):Prop:=
 (∀(d:ah6) (e:bC),(callFunc a.f d).run E.P e=.ok (.enter a.f d) e)/\∀c b,a.x4 c=Y b->rU E a.f (gF a.ps c b) (iT a.rs (ik a.ps b))
def hY:(j:ah)->j.den->bm aZ->(a:ah)->bv a.den
 |_,c,[],a=>hX a c
 |.osl d,i,.idx h::b,a=>match i[h]? with
  |some g=>hY d g b a
  |none=>bo
 |.optr d,c,.deref::b,a=>hY d c b a
 |.st d,c,.unst::b,a=>hY d c b a
 |.pr e _,c,.fst::b,a=>hY e c.1 b a
 |.pr _ f,c,.snd::b,a=>hY f c.2 b a
 |_,_,_,_=>bo
def VT {a:k.den}:hY k a [] Q=hX Q a:=by cases k<;>rfl
theorem iK:∀{g:bm aZ} {τ:ah} {e:τ.den} {d:ah} {f:d.den},hY τ e g d=Y f->eN τ e g d f
 |[],τ,e,d,f,c=>by rw[VT] at c;cases j7 c;grind [eN.gv]
 |s::g,τ,e,d,f,c=>by
  cases τ<;>cases s<;>simp only[hY] at c<;>try (cases c;done)
  case osl.idx t i=>
   split at c
   ·rename_i h j;exact⟨h,j,iK c⟩
   grind
  case optr.deref t=>exact iK (τ:=t) c
  case st.unst t=>exact iK (τ:=t) c
  case pr.fst a b=>exact iK (τ:=a) c
  case pr.snd a b=>exact iK (τ:=b) c
def xW {τ':ah} (b:τ'.den) (a:ah):bv a.den:=if e:eI τ' a=bp then Y (cast (eI.den e) b) else bo
theorem PM {b:Q.den} {c:k.den} (a:xW b k=Y c):n2 Q b k c:=by
 unfold xW at a;split at a
 ·rename_i d;cases a;exact .same d (cast_heq _ _).symm
 grind
def AL:(c:ah)->c.den->(b:ah)->bv b.den
 |.optr d,a,.ptr .de e=>(xW (τ':=d) a e).map Y
 |_,a,b=>xW a b
theorem abh {c:Q.den} {d:k.den} (a:AL Q c k=Y d):n2 Q c k d:=by
 unfold AL at a;split at a
 ·obtain⟨f,b,rfl⟩:=fC.1 a;simp only[xW] at b;split at b
  ·rename_i e;cases b;exact .ptr e (cast_heq _ _).symm
  grind
 exact PM a
def pT:ah->Value->bA
 |τ,.agg _=>o3 τ
 |_,.tuple _=>bq
 |τ,_=>!o3 τ
theorem pT.ok (a:pT k S=bp):cW k S.cells.toList=S:=by
 cases S<;>simp only[pT] at a<;>first
  |(cases a;done)
  |(rw[Fb a];rfl)
  |(rw[tE] at a;rw[Fa a];rfl)
def nu (
 h:bm (X×aG)) (f:aie):ak->(a:ah)->bv a.den
 |.val _ g,a=>xW g a
 |.dh d,a=>bif pT a d then iJ a d.cells.toList else bo
 |.ref id c,a=>match eQ id f with
  |true=>bo
  |false=>match ar h id with
   |none=>bo
   |some b=>match fm b.1 c with
    |none=>bo
    |some e=>match hY b.1 b.2 c e with
     |none=>bo
     |some i=>AL e i a
 |_,_=>bo
theorem Gp {h:k.den} (a:nu e f d k=Y h):yh e f d ⟨k,h⟩:=by
 cases d with
 |val c b=>exact PM a
 |dh p=>
  simp only[nu] at a;cases i:pT k p with
  |false=>grind
  |true=>rw[i] at a;exact⟨a,pT.ok i⟩
 |ref id n=>
  simp only[nu] at a;split at a
  ·cases a
  rename_i j;split at a
  ·cases a
  rename_i o l;split at a
  ·cases a
  rename_i c q;split at a
  ·cases a
  rename_i b m;have:eQ id f=bq/\∃g c b,ar e id=Y g/\eN g.1 g.2 n c b/\n2 c b k h:=⟨j,o,c,b,l,iK m,abh a⟩;exact this
 |_=>cases a
def uh (d:bm (X×aG)) (c:aie):ak->(b:ah)->bv b.den
 |.hz a,.ptr .bg e=>bif oD e then(nu d c a e).map Y else bo
 |a,b=>nu d c a b
def sq (d:bm (X×aG)) (c:aie):bm ak->(b:ah)->bv b.den
 |[],.nil=>Y ()
 |a::f,.pr e b=>bif oD e then(uh d c a e).bind λh=>(sq d c f b).map λg=>(h,g) else bo
 |_,_=>bo
def wI (d:bm (X×aG)) (c:aie):ak->(b:ah)->bv b.den
 |.hz (.eB f e),.ptr .bg (.fn g h)=>bif bH f g then(sq d c e h).map Y else bo
 |a,b=>uh d c a b
def LL {c:k.den} (a:uh e f d k=Y c):oG e f d k c:=by
 unfold uh at a;split at a
 ·rename_i i h;cases b:oD h with
  |false=>rw[b] at a;cases a
  |true=>
   rw[b,bG] at a;obtain⟨j,g,rfl⟩:=fC.1 a;exact .hz b (.base (Gp g))
 exact .base (Gp a)
def LN {h:bm (X×aG)} {g:aie}:∀{f:bm ak} {c:ah} {d:c.den},sq h g f c=Y d->vW h g f c d
 |[],c,d,b=>by
  cases c<;>simp only[sq] at b<;>try (cases b;done)
  exact .nil
 |a::f,c,d,b=>by
  cases c<;>simp only[sq] at b<;>try (cases b;done)
  rename_i c l;cases e:oD c with
  |false=>rw[e] at b;cases b
  |true=>
   rw[e,bG] at b;obtain⟨m,j,b⟩:=eO.1 b;obtain⟨k,i,rfl⟩:=fC.1 b;exact .cons e (LL j) (LN i)
def TP {c:k.den} (a:wI e f d k=Y c):oG e f d k c:=by
 unfold wI at a;split at a
 ·rename_i h j i l;cases b:bH h i with
  |false=>rw[b] at a;cases a
  |true=>
   rw[b,bG] at a;obtain rfl:=fu b;obtain⟨m,g,rfl⟩:=fC.1 a;exact .hz bn (.eB (LN g))
 exact LL a
def o2 (b:bm (X×aG)) (a:aie):(g:bm ah)->bm ak->bv (lE g)
 |[],[]=>Y ()
 |τ::d,c::as=>match wI b a c τ with
  |some f=>(o2 b a d as).map (λe=>(f,e))
  |none=>bo
 |_,_=>bo
def Na {f:bm (X×aG)} {d:aie}:∀{c:bm ah} {e:bm ak} {b:lE c},o2 f d c e=Y b->iv (λb g=>oG f d b g.1 g.2) e (iT c b)
 |[],[],_,_=>trivial
 |[],_::_,_,a=>by cases a
 |_::_,[],_,a=>by cases a
 |τ::k,j::as,b,a=>by
  simp only[o2] at a;split at a
  case h_2=>cases a
  rename_i m i;obtain⟨l,h,rfl⟩:=fC.1 a;exact⟨TP i,Na h⟩
def rN:bm ak->bm hl->aie
 |.ref id []::as,.m _::a=>id::rN as a
 |.ref id []::as,.o _::a=>id::rN as a
 |.view id [] _ _::as,.w _::a=>id::rN as a
 |_::as,_::a=>rN as a
 |_,_=>[]
def tb:Value->bA
 |.slice bo 0 0=>bp
 |_=>bq
theorem tb.ok (a:tb S=bp):S=.slice bo 0 0:=by grind [tb]
def Ax:(a:ah)->Value->bv a.den
 |.osl _,.slice bo 0 0=>Y []
 |_,_=>bo
theorem X7 {b:k.den} (a:Ax k S=Y b):S=.slice bo 0 0/\∃c,(⟨k,b⟩:aG)=⟨.osl c,[]⟩:=by
 unfold Ax at a;split at a
 ·simp_all
 grind
def fL (d:bm (X×aG)) (f:aie):(t:bm hl)->bm ak->bv (hp t)
 |[],[]=>Y ()
 |.v g::b,p::as=>match nu d f p g with
  |some e=>(fL d f b as).map (λa=>(e,a))
  |none=>bo
 |.c r u::b,.eB q a::as=>bif bH q r then match o2 d f u a with
  |some e=>(fL d f b as).map (λa=>(e,a))
  |none=>bo else bo
 |.m g::b,.ref id []::as=>bif g.fW&&rQ g then match ar d id with
  |some h=>match hX g h.2 with
   |some e=>(fL d f b as).map (λa=>(e,a))
   |none=>bo
  |none=>bo else bo
 |.o g::b,.ref id []::as=>match ar d id with
  |some h=>match hX g h.2 with
   |some e=>(fL d f b as).map (λa=>(e,a))
   |none=>bo
  |none=>bo
 |.n::b,.dh i::as=>bif tb i then(fL d f b as).map (λa=>((),a)) else bo
 |.s _ _::b,_::as=>(fL d f b as).map (λa=>((),a))
 |.o g::b,.dh i::as=>match Ax g i with
  |some e=>(fL d f b as).map (λa=>(e,a))
  |none=>bo
 |.w l::b,.view id [] k j::as=>bif l.fW then(bif ca k j then match ar d id with
  |some h=>match hX (.osl l) h.2 with
   |some e=>(fL d f b as).map (λa=>((e,k,j),a))
   |none=>bo
  |none=>bo else bo) else bo
 |_,_=>bo
def BO {h:Type} (f:bm (X×aG)) (e:aie) (av:ak) (c:ah) (d:c.den->bv h):bv h:=match av with
 |.ref id g=>match eQ id e with
  |true=>bo
  |false=>match ar f id with
   |none=>bo
   |some a=>match fm a.1 g with
    |none=>bo
    |some i=>(hY a.1 a.2 g i).bind λj=>match AL i j c with
     |none=>bo
     |some b=>d b
 |av=>match nu f e av c with
  |none=>bo
  |some b=>d b
theorem Th {c:k.den->bv b}:BO e f d k c=(nu e f d k).bind c:=by
 cases d with
 |ref id g=>
  grind [eQ,ar,fm,hY,AL,BO,nu]
 |_=>
  simp only[BO];split
  ·rename_i a;rw[a];rfl
  rename_i a;rw[a];rfl
def j9 {p:Type} (e:bm (X×aG)) (g:aie):(x:bm hl)->bm ak->(hp x->bv p)->bv p
 |[],[],a=>a ()
 |.v h::d,r::as,a=>BO e g r h λf=>j9 e g d as λb=>a (f,b)
 |.c u y::d,.eB t b::as,a=>bif bH t u then match o2 e g y b with
  |some f=>j9 e g d as λb=>a (f,b)
  |none=>bo else bo
 |.m h::d,.ref id []::as,a=>bif h.fW&&rQ h then match ar e id with
  |some i=>match hX h i.2 with
   |some f=>j9 e g d as λb=>a (f,b)
   |none=>bo
  |none=>bo else bo
 |.o h::d,.ref id []::as,a=>match ar e id with
  |some i=>match hX h i.2 with
   |some f=>j9 e g d as λb=>a (f,b)
   |none=>bo
  |none=>bo
 |.n::d,.dh j::as,a=>bif tb j then j9 e g d as λb=>a ((),b) else bo
 |.s _ _::d,_::as,a=>j9 e g d as λb=>a ((),b)
 |.o h::d,.dh j::as,a=>match Ax h j with
  |some f=>j9 e g d as λb=>a (f,b)
  |none=>bo
 |.w q::d,.view id [] l k::as,a=>bif q.fW then(bif ca l k then match ar e id with
  |some i=>match hX (.osl q) i.2 with
   |some f=>j9 e g d as λb=>a ((f,l,k),b)
   |none=>bo
  |none=>bo else bo) else bo
 |_,_,_=>bo
theorem nC {A:Type} {d:bm (X×aG)} {f:aie}:∀{k:bm hl} {q:bm ak} {b:hp k->bv A},j9 d f k q b=(fL d f k q).bind b
 |[],[],b=>rfl
 |[],_::_,b=>rfl
 |p::a,[],b=>by cases p<;>rfl
 |.v h::a,e::as,b=>by
  simp only[j9,fL,Th];cases nu d f e h with
  |none=>rfl
  |some g=>
   simp only[aD];rw[nC];cases fL d f a as<;>rfl
 |.c z B::a,e::as,b=>by
  cases e with
  |eB y i=>
   simp only[j9,fL];cases bH y z with
   |false=>rfl
   |true=>
    simp only[bG];cases o2 d f B i with
    |none=>rfl
    |some g=>
     simp only;rw[nC];cases fL d f a as<;>rfl
  |ref id p=>cases p<;>rfl
  |_=>rfl
 |.m h::a,e::as,b=>by
  cases e with
  |ref id p=>
   cases p with
   |cons=>rfl
   |nil=>
    simp only[j9,fL];cases(h.fW&&rQ h) with
    |false=>rfl
    |true=>
     simp only[bG];cases ar d id with
     |none=>rfl
     |some j=>
      simp only;cases hX h j.2 with
      |none=>rfl
      |some g=>
       simp only;rw[nC];cases fL d f a as<;>rfl
  |_=>rfl
 |.o h::a,e::as,b=>by
  cases e with
  |ref id p=>
   cases p with
   |cons=>rfl
   |nil=>
    simp only[j9,fL];cases ar d id with
    |none=>rfl
    |some j=>
     simp only;cases hX h j.2 with
     |none=>rfl
     |some g=>
      simp only;rw[nC];cases fL d f a as<;>rfl
  |dh l=>
   simp only[j9,fL];cases Ax h l with
   |none=>rfl
   |some g=>
    simp only;rw[nC];cases fL d f a as<;>rfl
  |_=>rfl
 |.w u::a,e::as,b=>by
  cases e with
  |view id p t r=>
   cases p with
   |cons=>rfl
   |nil=>
    simp only[j9,fL];cases u.fW with
    |false=>rfl
    |true=>
     simp only[bG];cases ca t r with
     |false=>rfl
     |true=>
     simp only[bG];cases ar d id with
     |none=>rfl
     |some j=>
      simp only;cases hX (.osl u) j.2 with
      |none=>rfl
      |some g=>
       simp only;rw[nC];cases fL d f a as<;>rfl
  |ref id p=>cases p<;>rfl
  |_=>rfl
 |.n::a,e::as,b=>by
  cases e with
  |dh l=>
   simp only[j9,fL];cases tb l with
   |false=>rfl
   |true=>
    simp only[bG];rw[nC];cases fL d f a as<;>rfl
  |ref id p=>cases p<;>rfl
  |_=>rfl
 |.s C i::a,e::as,b=>by
  have x:∀g:bv (hp a),(g.bind λi=>b ((),i))=(g.map λi=>((),i)).bind b:=λg=>(by cases g<;>rfl);cases e with
  |ref id p=>cases p<;>(simp only[j9,fL];rw[nC];grind)
  |view id p t r=>cases p<;>(simp only[j9,fL];rw[nC];grind)
  |_=>simp only[j9,fL];rw[nC];exact x _
theorem Ka {r:Type}:∀{ps:bm hl} {a:hp ps} {b:iL ps r} {avs:bm ak},gn avs (gF ps a b)=rN avs ps
 |[],a,b,avs=>by cases avs with|nil=>rfl|cons h c=>cases h<;>first|rfl|(rename_i id p;cases p<;>rfl)|(rename_i id p c g;cases p<;>rfl)
 |p::c,a,b,[]=>by cases p<;>rfl
 |p::c,a,b,f::avs=>by have d:=λa b=>Ka (r:=r) (ps:=c) (a:=a) (b:=b) (avs:=avs);cases p<;>cases f<;>first|exact d _ _|(rename_i id e;cases e<;>simp only[gF,gn,rN,d];done)|(rename_i id e c g;cases e<;>simp only[gF,gn,rN,d])
theorem p5 {G:Type} {q:bm (X×aG)} {u:aie}:∀{r:bm hl} {e:hp r} {g:iL r G} {h:bm ak},fL q u r h=Y e->oF q u h (gF r e g)
 |[],e,g,[],_=>trivial
 |[],e,g,_::_,a=>by cases a
 |p::i,e,g,[],a=>by cases p<;>cases a
 |.v t::i,e,g,d::h,a=>by
  simp only[fL] at a;split at a
  case h_2=>cases a
  rename_i l j;obtain⟨k,b,rfl⟩:=fC.1 a;exact⟨by cases d<;>exact Gp j,p5 b⟩
 |.c F J::i,e,g,d::h,a=>by
  cases d with
  |eB E k=>
   simp only[fL] at a;cases f:bH E F with
   |false=>grind
   |true=>
    rw[f] at a;obtain rfl:=fu f;simp only[bG] at a;split at a
    case h_2=>cases a
    rename_i l j;obtain⟨I,b,rfl⟩:=fC.1 a;exact⟨⟨bn,Na j⟩,p5 b⟩
  |ref id p=>cases p<;>cases a
  |_=>cases a
 |.m t::i,e,g,d::h,a=>by
  cases d with
  |ref id p=>cases p with
   |cons=>cases a
   |nil=>
    simp only[fL] at a;cases f:(t.fW&&rQ t) with
    |false=>grind
    |true=>
     rw[f] at a;simp only[bk] at f;simp only[bG] at a;split at a
     case h_2=>cases a
     rename_i B A;split at a
     case h_2=>cases a
     rename_i l j;obtain⟨k,b,rfl⟩:=fC.1 a;refine⟨⟨?_,f.1,f.2⟩,p5 b⟩;grind [j7]
  |_=>cases a
 |.o t::i,e,g,d::h,a=>by
  cases d with
  |ref id p=>cases p with
   |cons=>cases a
   |nil=>
    simp only[fL] at a;split at a
    case h_2=>cases a
    rename_i B A;split at a
    case h_2=>cases a
    rename_i l j;obtain⟨k,b,rfl⟩:=fC.1 a;refine⟨?_,p5 b⟩;show ar q id=Y _;grind [j7]
  |dh C=>
   simp only[fL] at a;split at a
   case h_2=>cases a
   rename_i l j;obtain⟨k,b,rfl⟩:=fC.1 a;exact⟨X7 j,p5 b⟩
  |_=>cases a
 |.w H::i,e,g,d::h,a=>by
  cases d with
  |view id p y x=>cases p with
   |cons=>cases a
   |nil=>
    simp only[fL] at a;cases f:H.fW with
    |false=>grind
    |true=>
     rw[f] at a;simp only[bG] at a;cases z:ca y x with
     |false=>grind
     |true=>
     rw[z] at a;simp only[bG] at a;split at a
     case h_2=>cases a
     rename_i B A;split at a
     case h_2=>cases a
     rename_i l j;obtain⟨k,b,rfl⟩:=fC.1 a;refine⟨⟨?_,⟨bn,bn⟩,gS z,f⟩,p5 b⟩;grind [j7]
  |ref id p=>cases p<;>cases a
  |_=>cases a
 |.n::i,e,g,d::h,a=>by
  cases d with
  |dh C=>
   simp only[fL] at a;cases f:tb C with
   |false=>grind
   |true=>
    rw[f] at a;obtain⟨k,b,rfl⟩:=fC.1 a;exact⟨tb.ok f,p5 b⟩
  |ref id p=>cases p<;>cases a
  |_=>cases a
 |.s D k::i,e,g,d::h,a=>by
  have a:(fL q u i h).map (λl=>(((),l):hp (.s D k::i)))=Y e:=by
   cases d with
   |ref id p=>cases p<;>exact a
   |view id p y x=>cases p<;>exact a
   |_=>exact a
  obtain⟨l,b,rfl⟩:=fC.1 a;refine⟨?_,p5 b⟩;cases d with
  |ref id p=>cases p<;>trivial
  |view id p y x=>cases p<;>trivial
  |_=>trivial
end
section
def my:(τ:ah)->τ.den->bm aZ->(b:ah)->b.den->bv τ.den
 |τ,_,[],_,a=>hX τ a
 |.osl f,h,.idx g::c,b,a=>match h[g]? with
  |some k=>(my f k c b a).map λe=>h.set g e
  |none=>bo
 |.optr f,d,.deref::c,b,a=>my f d c b a
 |.st f,d,.unst::c,b,a=>my f d c b a
 |.pr i _,d,.fst::c,b,a=>(my i d.1 c b a).map λe=>(e,d.2)
 |.pr _ j,d,.snd::c,b,a=>(my j d.2 c b a).map λe=>(d.1,e)
 |_,_,_,_,_=>bo
theorem acX {b:k.den} {a:Q.den}:my k b [] Q a=hX k a:=by cases k<;>rfl
theorem fa.XW {d:k.den} {a:Q.den} {b:k.den} (c:hX k a=Y b):fa k d [] Q a b:=by cases j7 c;cases k<;>exact⟨bn,bn⟩
theorem m2:∀{k:bm aZ} {τ:ah} {g:τ.den} {f:ah} {h:f.den} {j:τ.den},my τ g k f h=Y j->fa τ g k f h j
 |[],τ,g,f,h,j,c=>by grind [fa.XW,acX]
 |s::k,τ,g,f,h,j,c=>by
  cases τ<;>cases s<;>simp only[my] at c<;>try (cases c;done)
  case osl.idx t i=>
   split at c
   ·rename_i l m;obtain⟨d,e,rfl⟩:=fC.1 c;exact⟨l,d,m,m2 e,bn⟩
   grind
  case optr.deref t=>exact m2 (τ:=t) c
  case st.unst t=>exact m2 (τ:=t) c
  case pr.fst a b=>
   obtain⟨d,e,rfl⟩:=fC.1 c;exact⟨d,m2 e,bn⟩
  case pr.snd a b=>
   obtain⟨d,e,rfl⟩:=fC.1 c;exact⟨d,m2 e,bn⟩
def gu (a:Z):aia:=if 0<=a then Y a.toNat else bo
theorem XO {b:Z} (c:gu b=Y a):b=(a:Z):=by grind [gu]
def bj (b:X) (a:Z):aia:=if 0<=a/\a.toNat<b then Y a.toNat else bo
theorem Nq {b:Z} (c:bj m b=Y a):b=(a:Z)/\a<m:=by grind [bj]
def cC (a:X):bv bt:=if a<=hC then Y () else bo
theorem xD {b:bt} (c:cC a=Y b):a<=hC:=by grind [cC]
def kc (b:cw) (c a:Z):ah9:=if a≠0 then Y (b.wrap (c.tdiv a)) else bo
def iM (b a:Z):ah9:=if a≠0 then Y (b.tmod a) else bo
def h0 (a:cw) (c b:Z):ah9:=if 0<=b then Y (a.wrap (c*2^min b.toNat a.bits)) else bo
def eJ (b:cw) (c a:Z):ah9:=if 0<=a then Y (c.fdiv (2^min a.toNat b.bits)) else bo
def eT (a:cw) (b c:Z):Z:=a.wrap (ck a.bits b&&&ck a.bits c).toNat
def gk (a:cw) (b c:Z):Z:=a.wrap (ck a.bits b|||ck a.bits c).toNat
def tC (a:cw) (b c:Z):Z:=a.wrap (ck a.bits b^^^ck a.bits c).toNat
def BM (a:cw) (b c:Z):Z:=a.wrap (ck a.bits b&&&~~~ck a.bits c).toNat
def wC (c:bv ak) (a:X):aia:=
 match c with
 |none=>Y a
 |some (.val (.int _) b)=>gu b
 |some _=>bo
theorem BV {c:bv ak} (b:wC c a=Y m):so c a m:=by
 unfold wC at b;unfold so;split at b
 ·grind
 ·exact XO b
 grind
def g9 (b a c:X):bv bt:=if b<=a/\a<=c then Y () else bo
theorem NJ {b:X} {c:bt} (d:g9 m a b=Y c):m<=a/\a<=b:=by grind [g9]
def nL (_:X):bv bt:=Y ()
def fV (a b:Z):aia:=if 0<=a/\a<=b/\b<=(hC:Z) then Y a.toNat else bo
open Classical in
def rB {b:Type} (c:X) (d a:bv b):bv b:=if c=0 then if d=a then a else bo else a
theorem XT {d e:bv b} {c:b} (f:rB a d e=Y c):e=Y c/\(a=0->d=Y c):=by grind [absurd,rB]
def pQ:aif:=[0,1,28,2,29,14,24,3,30,22,20,15,25,17,4,8,31,27,13,23,21,19,16,7,26,12,18,6,11,5,10,9]
inductive F1 where
 |e4 (av:ak)
 |opt (α:Type) (o:bv α) (f:α->ak)
 |new (α:Type) (o:bv α) (t:α->aG) (d:X)
 |no
def kw (tt:bm (bF×ah)) (z:bm (X×ah)) (k:bm (X×aG)) (g:bO->ak) (w:X) (v:Op):F1:=
 match v with
 |.binOp v _ b e _=>match g b,g e with
  |.val (.int c) b,.val (.int A) e=>if c=A then
   (match v with
   |.add=>.e4 (.val (.int c) (c.wrap (b+e)))
   |.sub=>.e4 (.val (.int c) (c.wrap (b-e)))
   |.mul=>.e4 (.val (.int c) (c.wrap (b*e)))
   |.quo=>.opt Z (kc c b e) (.val (.int c))
   |.rem=>.opt Z (iM b e) (.val (.int c))
   |.shl=>.opt Z (h0 c b e) (.val (.int c))
   |.shr=>.opt Z (eJ c b e) (.val (.int c))
   |.and=>.e4 (.val (.int c) (eT c b e))
   |.or=>.e4 (.val (.int c) (gk c b e))
   |.xor=>.e4 (.val (.int c) (tC c b e))
   |.andNot=>.e4 (.val (.int c) (BM c b e))
   |_=>.no) else
   (match v with
   |.shl=>.opt Z (h0 c b e) (.val (.int c))
   |.shr=>.opt Z (eJ c b e) (.val (.int c))
   |_=>.no)
  |_,_=>.no
 |.unOp .neg _ b=>match g b with
  |.val (.int c) b=>.e4 (.val (.int c) (c.wrap (0-b)))
  |_=>.no
 |.convert t p b=>match ar tt t,ar tt p,g b with
  |some (.int _),Y (.int c),.val (.int _) b=>.e4 (.val (.int c) (c.wrap b))
  |_,_,_=>.no
 |.nilCheck b=>match g b with
  |.val (.ptr r a) b=>.opt a.den b λe=>.val (.ptr r a) (Y e)
  |_=>.no
 |.indexAddr h b q=>match gZ tt h,g q with
  |some i,.val (.int _) q=>match g b with
   |.val (.a2 r a) j=>bif a7 i a then .opt a.den (ao j q) λe=>.val (.ptr r a) (Y e) else .no
   |.ref id f=>match ar k id with
    |some d=>match fm d.1 f with
     |some (.osl a)=>bif a7 i a then .opt X ((hY d.1 d.2 f (.osl a)).bind λj=>bj j.length q) λc=>.addr id (f++[.idx c]) else .no
     |_=>.no
    |none=>.no
   |.view id [] s u=>match ar k id with
    |some d=>match d.1 with
     |.osl a=>bif a7 i a then .opt X (bj (u-s) q) λc=>.addr id [.idx (s+c)] else .no
     |_=>.no
    |none=>.no
   |_=>.no
  |_,_=>.no
 |.load h b=>match ar tt h with
  |some i=>match g b with
   |.addr id f=>match ar k id with
    |some d=>match fm d.1 f with
     |some a=>bif a7 i a&&a.pure then .opt a.den (hY d.1 d.2 f a) λe=>.val a e else .no
     |none=>.no
    |none=>.no
   |.ref id f=>match ar k id with
    |some d=>match fm d.1 f with
     |some (.optr a)=>bif a7 i a&&a.pure then .opt a.den (hY d.1 d.2 (f++[.deref]) a) λe=>.val a e else .no
     |_=>.no
    |none=>.no
   |.val (.ptr _ a) b=>bif a7 i a then .opt a.den b λe=>vo a e else .no
   |_=>.no
  |none=>.no
 |.fieldAddr h b m=>match lA tt h,g b with
  |some i,.val (.ptr r (.st a)) b=>bif a7 i a&&(fF a m).isSome then .opt a.den b λe=>(match rj a e m with
   |some n=>.val (.ptr r n.1) (Y n.2)
   |none=>.dead) else .no
  |_,_=>.no
 |.slice h b s u bo=>match gZ tt h with
  |some i=>match g b with
   |.val (.a2 r a) j=>bif a7 i a then
    .opt ep ((wC (s.map g) 0).bind λl=>(wC (u.map g) j.length).bind λp=>(g9 l p j.length).map λ_=>(l,p)) (λn=>.val (.a2 r a) ((j.take n.2).drop n.1)) else .no
   |.ref id f=>match ar k id with
    |some d=>match fm d.1 f with
     |some (.osl a)=>bif a7 i a then
      .opt ep ((hY d.1 d.2 f (.osl a)).bind λj=>(wC (s.map g) 0).bind λl=>(wC (u.map g) j.length).bind λp=>(g9 l p j.length).bind λ_=>(nL j.length).map λ_=>(l,p)) (λn=>.view id f n.1 n.2) else .no
     |_=>.no
    |none=>.no
   |_=>.no
  |none=>.no
 |.makeSlice h l o=>match gZ tt h,ar z w,ar k w with
  |some i,Y (.osl a),bo=>match l8 a,g l,g o with
   |some y,.val (.int _) l,.val (.int _) o=>bif a7 i a&&b2 a.size 2000 then
    .new X (fV l o) (λm=>⟨.osl a,bJ m y⟩) w else .no
   |_,_,_=>.no
  |_,_,_=>.no
 |.index h b q=>match ar tt h,g b,g q with
  |some .str,.dh (.string t),.val (.int _) m=>.opt Z (qn t m) (.val (.int .u8))
  |some .str,.val .str t,.val (.int _) m=>.opt Z (qn t m) (.val (.int .u8))
  |_,_,_=>.no
 |.lookup h b c B=>match kZ tt h,g b,g c with
  |some i,.ref id f,.val (.int .i64) c=>match ar k id with
   |some d=>match fm d.1 f with
    |some (.mp a)=>match l8 a with
     |some y=>bif a7 i a then .opt (bv (bm (Z×a.den)×X)) (hY d.1 d.2 f (.mp a)) λx=>Es a x y c B else .no
     |none=>.no
    |_=>.no
   |none=>.no
  |_,_,_=>.no
 |.call o=>match o.callee,o.args.toList,o.argTypes.toList with
  |.builtin .len,[b],[h]=>match gZ tt h,g b with
   |some _,.ref id f=>match ar k id with
    |some d=>match fm d.1 f with
     |some (.osl a)=>.opt (bm a.den) (hY d.1 d.2 f (.osl a)) λj=>.val (.int .i64) (j.length:Z)
     |_=>.no
    |none=>.no
   |none,.ref id f=>match kZ tt h,ar k id with
    |some _,Y d=>match fm d.1 f with
     |some (.mp a)=>.opt (bv (bm (Z×a.den)×X)) (hY d.1 d.2 f (.mp a)) λx=>.val (.int .i64) (xI x)
     |_=>.no
    |_,_=>.no
   |_,_=>.no
  |_,_,_=>.no
 |_=>.no
theorem MV:∀{t:ah} {y:t.den} {b:X},(fF t b).isSome=bp->∃d,rj t y b=Y d
 |.pr e c,y,0,_=>⟨_,bn⟩
 |.pr e c,y,b+1,a=>by
  simp only[fF] at a;split at a
  ·rename_i d f;exact MV (t:=c) (by grind)
  grind
 |.int _,_,_,a=>by cases a
 |.bool,_,_,a=>by cases a
 |.str,_,_,a=>by cases a
 |.a2 _ _,_,_,a=>by cases a
 |.ptr _ _,_,_,a=>by cases a
 |.osl _,_,_,a=>by cases a
 |.optr _,_,_,a=>by cases a
 |.st _,_,_,a=>by cases a
 |.nil,_,_,a=>by cases a
 |.eK,_,_,a=>by cases a
def F1.K (g:F1) (b:ak->bm (X×aG)->Prop):Prop:=
 match g with
 |.e4 e=>b e []
 |.opt _ c f=>∃a,c=Y a/\b (f a) []
 |.new _ c h d=>∃a,c=Y a/\b (.ref d []) [(d,h a)]
 |.no=>b6
theorem Hz {tt:bm (bF×ah)} {P:Op} {Q:ak->bm (X×aG)->Prop} (b:(kw tt l e V a P).K Q):(g3 tt l e V a P).K Q:=by
 unfold kw at b;split at b
 ·rename_i P r m j a0;simp only[g3];split at b
  case h_2=>exact b.elim
  rename_i q m T j h ad;simp only[h,ad];split at b
  ·rename_i x;subst x;split at b
   ·simp only[lU,cj];exact⟨_,⟨trivial,bn⟩,b⟩
   ·simp only[lU,cj];exact⟨_,⟨trivial,bn⟩,b⟩
   ·simp only[lU,cj];exact⟨_,⟨trivial,bn⟩,b⟩
   ·obtain⟨w,i,f⟩:=b;unfold kc at i;split at i
    ·rename_i c;cases i;simp only[lU,cj];exact⟨_,⟨c,bn⟩,f⟩
    grind
   ·obtain⟨w,i,f⟩:=b;unfold iM at i;split at i
    ·rename_i c;cases i;simp only[lU,cj];exact⟨_,⟨c,bn⟩,f⟩
    grind
   ·obtain⟨w,i,f⟩:=b;unfold h0 at i;split at i
    ·rename_i c;cases i;exact⟨_,⟨c,bn⟩,f⟩
    grind
   ·obtain⟨w,i,f⟩:=b;unfold eJ at i;split at i
    ·rename_i c;cases i;exact⟨_,⟨c,bn⟩,f⟩
    grind
   ·simp only[lU,cj];exact⟨_,⟨trivial,bn⟩,b⟩
   ·simp only[lU,cj];exact⟨_,⟨trivial,bn⟩,b⟩
   ·simp only[lU,cj];exact⟨_,⟨trivial,bn⟩,b⟩
   ·simp only[lU,cj];exact⟨_,⟨trivial,bn⟩,b⟩
   exact b.elim
  split at b
  ·obtain⟨w,i,f⟩:=b;unfold h0 at i;split at i
   ·rename_i c;cases i;exact⟨_,⟨c,bn⟩,f⟩
   grind
  ·obtain⟨w,i,f⟩:=b;unfold eJ at i;split at i
   ·rename_i c;cases i;exact⟨_,⟨c,bn⟩,f⟩
   grind
  exact b.elim
 ·rename_i r m;simp only[g3];split at b
  case h_2=>exact b.elim
  rename_i q m h;rw[h];exact⟨_,bn,b⟩
 ·rename_i U x m;simp only[g3,B1];split at b
  case h_2=>exact b.elim
  rename_i T q a4 m aq o h;rw[aq,o,h];exact⟨_,bn,b⟩
 ·rename_i m;simp only[g3,vj];split at b
  case h_2=>exact b.elim
  rename_i E g m h;rw[h];obtain⟨j,rfl,f⟩:=b;exact⟨j,bn,f⟩
 ·rename_i r m S;simp only[g3,u2];split at b
  case h_2=>exact b.elim
  rename_i k q S aq o;rw[aq,o];simp only;split at b
  ·rename_i E g D h;rw[h];simp only;cases d:a7 k g with
   |false=>rw[d] at b;exact b.elim
   |true=>
   rw[d] at b;obtain⟨j,c,f⟩:=b;exact⟨j,c,f⟩
  ·rename_i id B h;rw[h];simp only;split at b
   case h_2=>exact b.elim
   rename_i t n;rw[n];simp only;split at b
   case h_2=>exact b.elim
   rename_i g p;rw[p];simp only;cases d:a7 k g with
   |false=>rw[d] at b;exact b.elim
   |true=>
   rw[d] at b;obtain⟨j,c,f⟩:=b;obtain⟨D,N,c⟩:=eO.1 c;obtain⟨u,v⟩:=Nq c;exact⟨(D,j),⟨iK N,u,v⟩,f⟩
  ·rename_i id ap am h;rw[h];simp only;split at b
   case h_2=>exact b.elim
   rename_i t n;obtain⟨bx,m⟩:=t;rw[n];simp only at b|-;split at b
   case h_2=>exact b.elim
   rename_i g;simp only[fm];cases d:a7 k g with
   |false=>rw[d] at b;exact b.elim
   |true=>
   rw[d] at b;obtain⟨q,an,f⟩:=b;obtain⟨u,v⟩:=Nq an;exact⟨(m,q),⟨⟨bn,bn⟩,u,v⟩,f⟩
  exact b.elim
 ·rename_i r m;simp only[g3,u9];split at b
  case h_2=>exact b.elim
  rename_i k aq;rw[aq];simp only;split at b
  ·rename_i id B h;rw[h];simp only;split at b
   case h_2=>exact b.elim
   rename_i t n;rw[n];simp only;split at b
   case h_2=>exact b.elim
   rename_i g p;rw[p];simp only[vv];cases d:(a7 k g&&g.pure) with
   |false=>rw[d] at b;exact b.elim
   |true=>
   rw[d] at b;simp only[bk] at d;rw[d.1,d.2];obtain⟨j,c,f⟩:=b;exact⟨j,iK c,f⟩
  ·rename_i id B h;rw[h];simp only;split at b
   case h_2=>exact b.elim
   rename_i t n;rw[n];simp only;split at b
   case h_2=>exact b.elim
   rename_i g p;rw[p];simp only[vv];cases d:(a7 k g&&g.pure) with
   |false=>rw[d] at b;exact b.elim
   |true=>
   rw[d] at b;simp only[bk] at d;rw[d.1,d.2];obtain⟨j,c,f⟩:=b;exact⟨j,iK c,f⟩
  ·rename_i E g m h;rw[h];cases d:a7 k g with
   |false=>rw[d] at b;exact b.elim
   |true=>
   rw[d] at b;obtain⟨j,rfl,f⟩:=b;simp only[d,bG];exact f
  exact b.elim
 ·rename_i r m O;simp only[g3,uW];split at b
  case h_2=>exact b.elim
  rename_i k E g m aq h;rw[aq,h];cases d:(a7 k g&&(fF g O).isSome) with
  |false=>rw[d] at b;exact b.elim
  |true=>
  rw[d] at b;simp only[bk] at d;obtain⟨j,rfl,f⟩:=b;obtain⟨bs,R⟩:=MV (y:=j) d.2;simp only[R] at f;simp only[d.1,bG,R];exact f
 ·rename_i r m ap am;simp only[g3,vE];split at b
  case h_2=>exact b.elim
  rename_i k aq;rw[aq];simp only;split at b
  ·rename_i E g D h;rw[h];simp only;cases d:a7 k g with
   |false=>rw[d] at b;exact b.elim
   |true=>
   rw[d] at b;obtain⟨j,c,f⟩:=b;obtain⟨A,L,c⟩:=eO.1 c;obtain⟨x,J,c⟩:=eO.1 c;obtain⟨av,M,rfl⟩:=fC.1 c;obtain⟨u,v⟩:=NJ M;exact⟨(A,x),⟨BV L,BV J,u,v⟩,f⟩
  ·rename_i id B h;rw[h];simp only;split at b
   case h_2=>exact b.elim
   rename_i t n;rw[n];simp only;split at b
   case h_2=>exact b.elim
   rename_i g p;rw[p];simp only;cases d:a7 k g with
   |false=>rw[d] at b;exact b.elim
   |true=>
   rw[d] at b;obtain⟨j,c,f⟩:=b;obtain⟨D,N,c⟩:=eO.1 c;obtain⟨A,L,c⟩:=eO.1 c;obtain⟨x,J,c⟩:=eO.1 c;obtain⟨av,M,c⟩:=eO.1 c;obtain⟨fv,a3,rfl⟩:=fC.1 c;obtain⟨u,v⟩:=NJ M;exact⟨(D,A,x),⟨iK N,BV L,BV J,u,v⟩,f⟩
  exact b.elim
 ·rename_i r A G;simp only[g3,vc];split at b
  case h_2=>exact b.elim
  rename_i k g aq o s;rw[aq,o,s];simp only;split at b
  case h_2=>exact b.elim
  rename_i w q A T G z C H;rw[z,C,H];simp only;cases d:(a7 k g&&b2 g.size 2000) with
  |false=>rw[d] at b;exact b.elim
  |true=>
  rw[d] at b;obtain⟨j,c,f⟩:=b;unfold fV at c;split at c
  ·rename_i I;cases c;exact⟨(A.toNat,G.toNat),⟨(amv I.1).symm,(amv (Int.le_trans I.1 I.2.1)).symm,aa,aa⟩,f⟩
  grind
 ·rename_i r m S;simp only[g3,Ft];split at b
  ·rename_i U q O aq o s;rw[aq,o,s];obtain⟨F,d,f⟩:=b;exact⟨F,d,f⟩
  ·rename_i U q O aq o s;rw[aq,o,s];obtain⟨F,d,f⟩:=b;exact⟨F,d,f⟩
  exact b.elim
 ·rename_i r m q bl;simp only[g3,va];split at b
  case h_2=>exact b.elim
  rename_i k id B q aq o s;rw[aq,o,s];simp only;split at b
  case h_2=>exact b.elim
  rename_i t n;rw[n];simp only;split at b
  case h_2=>exact b.elim
  rename_i g p;rw[p];simp only;split at b
  case h_2=>exact b.elim
  rename_i w i;rw[i];simp only;cases d:a7 k g with
  |false=>rw[d] at b;exact b.elim
  |true=>
  rw[d] at b;obtain⟨j,c,f⟩:=b;exact⟨j,iK c,f⟩
 ·rename_i G;simp only[g3];split at b
  ·rename_i m r aq o s;rw[aq,o,s];simp only;split at b
   ·rename_i k id B z C;rw[z,C];simp only[u7,z];split at b
    case h_2=>exact b.elim
    rename_i t n;rw[n];simp only;split at b
    case h_2=>exact b.elim
    rename_i g p;rw[p];obtain⟨j,c,f⟩:=b;exact⟨j,iK c,f⟩
   ·rename_i id B z C;rw[z,C];simp only[vf];split at b
    case h_2=>exact b.elim
    rename_i k t H n;rw[H,n];simp only;split at b
    case h_2=>exact b.elim
    rename_i g p;rw[p];obtain⟨j,c,f⟩:=b;exact⟨j,iK c,f⟩
   exact b.elim
  exact b.elim
 exact b.elim
def jm {e:Type} (c d:bm e) (a b:X):bm e:=c.take a++(d.take (b-a)++c.drop (a+min d.length (b-a)))
end
section
def Ag:ak->bA
 |.val _ _=>bp
 |_=>bq
def Ik:ak->bA
 |.val _ _=>bp
 |.eB _ a=>a.all Ag
 |_=>bq
theorem Il (b:Ik d=bp):∀id∈d.ids,False:=by
 intro id c;cases d with
 |val f e=>grind [bT]
 |eB g a=>
  have b:a.all Ag=bp:=b;have:∀a:bm ak,a.all Ag=bp->∀id∈ajd a,False:=by
   intro a
   induction a with
   |nil=>grind [ajd]
   |cons d a h=>
    intro b id c;simp only[r0,bk] at b;simp only[ajd,h9] at c;rcases c with c|c
    ·cases d with
     |val f e=>grind [bT]
     |_=>cases b.1
    grind
  exact this a b id c
 |_=>cases b
def po (C:eY) (c:bm (X×ak)):Prop:=
 (∀a,C.I0 a\/C.B a->a<C.w0.heap.size/\¬C.F0 a)/\
 ∀b∈c,b.1∈C.pin/\Ik b.2=bp/\cP (bb C.I0 C.B) C.w0 [] (λ_=>[]) (λ_=>[]) b.2 (C.vs b.1)
section
variable {E:fA} {C:eY}
def po.nil (b:∀a,C.I0 a\/C.B a->a<C.w0.heap.size/\¬C.F0 a):po C []:=⟨b,λc b=>by cases b⟩
theorem V1 (c b:bm (X×ak)) (a:X):gt (c++b) a=match ar c a with|some d=>d|none=>gt b a:=by grind [kA,ar,gt]
theorem Al {e:Type}:∀{c:bm (X×e)} {b:X} {d:e},ar c b=Y d->(b,d)∈c
 |[],_,_,a=>by cases a
 |(f,v0)::c,b,d,a=>by
  rw[ey] at a;split at a
  ·grind
  exact hW _ (Al a)
def gI.kg (f:po C T) {j:ah6} (n:gI C i j v):gI C ⟨T++i.g,i.h⟩ j v:=by
 obtain⟨k,w,m,b⟩:=n;refine⟨k,w,m,{b with tmp:=λc=>?_}⟩;show cP _ _ _ _ _ (gt (T++i.g) c) _;rw[V1];split
 ·rename_i l s;obtain⟨o,p,d⟩:=f.2 _ (Al s);have d:cP (bb C.I0 C.B) C.w0 [] (λ_=>[]) (λ_=>[]) l (C.vs c):=d;rw[b.pin c o];refine d.s9 (λt a e=>?_) (λid r=>(Il p id r).elim);have q:C.I0 a\/C.B a:=mW e;obtain⟨aw,u⟩:=f.1 a q;refine⟨?_,alC (b.frame a aw u)⟩;cases t
  ·exact b.i0 a e
  exact e.imp (b.i0 a) id
 exact b.tmp c
def J.kg {d:bm (X×ak)} (k:po C d) {c:Code} {a:aO} {b:b5->aO->Prop} (f:J E C c ⟨d++a.g,a.h⟩ b):J E C c a b:=
 λe l i j=>f e l (i.kg k) j
def sV (a:bm (X×ak)):aie->bv (bm (X×ak))
 |[]=>Y []
 |k::c=>match gt a k with
  |.val g f=>(sV a c).map λb=>(k,.val g f)::b
  |.eB e d=>bif d.all Ag then(sV a c).map λb=>(k,.eB e d)::b else bo
  |_=>bo
theorem Ie {h:bm (X×ak)}:∀{g:aie} {d:bm (X×ak)},sV h g=Y d->∀b∈d,b.1∈g/\Ik b.2=bp/\gt h b.1=b.2
 |[],d,c,b,a=>by cases c;cases a
 |k::g,d,c,b,a=>by
  simp only[sV] at c;split at c
  ·rename_i q p f;obtain⟨n,e,rfl⟩:=fC.1 c;rcases fR.1 a with rfl|a
   ·exact⟨nc ..,bn,f⟩
   obtain⟨j,l⟩:=Ie e b a;grind
  ·rename_i o m f;cases i:m.all Ag with
   |false=>grind
   |true=>
   rw[i] at c;obtain⟨n,e,rfl⟩:=fC.1 c;rcases fR.1 a with rfl|a
   ·exact⟨nc ..,i,f⟩
   obtain⟨j,l⟩:=Ie e b a;grind
  grind
theorem J.keep {K:Code} {H:bm (X×ak)} (r:po C T) (ap:sV i.g f=Y H) (l:∀k:eY,k.n=C.n->k.pin=f++C.pin->po k (H++T)->(∀t,tY C t->tY k t)->(lg E C.I0 C.w0->lg E k.I0 k.w0)->J E k K i z):J E C K i z:=by
 rintro u I ⟨y,M,A,b⟩ ad
 let k:eY:={I0:=y,B:=C.B,F0:=λa=>∃id d,ar i.h id=Y d/\a∈A id,w0:=I,n:=C.n,pin:=f++C.pin,vs:=λq=>u.tmps.getD q bW}
 have U:cN k i u.tmps I y M A:=
  {n:=b.n,i0:=λ_ l=>l,i1:=λ_ l=>.inl l,ib:=b.ib,tree:=λid d j=>⟨(b.tree id d j).1,(b.tree id d j).2.1,λa c=>⟨((b.tree id d j).2.2 a c).1,((b.tree id d j).2.2 a c).2.1,((b.tree id d j).2.2 a c).2.2.1,.inr ⟨id,d,j,c⟩⟩⟩,dis:=b.dis,tmp:=b.tmp,frame:=λ_ _ _=>rfl,evo:=λ_ _=>.refl _ _,size:=bc _,os:=rfl,tape:=rfl,output:=rfl,pin:=λq _=>rfl}
 have an:po k (H++T):=by
  refine⟨λa c=>⟨b.ib a c,?_⟩,λw p=>?_⟩
  ·rintro⟨id,d,j,V⟩;obtain⟨aw,x,_⟩:=(b.tree id d j).2.2 a V;grind
  rcases h9.1 p with p|p
  ·obtain⟨m,o,D⟩:=Ie ap w p;refine⟨h9.2 (.inl m),o,?_⟩;have:=b.tmp w.1;rw[D] at this;exact this.s9 (λL a s=>⟨s,cq _ _⟩) (λid F=>(Il o id F).elim)
  obtain⟨m,o,D⟩:=r.2 w p;refine⟨h9.2 (.inr m),o,?_⟩;show cP _ _ _ _ _ _ (u.tmps.getD w.1 bW);rw[b.pin _ m];refine D.s9 (λL a s=>?_) (λid F=>(Il o id F).elim);obtain⟨aw,x⟩:=r.1 a (mW s);refine⟨?_,alC (b.frame a aw x)⟩;cases L
  ·exact b.i0 a s
  exact s.imp (b.i0 a) id
 have a0:∀t,tY C t->tY k t:=by
  rintro(_|⟨q,ds,d1⟩) av
  ·trivial
  obtain⟨N,O,a,a3,c1,ci,P,co,d2,cs⟩:=av;refine⟨lm _ N,λv G=>lm _ (O v G),a,a3,c1,(b.pin q N).trans ci,i9 P b.size,?_,?_,?_⟩
  ·rintro⟨id,d,j,c⟩;rcases((b.tree id d j).2.2 a c).2.2.2 with m|m
   ·omega
   grind
  ·have c:=b.frame a P co;grind [block,ajq]
  rw[cs];exact h7 λv G=>(b.pin v (O v G)).symm
 refine wp_mono (l k bn rfl an a0 (λS=>b.glob r.1 S) u I ⟨y,M,A,U⟩ ad) ?_;rintro dl c2 d3 ⟨cv,p,⟨Q,ce,R,e⟩,am⟩;have d0:∀a,k.F0 a->C.w0.heap.size<=a\/C.F0 a:=(by rintro a ⟨id,d,j,c⟩;exact((b.tree id d j).2.2 a c).2.2.2);refine⟨cv,p,⟨Q,ce,R,?_⟩,am⟩;refine{n:=e.n,i0:=λa c=>e.i0 a (b.i0 a c),i1:=λa c=>?_,ib:=e.ib,tree:=λid d j=>?_,dis:=e.dis,tmp:=e.tmp,frame:=λa m o=>?_,evo:=λa c=>(b.evo a c).trans (e.evo a (i9 c b.size)),size:=ez b.size e.size,os:=e.os.trans b.os,tape:=e.tape.trans b.tape,output:=e.output.trans b.output,pin:=λq r=>?_}
 ·rcases e.i1 a c with l|l|l
  ·exact b.i1 a l
  ·exact .inr (.inl (ez b.size l))
  grind
 ·obtain⟨aw,x,a4⟩:=e.tree id d j;refine⟨aw,x,λa c=>?_⟩;obtain⟨bl,bs,bx,aJ⟩:=a4 a c;refine⟨bl,bs,bx,?_⟩;rcases aJ with l|l
  ·exact .inl (ez b.size l)
  grind
 ·refine(e.frame a (i9 m b.size) ?_).trans (b.frame a m o);grind
 rw[e.pin q (h9.2 (.inr r))];exact b.pin q r
end
end
structure cI where
 d:bv (X×ak)
 S:aie
 keep:bm (X×bm aZ)
 put:bm (X×aG)
variable{q:cI}
def nG (a:aie) (c:bm (X×bm aZ)) (b:bm (X×ak)):bm (X×ak):=match a with
 |[]=>b
 |_=>aiz a c b
def q8 (a:aie) (b:bm (X×aG)):bm (X×aG):=match a with
 |[]=>b
 |_=>del a b
def cI.app (a:cI) (b:aO):aO:=⟨match a.d with
 |some c=>c::nG a.S a.keep b.g
 |none=>nG a.S a.keep b.g,a.put++q8 a.S b.h⟩
theorem Ww (b:bm (X×bm aZ)) (a:ak):fG [] b a=a:=by
 have c:∀a,fc [] b a=a:=λa=>(by have:(a.ids.any λd=>eQ d [])=bq:=(by grind [alD,eQ]);simp only[fc,aiv,this,alE,bP]);cases a with
 |fe e=>grind [aiy,alF,fG]
 |_=>exact c _
theorem WB (c:bm (X×bm aZ)):∀b:bm (X×ak),aiz [] c b=b
 |[]=>rfl
 |(k,a)::b=>by simp_all [h8,Ww,aiz]
theorem Uk:∀a:bm (X×aG),del [] a=a
 |[]=>rfl
 |x::a=>by simp_all [n0,au,eQ,del]
theorem sW (a:aie) (c:bm (X×bm aZ)) (b:bm (X×ak)):nG a c b=aiz a c b:=by
 cases a
 ·exact(WB c b).symm
 rfl
theorem xe (a:aie) (b:bm (X×aG)):q8 a b=del a b:=by
 cases a
 ·exact(Uk b).symm
 rfl
def rM {k:Type} (tt:bm (bF×ah)) (f:bm (X×aG)) (m:bF) (q v:ak) (e:cI->bv k):bv k:=
 match rF f q with
 |none=>bo
 |some (
  id,p)=>match ar f id,ar tt m with
  |some a,Y o=>match fm a.1 p with
   |none=>bo
   |some b=>bif a7 o b then match v with
    |.ref c g=>match ar f c with
     |some l=>bif bH id c then bo else(hY l.1 l.2 g b).bind λh=>(my a.1 a.2 p b h).bind λd=>e ⟨bo,[id,c],[(id,p)],[(id,⟨a.1,d⟩)]⟩
     |none=>bo
    |.app c g i j n=>match hX (τ:=.osl i) b j with
     |some _=>bif bH c id&&l3 g p then(hY a.1 a.2 p (.osl i)).bind λr=>(my a.1 a.2 p (.osl i) (r++j)).bind λd=>e ⟨bo,id::n,[(id,p)],[(id,⟨a.1,d⟩)]⟩ else bo
     |none=>bo
    |v=>match coe b v with
     |some h=>(my a.1 a.2 p b h).bind λd=>e ⟨bo,[id],[(id,p)],[(id,⟨a.1,d⟩)]⟩
     |none=>bo
   else bo
  |_,_=>bo
theorem adp {q:b} {n:cI->bv b} {tt:bm (bF×ah)} (a:rM tt i.h c t d n=Y q) (k:∀o,n o=Y q->u (o.app i)):(Fs tt i c t d).K u:=by
 unfold rM at a;unfold Fs;split at a
 ·cases a
 rename_i id A v;rw[v];simp only;split at a
 case h_2=>cases a
 rename_i F B w r;obtain⟨O,M⟩:=F;rw[w,r];simp only at a|-;split at a
 ·cases a
 rename_i D z;rw[z];simp only;cases s:a7 B D with
 |false=>grind
 |true=>
 rw[s] at a;simp only[bG] at a|-;split at a
 ·rename_i l p;split at a
  case h_2=>cases a
  rename_i E x;obtain⟨P,J⟩:=E;cases e:bH id l with
  |true=>grind
  |false=>
  rw[e] at a;obtain⟨m,f,a⟩:=eO.1 a;obtain⟨j,g,a⟩:=eO.1 a;simp only[x,e,bP];exact⟨(m,j),⟨iK f,m2 g⟩,k _ a⟩
 ·rename_i l p N L I;split at a
  case h_2=>cases a
  rename_i m f;cases j7 f;cases e:(bH l id&&l3 p A) with
  |false=>grind
  |true=>
  rw[e] at a;simp only[bk] at e;obtain⟨C,y,a⟩:=eO.1 a;obtain⟨j,g,a⟩:=eO.1 a;simp only[ajr];exact⟨(C,j),⟨fu e.1,l3.ok e.2,iK y,m2 g⟩,k _ a⟩
 rename_i d G H;split at a
 case h_2=>cases a
 rename_i m f;obtain⟨j,g,a⟩:=eO.1 a;split
 ·grind
 ·grind
 rw[f];exact⟨j,m2 g,k _ a⟩
def ld (e:bm (X×aG)) (a:ah) (i:ak):bv (bm a.den):=
 match i with
 |.val (.a2 _ h) d=>hX (τ:=.osl h) (.osl a) d
 |.dh (.slice bo 0 0)=>Y []
 |.ref id c=>match ar e id with
  |some b=>bif a.pure then hY b.1 b.2 c (.osl a) else bo
  |none=>bo
 |.view id c g f=>match ar e id with
  |some b=>bif a.pure then(hY b.1 b.2 c (.osl a)).bind λd=>Y ((d.take f).drop g) else bo
  |none=>bo
 |_=>bo
def lT.FR {c:ah} (e:lT c) (b:bm c.den):Prop:=
 match e with
 |.e4 f=>f=b
 |.part _ g d=>∃a,g a/\d a=b
 |.bad=>b6
theorem Bn {f:bm k.den} (a:ld e k d=Y f):(rS e k d).FR f:=by
 unfold ld at a;unfold rS;split at a
 ·rename_i p q h;cases j7 a;simp only[ajr];rfl
 ·cases a;rfl
 ·rename_i id j;split at a
  case h_2=>cases a
  rename_i g c;obtain⟨m,l⟩:=g;simp only[c];cases b:k.pure with
  |false=>grind
  |true=>rw[b] at a;exact⟨f,iK a,bn⟩
 ·rename_i id j o n;split at a
  case h_2=>cases a
  rename_i g c;obtain⟨m,l⟩:=g;simp only[c];cases b:k.pure with
  |false=>grind
  |true=>
   rw[b] at a;obtain⟨h,i,a⟩:=eO.1 a;cases a;exact⟨h,iK i,bn⟩
 grind
def lT.FR.to {d:ah} {c:lT d} {a:bm d.den} (b:c.FR a) {g:X->Prop} {f:bm d.den->aO} {e:aO->Prop} (h:g a.length) (i:e (f a)):(c.to g f).K e:=by
 cases c with
 |e4 l=>obtain rfl:l=a:=b;exact⟨(),h,i⟩
 |part n o m=>obtain⟨k,j,rfl⟩:=b;exact⟨k,⟨j,h⟩,i⟩
 |bad=>exact b.elim
def oR {n:Type} (tt:bm (bF×ah)) (p:bm (X×ah)) (d:bm (X×aG)) (b:X) (o:bF) (q g:ak) (f:cI->bv n):bv n:=
 match gZ tt o with
 |none=>bo
 |some i=>
  match q with
  |.ref id []=>match ar d id with
   |some ⟨.osl a,e⟩=>bif a7 i a&&b2 a.size 1300 then
    match a.pure with
    |true=>(ld d a g).bind λc=>(cC (e.length+c.length)).bind λ_=>f ⟨Y (b,.ref b []),[id,b],[],[(b,⟨.osl a,e++c⟩)]⟩
    |false=>match g with
     |.ref k []=>match ar d k with
      |some r=>match hX (.osl a) r.2 with
       |some c=>bif bH id k then bo else(cC (e.length+aiq (α:=a.den) c)).bind λ_=>f ⟨Y (b,.ref b []),[id,k,b],[],[(b,⟨.osl a,List.append (α:=a.den) e c⟩)]⟩
       |none=>bo
      |none=>bo
     |_=>bo
    else bo
   |_=>bo
  |.ref id h=>match ar d id,ar d b with
   |some j,bo=>match fm j.1 h with
    |some (.osl a)=>bif a7 i a&&b2 a.size 1300&&a.kD then
     (hY j.1 j.2 h (.osl a)).bind λe=>(ld d a g).bind λc=>(cC (aiq (α:=a.den) e+c.length)).bind λ_=>
      f ⟨Y (b,.app id h a c [b]),[id],[(id,h),(id,[])],[(b,⟨.eK,()⟩),(id,j)]⟩
     else bo
    |_=>bo
   |_,_=>bo
  |.view id [] m l=>match ar d id with
   |some ⟨.osl a,e⟩=>bif a7 i a&&b2 a.size 1300 then
    (ld d a g).bind λc=>(cC (aiq (α:=a.den) ((e.take l).drop m)+c.length)).bind λ_=>f ⟨Y (b,.ref b []),[id,b],[],[(b,⟨.osl a,(e.take l).drop m++c⟩)]⟩
    else bo
   |_=>bo
  |.dh (.slice bo 0 0)=>match ar p b with
   |some (.osl a)=>bif a7 i a&&b2 a.size 1300 then
    (ld d a g).bind λc=>(cC c.length).bind λ_=>f ⟨Y (b,.ref b []),[b],[],[(b,⟨.osl a,c⟩)]⟩
    else bo
   |_=>bo
  |_=>bo
theorem Ta {A:b} {w:cI->bv b} {tt:bm (bF×ah)} (e:oR tt l i.h a c d t w=Y A) (m:∀x,w x=Y A->u (x.app i)):(BN tt l i a c d t).K u:=by
 unfold oR at e;unfold BN;split at e
 ·cases e
 rename_i s F;rw[F];simp only;split at e
 ·rename_i id;simp only;split at e
  case h_2=>cases e
  rename_i j v n;rw[n];simp only;cases k:(a7 s j&&b2 j.size 1300) with
  |false=>grind
  |true=>
  rw[k] at e;simp only[bG] at e|-;split at e
  ·rename_i q;rw[q];obtain⟨p,f,e⟩:=eO.1 e;obtain⟨_,g,e⟩:=eO.1 e;exact(Bn f).to (xD g) (m _ e)
  rename_i q;rw[q];split at e
  case h_2=>cases e
  rename_i H;split at e
  case h_2=>cases e
  rename_i M E;obtain⟨V,R⟩:=M;split at e
  case h_2=>cases e
  rename_i p f;cases j7 f;cases y:bH id H with
  |true=>grind
  |false=>
  rw[y] at e;obtain⟨_,g,e⟩:=eO.1 e;simp only[E,ajr,y,bP];exact⟨(),xD g,m _ e⟩
 ·rename_i id z q;split at e
  case h_2=>cases e
  rename_i L n D;obtain⟨U,S⟩:=L;simp only at e;split at e
  case h_2=>cases e
  rename_i j G;cases k:(a7 s j&&b2 j.size 1300&&j.kD) with
  |false=>grind
  |true=>
  rw[k] at e;obtain⟨v,r,e⟩:=eO.1 e;obtain⟨p,f,e⟩:=eO.1 e;obtain⟨_,g,e⟩:=eO.1 e;have g:=xD g;have f:=Bn f;have r:=iK r;cases z with
  |nil=>grind
  |cons Q z=>
  simp only[n,D,G,k,bG];split
  ·rename_i J o;rw[o] at f;obtain rfl:J=p:=f;exact⟨v,⟨r,g⟩,m _ e⟩
  ·rename_i T ad N o;rw[o] at f;obtain⟨I,B,rfl⟩:=f;exact⟨(v,I),⟨r,B,g⟩,m _ e⟩
  rename_i o;rw[o] at f;exact f.elim
 ·rename_i id P O;simp only;split at e
  case h_2=>cases e
  rename_i j v n;rw[n];simp only;cases k:(a7 s j&&b2 j.size 1300) with
  |false=>grind
  |true=>
  rw[k] at e;simp only[bG] at e|-;obtain⟨p,f,e⟩:=eO.1 e;obtain⟨_,g,e⟩:=eO.1 e;exact(Bn f).to (xD g) (m _ e)
 ·simp only;split at e
  case h_2=>cases e
  rename_i j C;rw[C];simp only;cases k:(a7 s j&&b2 j.size 1300) with
  |false=>grind
  |true=>
  rw[k] at e;simp only[bG] at e|-;obtain⟨p,f,e⟩:=eO.1 e;obtain⟨_,g,e⟩:=eO.1 e;exact(Bn f).to (xD g) (m _ e)
 grind
def pN (d:bm (X×ah)) (c:bm (X×aG)) (a:X) (h:ak):bv cI:=
 match h with
 |.ref id []=>match ar c id with
  |some b=>Y ⟨Y (a,.ref a []),[id,a],[],[(a,b)]⟩
  |none=>bo
 |.ref id g=>bif bH id a then bo else Y ⟨Y (a,.ref id g),[a],[],[]⟩
 |.view id [] f e=>match ar c id with
  |some ⟨.osl b,i⟩=>Y ⟨Y (a,.ref a []),[id,a],[],[(a,⟨.osl b,(i.take e).drop f⟩)]⟩
  |_=>bo
 |.dh (.slice bo 0 0)=>match ar d a with
  |some (.osl b)=>Y ⟨Y (a,.ref a []),[a],[],[(a,⟨.osl b,[]⟩)]⟩
  |_=>bo
 |_=>bo
theorem Tl (b:pN l i.h a d=Y q) (e:u (q.app i)):(BP l i a d).K u:=by
 unfold pN at b;unfold BP;split at b
 ·split at b
  ·rename_i j c;cases b;simp only[c];exact e
  grind
 ·rename_i id g k;cases f:bH id a with
  |true=>grind
  |false=>
  rw[f] at b;cases b;cases g with
  |nil=>grind
  |cons m g=>simp only[f,bP];exact e
 ·split at b
  ·rename_i j n c;cases b;simp only[c];exact e
  grind
 ·split at b
  ·rename_i j c;cases b;simp only[c];exact e
  grind
 grind
section
section
variable {E:fA} {C:eY} {st:aO} {a:Act} {w w':bC} {I:X->Prop} {rt:X->ah8} {fp:X->aie} {o:bR} {Q:aO->Prop}
def e0.own {S:aie} {t:aG} {cs:ah8} {f:aie} {v:Value} {next:Act->bC->Prop} {u:b5->Act->bC->Prop} (A:o.dst=Y m) (F:C.ok m) (l:cN C st a.tmps w I rt fp) (J:∀r k w',Q r->k.defers=a.defers->gI C r k.tmps w'->next k w') (D:m∈S\/ar st.h m=bo) (M:(bN a.eval o).run E.P w=.ok (.value v) w') (c:hj w w') (N:v=cW t.1 cs) (L:aS (bb I C.B) w' t.1 cs t.2 f) (G:f.Nodup) (i:∀b∈f,(w.heap.size<=b/\b<w'.heap.size)\/∃q∈S,∃R,ar st.h q=Y R/\b∈fp q) (K:Q ⟨(m,.ref m [])::aiz S [] st.g,(m,t)::del S st.h⟩):o.wp E.P a w next u:=by
 have j:=l.eC (nk.one (st:=st) (C:=C) (rt:=rt) (w':=w') (I':=I) (S:=S) (d:=m) (t:=t) (cs:=cs) (f:=f) D c.size c.os c.tape c.output (λb i _=>c.heap b i) (λb i=>(alC (c.heap b i)).2) (λ_ e=>e) (λ_ e=>.inl e) L G (λb z=>by
  rcases i b z with⟨x,y⟩|⟨p,H,s,j,n⟩
  ·exact⟨λe=>by have:=l.ib b (.inl e);omega,y,.inl x⟩
  obtain⟨aw,T,O,U⟩:=(l.tree p s j).2.2 b n;exact⟨aw,i9 O c.size,.inr ⟨p,H,s,j,n⟩⟩))
 unfold ais;rw[M];show next (a.put o.dst v) w'
 rw[A];refine J _ _ _ K bn ⟨_,_,_,j.put F (av:=.ref m []) ?_⟩;rw[N];refine .ref (t:=t) (loc:=bo) (by rw[kA,ey,au bn];rfl) ?_;rw[Ey];exact ajN
def xV (e:bm (X×aG)) (a:ah):ak->bv (aG×aie)
 |.val d b=>bif a7 a d then Y (⟨d,b⟩,[]) else bo
 |.dh f=>match iJ a f.cells.toList with
  |some b=>Y (⟨a,b⟩,[])
  |none=>bo
 |.ref id []=>match ar e id with
  |some c=>bif a7 a c.1 then Y (c,[id]) else bo
  |none=>bo
 |_=>bo
theorem PL (l:∀id t,ar e id=Y t->aS U w t.1 (rt id) t.2 (fp id)) {a:ah} (i:fi p a c) (h:cP U w e rt fp d S) {t:aG} {ids:aie} (b:xV e a d=Y (t,ids)):aS U w t.1 S.cells.toList t.2 (ids.map fp).flatten/\t.1.size=a.size/\∀id∈ids,∃o,ar e id=Y o:=by
 unfold xV at b;split at b
 ·rename_i r q;cases f:a7 a r with
  |false=>grind
  |true=>
   rw[f] at b;cases b;cases h with|val g=>
   rw[ov (i.lay f) g.len g.one];grind [alG]
 ·rename_i u;split at b
  ·rename_i q s;cases b;cases h;grind [pS]
  grind
 ·rename_i id;split at b
  ·rename_i n j;cases f:a7 a n.1 with
   |false=>grind
   |true=>
    rw[f] at b;cases b;cases h with|ref k m=>
    rw[j] at k;cases k;obtain⟨rfl,rfl,rfl⟩:=aiJ.1 m;have g:=l id _ j;rw[ov (i.lay f) g.len g.one];grind [aik,alG]
  grind
 grind
def mX (e:bm (X×aG)) (d:bO->ak) (g:bm (X×bO)):ah->X->bv (aG×aie)
 |.pr a h,f=>
  match(match l4 g f with
   |none=>match l8 a with
    |some i=>Y ((⟨a,i⟩:aG),([]:aie))
    |none=>bo
   |some b=>xV e a (d b)),mX e d g h (f+1) with
  |some b,Y c=>Y (⟨.pr b.1.1 c.1.1,(b.1.2,c.1.2)⟩,b.2++c.2)
  |_,_=>bo
 |.nil,_=>Y (⟨.nil,()⟩,[])
 |_,_=>bo
theorem Og {p:b0} {g:eD->X->Prop} {b:bm (X×aG)} (z:∀id t,ar b id=Y t->aS g w t.1 (rt id) t.2 (fp id)) {m:bO->ak} {h:bO->Value} (y:∀c,cP g w b rt fp (m c) (h c)) {parts:bm (X×bO)} {cells:ah8}:∀{u:ah} {n:X} {r:bm aiE} {off:X} {zs:ah8} {t:aG} {ids:aie},iB p u r off zs->mX b m parts u n=Y (t,ids)->cells.length=off+u.size->(∀d k e,fF u d=Y (k,e)->(∀c,l4 parts (n+d)=Y c->(h c).cells.size=e.size/\(cells.drop (off+fx u d)).take e.size=(h c).cells.toList)/\(l4 parts (n+d)=bo->(cells.drop (off+fx u d)).take e.size=(zs.drop (fx u d)).take e.size))->aS g w t.1 (cells.drop off) t.2 (ids.map fp).flatten/\t.1.size=u.size/\∀id∈ids,∃u,ar b id=Y u
 |.pr a q,n,E::O,off,zs,t,ids,o,f,A,i=>by
  simp only[mX] at f;split at f
  case h_2=>cases f
  rename_i c l j C;cases f;obtain⟨F,s,G,⟨K,R,aw,M,N⟩,v⟩:=o;have x:=i 0 _ a bn;simp only[nf,fx,lP] at x;have H:aS g w c.1.1 ((cells.drop off).take a.size) c.1.2 (c.2.map fp).flatten/\c.1.1.size=a.size/\∀id∈c.2,∃u,ar b id=Y u:=by
   split at j
   ·rename_i J;split at j
    ·rename_i S D;cases j;obtain⟨L,T,P,Q,_,aJ⟩:=vS s D;grind
    grind
   grind [PL]
  have I:=Og z y (parts:=parts) (cells:=cells) (u:=q) (n:=n+1) (off:=off+a.size) (zs:=zs.drop a.size) (t:=l.1) (ids:=l.2) v C (by grind [aiG]) (by
   intro d k e B;have:=i (d+1) (.snd::k) e (by simp[fF,B]);grind [aj3,fx])
  refine⟨⟨(c.2.map fp).flatten,(l.2.map fp).flatten,ac,?_,?_⟩,by grind [aiG],?_⟩
  ·grind
  ·simp_all
  grind
 |.nil,n,[],off,zs,t,ids,o,f,A,i=>by cases f;exact⟨⟨bn,by grind [List.drop_eq_nil_iff,aiG]⟩,bn,ac⟩
 |.pr _ _,_,[],_,_,_,_,b,_,_,_=>b.elim
 |.nil,_,_::_,_,_,_,_,b,_,_,_=>b.elim
 |.int _,_,_,_,_,_,_,b,_,_,_=>by cases b
 |.bool,_,_,_,_,_,_,b,_,_,_=>by cases b
 |.str,_,_,_,_,_,_,b,_,_,_=>by cases b
 |.a2 _ _,_,_,_,_,_,_,b,_,_,_=>by cases b
 |.osl _,_,_,_,_,_,_,b,_,_,_=>by cases b
 |.ptr _ _,_,_,_,_,_,_,b,_,_,_=>by cases b
 |.optr _,_,_,_,_,_,_,b,_,_,_=>by cases b
 |.st _,_,_,_,_,_,_,b,_,_,_=>by cases b
 |.eK,_,_,_,_,_,_,b,_,_,_=>by cases b
theorem Oh {z:b0} {h:eD->X->Prop} {b:bm (X×aG)} (l:∀id t,ar b id=Y t->aS h w t.1 (rt id) t.2 (fp id)) {j:bO->ak} {i:bO->Value} (k:∀e,cP h w b rt fp (j e) (i e)) {q:bm (X×bO)}:∀{u:ah} {n:X} {B:bm aiE} {p:X} {y:ah8} {t:aG} {ids:aie},iB z u B p y->mX b j q u n=Y (t,ids)->∀d s g,fF u d=Y (s,g)->∀e,l4 q (n+d)=Y e->(i e).cells.size=g.size
 |.pr a A,n,I::P,p,y,t,ids,E,f,d,s,g,c,e,m=>by
  simp only[mX] at f;split at f
  case h_2=>cases f
  rename_i v x o G;obtain⟨J,C,K,⟨L,Q,aw,N,O⟩,D⟩:=E;cases d with
  |zero=>
   simp only[fF,eS,ie] at c;obtain⟨_,rfl⟩:=c;rw[nf] at m;rw[m] at o;obtain⟨H,M,_⟩:=PL (t:=v.1) (ids:=v.2) l C (k e) o;have:=H.len;grind
  |succ d=>
   simp only[fF] at c;split at c
   ·rename_i r F;simp only[eS,ie] at c;obtain⟨_,rfl⟩:=c;exact Oh l k (u:=A) (n:=n+1) (t:=x.1) (ids:=x.2) D G d r.1 r.2 F e (by rwa[(aa:n+1+d=n+(d+1))])
   grind
 |.pr _ _,_,[],_,_,_,_,b,_,_,_,_,_,_,_=>b.elim
 |.nil,_,_,_,_,_,_,_,_,_,_,_,c,_,_=>by cases c
 |.int _,_,_,_,_,_,_,b,_,_,_,_,_,_,_=>by cases b
 |.bool,_,_,_,_,_,_,b,_,_,_,_,_,_,_=>by cases b
 |.str,_,_,_,_,_,_,b,_,_,_,_,_,_,_=>by cases b
 |.a2 _ _,_,_,_,_,_,_,b,_,_,_,_,_,_,_=>by cases b
 |.osl _,_,_,_,_,_,_,b,_,_,_,_,_,_,_=>by cases b
 |.ptr _ _,_,_,_,_,_,_,b,_,_,_,_,_,_,_=>by cases b
 |.optr _,_,_,_,_,_,_,b,_,_,_,_,_,_,_=>by cases b
 |.st _,_,_,_,_,_,_,b,_,_,_,_,_,_,_=>by cases b
 |.eK,_,_,_,_,_,_,b,_,_,_,_,_,_,_=>by cases b
theorem TI (av:o.op=.build c s) {J:ah} (D:lA E.tt c=Y J) (d0:a7 J k=bp\/J=k) (R:mq s.toList 0=bp) (A:∀d∈s.toList,ca d.1 (gG k)=bp) (O:∀e l b,fF k e=Y (l,b)->∀f,l4 s.toList e=Y f->(a.eval f).cells.size=b.size):∃h g p,iB E.P k h 0 g/\(bN a.eval o).run E.P w=.ok (.value (.agg p)) w/\p.toList.length=k.size/\(∀e l b,fF k e=Y (l,b)->(∀f,l4 s.toList (0+e)=Y f->(a.eval f).cells.size=b.size/\(p.toList.drop (0+fx k e)).take b.size=(a.eval f).cells.toList)/\(l4 s.toList (0+e)=bo->(p.toList.drop (0+fx k e)).take b.size=(g.drop (fx k e)).take b.size)):=by
 obtain⟨m,h,g,S,c1,T,U,q,c2⟩:∃m h g,E.P.info? c=some m/\m.size=k.size/\m.zero=some (.agg g)/\E.P.underlying c=some (.struct h)/\iB E.P k h.toList 0 g.toList/\g.size=k.size:=by
  unfold lA at D;split at D
  ·rename_i el ad;cases D;obtain⟨_,m,h,g,aw,d2,_,d3,d4,d5,d6⟩:=E.ok c _ ad;grind [alG,iB.lay]
  grind
 have F:=run_places (P:=E.P) w k h.toList 0 g.toList q;simp only[nh] at F;generalize ds:((bI (gG k)).map λn=>(fx k n,match fF k n with|some d=>d.2.size|none=>0))=H at F;have v:∀n l b,fF k n=Y (l,b)->n<gG k->H.toArray[n]?=Y (fx k n,b.size):=(by grind);obtain⟨p,ce,d7,ci,aJ⟩:=z2 (λm=>H.toArray[m]?) (s.toList.map λd=>(d.1,a.eval d.2)) g (by
  intro d x;obtain⟨j,B,rfl⟩:=eZ.1 x;have t:j.1<gG k:=gS (A j B);obtain⟨l,b,i⟩:=rA q j.1 t;refine⟨_,_,v _ _ _ i t,O _ _ _ i j.2 ?_,by simp_all [xl]⟩;grind [H6]) (by
  rw[py];refine(H7 R).imp_of_mem ?_;intro d I x a4 t bx co d1 d8 aq L;have z:d.1<gG k:=gS (A d x);have Q:I.1<gG k:=gS (A I a4);obtain⟨cs,cv,r⟩:=rA q d.1 z;obtain⟨d9,ek,N⟩:=rA q I.1 Q;rw[v _ _ _ r z] at aq;rw[v _ _ _ N Q] at L;cases aq;cases L;exact .inl (uX r N t))
 have bl:p.toList.length=k.size:=(by grind);refine⟨h.toList,g.toList,p,q,?_,bl,?_⟩
 ·have a3:(akG (λf=>(f.fst,a.eval f.snd)) s).toList=s.toList.map λd=>(d.1,a.eval d.2):=ac;have a0:(h.mapM λM=>do ajp (M.offset,<-ai2 M.type):Sem (bU ep)).run E.P w=.ok H.toArray w:=by
   rw[alq,Sem.run_map,F];rfl
  have G:(aix c).run E.P w=.ok (.agg g) w:=(by simp[aix,aiM,S,T]);simp only[bN,av,Instr.build,bY,G,b8 U,b1,a0,a3,Value.cells,ce];rfl
 intro e l b i;have am:e<gG k:=HK i;simp only[nh];have dl:=xl i;refine⟨λf C=>?_,λC=>?_⟩
 ·have an:=Ak C;have G:=O e l b i f C;refine⟨G,?_⟩;apply hO;intro y;rcases cQ y b.size with u|u
  ·obtain⟨K,bs⟩:∃K,(a.eval f).cells[y]?=some K:=⟨_,Bo aa⟩;have:=aJ (e,a.eval f) (eZ.2 ⟨(e,f),an,bn⟩) _ _ (v _ _ _ i am) y K bs;grind
  grind
 apply hO;intro y;rcases cQ y b.size with u|u
 ·rw[r2 u,r2 u,pw,pw];simp only[Bp];refine ci _ ?_;intro d x bx co aq;obtain⟨j,B,rfl⟩:=eZ.1 x;have ap:=It C j B;have z:j.1<gG k:=gS (A j B);obtain⟨cs,cv,r⟩:=rA q j.1 z;rw[v _ _ _ r z] at aq;cases aq;rcases Nat.lt_or_gt_of_ne ap with t|V
  ·have:=uX r i t;omega
  have:=uX i r V;omega
 grind
theorem cN.HN {t:ah6} (d:cN C st t w I rt fp):∀{a:aie},a.Nodup->(∀id∈a,∃b,ar st.h id=Y b)->(a.map fp).flatten.Nodup
 |[],_,_=>by simp
 |i::a,r,e=>by obtain⟨k,l⟩:=kk.1 r;obtain⟨b,f⟩:=e i ac;simp only[h8,lQ];refine jO.2 ⟨(d.tree i b f).2.1,cN.HN d l (λid x=>e id (by grind)),λj m v o c=>?_⟩;subst c;obtain⟨y,q,n⟩:=lS.1 o;obtain⟨g,p,rfl⟩:=eZ.1 q;obtain⟨u,s⟩:=e g (by grind);exact d.dis i g b u f s (λc=>k (c▸p)) j m n
theorem Xr (a:m∈(f.map fp).flatten):∃id∈f,m∈fp id:=by grind
def sn {k:Type} (tt:bm (bF×ah)) (m:bm (X×ah)) (e:bm (X×aG)) (h:bO->ak) (a:X) (l:bF) (c:bm (X×bO)) (g:cI->bv k):bv k:=
 match lA tt l with
 |none=>bo
 |some f=>match ar m a with
  |some (.st j)=>bif a7 f j&&(mq c 0&&c.all (λi=>ca i.1 (gG j))) then match ar e a,mX e h c j 0 with
   |none,Y (b,d)=>bif jr d then g ⟨Y (a,.ref a []),d,[],[(a,⟨.st b.1,b.2⟩)]⟩ else bo
   |_,_=>bo
   else bo
  |_=>bif mq c 0&&c.all (λi=>ca i.1 (gG f)) then match qa h c f 0 with
   |some b=>g ⟨Y (a,.val (.st b.1) b.2),[],[],[]⟩
   |none=>match ar e a,mX e h c f 0 with
    |none,Y (b,d)=>bif jr d then g ⟨Y (a,.ref a []),d,[],[(a,⟨.st b.1,b.2⟩)]⟩ else bo
    |_,_=>bo
   else bo
theorem LF {F:b} {u:cI->bv b} (U:o.op=.build c s) (O:o.dst=Y m) (P:C.ok m) {r:ah} (y:lA E.tt c=Y r) (D:a7 r k=bp\/r=k) (q:(mq s.toList 0&&s.toList.all (λp=>ca p.1 (gG k)))=bp) (i:(match ar st.h m,mX st.h (aT st.g) s.toList k 0 with
  |none,Y (d,e)=>bif jr e then u ⟨Y (m,.ref m []),e,[],[(m,⟨.st d.1,d.2⟩)]⟩ else bo
  |_,_=>bo)=Y F)
 (V:∀v,u v=Y F->Q (v.app st)):e0 E C o st Q:=by
 split at i
 case h_2=>cases i
 rename_i d e R n;cases A:jr e with
 |false=>grind
 |true=>
 rw[A] at i;simp only[bk,g0] at q;obtain⟨H,J⟩:=q;rintro a w ⟨I,rt,fp,j⟩ next a3 T
 have z:∀id d,ar st.h id=Y d->aS (bb I C.B) w d.1 (rt id) d.2 (fp id):=λid d n=>(j.tree id d n).1;obtain⟨K,av,G,M,ad,bx,N⟩:=TI (a:=a) (w:=w) U y D H J (by
  obtain⟨K,av,_,p⟩:=lA.ok y;intro an ap a0 am l bs;exact Oh z (λl=>j.aT l) (D.elim (λi=>iB.lay i p) (λi=>i▸p)) n an ap a0 am l (by rwa[nh]))
 obtain⟨x,bl,L⟩:=Og z (λl=>j.aT l) (cells:=G.toList) M n aa N;rw[lP] at x;refine e0.own (S:=e) (t:=⟨.st d.1,d.2⟩) (cs:=G.toList) (f:=(e.map fp).flatten) O P j T (.inr R) ad (hj.refl w) rfl x (j.HN (jr.ok A) L) (λa4 q=>?_) ?_
 ·grind
 have:=V _ i;rw[show(cI.mk (Y (m,.ref m [])) e [] [(m,⟨.st d.1,d.2⟩)]).app st=⟨(m,.ref m [])::aiz e [] st.g,(m,⟨.st d.1,d.2⟩)::del e st.h⟩ by
  show aO.mk ((m,_)::nG e [] st.g) ([_]++q8 e st.h)=_;rw[sW,xe];rfl] at this
 omega
theorem Ty {t:b} {q:cI->bv b} (k:o.op=.build c s) (i:o.dst=Y m) (j:C.ok m) (a:sn E.tt l st.h (aT st.g) m c s.toList q=Y t) (n:∀r,q r=Y t->Q (r.app st)):e0 E C o st Q:=by
 unfold sn at a;split at a
 ·cases a
 rename_i u e;split at a
 ·rename_i v x;cases d:(a7 u v&&(mq s.toList 0&&s.toList.all (λp=>ca p.1 (gG v)))) with
  |false=>grind
  |true=>
  rw[d] at a;simp only[bG] at a;have f:=d;rw[bk] at f;exact LF k i j e (.inl f.1) f.2 a n
 cases d:(mq s.toList 0&&s.toList.all (λp=>ca p.1 (gG u))) with
 |false=>grind
 |true=>
 rw[d] at a;simp only[bG] at a;split at a
 ·rename_i y w;refine ai4 (an:=[]) i j ?_;rw[k];simp only[g3,yS,e,d,bG,w];exact n _ a
 exact LF k i j e (.inr bn) d a n
def uf {i:Type} (tt:bm (bF×ah)) (f:bm (X×ah)) (g:bm (X×aG)) (a:X) (j:bF) (d:ak) (b:cI->bv i):bv i:=
 match ar tt j,ar g a with
 |some h,bo=>match d with
  |.val e d=>bif a7 h e then match ar f a with
   |some (.ptr .bg _)=>b ⟨Y (a,.val (.ptr .bg e) (Y d)),[],[],[]⟩
   |_=>b ⟨Y (a,.ref a []),[],[],[(a,⟨.optr e,d⟩)]⟩
   else bo
  |.ref id []=>match ar g id with
   |some c=>bif a7 h c.1 then match ar f a with
    |some (.ptr .bg _)=>bif oD c.1 then b ⟨Y (a,.hz (.ref id [])),[],[],[]⟩ else bo
    |_=>b ⟨Y (a,.ref a []),[id],[],[(a,⟨.optr c.1,c.2⟩)]⟩
    else bo
   |none=>bo
  |_=>bo
 |_,_=>bo
theorem TB {d0:b} {ci:cI->bv b} (O:o.op=.box c n) (M:o.dst=Y m) (N:C.ok m) (e:uf E.tt l st.h m c (aT st.g n) ci=Y d0) (P:∀c1,ci c1=Y d0->Q (c1.app st)):e0 E C o st Q:=by
 unfold uf at e;split at e
 case h_2=>cases e
 rename_i r L dl;split at e
 ·rename_i ad d2 z;cases i:a7 r ad with
  |false=>grind
  |true=>
  rw[i] at e;simp only[bG] at e;split at e
  ·rintro a w ⟨I,rt,fp,j⟩ next co F
   have p:=j.aT n;rw[z] at p;have A:=(E.ok c r L).lay i;generalize H:a.eval n=K at p;cases p with|val U=>
   rename_i V;have u:∀s d,bb I C.B s d->c8 w (w.alloc (.cells V.toArray c)) d:=λs d i=>.of_heap ((ai5 w _).heap d (j.ib d (mW i)));have bs:Yields E C st a w I rt fp o (λy J=>Q ⟨(m,y)::st.g,J++st.h⟩):=by
    refine⟨.pointer (Y ⟨w.heap.size,0,bo⟩),w.alloc (.cells V.toArray c),λd=>I d\/d=w.heap.size,λ_=>[],λ_=>[],.val (.ptr .bg ad) (Y d2),[],?_,ai5 w _,λ_ e=>.inl e,?_,.nil,?_,P _ e⟩
    ·simp[bN,O,H,akF,newVar,aiX,ov A U.len U.one]
    ·rintro d (e|rfl)
     ·grind
     simp_all
    refine .val (τ:=.ptr .bg ad) (x:=Y d2) (cs:=[.pointer (Y ⟨w.heap.size,0,bo⟩)]) ⟨bn,w.heap.size,0,V,bn,.inr bn,U.len,alH (λd6 K d4=>by grind),?_⟩;refine U.mono (λs d i=>⟨?_,u s d i⟩) ac;cases s
    ·exact .inl i
    exact i.imp .inl (λe=>e)
   exact bs.wp j M N (λy J am w' a3 ap a4=>F _ am w' a3 ap a4)
  refine ai4 (an:=[]) M N ?_;rw[O];simp only[g3,yT,L,dl,z,i,bG];exact P _ e
 ·rename_i id z;split at e
  case h_2=>cases e
  rename_i k R;cases i:a7 r k.1 with
  |false=>grind
  |true=>
  rw[i] at e;simp only[bG] at e;split at e
  ·cases bl:oD k.1 with
   |false=>rw[bl] at e;cases e
   |true=>
   rw[bl,bG] at e;rintro a w ⟨I,rt,fp,j⟩ next co F
   have p:=j.aT n;rw[z] at p;obtain⟨q,d1,ce⟩:=j.tree id k R;have A:=(E.ok c r L).lay i;generalize H:a.eval n=K at p;have d5:=p;cases p with|ref G a0=>
   rw[R] at G;cases G;obtain⟨rfl,rfl,rfl⟩:=aiJ.1 a0;obtain⟨aq,d3⟩:=o0.one bl;have ds:=q.len;rw[aq] at ds;obtain⟨cv,c2⟩:=qG.1 ds;have u:∀d,d<w.heap.size->c8 w (w.alloc (.cells (rt id).toArray c)) d:=λd i=>.of_heap ((ai5 w _).heap d i);have bs:Yields E C st a w I rt fp o (λy J=>Q ⟨(m,y)::st.g,J++st.h⟩):=by
    refine⟨.pointer (Y ⟨w.heap.size,0,bo⟩),w.alloc (.cells (rt id).toArray c),λd=>I d\/d=w.heap.size,rt,fp,.hz (.ref id []),[],?_,ai5 w _,λ_ e=>.inl e,?_,.nil,?_,P _ e⟩
    ·simp[bN,O,H,akF,newVar,aiX,ov A q.len q.one]
    ·rintro d (e|rfl)
     ·exact .inl e
     exact .inr ⟨bc _,ac⟩
    have av:cP (bb (λd=>I d\/d=w.heap.size) C.B) (w.alloc (.cells (rt id).toArray c)) ([]++st.h) (fh [] rt rt) (fh [] fp fp) (.ref id []) (cW k.1 (rt id)):=by
     refine d5.mono (λs d D=>⟨?_,u d (j.ib d (mW D))⟩) (λbx r T=>⟨(j.tree bx r T).1,λd i=>u d ((j.tree bx r T).2.2 d i).2.2.1⟩) (λbx r T=>⟨T,bn,bn⟩);cases s
     ·exact .inl D
     exact D.imp .inl (λe=>e)
    rw[c2] at av|-;rw[d3] at av;refine .hz (v:=cv) (.inr bn) ?_ (q.one cv (by rw[c2];simp)) av;rw[World.cell?_alloc_new];rfl
   exact bs.wp j M N (λy J am w' a3 ap a4=>F _ am w' a3 ap a4)
  rintro a w ⟨I,rt,fp,j⟩ next co F
  have p:=j.aT n;rw[z] at p;obtain⟨q,d1,ce⟩:=j.tree id k R;have A:=(E.ok c r L).lay i;generalize H:a.eval n=K at p;cases p with|ref G a0=>
  rw[R] at G;cases G;obtain⟨rfl,rfl,rfl⟩:=aiJ.1 a0;have u:∀d,d<w.heap.size->c8 w (w.alloc (.cells (rt id).toArray c)) d:=λd i=>.of_heap ((ai5 w _).heap d i);have d7:aS (bb I C.B) (w.alloc (.cells (rt id).toArray c)) k.1 (rt id) k.2 (fp id):=q.mono (λs d i=>⟨i,u d (j.ib d (mW i))⟩) (λd i=>u d (ce d i).2.2.1);refine e0.own (S:=[id]) (t:=⟨.optr k.1,k.2⟩) (cs:=[.pointer (Y ⟨w.heap.size,0,bo⟩)]) (f:=w.heap.size::fp id) (v:=.pointer (Y ⟨w.heap.size,0,bo⟩)) (w':=w.alloc (.cells (rt id).toArray c)) M N j F (.inr dl) ?_ (ai5 w _) rfl ⟨w.heap.size,0,fp id,rt id,bn,bn,q.len,alH (λd6 K d4=>by grind),alI (by simp[q.len]),d7⟩ (kk.2 ⟨λD=>akf _ (ce _ D).2.2.1,d1⟩) ?_ ?_
  ·simp[bN,O,H,akF,newVar,aiX,ov A q.len q.one]
  ·intro d i;rcases fR.1 i with rfl|i
   ·simp_all
   grind
  have:=P _ e;rw[show(cI.mk (Y (m,.ref m [])) [id] [] [(m,⟨.optr k.1,k.2⟩)]).app st=⟨(m,.ref m [])::aiz [id] [] st.g,(m,⟨.optr k.1,k.2⟩)::del [id] st.h⟩ from rfl] at this;omega
 grind
def IT (a:ah) (b:ak):bv a.den:=match a with
 |.osl _=>match b with
  |.dh (.slice bo 0 0)=>Y []
  |_=>bo
 |_=>bo
def XV {w:bC} {rt:X->ah8} {fp:X->aie} (c:cP U w e rt fp d S) {b:k.den} (a:IT k d=Y b):aS U w k S.cells.toList b []:=by
 unfold IT at a;split at a
 ·split at a
  ·cases a;cases c;exact⟨bo,0,bn,.inl ⟨bn,bn,bn,bn⟩⟩
  cases a
 cases a
def uj (c:bm (X×aG)) (b:ah) (x:ak):bv (b.den×aie):=
 match x with
 |.ref id []=>match ar c id with
  |some d=>match hX b d.2 with
   |some a=>Y (a,[id])
   |none=>bo
  |none=>bo
 |x=>match coe b x with
  |some a=>Y (a,[])
  |none=>(IT b x).map λa=>(a,[])
def uk (b:bm (X×aG)) (a:ah):bm ak->bv (bm a.den×ev)
 |[]=>Y ([],[])
 |x::e=>match uj b a x,uk b a e with
  |some d,Y c=>Y (d.1::c.1,d.2::c.2)
  |_,_=>bo
theorem TZ (o:∀id k,ar e id=Y k->aS U w k.1 (rt id) k.2 (fp id)) (m:fi E.P k c) (h:cP U w e rt fp d S) {j:k.den} (a:uj e k d=Y (j,f)):aS U w k S.cells.toList j (f.map fp).flatten/\∀id∈f,∃s,ar e id=Y s:=by
 unfold uj at a;split at a
 ·rename_i id;split at a
  case h_2=>cases a
  rename_i t b;split at a
  case h_2=>cases a
  rename_i u q;cases a;obtain⟨x,d⟩:=t;have n:=j7 q;cases n;cases h with|ref g p=>
  rw[b] at g;cases g;obtain⟨rfl,rfl,rfl⟩:=aiJ.1 p;have i:=o id _ b;rw[ov m i.len i.one];grind
 split at a
 ·grind [GK]
 obtain⟨v,r,l⟩:=fC.1 a;cases l;exact⟨XV h r,ac⟩
theorem L3 {e:bm (X×aG)} {c:ah}:∀{b:bm ak} {xs:bm c.den} {is:ev},uk e c b=Y (xs,is)->xs.length=b.length/\is.length=b.length/\∀(d:X) (h:c.den),xs[d]?=Y h->∃(y:ak) (f:aie),b[d]?=Y y/\is[d]?=Y f/\uj e c y=Y (h,f)
 |[],xs,is,a=>by cases a;grind
 |y::b,xs,is,a=>by
  simp only[uk] at a;split at a
  ·rename_i n g m i;cases a;obtain⟨j,k,l⟩:=L3 (xs:=g.1) (is:=g.2) i;grind
  grind
def sp {i:Type} (tt:bm (bF×ah)) (k:bm (X×ah)) (f:bm (X×aG)) (e:bO->ak) (a:X) (j:bF) (g:X) (c:bm (X×bO)) (d:cI->bv i):bv i:=
 match gZ tt j,ar f a with
 |some h,bo=>
  match(match ar k a with|some (.osl t)=>t|_=>h) with
  |t=>bif a7 h t&&b2 t.size 2000&&b2 g 1000&&vB c 0&&bH c.length g then
   match yX t (c.map λb=>e b.2) with
   |some l=>d ⟨Y (a,.ref a []),[],[],[(a,⟨.osl t,l⟩)]⟩
   |none=>match uk f t (c.map λb=>e b.2) with
    |some b=>bif jr b.2.flatten then d ⟨Y (a,.ref a []),b.2.flatten,[],[(a,⟨.osl t,b.1⟩)]⟩ else bo
    |none=>bo
  else bo
 |_,_=>bo
theorem TF {d8:b} {bs:cI->bv b} {q:X} (ds:o.op=.buildSlice c m s) (cv:o.dst=Y q) (c1:C.ok q) (j:sp E.tt l st.h (aT st.g) q c m s.toList bs=Y d8) (L:∀O,bs O=Y d8->Q (O.app st)):e0 E C o st Q:=by
 unfold sp at j;split at j
 case h_2=>cases j
 rename_i r co c2;generalize x:(match ar l q with|some (.osl d)=>d|_=>r)=d at j;simp only at j;cases i:(a7 r d&&b2 d.size 2000&&b2 m 1000&&vB s.toList 0&&bH s.toList.length m) with
 |false=>grind
 |true=>
 rw[i] at j;simp only[bG] at j;split at j
 ·rename_i z d4;refine ai4 (an:=l) cv c1 ?_;rw[ds];simp only[g3,wE,co,c2];cases H:ar l q with
  |none=>
   rw[H] at x;simp only at x;subst x;simp only[i,bG,d4];exact L _ j
  |some k=>
   rw[H] at x;cases k<;>(simp only at x;subst x;simp only[i,bG,d4];exact L _ j)
 split at j
 case h_2=>cases j
 rename_i k d1;obtain⟨z,p⟩:=k;cases av:jr p.flatten with
 |false=>grind
 |true=>
 rw[av] at j;rintro a w ⟨I,rt,fp,D⟩ next gf f6
 have fz:∀id d,ar st.h id=Y d->aS (bb I C.B) w d.1 (rt id) d.2 (fp id):=λid d x=>(D.tree id d x).1;simp only[bk] at i;obtain⟨⟨⟨⟨em,V⟩,ad⟩,N⟩,bx⟩:=i;have V:=gS V;have ad:=gS ad;have bx:s.toList.length=m:=fu bx;obtain⟨d6,U,_,fl,fn⟩:=gZ.ok co;have K:=fn.lay em;obtain⟨a4,gi,d7,_⟩:=K.info;have hr:=K.pos;obtain⟨eq,ce,ci⟩:=L3 d1;simp only[e9] at eq ce;have f9:z.length=m:=aa;have hc:m*d.size<=16777216:=(by have:m*d.size<=1000*2000:=mO ad V;omega);have am:∀(e:X) (k:X×bO),s.toList[e]?=Y k->∃(y:d.den) (u:aie),z[e]?=Y y/\p[e]?=Y u/\aS (bb I C.B) w d (a.eval k.2).cells.toList y (u.map fp).flatten/\∀id∈u,∃r,ar st.h id=Y r:=(by intro e k F;have f3:e<z.length:=(by grind);obtain⟨kd,u,aq,gl,R⟩:=ci e z[e] ac;rw[jh,F] at aq;simp only[ja,eS] at aq;subst aq;obtain⟨hw,ic⟩:=TZ fz K (D.aT k.2) R;grind);have ap:∀id∈p.flatten,∃r,ar st.h id=Y r:=by
  intro id T;obtain⟨M,H,gs⟩:=lS.1 T;obtain⟨e,F,rfl⟩:=hu.1 H;have G:s.toList[e]?=Y (s.toList[e]'(by omega)):=ba _
  grind
 obtain⟨d5,f0,f1⟩:∃ek:ah6,(m*d.size=0->ek=#[])/\(m*d.size≠0->∃J,(aix U).run E.P w=.ok J w/\ek=J.cells):=by
  by_cases A:m*d.size=0
  ·simp_all
  obtain⟨J,_,ge⟩:=fi.H1 K;exact⟨J.cells,λj=>absurd j A,λ_=>⟨J,by simp[aix,aiM,d7.info,ge a4 d7.info],bn⟩⟩
 obtain⟨bl,d9,i1,i2,aJ⟩:=z2 (λa4=>Y (a4*d.size,d.size)) (s.toList.map λk=>(k.1,a.eval k.2)) ((Array.range (m*d.size)).map (d5[· %d5.size]!)) (by
  intro k L;obtain⟨i0,f7,rfl⟩:=eZ.1 L;obtain⟨e,F,rfl⟩:=hu.1 f7;have G:s.toList[e]?=Y s.toList[e]:=ac;obtain⟨y,_,_,_,a3,_⟩:=am e _ G;have O:=rI N e _ G;have:(e+1)*d.size<=m*d.size:=jj _ aa;rw[mN,ng] at this;refine⟨_,_,bn,by have:=a3.len;omega,?_⟩;grind) (by
  rw[h2];intro e M F H f3 io i3 is i8 aq R;simp only[List.getElem_map,eS,ie] at aq R;simp only[e9] at F H;have ex:=rI N e s.toList[e] ac;have f2:=rI N M s.toList[M] ac;obtain⟨rfl,rfl⟩:=aq;obtain⟨rfl,rfl⟩:=R;left;rw[ex,f2];have:(0+e+1)*d.size<=(0+M)*d.size:=jj _ aa;grind)
 have hs:bl.size=m*d.size:=(by grind);have fs:∀n,n<w.heap.size->c8 w (w.alloc (.cells bl U)) n:=λn i=>.of_heap ((ai5 w _).heap n i);have ft:(p.map λu=>(u.map fp).flatten).flatten=(p.flatten.map fp).flatten:=by
  clear am ap ci av j d1 ce
  induction p with
  |nil=>rfl
  |cons y M hv=>grind
 have f4:∀n∈(p.flatten.map fp).flatten,n<w.heap.size/\∃id∈p.flatten,∃r,ar st.h id=Y r/\n∈fp id:=(by intro n i;obtain⟨id,T,i⟩:=Xr i;obtain⟨r,a0⟩:=ap id T;exact⟨((D.tree id r a0).2.2 n i).2.2.1,id,T,r,a0,i⟩);refine e0.own (S:=p.flatten) (t:=⟨.osl d,z⟩) (cs:=[.slice (Y ⟨w.heap.size,0,bo⟩) m m]) (f:=w.heap.size::(p.flatten.map fp).flatten) (v:=.slice (Y ⟨w.heap.size,0,bo⟩) m m) (w':=w.alloc (.cells bl U)) cv c1 D f6 (.inr c2) ?_ (ai5 w _) rfl ?_ (kk.2 ⟨λf5=>akf _ (f4 _ f5).1,D.HN (jr.ok av) ap⟩) ?_ ?_
 ·have f8:=K.sizeOf w;have hi:¬(16777216<m*d.size):=aa;have d0:(akG (λy=>(y.fst,a.eval y.snd)) s).toList=s.toList.map λk=>(k.1,a.eval k.2):=ac;simp only[bN,ds,Instr.buildSlice,bY,b8 fl,b1,f8];rw[az aa];by_cases A:m*d.size=0
  ·rw[au A];obtain rfl:=f0 A;rw[d0];simp only[bY,cx,b1,d9,aiX,newObj];rfl
  rw[az A];obtain⟨J,gc,rfl⟩:=f1 A;rw[d0];simp only[bY,cx,b1,gc,d9,aiX,newObj];rfl
 ·refine⟨Y ⟨w.heap.size,0,bo⟩,m,by rw[f9],.inr ⟨w.heap.size,0,p.map λu=>(u.map fp).flatten,bn,by rw[ft],by grind,(by grind),alI aa,λe y go a3 dl=>?_⟩⟩;have F:e<m:=(by grind);have G:s.toList[e]?=Y (s.toList[e]'(by omega)):=by simp
  obtain⟨jp,u,d3,fT,d2,a0⟩:=am e _ G;rw[a3] at d3;obtain rfl:=gC d3;rw[jh,fT] at dl;obtain rfl:=gC dl;refine⟨_,d2.len,alH (λd6 el gt=>?_),d2.mono (λii n i=>⟨i,fs n (D.ib n (mW i))⟩) (λn i=>?_)⟩
  ·have:=aJ (s.toList[e].1,a.eval s.toList[e].2) (eZ.2 ⟨s.toList[e],cR _,bn⟩) _ _ rfl d6 el (by grind);have O:=rI N e _ G;grind
  grind
 ·intro n i;rcases fR.1 i with rfl|i
  ·exact .inl ⟨bc _,ac⟩
  grind
 have:=L _ j;rw[show(cI.mk (Y (q,.ref q [])) p.flatten [] [(q,⟨.osl d,z⟩)]).app st=⟨(q,.ref q [])::aiz p.flatten [] st.g,(q,⟨.osl d,z⟩)::del p.flatten st.h⟩ by
  show aO.mk ((q,_)::nG _ [] st.g) ([_]++q8 _ st.h)=_;rw[sW,xe];rfl] at this
 omega
end
end
section
def jH:ah->ah
 |.osl a=>.a2 .bg (jH a)
 |.st a=>.st (jH a)
 |.pr b c=>.pr (jH b) (jH c)
 |.mp a=>.fw .bg a
 |τ=>τ
def rn:ah->bA
 |.osl a|.st a=>rn a
 |.pr b c=>rn b&&rn c
 |.optr _|.eK=>bq
 |_=>bp
def rq:∀d:ah,(jH d).den=d.den
 |.osl c=>b4 bm (rq c)
 |.st c=>rq c
 |.pr a b=>by show((jH a).den×(jH b).den)=(a.den×b.den);rw[rq a,rq b]
 |.int _|.bool|.str|.a2 _ _|.ptr _ _|.optr _|.nil|.eK|.mp _|.fw _ _|.fn _ _=>rfl
def nB (a:ah) (b:a.den):(jH a).den:=cast (rq a).symm b
def TR {c:Type} (d:b=c) (e:bm b=bm c) (a:bm b):cast e a=a.map (cast d):=by subst d;show a=a.map (λf=>f);simp
theorem GB {c C d:Type} (e:b=c) (g:C=d) (f:(b×C)=(c×d)) (a:b×C):cast f a=(cast e a.1,cast g a.2):=by grind
def M3 (a:ah) (b:bm a.den):(nB (.osl a) b:bm (jH a).den)=b.map (nB a):=TR (rq a).symm _ b
def VJ (a b:ah) (c:a.den×b.den):(nB (.pr a b) c:(jH a).den×(jH b).den)=(nB a c.1,nB b c.2):=GB (rq a).symm (rq b).symm _ c
theorem sS:∀b:ah,(jH b).size=b.size
 |.osl a=>rfl
 |.st a=>sS a
 |.pr c d=>by simp only[jH,aiG,sS c,sS d]
 |.int _|.bool|.str|.a2 _ _|.ptr _ _|.optr _|.nil|.eK|.mp _|.fw _ _|.fn _ _=>rfl
theorem vx {z q:eD->X->Prop} {w:bC} (i:∀c b,z c b->q c b):∀{τ:ah} {g:ah8} {e:τ.den} {h:aie},rn τ=bp->aS z w τ g e h->(∀b∈h,q .bg b)->aS q w (jH τ) g (nB τ e) []
 |.osl f,g,p,h,j,a,k=>by
  obtain⟨A,I,D,a⟩:=a;have E:(nB (.osl f) p:bm (jH f).den).length=aiq (α:=f.den) p:=(by rw[M3];simp);rcases a with⟨rfl,T,rfl,rfl⟩|⟨b,P,B,rfl,rfl,o,v,C,x⟩
  ·refine⟨bn,bo,0,by rw[D,E],by grind,λ_=>rfl,.inl ?_⟩;grind
  refine⟨bn,_,I,by rw[D,E],aa,(λa=>by cases a),?_⟩;refine .inr ⟨b,P,bn,k b ac,λl e n=>?_⟩;rw[M3] at n;have n:(List.map (nB f) p)[l]?=Y e:=n;rw[jh] at n;obtain⟨Q,F,rfl⟩:=fC.1 n;have U:l<aiq (α:=f.den) p:=(hH.1 F).1;have M:B[l]?=Y (B[l]'(by omega)):=ba _
  obtain⟨u,r,s,t⟩:=x l Q _ F M;rw[sS];exact⟨u,r,s,vx i j t (λm y=>k m (hW _ (lS.2 ⟨_,cR _,y⟩)))⟩
 |.st f,g,e,h,j,a,k=>vx (τ:=f) i j a k
 |.pr A b,g,e,h,j,a,k=>by
  simp only[rn,bk] at j;obtain⟨S,f2,rfl,o,v⟩:=a;have R:=VJ A b e;refine⟨[],[],bn,?_,?_⟩
  ·rw[sS];have:=vx i j.1 o (λm y=>k m (by grind));grind
  rw[sS];have:=vx i j.2 v (λm y=>k m (by grind));grind
 |.int O,g,e,h,_,a,_=>by obtain rfl:=aje (τ:=.int O) rfl a;exact a.mono (λc b d=>⟨i c b d,cq _ _⟩) ac
 |.bool,g,e,h,_,a,_=>by obtain rfl:=aje (τ:=.bool) rfl a;exact a.mono (λc b d=>⟨i c b d,cq _ _⟩) ac
 |.str,g,e,h,_,a,_=>by obtain rfl:=aje (τ:=.str) rfl a;exact a.mono (λc b d=>⟨i c b d,cq _ _⟩) ac
 |.a2 c f,g,e,h,_,a,_=>by obtain rfl:=aje (τ:=.a2 c f) rfl a;exact a.mono (λc b d=>⟨i c b d,cq _ _⟩) ac
 |.ptr c f,g,e,h,_,a,_=>by obtain rfl:=aje (τ:=.ptr c f) rfl a;exact a.mono (λc b d=>⟨i c b d,cq _ _⟩) ac
 |.nil,g,e,h,_,a,_=>by obtain rfl:=aje (τ:=.nil) rfl a;exact a.mono (λc b d=>⟨i c b d,cq _ _⟩) ac
 |.optr _,_,_,_,j,_,_=>by cases j
 |.fw c f,g,e,h,_,a,_=>by obtain rfl:=aje (τ:=.fw c f) rfl a;exact a.mono (λc b d=>⟨i c b d,cq _ _⟩) ac
 |.fn c f,g,e,h,_,a,_=>by obtain rfl:=aje (τ:=.fn c f) rfl a;exact a.mono (λc b d=>⟨i c b d,cq _ _⟩) ac
 |.mp f,g,e,h,_,a,k=>by
  cases e with
  |none=>exact⟨bn,a.2⟩
  |some G=>
   obtain⟨b,J,H,o,v,L,C,x,K⟩:=a;refine⟨b,J,H,o,bn,L,k b (by grind),C,x,λl G N=>?_⟩;obtain⟨u,r,s,t⟩:=K l G N;exact⟨u,r,s,t.mono (λc b d=>⟨i c b d,cq _ _⟩) ac⟩
 |.eK,_,_,_,j,_,_=>by cases j
def rp:aG->ak
 |⟨.optr u,x⟩=>.val (.ptr .bg (jH u)) (Y (nB u x))
 |⟨a,x⟩=>.val (jH a) (nB a x)
def HQ:ah->bA
 |.optr a=>rn a
 |τ=>rn τ
def gX (c:bm (X×aG)) (b:aie) (a:ak):ak:=
 match a with
 |.ref id []=>bif eQ id b then match ar c id with
  |some d=>rp d
  |none=>.dead else .ref id []
 |a=>bif a.fo b then .dead else a
theorem ml (c:bm (X×aG)) (b:aie) (a:ak):(∃id d,a=.ref id []/\id∈b/\ar c id=Y d/\gX c b a=rp d)\/(gX c b a=.dead/\a.fo b=bp)\/(gX c b a=a/\a.fo b=bq):=by
 have e:∀a:ak,gX c b a=(bif a.fo b then .dead else a)->(∃id d,a=.ref id []/\id∈b/\ar c id=Y d/\gX c b a=rp d)\/(gX c b a=.dead/\a.fo b=bp)\/(gX c b a=a/\a.fo b=bq):=(by grind);cases a with
 |ref id g=>
  cases g with
  |nil=>
   cases f:eQ id b with
   |true=>
    have i:(ak.ref id []).fo b=bp:=(by simp[aiv,bT,f]);cases h:ar c id with
    |none=>grind [gX]
    |some d=>exact .inl ⟨id,d,bn,ha.1 f,h,by grind [gX]⟩
   |false=>grind [gX,aiv,bT]
  |cons j g=>exact e _ rfl
 |_=>exact e _ rfl
def iz (c:bm (X×aG)) (b:aie):ak->ak
 |.fe d=>.fe (d.map (gX c b))
 |a=>gX c b a
theorem HP (b:∀a,d≠.fe a):iz e f d=gX e f d:=by
 cases d with
 |fe a=>grind
 |_=>rfl
def sR (a:aie) (st:aO):aO:=⟨st.g.map λb=>(b.1,iz st.h a b.2),del a st.h⟩
def HZ (c:ak->ak) (e:c .dead=.dead):∀(d:bm (X×ak)) (b:X),gt (d.map λf=>(f.1,c f.2)) b=c (gt d b)
 |[],b=>e.symm
 |(g,a)::d,b=>by
  show gt ((g,c a)::_) b=_;rw[iQ,iQ];split
  ·rfl
  exact HZ c e d b
theorem D4 (a:aie) (st:aO) (b:X):gt (sR a st).g b=iz st.h a (gt st.g b):=HZ (iz st.h a) rfl st.g b
def VM (a:aie) (st:aO):aT (sR a st).g=λb=>iz st.h a (aT st.g b):=by
 funext b;cases b with
 |tmp c=>exact D4 a st c
 |const d=>cases d<;>rfl
 |func e=>rfl
 |global f=>rfl
theorem FE (b:d.fo f=bq) (a:bm (X×bm aZ)):fc f a d=d:=by grind [fc]
def aeh {a:bm ak} (b:(ak.fe a).fo f=bq) (e:d∈a):d.fo f=bq:=by unfold aiv at b|-;rw[tL] at b|-;intro id h;obtain⟨c,g,rfl⟩:=hu.1 e;exact b id (ak.Ar (l:=a) (i:=c) (ba g) h)
theorem Kq (b:d.fo f=bq) (a:bm (X×bm aZ)):fG f a d=d:=by
 cases d with
 |fe e=>
  simp only[fG];rw[h7 (λd c=>FE (aeh b c) a),alF]
 |_=>exact FE b a
theorem VN (a:aie) (b:bm (X×bm aZ)) (c:aG):fG a b (rp c)=fc a b (rp c):=by unfold rp;split<;>rfl
def yg (a e:ak):Prop:=a=.dead\/a=e\/∃b c,a=.fe b/\e=.fe c/\b.length=c.length/\∀(f:X) (d g:ak),b[f]?=Y d->c[f]?=Y g->d=.dead\/d=g
section
variable {C:eY} {st:aO} {G:ah6} {w:bC}
theorem cN.freeze {e:X->ah8} (u:cN C st G w O e y) (T:∀id∈f,∃b,ar st.h id=Y b/\HQ b.1=bp):gI C (sR f st) G w:=by
 have K:=u.eC (S:=f) (keep:=[]) (new:=[]) (rtn:=e) (fpn:=y) (w':=w) (I':=λa=>O a\/∃id∈f,∃b,ar st.h id=Y b/\a∈y id) ⟨bc _,bn,bn,bn,λ_ _ _=>rfl,λ_ _=>.refl _ _,λ_ c=>.inl c,λa c=>c.imp id λ⟨id,ad,b,s,l⟩=>
  ⟨((u.tree id b s).2.2 a l).2.2.1,.inr ⟨id,ad,b,s,l⟩⟩,(λ_ _ c=>by cases c),(λ_ _ _ _ c=>by cases c),(λ_ c=>by cases c),(λ_ c=>by cases c)⟩
 refine⟨_,_,_,{K with tmp:=λq=>?_}⟩;rw[D4];have m:=u.tmp q;have p:=K.tmp q;rw[show gt (aO.mk (aiz f [] st.g) ([]++del f st.h)).g q=fG f [] (gt st.g q) from p6 _ _ _ _] at p;generalize gt st.g q=j at m p;generalize G.getD q bW=i at m p;have E:∀(j:ak) (i:Value),cP (bb O C.B) w st.h e y j i->cP (bb (λa=>O a\/∃id∈f,∃b,ar st.h id=Y b/\a∈y id) C.B) w ([]++del f st.h) (fh [] e e) (fh [] y y) (fc f [] j) i->
  cP (bb (λa=>O a\/∃id∈f,∃b,ar st.h id=Y b/\a∈y id) C.B) w ([]++del f st.h) (fh [] e e) (fh [] y y) (gX st.h f j) i:=by
  intro j i m p;rcases ml st.h f j with⟨id,b,k,n,o,R⟩|⟨k,_⟩|⟨k,n⟩
  ·rw[R];rw[k] at m;cases m with|ref s am=>
   rw[o] at s;cases s;obtain⟨rfl,rfl,rfl⟩:=aiJ.1 am;obtain⟨c1,J,H⟩:=T id n;rw[o] at J;cases J;have F:∀v a,bb O C.B v a->bb (λa=>O a\/∃id∈f,∃b,ar st.h id=Y b/\a∈y id) C.B v a:=by
    intro v a l;cases v
    ·exact .inl l
    exact l.imp .inl (λc=>c)
   have I:=(u.tree id b o).1;have z:∀a∈y id,bb (λa=>O a\/∃id∈f,∃b,ar st.h id=Y b/\a∈y id) C.B .bg a:=λa l=>.inr ⟨id,n,b,o,l⟩;obtain⟨d,t⟩:=b;by_cases an:∃r,d=.optr r
   ·obtain⟨r,rfl⟩:=an;obtain⟨a,A,bx,N,aq,a4,bl,P,bs,Q⟩:=I;show cP _ _ _ _ _ (.val (.ptr .bg (jH r)) (Y (nB r t))) _;have aq:e id=[.pointer (Y ⟨a,A,bo⟩)]:=aq;rw[aq];refine .val (τ:=.ptr .bg (jH r)) (x:=Y (nB r t)) (cs:=[.pointer (Y ⟨a,A,bo⟩)]) ⟨bn,a,A,N,bn,z a (by grind),by grind [sS],P,vx F H Q (λM ce=>z M (by grind))⟩
   have av:cW d (e id)=cW (jH d) (e id):=(by cases d<;>rfl);have a0:rp ⟨d,t⟩=.val (jH d) (nB d t):=by cases d<;>first|rfl|grind
   have ap:rn d=bp:=by cases d<;>first|exact H|grind
   rw[a0];show cP _ _ _ _ _ _ (cW d (e id));rw[av];exact .val (vx F ap I z)
  ·rw[k];exact .dead _
  grind [FE]
 cases j with
 |fe cv=>
  cases m with|fe ci U=>
  cases p with|fe co V=>
  refine .fe (by grind) (λL a3 i k n=>?_);rw[jh] at k;obtain⟨D,o,rfl⟩:=fC.1 k;exact E D i (U L D i o n) (V L _ i (by grind) n)
 |_=>exact E _ _ m p
theorem gI.NO (t:gI C st G w) (y:∀a,yg (gt i.g a) (gt st.g a)) (J:∀id,ar i.h id=ar st.h id):gI C i G w:=by
 obtain⟨k,n,l,d⟩:=t;refine⟨k,n,l,{d with tree:=λid e p=>d.tree id e (by grind),dis:=λj D e F L M=>d.dis j D e F (by grind) (by grind),tmp:=λa=>?_}⟩;have P:∀(b:ak) (f:Value),cP (bb k C.B) w st.h n l b f->cP (bb k C.B) w i.h n l b f:=λb f v=>
  v.s9 (λO H x=>⟨x,cq _ _⟩) (λid _ e p=>⟨by grind,bn,bn,(d.tree id e p).1,λ_ _=>cq _ _⟩)
 have m:=d.tmp a;rcases y a with c|c|⟨N,E,aq,q,r,s⟩
 ·rw[c];exact .dead _
 ·grind
 rw[aq];rw[q] at m;generalize G.getD a bW=f at m;cases m with|fe z K=>
 refine .fe (r.trans z) (λj b f u I=>?_);obtain⟨o,A⟩:∃o,E[j]?=some o:=(by grind);rcases s j b o u A with c|c
 ·rw[c];exact .dead _
 grind
def gI.less (b:gI C st G w) (c:∀a,gt i.g a=.dead\/gt i.g a=gt st.g a) (d:∀id,ar i.h id=ar st.h id):gI C i G w:=
 b.NO (λa=>(c a).imp id .inl) d
end
def rP:Op->bm bO
 |.build _ c=>c.toList.map (·.2)
 |.buildSlice _ _ c=>c.toList.map (·.2)
 |.store _ _ a=>[a]
 |.mapUpdate _ _ _ a=>[a]
 |.insert _ _ _ a=>[a]
 |.entryStore _ _ _ a=>[a]
 |.box _ a=>[a]
 |.assign a=>[a]
 |.call b=>match b.callee with
  |.value _=>b.args.toList
  |.builtin .append=>b.args.toList.drop 1
  |_=>[]
 |_=>[]
def uY (b:bR):X:=match b.dst with
 |some a=>a
 |none=>999999
def mm (a:aig) (c:X) (b:bO->ak):bm bO->aie
 |[]=>[]
 |x::d=>match b x with
  |.ref id []=>bif a.any (λe=>bH e.1 c&&bH e.2 id) then id::mm a c b d else mm a c b d
  |_=>mm a c b d
end
section
theorem GO {c d:bm b} (e:m<=a) (f:a<=c.length):(jm c d m a).length=c.length:=by grind [aiP,air,alJ,jm]
theorem Ma {d e:bm b} (f:a<=m) (g:m<=d.length) (c:X):(jm d e a m)[c]?=if a<=c/\c<a+min e.length (m-a) then e[c-a]? else d[c]?:=by grind [jm]
def qX {k:Type} (tt:bm (bF×ah)) (d:bm (X×aG)) (f:X) (l:bF) (m j:ak) (e:cI->bv k):bv k:=
 match gZ tt l with
 |none=>bo
 |some i=>match m with
  |.ref id []=>match ar d id with
   |some ⟨.osl a,b⟩=>bif a7 i a&&bH a.size 1&&a.pure then
    (ld d a j).bind λc=>e ⟨Y (f,.val (.int .i64) ((min c.length (b.length-0):X):Z)),[id],[(id,[])],[(id,⟨.osl a,jm b c 0 b.length⟩)]⟩
    else bo
   |_=>bo
  |.view id [] h g=>match ar d id with
   |some ⟨.osl a,b⟩=>bif a7 i a&&bH a.size 1&&a.pure then
    (ld d a j).bind λc=>e ⟨Y (f,.val (.int .i64) ((min c.length (g-h):X):Z)),[id],[(id,[])],[(id,⟨.osl a,jm b c h g⟩)]⟩
    else bo
   |_=>bo
  |_=>bo
def cI.Tg {b:bm (X×bm aZ)} {st:aO}:(cI.mk (Y (a,d)) f b e).app st=⟨(a,d)::aiz f b st.g,e++del f st.h⟩:=by show aO.mk ((a,d)::nG f b st.g) (e++q8 f st.h)=_;rw[sW,xe]
section
variable {E:fA} {C:eY} {st:aO} {a:Act} {w:bC} {I:X->Prop} {rt:X->ah8} {fp:X->aie} {o:bR}
def KD (e:cN C st a.tmps w I rt fp) {b:bm k.den} (c:ld st.h k (aT st.g n)=Y b):yI I C.B w k (a.eval n) b:=by
 refine vP e ?_;have:=Bn c;generalize rS st.h k (aT st.g n)=i at this;cases i with
 |e4 l=>exact this.symm
 |part m o j=>obtain⟨f,d,rfl⟩:=this;exact⟨f,d,bn⟩
 |bad=>exact this.elim
theorem GN (co:cN C st a.tmps w I rt fp) {eq:b} {dl:cI->bv b} {y:X} (gs:o.op=.call {callee:=.builtin .copy,args:=#[n,N],argTypes:=#[c,r]}) (f8:o.dst=Y y) (f9:C.ok y) {next:Act->bC->Prop} {d0:b5->Act->bC->Prop} (go:∀ex a3 w',(∃s,dl s=Y eq/\ex=s.app st)->a3.defers=a.defers->gI C ex a3.tmps w'->next a3 w') (f5:gZ E.tt c=Y Q) (gl:a7 Q k=bp) (G:k.size=1) (V:k.pure=bp) {id e:X} {j i:bm k.den} (am:ar st.h id=Y ⟨.osl k,j⟩) (ce:m<=e) (ci:e<=j.length) (hr:yI I C.B w k (a.eval N) i) {a4:bv Addr} {d1:X} (hc:a.eval n=.slice a4 (e-m) d1) (hi:e-m=0\/∃d p L,rt id=[.slice (Y ⟨d,p,bo⟩) j.length L]/\a4=Y ⟨d,p+m,bo⟩) (f2:dl ⟨Y (y,.val (.int .i64) ((min i.length (e-m):X):Z)),[id],[(id,[])],[(id,⟨.osl k,jm j i m e⟩)]⟩=Y eq):o.wp E.P a w next d0:=by
 obtain⟨f,ds,aw,d7,f0⟩:=gZ.ok f5;have f1:=f0.lay gl;obtain⟨nd,_,ap,_⟩:=f1.info;obtain⟨fn,n7,of⟩:=co.tree id _ am;obtain⟨fs,kd,d3,hv,cv,lo⟩:=hr;have d2:∀w':bC,w'.heap.size=w.heap.size->w'.os=w.os->w'.tape=w.tape->w'.output=w.output->(∀d,d∉fp id->w'.heap[d]?=w.heap[d]?)->(∀d,iS w' d=iS w d)->aS (bb I C.B) w' (.osl k) (rt id) (jm j i m e) (fp id)->
  (Builtin.copy_ #[c,r] o.type #[a.eval n,a.eval N]).run E.P w=.ok (goInt ((min i.length (e-m):X):Z)) w'->o.wp E.P a w next d0:=by
  intro w' i0 i1 i2 i3 i8 jp nx ad;have ad:(bN a.eval o).run E.P w=.ok (.value (goInt ((min i.length (e-m):X):Z))) w':=(by simp only[bN,gs,aiW,invoke,ajc,bY,cx,b1,akM,h8,ajs,ad]);have gt:=co.eC (S:=[id]) (keep:=[(id,[])]) (new:=[(id,⟨.osl k,jm j i m e⟩)]) (rtn:=rt) (fpn:=fp) (w':=w') (I':=I)
   ⟨Nat.le_of_eq i0.symm,i1,i2,i3,λd lk f4=>i8 d (f4 id ac _ am),λd _=>.of_eq (jp d),λ_ M=>M,λ_ M=>.inl M,(by
    intro f fl t;rw[ey] at t;split at t
    ·grind
    ·cases t),(by
    intro f g ol on t c1 lt;rw[ey] at t c1;split at t
    ·split at c1
     ·omega
     cases c1
    ·cases t),(by
    intro s O fl an;simp only[gp] at O;subst O;have an:ar st.h id=Y fl:=an;rw[am] at an;obtain rfl:=gC an;exact⟨⟨.osl k,jm j i m e⟩,by rw[ey,au bn],bn,bn,⟨_,bn⟩,λno _ _ _ T=>by grind [Ej]⟩),(by
    grind [uO,aik])⟩
  unfold ais;rw[ad];show next (a.put o.dst _) w'
  rw[f8];have V:=gt.put f9 (av:=.val (.int .i64) ((min i.length (e-m):X):Z)) (v:=goInt ((min i.length (e-m):X):Z)) (.val (τ:=.int .i64) (cs:=[.int .i64 _]) ⟨bn,bn⟩);have hrel:gI C ((cI.mk (Y (y,.val (.int .i64) ((min i.length (e-m):X):Z))) [id] [(id,[])] [(id,⟨.osl k,jm j i m e⟩)]).app st) (a.put (Y y) (goInt ((min i.length (e-m):X):Z))).tmps w':=(by rw[cI.Tg];exact⟨I,_,_,V⟩);exact go _ _ _ ⟨_,f2,bn⟩ rfl hrel
 have mp:Nat.min i.length (e-m)=min i.length (e-m):=rfl;by_cases T:min i.length (e-m)=0
 ·have ll:jm j i m e=j:=by
   apply hO;intro f;rw[Ma ce ci,az aa]
  refine d2 w bn rfl rfl rfl (λ_ _=>rfl) (λ_=>rfl) (by grind) ?_;rw[hc,hv,T];exact run_copy_none w c r o.type ds a4 fs _ _ _ _ d7 (by rw[ap.info];simp[ap.size,G]) aa
 rcases hi with lf|⟨d,p,L,el,rfl⟩
 ·omega
 rw[el] at fn;obtain⟨kg,le,aq,fT⟩:=fn;simp only[hN,aio,b9] at aq;obtain⟨rfl,_,rfl⟩:=aq;rcases fT with⟨bl,_⟩|⟨lb,nn,D,bl,ek,d4,d5,bx,d6⟩
 ·cases bl
 cases bl;have d5:j.length<=L:=d5;have d4:D.length=j.length:=d4;have gf:D.flatten=[]:=HH (λbs R=>by
  obtain⟨f,t,rfl⟩:=hu.1 R;have mo:f<j.length:=aa;obtain⟨A,_,_,z⟩:=d6 f j[f] D[f] ac ac;exact z.pure V)
 rw[gf] at ek;obtain⟨c2,ic,ii,io,is⟩:=cv.cells aa;rw[G,ajO] at ic;have hs:i≠[]:=λs=>(by grind);obtain⟨a0,rfl⟩:∃a0,fs=some a0:=by
  rcases cv.2 with M|⟨lc,ne,rfl,_⟩
  ·grind
  grind
 let l:=c2.take (min i.length (e-m))
 have f6:l.length=min i.length (e-m):=(by grind);have f7:∀g v,l[g]?=Y v->c2[g]?=Y v:=λg v q=>by
  rw[akC] at q;split at q
  ·exact q
  grind
 have d9:∀g,g<l.length->(w.cell? ⟨d,p+m+g,bo⟩).isSome=bp:=λg q=>(bx (p+m+g) aa (by grind)).1;have ad:=run_copy_cells (P:=E.P) w c r o.type ds d (p+m) (e-m) d1 a0 i.length kd l d7 (by rw[ap.info];simp[ap.size,G]) (by rw[f6]) (λg v q=>io a0 bn hs g v (f7 g v q)) d9 (λg q=>(bx (p+m+g) aa (by grind)).2) (λv x=>ii v (wb x));have d8:d∈fp id:=(by grind);have f3:∀J u,bb I C.B J u->u≠d:=λJ u U s=>co.notM am d d8 J (s▸U);refine d2 (w.setCells d (p+m) l) (ts d l _ w) (pc d l _ w).1 (pc d l _ w).2.1 (pc d l _ w).2.2 (λu T=>x5 d l _ w u (λs=>T (s▸d8))) (λu=>Ao _ _ _ _ _) ?_ ?_
 ·rw[el,ek];refine⟨Y ⟨d,p,bo⟩,L,by rw[GO ce ci],.inr ⟨d,p,bJ j.length [],bn,by rw[HH (λbs R=>List.eq_of_mem_replicate R)],by grind [GO],by grind [GO],?_,?_⟩⟩
  ·intro g hw ib;obtain⟨or,oN⟩:=bx g hw ib;grind [JS,aly]
  intro f K bs H R;have ge:bs=[]:=(by grind);subst ge;rw[Ma ce ci] at H;have em:∀{A:ah8} {K:k.den},aS (bb I C.B) w k A K []->aS (bb I C.B) (w.setCells d (p+m) l) k A K []:=λF=>F.mono (λJ u U=>⟨U,rJ (f3 J u U)⟩) ac;split at H
  ·rename_i mc;have q:f-m<l.length:=aa;have gi:d3[f-m]?=Y []:=by
    have mt:f-m<d3.length:=(by rw[cv.1];omega);grind [List.flatten_eq_nil_iff,b7,bS]
   have F:=is (f-m) K [] H gi;rw[G,ajO] at F;have gc:(c2.drop (f-m)).take 1=[l[f-m]]:=(by grind [List.drop_eq_getElem_cons]);rw[gc] at F;refine⟨[l[f-m]],by grind,?_,em F⟩;intro g v x;cases g with
   |zero=>
    simp only[qD,eS] at x;subst x;have:=akd d l (p+m) w d9 (f-m) q;rw[<-this,G];congr 2;omega
   |succ g=>grind
  rename_i mz;have l2:f<j.length:=(hH.1 H).1;obtain⟨A,ft,fz,z⟩:=d6 f K (D[f]'(by omega)) H ac
  have O:D[f]'(by omega)=[]:=z.pure V
  rw[O] at z;refine⟨A,ft,?_,em z⟩;intro g v x;have:=fz g v x;grind [akQ,aiV]
 grind
theorem e0.copy {K:b} {F:cI->bv b} (A:o.op=.call {callee:=.builtin .copy,args:=#[n,N],argTypes:=#[c,r]}) (v:o.dst=Y m) (x:C.ok m) (d:qX E.tt st.h m c (aT st.g n) (aT st.g N) F=Y K):e0 E C o st (λT=>∃J,F J=Y K/\T=J.app st):=by
 rintro a w ⟨I,rt,fp,f⟩ next am z
 have k:=f.aT n;unfold qX at d;split at d
 ·cases d
 rename_i L B;split at d
 ·rename_i id u;split at d
  case h_2=>cases d
  rename_i j M i;cases e:(a7 L j&&bH j.size 1&&j.pure) with
  |false=>grind
  |true=>
  rw[e] at d;simp only[bk] at e;obtain⟨V,q,d⟩:=eO.1 d;rw[u] at k;generalize p:a.eval n=U at k;cases k with|ref l y=>
  rw[i] at l;cases l;obtain⟨rfl,rfl,rfl⟩:=aiJ.1 y;have D:=(f.tree id _ i).1;obtain⟨G,H,aq,O⟩:=D;have Q:a.eval n=.slice G (M.length-0) H:=(by rw[p,aq];rfl);refine GN f A v x z B e.1.1 (fu e.1.2) e.2 i (da _) (bc _) (KD f q) Q ?_ d;grind
 ·rename_i id a4 av u;split at d
  case h_2=>cases d
  rename_i j M i;cases e:(a7 L j&&bH j.size 1&&j.pure) with
  |false=>grind
  |true=>
  rw[e] at d;simp only[bk] at e;obtain⟨V,q,d⟩:=eO.1 d;rw[u] at k;generalize p:a.eval n=U at k;cases k with|l7=>(exact GN f A v x z B e.1.1 (fu e.1.2) e.2 i (bc _) (da _) (KD f q) p (.inl bn) d)|view l y R S a0=>
  rw[i] at l;cases l;rename_i ad bl an bs a3 H;obtain⟨s,_,t⟩:=aiJ.1 y;have s:ah.osl j=ah.osl ad:=s;cases s;have P:=fu e.1.2;have D:=(f.tree id _ i).1;obtain⟨G,ap,aq,O⟩:=D;rw[aq] at t;simp only[hN,aio,b9] at t;obtain⟨rfl,rfl,rfl⟩:=t;refine GN f A v x z B e.1.1 P e.2 i R S (KD f q) p ?_ d;grind
 grind
end
end
section
def aW.cells {w q:bC} (e:∀a,q.cell? a=w.cell? a):∀{p:bm aZ} {τ r:ah} {m n:Loc} {f g:ah8},aW w τ m f p r n g->aW q τ m f p r n g
 |[],τ,_,_,_,_,_,c=>by cases τ<;>exact c
 |s::p,τ,r,m,n,f,g,c=>by
  have u:∀{b o:X} {d:ah8},fq w b o d->fq q b o d:=λy A C z=>(by rw[e];exact y A C z);cases τ<;>cases s<;>simp only[aW] at c
  case osl.idx t i=>
   obtain⟨b,o,B,v,d,h,j,k,l,x⟩:=c;exact⟨b,o,B,v,d,h,j,k,u l,x.cells e⟩
  case optr.deref t=>
   obtain⟨b,o,d,h,j,k,l⟩:=c;exact⟨b,o,d,h,j,u k,l.cells e⟩
  case st.unst t=>exact aW.cells e (τ:=t) c
  case pr.fst a b=>exact aW.cells e (τ:=a) c
  case pr.snd a b=>exact aW.cells e (τ:=b) c
theorem adZ (a:ah):fm a []=Y a:=by cases a<;>rfl
theorem aW.ya {w:bC} {r:bm aZ}:∀{p:bm aZ} {τ c:ah} {m n:Loc} {e f:ah8},aW w τ m e p c n f->fm τ (p++r)=fm c r
 |[],τ,_,_,_,_,_,a=>by grind [aiJ]
 |s::p,τ,_,_,_,_,_,a=>by
  cases τ<;>cases s<;>simp only[aW] at a
  case osl.idx t i=>obtain⟨d,o,u,q,g,h,j,k,b,l⟩:=a;exact l.ya
  case optr.deref t=>obtain⟨d,o,g,h,j,k,b⟩:=a;exact b.ya
  case st.unst t=>exact aW.ya (p:=p) (τ:=t) a
  case pr.fst t1 t2=>exact aW.ya (p:=p) (τ:=t1) a
  case pr.snd t1 t2=>exact aW.ya (p:=p) (τ:=t2) a
section
variable {E:fA} {C:eY} {st:aO} {a:Act} {A:ah6} {w:bC} {I:X->Prop} {rt:X->ah8} {fp:X->aie} {o:bR} {Q:aO->Prop}
def Mi:∀{p q:bm aZ},kS (p++[.deref]) q=bp->kS p q=bp
 |[],q,a=>by
  cases q with
  |nil=>cases a
  |cons s q=>
   cases s<;>cases a
 |s::p,[],a=>by cases s<;>cases a
 |s::p,b::q,a=>by cases s<;>cases b<;>first|(cases a;done)|exact Mi (p:=p) (q:=q) a|rfl
theorem cN.Ex (v:cN C st A w I rt fp) {id:X} (t:ar st.h id=Y P) {d7:ah} {ad:Loc} (N:aW w P.1 bo (rt id) j d7 ad R) {T:bm (Z×k.den)} (cv:eN P.1 P.2 j (.mp k) (Y (T,m))):∃a E D,R=[.map (Y a)]/\a∈fp id/\(∀q b,bb I C.B q b->b≠a)/\hk (bb I C.B) w k a T m E D/\∀{e:bU cm} {c:X} {z:bm (Z×k.den)} {K:bm (Z×X×k.den)} {p:P.1.den},hk (bb I C.B) (gP w a e c) k a z c e K->kL w (gP w a e c) a->fa P.1 P.2 j (.mp k) (Y (z,c)) p->∃d6 a0,cN C ⟨aiz [id] [(id,j++[.deref])] st.g,(id,⟨P.1,p⟩)::del [id] st.h⟩ A (gP w a e c) I d6 a0:=by
 obtain⟨d0,Q,co⟩:=v.tree id P t;obtain⟨f5,ek,em,d5,a3,a4,bl,L,eq,bs,bx⟩:=z8 j (loc:=bo) d0 (λ_ _ i=>by cases i) Q (λ_ _ i=>by cases i) (v.notM t) cv;obtain⟨an,aq,ap⟩:=N.lw a3;subst an;subst aq;subst ap;obtain⟨a,E,D,rfl,rfl,F⟩:=a4.On;have G:a∈fp id:=L.mem_iff.2 ac;have ci:∀q b,bb I C.B q b->b≠a:=λq b f n=>v.notM t a G q (n▸f);refine⟨a,E,D,bn,G,ci,F,?_⟩;intro e c z K p ce fl S;have O:=L.nodup_iff.1 Q;rw[jO] at O;have fT:∀b∈d5,b≠a:=λb f n=>O.2.2 a ac b f n.symm;have x:=acY (es':=e) (c':=c) F.h;have cs:=acZ (es':=e) (c':=c) F.h;have d2:∀b,b≠a->c8 w (gP w a e c) b:=λb f=>Fp f;obtain⟨el,av,f0,_,d3,_,f3,_,f1⟩:=bs (gP w a e c) (bb I C.B) [.map (Y a)] (Y (z,c)) [a] p (λ_ _ i=>i) (λb f=>by
   have c1:b≠a:=by
    rcases f with⟨q,ft⟩|f|⟨o,fz⟩
    ·grind
    ·grind
    grind
   exact⟨λu _=>x _,λu=>cs _,λu=>by rw[x],(d2 b c1).2⟩)
  (aS.Oo ce) (λ_ _=>rfl) (λam d4 n=>by
   have:=(bl am d4 n).1;exactλu V s=>by rw[x];exact this u V s) S
 obtain rfl:=d3 bn (.inr bn);have fs:=(co a G).2.2.1;have d:nk C st w (gP w a e c) I I rt fp [id] [(id,j++[.deref])] [(id,⟨P.1,p⟩)] (λ_=>rt id) (λ_=>av):=by
  refine⟨by grind [QL],bn,bn,bn,?_,?_,λ_ i=>i,λ_ i=>.inl i,?_,?_,?_,?_⟩
  ·grind [Ba]
  ·intro b _;by_cases n:b=a
   ·grind
   exact .of_heap (Ba n)
  ·intro H J d;rw[ey] at d;split at d
   ·grind [QL]
   cases d
  ·intro H u J V l s fn;rw[ey] at l s;split at l
   ·split at s
    ·omega
    cases s
   cases l
  ·intro H l J d;simp only[gp] at l;subst l;rw[t] at d;obtain rfl:=gC d;refine⟨⟨P.1,p⟩,by rw[ey,au bn],bn,bn,?_,λU gc f6 d9 _ ds=>ds.cells x⟩;have ex:=N.ya (r:=[.deref]);grind [adZ,fm]
  intro H l J d U f9 f8 f4 d8 f2 y dl c2 M d1;simp only[gp] at l;subst l;rw[t] at d;obtain rfl:=gC d;have y:=Mi y;refine⟨⟨P.1,p⟩,by rw[ey,au bn],uP y S M,λb f=>?_⟩;obtain⟨aw,f7⟩:=bx U _ _ _ _ _ y (by exact dl) M c2 d1 b f;grind
 exact⟨_,_,v.eC d⟩
def xJ {α:Type} (c:bv (bm (Z×α)×X)) (b:Z) (d:α):bv (bv (bm (Z×α)×X)):=match c with
 |none=>bo
 |some a=>Y (Y (kB a.1 b d,bif (gb a.1 b).isSome then a.2 else a.2+1))
def om {f:Type} (tt:bm (bF×ah)) (i:bm (X×aG)) (h:bF) (n d m:ak) (g:cI->bv f):bv f:=
 match n with
 |.ref id c=>match ar i id with
  |some a=>match kZ tt h,d,m with
   |some l,.val (.int .i64) d,.val p e=>match fm a.1 c with
    |some (.mp b)=>bif a7 l b then match hX b e with
     |some e=>(hY a.1 a.2 c (.mp b)).bind λj=>(xJ (α:=b.den) j d e).bind λk=>(my a.1 a.2 c (.mp b) k).bind λo=>g ⟨bo,[id],[(id,c++[.deref])],[(id,⟨a.1,o⟩)]⟩
     |none=>bo
     else bo
    |_=>bo
   |_,_,_=>bo
  |none=>bo
 |_=>bo
def Xf {α:Type} (c:bv (bm (Z×α)×X)) (b:Z):bv (bv (bm (Z×α)×X)):=match c with
 |none=>bo
 |some a=>Y (Y (jd a.1 b,a.2))
def ry {e:Type} (tt:bm (bF×ah)) (h:bm (X×aG)) (g:bF) (l d:ak) (f:cI->bv e):bv e:=
 match l with
 |.ref id b=>match ar h id with
  |some a=>match kZ tt g,d with
   |some k,.val (.int .i64) d=>match fm a.1 b with
    |some (.mp c)=>bif a7 k c then
     (hY a.1 a.2 b (.mp c)).bind λi=>(Xf (α:=c.den) i d).bind λj=>(my a.1 a.2 b (.mp c) j).bind λm=>f ⟨bo,[id],[(id,b++[.deref])],[(id,⟨a.1,m⟩)]⟩
     else bo
    |_=>bo
   |_,_=>bo
  |none=>bo
 |_=>bo
theorem Ot {A:b} {r:cI->bv b} {f:bO} (j:o.op=.mapUpdate c f n N\/o.op=.insert c f n N) (T:o.dst=bo) (d:om E.tt st.h c (aT st.g f) (aT st.g n) (aT st.g N) r=Y A):e0 E C o st (λc1=>∃t,r t=Y A/\c1=t.app st):=by
 rintro a w ⟨I,rt,fp,i⟩ next d4 am
 have p:=i.aT f;have e:=i.aT n;have m:=i.aT N;unfold om at d;split at d
 case h_2=>cases d
 rename_i id d8 H;split at d
 case h_2=>cases d
 rename_i fn y;split at d
 case h_2=>cases d
 rename_i ds k fl eq S D G;obtain⟨d0,d3,c2,dl,d9⟩:=kZ.ok S;split at d
 case h_2=>cases d
 rename_i q ap;cases u:a7 ds q with
 |false=>grind
 |true=>
 rw[u] at d;simp only[bG] at d;split at d
 case h_2=>cases d
 rename_i em a3;obtain⟨bx,V,K⟩:=eO.1 d;obtain⟨d7,v,L⟩:=eO.1 K;obtain⟨ex,a4,M⟩:=eO.1 L;cases bx with
 |none=>cases v
 |some ce=>
 obtain⟨bl,s⟩:=ce;cases v;cases j7 a3;rw[H] at p;rw[D] at e;rw[G] at m;generalize a0:a.eval f=el at p;generalize ad:a.eval n=d6 at e;generalize av:a.eval N=ek at m;cases e with|val cs=>
 obtain⟨_,rfl⟩:=cs;cases m with|val B=>
 cases p with|ref z x=>
 rw[y] at z;cases z;obtain⟨l,d5,d1,rfl,u,Q,O,U⟩:=i.Ex y x (iK V);have:=x.ty;rw[ap] at this;cases this;obtain⟨F,d2,aw,ci,co⟩:=O.update (P:=E.P) c2 dl k B.len B;obtain⟨cv,J,R⟩:=U (ci (λbs n e=>⟨e,Q bs n e⟩)) co (m2 a4);unfold ais;have an:(bN a.eval o).run E.P w=.ok .skip (gP w l F (bif (gb bl k).isSome then s else s+1)):=by
  have this:∀q:ah,cW (.mp q) [ajK (Y l)]=.map (Y l):=λ_=>rfl;rcases j with j|j<;>
  ·simp only[bN,j,a0,ad,av,bY];rw[this,show cW (.int .i64) [aiu .i64 k]=.int .i64 k from rfl,aw];rfl
 rw[an];show next (a.put o.dst bW) _
 rw[T];refine am _ _ _ ⟨_,M,?_⟩ rfl ⟨I,cv,J,R⟩;rfl
theorem Xq {x:b} {m:cI->bv b} (U:o.op=.call {callee:=.builtin .delete,args:=#[N,n],argTypes:=#[c,r]}) (O:o.dst=bo) (d:ry E.tt st.h c (aT st.g N) (aT st.g n) m=Y x):e0 E C o st (λbx=>∃p,m p=Y x/\bx=p.app st):=by
 rintro a w ⟨I,rt,fp,i⟩ next dl T
 have j:=i.aT N;have e:=i.aT n;unfold ry at d;split at d
 case h_2=>cases d
 rename_i id d3 B;split at d
 case h_2=>cases d
 rename_i d7 u;split at d
 case h_2=>cases d
 rename_i co k M z;obtain⟨cs,c2,ce,ci,d4⟩:=kZ.ok M;split at d
 case h_2=>cases d
 rename_i l ad;cases q:a7 co l with
 |false=>grind
 |true=>
 rw[q] at d;simp only[bG] at d;obtain⟨av,R,F⟩:=eO.1 d;obtain⟨d2,s,G⟩:=eO.1 F;obtain⟨d6,an,H⟩:=eO.1 G;cases av with
 |none=>cases s
 |some a0=>
 obtain⟨d1,y⟩:=a0;cases s;rw[B] at j;rw[z] at e;generalize am:a.eval N=d5 at j;generalize S:a.eval n=d0 at e;cases e with|val bl=>
 obtain⟨_,rfl⟩:=bl;cases j with|ref v t=>
 rw[u] at v;cases v;obtain⟨f,ds,cv,rfl,q,K,J,Q⟩:=i.Ex u t (iK R);have:=t.ty;rw[ad] at this;cases this;obtain⟨A,c1,aw,a3,a4⟩:=J.delete (P:=E.P) ce ci k o.type r;obtain⟨bs,D,L⟩:=Q (a3 (λap n e=>⟨e,K ap n e⟩)) a4 (m2 an);unfold ais;have V:(bN a.eval o).run E.P w=.ok (.value (.tuple #[])) (gP w f A y):=(by simp only[bN,U,aiW,invoke,ajc,bY,cx,b1,akM,h8,ajs,am,S];have this:∀l:ah,cW (.mp l) [ajK (Y f)]=.map (Y f):=λ_=>rfl;rw[this,show cW (.int .i64) [aiu .i64 k]=.int .i64 k from rfl,aw];rfl);rw[V];show next (a.put o.dst (.tuple #[])) _
 rw[O];refine T _ _ _ ⟨_,H,?_⟩ rfl ⟨I,bs,D,L⟩;rfl
def vp (c:bm (X×aG)) (f g:ak):bv (X×bm aZ×X×aG):=match f,g with
 |.ref id (e::d),.ref a []=>match ar c a with
  |some b=>match b.1 with
   |.osl h=>match h.pure with
    |true=>bo
    |false=>Y (id,e::d,a,b)
   |_=>bo
  |none=>bo
 |_,_=>bo
def yL {h:Type} (tt:bm (bF×ah)) (e:bm (X×aG)) (b:X) (j:bF) (id:X) (c:bm aZ) (f:X) (k:aG) (i:cI->bv h):bv h:=
 match gZ tt j,ar e id,ar e b with
 |some l,Y d,bo=>match fm d.1 c with
  |some (.osl a)=>match hX (.osl a) k.2 with
   |some g=>bif a7 l a&&(b2 a.size 1300&&(a.kD&&!(bH f id))) then
    (hY d.1 d.2 c (.osl a)).bind λm=>(cC (aiq (α:=a.den) m+aiq (α:=a.den) g)).bind λ_=>i ⟨Y (b,.app id c a g [b,f]),[id],[(id,c),(id,[])],[(b,⟨.eK,()⟩),(id,d)]⟩
    else bo
   |none=>bo
  |_=>bo
 |_,_,_=>bo
def n8 {g:Type} (tt:bm (bF×ah)) (h:bm (X×ah)) (a:bm (X×aG)) (d:X) (c:bF) (e f:ak) (b:cI->bv g):bv g:=match vp a e f with
 |some (id,j,i,k)=>yL tt a d c id j i k b
 |none=>oR tt h a d c e f b
theorem Jp {id:X} (a:vp e d t=Y (id,j,m,P)):d=.ref id j/\t=.ref m []/\ar e m=Y P:=by unfold vp at a;grind
theorem Td {A:b} {s:cI->bv b} (y:o.op=.call {callee:=.builtin .append,args:=#[N,n],argTypes:=#[c,c]}) (v:o.dst=Y m) (x:C.ok m) (d:n8 E.tt l st.h m c (aT st.g N) (aT st.g n) s=Y A):e0 E C o st (λce=>∃f,s f=Y A/\ce=f.app st):=by
 unfold n8 at d;split at d
 case h_2=>exact e0.app y v x (Ta d (λf p=>⟨f,p,bn⟩))
 rename_i id dl e ci am;obtain⟨M,O,q⟩:=Jp am;unfold yL at d;split at d
 case h_2=>cases d
 rename_i co d4 K av L;split at d
 case h_2=>cases d
 rename_i j c1;split at d
 case h_2=>cases d
 rename_i d2 a3;cases i:(a7 co j&&(b2 j.size 1300&&(j.kD&&!(bH e id)))) with
 |false=>grind
 |true=>
 rw[i] at d;simp only[bk] at i;obtain⟨R,ap,U,V⟩:=i;have V:e≠id:=λf=>(by simp_all);obtain⟨d1,a0,H⟩:=eO.1 d;obtain⟨_,S,J⟩:=eO.1 H;obtain⟨d3,D⟩:=ci;cases j7 a3;rintro a w ⟨I,rt,fp,k⟩ next cs ad
 refine Ln (S2:=[e]) y v x k ad K R (gS ap) U M av L (iK a0) ?_ ?_ (xD S) ⟨_,J,bn⟩
 ·have r:=k.aT n;rw[O] at r;generalize c2:a.eval n=d0 at r;cases r with|ref z T=>
  rw[q] at z;cases z;obtain⟨rfl,rfl,rfl⟩:=aiJ.1 T;obtain⟨bl,bx,ds⟩:=k.tree e _ q;have a4:=bl;obtain⟨t,u,an,cv⟩:=a4;have bs:aS (bb I C.B) w (.osl j) [.slice t (aiq (α:=j.den) D) u] D (fp e):=(by grind);obtain⟨_,_,G,p,P,Q,_⟩:=kj.osl bs;exact⟨t,u,G,by rw[an];rfl,p,Q bx,λF i=>⟨e,ac,_,q,P F i⟩⟩
 grind
end
end
section
section
variable {P:b0} {w:bC} {b c:X} {A:bU cm} {M:eD->X->Prop} {t:ah} {l:bm (Z×t.den)} {L:bm (Z×X×t.den)}
theorem JT {d e:bU cm} (g:w.heap[b]?=Y (.map A c)) (f:gP w b d a=gP w b e m):d=e/\a=m:=by grind [aju,Obj.map.injEq,oy]
theorem hk.Lu (h:hk M w t b l c A L) {g:cm} (i:A[a]?=Y g):∃d f,L[a]?=Y d/\g=⟨.int .i64 d.1,cW t f,d.2.1⟩:=by have j:a<L.length:=(by have:=(rT.1 i).1;rw[h.n] at this;omega);obtain⟨f,_,k,_⟩:=h.e a L[a] (ba j);grind
theorem hk.ad5 (f:hk M w t b l c A L) {d e:Z×X×t.den} (n:L[a]?=Y d) (o:L[m]?=Y e) (k:d.1=e.1):a=m:=by have h:=f.o4.nd;have g:a<(L.map (·.1)).length:=(by grind);apply(akK g h (i:=a) (j:=m)).1;grind
theorem hk.ad4 (f:hk M w t b l c A L) {e d:Z×X×t.den} (n:L[a]?=Y e) (o:L[m]?=Y d) (k:e.2.1=d.2.1):a=m:=by have h:=f.o4.2.2.1;have g:a<(L.map λd=>d.2.1).length:=(by grind);apply(akK g h (i:=a) (j:=m)).1;grind
theorem Om {d:Type} {c:bU d} {e f:d->d} (g:∀b,c[a]?=Y b->e b=f b):c.modify a e=c.modify a f:=by grind
theorem hk.entry (d:hk M w t b l c A L) {z y:bF} {N:cw} (n:P.underlying r=Y (.map z y)) (g:P.underlying z=Y (.int N)) (a:Z) {x:t.den} (J:R.length=t.size) (F:aS M w t R x []) (K:∀w,(aix y).run P w=.ok (cW t R) w):∃(f:bU cm) (o:bm (Z×X×t.den)) (u:ah8) (p e:X),(alK r (.map (Y b)) (.int .i64 a)).run P w=.ok (.tuple #[cW t u,goInt ((p:X):Z)]) (gP w b f (bif (gb l a).isSome then c else c+1))/\aS M w t u ((gb l a).getD x) []/\f[e]?=Y (akz (.int .i64 a) (cW t u) p)/\(∀{B:eD->X->Prop},(∀G a,M G a->B G a/\a≠b)->hk B (gP w b f (bif (gb l a).isSome then c else c+1)) t b (kB l a ((gb l a).getD x)) (bif (gb l a).isSome then c else c+1) f o)/\kL w (gP w b f (bif (gb l a).isSome then c else c+1)) b:=by
 rcases d.find (P:=P) g a with⟨v,I,s⟩|⟨e,p,T,q,v,I,s,Q,C,D⟩
 ·obtain⟨f,o,aw,i,j⟩:=d.update (P:=P) n g a J F;rw[v] at aw i j|-;simp only[als,bP,Option.getD_none] at aw i j|-;have k:(ai3 r (.map (Y b)) (.int .i64 a) (cW t R)).run P w=.ok () (gP w b (A.push ⟨.int .i64 a,cW t R,c⟩) (c+1)):=by
   simp only[ai3,bY,b8 n,b1,ajP d.h,ow g,s];exact qi d.h
  rw[aw] at k;simp only[alL,ajF] at k;obtain⟨rfl,_⟩:=JT d.h k;refine⟨_,o,R,c,A.size,?_,F,by rw[Array.getElem?_push,au bn],i,j⟩;simp only[alK,bY,b8 n,b1,ajP d.h,ow g,s,K,qi d.h,cx];rfl
 obtain⟨f,o,aw,i,j⟩:=d.update (P:=P) n g a s C;rw[v] at aw i j|-;simp only[akJ,bG,r8] at aw i j|-;have E:(ajJ (((A[e]?).map (·.key)).getD (.int .i64 a)) (.int .i64 a)).run P w=.ok (.int .i64 a) w:=(by simp_all [ajJ,alu]);have k:(ai3 r (.map (Y b)) (.int .i64 a) (cW t q)).run P w=.ok () (gP w b (A.modify e λm=>{m with key:=.int .i64 a,val:=cW t q}) c):=(by simp only[ai3,bY,b8 n,b1,ajP d.h,ow g,D,E];exact qi d.h);rw[aw] at k;simp only[alL,ajF] at k;obtain⟨rfl,_⟩:=JT d.h k;refine⟨_,o,q,p,e,?_,C,by grind,i,j⟩;have aq:(A.modify e λm=>{m with key:=.int .i64 a,val:=cW t q})=A.modify e λm=>{m with key:=.int .i64 a}:=Om λm S=>(by grind);have H:((A[e]?).map λO=>((O.born:X):Z)).getD 0=(p:Z):=(by grind);simp only[alK,bY,b8 n,b1,ajP d.h,ow g,D,E,qi d.h,cx,aq,H];rfl
theorem hk.UO (f:hk M w t b l c A L) {e:cm} {d:Z} (y:A[a]?=Y e) (ci:e.key=.int .i64 d) {q F:bF} {ad:cw} (x:P.underlying r=Y (.map q F)) (k:P.underlying q=Y (.int ad)) {E:t.den} (K:R.length=t.size) (V:aS M w t R E []):∃i j,(amw r (.map (Y b)) (.int .i64 (e.born:Z)) (cW t R)).run P w=.ok () (gP w b i (bif (gb l d).isSome then c else c+1))/\(∀{s:eD->X->Prop},(∀C d,M C d->s C d/\d≠b)->hk s (gP w b i (bif (gb l d).isSome then c else c+1)) t b (kB l d E) (bif (gb l d).isSome then c else c+1) i j)/\kL w (gP w b i (bif (gb l d).isSome then c else c+1)) b:=by
 obtain⟨D,a0,z,bx⟩:=f.Lu y;have cs:D.1=d:=(by grind);rcases f.find (P:=P) k d with⟨u,v,G⟩|⟨g,cv,c1,av,u,v,G,a4,bl,H⟩
 ·grind
 obtain rfl:g=a:=f.ad5 v z aa;obtain⟨i,j,aw,n,o⟩:=f.update (P:=P) x k d K V;rw[u] at aw n o|-;simp only[akJ,bG] at aw n o|-;have T:(ajJ (((A[g]?).map (·.key)).getD (.int .i64 d)) (.int .i64 d)).run P w=.ok (.int .i64 d) w:=(by simp_all [ajJ,alu]);have p:(ai3 r (.map (Y b)) (.int .i64 d) (cW t R)).run P w=.ok () (gP w b (A.modify g λe=>{e with key:=.int .i64 d,val:=cW t R}) c):=(by simp only[ai3,bY,b8 x,b1,ajP f.h,ow k,H,T];exact qi f.h);rw[aw] at p;simp only[alL,ajF] at p;obtain⟨rfl,_⟩:=JT f.h p;refine⟨_,j,?_,n,o⟩;have aq:(A.modify g λe=>{e with key:=.int .i64 d,val:=cW t R})=A.modify g λe=>{e with val:=cW t R}:=Om λa3 N=>(by grind);have O:A.findIdx? (λan=>(an.born:Z)==(e.born:Z))=Y g:=by
  rw[Array.findIdx?_eq_some_iff_getElem];have Q:=(rT.1 y).1;refine⟨Q,?_,λB ce co=>?_⟩
  ·grind
  have S:B<A.size:=aa;obtain⟨am,ap,U,N⟩:=f.Lu (Bo S);have bs:(A[B].born:Z)=(e.born:Z):=(by grind);have J:am.2.1=D.2.1:=(by grind);have:=f.ad4 U z J;omega
 have I:∀(m:Z) (w:bC),(asInt (.int .i64 m)).run P w=.ok m w:=λm w=>(by simp[asInt,ajo]);simp only[amw,bY,cx,b1,ajP f.h,I,O,qi f.h,aq];rfl
end
def rz {f:Type} (tt:bm (bF×ah)) (j:bm (X×aG)) (i:X) (h:bF) (m a:ak) (g:cI->bv f):bv f:=
 match m with
 |.ref id c=>match ar j id with
  |some b=>match kZ tt h,a with
   |some l,.val (.int .i64) a=>match fm b.1 c with
    |some (
     .mp t)=>match l8 t with
     |some e=>bif a7 l t then
      (hY b.1 b.2 c (.mp t)).bind λd=>(xJ (α:=t.den) d a ((mu d a).getD e)).bind λk=>(my b.1 b.2 c (.mp t) k).bind λn=>
       g ⟨Y (i,.fe [.val t ((mu (α:=t.den) d a).getD e),.ent id c a]),[id],[(id,c++[.deref])],[(id,⟨b.1,n⟩)]⟩
      else bo
     |none=>bo
    |_=>bo
   |_,_=>bo
  |none=>bo
 |_=>bo
def rh {b:Type} (tt:bm (bF×ah)) (e:bm (X×aG)) (d:bF) (k i j:ak) (c:cI->bv b):bv b:=
 match k,i with
 |.ref id a,.ent f h g=>bif bH f id&&l3 h a then om tt e d (.ref id a) (.val (.int .i64) g) j c else bo
 |_,_=>bo
theorem fa.kW:∀{p:bm aZ} {τ:ah} {e g:τ.den} {d:ah} {f:d.den},fa τ e p d f g->eN τ g p d f
 |[],τ,e,g,d,f,c=>by grind [eN.gv,fa.gv]
 |s::p,τ,e,g,d,f,c=>by
  cases τ<;>cases s<;>simp only[fa] at c
  case osl.idx t i=>
   obtain⟨l,h,j,c,rfl⟩:=c;have k:i<e.length:=(hH.1 j).1;exact⟨h,by rw[List.getElem?_set_self k],fa.kW (p:=p) c⟩
  case optr.deref t=>exact fa.kW (p:=p) (τ:=t) c
  case st.unst t=>exact fa.kW (p:=p) (τ:=t) c
  case pr.fst a b=>obtain⟨h,c,rfl⟩:=c;exact fa.kW (p:=p) c
  case pr.snd a b=>obtain⟨h,c,rfl⟩:=c;exact fa.kW (p:=p) c
def Ny:∀a:bm aZ,g8 (a++[.deref]) a=bp
 |[]=>rfl
 |s::a=>by cases s<;>exact Ny a
theorem WA (id:X) (a:bm aZ):fG [id] [(id,a++[.deref])] (.ref id a)=.ref id a:=by
 have:k0 [(id,a++[.deref])] (.ref id a)=bp:=by
  cases a with
  |nil=>simp[k0]
  |cons b a=>
   have:=Ny (b::a);simp_all [List.any_cons,List.any_nil,Bool.or_false,aka,ake,k0]
 show fc _ _ _=_;unfold fc;rw[show ka [id] [(id,a++[.deref])] (.ref id a)=k0 [(id,a++[.deref])] (.ref id a) from rfl,this];simp
def aa3 {id:X} (a:aT T n=.ref id j):aT (aiz [id] [(id,j++[.deref])] T) n=.ref id j:=by
 cases n with
 |tmp c=>
  have a:gt T c=.ref id j:=a;have b:=p6 [id] [(id,j++[aZ.deref])] T c;rw[a] at b;exact b.trans (WA id j)
 |const d=>exact absurd a (by cases d<;>simp[aT])
 |global T=>cases a
 |func e=>cases a
section
variable {E:fA} {C:eY} {st:aO} {o:bR} {Q:aO->Prop}
theorem Xx {a:Act} (k:cN C i a.tmps v O x y) {id:X} (q:aT i.g N=.ref id j) (d:ar i.h id=Y P) {t:ah} {G:bm (Z×t.den)} (w:eN P.1 P.2 j (.mp t) (Y (G,m))) {b:X} (E:a.eval N=.map (Y b)) {f:bU cm} (A:v.heap[b]?=Y (.map f m)) {F:X} {c:cm} (z:f[F]?=Y c) {n:Z} (s:c.key=.int .i64 n):cP (bb O C.B) v i.h x y (.ent id j n) (.int .i64 (c.born:Z)):=by
 have e:=k.aT (a:=a) N;rw[q,E] at e;generalize M:ajK (Y b)=T at e;cases e with|ref o l=>
 rename_i S U R J;rw[d] at o;obtain rfl:=gC o;obtain⟨rfl,L,D,_,u⟩:=k.kW d w l;rcases D.IJ with⟨c,_⟩|⟨p,Q,I,K,H,_,rfl,rfl,_⟩
 ·cases c
 have r:b=p:=(by grind [cW]);subst r;exact .ent d l (u b ac) (nI.2 A) z s
theorem Xy {an:Type} {V:an} {x:cI->bv an} {m:bO} (dl:o.op=.mapEntry r m N) (bx:o.dst=Y a) (bs:C.ok a) (d:rz E.tt st.h a r (aT st.g m) (aT st.g N) x=Y V):e0 E C o st (λv=>∃D,x D=Y V/\v=D.app st):=by
 rintro j w ⟨p,ge,f5,q⟩ next f4 c2
 have s:=q.aT m;have e:=q.aT N;unfold rz at d;split at d
 case h_2=>cases d
 rename_i id d6 G;split at d
 case h_2=>cases d
 rename_i ap Q;split at d
 case h_2=>cases d
 rename_i fp n bl a3;obtain⟨f2,a0,ex,fl,fn⟩:=kZ.ok bl;split at d
 case h_2=>cases d
 rename_i t d1;split at d
 case h_2=>cases d
 rename_i fs d2;cases M:a7 fp t with
 |false=>grind
 |true=>
 rw[M] at d;simp only[bG] at d;obtain⟨d5,co,f⟩:=eO.1 d;obtain⟨gc,k,i⟩:=eO.1 f;obtain⟨am,T,H⟩:=eO.1 i;clear d f i;cases d5 with
 |none=>cases k
 |some d7=>
 obtain⟨l,c⟩:=d7;rw[G] at s;rw[a3] at e;generalize S:j.eval m=gi at s;generalize cv:j.eval N=f9 at e;cases e with|val em=>
 obtain⟨_,rfl⟩:=em;cases s with|ref R O=>
 rw[Q] at R;cases R;obtain⟨b,A,L,rfl,f6,J,I,ci⟩:=q.Ex Q O (iK co);have:=O.ty;rw[d1] at this;cases this;obtain⟨f8,f1,ft,fz,fT,f0⟩:=vS (fn.lay M) d2;have d3:∀w,(aix a0).run E.P w=.ok (cW t f1.cells.toList) w:=λw=>(by rw[<-fT];simp[aix,aiM,ft,fz]);have U:=f0 (bb p C.B) w;obtain⟨F,f3,z,v,f7,aw,d8,d9,ek,el⟩:=I.entry (P:=E.P) ex fl n U.len U d3;have c1:mu (α:=t.den) (Y (l,c)) n=gb l n:=rfl;rw[c1] at k H;simp only[xJ,eS] at k;subst k;generalize(bif (gb l n).isSome then c else c+1)=y at*;generalize(gb l n).getD fs=ad at*;obtain⟨eq,a4,K⟩:=ci (ek (λu N e=>⟨e,J u N e⟩)) el (m2 T);have d0:(bN j.eval o).run E.P w=.ok (.value (.tuple #[cW t z,goInt ((v:X):Z)])) (gP w b F y):=(by simp only[bN,dl,S,cv,bY];have this:∀t:ah,cW (.mp t) [ajK (Y b)]=.map (Y b):=λ_=>rfl;rw[this,show cW (.int .i64) [aiu .i64 n]=.int .i64 n from rfl,aw];rfl);unfold ais;rw[d0];show next (j.put o.dst _) _
 rw[bx];have cs:ar ((id,(⟨ap.1,am⟩:aG))::del [id] st.h) id=Y ⟨ap.1,am⟩:=(by rw[ey,au bn]);have ds:aS (bb p C.B) (gP w b F y) t z ad []:=d8.mono (λu N e=>⟨e,Fp (J u N e)⟩) ac;have ce:=Xx K (aa3 G) cs (fa.kW (m2 T)) S (oy I.h) d9 (n:=n) rfl;refine c2 _ _ _ ⟨_,H,?_⟩ rfl ⟨p,eq,a4,K.put bs (av:=.fe [.val t ad,.ent id d6 n]) ?_⟩
 ·rfl
 refine .fe bn (λd4 av gf f i=>?_)
 match d4 with
 |0=>simp at f i;subst f;subst i;exact .val ds
 |1=>simp at f i;subst f;subst i;exact ce
 |n+2=>grind
theorem UT {M:Type} {J:M} {u:cI->bv M} {i:bO} (fp:o.op=.entryStore r i n N) (a0:o.dst=bo) (a:rh E.tt st.h r (aT st.g i) (aT st.g n) (aT st.g N) u=Y J):e0 E C o st (λn=>∃v,u v=Y J/\n=v.app st):=by
 rintro d w ⟨O,f1,ex,e⟩ next eq ce
 have s:=e.aT i;have m:=e.aT n;have q:=e.aT N;unfold rh at a;split at a
 case h_2=>cases a
 rename_i id d1 c1 d2 d0 U S;cases f:(bH c1 id&&l3 d2 d1) with
 |false=>grind
 |true=>
 rw[f] at a;rw[bk] at f;obtain rfl:=fu f.1;obtain rfl:=l3.ok f.2;simp only[bG] at a;unfold om at a;simp only at a;split at a
 case h_2=>cases a
 rename_i gc p;split at a
 case h_2=>cases a
 rename_i d9 f0 f9 f7 ap y T;simp only[ak.val.injEq,heq_eq_eq,ajF] at y;subst y;obtain⟨ek,em,d7,d8,f3⟩:=kZ.ok ap;split at a
 case h_2=>cases a
 rename_i t co;cases av:a7 d9 t with
 |false=>grind
 |true=>
 rw[av] at a;simp only[bG] at a;split at a
 case h_2=>cases a
 rename_i f6 cs;obtain⟨ds,a4,z⟩:=eO.1 a;obtain⟨fT,j,B⟩:=eO.1 z;obtain⟨f8,cv,ad⟩:=eO.1 B;clear a z B;cases ds with
 |none=>cases j
 |some d3=>
 obtain⟨l,c⟩:=d3;cases j7 cs;rw[U] at s;rw[S] at m;rw[T] at q;generalize fz:d.eval i=f5 at s;generalize fs:d.eval n=f2 at m;generalize ft:d.eval N=f4 at q;cases q with|val K=>
 cases m with|ent I bx fl G bl bs=>
 rw[p] at I;cases I;cases s with|ref H k=>
 rw[p] at H;cases H;obtain⟨b,A,L,rfl,fn,am,D,a3⟩:=e.Ex p k (iK a4);have:=k.ty;rw[co] at this;cases this;obtain⟨aq,_,x⟩:=k.lw bx;simp only[hN,Value.map.injEq,eS,b9] at x;subst x;rw[nI.2 D.h] at G;cases G;obtain⟨R,el,aw,d4,d5⟩:=D.UO (P:=E.P) bl bs d7 d8 K.len K;simp only[xJ,eS] at j;subst j;generalize(bif (gb l d0).isSome then c else c+1)=Q at*;obtain⟨d6,V,an⟩:=a3 (d4 (λdl c2 F=>⟨F,am dl c2 F⟩)) d5 (m2 cv);unfold ais;have ci:(bN d.eval o).run E.P w=.ok .skip (gP w b R Q):=(by have this:∀t:ah,cW (.mp t) [ajK (Y b)]=.map (Y b):=λ_=>rfl;simp_all [bY,bN]);rw[ci];show next (d.put o.dst bW) _
 rw[a0];refine ce _ _ _ ⟨_,ad,?_⟩ rfl ⟨O,d6,V,an⟩;rfl
end
end
section
structure SO where
 c:Code
 n:X
 pin:bv aie
 ds:aie
 α:Type
 f:aO->bv α
 g:aO->α->aO
structure gR where
 tt:bm (bF×ah)
 Fx:bm (X×jw)
 an:bm (X×ah)
 n:X
 pin:aie
 kg:bm (X×ak)
 p4:aig
 ada:bv ec
 aB:ah7
 ah4:bm SO
 u0:bm tZ
 eq:ah7
def yp (b:b0) (c:bF):Prop:=∃a e d,b.info? c=Y a/\a.size=1/\a.zero=Y e/\e.cells.size=1/\b.underlying c=Y d/\(match d with|.struct _|.array _ _=>bp|_=>bq)=bq
def z5:bm hl->bm ak->bA
 |.c d _::a,.eB b _::as=>bH b d&&z5 a as
 |.c _ _::_,_=>bq
 |_::a,_::as=>z5 a as
 |_,_=>bp
def sZ:bm (X×jw)->X->bm ak->bv jw
 |[],_,_=>bo
 |(k,F)::l,f,as=>bif bH k f&&(z5 F.ps as&&(ju 0 F.ps).isNone) then Y F else sZ l f as
theorem Ir:∀{e:bm (X×jw)} {c:X} {as:bm ak} {b:jw},sZ e c as=Y b->∃d,(d,b)∈e
 |[],_,_,_,a=>by cases a
 |(d,G)::e,c,as,b,a=>by
  simp only[sZ] at a;cases f:(bH d c&&(z5 G.ps as&&(ju 0 G.ps).isNone)) with
  |true=>grind
  |false=>
   rw[f] at a;obtain⟨h,g⟩:=Ir a;grind
theorem Is:∀{d:bm (X×jw)} {c:X} {as:bm ak} {b:jw},sZ d c as=Y b->ju 0 b.ps=bo
 |[],_,_,_,a=>by cases a
 |(k,G)::d,c,as,b,a=>by
  simp only[sZ] at a;cases e:(bH k c&&(z5 G.ps as&&(ju 0 G.ps).isNone)) with
  |true=>
   simp_all
  |false=>
   rw[e] at a;exact Is a
def uR (ic:gR) (a:ni) (b:a.den):aO:=⟨ic.kg++ob a.g b,uQ a.h (uS a.g b)⟩
def gw (b:X) (c:aie) (a:X):bA:=ca a b&&!(eQ a c)
def aq (ic:gR) {A:Type} (a:bO->ak) (g:bm (X×aG)) (r:bR) (c:cI->bv A):bv A:=
 match r.dst with
 |none=>match r.op with
  |.store d e v=>rM ic.tt g d (a e) (a v) c
  |.mapUpdate d e o v=>om ic.tt g d (a e) (a o) (a v) c
  |.insert d e o v=>om ic.tt g d (a e) (a o) (a v) c
  |.entryStore d e F v=>rh ic.tt g d (a e) (a F) (a v) c
  |.call {callee:=.builtin .delete,args:=xs,argTypes:=s}=>match xs.toList,s.toList with
   |[e,o],[d,_]=>ry ic.tt g d (a e) (a o) c
   |_,_=>bo
  |_=>bo
 |some b=>
  bif gw ic.n ic.pin b then
  match r.op with
  |.pick y e i=>match a y with
   |.val .bool j=>(match a e,a i with
    |.val k u,.val H v=>match hX (τ:=H) k v with
     |some v=>c ⟨Y (b,.val k (bif j then u else v)),[],[],[]⟩
     |none=>bo
    |u,v=>match j with
     |true=>c ⟨Y (b,u),[],[],[]⟩
     |false=>c ⟨Y (b,v),[],[],[]⟩)
   |_=>bo
  |.call {callee:=.value z,args:=xs,argTypes:=_}=>match a z with
   |.eB l m=>
    match sZ ic.Fx l (xs.toList.map a++m) with
    |none=>bo
    |some h=>bif bH h.f l then
     j9 g (rN (xs.toList.map a++m) h.ps) h.ps (xs.toList.map a++m) λq=>(h.x4 q).bind λj=>bif nv b ⟨[],g⟩ (xs.toList.map a++m) (gF h.ps q j) (iT h.rs (ik h.ps j)) then
      c ⟨Y (b,vy b (iT h.rs (ik h.ps j))),gn (xs.toList.map a++m) (gF h.ps q j),xx (mr (xs.toList.map a++m) (gF h.ps q j)),j0 (xs.toList.map a++m) (gF h.ps q j)++iU b (iR (iT h.rs (ik h.ps j))) 0 (iT h.rs (ik h.ps j))⟩ else bo
     else bo
   |_=>bo
  |.call {callee:=.builtin .append,args:=xs,argTypes:=s}=>match xs.toList,s.toList with
   |[e,i],[d,x]=>bif bH d x then n8 ic.tt ic.an g b d (a e) (a i) c else bo
   |_,_=>bo
  |.call {callee:=.builtin .copy,args:=xs,argTypes:=s}=>match xs.toList,s.toList with
   |[e,i],[d,_]=>qX ic.tt g b d (a e) (a i) c
   |_,_=>bo
  |.assign e=>match a e with
   |.val k i=>c ⟨Y (b,.val k i),[],[],[]⟩
   |.eB l m=>c ⟨Y (b,.eB l m),[],[],[]⟩
   |.addr id E=>c ⟨Y (b,.addr id E),[],[],[]⟩
   |.dh v=>match ar ic.an b with
    |none=>c ⟨Y (b,.dh v),[],[],[]⟩
    |some k=>match k.pure&&pT k v with
     |true=>(iJ k v.cells.toList).bind λi=>c ⟨Y (b,.val k i),[],[],[]⟩
     |false=>(pN ic.an g b (.dh v)).bind c
   |v=>(pN ic.an g b v).bind c
  |.build d w=>sn ic.tt ic.an g a b d w.toList c
  |.mapEntry d e o=>rz ic.tt g b d (a e) (a o) c
  |.box d e=>uf ic.tt ic.an g b d (a e) c
  |.buildSlice d C w=>sp ic.tt ic.an g a b d C w.toList c
  |_=>match kw ic.tt ic.an g a b r.op with
   |.e4 t=>c ⟨Y (b,t),[],[],[]⟩
   |.opt _ i l=>i.bind λp=>c ⟨Y (b,l p),[],[],[]⟩
   |.new _ i G B=>bif bH B b then i.bind λp=>c ⟨Y (b,.ref b []),[],[],[(b,G p)]⟩ else bo
   |.no=>match g3 ic.tt ic.an g a b r.op with
    |.e4 t D=>c ⟨Y (b,t),[],[],D⟩
    |.part _ I l=>(pick I).bind λp=>c ⟨Y (b,(l p).1),[],[],(l p).2⟩
    |.bad=>bo
  else bo
def nw (b:bm (X×aG)) (a:aie):bA:=a.all λid=>match ar b id with|some c=>HQ c.1|none=>bq
def jU (ic:gR) {A:Type} (e:bO->ak) (b:bm (X×aG)) (c:bR) (f:cI->bv A):bv A:=
 match mm ic.p4 (uY c) e (rP c.op) with
 |[]=>aq ic e b c f
 |F=>bif nw b F then aq ic (λh=>iz b F (e h)) (del F b) c λa=>bif a.keep.all (λg=>!eQ g.1 F) then f ⟨a.d,F++a.S,a.keep,a.put⟩ else bo else bo
def oj:hl->bA
 |.m _=>bp
 |_=>bq
def J2 (ic:gR) (a:bO->ak) (e:bR):bv (X×bm aZ):=match e.op with
 |.call {callee:=.value z,args:=xs,argTypes:=_}=>match a z with
  |.eB d b=>match sZ ic.Fx d (xs.toList.map a++b) with
   |some c=>tw (xs.toList.map a++b) (c.ps.map oj)
   |none=>bo
  |_=>bo
 |_=>bo
def Hr (ic:gR) {A:Type} (id:X) (k:aZ) (j:bm aZ) (c:bO->ak) (l:bm (X×aG)) (p:bR) (r:cI->bv A):bv A:=
 match p.dst with
 |none=>bo
 |some g=>
  bif gw ic.n ic.pin g then
  match p.op with
  |.call {callee:=.value m,args:=xs,argTypes:=_}=>match c m with
   |.eB o d=>
    match sZ ic.Fx o (xs.toList.map c++d) with
    |none=>bo
    |some a=>
     bif bH a.f o then
     match ar l id with
     |none=>bo
     |some h=>match fm h.1 (k::j) with
      |none=>bo
      |some i=>match hY h.1 h.2 (k::j) i with
       |none=>bo
       |some q=>
        match fL ((id,⟨i,q⟩)::del [id] l) (rN (mC id (xs.toList.map c++d) (a.ps.map oj)) a.ps) a.ps (mC id (xs.toList.map c++d) (a.ps.map oj)) with
        |none=>bo
        |some e=>(a.x4 e).bind λb=>bif nv g ⟨[],(id,⟨i,q⟩)::del [id] l⟩ (mC id (xs.toList.map c++d) (a.ps.map oj)) (gF a.ps e b) (iT a.rs (ik a.ps b))&&(eQ id (gn (mC id (xs.toList.map c++d) (a.ps.map oj)) (gF a.ps e b))&&eQ id (mr (mC id (xs.toList.map c++d) (a.ps.map oj)) (gF a.ps e b))) then
         match ar (j0 (mC id (xs.toList.map c++d) (a.ps.map oj)) (gF a.ps e b)++iU g (iR (iT a.rs (ik a.ps b))) 0 (iT a.rs (ik a.ps b))) id with
         |none=>bo
         |some s=>match hX i s.2 with
          |none=>bo
          |some t=>(my h.1 h.2 (k::j) i t).bind λm=>
           r ⟨Y (g,vy g (iT a.rs (ik a.ps b))),gn (mC id (xs.toList.map c++d) (a.ps.map oj)) (gF a.ps e b),(id,k::j)::xx (mr (mC id (xs.toList.map c++d) (a.ps.map oj)) (gF a.ps e b)),(id,⟨h.1,m⟩)::(j0 (mC id (xs.toList.map c++d) (a.ps.map oj)) (gF a.ps e b)++iU g (iR (iT a.rs (ik a.ps b))) 0 (iT a.rs (ik a.ps b)))⟩
         else bo
     else bo
   |_=>bo
  |_=>bo
  else bo
def IS (ic:gR) (b:bO->ak) (c:bR):bv ep:=match c.dst,c.op with
 |some a,.binOp .eql d e g _=>match gZ ic.tt d,b e,b g with
  |some _,.val (.a2 _ h) f,.dh (.slice bo 0 0)=>bif gw ic.n ic.pin a then Y (a,aiq (α:=h.den) f) else bo
  |_,_,_=>bo
 |_,_=>bo
def Nw (tt:bm (bF×ah)) (a:bF):bA:=match ar tt a with|some (.ptr _ _)=>bp|_=>bq
def IR (b:bm (X×aG)):ak->bv bA
 |.val (.ptr _ a) d=>Y (Option.isNone (α:=a.den) d)
 |.ref id c=>match ar b id with
  |some a=>match fm a.1 c with
   |some (.optr _)=>Y bq
   |_=>bo
  |none=>bo
 |_=>bo
def z6:ah->bA
 |.nil=>bp
 |.pr (.int _) a=>z6 a
 |_=>bq
def sM:(a:ah)->a.den->a.den->bA
 |.pr (.int _) d,b,c=>((b.1:Z)==(c.1:Z))&&sM d b.2 c.2
 |_,_,_=>bp
def DO (ic:gR) (e:bO->ak) (f:bR):bv (X×bA):=match f.dst,f.op with
 |some d,.binOp .eql c i j _=>match ar ic.tt c,e i,e j with
  |some h,.val (.st a) g,.val k b=>bif eQ c ic.eq&&(z6 a&&(a7 h (.st a)&&gw ic.n ic.pin d)) then(hX (τ:=k) (.st a) b).map λb=>(d,sM a g b) else bo
  |_,_,_=>bo
 |_,_=>bo
def AR (ic:gR) (c:bO->ak) (f:bm (X×aG)) (d:bR):bv (X×bA):=match d.dst,d.op with
 |some a,.binOp g e h i _=>match Nw ic.tt e,IR f (c h),c i with
  |true,Y b,.dh (.pointer bo)=>bif gw ic.n ic.pin a then(match g with
   |.eql=>Y (a,b)
   |.neq=>Y (a,!b)
   |_=>bo) else bo
  |_,_,_=>bo
 |_,_=>bo
def J8 (ic:gR) (f:bO->ak) (d:bR):bv (X×tZ×Z):=match d.dst,d.op with
 |some c,.indexAddr e (.global h) g=>match ic.u0.find? (λa=>bH a.b h&&bH a.T e),f g with
  |some a,.val (.int _) i=>bif gw ic.n ic.pin c then Y (c,a,i) else bo
  |_,_=>bo
 |_,_=>bo
def i1 (ic:gR) {A:Type} (a:aO) (b:bR) (c:aO->bv A):bv A:=
 match J8 ic (aT a.g) b with
 |some (d,i,f)=>(ao i.xs f).bind λn=>c ⟨(d,.val (.ptr .bg (.int i.k)) (Y n))::a.g,a.h⟩
 |none=>match(AR ic (aT a.g) a.h b).or (DO ic (aT a.g) b) with
 |some (d,j)=>c ⟨(d,.val .bool j)::a.g,a.h⟩
 |none=>match IS ic (aT a.g) b with
 |some (d,f)=>rB f (c ⟨(d,.val .bool bp)::a.g,a.h⟩) (c ⟨(d,.val .bool bq)::a.g,a.h⟩)
 |none=>match J2 ic (aT a.g) b with
  |some (id,m::l)=>Hr ic id m l (aT a.g) a.h b λe=>c (e.app a)
  |_=>jU ic (aT a.g) a.h b λe=>c (e.app a)
def kX (ic:gR) {A:Type} (c:bU bR):aie->aO->(aO->bv A)->bv A
 |[],a,b=>b a
 |i::e,a,b=>match c[i]? with
  |none=>bo
  |some f=>match f.guard with
   |none=>i1 ic a f λk=>kX ic c e k b
   |some (
    l,tA)=>match(c[l]?).bind (·.dst),f.dst with
    |some j,Y d=>match gt a.g j with
     |.val .bool m=>bif gw ic.n ic.pin d then
      (match m==tA with
      |true=>i1 ic ⟨(j,.val .bool tA)::a.g,a.h⟩ f λk=>kX ic c e k b
      |false=>kX ic c e ⟨(d,.dh bW)::(j,.val .bool (!tA))::a.g,a.h⟩ b) else bo
     |.dh (.tuple _)=>bif gw ic.n ic.pin d then kX ic c e ⟨(d,.dh bW)::a.g,a.h⟩ b else bo
     |_=>bo
    |_,_=>bo
section
variable {E:fA} {C:eY} {ic:gR} {A:Type}
def gR.ae (E:fA) (C:eY) (ic:gR):Prop:=ic.tt=E.tt/\ic.n=C.n/\ic.pin=C.pin/\((∀b∈ic.Fx,aC E b.2)/\tY C ic.ada/\(∀a∈ic.aB,yp E.P a)/\lg E C.I0 C.w0/\ic.u0=E.glob/\ic.eq=E.eqs)/\po C ic.kg
theorem gw.ok (b:ic.ae E C) {d:X} (a:gw ic.n ic.pin d=bp):C.ok d:=by obtain⟨_,c,e,_,_⟩:=b;rw[c,e] at a;simp only[gw,bk] at a;exact⟨gS a.1,λf=>by grind [ha]⟩
def gI.same {e:ah6} {d:aO} (l:∀b,gt d.g b=gt i.g b) (c:d.h=i.h) (k:gI C i e v):gI C d e v:=by obtain⟨f,m,j,a⟩:=k;exact⟨f,m,j,{a with tree:=by rw[c];exact a.tree,dis:=by rw[c];exact a.dis,tmp:=λb=>by rw[c,l];exact a.tmp b}⟩
def ia.same {f:bU bR} {e:aie} {a b:aO} {c:aO->Prop} (l:∀d,gt b.g d=gt a.g d) (m:b.h=a.h) (j:ia E C f e b c):ia E C f e a c:=
 λi n k=>j i n (k.same l m)
def cI.Lh {b:bm (X×bm aZ)}:(cI.mk (Y (a,d)) f b e).app i=⟨(a,d)::aiz f b i.g,e++del f i.h⟩:=by show aO.mk ((a,d)::nG f b i.g) (e++q8 f i.h)=_;rw[sW,xe]
theorem Ms (L:ic.ae E C) {l:bR} {st:aO} {o:cI->bv A} {s:A} (a:aq ic (aT st.g) st.h l o=Y s):e0 E C l st (λv=>∃c,o c=Y s/\v=c.app st):=by
 obtain⟨B,d9,ek,ds,_⟩:=id L;unfold aq at a;split at a
 ·rename_i i;split at a
  ·grind [adq,adp]
  ·grind [Ot]
  ·rename_i p b ad ap e;rw[B] at a;exact Ot (.inr e) i a
  ·grind [UT]
  ·rename_i x H e;split at a
   case h_2=>cases a
   rename_i b ad p a3 aq S;rw[B] at a;obtain rfl:x=#[b,ad]:=(by grind);obtain rfl:H=#[p,a3]:=(by grind);grind [Xq]
  grind
 rename_i z i;cases U:gw ic.n ic.pin z with
 |false=>grind
 |true=>
 rw[U] at a;have j:=gw.ok L U;simp only[bG] at a;split at a
 ·rename_i d6 b m e;split at a
  case h_2=>cases a
  rename_i q K;have d7:∀y,(q=bp->y=aT st.g b)->(q=bq->y=aT st.g m)->o ⟨Y (z,y),[],[],[]⟩=Y s->e0 E C l st (λv=>∃c,o c=Y s/\v=c.app st):=by
   clear a;intro y ce ci u;refine ai4 (an:=ic.an) i j ?_;rw[e];simp only[g3,E0,K];refine⟨q,bn,_,u,?_⟩;cases q
   ·rw[ci bn];rfl
   rw[ce bn];rfl
  split at a
  ·rename_i d5 fn fs ap el V;split at a
   case h_2=>cases a
   rename_i d4 d0;cases j7 d0;grind
  grind
 ·rename_i fp x _ e;split at a
  case h_2=>cases a
  rename_i J am d2;split at a
  ·cases a
  rename_i I co;cases r:bH I.f J with
  |false=>grind
  |true=>
  rw[r] at a;obtain rfl:=fu r;simp only[bG,nC] at a;obtain⟨d,d8,a⟩:=eO.1 a;obtain⟨q,dl,a⟩:=eO.1 a;cases K:nv z ⟨[],st.h⟩ (x.toList.map (aT st.g)++am) (gF I.ps d q) (iT I.rs (ik I.ps q)) with
  |false=>grind
  |true=>
  rw[K] at a;obtain⟨em,c2⟩:=Ir co;obtain⟨cv,c1⟩:=ds.1 _ c2;refine e0.call e d2 i j cv (c1 d q dl) (by grind [Is,A8]) L.2.2.2.2.1 L.2.2.2.1.2.2.2.1 ?_ K ⟨_,a,?_⟩
  ·grind [p5,Ka]
  rw[cI.Lh];rfl
 ·rename_i x H e;split at a
  case h_2=>cases a
  rename_i b m p N aq S;cases r:bH p N with
  |false=>grind
  |true=>
  rw[r] at a;obtain rfl:=fu r;have bl:x=#[b,m]:=(by grind);have bs:H=#[p,p]:=(by grind);grind [Td]
 ·rename_i x H e;split at a
  case h_2=>cases a
  rename_i b m p N aq S;have bl:x=#[b,m]:=(by grind);have bs:H=#[p,N]:=(by grind);grind [e0.copy]
 ·rename_i b e;have O:H9 (aT st.g b)=bp->o ⟨Y (z,aT st.g b),[],[],[]⟩=Y s->e0 E C l st (λv=>∃c,o c=Y s/\v=c.app st):=λV u=>by
   refine ai4 (an:=ic.an) i j ?_;rw[e];simp only[g3,V,bG];exact⟨_,u,bn⟩
  have as:(pN ic.an st.h z (aT st.g b)).bind o=Y s->e0 E C l st (λv=>∃c,o c=Y s/\v=c.app st):=λu=>(by obtain⟨c,cs,u⟩:=eO.1 u;exact e0.Tk e i j (Tl cs ⟨c,u,bn⟩));split at a
  ·rename_i d5 m t;exact O (by rw[t];rfl) (by grind)
  ·rename_i J am t;exact O (by rw[t];rfl) (by grind)
  ·rename_i id ex t;rintro d w ⟨a0,d3,bx,D⟩ next a4 Q
   have M:=D.aT b;have R:(bN d.eval l).run E.P w=.ok (.value (d.eval b)) w:=(by simp[bN,e]);unfold ais;rw[R];show next (d.put l.dst (d.eval b)) w
   rw[i];refine Q _ _ _ ⟨_,a,bn⟩ rfl ⟨_,_,_,D.put j ?_⟩;grind
  ·rename_i ap t;split at a
   ·exact O (by rw[t];rfl) (by grind)
   split at a
   ·rename_i T;simp only[bk] at T;obtain⟨m,d1,a⟩:=eO.1 a;rintro d w ⟨a0,d3,bx,D⟩ next a4 Q
    have M:=D.aT b;have R:(bN d.eval l).run E.P w=.ok (.value (d.eval b)) w:=(by simp[bN,e]);unfold ais;rw[R];show next (d.put l.dst (d.eval b)) w
    rw[i];refine Q _ _ _ ⟨_,a,bn⟩ rfl ⟨_,_,_,D.put j ?_⟩;rw[t] at M;generalize d.eval b=d4 at M;cases M;rw[<-pT.ok T.2];exact .val (pS d1)
   grind
  grind
 ·grind [Ty]
 ·grind [Xy]
 ·grind [TB]
 ·grind [TF]
 split at a
 ·rename_i y k;refine ai4 (an:=ic.an) i j ?_;rw[<-B];exact Hz (by rw[k];exact⟨_,a,bn⟩)
 ·rename_i av m J k;refine ai4 (an:=ic.an) i j ?_;rw[<-B];obtain⟨G,F,a⟩:=eO.1 a;exact Hz (by rw[k];exact⟨G,F,_,a,bn⟩)
 ·rename_i av m fl c k;cases r:bH c z with
  |false=>grind
  |true=>
  rw[r] at a;obtain rfl:=fu r;obtain⟨G,F,a⟩:=eO.1 a;refine ai4 (an:=ic.an) i j ?_;rw[<-B];exact Hz (by rw[k];exact⟨G,F,_,a,bn⟩)
 refine ai4 (an:=ic.an) i j ?_;rw[B] at a;split at a
 ·rename_i y eq k;rw[k];exact⟨_,a,bn⟩
 ·rename_i av ft J k;rw[k];obtain⟨G,F,a⟩:=eO.1 a;exact⟨G,abr F,_,a,bn⟩
 grind
theorem e0.mono {P:aO->Prop} (e:e0 E C h i P) (j:∀a,P a->u a):e0 E C h i u:=
 λc l f next b g=>e c l f next b (λa d m k=>g a d m (j a k))
theorem acC (b:k0 g d=bp):∃id,d.ids=[id]/\∃a∈g,a.1=id:=by
 have e:∀(id:X) (f:X×bm aZ->bA),(g.any λa=>bH a.1 id&&f a)=bp->∃a∈g,a.1=id:=(by intro id f k;obtain⟨a,h,i⟩:=pp.1 k;simp only[bk] at i;grind [ai0]);cases d with
 |ref id c=>
  cases c with
  |nil=>
   obtain⟨a,h,j⟩:=pp.1 (show(g.any λa=>bH a.1 id)=bp from b);exact⟨id,bn,a,h,fu j⟩
  |cons n c=>exact⟨id,bn,e id _ b⟩
 |addr id c=>exact⟨id,bn,e id _ b⟩
 |view id c m l=>exact⟨id,bn,e id _ b⟩
 |_=>cases b
theorem FD:d.fo (f++w)=(d.fo f||d.fo w):=by simp only[aiv];rw[vV];simp only[pp,je];grind [ha,amx,akR]
theorem LW {b:bm ak}:(ak.eB a b).fo f=b.any λc=>c.fo f:=by
 show(ajd b).any _=_
 induction b with
 |nil=>rfl
 |cons c b d=>grind [ajd,aiv]
theorem Qt (b:d.fo w=bq):ka (w++f) g d=ka f g d:=by
 cases d with
 |eB m p=>
  rw[LW,tL] at b;rw[vV];simp only[ka,g0];constructor<;>intro i e h<;>have:=i e h<;>rw[FD,Bool.eq_false_iff.2 (b e h)] at*<;>simpa using this
 |app id q s r c=>
  have j:=Kp b;have o:∀a∈c,eQ a (w++f)=eQ a f:=λa k=>(by have n:a∉w:=j a (hW _ k);rw[vV,ha,ha,h9];grind);have l:(c.all λa=>!(eQ a (w++f)))=c.all λa=>!(eQ a f):=(by grind);grind [ka]
 |_=>rfl
theorem Wu {F S:aie} {keep:bm (X×bm aZ)} {a:ak}:fc (F++S) keep a=.dead\/(a.fo F=bq/\fc (F++S) keep a=fc S keep a)\/(ka (F++S) keep a=bp/\fc (F++S) keep a=a):=by grind [Qt,FD,ka,fc]
theorem nw.ok (b:nw e f=bp):∀id∈f,∃a,ar e id=Y a/\HQ a.1=bp:=by intro id c;have:=g0.1 b id c;grind
theorem Mu (bx:ic.ae E C) {L:bR} {O:cI->bv A} {am:A} (e:jU ic (aT i.g) i.h L O=Y am):e0 E C L i (λN=>∃b,O b=Y am/\N=b.app i):=by
 unfold jU at e;split at e
 ·grind [Ms]
 generalize mm ic.p4 (uY L) (aT i.g) (rP L.op)=c at e;cases T:nw i.h c with
 |false=>grind
 |true=>
 rw[T] at e;simp only[bG] at e;rw[<-VM c i] at e;have m:=Ms (st:=sR c i) bx e;intro j c1 M next an ci
 obtain⟨dl,d6,ds,M⟩:=M;refine m j c1 (M.freeze (nw.ok T)) next an (λd7 ap c2 cs bl a0=>?_)
 obtain⟨b,U,rfl⟩:=cs;cases V:b.keep.all (λl=>!eQ l.1 c) with
 |false=>grind
 |true=>
 rw[V] at U;have V:∀l∈b.keep,l.1∉c:=λl q ce=>(by grind [ha,ajm]);refine ci _ ap c2 ⟨_,U,bn⟩ bl (a0.NO ?_ ?_)
 ·intro B;have r:∀j:ak,fc (c++b.S) b.keep j=.dead\/fc (c++b.S) b.keep j=fc b.S b.keep (gX i.h c j):=by
   intro j;rcases Wu (F:=c) (S:=b.S) (keep:=b.keep) (a:=j) with e|⟨m,y⟩|⟨m,y⟩
   ·grind
   ·right;rw[y];rcases ml i.h c j with⟨id,p,rfl,cv,_⟩|⟨_,o⟩|⟨o,_⟩
    ·grind [ha,aiv,bT]
    ·grind
    grind
   have co:∀(id:X),(∃k∈b.keep,k.1=id)->eQ id c=bq:=λid ⟨k,z,b⟩=>(by grind);have u:ka (c++b.S) b.keep j=ka b.S b.keep j->∀(id:X),j.ids=[id]->(∃k∈b.keep,k.1=id)->fc (c++b.S) b.keep j=.dead\/fc (c++b.S) b.keep j=fc b.S b.keep (gX i.h c j):=by
    intro d1 id d3 z;have ad:j.fo c=bq:=(by grind [aiv]);right;rcases ml i.h c j with⟨l,p,rfl,cv,_⟩|⟨_,o⟩|⟨o,_⟩
    ·grind [ha,aiv,bT]
    ·grind
    grind [fc,ka]
   have w:∀(id:X) (P:X×bm aZ->bA),(b.keep.any λk=>bH k.1 id&&P k)=bp->∃k∈b.keep,k.1=id:=(by intro id P bs;obtain⟨k,z,y⟩:=pp.1 bs;simp only[bk] at y;grind [ai0]);cases j with
   |ref id f=>
    cases f with
    |nil=>
     obtain⟨k,z,G⟩:=pp.1 (show(b.keep.any λk=>bH k.1 id)=bp from m);exact u bn id bn ⟨k,z,fu G⟩
    |cons N f=>exact u bn id bn (w id _ m)
   |addr id f=>exact u bn id bn (w id _ m)
   |view id f D q=>exact u bn id bn (w id _ m)
   |eB t n=>
    have a3:=g0.1 m;have ad:(ak.eB t n).fo c=bq:=(by rw[LW,tL];grind [acC,FD,id,aiv,aq]);right;rcases ml i.h c (.eB t n) with⟨l,p,aw,_⟩|⟨_,o⟩|⟨o,_⟩
    ·cases aw
    ·grind
    rw[o,y];unfold fc;have d0:ka b.S b.keep (.eB t n)=bp:=g0.2 λav a4=>(by have G:=a3 av a4;rw[FD,Bool.not_or,je,bk] at G;grind);grind
   |app id f v x s=>
    have R:((s.all λl=>!(eQ l (c++b.S)))&&b.keep.any λk=>bH k.1 id&&kS k.2 f)=bp:=m;rw[bk] at R;have d2:=co id (w id _ R.2);have ad:(ak.app id f v x s).fo c=bq:=by
     unfold aiv;rw[tL];intro l q ce;rcases fR.1 (show l∈id::s from q) with rfl|q
     ·grind
     grind [ajm,ha,amx]
    right;rcases ml i.h c (.app id f v x s) with⟨l,p,aw,_⟩|⟨_,o⟩|⟨o,_⟩
    ·cases aw
    ·grind
    grind [Qt,fc]
   |hz j=>
    have m:k0 b.keep j=bp:=m;cases j with
    |ref id f=>
     cases f with
     |nil=>
      obtain⟨k,z,G⟩:=pp.1 (show(b.keep.any λk=>bH k.1 id)=bp from m);exact u bn id bn ⟨k,z,fu G⟩
     |cons N f=>exact u bn id bn (w id _ m)
    |addr id f=>exact u bn id bn (w id _ m)
    |view id f D q=>exact u bn id bn (w id _ m)
    |_=>cases m
   |_=>cases m
  have d4:∀j:ak,yg (fG (c++b.S) b.keep j) (fG b.S b.keep (iz i.h c j)):=by
   intro j;cases j with
   |fe n=>
    refine .inr (.inr ⟨_,_,bn,bn,ac,λl k d9 m y=>?_⟩);grind
   |ref id f=>
    have o:=r (.ref id f);have aq:fG b.S b.keep (iz i.h c (.ref id f))=fc b.S b.keep (gX i.h c (.ref id f)):=by show fG b.S b.keep (gX i.h c (.ref id f))=_;rcases ml i.h c (.ref id f) with⟨l,p,_,_,_,e⟩|⟨e,_⟩|⟨e,_⟩<;>rw[e]<;>first|rfl|grind [VN]
    rw[aq];exact o.imp (λe=>e) .inl
   |dead=>exact(r .dead).imp (λe=>e) .inl
   |val v k=>exact .inr (.inl (by
    simp[fc,gX,iz,fG,aiv,bT]))
   |dh d8=>exact .inr (.inl (by
    simp[fc,gX,iz,fG,aiv,bT]))
   |addr id f=>
    have aq:fG b.S b.keep (iz i.h c (.addr id f))=fc b.S b.keep (gX i.h c (.addr id f)):=by show fG b.S b.keep (gX i.h c (.addr id f))=_;rcases ml i.h c (.addr id f) with⟨l,p,_,_,_,e⟩|⟨e,_⟩|⟨e,_⟩<;>rw[e]<;>first|rfl|grind
    rw[aq];exact(r _).imp (λe=>e) .inl
   |view id f D q=>
    have aq:fG b.S b.keep (iz i.h c (.view id f D q))=fc b.S b.keep (gX i.h c (.view id f D q)):=by show fG b.S b.keep (gX i.h c (.view id f D q))=_;rcases ml i.h c (.view id f D q) with⟨l,p,_,_,_,e⟩|⟨e,_⟩|⟨e,_⟩<;>rw[e]<;>first|rfl|grind
    rw[aq];exact(r _).imp (λe=>e) .inl
   |ent id f K=>
    have aq:fG b.S b.keep (iz i.h c (.ent id f K))=fc b.S b.keep (gX i.h c (.ent id f K)):=by show fG b.S b.keep (gX i.h c (.ent id f K))=_;rcases ml i.h c (.ent id f K) with⟨l,p,_,_,_,e⟩|⟨e,_⟩|⟨e,_⟩<;>rw[e]<;>first|rfl|grind
    rw[aq];exact(r _).imp (λe=>e) .inl
   |app id f v x s=>
    have aq:fG b.S b.keep (iz i.h c (.app id f v x s))=fc b.S b.keep (gX i.h c (.app id f v x s)):=by show fG b.S b.keep (gX i.h c (.app id f v x s))=_;rcases ml i.h c (.app id f v x s) with⟨l,p,_,_,_,e⟩|⟨e,_⟩|⟨e,_⟩<;>rw[e]<;>first|rfl|grind
    rw[aq];exact(r _).imp (λe=>e) .inl
   |agg n=>
    have aq:fG b.S b.keep (iz i.h c (.agg n))=fc b.S b.keep (gX i.h c (.agg n)):=by show fG b.S b.keep (gX i.h c (.agg n))=_;rcases ml i.h c (.agg n) with⟨l,p,_,_,_,e⟩|⟨e,_⟩|⟨e,_⟩<;>rw[e]<;>first|rfl|grind
    rw[aq];exact(r _).imp (λe=>e) .inl
   |eB t n=>
    have aq:fG b.S b.keep (iz i.h c (.eB t n))=fc b.S b.keep (gX i.h c (.eB t n)):=by show fG b.S b.keep (gX i.h c (.eB t n))=_;rcases ml i.h c (.eB t n) with⟨l,p,_,_,_,e⟩|⟨e,_⟩|⟨e,_⟩<;>rw[e]<;>first|rfl|grind
    rw[aq];exact(r _).imp (λe=>e) .inl
   |hz j=>
    have aq:fG b.S b.keep (iz i.h c (.hz j))=fc b.S b.keep (gX i.h c (.hz j)):=by show fG b.S b.keep (gX i.h c (.hz j))=_;rcases ml i.h c (.hz j) with⟨l,p,_,_,_,e⟩|⟨e,_⟩|⟨e,_⟩<;>rw[e]<;>first|rfl|grind
    rw[aq];exact(r _).imp (λe=>e) .inl
  show yg (gt (cI.app ⟨b.d,c++b.S,b.keep,b.put⟩ i).g B) (gt (b.app (sR c i)).g B);obtain⟨J,H,I,d5⟩:=b;cases J with
  |none=>
   show yg (gt (nG (c++H) I i.g) B) (gt (nG H I (sR c i).g) B);grind [sW,p6,D4]
  |some o=>
   obtain⟨J,Q⟩:=o;show yg (gt ((J,Q)::nG (c++H) I i.g) B) (gt ((J,Q)::nG H I (sR c i).g) B);rw[iQ,iQ];split
   ·exact .inr (.inl bn)
   grind [sW,p6,D4]
 intro id;show ar (b.put++q8 (c++b.S) i.h) id=ar (b.put++q8 b.S (del c i.h)) id;grind [xe,kA,mV]
theorem UB (m:ic.ae E C) {p:bR} {id:X} {k:aZ} (bs:J2 ic (aT i.g) p=Y (id,k::j)) {q:cI->bv A} {y:A} (a:Hr ic id k j (aT i.g) i.h p q=Y y):e0 E C p i (λk=>∃r,q r=Y y/\k=r.app i):=by
 have R:=λc=>gw.ok m (d:=c);have M:=m.2.2.2.2.1;have N:=m.2.2.2.1.2.2.2.1;obtain⟨bx,_,_,V,_⟩:=m;unfold Hr at a;split at a
 ·cases a
 rename_i c I;cases w:gw ic.n ic.pin c with
 |false=>grind
 |true=>
 rw[w] at a;have J:=R c w;simp only[bG] at a;split at a
 case h_2=>cases a
 rename_i a4 B cv P;split at a
 case h_2=>cases a
 rename_i F x an;split at a
 ·cases a
 rename_i b G;cases u:bH b.f F with
 |false=>grind
 |true=>
 rw[u] at a;obtain rfl:=fu u;simp only[bG] at a;split at a
 ·cases a
 rename_i co T;split at a
 ·cases a
 rename_i a3 ce;split at a
 ·cases a
 rename_i av ad;split at a
 ·cases a
 rename_i l bl;obtain⟨e,Q,a⟩:=eO.1 a;have S:tw (B.toList.map (aT i.g)++x) (b.ps.map oj)=Y (id,k::j):=(by grind [J2]);generalize H:mC id (B.toList.map (aT i.g)++x) (b.ps.map oj)=o at*;cases v:nv c ⟨[],(id,⟨a3,av⟩)::del [id] i.h⟩ o (gF b.ps l e) (iT b.rs (ik b.ps e)) with
 |false=>grind
 |true=>
 rw[v] at a;cases s:eQ id (gn o (gF b.ps l e)) with
 |false=>grind
 |true=>
 rw[s] at a;cases t:eQ id (mr o (gF b.ps l e)) with
 |false=>grind
 |true=>
 rw[t] at a;simp only[Bool.and_self,bG] at a;split at a
 ·cases a
 rename_i cs U;split at a
 ·cases a
 rename_i D am;obtain⟨a0,ap,a⟩:=eO.1 a;obtain⟨ci,O⟩:=Ir G;obtain⟨K,L⟩:=V.1 _ O;refine e0.sub P an I J K (L l e Q) (by grind [Is,A8]) M N T (iK ad) S H.symm ?_ v (ha.1 s) (ha.1 t) (y':=D) (z:=a0) ?_ (m2 ap) ⟨_,a,?_⟩
 ·grind [p5,Ka]
 ·rw[U];exact b4 Y (j7 am)
 rw[cI.Lh]
def acQ (b:bC) (e:X) (a:bv Addr) (g d:X) (f:p.underlying c=Y (.slice r)):(ajn (e+1) c (.slice a g d) (.slice bo 0 0)).run p b=.ok a.isNone b:=by cases a<;>simp[ajn,b8 f]
theorem acO (b:bC) (a:bv Addr) (e d:X) (f:p.underlying c=Y (.slice r)):(ait .eql c (.slice a e d) (.slice bo 0 0)).run p b=.ok (.bool a.isNone) b:=by simp_all [acQ,aj4,aj5,ait]
theorem XU (s:ic.ae E C) {x:bR} (b:IS ic (aT i.g) x=Y (a,m)):e0 E C x i (λR=>∃c:bA,R=⟨(a,.val .bool c)::i.g,i.h⟩/\(c=bp->m=0)):=by
 unfold IS at b;split at b
 case h_2=>cases b
 rename_i D A j k a3 H J;split at b
 case h_2=>cases b
 rename_i a0 ap z y r F G;cases t:gw ic.n ic.pin D with
 |false=>grind
 |true=>
 rw[t] at b;simp only[bG,eS,ie] at b;obtain⟨rfl,rfl⟩:=b;rw[s.1] at r;obtain⟨_,T,_,K,_⟩:=gZ.ok r;rintro e f ⟨S,av,V,l⟩ next U an
 have o:=l.aT j;have p:=l.aT k;rw[F] at o;rw[G] at p;obtain⟨d,u⟩:∃d,d=e.eval j:=⟨_,bn⟩;obtain⟨fv,w⟩:∃d,d=e.eval k:=⟨_,bn⟩;rw[<-u] at o;rw[<-w] at p;cases o with|val O=>cases p with|dh _=>
 obtain⟨_,c,q,rfl,ad,am,_⟩:=O;have L:e.eval j=.slice c (aiq (α:=z.den) y) q:=u.symm;have M:e.eval k=.slice bo 0 0:=w.symm;have I:∀f,(ajb .eql A j k (.slice c (aiq (α:=z.den) y) q) (.slice bo 0 0)).run E.P f=.ok () f:=λf=>(by unfold ajb;simp);refine akg (Q:=λB N=>B=.val .bool c.isNone/\N=[]) l (.pure (v:=.bool _) (by simp only[bN,J,L,M,bY,I,b1,acO _ _ _ _ K];rfl) (.bool _) ⟨bn,bn⟩) H (gw.ok s t) ?_;grind
def adN {d:X} {f:cw} (i:E.P.underlying r=Y (.array d c)) (g:fi E.P (.int f) c) {b:Act} (k:h.op=.indexAddr r (.global m) n) {p:cw} (j:b.eval n=.int p a) (q:a<d):(bN b.eval h).run E.P v=.ok (.value (.pointer (Y ⟨m,0+a*1,bo⟩))) v:=by have e:=g.sizeOf v;have o:b.eval (.global m)=.pointer (Y ⟨m,0,bo⟩):=rfl;have:(0:Z)<=(a:Z)/\(a:Z)<(d:Z):=⟨aa,aa⟩;have l:(ah.int f).size=1:=rfl;rw[l] at e;simp[bN,k,o,j,Instr.indexAt,ajG,ajo,b8 i,this,e,aja];omega
theorem adJ (e:ic.ae E C) {A:bR} {r:tZ} {z f:Z} (c:J8 ic (aT i.g) A=Y (a,r,z)) (V:ao r.xs z=Y f):e0 E C A i (λap=>ap=⟨(a,.val (.ptr .bg (.int r.k)) (Y f))::i.g,i.h⟩):=by
 unfold J8 at c;split at c
 case h_2=>cases c
 rename_i F a3 co p R S;split at c
 case h_2=>cases c
 rename_i d y q v M;cases w:gw ic.n ic.pin F with
 |false=>grind
 |true=>
 rw[w] at c;simp only[bG,eS,ie] at c;obtain⟨rfl,rfl,rfl⟩:=c;have l:=List.find?_some v;have o:=FW v;rw[bk] at l;obtain rfl:=fu l.1;obtain rfl:=fu l.2;rw[e.2.2.2.1.2.2.2.2.1] at o;obtain⟨a0,P,O⟩:=E.gok d o;rintro s ds ⟨av,c2,ce,j⟩ next a4 ci
 have m:=j.aT p;rw[M] at m;generalize T:s.eval p=dl at m;cases m with|val an=>
 obtain⟨_,rfl⟩:=an;obtain⟨aq,K,L⟩:=M8 V;obtain⟨_,bl,bx,u,aw,c1,B⟩:=j.glob e.2.2.2.2.1 e.2.2.2.1.2.2.2.1 d o;simp only[hN,aio,b9] at u;obtain⟨rfl,_⟩:=u;rcases B with B|⟨bs,cv,t,N,am⟩
 ·grind
 simp only[eS,aiD,b9] at t;obtain⟨rfl,rfl⟩:=t;obtain⟨J,G,H,I⟩:=am _ _ L;have U:s.eval p=.int y (q.toNat:X):=(by rw[T];show aiu y q=_;grind);refine akg (Q:=λD ad=>D=.val (.ptr .bg (.int d.k)) (Y f)/\ad=[]) j (.pure (adN P O S U K) (.val (τ:=.ptr .bg (.int d.k)) (x:=Y f) (cs:=[.pointer (Y ⟨d.b,0+q.toNat*1,bo⟩)]) ⟨bn,d.b,_,J,bn,N,G,H,I⟩) ⟨bn,bn⟩) R (gw.ok e w) ?_;grind
def QC (b:bC) (d:X) (a:bv Addr) (e:p.underlying c=Y (.pointer r)):(ajn (d+1) c (.pointer a) (.pointer bo)).run p b=.ok a.isNone b:=by cases a<;>simp[ajn,b8 e]
theorem acP (b:bC) (a:bv Addr) (d:p.underlying c=Y (.pointer r)):(ait .eql c (.pointer a) (.pointer bo)).run p b=.ok (.bool a.isNone) b:=by simp_all [QC,aj4,aj5,ait]
theorem acR (b:bC) (a:bv Addr) (d:p.underlying c=Y (.pointer r)):(ait .neq c (.pointer a) (.pointer bo)).run p b=.ok (.bool (!a.isNone)) b:=by simp_all [QC,aj4,aj5,ait]
theorem XQ {f:Act} (m:cN C i f.tmps v O x y) {c:bA} (a:IR i.h (aT i.g n)=Y c):∃l:bv Addr,f.eval n=.pointer l/\l.isNone=c:=by
 have b:=m.aT n;obtain⟨v1,d⟩:∃k,k=f.eval n:=⟨_,bn⟩;rw[<-d] at b;unfold IR at a;split at a
 ·rename_i D z k j;rw[j] at b;cases b with|val e=>
  obtain⟨_,e⟩:=e;cases a;cases k with
  |none=>subst e;exact⟨bo,d.symm,bn⟩
  |some G=>obtain⟨r,u,s,rfl,_⟩:=e;exact⟨Y ⟨r,u,bo⟩,d.symm,bn⟩
 ·rename_i id E j;split at a
  case h_2=>cases a
  rename_i z p;split at a
  case h_2=>cases a
  rename_i F t;cases a;rw[j] at b;cases b with|ref q o=>
  rw[p] at q;cases q;have:=o.ty;rw[t] at this;cases this;obtain⟨c,w,s,rfl,A,B⟩:=o7 (m.tree id _ p).1 o;exact⟨Y ⟨c,w,bo⟩,d.symm,bn⟩
 grind
theorem abF (p:ic.ae E C) {F:bR} {m:bA} (b:AR ic (aT i.g) i.h F=Y (a,m)):e0 E C F i (λO=>O=⟨(a,.val .bool m)::i.g,i.h⟩):=by
 unfold AR at b;split at b
 case h_2=>cases b
 rename_i J d k R f av u y;split at b
 case h_2=>cases b
 rename_i I o K L;cases q:gw ic.n ic.pin J with
 |false=>grind
 |true=>
 rw[q] at b;simp only[bG] at b;have M:∃j,E.P.underlying k=Y (.pointer j):=by
  rw[p.1] at o;unfold Nw at o;split at o
  ·rename_i am ap N;obtain⟨_,j,_,_,_,_,V,_⟩:=E.ok k _ N;grind
  grind
 obtain⟨j,z⟩:=M;rintro t e ⟨S,an,U,c⟩ next T ad
 have r:=c.aT f;rw[L] at r;obtain⟨fv,B⟩:∃G,G=t.eval f:=⟨_,bn⟩;rw[<-B] at r;cases r with|dh _=>
 obtain⟨H,A,x⟩:=XQ c K;have D:t.eval f=.pointer bo:=B.symm;have w:∀d e,(ajb d k R f (.pointer H) (.pointer bo)).run E.P e=.ok () e:=λd e=>(by unfold ajb;cases d<;>simp);split at b
 ·cases b;refine akg (Q:=λl s=>l=.val .bool m/\s=[]) c (.pure (v:=.bool _) (by simp only[bN,y,A,D,bY,w,b1,acP _ _ z,x];rfl) (.bool _) ⟨bn,bn⟩) u (gw.ok p q) ?_;grind
 ·cases b;refine akg (Q:=λl s=>l=.val .bool (!I)/\s=[]) c (.pure (v:=.bool _) (by simp only[bN,y,A,D,bY,w,b1,acR _ _ z,x];rfl) (.bool _) ⟨bn,bn⟩) u (gw.ok p q) ?_;grind
 grind
def ME {P:b0} {M:eD->X->Prop} {w w0:bC} {d:X}:∀{t:ah} {fs:bm aiE} {off:X} {b:ah8} {xs ys:ah6} {p q:t.den},z6 t=bp->iB P t fs off b->(fs.all λf=>f.name !="_")=bp->aS M w0 t (xs.toList.drop off) p []->aS M w0 t (ys.toList.drop off) q []->(akV (d+1) xs ys fs).run P w=.ok (sM t p q) w
 |.nil,[],_,_,_,_,_,_,_,_,_,_,_=>by simp[akV,sM]
 |.nil,_::_,_,_,_,_,_,_,_,c,_,_,_=>c.elim
 |.pr i e,[],_,_,_,_,_,_,_,c,_,_,_=>c.elim
 |.pr i e,f::fs,off,b,xs,ys,p,q,a,c,h,A,B=>by
  cases i<;>simp only[z6] at a<;>try (cases a;done)
  rename_i L;obtain⟨v,k,J,_,x⟩:=c;simp only[r0,bk,bne_iff_ne,ne_eq] at h;obtain⟨G,f2,o,E,m⟩:=A;obtain⟨H,I,r,F,n⟩:=B;obtain⟨rfl,rfl⟩:=aln.1 o.symm;obtain⟨rfl,rfl⟩:=aln.1 r.symm;have j:∀(b:ah6) (g:Value),(b.toList.drop off).take 1=[g]->(part f.type b f.offset).run P w=.ok g w:=λb g z=>(by have C:b[off]?=Y g:=(by have:=b4 (·[0]?) z;simpa[akC,pw] using this);simp only[part,bY,k.isAgg,b1,v,C,o3];rfl);have s:=j xs _ E.2;have u:=j ys _ F.2;obtain⟨K,_,_,_,_,y⟩:=k;have D:=ME (P:=P) (M:=M) (w:=w) (w0:=w0) (d:=d) (t:=e) (fs:=fs) (off:=off+1) (xs:=xs) (ys:=ys) (p:=p.2) (q:=q.2) a x (by simpa using h.2)
   (by rw[qy] at m;exact m) (by rw[qy] at n;exact n)
  simp only[akV,h.1,not_false_eq_true,cj,ne_eq,bY,s,u,b1,run_equalIn_int _ _ _ _ _ _ _ y];show Sem.run P (if(!((p.1:Z)==(q.1:Z)))=bp then pure bq else akV (d+1) xs ys fs) w=_;cases l:((p.1:Z)==(q.1:Z)) with
  |true=>
   rw[az ac,D];show _=amy (((p.1:Z)==(q.1:Z))&&sM e p.2 q.2) w;rw[l,ake]
  |false=>
   rw[au ac];show _=amy (((p.1:Z)==(q.1:Z))&&sM e p.2 q.2) w;rw[l,alE];rfl
 |.int _,_,_,_,_,_,_,_,a,_,_,_,_=>by cases a
 |.bool,_,_,_,_,_,_,_,a,_,_,_,_=>by cases a
 |.str,_,_,_,_,_,_,_,a,_,_,_,_=>by cases a
 |.a2 _ _,_,_,_,_,_,_,_,a,_,_,_,_=>by cases a
 |.ptr _ _,_,_,_,_,_,_,_,a,_,_,_,_=>by cases a
 |.osl _,_,_,_,_,_,_,_,a,_,_,_,_=>by cases a
 |.optr _,_,_,_,_,_,_,_,a,_,_,_,_=>by cases a
 |.st _,_,_,_,_,_,_,_,a,_,_,_,_=>by cases a
 |.eK,_,_,_,_,_,_,_,a,_,_,_,_=>by cases a
 |.mp _,_,_,_,_,_,_,_,a,_,_,_,_=>by cases a
 |.fw _ _,_,_,_,_,_,_,_,a,_,_,_,_=>by cases a
 |.fn _ _,_,_,_,_,_,_,_,a,_,_,_,_=>by cases a
theorem UU (o:ic.ae E C) {H:bR} {w:bA} (b:DO ic (aT i.g) H=Y (a,w)):e0 E C H i (λco=>co=⟨(a,.val .bool w)::i.g,i.h⟩):=by
 unfold DO at b;split at b
 case h_2=>cases b
 rename_i R c s u d6 ap a0;split at b
 case h_2=>cases b
 rename_i cs e I d8 d0 B U V;cases j:eQ c ic.eq&&(z6 e&&(a7 cs (.st e)&&gw ic.n ic.pin R)) with
 |false=>rw[j] at b;cases b
 |true=>
 rw[j,bG] at b;obtain⟨J,a3,b⟩:=fC.1 b;cases b;simp only[bk] at j;obtain⟨L,M,N,O⟩:=j;rw[o.1] at B;have am:=(E.ok c _ B).lay N;have an:=E.eqok c (by rw[<-o.2.2.2.1.2.2.2.2.2];exact ha.1 L);cases j7 a3;obtain⟨_,ds,A,d7,aw,d1,d2,d3,r,bx,d4⟩:=am;obtain⟨aq,S,ad,z,T⟩:=an;rw[r] at z;obtain rfl:A=ad:=(by simpa using z);rintro f k ⟨cv,d5,c2,m⟩ next c1 dl
 have p:=m.aT s;have q:=m.aT u;rw[U] at p;rw[V] at q;obtain⟨v1,F⟩:∃l,l=f.eval s:=⟨_,bn⟩;obtain⟨fv,G⟩:∃l,l=f.eval u:=⟨_,bn⟩;rw[<-F] at p;rw[<-G] at q;cases p with|val ce=>cases q with|val ci=>
 rename_i x y;have a4:f.eval s=.agg x.toArray:=F.symm;have bl:f.eval u=.agg y.toArray:=G.symm;have D:E.P.fieldsOf c=A:=(by unfold Program.fieldsOf;rw[r]);have av:(ajn 10000 c (.agg x.toArray) (.agg y.toArray)).run E.P k=.ok (sM e I J) k:=(by rw[run_equalIn_struct k 9999 c _ _ (by rw[D];exact r) aq,D];exact ME (t:=e) (off:=0) (d:=9998) M bx T (by rw[lP];exact ce) (by rw[lP];exact ci));refine akg (Q:=λK bs=>K=.val .bool (sM e I J)/\bs=[]) m (.pure (v:=.bool _) (by simp only[bN,a0,a4,bl,bY,run_eqGuard_agg k _ _ _ _ _ _ S,b1,run_eql_struct,av];rfl) (.bool _) ⟨bn,bn⟩) ap (gw.ok o O) ?_;grind
theorem Nl (j:ic.ae E C) {p:bU bR} {m:bR} {q:aO->bv A} {s:A} (k:p[a]?=Y m) (l:kK p i m bp) (c:i1 ic i m q=Y s) (D:∀d,q d=Y s->ia E C p f d u):ia E C p (a::f) i u:=
by
 unfold i1 at c;split at c
 ·rename_i o H y b;obtain⟨J,x,c⟩:=eO.1 c;refine ajQ k l ((adJ j b x).mono (λd e=>?_));grind
 split at c
 ·rename_i o n b;have w:AR ic (aT i.g) i.h m=Y (o,n)\/DO ic (aT i.g) m=Y (o,n):=by
   cases r:AR ic (aT i.g) i.h m with
   |none=>rw[r,Option.none_or] at b;exact .inr b
   |some I=>rw[r,Option.some_or] at b;exact .inl b
  rcases w with b|b
  ·refine ajQ k l ((abF j b).mono (λd e=>?_));grind
  refine ajQ k l ((UU j b).mono (λd e=>?_));grind
 split at c
 ·rename_i o y b;obtain⟨z,B⟩:=XT c;refine ajQ k l ((XU j b).mono (λd e=>?_));obtain⟨n,rfl,F⟩:=e;cases n with
  |false=>grind
  |true=>grind
 split at c
 ·rename_i id d G e;exact ajQ k l ((UB j e c).mono (λd ⟨t,v,e⟩=>by grind))
 exact ajQ k l ((Mu j c).mono (λd ⟨t,v,e⟩=>by grind))
theorem Ae {l2:aie} (d:ic.ae E C) {q:bU bR} {s:aO->bv A} {y:A} {t:aO->Prop} (f:∀k,s k=Y y->ia E C q l2 k t):∀{p:aie} {b:aO},kX ic q p b s=Y y->ia E C q (p++l2) b t
 |[],b,a=>f _ a
 |i::p,b,a=>by
  simp only[kX] at a;split at a
  ·cases a
  rename_i H j;split at a
  ·rename_i z;exact Nl d j (by grind [kK]) a (λk c=>Ae d f c)
  rename_i G l z;split at a
  case h_2=>cases a
  rename_i v u D x;split at a
  case h_3=>cases a
  case h_2=>
   rename_i I B;cases c:gw ic.n ic.pin u with
   |false=>grind
   |true=>
   rw[c] at a;have o:=gw.ok d c;refine ia.skip j x o ?_ (Ae d f a);grind [kK]
  rename_i m B;cases c:gw ic.n ic.pin u with
  |false=>grind
  |true=>
  rw[c] at a;have o:=gw.ok d c;simp only[bG] at a;split at a
  ·rename_i w;obtain rfl:m=l:=(by grind);have r:∀e,gt (⟨(v,.val .bool m)::b.g,b.h⟩:aO).g e=gt b.g e:=λe=>by
    grind [iQ]
   refine ia.same r bn (Nl d j ?_ a (λk c=>Ae d f c));grind [kK]
  rename_i w;have F:m=!l:=by cases m<;>cases l<;>first|rfl|cases w
  have r:∀e,gt (⟨(v,.val .bool (!l))::b.g,b.h⟩:aO).g e=gt b.g e:=λe=>(by grind [iQ]);refine ia.same r bn (ia.skip j x o ?_ (Ae d f a));grind [kK]
theorem Wd (h:ic.ae E C) {c:bU bR} {b:aO->bv A} {d:A} (g:∀a,b a=Y d->u a) (e:kX ic c f i b=Y d):ia E C c f i u:=by have:=Ae (l2:=[]) h (λa j=>ia.nil (g a j)) e;grind
end
end
structure ko (s t:aO):Prop where
 g:∀k,gt s.g k=gt t.g k
 h:∀id,ar s.h id=ar t.h id
def ko.refl (a:aO):ko a a:=⟨λ_=>rfl,λ_=>rfl⟩
def ko.symm {c d:aO} (b:ko c d):ko d c:=⟨λa=>(b.g a).symm,λa=>(b.h a).symm⟩
def ko.trans {d e f:aO} (b:ko d e) (c:ko e f):ko d f:=⟨λa=>(b.g a).trans (c.g a),λa=>(b.h a).trans (c.h a)⟩
def cI.ub (a:cI) (e:aO) (b:X):gt (a.app e).g b=match a.d with
 |some (c,f)=>if c=b then f else fG a.S a.keep (gt e.g b)
 |none=>fG a.S a.keep (gt e.g b):=by
 obtain⟨c,h,i,k⟩:=a;cases c with
 |none=>
  show gt (nG h i e.g) b=_;rw[sW,p6]
 |some j=>
  obtain⟨c,f⟩:=j;show gt ((c,f)::nG h i e.g) b=_;rw[iQ,sW,p6]
theorem cI.sg (a:cI) (b:aO) (id:X):ar (a.app b).h id=(ar a.put id).or (if id∈a.S then bo else ar b.h id):=by show ar (a.put++q8 a.S b.h) id=_;rw[xe,kA,mV]
def ko.app {c t:aO} (b:ko c t) (a:cI):ko (a.app c) (a.app t):=
 ⟨λd=>by rw[cI.ub,cI.ub,b.g],λd=>by rw[cI.sg,cI.sg,b.h]⟩
def gI.seq {a:eY} {c:aO} {d:ah6} (b:ko i c) (e:gI a i d v):gI a c d v:=e.less (λf=>.inr (b.g f).symm) (λid=>(b.h id).symm)
def DJ:bv (X×ak)->aia->bA
 |some b,Y a=>bH b.1 a
 |none,bo=>bp
 |_,_=>bq
def td:ak->bA
 |.dead=>bq
 |_=>bp
def pe (b c:aie):bA:=b.all λa=>eQ a c
theorem pe.ok (b:pe f w=bp):∀a∈f,a∈w:=λa c=>ha.1 (g0.1 b a c)
def pd (a:aie):ak->bA
 |.ref id []=>eQ (id+500000) a
 |_=>bq
def xw:Op->bA
 |.move _=>bp
 |_=>bq
def D5:X->bm aZ->bv (X×bm aZ)
 |k,.snd::a=>D5 (k+1) a
 |k,.fst::a=>Y (k,a)
 |_,_=>bo
def xn:bm aZ->bv (X×bm aZ)
 |.deref::.unst::a=>D5 0 a
 |_=>bo
def sP (q:bm aZ):aia:=match q with
 |[]=>Y 1
 |[.deref]=>Y 2
 |q=>match xn q with
  |some (a,[])=>Y (2*a+4)
  |some (a,_::_)=>Y (2*a+5)
  |none=>bo
def qV:ak->bv ep
 |.ref id a=>match sP a with
  |some b=>Y (id,b)
  |none=>bo
 |.addr id a=>match sP a with
  |some b=>Y (id,b)
  |none=>bo
 |.app id a _ _ d=>match eQ id d,xn a with
  |false,Y (c,_)=>Y (id,2*c+5)
  |_,_=>bo
 |_=>bo
def sY (b:aie) (a:ak):bA:=match qV a with
 |some (id,d)=>ca id 500000&&(eQ (id+1000000*d) b&&a.ids.all λc=>bH c id||eQ c b)
 |none=>bq
def xX (b:bm aZ) (a:X):bA:=(bH a 1&&nD b)||((bH a 2&&nD b.tail&&(match b with|.deref::_=>bp|_=>bq))||match xn b with
 |some (c,d)=>b2 4 a&&(!(bH (a/2) (c+2))||(bH (a %2) 0&&nD d))
 |none=>bq)
def sf (a:bO->ak) (b:bR):bv (X×bm aZ):=match b.op with
 |.call {callee:=.builtin .append,args:=xs,argTypes:=_}=>match xs.toList with
  |[x,_]=>match a x with
   |.ref id (d::c)=>Y (id,d::c)
   |_=>bo
  |_=>bo
 |_=>bo
def Jr (c:aie) (b:bO->ak) (d:bR):bA:=c.all λa=>ca a 1000000||(match sf b d with
 |some (id,e)=>bH (a %1000000) (id+500000)&&(ca id 500000&&xX e (a/1000000))
 |none=>bq)
def Wz (a:aie) (c:bm (X×bm aZ)) (b:aie):bA:=b.all λid=>ca id 500000&&((eQ id a&&(eQ (id+500000) a||k0 c (.ref id [])))||eQ (id+1500000) a)
def BL:ak->bA
 |.fe b=>b.all td
 |a=>td a
def ot (op:Op) (b:aie) (a:ak):bA:=match op with
 |.extract _ d=>match a with
  |.fe e=>match e[d]? with
   |some c=>td c&&(pe c.ids b||pd b c)
   |none=>bq
  |_=>bq
 |op=>BL a&&(pe a.ids b||((xw op&&pd b a)||sY b a))
def rm (c e:aie) (g:bO->ak) (f:bR) (b:cI):bA:=
 DJ b.d f.dst&&(f.op.operands.toList.all λh=>ot f.op c (g h))&&Wz e b.keep b.S&&(b.put.all λa=>ca a.1 500000&&(eQ a.1 e||eQ (a.1+1500000) e))&&((match b.d with|some a=>pe a.2.ids c||(pd c a.2||sY c a.2)|none=>bp)&&Jr e g f)
theorem qW {e:Type} (c:bA) (d:bv b) (a:b->bv e):(bif c then d else bo).bind a=bif c then d.bind a else bo:=by grind
theorem adn (tt:bm (bF×ah)) (d:bm (X×aG)) (c:bF) (f e:ak) (a:cI->bv b):rM tt d c f e a=(rM tt d c f e Y).bind a:=by
 unfold rM;split
 ·rfl
 split
 case h_2=>rfl
 split
 ·rfl
 rw[qW];congr 1;split
 ·grind
 ·grind
 grind
theorem IK (tt:bm (bF×ah)) (d:bm (X×aG)) (c:bF) (g e f:ak) (a:cI->bv b):om tt d c g e f a=(om tt d c g e f Y).bind a:=by
 unfold om;split
 case h_2=>rfl
 split
 case h_2=>rfl
 split
 case h_2=>rfl
 split
 case h_2=>rfl
 grind
theorem Xv (tt:bm (bF×ah)) (e:bm (X×aG)) (d:X) (c:bF) (g f:ak) (a:cI->bv b):rz tt e d c g f a=(rz tt e d c g f Y).bind a:=by
 unfold rz;split
 case h_2=>rfl
 split
 case h_2=>rfl
 split
 case h_2=>rfl
 split
 case h_2=>rfl
 split
 case h_2=>rfl
 grind
theorem UR (tt:bm (bF×ah)) (d:bm (X×aG)) (c:bF) (g e f:ak) (a:cI->bv b):rh tt d c g e f a=(rh tt d c g e f Y).bind a:=by
 unfold rh;split
 case h_2=>rfl
 rw[qW,IK]
theorem Xo (tt:bm (bF×ah)) (d:bm (X×aG)) (c:bF) (f e:ak) (a:cI->bv b):ry tt d c f e a=(ry tt d c f e Y).bind a:=by
 unfold ry;split
 case h_2=>rfl
 split
 case h_2=>rfl
 split
 case h_2=>rfl
 split
 case h_2=>rfl
 grind
theorem S8 (tt:bm (bF×ah)) (d:bm (X×ah)) (f:bm (X×aG)) (e:X) (c:bF) (g h:ak) (a:cI->bv b):oR tt d f e c g h a=(oR tt d f e c g h Y).bind a:=by
 unfold oR;split
 ·rfl
 split
 ·split
  case h_2=>rfl
  rw[qW];congr 1;split
  ·grind
  grind
 ·split
  case h_2=>rfl
  split
  case h_2=>rfl
  grind
 ·split
  case h_2=>rfl
  grind
 ·grind
 rfl
theorem Tb (tt:bm (bF×ah)) (d:bm (X×ah)) (f:bm (X×aG)) (e:X) (c:bF) (g h:ak) (a:cI->bv b):n8 tt d f e c g h a=(n8 tt d f e c g h Y).bind a:=by
 unfold n8;split
 ·unfold yL;split
  case h_2=>rfl
  split
  case h_2=>rfl
  grind
 grind [S8]
theorem Uf (tt:bm (bF×ah)) (e:bm (X×aG)) (d:X) (c:bF) (f g:ak) (a:cI->bv b):qX tt e d c f g a=(qX tt e d c f g Y).bind a:=by
 unfold qX;split
 ·rfl
 split
 ·split
  case h_2=>rfl
  grind
 ·split
  case h_2=>rfl
  grind
 rfl
theorem Tx (tt:bm (bF×ah)) (d:bm (X×ah)) (g:bm (X×aG)) (f:bO->ak) (e:X) (c:bF) (h:bm (X×bO)) (a:cI->bv b):sn tt d g f e c h a=(sn tt d g f e c h Y).bind a:=by
 unfold sn;split
 ·rfl
 split
 ·rw[qW];congr 1;split
  ·grind
  rfl
 rw[qW];congr 1;split
 ·rfl
 split
 ·grind
 rfl
theorem TA (tt:bm (bF×ah)) (d:bm (X×ah)) (f:bm (X×aG)) (e:X) (c:bF) (g:ak) (a:cI->bv b):uf tt d f e c g a=(uf tt d f e c g Y).bind a:=by
 unfold uf;split
 ·split
  ·grind
  ·grind
  rfl
 rfl
theorem TE (tt:bm (bF×ah)) (d:bm (X×ah)) (g:bm (X×aG)) (f:bO->ak) (e:X) (c:bF) (h:X) (i:bm (X×bO)) (a:cI->bv b):sp tt d g f e c h i a=(sp tt d g f e c h i Y).bind a:=by
 unfold sp;split
 ·grind
 rfl
theorem zV {e:gR} (c:bO->ak) (d:bm (X×aG)) (f:bR) (a:cI->bv b):aq e c d f a=(aq e c d f Y).bind a:=by
 unfold aq;split
 ·split
  ·grind [adn]
  ·grind [IK]
  ·grind [IK]
  ·grind [UR]
  ·grind [Xo]
  rfl
 rw[qW];congr 1;split
 ·grind
 ·split
  case h_2=>rfl
  split
  ·rfl
  simp_all [nC,Option.bind_assoc,qW,aD]
 ·split
  case h_2=>rfl
  rw[qW];grind [Tb]
 ·grind [Uf]
 ·split
  ·rfl
  ·rfl
  ·rfl
  ·grind
  grind
 ·grind [Tx]
 ·grind [Xv]
 ·grind [TA]
 ·grind [TE]
 grind
theorem Ux {e:gR} (c:bO->ak) (d:bm (X×aG)) (f:bR) (a:cI->bv b):jU e c d f a=(jU e c d f Y).bind a:=by
 unfold jU;split
 ·grind [zV]
 rw[qW];congr 1;refine(zV _ _ _ _).trans (Eq.trans ?_ (b4 (λg=>bB g a) (zV _ _ _ _)).symm);grind
theorem M5:∀{d:bm aZ} {b a:X} {e:bm aZ},D5 b d=Y (a,e)->b<=a/\d=bJ (a-b) .snd++.fst::e
 |[],_,_,_,c=>by cases c
 |s::d,b,a,e,c=>by
  cases s<;>simp only[D5] at c<;>first|(cases c;done)|skip
  ·simp_all
  obtain⟨g,f⟩:=M5 c;refine⟨aa,?_⟩;rw[(aa:a-b=(a-(b+1))+1),List.replicate_succ,nY,<-f]
theorem D6 {c:bm aZ} (b:xn j=Y (a,c)):j=.deref::.unst::(bJ a .snd++.fst::c):=by
 unfold xn at b;split at b
 ·rename_i j;have:=(M5 b).2;grind
 grind
def Hl:∀{j k:X} {r r':bm aZ},j≠k->kS (bJ j .snd++.fst::r) (bJ k .snd++.fst::r')=bp
 |0,0,_,_,a=>absurd rfl a
 |0,k+1,_,_,_=>rfl
 |j+1,0,_,_,_=>rfl
 |j+1,k+1,r,r',a=>Hl (j:=j) (k:=k) (r:=r) (r':=r') (λb=>a (by rw[b]))
def NA:∀{j:X} {r:bm aZ},g8 (bJ j .snd++.fst::r) (bJ j .snd++[.fst])=nD r
 |0,r=>by cases r<;>rfl
 |j+1,r=>NA (j:=j) (r:=r)
def Nz (a:bm aZ):g8 a []=nD a:=by cases a<;>rfl
def abl (c:sP j=Y a):(a=1↔j=[])/\(a=2↔j=[.deref])/\(4<=a->∃d e,xn j=Y (d,e)/\((e=[]/\a=2*d+4)\/(e≠[]/\a=2*d+5)))/\(a=1\/a=2\/4<=a):=by
 unfold sP at c;split at c
 ·cases c;simp
 ·cases c;simp
 rename_i g h;split at c
 ·rename_i d f;cases c;refine⟨⟨λb=>by omega,λb=>absurd b g⟩,⟨λb=>by omega,λb=>absurd b h⟩,λ_=>⟨d,[],f,.inl ⟨bn,bn⟩⟩,aa⟩
 ·rename_i d i e f;cases c;refine⟨⟨λb=>by omega,λb=>absurd b g⟩,⟨λb=>by omega,λb=>absurd b h⟩,λ_=>⟨d,i::e,f,.inr ⟨ac,bn⟩⟩,aa⟩
 cases c
def abm {i:bm aZ} (b:xX j a=bp) (s:sP i=Y a):g8 j i=bp:=by
 obtain⟨l,m,n,w⟩:=abl s;unfold xX at b;rcases Bq.1 b with b|b
 ·obtain⟨c,f⟩:=tD.1 b;rw[l.1 (fu c),Nz];exact f
 rcases Bq.1 b with b|b
 ·obtain⟨b,g⟩:=tD.1 b;obtain⟨c,f⟩:=tD.1 b;rw[m.1 (fu c)];cases j with
  |nil=>cases g
  |cons v j=>
   cases v<;>first|(cases g;done)|skip
   show g8 j []=bp;rw[Nz];exact f
 split at b
 ·rename_i d k t;obtain⟨o,b⟩:=tD.1 b;obtain⟨h,u,r,q⟩:=n (gS o);rw[D6 r,D6 t];show g8 (bJ d .snd++.fst::k) (bJ h .snd++.fst::u)=bp;by_cases c:d=h
  ·subst c;rcases q with⟨rfl,p⟩|⟨x,p⟩
   ·have aq:a/2=d+2:=aa;have e:a %2=0:=aa;rw[aq,e] at b;have:nD k=bp:=(by simpa using b);rw[NA,this]
   have aq:a/2=d+2:=aa;have e:a %2=1:=aa;rw[aq,e] at b;simp at b
  exact Hk (Hl c)
 cases b
theorem abk {id:X} (b:xX j a=bp) (i:qV d=Y (id,a)) (n:∀c∈d.ids,c=id\/c∉f):ka f [(id,j),(id,[])] d=bp:=by
 have z:∀h,sP h=Y a->g8 j h=bp:=λh p=>abm b p;have v:∀g:X,bH g g=bp:=aka;unfold qV at i;split at i
 ·grind [ka,k0]
 ·grind [ka,k0,Ic]
 ·rename_i g h B A l;split at i
  case h_2=>cases i
  rename_i k t x o;cases i;have w:kS j h=bp:=by
   unfold xX at b;rcases Bq.1 b with b|b
   ·have:=fu (tD.1 b).1;omega
   rcases Bq.1 b with b|b
   ·have:=fu (tD.1 (tD.1 b).1).1;omega
   split at b
   ·rename_i c s q;obtain⟨_,b⟩:=tD.1 b;rw[D6 o,D6 q];show kS (bJ c .snd++.fst::s) (bJ k .snd++.fst::t)=bp;by_cases e:c=k
    ·subst e;have aq:(2*c+5)/2=c+2:=aa;have m:(2*c+5) %2=1:=aa;rw[aq,m] at b;simp at b
    exact Hl e
   cases b
  have y:(l.all λg=>!(eQ g f))=bp:=g0.2 λu r=>by
   rcases n u (hW _ r) with e|e
   ·grind [ha]
   grind [ha]
  show((l.all λg=>!(eQ g f))&&([(id,j),(id,[])].any λe=>bH e.1 id&&kS e.2 h))=bp;grind
 grind
section
theorem IH {g B:bO->ak} {b:bm (X×bO)} (d:∀e∈b,g e.2=B e.2):∀(f:ah) (a:X),qa g b f a=qa B b f a
 |.pr j h,a=>by
  simp only[qa,IH d h (a+1)];cases i:l4 b a with
  |none=>rfl
  |some c=>
   have:g c=B c:=d (a,c) (Al i);grind
 |.nil,_=>rfl
 |.int _,_=>rfl
 |.bool,_=>rfl
 |.str,_=>rfl
 |.a2 _ _,_=>rfl
 |.ptr _ _,_=>rfl
 |.osl _,_=>rfl
 |.optr _,_=>rfl
 |.st _,_=>rfl
 |.eK,_=>rfl
 |.mp _,_=>rfl
 |.fw _ _,_=>rfl
 |.fn _ _,_=>rfl
theorem Oe {h:bm (X×aG)} {g B:bO->ak} {b:bm (X×bO)} (d:∀e∈b,g e.2=B e.2):∀(f:ah) (a:X),mX h g b f a=mX h B b f a
 |.pr k i,a=>by
  simp only[mX,Oe d i (a+1)];cases j:l4 b a with
  |none=>rfl
  |some c=>
   have:g c=B c:=d (a,c) (Al j);grind
 |.nil,_=>rfl
 |.int _,_=>rfl
 |.bool,_=>rfl
 |.str,_=>rfl
 |.a2 _ _,_=>rfl
 |.ptr _ _,_=>rfl
 |.osl _,_=>rfl
 |.optr _,_=>rfl
 |.st _,_=>rfl
 |.eK,_=>rfl
 |.mp _,_=>rfl
 |.fw _ _,_=>rfl
 |.fn _ _,_=>rfl
section
variable {tt:bm (bF×ah)} {an:bm (X×ah)} {h A:bm (X×aG)} {d:X} {g B:bO->ak}
theorem EX {a:ah5} (c:∀b∈a.toArray,g b=B b):a.map g=a.map B:=by
 cases a with
 |none=>rfl
 |some b=>grind
theorem UY {f:Op} (b:∀a∈f.operands,g a=B a):g3 tt an h g d f=g3 tt an h B d f:=by
 cases f
 case build T ps=>
  have:∀e∈ps.toList,g e.2=B e.2:=λe m=>b e.2 (by simp only[bV,yA,eZ];grind);grind [IH,g3,yS]
 case buildSlice T n ps=>
  have:∀e∈ps.toList,g e.2=B e.2:=λe m=>b e.2 (by simp only[bV,yA,eZ];grind);grind [aiy,g3,wE]
 case slice T a j hi p=>
  simp only[bV] at b;have t:g a=B a:=b a ac;have u:j.map g=j.map B:=EX (λi o=>b i (by grind));have v:hi.map g=hi.map B:=EX (λi o=>b i (by grind));cases p
  ·grind [g3]
  rfl
 case makeMap T q=>
  cases q<;>rfl
 case makeFunc l s cs=>
  cases l<;>try rfl
  grind [aiy,aiY,g3,bV]
 case call c=>
  obtain⟨r,k,y⟩:=c;have w:∀a∈k.toList,g a=B a:=λa x=>b a (by grind [aiY,bV,aiS]);clear b;simp only[g3];split
  ·grind
  ·grind [aiy]
  ·grind [aiy]
  rfl
 all_goals (simp only[bV] at b;simp only[g3])
 all_goals (first|rfl|(simp_all;done))
theorem U1 {e:Op} (b:∀a∈e.operands,g a=B a):kw tt an h g d e=kw tt an h B d e:=by
 cases e
 case slice T a j hi l=>
  simp only[bV] at b;have i:g a=B a:=b a ac;have n:j.map g=j.map B:=EX (λf k=>b f (by grind));have o:hi.map g=hi.map B:=EX (λf k=>b f (by grind));cases l
  ·simp_all [kw]
  rfl
 case call c=>
  grind [aiY,aq,kw,bV,aiS]
 case unOp m T a=>
  have i:g a=B a:=b a (by simp[bV]);cases m<;>simp only[kw,i]
 all_goals (simp only[bV] at b;simp only[kw])
 all_goals (first|rfl|(simp_all;done))
theorem Mq {k:gR} {n:bR} {r:cI->bv b} (c:∀j∈n.op.operands,g j=B j):aq k g h n r=aq k B h n r:=by
 have x:=λ(d:X)=>U1 (tt:=k.tt) (an:=k.an) (h:=h) (d:=d) c;have w:=λ(d:X)=>UY (tt:=k.tt) (an:=k.an) (h:=h) (d:=d) c;unfold aq;cases y:n.dst with
 |none=>
  simp only;split
  ·grind [bV]
  ·grind [bV]
  ·grind [bV]
  ·grind [bV]
  ·rename_i i t e;rw[e] at c;split
   ·rename_i j u l s aq _;have p:∀a∈i.toList,g a=B a:=λa m=>c a (by grind [aiY,bV,aiS]);grind
   rfl
  rfl
 |some d=>
  simp only;congr 1;split
  ·grind [bV]
  ·rename_i a i _ e;rw[e] at c;have:i.toList.map g=i.toList.map B:=h7 λj p=>c j (by grind [aiY,bV,aiS]);have m:g a=B a:=c a (by simp[bV,aiS]);rw[this,m]
  ·rename_i i t e;rw[e] at c;split
   ·rename_i j u l s aq _;have p:∀a∈i.toList,g a=B a:=λa m=>c a (by grind [aiY,bV,aiS]);grind
   rfl
  ·rename_i i t e;rw[e] at c;split
   ·rename_i j u l s aq _;have p:∀a∈i.toList,g a=B a:=λa m=>c a (by grind [aiY,bV,aiS]);grind
   rfl
  ·grind [bV]
  ·rename_i l q e;rw[e] at c;have o:∀f∈q.toList,g f.2=B f.2:=λf v=>c f.2 (by simp only[bV,yA,eZ];grind);simp only[sn,IH o,Oe o]
  ·grind [bV]
  ·grind [bV]
  ·rename_i l z q e;rw[e] at c;have o:∀f∈q.toList,g f.2=B f.2:=λf v=>c f.2 (by simp only[bV,yA,eZ];grind);grind [aiy,sp]
  grind
def fZ (h A:bm (X×aG)) (a:ak):Prop:=∀id∈a.ids,ar h id=ar A id
def abu (a:fZ h A t):rF h t=rF A t:=by
 cases t with
 |ref id b=>simp only[rF,a id (by simp[bT])]
 |_=>rfl
theorem abt {id:X} (a:rF h t=Y (id,j)):id∈t.ids:=by
 unfold rF at a;split at a
 ·grind [bT]
 ·grind [bT]
 grind
theorem ado {a:ak} {d:cI->bv b} (e:fZ h A a) (g:fZ h A t):rM tt h c a t d=rM tt A c a t d:=by
 unfold rM;rw[<-abu e];split
 ·rfl
 rename_i id j f;rw[e id (abt f)];cases t with
 |ref i k=>simp only[g i (by simp[bT])]
 |_=>rfl
theorem RJ (a:fZ h A t):ld h k t=ld A k t:=by
 cases t with
 |ref id b=>simp only[ld,a id (by simp[bT])]
 |view id b e d=>simp only[ld,a id (by simp[bT])]
 |val c g=>cases c<;>rfl
 |dh f=>unfold ld;grind
 |_=>rfl
theorem S9 {e:ak} {j:cI->bv b} (f:fZ h A e) (k:fZ h A t) (n:ar h d=ar A d):oR tt an h d c e t j=oR tt an A d c e t j:=by
 unfold oR;split
 ·rfl
 have g:∀i:ah,ld h i t=ld A i t:=λi=>RJ k;cases e with
 |ref id a=>
  cases a with
  |nil=>
   simp only[f id (by simp[bT]),g];cases t with
   |ref o l=>
    cases l with
    |nil=>simp only[k o (by simp[bT])]
    |cons m l=>rfl
   |_=>rfl
  |cons m a=>simp only[f id (by simp[bT]),g,n]
 |view id a q p=>
  cases a with
  |nil=>simp only[f id (by simp[bT]),g]
  |cons m a=>rfl
 |dh r=>grind
 |_=>rfl
def abb {a:ak} (d:fZ h A t):vp h a t=vp A a t:=by
 unfold vp;cases a with
 |ref id b=>
  cases b with
  |nil=>rfl
  |cons f b=>
   cases t with
   |ref e c=>
    cases c with
    |nil=>simp only[d e (by simp[bT])]
    |cons g c=>rfl
   |_=>rfl
 |_=>rfl
theorem Tc {a:ak} {e:cI->bv b} (g:fZ h A t) (i:fZ h A a) (f:ar h d=ar A d):n8 tt an h d c t a e=n8 tt an A d c t a e:=by
 unfold n8;rw[abb i,S9 g i f];split
 ·rename_i id l k m j;obtain⟨rfl,_,_⟩:=Jp j;unfold yL;rw[g id (by simp[bT]),f]
 rfl
theorem Ug {e:ak} {g:cI->bv b} (i:fZ h A e) (k:fZ h A t):qX tt h d c e t g=qX tt A d c e t g:=by
 unfold qX;split
 ·rfl
 have j:∀f:ah,ld h f t=ld A f t:=λf=>RJ k;cases e with
 |ref id a=>
  cases a with
  |nil=>simp only[i id (by simp[bT]),j]
  |cons l a=>rfl
 |view id a n m=>
  cases a with
  |nil=>simp only[i id (by simp[bT]),j]
  |cons l a=>rfl
 |_=>rfl
theorem Gq (b:fZ h A t):pN an h d t=pN an A d t:=by
 cases t with
 |ref id a=>
  cases a with
  |nil=>simp only[pN,b id (by simp[bT])]
  |cons c a=>rfl
 |view id a f e=>
  cases a with
  |nil=>simp only[pN,b id (by simp[bT])]
  |cons c a=>rfl
 |dh t=>unfold pN;grind
 |_=>rfl
def abg (b:fZ h A t):xV h k t=xV A k t:=by
 cases t with
 |ref id a=>
  cases a with
  |nil=>simp only[xV,b id (by simp[bT])]
  |cons c a=>rfl
 |_=>rfl
def Of {b:bm (X×bO)} (c:∀i∈b,fZ h A (g i.2)):∀(d:ah) (a:X),mX h g b d a=mX A g b d a
 |.pr k e,a=>by
  simp only[mX,Of c e (a+1)];cases f:l4 b a with
  |none=>rfl
  |some j=>simp only[abg (c (a,j) (Al f))]
 |.nil,_=>rfl
 |.int _,_=>rfl
 |.bool,_=>rfl
 |.str,_=>rfl
 |.a2 _ _,_=>rfl
 |.ptr _ _,_=>rfl
 |.osl _,_=>rfl
 |.optr _,_=>rfl
 |.st _,_=>rfl
 |.eK,_=>rfl
 |.mp _,_=>rfl
 |.fw _ _,_=>rfl
 |.fn _ _,_=>rfl
def TY (b:fZ h A t):uj h k t=uj A k t:=by
 cases t with
 |ref id a=>
  cases a with
  |nil=>simp only[uj,b id (by simp[bT])]
  |cons c a=>rfl
 |_=>rfl
theorem L4 {c:ah}:∀{l:bm ak},(∀a∈l,fZ h A a)->uk h c l=uk A c l
 |[],_=>rfl
 |x::d,b=>by simp only[uk,TY (b x ac),L4 (l:=d) (λa e=>b a (by grind))]
def Gn {v:ak} (a:fZ h A v):nu h f v k=nu A f v k:=by
 cases v with
 |ref id b=>simp only[nu,a id (by simp[bT])]
 |_=>rfl
theorem ak.IC {f:X} {a:bm ak} {id:X} (c:t∈a) (e:id∈t.ids):id∈(ak.eB f a).ids:=by obtain⟨b,d,rfl⟩:=hu.1 c;exact ak.Ar (l:=a) (i:=b) (ba d) e
def LK (a:fZ h A t):uh h f t k=uh A f t k:=by
 unfold uh;split
 ·rename_i b d;rw[Gn (v:=b) (λid c=>a id (by simpa[bT] using c))]
 exact Gn a
def LM {c:aie}:∀{l:bm ak} {b:ah},(∀a∈l,fZ h A a)->sq h c l b=sq A c l b
 |[],b,_=>by cases b<;>rfl
 |a::l,b,d=>by
  cases b<;>first|rfl|skip
  simp only[sq,LK (d a ac),LM (l:=l) (λa e=>d a (by simp[e]))]
def TO (a:fZ h A t):wI h w t k=wI A w t k:=by
 unfold wI;split
 ·rename_i e b i j;rw[LM (l:=b) (λg c id d=>a id (by
   have:=ak.IC (f:=e) c d;simpa[bT] using this))]
 exact LK a
theorem M9 {b:aie}:∀{τs:bm ah} {avs:bm ak},(∀a∈avs,fZ h A a)->o2 h b τs avs=o2 A b τs avs
 |[],[],_=>rfl
 |[],_::_,_=>rfl
 |_::_,[],_=>rfl
 |τ::e,d::as,c=>by simp only[o2,TO (c d ac),M9 (τs:=e) (avs:=as) (λa f=>c a (by grind))]
theorem sT {S:aie}:∀{ps:bm hl} {avs:bm ak},(∀b∈avs,fZ h A b)->fL h S ps avs=fL A S ps avs
 |[],[],_=>rfl
 |[],_::_,_=>rfl
 |p::d,[],_=>by cases p<;>rfl
 |.v q::d,e::as,a=>by simp only[fL,Gn (a e ac),sT (ps:=d) (avs:=as) (λb g=>a b (by grind))]
 |.c z r::d,e::as,a=>by
  have f:=sT (S:=S) (ps:=d) (avs:=as) (λb g=>a b (by grind));cases e with
  |eB u i=>
   have:o2 h S r i=o2 A S r i:=M9 (λb g id t=>a (.eB u i) ac id (ak.IC g t));grind [fL]
  |_=>rfl
 |.m q::d,e::as,a=>by
  have f:=sT (S:=S) (ps:=d) (avs:=as) (λb g=>a b (by grind));cases e with
  |ref id p=>
   cases p with
   |nil=>simp only[fL,a (.ref id []) ac id (by simp[bT]),f]
   |cons l p=>rfl
  |_=>rfl
 |.o q::d,e::as,a=>by
  have f:=sT (S:=S) (ps:=d) (avs:=as) (λb g=>a b (by grind));cases e with
  |ref id p=>
   cases p with
   |nil=>simp only[fL,a (.ref id []) ac id (by simp[bT]),f]
   |cons l p=>rfl
  |dh x=>grind [fL]
  |_=>rfl
 |.w B::d,e::as,a=>by
  have f:=sT (S:=S) (ps:=d) (avs:=as) (λb g=>a b (by grind));cases e with
  |view id p k j=>
   cases p with
   |nil=>simp only[fL,a (.view id [] k j) ac id (by simp[bT]),f]
   |cons l p=>rfl
  |_=>rfl
 |.n::d,e::as,a=>by
  have f:=sT (S:=S) (ps:=d) (avs:=as) (λb g=>a b (by grind));cases e with
  |dh x=>grind [fL]
  |_=>rfl
 |.s y i::d,e::as,a=>by
  have f:=sT (S:=S) (ps:=d) (avs:=as) (λb g=>a b (by grind));cases e with
  |ref id p=>grind [fL]
  |view id p k j=>grind [fL]
  |_=>simp only[fL,f]
theorem WX (a:fZ h A t):u7 tt h c t=u7 tt A c t:=by
 unfold u7;cases t with
 |ref id d=>simp only[a id (by simp[bT])]
 |app id d b i e=>simp only[a id (by simp[bT])]
 |val b j=>cases gZ tt c with|none=>rfl|some f=>cases b<;>rfl
 |dh g=>grind
 |_=>rfl
theorem XD (a:fZ h A t):vf tt h c t=vf tt A c t:=by
 unfold vf;cases t with
 |ref id d=>simp only[a id (by simp[bT])]
 |val b f=>cases kZ tt c with|none=>rfl|some e=>cases b<;>rfl
 |_=>rfl
def W7 {a:ak} {b:bA} (d:fZ h A t):va tt h c t a b=va tt A c t a b:=by
 unfold va;cases t with
 |ref id f=>simp only[d id (by simp[bT])]
 |val e g=>split<;>first|rfl|(cases e<;>rfl)
 |_=>split<;>rfl
theorem XB (a:ar h d=ar A d):xL tt an h d c=xL tt an A d c:=by grind [xL]
theorem IL {a:cI->bv b} {d e:ak} (f:fZ h A t):om tt h c t d e a=om tt A c t d e a:=by
 unfold om;cases t with
 |ref id g=>simp only[f id (by simp[bT])]
 |_=>rfl
theorem Xw {a:cI->bv b} {e:ak} (f:fZ h A t):rz tt h d c t e a=rz tt A d c t e a:=by
 unfold rz;cases t with
 |ref id g=>simp only[f id (by simp[bT])]
 |_=>rfl
theorem US {a:cI->bv b} {d e:ak} (f:fZ h A t):rh tt h c t d e a=rh tt A c t d e a:=by unfold rh;grind [IL]
theorem Xp {a:cI->bv b} {d:ak} (e:fZ h A t):ry tt h c t d a=ry tt A c t d a:=by
 unfold ry;cases t with
 |ref id f=>simp only[e id (by simp[bT])]
 |_=>rfl
def We {b:ak} (a:fZ h A t):u2 tt h c t b=u2 tt A c t b:=by
 unfold u2;cases t with
 |ref id d=>simp only[a id (by simp[bT])]
 |view id d g f=>simp only[a id (by simp[bT])]
 |val e j=>cases e<;>rfl
 |dh i=>rfl
 |_=>rfl
theorem W4 (a:fZ h A t):u9 tt h c t=u9 tt A c t:=by
 unfold u9;cases t with
 |ref id b=>simp only[a id (by simp[bT])]
 |addr id b=>simp only[a id (by simp[bT])]
 |val d f=>cases d<;>first|rfl|grind
 |dh e=>rfl
 |_=>rfl
theorem Vt (b:fZ h A t):uW tt h c t a=uW tt A c t a:=by
 unfold uW;cases t with
 |ref id d=>simp only[b id (by simp[bT])]
 |addr id d=>simp only[b id (by simp[bT])]
 |val e g=>cases e<;>first|rfl|grind
 |dh f=>rfl
 |_=>rfl
def Vv (b:fZ h A t):jg.xk tt h c t a=jg.xk tt A c t a:=by
 unfold jg.xk;cases t with
 |ref id e=>simp only[b id (by simp[bT])]
 |val d g=>cases d<;>rfl
 |dh f=>rfl
 |_=>rfl
def XR (a:fZ h A t):vj h t=vj A t:=by
 unfold vj;cases t with
 |ref id c=>simp only[a id (by simp[bT])]
 |val b e=>cases b<;>rfl
 |dh d=>rfl
 |_=>rfl
def ac8 {b a:bv ak} (d:fZ h A t):vE tt h c t b a=vE tt A c t b a:=by
 unfold vE;cases t with
 |ref id f=>simp only[d id (by simp[bT])]
 |val e i=>cases e<;>rfl
 |dh g=>rfl
 |_=>rfl
theorem Xj {a:ak} (b:ar h d=ar A d):vc tt an h d c a t=vc tt an A d c a t:=by grind [vc]
theorem S3 (a:ar h d=ar A d):ws tt an h d c=ws tt an A d c:=by grind [ws]
theorem UZ {e:Op} (b:∀a∈e.operands,fZ h A (g a)) (f:ar h d=ar A d):g3 tt an h g d e=g3 tt an A g d e:=by
 cases e
 case box T a=>grind [g3,yT]
 case buildSlice T n ps=>grind [g3,wE]
 case alloc T=>exact S3 f
 case makeSlice T l c=>exact Xj f
 case makeMap T p=>
  cases p
  ·exact XB f
  rfl
 case lookup T a k ok=>exact W7 (b a (by simp[bV]))
 case load T a=>exact W4 (b a (by simp[bV]))
 case nilCheck a=>exact XR (b a (by simp[bV]))
 case indexAddr T a i=>exact We (b a (by simp[bV]))
 case fieldAddr T a n=>exact Vt (b a (by simp[bV]))
 case field T a n=>exact Vv (b a (by simp[bV]))
 case slice T a u hi o=>
  cases o
  ·exact ac8 (b a (by simp[bV]))
  rfl
 case call c=>
  obtain⟨q,j,v⟩:=c;have s:∀a∈j.toList,fZ h A (g a):=λa t=>b a (by grind [aiY,bV,aiS]);clear b;simp only[g3];split
  ·grind [XD,WX]
  ·rfl
  ·rfl
  rfl
 case makeFunc m r cs=>cases m<;>rfl
 all_goals rfl
theorem U2 {n:Op} (j:∀b∈n.operands,fZ h A (g b)) (z:ar h d=ar A d):kw tt an h g d n=kw tt an A g d n:=by
 cases n
 case lookup f b k ok=>
  have a:=j b (by simp[bV]);simp only[kw];split
  ·rename_i w id e B aq r y;rw[r] at a;rw[a id (by simp[bT])]
  rfl
 case makeSlice f l c=>grind [kw]
 case unOp v f b=>cases v<;>rfl
 case indexAddr f b i=>
  have a:=j b (by simp[bV]);simp only[kw];revert a;cases g b with
  |ref id e=>intro a;simp only[a id (by simp[bT])]
  |view id e t s=>
   intro a;cases e with
   |nil=>simp only[a id (by simp[bT])]
   |cons=>rfl
  |val m p=>intro _;cases m<;>rfl
  |_=>intro _;rfl
 case load f b=>
  have a:=j b (by simp[bV]);simp only[kw];revert a;cases g b with
  |ref id e=>intro a;simp only[a id (by simp[bT])]
  |addr id e=>intro a;simp only[a id (by simp[bT])]
  |val m p=>intro _;cases m<;>rfl
  |_=>intro _;rfl
 case slice f b t s u=>
  have a:=j b (by simp[bV]);cases u
  ·simp only[kw];revert a;cases g b with
   |ref id e=>intro a;simp only[a id (by simp[bT])]
   |val m p=>intro _;cases m<;>rfl
   |_=>intro _;rfl
  rfl
 case call c=>
  obtain⟨x,q,C⟩:=c;have o:∀b∈q.toList,fZ h A (g b):=λb a=>j b (by grind [aiY,bV,aiS]);clear j;simp only[kw];split
  ·rename_i b f aq _;rw[aq] at o;have a:=o b ac;cases gZ tt f with
   |none=>
    revert a;cases g b with
    |ref id e=>intro a;simp only;rw[a id (by simp[bT])]
    |_=>intro _;rfl
   |some w=>
    revert a;cases g b with
    |ref id e=>intro a;simp only;rw[a id (by simp[bT])]
    |_=>intro _;rfl
  rfl
 all_goals rfl
theorem s7 {b:Callee} {a:bU bO} {c:bU bF} (d:n∈a.toList):n∈(Op.call {callee:=b,args:=a,argTypes:=c}).operands:=by grind [aiY,bV,aiS]
theorem Mr {t:gR} {s:bR} (a:aq t g h s Y=Y q) (e:∀l∈s.op.operands,fZ h A (g l)) (o:∀d,s.dst=Y d->ar h d=ar A d) (p:∀b∈q.put,ar h b.1=ar A b.1):aq t g A s Y=Y q:=by
 unfold aq at a|-;cases v:s.dst with
 |none=>
  rw[v] at a;simp only at a|-;split at a
  ·grind [ado,bV]
  ·grind [IL,bV]
  ·grind [IL,bV]
  ·grind [US,bV]
  ·grind [Xp,s7]
  omega
 |some d=>
  rw[v] at a;have o:=o d v;simp only at a|-;cases G:gw t.n t.pin d with
  |false=>grind
  |true=>
  rw[G] at a;simp only[bG] at a|-;split at a
  ·omega
  ·rename_i J z _ i;rw[i] at e;split at a
   case h_2=>cases a
   rename_i D x I
   try rw[I]
   try simp only
   have F:∀j∈z.toList.map g++x,fZ h A j:=λj k=>by
    rcases h9.1 k with k|k
    ·grind [s7]
    intro id N;exact e J (by simp[bV,aiS]) id (by grind [ak.IC])
   split at a
   ·cases a
   rename_i c K;cases E:bH c.f D with
   |false=>grind
   |true=>
   rw[E] at a;simp only[bG,nC] at a|-;rw[<-sT F];obtain⟨j,k,a⟩:=eO.1 a;obtain⟨m,H,a⟩:=eO.1 a;simp only[k,H,aD];cases C:nv d ⟨[],h⟩ (z.toList.map g++x) (gF c.ps j m) (iT c.rs (ik c.ps m)) with
   |false=>grind
   |true=>
   rw[C] at a;have L:nv d ⟨[],A⟩ (z.toList.map g++x) (gF c.ps j m) (iT c.rs (ik c.ps m))=bp:=(by rw[<-C];unfold nv;congr 1;rw[vV,g0,g0];cases a;have w:∀b∈iU d (iR (iT c.rs (ik c.ps m))) 0 (iT c.rs (ik c.ps m)),ar h b.1=ar A b.1:=λb w=>p b (by grind);grind);grind
  ·grind [Tc,s7]
  ·grind [Ug,s7]
  ·rename_i l i;rw[i] at e;have r:=e l (by simp[bV]);revert a r;cases g l with
   |val T S=>grind
   |dh R=>grind [Gq]
   |ref id u=>grind [Gq]
   |view id u O M=>grind [Gq]
   |_=>intro a _;exact a
  ·rename_i B y i;rw[i] at e;have p:∀b∈y.toList,fZ h A (g b.2):=λb w=>e b.2 (by simp only[bV,yA,eZ];grind);rw[<-a];simp only[sn,Of p,o]
  ·grind [Xw,bV]
  ·rename_i B l i;rw[i] at e;have r:=e l (by simp[bV]);rw[<-a];simp only[uf,o];revert r;cases g l with
   |ref id u=>
    intro r;cases u with
    |nil=>simp only[r id (by simp[bT])]
    |cons Q u=>rfl
   |_=>intro _;rfl
  ·rename_i B P y i;rw[i] at e;have p:∀j∈y.toList.map (λb=>g b.2),fZ h A j:=λj k=>by
    obtain⟨b,w,rfl⟩:=eZ.1 k;exact e b.2 (by simp only[bV,yA,eZ];grind)
   rw[<-a];simp only[sp,L4 p,o]
  grind [U2,UZ]
end
theorem RA {d:Op}:∀e∈rP d,e∈d.operands:=by
 intro e b;cases d<;>simp only[rP] at b<;>first|(cases b;done)|skip
 case assign y=>grind [bV]
 case box T y=>grind [bV]
 case build T ps=>grind [bV]
 case buildSlice T n ps=>grind [bV]
 case store T a v=>grind [bV]
 case mapUpdate T a k v=>grind [bV]
 case insert T a k v=>grind [bV]
 case entryStore T a k v=>grind [bV]
 case call c=>
  obtain⟨g,f,h⟩:=c;simp only at b;split at b
  ·exact s7 b
  ·exact s7 (List.mem_of_mem_drop b)
  grind
theorem D3 {e:aig} {f:X} {g:bO->ak}:∀{a:bm bO},∀id∈mm e f g a,∃x∈a,g x=.ref id []
 |[],id,h=>by cases h
 |x::a,id,h=>by
  simp only[mm] at h;split at h
  ·rename_i j i;rw[Bool.cond_eq_ite] at h;split at h
   ·rcases fR.1 h with rfl|h
    ·grind
    obtain⟨d,c,b⟩:=D3 id h;grind
   obtain⟨d,c,b⟩:=D3 id h;grind
  obtain⟨d,c,b⟩:=D3 id h;grind
theorem M4 {a:aig} {c:X} {g B:bO->ak}:∀{l:bm bO},(∀x∈l,g x=B x)->mm a c g l=mm a c B l
 |[],_=>rfl
 |x::l,b=>by simp only[mm,b x ac,M4 (l:=l) (λd e=>b d (by grind))]
theorem M2 {h A:bm (X×aG)} (c:∀id∈f,ar h id=ar A id) (a:ak):gX h f a=gX A f a:=by
 cases a with
 |ref id b=>
  cases b with
  |nil=>
   grind [ha,eQ,gX]
  |cons d b=>rfl
 |_=>rfl
theorem VI {h A:bm (X×aG)} (d:∀id∈f,ar h id=ar A id) (a:ak):iz h f a=iz A f a:=by
 by_cases c:∃b,a=.fe b
 ·obtain⟨b,rfl⟩:=c;grind [aiy,M2,iz]
 grind [HP,M2]
theorem M1 {h:bm (X×aG)}:∀id∈(gX h f d).ids,id∈d.ids:=by
 intro id b;rcases ml h f d with⟨e,c,rfl,_,_,a⟩|⟨a,_⟩|⟨a,_⟩
 ·rw[a] at b;have:(rp c).ids=[]:=(by unfold rp;split<;>rfl);grind
 ·rw[a] at b;cases b
 grind
def No {c:ak->ak} (d:∀a,∀id∈(c a).ids,id∈a.ids):∀{b:bm ak} {id:X},id∈ajd (b.map c)->id∈ajd b
 |[],_,h=>h
 |a::b,id,h=>by simp only[h8,ajd,h9] at h|-;exact h.imp (d a id) (No d)
theorem VH {h:bm (X×aG)}:∀id∈(iz h f d).ids,id∈d.ids:=by
 by_cases c:∃a,d=.fe a
 ·obtain⟨a,rfl⟩:=c;exactλid b=>No (λd=>M1) b
 grind [HP,M1]
theorem Uz {i:gR} {g B:bO->ak} {h A:bm (X×aG)} {b:bR} (c:jU i g h b Y=Y q) (o:∀a∈b.op.operands,g a=B a) (n:∀a∈b.op.operands,fZ h A (g a)) (t:∀d,b.dst=Y d->ar h d=ar A d) (y:∀l∈q.put,ar h l.1=ar A l.1):jU i B A b Y=Y q:=by
 unfold jU at c|-;rw[<-M4 (λa f=>o a (RA a f))];split
 ·rename_i j;rw[j] at c;rw[<-Mq o];grind [Mr]
 rename_i x;split at c
 ·grind
 have j:∀id∈mm i.p4 (uY b) g (rP b.op),ar h id=ar A id:=λid k=>(by obtain⟨a,f,q⟩:=D3 id k;exact n a (RA a f) id (by grind [bT]));generalize mm i.p4 (uY b) g (rP b.op)=e at c j|-;have r:nw A e=nw h e:=(by unfold nw;grind);rw[r];cases s:nw h e with
 |false=>grind
 |true=>
 rw[s] at c;simp only[bG] at c|-;rw[zV] at c|-;obtain⟨m,p,v⟩:=eO.1 c;have z:m.put=q.put:=(by grind);have w:aq i (λa=>iz A e (B a)) (del e A) b Y=Y m:=by
  rw[<-Mq (g:=λa=>iz h e (g a)) (λa f=>by grind [VI])];refine Mr p (λa f id k=>?_) (λd u=>?_) (λl C=>?_)
  ·rw[mV,mV,n a f id (VH id k)]
  ·rw[mV,mV,t d u]
  grind [mV]
 grind
end
section
def qd (D:bU bR) (a:X):aie:=match D[a]? with
 |some b=>(b.after.toList.filter (alM .any)).map (·.on)
 |none=>[]
def x9 (a:X):cI:=⟨Y (a,.dh bW),[],[],[]⟩
def DK (ic:gR) {d:Type} (G C:aie) (a:aO) (c:bR) (e:cI->bv d):bv d:=
 jU ic (aT a.g) a.h c λb=>bif rm G C (aT a.g) c b then e b else bo
def it (ic:gR) (D:bU bR) (G C:X->aie) (e:X) (b:aO) (d:cI):Prop:=
 ∃a,D[e]?=Y a/\((kK D b a bp/\jU ic (aT b.g) b.h a Y=Y d/\rm (G e) (C e) (aT b.g) a d=bp)\/(kK D b a bq/\∃c,a.dst=Y c/\gw ic.n ic.pin c=bp/\d=x9 c))
def sU (ic:gR) {k:Type} (D:bU bR) (G C:X->aie):aie->aO->(aO->bv k)->bv k
 |[],a,b=>b a
 |i::e,a,b=>match D[i]? with
  |none=>bo
  |some f=>match f.guard with
   |none=>DK ic (G i) (C i) a f λj=>sU ic D G C e (j.app a) b
   |some (
    l,tA)=>match(D[l]?).bind (·.dst),f.dst with
    |some d,Y c=>match gt a.g d with
     |.val .bool m=>bif gw ic.n ic.pin c then
      (match m==tA with
      |true=>DK ic (G i) (C i) ⟨(d,.val .bool tA)::a.g,a.h⟩ f λj=>sU ic D G C e (j.app ⟨(d,.val .bool tA)::a.g,a.h⟩) b
      |false=>sU ic D G C e ⟨(c,.dh bW)::(d,.val .bool (!tA))::a.g,a.h⟩ b) else bo
     |.dh (.tuple _)=>bif gw ic.n ic.pin c then sU ic D G C e ⟨(c,.dh bW)::a.g,a.h⟩ b else bo
     |_=>bo
    |_,_=>bo
def n3 (ic:gR) (D:bU bR) (G C:X->aie):aie->aO->aO->Prop
 |[],a,b=>ko a b
 |i::d,a,b=>∃c,it ic D G C i a c/\n3 ic D G C d (c.app a) b
theorem S7 {tt:bm (bF×ah)} {id:X} {f:aZ} (b:n8 tt l e a c (.ref id (f::j)) d Y=Y q):q.keep=[(id,f::j),(id,[])]/\q.S=[id]/\ar q.put id=ar e id:=by
 have o:∀{h:ak} {g:aG},ar e id=Y g->ar e a=bo->Y (cI.mk (Y (a,h)) [id] [(id,f::j),(id,[])] [(a,⟨.eK,()⟩),(id,g)])=Y q->q.keep=[(id,f::j),(id,[])]/\q.S=[id]/\ar q.put id=ar e id:=(by intro h g i p k;cases k;have m:¬a=id:=λq=>(by grind);exact⟨bn,bn,by rw[ey,az m,ey,au bn,i]⟩);unfold n8 at b;split at b
 ·rename_i r t s u n;obtain⟨aq,_,_⟩:=Jp n;cases aq;unfold yL at b;split at b
  case h_2=>cases b
  grind [ajv]
 unfold oR at b;split at b
 ·cases b
 rename_i v _;simp only at b;split at b
 case h_2=>cases b
 grind [ajv]
theorem Gl {id:X} (e:sf V h=Y (id,j)):∃d f c g b a,h.op=.call {callee:=.builtin .append,args:=d,argTypes:=f}/\d.toList=[c,g]/\j=b::a/\V c=.ref id (b::a):=by unfold sf at e;grind
theorem Mp {ic:gR} {g:bO->ak} {id:X} {d:bU bO} {o:bU bF} {p:bO} {c:aZ} {b:bm aZ} (k:h.op=.call {callee:=.builtin .append,args:=d,argTypes:=o}) (m:d.toList=[N,p]) (s:j=c::b) (r:g N=.ref id (c::b)) (a:aq ic g e h Y=Y q):q.keep=[(id,j),(id,[])]/\q.S=[id]/\ar q.put id=ar e id:=by
 unfold aq at a;cases i:h.dst with
 |none=>grind
 |some f=>
  rw[i] at a;simp only at a;cases l:gw ic.n ic.pin f with
  |false=>grind
  |true=>
  rw[l] at a;simp only[bG,k,m] at a;grind [S7]
theorem Mt {ic:gR} {id:X} (x:sf V h=Y (id,j)) (c:jU ic V e h Y=Y q):q.keep=[(id,j),(id,[])]/\ar q.put id=ar e id:=by
 obtain⟨M,K,k,N,i,f,p,r,C,o⟩:=Gl x;unfold jU at c;split at c
 ·grind [Mp]
 generalize mm ic.p4 (uY h) V (rP h.op)=b at c;cases z:nw e b with
 |false=>grind
 |true=>
 rw[z] at c;simp only[bG] at c;rw[zV] at c;obtain⟨l,a,m⟩:=eO.1 c;cases B:l.keep.all (λs=>!eQ s.1 b) with
 |false=>grind
 |true=>
 rw[B] at m;cases m;have d:iz e b (.ref id (i::f))=.ref id (i::f)\/iz e b (.ref id (i::f))=.dead:=by
  rw[HP (by grind)];rcases ml e b (.ref id (i::f)) with⟨s,J,q,_⟩|⟨q,_⟩|⟨q,_⟩
  ·cases q
  ·grind
  grind
 rcases d with d|d
 ·obtain⟨E,_,F⟩:=Mp (g:=λk=>iz e b (V k)) p r C (by show iz e b (V k)=_;rw[o];exact d) a;refine⟨E,?_⟩;show ar l.put id=_;rw[F,mV];have I:id∉b:=λH=>by
   grind [ha,ajm]
  grind
 exfalso;unfold aq at a;cases A:h.dst with
 |none=>grind
 |some v=>
  rw[A] at a;simp only at a;cases D:gw ic.n ic.pin v with
  |false=>grind
  |true=>
  rw[D] at a;simp only[bG,p,r] at a;split at a
  case h_2=>cases a
  rename_i L O t u w G;cases w;cases y:bH t u with
  |false=>grind
  |true=>
  rw[y] at a;simp only[bG,o,d,n8,vp,oR] at a;grind
section
variable {ic:gR} {D:bU bR} {G C:X->aie}
theorem DJ.ok {e:bv (X×ak)} {a:aia} (c:DJ e a=bp):∀d b,e=Y (d,b)->a=Y d:=by
 intro d b g;subst g;cases a with
 |none=>cases c
 |some f=>rw[fu (show bH d f=bp from c)]
theorem Mv {c:bR} {d:cI->bv b} {e:b} (j:DK ic f w i c d=Y e):∃a,jU ic (aT i.g) i.h c Y=Y a/\rm f w (aT i.g) c a=bp/\d a=Y e:=by unfold DK at j;grind [ajv,Ux]
def mJ (b:aie) (a:ak):Prop:=(∀id∈a.ids,id∈b)\/(∃id,a=.ref id []/\id+500000∈b)\/∃id c,qV a=Y (id,c)/\id<500000/\id+1000000*c∈b/\∀d∈a.ids,d=id\/d∈b
theorem sY.ok (a:sY f d=bp):∃id b,qV d=Y (id,b)/\id<500000/\id+1000000*b∈f/\∀c∈d.ids,c=id\/c∈f:=by
 unfold sY at a;split at a
 case h_2=>cases a
 rename_i id b e;simp only[bk] at a;refine⟨id,b,e,gS a.1,ha.1 a.2.1,λc g=>?_⟩;simp_all [fu,ha,je,g0]
theorem pd.ok (a:pd f d=bp):∃id,d=.ref id []/\id+500000∈f:=by unfold pd at a;grind [ha]
theorem mJ.ok {c:aie} {b:ak} (a:(pe b.ids c||pd c b)=bp):mJ c b:=by
 rcases je _ _▸a with a|a
 ·exact .inl (pe.ok a)
 exact .inr (.inl (pd.ok a))
theorem mJ.Zc (a:(pe d.ids f||(pd f d||sY f d))=bp):mJ f d:=by
 simp only[je] at a;rcases a with a|a|a
 ·exact .inl (pe.ok a)
 ·exact .inr (.inl (pd.ok a))
 exact .inr (.inr (sY.ok a))
theorem MM (b:sP j=Y a):1<=a:=by unfold sP at b;grind
theorem TX {id:X} (b:qV d=Y (id,a)):1<=a:=by
 unfold qV at b;split at b
 ·split at b
  ·rename_i c;cases b;exact MM c
  grind
 ·split at b
  ·rename_i c;cases b;exact MM c
  grind
 ·grind
 grind
def KT (e:Op) (c:aie) (b:ak):Prop:=
 (∃f d g a,e=.extract f d/\b=.fe g/\g[d]?=Y a/\td a=bp/\mJ c a)\/
 ((∀f d,e≠.extract f d)/\BL b=bp/\mJ c b/\((∀id∈b.ids,id∈c\/∃a,1<=a/\id<500000/\id+1000000*a∈c)\/xw e=bp))
theorem ot.ok {h:Op} {f:aie} {e:ak} (a:ot h f e=bp):KT h f e:=by
 unfold ot at a;split at a
 ·rename_i d b;split at a
  case h_2=>cases a
  rename_i q;split at a
  case h_2=>cases a
  rename_i c o;rw[bk] at a;exact .inl ⟨d,b,q,c,bn,bn,o,a.1,.ok a.2⟩
 rename_i p;simp only[bk,je] at a;refine .inr ⟨λd b i=>p d b i,a.1,?_⟩;rcases a.2 with a|⟨a,j⟩|a
 ·exact⟨.inl (pe.ok a),.inl λb g=>.inl (pe.ok a b g)⟩
 ·exact⟨.inr (.inl (pd.ok j)),.inr a⟩
 obtain⟨id,c,k,l,m,n⟩:=sY.ok a;refine⟨.inr (.inr ⟨id,c,k,l,m,n⟩),.inl λb g=>?_⟩;grind
theorem rm.ok {i b:aie} {j:bO->ak} {g:bR} {c:cI} (a:rm i b j g c=bp):(∀d f,c.d=Y (d,f)->g.dst=Y d)/\(∀l∈g.op.operands,KT g.op i (j l))/\(∀id∈c.S,id<500000/\(id∈b/\(id+500000∈b\/k0 c.keep (.ref id [])=bp)\/id+1500000∈b))/\(∀h∈c.put,h.1<500000/\(h.1∈b\/h.1+1500000∈b))/\(∀d f,c.d=Y (d,f)->mJ i f)/\(∀e∈b,1000000<=e->∃id k,sf j g=Y (id,k)/\e %1000000=id+500000/\id<500000/\xX k (e/1000000)=bp):=by
 unfold rm at a;simp only[bk] at a;obtain⟨⟨⟨⟨m,t⟩,n⟩,o⟩,u,p⟩:=a;refine⟨DJ.ok m,λl y=>?_,λid q=>?_,λh s=>?_,λd f w=>?_,λe r x=>?_⟩
 ·grind [ot.ok,ajm]
 ·have:=g0.1 n id q;simp_all [gS,ha,bk,je]
 ·have:=g0.1 o h s;simp_all [gS,ha,bk,je]
 ·grind [mJ.Zc]
 have:=g0.1 p e r;rw[je] at this;rcases this with a|a
 ·have:e<1000000:=gS a;omega
 split at a
 case h_2=>cases a
 rename_i id k v;simp only[bk] at a;grind [ai0,Nat.le_of_ble_eq_true]
def qI (d:aie) (a c:ak):Prop:=(BL a=bp->mJ d a->c=a)/\∀f,a=.fe f->∃g,c=.fe g/\∀(e:X) (b:ak),f[e]?=Y b->td b=bp->mJ d b->g[e]?=Y b
def qI.refl (a:t=d):qI f d t:=⟨λ_ _=>a,λc b=>⟨c,by rw[a,b],λ_ _ a _ _=>a⟩⟩
theorem qI.ot {a:aie} {h:Op} {c d:ak} (e:qI a c d) (g:ot h a c=bp):jg.ot h a d=bp:=by
 rcases ot.ok g with⟨r,p,k,l,i,b,f,j,n⟩|⟨i,b,f,j⟩
 ·obtain⟨q,m,o⟩:=e.2 k b;grind [jg.ot]
 rw[e.1 b f];exact g
theorem Uy {ic:gR} {b:bO->ak} {g:bm (X×aG)} {c f:bm ak} (o:h.op=.extract n a) (m:jU ic V e h Y=Y q) (i:V n=.fe c) (j:b n=.fe f) (k:c[a]?=Y d) (l:f[a]?=Y d):jU ic b g h Y=Y q:=by simp_all [kw,g3,DR,aq,mm,uY,rP,jU]
theorem UA {ic:gR} {a:bO->ak} {d:bm (X×aG)} (b:xw h.op=bp) (f:jU ic V e h Y=Y q) (g:∀c∈h.op.operands,V c=a c):jU ic a d h Y=Y q:=by
 unfold xw at b;split at b
 ·simp_all [kw,g3,aq,mm,uY,rP,jU,bV]
 grind
theorem Xs (b:.tmp a∈h.op.operands):a∈h.looksAt D:=
 r4 _ (List.mem_filterMap.2 ⟨.tmp a,by grind,bn⟩)
theorem Xt {b:bA} (c:h.guard=Y (m,b)) (d:(D[m]?).bind (·.dst)=Y a):a∈h.looksAt D:=
 lm _ (by grind)
theorem RE {l:aO} {c:bA} (n:∀k∈h.looksAt D,qI f (gt i.g k) (gt l.g k)) (a:kK D i h c):kK D l h c:=by
 unfold kK at*;cases d:h.guard with
 |none=>grind
 |some p=>
  obtain⟨o,r⟩:=p;rw[d] at a;simp only at a|-;cases e:(D[o]?).bind (·.dst) with
  |none=>grind
  |some m=>
   rw[e] at a;simp only at a|-;have j:=n m (Xt d e);split at a
   ·rename_i s b;rw[j.1 (by rw[b];rfl) (by rw[b];exact .inl (by simp[bT])),b];exact a
   ·rename_i q b;rw[j.1 (by rw[b];rfl) (by rw[b];exact .inl (by simp[bT])),b];exact a
   grind
theorem it.congr {f:aO} (e:it ic D G C a i q) (m:∀c,D[a]?=Y c->∀o∈c.looksAt D,qI (G a) (gt i.g o) (gt f.g o)) (w:∀c,D[a]?=Y c->∀id,id∈G a\/id∈C a\/c.dst=Y id->ar i.h id=ar f.h id) (c1:∀id j,1<=j->id<500000->id+1000000*j∈G a->ar i.h id=ar f.h id):it ic D G C a f q:=by
 obtain⟨c,x,e⟩:=e;have m:=m c x;have w:=w c x;refine⟨c,x,e.imp (λ⟨s,t,l⟩=>⟨RE m s,?_⟩) (λ⟨s,t⟩=>⟨RE m s,t⟩)⟩;obtain⟨bx,f2,ce,f4,f5,P⟩:=rm.ok l;have n:∀b∈c.op.operands,qI (G a) (aT i.g b) (aT f.g b):=by
  intro b d;cases b with
  |tmp o=>exact m o (Xs d)
  |const ap=>exact .refl (by cases ap<;>rfl)
  |func bs=>exact .refl bn
  |global Q=>exact .refl bn
 constructor
 ·by_cases S:∃b F,c.op=.extract b F
  ·obtain⟨b,F,U⟩:=S;have d:b∈c.op.operands:=(by grind [bV]);rcases f2 b d with⟨J,H,y,j,k,r,z,ci,co⟩|⟨k,_⟩
   ·rw[U] at k;cases k;obtain⟨d0,aw,d1⟩:=(n b d).2 y r;grind [Uy]
   grind
  have A:∀b∈c.op.operands,BL (aT i.g b)=bp/\mJ (G a) (aT i.g b)/\((∀id∈(aT i.g b).ids,id∈G a\/∃j,1<=j/\id<500000/\id+1000000*j∈G a)\/xw c.op=bp):=λb d=>by
   rcases f2 b d with⟨J,H,y,j,k,_⟩|⟨_,Q⟩
   ·grind
   omega
  have v:∀b∈c.op.operands,aT i.g b=aT f.g b:=λb d=>((n b d).1 (A b d).1 (A b d).2.1).symm;by_cases c2:xw c.op=bp
  ·grind [UA]
  have V:∀b∈c.op.operands,∀id∈(aT i.g b).ids,ar i.h id=ar f.h id:=λb d id cv=>(by grind);refine Uz t v V (λO R=>w O (.inr (.inr R))) (λI B=>?_);rcases(f4 I B).2 with e|e
  ·grind
  obtain⟨id,p,K,a3,a4,_⟩:=P _ e aa;have:=(f4 I B).1;obtain⟨av,an,b,a0,am,aw,L,M,_,N⟩:=Gl K;grind [aik,s7,bT]
 unfold rm at*;have:(c.op.operands.toList.all λb=>ot c.op (G a) (aT f.g b))=bp:=(by simp only[bk] at l;rw[g0];intro b d;exact(n b (by grind)).ot (g0.1 l.1.1.1.2 b d));have cs:∀id p,sf (aT i.g) c=Y (id,p)->sf (aT f.g) c=Y (id,p):=λid p v=>by
  obtain⟨av,an,b,a0,am,aw,L,M,bl,N⟩:=Gl v;have E:b∈c.op.operands:=(by grind [s7]);have ds:aT f.g b=aT i.g b:=by
   rcases f2 b E with⟨J,H,y,j,k,_⟩|⟨_,r,z,_⟩
   ·grind
   exact(n b E).1 r z
  grind [sf]
 have dl:Jr (C a) (aT f.g) c=bp:=by
  simp only[bk] at l;have u:=l.2.2;unfold Jr at u|-;rw[g0] at u|-;intro ad T;have:=u ad T;rw[je] at this|-;refine this.imp (λe=>e) (λe=>?_);split at e
  case h_2=>cases e
  grind
 grind
theorem it.DL (g:it ic D G C a i q) {r:bR} (F:D[a]?=Y r):(∀f c,q.d=Y (f,c)->r.dst=Y f)/\(∀id∈q.S,id<500000/\(id∈C a/\(id+500000∈C a\/k0 q.keep (.ref id [])=bp)\/id+1500000∈C a))/\(∀k∈q.put,k.1<500000/\(k.1∈C a\/k.1+1500000∈C a))/\(∀f c,q.d=Y (f,c)->mJ (G a) c)/\(∀id,id<500000->id+1500000∈C a->ar (q.app i).h id=ar i.h id)/\(∀id b e,id∈q.S->id<500000->id+1000000*b+500000∈C a->1<=b->qV e=Y (id,b)->(∀p∈e.ids,p=id\/p∉q.S)->ka q.S q.keep e=bp):=by
 obtain⟨L,n,g⟩:=g;rw[F] at n;cases n;rcases g with⟨_,x,g⟩|⟨_,f,A,_,rfl⟩
 ·obtain⟨u,f2,v,f4,f5,w⟩:=rm.ok g;refine⟨u,v,f4,f5,λid B m=>?_,λid b e l B m K z E=>?_⟩
  ·grind [cI.sg,Mt]
  obtain⟨o,M,s,H,I,J⟩:=w _ m aa;obtain rfl:o=id:=aa;obtain⟨y,_⟩:=Mt s x;rw[y];refine abk ?_ z E;have:(o+1000000*b+500000)/1000000=b:=aa;grind
 refine⟨λt c j=>?_,by simp[x9],by simp[x9],λt c j=>?_,λid _ _=>rfl,λid b e l=>by cases l⟩
 ·cases j;exact A
 cases j;exact .inl (by simp[bT])
structure yD (f S:aie) (keep:bm (X×bm aZ)):Prop where
 a:∀id∈S,id∉f
 b:∀id∈S,id+500000∈f->k0 keep (.ref id [])=bp
 c:∀id∈S,∀c v,1<=c->id<500000->id+1000000*c∈f->qV v=Y (id,c)->(∀j∈v.ids,j=id\/j∉S)->ka S keep v=bp
theorem El (b:aie) (c:bm (X×bm aZ)) (a:ak):fc b c a=.dead\/fc b c a=a:=by grind [ka,fc]
theorem Ig (b:td (fc f g d)=bp):fc f g d=d:=by
 rcases El f g d with a|a
 ·rw[a] at b;cases b
 omega
theorem If (a:∀id∈d.ids,id∉f):fc f g d=d:=by grind [ha,alD,FE,id,aiv]
theorem Wv (a:∀id∈d.ids,id∉f):fG f g d=d:=by grind [ha,alD,Kq,id,aiv]
theorem NE (e:mJ w d) (i:yD w f g):fc f g d=d:=by
 rcases e with e|⟨id,rfl,e⟩|⟨id,o,k,p,q,l⟩
 ·exact If λid s h=>i.a id h (e id s)
 ·by_cases h:id∈f
  ·unfold fc;rw[show ka f g (.ref id [])=k0 g (.ref id []) from rfl,i.b id h e];simp
  grind [If,aik,bT]
 by_cases h:id∈f
 ·unfold fc;rw[i.c id h o d (TX k) p q k (λn t=>(l n t).imp (λe=>e) (λe h=>i.a n h e))];simp
 exact If λm r u=>by
  rcases l m r with j|j
  ·grind
  exact i.a m u j
theorem Ai (b:mJ w d) (e:yD w f g):fG f g d=d:=by
 cases d with
 |fe k=>
  rcases b with b|⟨id,c,_⟩|⟨id,j,c,_⟩
  ·exact Wv λid h i=>e.a id i (b id h)
  ·cases c
  cases c
 |_=>exact NE b e
theorem ND (a:aie) (d:bm (X×bm aZ)) (b:aie) (e:bm (X×bm aZ)) (c:ak):fc a d (fc b e c)=fc b e (fc a d c):=by grind [El]
theorem NC (b:∀a,d≠.fe a):fG f g d=fc f g d:=by
 cases d with
 |fe a=>grind
 |_=>rfl
theorem Ek (b:aie) (d:bm (X×bm aZ)) (c:aie) (e:bm (X×bm aZ)) (a:ak):fG b d (fG c e a)=fG c e (fG b d a):=by
 by_cases g:∃f,a=.fe f
 ·obtain⟨f,rfl⟩:=g;simp_all [b4,h7,ND,oI,fG]
 grind [El,NC,ND]
theorem Wx (l d:aie) (e:bm (X×bm aZ)) (b:ak):qI l (fG d e b) b:=by
 by_cases j:∃a,b=.fe a
 ·obtain⟨a,rfl⟩:=j;refine⟨λc _=>?_,λr m=>⟨a,bn,λq o p i _=>?_⟩⟩
  ·simp only[fG] at c|-;have c:∀g∈a.map (fc d e),td g=bp:=g0.1 c;congr 1;rw[h7 (λg n=>Ig (c _ (eZ.2 ⟨g,n,bn⟩))),alF]
  simp only[fG,ak.fe.injEq] at m;grind [Ig,amz]
 have i:∀a,b≠.fe a:=λa f=>j ⟨a,f⟩;rw[NC i];have h:∀a,fc d e b≠.fe a:=λa f=>(by grind [El]);refine⟨λc _=>?_,λa f=>absurd f (h a)⟩;have:td (fc d e b)=bp:=by
  generalize fc d e b=k at c h;cases k with
  |fe a=>grind
  |_=>exact c
 grind [Ig]
theorem Wy (a:ak) (d:yD w f g):qI w a (fG f g a):=by refine⟨λ_ c=>Ai c d,λk b=>?_⟩;subst b;refine⟨_,bn,λj e h _ i=>?_⟩;grind [NE]
def Li (e:∀b c,q.d=Y (b,c)->b≠a):gt (q.app i).g a=fG q.S q.keep (gt i.g a):=by
 rw[cI.ub];cases f:q.d with
 |none=>rfl
 |some h=>obtain⟨b,c⟩:=h;simp only;rw[az (e b c f)]
def W3 {c:bm (X×b)} {id:X} (d:∀a∈c,a.1≠id):ar c id=bo:=by
 induction c with
 |nil=>rfl
 |cons a c f=>
  obtain⟨g,h⟩:=a;rw[ey,az (d (g,h) ac),f (λa e=>d a (by simp[e]))]
def Lj {id:X} (a:id∉q.S) (b:∀c∈q.put,c.1≠id):ar (q.app i).h id=ar i.h id:=by rw[cI.sg,az a,W3 b];rfl
def sJ (b c:aie):bA:=b.all λa=>!(eQ a c)
theorem sJ.ok (b:sJ f w=bp):∀a∈f,a∉w:=λa c d=>by have:=g0.1 b a c;rw[ha.2 d] at this;cases this
def dl (b:bR):aie:=match b.dst with
 |some a=>[a]
 |none=>[]
theorem xK (b:h.dst=Y a):a∈dl h:=by unfold dl;rw[b];simp
def sK (b c:aie):bA:=b.all λa=>b2 1000000 a||!(eQ a c)
theorem sK.ok (a:sK f w=bp):∀b∈f,b<1000000->b∉w:=λb c e d=>by
 have:=g0.1 a b c;rw[ha.2 d,je] at this;rcases this with a|a
 ·have:=gS a;omega
 cases a
def ru (e d f b:aie):bA:=(b.all λa=>ca a 1000000||(!(eQ (a %1000000-500000) e)&&(!(eQ (a %1000000-500000) d)&&!(eQ (a %1000000-500000) f))))&&d.all λc=>ca c 1000000||(!(eQ (c %1000000) b)&&(!(eQ (c %1000000+1500000) b)||eQ (c+500000) b))
theorem ru.ok {d i:aie} (a:ru d w i f=bp):(∀id,id<500000->id+1500000∈f->id∉d/\id∉w/\id∉i)/\∀id b,1<=b->id<500000->id+1000000*b∈w->id∉f/\(id+1500000∈f->id+1000000*b+500000∈f):=by
 unfold ru at a;rw[bk] at a;have e:∀{g:X} {h:aie},(!(eQ g h))=bp->g∉h:=λ{g h} a c=>(by rw[ha.2 c] at a;cases a);constructor
 ·intro id k c;have:=g0.1 a.1 _ c;rw[je] at this;rcases this with a|a
  ·have:id+1500000<1000000:=gS a;omega
  rw[(aa:(id+1500000) %1000000-500000=id)] at a;simp only[bk] at a;exact⟨e a.1,e a.2.1,e a.2.2⟩
 intro id b l k c;have:=g0.1 a.2 _ c;rw[je] at this;rcases this with a|a
 ·have:id+1000000*b<1000000:=gS a;omega
 rw[(aa:(id+1000000*b) %1000000=id)] at a;simp only[bk,je] at a;refine⟨e a.1,λj=>?_⟩;rcases a.2 with a|a
 ·exact absurd j (e a)
 exact ha.1 a
def uo (D:bU bR) (G C:X->aie) (a b:X):bA:=
 match D[a]?,D[b]? with
 |some d,Y c=>d.apart D c&&sK (C b) (dl d++(G a++C a))&&sK (C a) (dl c++G b)&&(ru (dl d) (G a) (C a) (C b)&&ru (dl c) (G b) (C b) (C a))
 |_,_=>bq
def it.xE (b:it ic D G C a i q) {id:X} (m:500000<=id):ar (q.app i).h id=ar i.h id:=by obtain⟨k,c,j⟩:=b;have b:it ic D G C a i q:=⟨k,c,j⟩;obtain⟨_,d,e,_⟩:=b.DL c;exact Lj (λf=>by have:=(d id f).1;omega) (λl g q=>by have:=(e l g).1;omega)
def it.s2 (d:it ic D G C a i q) {id:X} (e:id∉C a):ar (q.app i).h id=ar i.h id:=by
 obtain⟨o,f,n⟩:=d;have d:it ic D G C a i q:=⟨o,f,n⟩;obtain⟨_,g,j,_,k,_⟩:=d.DL f;by_cases c:id<500000/\id+1500000∈C a
 ·exact k id c.1 c.2
 refine Lj (λl=>?_) (λp m q=>?_)
 ·obtain⟨aw,b⟩:=g id l;rcases b with b|b
  ·exact e b.1
  exact c ⟨aw,b⟩
 subst q;obtain⟨aw,b⟩:=j p m;rcases b with b|b
 ·exact e b
 exact c ⟨aw,b⟩
theorem it.swap {e:cI} (l:uo D G C m a=bp) (o:it ic D G C m i e) (B:it ic D G C a (e.app i) q):it ic D G C a i q/\it ic D G C m (q.app i) e/\ko (q.app (e.app i)) (e.app (q.app i)):=by
 unfold uo at l;split at l
 case h_2=>cases l
 rename_i a3 a0 ap an;simp only[bk] at l;obtain⟨⟨⟨c2,J⟩,K⟩,d0,d1⟩:=l;have J:=sK.ok J;have K:=sK.ok K;obtain⟨cv,U⟩:=ru.ok d0;obtain⟨c1,V⟩:=ru.ok d1;obtain⟨ce,ci,co⟩:=Oper.apart_spec c2;obtain⟨bs,T,em,eq,ex,bx⟩:=o.DL ap;obtain⟨i1,N,d5,d6,d7,av⟩:=B.DL an;have d9:∀p∈a0.looksAt D,gt (e.app i).g p=fG e.S e.keep (gt i.g p):=λp A=>Li λj w z y=>ce j (bs j w z) (y▸A);have d8:∀p∈a3.looksAt D,gt (q.app i).g p=fG q.S q.keep (gt i.g p):=λp A=>Li λj w z y=>co j (i1 j w z) (y▸A);have L:∀j H t I,q.d=Y (j,H)->e.d=Y (t,I)->j≠t:=λj H t I z dl y=>ci t (bs t I dl) (y▸i1 j H z);have E:∀id,id<1000000->id∈G m\/id∈C m\/a3.dst=Y id->id∉C a:=λid h c s=>J id s h (by
  rcases c with c|c|c
  ·simp[c]
  ·simp[c]
  simp[xK c])
 have bl:∀id,id<1000000->id∈G a\/a0.dst=Y id->id∉C m:=λid h c s=>K id s h (by
  rcases c with c|c
  ·simp[c]
  simp[xK c])
 have d4:∀id,id<1000000->id∈C a->id∉C m:=λid h c s=>E id h (.inr (.inl s)) c;have el:yD (G a) e.S e.keep:=by
  refine⟨λid k f=>?_,λid k f=>?_,λid k r R l n f M x=>?_⟩
  ·obtain⟨aw,b⟩:=T id k;rcases b with b|b
   ·exact bl id aa (.inl f) b.1
   exact(c1 id aw b).2.1 f
  ·obtain⟨aw,b⟩:=T id k;rcases b with b|b
   ·exact b.2.resolve_left (bl _ aa (.inl f))
   exact bx id 1 (.ref id []) k aw (by rw[(aa:id+1000000*1+500000=id+1500000)];exact b) (bc _) rfl (λd2 x=>.inl (by simpa[bT] using x))
  obtain⟨_,b⟩:=T id k;obtain⟨a4,Q⟩:=V id r l n f;rcases b with b|b
  ·exact absurd b.1 a4
  exact bx id r R k n (Q b) l M x
 have ek:yD (G m) q.S q.keep:=by
  refine⟨λid k f=>?_,λid k f=>?_,λid k r R l n f M x=>?_⟩
  ·obtain⟨aw,b⟩:=N id k;rcases b with b|b
   ·exact E id aa (.inl f) b.1
   exact(cv id aw b).2.1 f
  ·obtain⟨aw,b⟩:=N id k;rcases b with b|b
   ·exact b.2.resolve_left (E _ aa (.inl f))
   exact av id 1 (.ref id []) k aw (by rw[(aa:id+1000000*1+500000=id+1500000)];exact b) (bc _) rfl (λd2 x=>.inl (by grind [bT]))
  obtain⟨_,b⟩:=N id k;obtain⟨a4,Q⟩:=U id r l n f;rcases b with b|b
  ·grind
  exact av id r R k n (Q b) l M x
 have v:it ic D G C a i q:=by
  refine B.congr (λO u p A=>?_) (λO u id n=>?_) (λid r l n f=>?_)
  ·grind [Wx]
  ·rw[an] at u;cases u;rcases cQ id 500000 with h|h
   ·refine o.s2 ?_;rcases n with c|c|c
    ·grind
    ·grind
    grind
   exact o.xE h
  exact o.s2 (V id r l n f).1
 have F:it ic D G C m (q.app i) e:=by
  refine o.congr (λO u p A=>?_) (λO u id n=>?_) (λid r l n f=>?_)
  ·grind [Wy]
  ·rw[ap] at u;cases u;rcases cQ id 500000 with h|h
   ·exact(v.s2 (E id aa n)).symm
   exact(v.xE h).symm
  exact(v.s2 (U id r l n f).1).symm
 refine⟨v,F,?_,λid=>?_⟩
 ·intro p;rw[cI.ub q,cI.ub e (q.app i),cI.ub e i,cI.ub q i];cases ds:e.d with
  |none=>
   cases ad:q.d with
   |none=>grind [Ek]
   |some P=>
    obtain⟨j,w⟩:=P;simp only;split
    ·grind [Ai]
    grind [Ek]
  |some d3=>
   obtain⟨t,cs⟩:=d3;cases ad:q.d with
   |none=>
    simp only;split
    ·grind [Ai]
    grind [Ek]
   |some P=>
    obtain⟨j,w⟩:=P;have L:j≠t:=L j w t cs ad ds;simp only;by_cases o:j=p
    ·subst o;rw[au bn,az (Ne.symm L),au bn];grind [Ai]
    rw[az o,az o];split
    ·grind [Ai]
    grind [Ek]
 rcases cQ id 500000 with h|h
 ·by_cases s:id∈C a
  ·have am:=d4 id aa s;rw[F.s2 am,cI.sg q,cI.sg q,o.s2 am]
  rw[B.s2 s,cI.sg e,cI.sg e,v.s2 s]
 rw[B.xE h,o.xE h,F.xE h,v.xE h]
def it.seq {c:aO} (b:ko i c) (d:it ic D G C a i q):it ic D G C a c q:=
 d.congr (λ_ _ e _=>.refl (b.g e).symm) (λ_ _ id _=>b.h id) (λid _ _ _ _=>b.h id)
def n3.seq:∀{c:aie} {d e f:aO},ko d e->n3 ic D G C c d f->n3 ic D G C c e f
 |[],_,_,_,a,h=>a.symm.trans h
 |_::_,_,_,_,a,⟨b,g,i⟩=>⟨b,g.seq a,n3.seq (a.app b) i⟩
theorem n3.front {g:X} {h:aie}:∀{b:aie} {a d:aO},(∀x∈b,uo D G C x g=bp)->n3 ic D G C (b++g::h) a d->∃c,it ic D G C g a c/\n3 ic D G C (b++h) (c.app a) d
 |[],a,d,_,⟨c,e,f⟩=>⟨c,e,f⟩
 |x::b,a,d,i,⟨k,e,f⟩=>by obtain⟨j,o,p⟩:=n3.front (λq r=>i q (by grind)) f;obtain⟨l,m,n⟩:=it.swap (i x ac) e o;exact⟨j,l,k,m,p.seq n⟩
end
end
section
section
variable {ic:gR} {F:bU bR} {iA hZ:X->aie}
theorem Ac {D:Type} {y:aO->bv D} {C:D}:∀{w:aie} {b:aO},sU ic F iA hZ w b y=Y C->∃c,n3 ic F iA hZ w b c/\y c=Y C
 |[],b,a=>⟨b,ko.refl b,a⟩
 |i::w,b,a=>by
  simp only[sU] at a;split at a
  ·cases a
  rename_i o m;split at a
  ·rename_i A;obtain⟨k,s,t,u⟩:=Mv a;obtain⟨c,f,j⟩:=Ac u;exact⟨c,⟨k,⟨o,m,.inl ⟨by grind [kK],s,t⟩⟩,f⟩,j⟩
  rename_i I x A;split at a
  case h_2=>cases a
  rename_i r e G z;split at a
  case h_3=>cases a
  case h_2=>
   rename_i K B;cases l:gw ic.n ic.pin e with
   |false=>grind
   |true=>
   rw[l] at a;obtain⟨c,f,j⟩:=Ac a;refine⟨c,⟨x9 e,⟨o,m,.inr ⟨?_,e,z,l,bn⟩⟩,f⟩,j⟩;grind [kK]
  rename_i d B;cases l:gw ic.n ic.pin e with
  |false=>grind
  |true=>
  rw[l] at a;simp only[bG] at a;have p:∀q,d=q->ko ⟨(r,.val .bool q)::b.g,b.h⟩ b:=λq v=>⟨λJ=>by
   grind [iQ],λ_=>rfl⟩
  split at a
  ·rename_i v;obtain rfl:d=x:=(by grind);obtain⟨k,s,t,u⟩:=Mv a;obtain⟨c,f,j⟩:=Ac u;have E:it ic F iA hZ i ⟨(r,.val .bool d)::b.g,b.h⟩ k:=by
    refine⟨o,m,.inl ⟨?_,s,t⟩⟩;unfold kK;rw[A];simp only[G,(p d bn).g r,B];simp
   exact⟨c,⟨k,E.seq (p d bn),f.seq ((p d bn).app k)⟩,j⟩
  rename_i v;have H:d=!x:=by cases d<;>cases x<;>first|rfl|cases v
  obtain⟨c,f,j⟩:=Ac a;refine⟨c,⟨x9 e,⟨o,m,.inr ⟨?_,e,z,l,bn⟩⟩,f.seq ((p _ H).app (x9 e))⟩,j⟩;grind [kK]
structure lN where
 i:X
 d:aie
 ar:aie
 ps:aie
 iA:aie
 hZ:aie
def sN:aie->aie->bA
 |[],[]=>bp
 |a::c,b::d=>bH a b&&sN c d
 |_,_=>bq
theorem p2:∀{c d:aie},sN c d=bp->c=d
 |[],[],_=>rfl
 |a::c,e::d,b=>by simp only[sN,bk] at b;rw[fu b.1,p2 b.2]
 |[],_::_,b=>by cases b
 |_::_,[],b=>by cases b
def qh (F:bU bR) (iA hZ:X->aie) (a:lN):bA:=match F[a.i]? with
 |some b=>sN (dl b) a.d&&sN (b.looksAt F) a.ar&&sN (qd F a.i) a.ps&&sN (iA a.i) a.iA&&sN (hZ a.i) a.hZ
 |none=>bq
def GL (a b:lN):bA:=sJ a.d b.ar&&sJ a.d b.d&&sJ b.d a.ar&&sK b.hZ (a.d++(a.iA++a.hZ))&&sK a.hZ (b.d++b.iA)&&(ru a.d a.iA a.hZ b.hZ&&ru b.d b.iA b.hZ a.hZ)
theorem T7 {j h:lN} (b:qh F iA hZ j=bp) (a:qh F iA hZ h=bp) (c:GL j h=bp):uo F iA hZ j.i h.i=bp:=by
 unfold qh at b a;split at b
 case h_2=>cases b
 rename_i v q;split at a
 case h_2=>cases a
 rename_i u p;simp only[bk] at b a;obtain⟨⟨⟨⟨w,x⟩,D⟩,y⟩,z⟩:=b;obtain⟨⟨⟨⟨i1,r⟩,A⟩,s⟩,t⟩:=a;unfold GL at c;rw[<-p2 w,<-p2 x,<-p2 y,<-p2 z,<-p2 i1,<-p2 r,<-p2 s,<-p2 t] at c;simp only[bk] at c;obtain⟨⟨⟨⟨⟨e,f⟩,k⟩,l⟩,m⟩,n,o⟩:=c;unfold uo;simp only[q,p,l,m,n,o,akU];have e:=sJ.ok e;have f:=sJ.ok f;have k:=sJ.ok k;unfold Oper.apart;rw[bk];constructor
 ·cases g:v.dst with
  |none=>rfl
  |some d=>
   have B:=e d (xK g);have C:=f d (xK g);simp only[bk,tE];refine⟨?_,?_⟩
   ·grind
   rw[bne_iff_ne];grind [xK]
 cases g:u.dst with
 |none=>rfl
 |some d=>
  simp_all [Bool.not_eq_true,List.contains_iff_mem,tE,xK]
def lu (a b:X):bA:=bH (Nat.land (Nat.shiftRight a b) 1) 1
def Gg (a b:X):X:=alN a (Nat.shiftLeft 1 b)
theorem yP:lu a m=bp↔a.testBit m=bp:=by simp_all [of_decide_eq_true,aij,fu,Nat.shiftRight_eq_div_pow,Nat.and_one_is_mod,Nat.testBit_eq_decide_div_mod_eq,bH,lu]
theorem LA {b:X} (c:lu (alN m b) a=bp):lu m a=bp\/lu b a=bp:=by simp_all [amA,yP]
theorem Lz {c:X} (b:lu (Gg m c) a=bp):lu m a=bp\/a=c:=by
 rcases LA b with b|b
 ·grind
 simp_all [yP,Nat.shiftLeft_eq,ng,alO,of_decide_eq_true]
theorem BU (b:lu 0 a=bp):False:=by grind [yP]
def yK (a:aig):aie->X
 |[]=>0
 |p::b=>alN (Gg ((jg.ar a p).getD 0) p) (yK a b)
theorem Lb {e:aig}:∀{d:aie} {b:X},lu (yK e d) b=bp->∃p∈d,b=p\/∃c,jg.ar e p=Y c/\lu c b=bp
 |[],_,a=>(BU a).elim
 |p::d,b,a=>by
  rcases LA a with a|a
  ·refine⟨p,ac,?_⟩;rcases Lz a with a|a
   ·cases g:jg.ar e p with
    |none=>grind [BU]
    |some c=>grind
   omega
  obtain⟨i,h,f⟩:=Lb a;grind
def BX (c:X):X->bm lN->aig->bm lN->bA
 |_,_,_,[]=>bp
 |sm,d,b,a::f=>
  a.ps.all (λg=>lu sm g)&&(d.all λe=>lu (yK b a.ps) e.i||GL e a)&&!(lu sm a.i)&&ca a.i c&&BX c (Gg sm a.i) (a::d) ((a.i,yK b a.ps)::b) f
def kY (a:bm lN):aie:=a.map (·.i)
def ui (F:bU bR) (iA hZ:X->aie) (a:bm lN):bA:=a.all (qh F iA hZ)&&BX F.size 0 [] [] a&&((bI F.size).all λb=>eQ b (kY a))&&b2 a.length F.size
def Bs (F:bU bR) (a:X->Prop):Prop:=∀b,a b->∀c∈qd F b,a c
theorem qh.ps {b:lN} (a:qh F iA hZ b=bp):qd F b.i=b.ps:=by
 unfold qh at a;split at a
 case h_2=>cases a
 simp only[bk] at a;grind [p2]
theorem GG:∀{q j:bm lN} {o:X} {s:aig},BX F.size o j s q=bp->(∀r∈q,qh F iA hZ r=bp)->(∀r∈j,qh F iA hZ r=bp)->(∀h,lu o h=bp->h∈kY j)->(∀h∈kY j,lu o h=bp)->(∀e v,jg.ar s e=Y v->∀b,Bs F b->b e->∀a,lu v a=bp->b a)->∀f g p,kY q=f++g::p->(∀e∈qd F g,e∈kY j\/e∈f)/\(∀b,Bs F b->(∀e∈qd F g,b e)->∀a,(a∈kY j\/a∈f)->¬b a->uo F iA hZ a g=bp)/\g∉kY j/\g∉f/\g<F.size
 |[],_,_,_,t,_,_,_,_,M,f,g,p,m=>by cases f<;>cases m
 |r::q,j,o,s,t,z,S,d,J,M,f,g,p,m=>by
  simp only[BX,bk,g0,tE] at t;obtain⟨⟨⟨⟨E,G⟩,x⟩,H⟩,I⟩:=t;have L:=z r ac;have K:=qh.ps L;have x:r.i∉kY j:=λk=>(by grind);have N:∀b,Bs F b->(∀e∈qd F r.i,b e)->∀a,lu (yK s r.ps) a=bp->b a:=(by grind [Lb]);cases f with
  |nil=>
   cases m;refine⟨λe l=>.inl (d _ (E e (K▸l))),λb n l a c y=>?_,x,ac,gS H⟩;rcases c with c|c
   ·obtain⟨P,O,rfl⟩:=eZ.1 c;have:=G P O;rcases je _ _▸this with d|d
    ·grind
    grind [T7]
   grind
  |cons Q f=>
   simp only[kY,h8,nY,hN] at m;obtain⟨rfl,m⟩:=m;obtain⟨B,C,w,R,D⟩:=GG I (λa c=>z a (by grind)) (λa c=>by
    grind) (λh k=>by
    rcases Lz k with k|rfl
    ·exact hW _ (d h k)
    ·exact nc ..) (λh k=>by
    rw[yP];show(o|||(1<<<r.i)).testBit h=bp;rw[amA,je];rcases fR.1 k with rfl|k
    ·grind
    ·left;exact yP.1 (J h k)) (λe v u b n l a c=>by
    rw[ey] at u;split at u
    ·rename_i A;cases u;subst A;exact N b n (n _ l) a c
    grind) f g p m
   refine⟨λe l=>?_,λb n l a c y=>C b n l a ?_ y,λd=>w (hW _ d),λd=>?_,D⟩
   ·rcases B e l with d|d
    ·rcases fR.1 d with rfl|d
     ·grind
     exact .inl d
    grind
   ·rcases c with c|c
    ·exact .inl (hW _ c)
    rcases fR.1 c with rfl|c
    ·exact .inl (nc ..)
    grind
   rcases fR.1 d with rfl|d
   ·exact w (nc ..)
   grind
variable {E:fA} {C:eY}
theorem it.wp (h:ic.ae E C) (d:it ic F iA hZ a i q) {b:Act} (g:gI C i b.tmps v) {next:Act->bC->Prop} (p:∀c j,c.defers=b.defers->gI C (q.app i) c.tmps j->next c j):wpOp E.P F o a next b v:=by
 obtain⟨w,r,d⟩:=d;obtain⟨k,t,l,e⟩:=id g;unfold wpOp;simp only[r];rcases d with⟨f,m,_⟩|⟨f,u,n,s,rfl⟩
 ·rw[f.ok e,au bn];refine .inl (Mu h m b v g _ _ ?_);grind
 rw[f.ok e,az ac,n];exact p _ v bn ⟨k,t,l,e.put (gw.ok h s) (.dh bW)⟩
def left (a:aie) (c:bU bA):aie:=a.filter λb=>!c.getD b bp
theorem NL {b:bU bA} {c:aie} (g:left f b=w++a::c) (h:a∉w) (i:a∉c) (j:a<b.size):left f (b.setIfInBounds a bp)=w++c:=by
 have:left f (b.setIfInBounds a bp)=(left f b).filter λd=>!(d==a):=by
  unfold left;rw[Bv];refine pt λd _=>?_;by_cases e:a=d
  ·simp_all
  rw[alP bp e];grind
 grind [ajH,List.filter_cons_of_neg]
theorem Ju (c:F[a]?=Y h):m∈qd F a↔∃b∈h.after,alM .any b=bp/\b.on=m:=by grind [qd]
theorem S6 (d4:ic.ae E C) {R:bm lN} (dl:f=kY R) (r:ui F iA hZ R=bp) {t:aO} {ds:bm Deferred} (am:∀d g,d.defers=ds->gI C t d.tmps g->o .normal d g):∀(q:X) (a:bU bA) (d:Act) (g:bC) (w:aO),a.size=F.size->(left f a).length<=q->Bs F (λe=>a.getD e bp=bp/\e<F.size)->n3 ic F iA hZ (left f a) w t->gI C w d.tmps g->d.defers=ds->wpAny E.P .any F o q a d g:=by
 unfold ui at r;simp only[bk,g0,iq] at r;obtain⟨⟨⟨em,r⟩,an⟩,_⟩:=r;have I:=GG r em ac (λe d5=>(BU d5).elim) (by simp[kY]) (λH f6 c=>by cases c);rw[<-dl] at I an;have Q:∀i,i<F.size->i∈f:=λi M=>ha.1 (an i M);have fT:∀{a:bU bA} {e:X},a.size=F.size->e<F.size->a.getD e bp=bp->a.getD e bq=bp:=(by grind);have a4:∀{a:bU bA} {i:X},a.size=F.size->i∈alQ .any F a->i<F.size/\a.getD i bp=bq/\∃m,F[i]?=Y m/\∀b∈m.after,alM .any b=bp->a.getD b.on bq=bp:=(by grind [Array.getElem?_eq_some_iff,mem_ready]);have first:∀{a:bU bA} {i:X} {K:aie},a.size=F.size->left f a=i::K->i∈alQ .any F a:=by
  intro a i K D N;have u:i∈left f a:=(by grind);have d3:i∈f:=(ht.1 u).1;have eq:a.getD i bp=bq:=(by simpa using(ht.1 u).2);obtain⟨h,n,z⟩:=yu d3;obtain⟨ci,_,_,x,cs⟩:=I h i n z;obtain⟨m,v⟩:∃m,F[i]?=some m:=⟨_,Bo cs⟩;refine mem_ready.2 ⟨eq,m,v,λb k s=>?_⟩;have p:b.on∈qd F i:=(Ju v).2 ⟨b,k,s,bn⟩;have f1:b.on∈h:=by
   rcases ci _ p with c|c
   ·cases c
   omega
  have f3:∀j∈h,a.getD j bp=bp:=by
   intro j G;cases ex:a.getD j bp with
   |true=>rfl
   |false=>
    obtain⟨J,bl,ad⟩:=yu G;have:left f a=left J a++j::(left bl a++left (i::n) a):=(by show akh _ f=_;rw[z,ad];simp only[left,pq,n0,ex,i4,nY];rfl);rw[N] at this;cases c2:left J a with
    |nil=>grind
    |cons f7 fp=>
     rw[c2] at this;cases this;have:i∈left J a:=(by grind);exact absurd (by rw[ad];exact r4 _ (ht.1 this).1) x
  have a3:b.on<F.size:=(by have:b.on∈f:=(by grind);obtain⟨ft,fz,f0⟩:=yu this;grind);grind
 intro q
 induction q with
 |zero=>
  intro a d g w D d7 L l A B;have d9:left f a=[]:=alR.1 aa;rw[d9] at l;refine⟨?_,am d g B (A.seq l)⟩;cases el:alQ .any F a with
  |nil=>rfl
  |cons i fp=>
   obtain⟨y,cv,_⟩:=a4 D (i:=i) (by grind);have:i∈left f a:=ht.2 ⟨Q i y,by grind⟩;grind
 |succ q fn=>
  intro a d g w D d7 L l A B;constructor
  ·intro el;cases N:left f a with
   |nil=>rw[N] at l;exact am d g B (A.seq l)
   |cons i K=>
    grind
  intro i M;obtain⟨y,cv,m,v,T⟩:=a4 D M;have u:i∈left f a:=ht.2 ⟨Q i y,by grind⟩;obtain⟨h,n,z⟩:=yu (Q i y);obtain⟨_,co,_,x,_⟩:=I h i n z;have ap:i∉n:=(by intro u;obtain⟨bs,bx,f2⟩:=yu u;have:=(I (h++i::bs) i bx (by grind)).2.2.2.1;grind);have O:left f a=left h a++i::left n a:=(by grind [left,akh]);have d1:∀j∈left h a,uo F iA hZ j i=bp:=(by intro j G;obtain⟨fl,f5⟩:=ht.1 G;refine co _ L (λH p=>?_) j (.inr fl) (λG=>by grind);obtain⟨b,k,s,rfl⟩:=(Ju v).1 p;have U:=T b k s;have a3:b.on<a.size:=(by grind);grind);rw[O] at l;obtain⟨b,k,f4⟩:=n3.front d1 l;refine k.wp d4 A (λce fs d2 d0=>fn _ ce fs (b.app w) (by grind) ?_ ?_ ?_ d0 (d2.trans B))
  ·rw[NL O (λc=>x (ht.1 c).1) (λc=>ap (ht.1 c).1) aa];grind
  ·intro e ⟨av,d6⟩ H p;by_cases a0:i=e
   ·subst a0;obtain⟨b,k,s,rfl⟩:=(Ju v).1 p;have U:=T b k s;have a3:b.on<a.size:=by
     grind
    have V:=getD_set_true (i:=i) U;refine⟨?_,aa⟩;have d8:b.on<(a.setIfInBounds i bp).size:=(by grind);have aq:∀S,(a.setIfInBounds i bp).getD b.on S=(a.setIfInBounds i bp)[b.on]:=λS=>(by simp only[Array.getD,d8,ajr];rfl);grind
   rw[alP bp a0] at av;obtain⟨V,c1⟩:=L e ⟨av,d6⟩ H p;refine⟨?_,c1⟩;by_cases ek:i=H
   ·grind
   rw[alP bp ek];exact V
  rw[NL O (λc=>x (ht.1 c).1) (λc=>ap (ht.1 c).1) aa];omega
theorem J.draw (A:E.P.follows .mixedOrders=bp) (x:ic.ae E C) {g:aO->bv b} {h:b} {id:X} {a:bm lN} (c:ui F iA hZ a=bp) (e:sU ic F iA hZ (kY a) i g=Y h) (r:∀j,g j=Y h->z .normal j):J E C (.region id F bp) i z:=by
 obtain⟨d,K,p⟩:=Ac e;intro n H f u;refine wp_region_any A ?_;have L:left (kY a) (alA F.size bq)=kY a:=(by refine mL.2 λB w=>?_;unfold ui at c;simp only[bk,g0] at c;obtain⟨k,l,q⟩:=yu w;have:=(GG c.1.1.2 c.1.1.1 ac (λD y=>(BU y).elim) (by simp[kY]) (λQ R e=>by cases e) k B l q).2.2.2.2;simp_all);have O:(kY a).length<=F.size:=(by simp_all [gS,e9,bk,kY,ui]);refine S6 x bn c (t:=d) (ds:=[]) (λI S v s=>⟨d,r d p,s,v⟩) F.size _ n _ i ac (by grind) ?_ (by grind) ?_ u
 ·intro D ⟨M,N⟩;simp_all
 obtain⟨m,G,o,f⟩:=f;exact⟨m,G,o,f.V0 (hj.refl H).drew⟩
end
end
section
def jW:bm aZ->ah->ah
 |[],e=>jH e
 |.deref::a,.optr d=>.optr (jW a d)
 |.unst::a,.st d=>.st (jW a d)
 |.fst::a,.pr b c=>.pr (jW a b) c
 |.snd::a,.pr b c=>.pr b (jW a c)
 |_,e=>e
def og:bm aZ->ah->bA
 |[],e=>rn e
 |.deref::a,.optr b=>og a b
 |.unst::a,.st b=>og a b
 |.fst::a,.pr c _=>og a c
 |.snd::a,.pr _ d=>og a d
 |_,_=>bq
def uZ:∀(a:bm aZ) (e:ah),og a e=bp->(jW a e).den=e.den
 |[],e,_=>rq e
 |.deref::a,.optr f,b=>uZ a f b
 |.unst::a,.st f,b=>uZ a f b
 |.fst::a,.pr c d,b=>by show((jW a c).den×d.den)=(c.den×d.den);rw[uZ a c b]
 |.snd::a,.pr c d,b=>by show(c.den×(jW a d).den)=(c.den×d.den);rw[uZ a d b]
def xm:∀(a:bm aZ) (c:ah),og a c=bp->(jW a c).size=c.size
 |[],c,_=>sS c
 |.deref::a,.optr f,b=>rfl
 |.unst::a,.st f,b=>xm a f b
 |.fst::a,.pr d e,b=>by simp only[jW,aiG,xm a d b]
 |.snd::a,.pr d e,b=>by simp only[jW,aiG,xm a e b]
def oe (b:bm aZ) (a:ah) (c:og b a=bp) (d:a.den):(jW b a).den:=cast (uZ b a c).symm d
theorem AZ {E:eD->X->Prop} {w:bC}:∀{p:bm aZ} {τ:ah} {m:ah8} {x:τ.den} {h:aie} (c:og p τ=bp),aS E w τ m x h->h.Nodup->∃f f2:aie,(∀a,a∈h↔a∈f\/a∈f2)/\(∀a∈f,a∉f2)/\f.Nodup/\∀g:eD->X->Prop,(∀o a,E o a->g o a)->(∀a∈f2,g .bg a)->aS g w (jW p τ) m (oe p τ c x) f
 |[],τ,m,x,h,c,i,e=>⟨[],h,ac,ac,List.nodup_nil,λg j n=>vx j c i n⟩
 |.deref::p,.optr y,m,x,h,c,i,e=>by
  obtain⟨a,L,l,G,r,rfl,H,I,J,K⟩:=i;rw[kk] at e;obtain⟨f,f2,aw,s,t,u⟩:=AZ (p:=p) (τ:=y) c K e.2;refine⟨a::f,f2,λb=>by simp only[fR,aw];grind,λb d=>?_,?_,λg j n=>?_⟩
  ·rcases fR.1 d with rfl|d
   ·exactλl=>e.1 ((aw b).2 (.inr l))
   exact s b d
  ·rw[kk];exact⟨λl=>e.1 ((aw a).2 (.inl l)),t⟩
  have F:=xm p y c;exact⟨a,L,f,G,r,bn,by rw[F];exact H,I,by rw[F];exact J,u g j n⟩
 |.unst::p,.st y,m,x,h,c,i,e=>AZ (p:=p) (τ:=y) (x:=x) c i e
 |.fst::p,.pr k a,m,x,h,c,i,e=>by
  obtain⟨z,A,rfl,r,B⟩:=i;rw[jO] at e;obtain⟨f,f2,aw,s,t,u⟩:=AZ (p:=p) (τ:=k) c r e.1;refine⟨f++A,f2,λb=>by simp only[h9,aw];grind,λb d=>?_,?_,λg j n=>?_⟩
  ·rcases h9.1 d with d|d
   ·exact s b d
   exactλl=>e.2.2 b ((aw b).2 (.inr l)) b d bn
  ·rw[jO];exact⟨t,e.2.1,λb d v D=>e.2.2 b ((aw b).2 (.inl d)) v D⟩
  have q:oe (.fst::p) (.pr k a) c x=(oe p k c x.1,x.2):=GB (uZ p k c).symm bn _ x;refine⟨f,A,bn,?_,?_⟩
  ·rw[xm p k c,q];exact u g j n
  rw[xm p k c,q];exact B.mono (λo a C=>⟨j o a C,cq _ _⟩) λ_ _=>cq _ _
 |.snd::p,.pr k a,m,x,h,c,i,e=>by
  obtain⟨z,A,rfl,r,B⟩:=i;rw[jO] at e;obtain⟨f,f2,aw,s,t,u⟩:=AZ (p:=p) (τ:=a) c B e.2.1;refine⟨z++f,f2,λb=>by simp only[h9,aw];grind,λb d=>?_,?_,λg j n=>?_⟩
  ·rcases h9.1 d with d|d
   ·exactλl=>e.2.2 b d b ((aw b).2 (.inr l)) rfl
   exact s b d
  ·rw[jO];exact⟨e.1,t,λb d v D=>e.2.2 b d v ((aw v).2 (.inl D))⟩
  have q:oe (.snd::p) (.pr k a) c x=(x.1,oe p a c x.2):=GB bn (uZ p a c).symm _ x;refine⟨z,f,bn,?_,?_⟩
  ·rw[q];exact r.mono (λo a C=>⟨j o a C,cq _ _⟩) λ_ _=>cq _ _
  rw[q];exact u g j n
def p3 (id:X):ak->ak
 |.ref b []=>.ref b []
 |a=>bif a.fo [id] then .dead else a
def HR (id:X) (b:bm aZ) (a:aG) (d:og b a.1=bp) (st:aO):aO:=⟨st.g.map λc=>(c.1,p3 id c.2),(id,⟨jW b a.1,oe b a.1 d a.2⟩)::del [id] st.h⟩
def VK (id:X) (a:ak):(∃b,a=.ref b []/\p3 id a=.ref b [])\/(p3 id a=.dead)\/(p3 id a=a/\a.fo [id]=bq):=by
 have d:∀a:ak,p3 id a=(bif a.fo [id] then .dead else a)->(∃b,a=.ref b []/\p3 id a=.ref b [])\/(p3 id a=.dead)\/(p3 id a=a/\a.fo [id]=bq):=by
  intro a c;cases e:a.fo [id] with
  |true=>rw[e] at c;exact .inr (.inl c)
  |false=>rw[e] at c;exact .inr (.inr ⟨c,bn⟩)
 cases a with
 |ref b f=>
  cases f with
  |nil=>exact .inl ⟨b,bn,bn⟩
  |cons g f=>exact d _ rfl
 |_=>exact d _ rfl
def VL:∀(a:bm aZ) (c:ah) (b:ah8),a≠[]->og a c=bp->cW (jW a c) b=cW c b
 |[],_,_,h,_=>absurd rfl h
 |.deref::a,.optr f,b,_,_=>rfl
 |.unst::a,.st f,b,_,_=>rfl
 |.fst::a,.pr d e,b,_,_=>rfl
 |.snd::a,.pr d e,b,_,_=>rfl
section
variable {C:eY} {st:aO} {A:ah6} {w:bC}
def cN.VE (o:cN C st A w O x y) {id:X} (J:j≠[]) (m:ar st.h id=Y P) (c:og j P.1=bp):gI C (HR id j P c st) A w:=by
 obtain⟨R,T,u⟩:=o.tree id P m;obtain⟨v,f2,aw,L,N,Q⟩:=AZ c R T;have G:∀n a,bb O C.B n a->bb (λa=>O a\/a∈f2) C.B n a:=by
  intro n a b;cases n
  ·exact .inl b
  exact b.imp .inl (λc=>c)
 have D:=o.eC (S:=[id]) (keep:=[]) (new:=[(id,⟨jW j P.1,oe j P.1 c P.2⟩)]) (rtn:=x) (fpn:=λ_=>v) (w':=w) (I':=λa=>O a\/a∈f2) ⟨bc _,bn,bn,bn,λ_ _ _=>rfl,λ_ _=>.refl _ _,λ_ c=>.inl c,λa b=>b.imp (λc=>c) λb=>⟨(u a ((aw a).2 (.inr b))).2.2.1,.inr ⟨id,ac,P,m,(aw a).2 (.inr b)⟩⟩,(λd U e=>by
    rw[ey] at e;split at e
    ·rename_i f;subst f;cases e;refine⟨.inl ac,Q _ G (λa b=>.inr b),N,λa b=>⟨λl=>?_,(u a ((aw a).2 (.inl b))).2.2.1,.inr ⟨id,ac,P,m,(aw a).2 (.inl b)⟩⟩⟩;rcases l with l|l
     ·exact(u a ((aw a).2 (.inl b))).1 l
     exact L a b l
    cases e),
   (λd ad U V e r z=>by
    rw[ey] at e r;split at e
    ·split at r
     ·omega
     cases r
    cases e),(λf q=>by cases q),(λf q=>by cases q)⟩
 refine⟨_,_,_,{D with tmp:=λi=>?_}⟩;have s:=o.tmp i;have k:=D.tmp i;rw[show gt (aO.mk (aiz [id] [] st.g) ([(id,⟨jW j P.1,oe j P.1 c P.2⟩)]++del [id] st.h)).g i=fG [id] [] (gt st.g i) from p6 _ _ _ _] at k;have H:gt (HR id j P c st).g i=p3 id (gt st.g i):=HZ (p3 id) rfl st.g i;rw[H];generalize gt st.g i=F at s k;generalize A.getD i bW=V at s k;rcases VK id F with⟨d,rfl,f⟩|f|⟨f,K⟩
 ·rw[f];by_cases e:d=id
  ·subst e;cases s with|ref E I=>
   rw[m] at E;cases E;obtain⟨rfl,rfl,rfl⟩:=aiJ.1 I;have:=cP.ref (M:=bb (λa=>O a\/a∈f2) C.B) (w:=w) (h:=[(d,(⟨jW j P.1,oe j P.1 c P.2⟩:aG))]++del [d] st.h) (rt:=fh [(d,(⟨jW j P.1,oe j P.1 c P.2⟩:aG))] x x) (fp:=fh [(d,(⟨jW j P.1,oe j P.1 c P.2⟩:aG))] (λ_=>v) y) (id:=d) (p:=[]) (t:=⟨jW j P.1,oe j P.1 c P.2⟩) (τ':=jW j P.1) (loc:=bo) (cs:=x d)
    (by rw[yC,ey,au bn]) (aiJ.2 ⟨bn,bn,by unfold fh;split<;>rfl⟩)
   rw[VL j P.1 _ J c] at this;exact this
  have b:bH id d=bq:=by
   cases b:bH id d with
   |false=>rfl
   |true=>exact absurd (fu b).symm e
  have z:(ak.ref d []).fo [id]=bq:=(by simp[aiv,bT,eQ,b]);rw[Kq z] at k;exact k
 ·rw[f];exact .dead _
 rw[f];rw[Kq K] at k;exact k
end
end
section
section
variable {E:fA} {C:eY} {ic:gR}
def yp.store (g:yp p c) {w:bC} {b o:X} {v:Value} (k:v.cells=#[v]) (h:v.oneCell'=bp) (e:iC w b o (o+1)):(storeVar c ⟨b,o,bo⟩ v).run p w=.ok () (w.setCells b o [v]):=by obtain⟨n,x,m,aw,l,q,r,s,t⟩:=g;have j:=run_storeCells_cells (P:=p) b o [v] 0 w (λd a=>by simpa using(e (o+d) aa (by simp at a;omega)).1) (λd a=>by simpa using(e (o+d) aa (by simp at a;omega)).2) (λu f=>by rw[gp] at f;subst f;exact h);have i:(ai2 c).run p w=.ok 1 w:=(by simp[ai2,aiM,aw,l]);simp only[storeVar,k,bY,i,b1];simpa using j
def Kt (a:h.guard=bo) (b:X->bv bA):akS h b=bp:=by unfold akS;rw[a]
end
end
section
def Gz (ic:gR) (q:bU bR) (c:aO):bv aO:=
 match q.toList with
 |[d,e,f]=>match d.guard,e.guard,f.guard with
  |none,bo,bo=>match d.op,d.dst,e.op,e.dst,f.op,f.dst with
   |.makeFunc (.func k) p j,Y b,.alloc i,Y a,.store l (.tmp m) (.tmp o),bo=>match ar ic.tt i with
    |some (.fn _ _)=>bif (bH i l&&(bH a m&&(bH b o&&!(bH a b))))&&(p.isEmpty&&(gw ic.n ic.pin a&&gw ic.n ic.pin b)) then
     Y ⟨(a,.hz (.eB k (j.toList.map (aT c.g))))::(b,.eB k (j.toList.map (aT c.g)))::c.g,c.h⟩ else bo
    |_=>bo
   |_,_,_,_,_,_=>bo
  |_,_,_=>bo
 |_=>bo
section
variable {E:fA} {C:eY} {ic:gR}
theorem J.yU (am:ic.ae E C) {N:bU bR} {id:X} {ap:aO} (f:Gz ic N i=Y ap) (fl:z .normal ap):J E C (.region id N bq) i z:=by
 have an:=λa3=>gw.ok am (d:=a3);have ft:=am.1;unfold Gz at f;split at f
 case h_2=>cases f
 rename_i r s t ii;split at f
 case h_2=>cases f
 rename_i dl ds d0;split at f
 case h_2=>cases f
 rename_i a Q q m k l a4 bl cs f1 cv i8 c1 jp c2;split at f
 case h_2=>cases f
 rename_i i3 lc A;cases hcond:(bH k a4&&(bH l bl&&(bH m cs&&!(bH l m))))&&(Q.isEmpty&&(gw ic.n ic.pin l&&gw ic.n ic.pin m)) with
 |false=>grind
 |true=>
 rw[hcond] at f;simp only[bG,eS] at f;subst f;simp only[bk] at hcond;obtain⟨⟨bs,bx,ce,go⟩,gs,ci,co⟩:=hcond;obtain rfl:=fu bs;obtain rfl:=fu bx;obtain rfl:=fu ce;have ib:¬l=m:=λgt=>(by grind);have U:=an _ ci;have ad:=an _ co;rw[ft] at A;obtain⟨fT,kd,kg,le,f8,f9,_,gc,ge⟩:=E.ok k _ A;have A:yp E.P k:=⟨fT,.nilFunc,_,f8,f9,gc,bn,ge,bn⟩;have lb:ajw.cells.size=1:=rfl;have em:Q=#[]:=(by grind);subst em;obtain rfl:N=#[r,s,t]:=(by grind);rintro e w ⟨G,O,I,K⟩ d7;have gf:(#[r,s,t]:bU bR)[0]?=Y r:=rfl;have gi:(#[r,s,t]:bU bR)[1]?=Y s:=rfl;have gl:(#[r,s,t]:bU bR)[2]?=Y t:=rfl;have f5:(bN e.eval r).run E.P w=.ok (.value (.func (.func a) #[] (q.map e.eval))) w:=(by simp[bN,f1,Instr.makeFunc]);have i0:q.toList.length=(q.map e.eval).size:=ac;have fz:∀(x:X) (y:Value),(q.map e.eval)[x]?=Y y->∃F,q.toList[x]?=Y F/\y=e.eval F:=λx y hw=>(by grind);generalize q.map e.eval=c at*;generalize L:e.put (Y m) (.func (.func a) #[] c)=u;have hs:m<e.tmps.size:=(by rw[K.n];exact ad.1);have hi:l<e.tmps.size:=(by rw[K.n];exact U.1);have fp:u.tmps=e.tmps.setIfInBounds m (.func (.func a) #[] c):=(by rw[<-L];rfl);have d8:u.defers=e.defers:=(by rw[<-L];rfl);have f6:(bN u.eval s).run E.P w=.ok (.value (.pointer (Y ⟨w.heap.size,0,bo⟩))) (w.alloc (.cells ajw.cells k)):=(by simp_all [bN,Instr.alloc,aix,aiM,newVar,aiX]);generalize M:u.put (Y l) (.pointer (Y ⟨w.heap.size,0,bo⟩))=p;have fs:p.tmps=u.tmps.setIfInBounds l (.pointer (Y ⟨w.heap.size,0,bo⟩)):=(by rw[<-M];rfl);have d9:p.defers=u.defers:=(by rw[<-M];rfl);have d6:p.tmps.getD l bW=.pointer (Y ⟨w.heap.size,0,bo⟩):=(by simp_all);have ek:p.tmps.getD m bW=.func (.func a) #[] c:=(by simp_all);have hr:((w.alloc (.cells ajw.cells k)).cell? ⟨w.heap.size,0,bo⟩).isSome=bp:=(by simp_all);have fn:(w.alloc (.cells ajw.cells k)).heap.size=w.heap.size+1:=(by simp_all);have el:iC (w.alloc (.cells ajw.cells k)) w.heap.size 0 (0+1):=alI aa;have D:hj w (w.alloc (.cells ajw.cells k)):=ai5 w _;generalize i1:w.alloc (.cells ajw.cells k)=j at*;have f7:(bN p.eval t).run E.P j=.ok .skip (j.setCells w.heap.size 0 [.func (.func a) #[] c]):=(by have io:=A.store (w:=j) (b:=w.heap.size) (o:=0) (v:=.func (.func a) #[] c) rfl rfl el;have aq:p.eval (.tmp l)=.pointer (Y ⟨w.heap.size,0,bo⟩):=d6;have hc:p.eval (.tmp m)=.func (.func a) #[] c:=ek;simp_all [bN,Instr.storeAt,ajG]);have f0:∀H:b5->Act->bC->Prop,H .normal p (j.setCells w.heap.size 0 [.func (.func a) #[] c])->wpOps E.P #[r,s,t] H [0,1,2] e w:=(by intro H d3;simp only[wpOps,gf,gi,gl];rw[au (Kt dl _)];refine .inl ?_;unfold ais;rw[f5,amB,cv,L,au (Kt ds _)];refine .inl ?_;rw[f6,amB,c1,M,au (Kt d0 _)];refine .inl ?_;rw[f7,Oper.upon_skip,c2];exact d3);refine wp_region (f0 _ ?_);have ex:(j.setCells w.heap.size 0 [.func (.func a) #[] c]).cell? ⟨w.heap.size,0,bo⟩=Y (.func (.func a) #[] c):=
  akd w.heap.size [.func (.func a) #[] c] 0 j (λi2 hv=>by
   grind) 0 ac
 have eq:hj w (j.setCells w.heap.size 0 [.func (.func a) #[] c]):=(by obtain⟨f2,f3,f4⟩:=pc w.heap.size [.func (.func a) #[] c] 0 j;exact⟨f2.trans D.os,f3.trans D.tape,f4.trans D.output,by grind [ts],λb d5=>(x5 _ _ _ _ _ aa).trans (D.heap b d5)⟩);have is:(j.setCells w.heap.size 0 [.func (.func a) #[] c]).heap.size=w.heap.size+1:=(by rw[ts,fn]);generalize j.setCells w.heap.size 0 [.func (.func a) #[] c]=a0 at*;have T:cN C i e.tmps a0 (λb=>G b\/b=w.heap.size) O I:=by
  have:=K.ext (I':=λb=>G b\/b=w.heap.size) (rtn:=O) (fpn:=I) eq (λ_ d1=>.inl d1) (by
   grind) (new:=[]) .nil
  exact this
 have V:cP (bb (λb=>G b\/b=w.heap.size) C.B) a0 i.h O I (.eB a (q.toList.map (aT i.g))) (.func (.func a) #[] c):=(by refine .eB (by grind) (λx av y R d2=>?_);obtain⟨F,aw,rfl⟩:=fz x y d2;rw[jh,aw] at R;cases R;exact T.aT F);have d4:=(T.put ad V);have S:=d4.put U (av:=.hz (.eB a (q.toList.map (aT i.g)))) (v:=.pointer (Y ⟨w.heap.size,0,bo⟩)) (.hz (.inr bn) ex bn V);rw[<-fp,<-fs] at S;exact⟨_,fl,⟨_,_,_,S⟩,d9.trans (d8.trans d7)⟩
end
end
section
inductive FSq where
 |none
 |x (l:aie) (Bc:ni)
 |vO (l:aie) (Bc:ni)
inductive FT where
 |r
 |x (id:X) (Bc:ni)
 |vO (id:X) (Bc:ni)
inductive l9 where
 |leaf
 |one (a:l9)
 |two (j:FSq) (a b:l9)
 |loop (Bc:ni) (m:FT) (a:l9)
 |keep (l:aie) (a:l9)
 |p4 (F:aie) (a:l9)
 |fp (id:X) (p:bm aZ) (a:l9)
 |draw (L:bm lN)
 |yU
def D7:bm lN->X->aie
 |[],_=>[]
 |r::b,a=>bif bH r.i a then r.iA else D7 b a
def EC:bm lN->X->aie
 |[],_=>[]
 |r::b,a=>bif bH r.i a then r.hZ else EC b a
def LG {A:Type} (id:X) (b:b5->aO->bv A):b5->aO->bv A
 |.exit c,a=>match bH c id with
  |true=>b .normal a
  |false=>b (.exit c) a
 |e,a=>b e a
def Ws {a:Type} (c:aO->bv a):b5->aO->bv a
 |.normal,b=>c b
 |_,_=>bo
def Wt {b A:Type} (d:aO->bv b) (c:b5->aO->bv A):b5->aO->bv (b⊕A)
 |.normal,a=>(d a).map .inl
 |e,a=>(c e a).map .inr
def A9 {A:Type} (c:aO->bv A) (b:b5->aO->bv A):b5->aO->bv A
 |.normal,a=>c a
 |e,a=>b e a
def Xd {b A:Type} (d:aO->bv b) (c:b5->aO->bv A):b5->aO->bv (b⊕A)
 |.normal,a=>(d a).map .inl
 |e,a=>(c e a).map .inr
def NZ {b c:Type} (e:aO->bv b) (id:X) (f:aO->bv c):b5->aO->bv (b⊕c)
 |.normal,a=>(e a).map .inl
 |.exit d,a=>match bH d id with
  |true=>(f a).map .inr
  |false=>bo
 |_,_=>bo
def N0 {f g A:Type} (h:aO->bv f) (id:X) (i:aO->bv g) (c:b5->aO->bv A):b5->aO->bv (f⊕(g⊕A))
 |.normal,a=>(h a).map .inl
 |.exit d,a=>match bH d id with
  |true=>(i a).map λb=>.inr (.inl b)
  |false=>(c (.exit d) a).map λb=>.inr (.inr b)
 |e,a=>(c e a).map λb=>.inr (.inr b)
def hL:gR->l9->Code->aO->(A:Type)->(b5->aO->bv A)->bv A
 |ic,.leaf,d,a,_,b=>match d with
  |.skip=>b .normal a
  |.exit id=>b (.exit id) a
  |.ret=>b .ret a
  |.region _ l bq=>kX ic l (bI l.size) a (b .normal)
  |_=>bo
 |ic,.one e,d,a,A,b=>match d with
  |.block id j=>hL ic e j a A (LG id b)
  |_=>bo
 |ic,.two w e q,d,a,A,b=>match d with
  |.seq j p=>match w with
   |.none=>hL ic e j a A (A9 (λf=>hL ic q p f A b) b)
   |.x k c=>match sV a.g k with
    |some i=>(hL {ic with pin:=k++ic.pin,kg:=i++ic.kg} e j a c.den (Ws (proj c))).bind λm=>hL ic q p (uR {ic with pin:=k++ic.pin,kg:=i++ic.kg} c m) A b
    |none=>bo
   |.vO k c=>match sV a.g k with
    |some i=>(hL {ic with pin:=k++ic.pin,kg:=i++ic.kg} e j a (c.den⊕A) (Wt (proj c) b)).bind λ
     |.inl m=>hL ic q p (uR {ic with pin:=k++ic.pin,kg:=i++ic.kg} c m) A b
     |.inr i=>Y i
    |none=>bo
  |.cond t j p=>match aT a.g t with
   |.val .bool z=>match z with
    |true=>hL ic e j a A b
    |false=>hL ic q p a A b
   |_=>bo
  |_=>bo
 |ic,.loop c y e,d,a,A,b=>match d with
  |.loop j=>(proj c a).bind λu=>match y with
   |.r=>(loop (λf=>hL ic e j (uR ic c f) (c.den⊕A) (Xd (proj c) b)) u).bind Y
   |.x id n=>(loop (λf=>hL ic e j (uR ic c f) (c.den⊕n.den) (NZ (proj c) id (proj n))) u).bind λm=>b (.exit id) (uR ic n m)
   |.vO id n=>(loop (λf=>hL ic e j (uR ic c f) (c.den⊕(n.den⊕A)) (N0 (proj c) id (proj n) b)) u).bind λ
    |.inl m=>b (.exit id) (uR ic n m)
    |.inr i=>Y i
  |_=>bo
 |ic,.draw o,d,a,_,b=>match d with
  |.region _ l bp=>bif ui l (D7 o) (EC o) o then sU ic l (D7 o) (EC o) (kY o) a (b .normal) else bo
  |_=>bo
 |ic,.yU,d,a,_,b=>match d with
  |.region _ l bq=>match Gz ic l a with
   |some f=>b .normal f
   |none=>bo
  |_=>bo
 |ic,.p4 v e,d,a,A,b=>bif nw a.h v then hL ic e d (sR v a) A b else bo
 |ic,.fp id s e,d,a,A,b=>match ar a.h id,s with
  |some t,f::s=>if h:og (f::s) t.1=bp then hL ic e d (HR id (f::s) t h a) A b else bo
  |_,_=>bo
 |ic,.keep k e,d,a,A,b=>match sV a.g k with
  |some i=>hL {ic with pin:=k++ic.pin,kg:=i++ic.kg} e d a A b
  |none=>bo
section
variable {E:fA} {C:eY} {ic:gR} {A:Type}
theorem J.post (s:po C T) {e:Code} (k:J E C e i (λf c=>z f c\/∃(d a:aO),z f d/\d=⟨T++a.g,a.h⟩/\oS a.g c/\oT a.h c/\mn a.g a.h=bp)):J E C e i z:=
 λj t q r=>wp_mono (k j t q r) (λ_ _ _ ⟨c,b,o,p⟩=>by
  rcases b with b|⟨d,a,b,rfl,l,m,n⟩
  ·grind
  exact⟨_,b,(o.yZ l m n).kg s,p⟩)
theorem l0:∀{am:l9} {C:eY} {ic:gR} {m:Code} {j:aO} {A:Type} {k:b5->aO->bv A} {r:A} {l:b5->aO->Prop},ic.ae E C->hL ic am m j A k=Y r->(∀e i,k e i=Y r->l e i)->J E C m j l
 |.leaf,C,ic,m,j,A,k,r,l,b,a,d=>by
  simp only[hL] at a;split at a
  ·grind [J.skip]
  ·grind [J.exit]
  ·grind [J.ret]
  ·grind [J.region,Wd]
  grind
 |.one q,C,ic,m,j,A,k,r,l,b,a,d=>by
  simp only[hL] at a;split at a
  ·refine J.block (l0 b a ?_);intro e i c;cases e with
   |exit M=>
    grind [Gx,LG]
   |_=>exact d _ _ c
  grind
 |.two M q cv,C,ic,m,j,A,k,r,l,b,a,d=>by
  simp only[hL] at a;split at a
  ·rename_i x cs;refine J.seq ?_;split at a
   ·refine l0 b a ?_;intro e i c;cases e with
    |normal=>exact l0 b c d
    |_=>exact d _ _ c
   ·rename_i D F;split at a
    case h_2=>cases a
    rename_i Q L;obtain⟨n,B,a⟩:=eO.1 a;refine J.keep b.2.2.2.2 L (λS s t o u v=>J.post o (l0 (ic:={ic with pin:=D++ic.pin,kg:=Q++ic.kg}) ⟨b.1,b.2.1.trans s.symm,by rw[t,<-b.2.2.1],⟨b.2.2.2.1.1,u _ b.2.2.2.1.2.1,b.2.2.2.1.2.2.1,v b.2.2.2.1.2.2.2.1,b.2.2.2.1.2.2.2.2⟩,o⟩ B ?_));intro e i c;cases e with
    |normal=>exact .inr ⟨_,_,l0 b a d,bn,tm c⟩
    |_=>cases c
   rename_i D F;split at a
   case h_2=>cases a
   rename_i Q L;obtain⟨n,B,a⟩:=eO.1 a;refine J.keep b.2.2.2.2 L (λS s t o u v=>J.post o (l0 (ic:={ic with pin:=D++ic.pin,kg:=Q++ic.kg}) ⟨b.1,b.2.1.trans s.symm,by rw[t,<-b.2.2.1],⟨b.2.2.2.1.1,u _ b.2.2.2.1.2.1,b.2.2.2.1.2.2.1,v b.2.2.2.1.2.2.2.1,b.2.2.2.1.2.2.2.2⟩,o⟩ B ?_));intro e i c;cases e with
   |normal=>
    obtain⟨bx,g,f⟩:=fC.1 c;cases f;exact .inr ⟨_,_,l0 b a d,bn,tm g⟩
   |_=>
    obtain⟨bx,g,f⟩:=fC.1 c;cases f;cases a;exact .inl (d _ _ g)
  ·rename_i ci x cs;split at a
   ·rename_i c2 a3;refine J.cond a3 (λe=>?_) (λe=>?_)
    ·subst e;exact l0 b a d
    subst e;exact l0 b a d
   grind
  grind
 |.loop F a4 q,C,ic,m,j,A,k,r,l,b,a,d=>by
  simp only[hL] at a;split at a
  case h_2=>cases a
  rename_i x;obtain⟨c1,ap,a⟩:=eO.1 a;obtain⟨N,O,P⟩:=tm ap;refine J.post b.2.2.2.2 ?_;cases a4 with
  |r=>
   refine J.loop (kU F) a N O P ?_;intro i T y z;refine J.kg b.2.2.2.2 (l0 b y ?_);intro e U c;cases e with
   |normal=>
    obtain⟨n,g,f⟩:=fC.1 c;grind [tm]
   |_=>
    obtain⟨n,g,f⟩:=fC.1 c;cases f;cases z;exact⟨(λa=>by cases a),.inl (d _ _ g)⟩
  |x id co=>
   refine J.loop (kU F) a N O P ?_;intro i T y z;refine J.kg b.2.2.2.2 (l0 b y ?_);intro e U c;cases e with
   |normal=>
    obtain⟨n,g,f⟩:=fC.1 c;grind [tm]
   |exit M=>
    simp only[NZ] at c;split at c
    ·rename_i K;obtain rfl:=fu K;obtain⟨n,g,f⟩:=fC.1 c;cases f;exact⟨(λa=>by cases a),.inr ⟨_,_,d _ _ z,bn,tm g⟩⟩
    grind
   |_=>cases c
  |vO id co=>
   refine J.loop (kU F) a N O P ?_;intro i T y z;refine J.kg b.2.2.2.2 (l0 b y ?_);intro e U c;cases e with
   |normal=>
    obtain⟨n,g,f⟩:=fC.1 c;grind [tm]
   |exit M=>
    simp only[N0] at c;split at c
    ·rename_i K;obtain rfl:=fu K;obtain⟨n,g,f⟩:=fC.1 c;cases f;exact⟨(λa=>by cases a),.inr ⟨_,_,d _ _ z,bn,tm g⟩⟩
    grind [amz]
   |_=>
    obtain⟨n,g,f⟩:=fC.1 c;grind
 |.draw G,C,ic,m,j,A,k,r,l,b,a,d=>by
  simp only[hL] at a;split at a
  case h_2=>cases a
  rename_i id bl;cases w:ui bl (D7 G) (EC G) G with
  |false=>grind
  |true=>
  rw[w] at a;exact J.draw E.mix b w a (λi c=>d _ i c)
 |.yU,C,ic,m,j,A,k,r,l,b,a,d=>by simp only[hL] at a;grind [J.yU]
 |.p4 V q,C,ic,m,j,A,k,r,l,b,a,d=>by
  simp only[hL] at a;cases w:nw j.h V with
  |false=>grind
  |true=>
  rw[w] at a;intro H R p I;obtain⟨ad,ce,an,p⟩:=p;exact l0 b a d H R (p.freeze (nw.ok w)) I
 |.fp id bs q,C,ic,m,j,A,k,r,l,b,a,d=>by
  simp only[hL] at a;split at a
  case h_2=>cases a
  rename_i ci i bs a0;split at a
  case isFalse=>cases a
  rename_i av;intro H R p I;obtain⟨ad,ce,an,p⟩:=p;exact l0 b a d H R (p.VE ac a0 av) I
 |.keep D q,C,ic,m,j,A,k,r,l,b,a,d=>by
  simp only[hL] at a;split at a
  case h_2=>cases a
  rename_i n B;refine J.keep b.2.2.2.2 B ?_;intro S s t o u v;exact l0 (ic:={ic with pin:=D++ic.pin,kg:=n++ic.kg}) ⟨b.1,b.2.1.trans s.symm,by rw[t,<-b.2.2.1],⟨b.2.2.2.1.1,u _ b.2.2.2.1.2.1,b.2.2.2.1.2.2.1,v b.2.2.2.1.2.2.2.1,b.2.2.2.1.2.2.2.2⟩,o⟩ a d
end
end
end Go.jg
end
