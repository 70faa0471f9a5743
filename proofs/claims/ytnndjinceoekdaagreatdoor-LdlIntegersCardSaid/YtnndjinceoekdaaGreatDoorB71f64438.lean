/-
  Parts of the proof: Fw38, Fw22, Fw23, Fw26, Fw27, Fw28, Fw34, Fw35, Fw37, Fw42, Fw45, Fw24, Fw29, Fw31, Fw32, Fw33, Fw48, Fw39, Fw49, Fw30: the framework (Fw), pure forms (Dn), plain laws (Pl, Th), calls of functions (Ok).
-/
import Derived.Laws.StructEq
import Derived.Test.YtnndjinceoekdaaGreatDoorB5eb24b25

set_option linter.all false
set_option maxHeartbeats 1000000
open _root_ renaming Nat->X,List->bm,Array->bT,Option->bu,rfl->bn,False->b4,and_true->cc,Unit->bt,Bool->bz,cond_true->bF,Int->Z,if_true->ck,cond_false->bP,dif_pos->ams,congrArg->b3,true_and->amK,of_decide_eq_true->anD,decide_eq_true->alg
open Go renaming TypeId->bE,Oper->bQ,Operand->bL,Exit->b5,World->bC,Program->bY,execOp->bM,resolve->alW,ResultVar->alc,undef->bV,Code->cq,IntKind->cr,Field->alz,sizeOf->al0,zeroValue->als,typeInfo->alI,run_underlying->b7,newRow->alX,builtin->amg,MapEntry->cj,asIntOf->amp,binOp->alm,eqGuard->amf,getD_set_ne->apg
open Bool renaming true->bp,false->bq,true_and->anB,and_true->aoi,false_and->ao5
open Option renaming some->Y,none->bo,isSome_none->aoU,isSome_some->an6,bind->bB,bind_eq_some_iff->amw,map_eq_some_iff->ap8
open Option.some renaming inj->alU,injEq->amu
open List renaming nodup_append->aog,mem_flatten->amJ,mem_of_getElem?->anl,flatten_cons->amt,all_nil->ao2,all_eq_true->amn,replicate->bJ,any_eq_false->ao4,map_congr_left->alA,map_id'->ao6,length->cz,mem_singleton->alh,drop_drop->ann,range->bI,length_append->alO,length_take->alD,length_drop->apa,map_toArray->an9,getElem?_take->an0,getElem_mem->b6,getElem?_eq_getElem->bX,getElem?_eq_some_iff->al1,getElem?_inj->an7,mem_append_left->aoj,mem_append_right->aoe,append_eq_nil_iff->aoO,filter_eq_self->amN,filter->anE
open Go.jN.dd renaming refl->cp,of_heap->ao3
open Go.jN.aZ renaming here->amR,gE->alE
open Go.jN renaming kill->alu,run_getObj_map->amV
open Go.Sem renaming run_bind->bW,run_pure->ct
open Go.Result renaming andThen_ok->b1,ok->ap7
open Go.Oper renaming wp->alk,upon_value->aqa
open Pure renaming pure->amq
open Array renaming mapM_eq_mapM_toList->aoR,replicate->ao1,getD_eq_getD_getElem?->ao0,map->an4,mem_append_right->alY
open Go.Value.slice renaming injEq->alf
open Nat renaming sub_zero->amv,beq->bH,eq_of_beq_eq_true->alZ,blt->cb,ble->b2,lt_irrefl->amS,le_of_eq->amT,mul_one->amU,beq_refl->anv,lor->ape,testBit_or->ap9,testBit_two_pow->apf
open List.Perm renaming append_left->aoh
open Go.jN.ak renaming ids->bS,o6->amh,fD->alo
open BitVec renaming ofInt->cg
open Int renaming toNat_of_nonneg->ap5
open Go.World renaming cell?->amr,frozen?_setCells->aoZ,cell?_setCells_in->anz,cell?_setCells_out->aod
open Go.jN.bd renaming size->ao7
open Go.jN.ah renaming size->alC
open Go.jN.e8 renaming eval->al3
open Go.jN.hC renaming alloc->al4
open Go.Instr renaming box->an3,mapEntry->apb,mapUpdate->al2,keyThatStays->amP,sameBits->aoV,entryStore->ap6,sureAddr->amL
open Go.jN.fE renaming alloc->ao8
open Go.jN.ja renaming alloc->ao9
open Go.jN.aW renaming pure->ami
open Go.Value renaming map->amQ,int->aln,nilFunc->amx
open Go.MapEntry renaming mk->anZ
open Go.Result.ok renaming injEq->apc
open Go.Op renaming equalIn->amo,equal->ano,maxDepth->anp,eqFields->aok,operands->bU
open Go.jN.Yields renaming wp->anC
open Go.Addr renaming add_lit->ame
open Go.Addr.mk renaming injEq->aly
open Go.jN.iJ renaming op->amW
open Go.Call renaming operands->alP
open Go.Region renaming binds->apd,ready->aph,wanted->aof
noncomputable section
namespace Go.jN
variable{a m:X}{b:Type}{c r:bE}{d t:ak}{e:bm (X×aE)}{f w:ak9}{g:bm (X×bm a6)}{h:bQ}{i:aR}{j:bm a6}{k Q:ah}{l:bm (X×ah)}{n z:bL}{o:b5->Act->bC->Prop}{p:bY}{s:bT (X×bL)}{u:aR->Prop}{v:bC}{x:X->ak9}{y:b5->aR->Prop}{N:X->Prop}{O:X->ez}{P:aE}{R:Value}{S:bm (X×ak)}{T:eH->X->Prop}{U:bL->ak}{V:ez}
section
def uC:bm ak->ak6->bu (X×bm a6)
 |.ref id (c::b)::_,bp::_=>Y (id,c::b)
 |_::as,_::a=>uC as a
 |_,_=>bo
def rm (id:X) (a:ak):ak:=bif a.fD [id] then .dead else a
def ng (id:X):bm ak->ak6->bm ak
 |.ref _ (_::_)::as,bp::_=>.ref id []::as.map (rm id)
 |a::as,_::b=>rm id a::ng id as b
 |as,_=>as.map (rm id)
def ld {a:Type} (c:X->a) (d:X) (e:a):X->a:=λb=>if b=d then e else c b
theorem ox {d:X->b} {c:b}:ld d a c a=c:=by simp[ld]
theorem lG {c:X->b} {e:b} (d:a≠m):ld c m e a=c a:=by simp[ld,d]
section
variable {E:fM} {C:e7} {st:aR} {A:ew} {w w':bC} {I I':X->Prop} {rt:X->ez} {fp:X->ak9}
theorem tY {id:X} (a:X):aq ((id,P)::del [id] e) a=if id=a then Y P else aq e a:=by
 rw[eC];split
 ·rfl
 rename_i b;rw[nG,ar (by grind)]
theorem cP.split (e:cP C st A w I rt fp) {id:X} (n:aq st.h id=Y P) {j:k.den} {z:ak9} (E:aW (bf I C.B) w k V j f) (v:(fp id).Perm (f++z)):cP C ⟨[],(id,⟨k,j⟩)::del [id] st.h⟩ A w I (ld rt id V) (ld fp id f):=by
 obtain⟨_,F,G⟩:=e.tree id P n;have r:∀c∈f,c∈fp id:=λc d=>v.mem_iff.2 (by grind);have l:∀a b,aq ((id,(⟨k,j⟩:aE))::del [id] st.h) a=Y b->(a=id/\b=⟨k,j⟩)\/(a≠id/\aq st.h a=Y b):=λa b q=>(by grind [alU,tY]);refine{e with tree:=?_,dis:=?_,tmp:=λa=>.dead _}
 ·intro a b q;rcases l a b q with⟨rfl,rfl⟩|⟨g,i⟩
  ·grind [aog,ox]
  rw[lG g,lG g];exact e.tree a b i
 intro x y b D t u m c d;rcases l x b t with⟨rfl,rfl⟩|⟨g,i⟩<;>rcases l y D u with⟨rfl,rfl⟩|⟨o,p⟩
 ·omega
 ·rw[ox] at d;rw[lG o];exact e.dis _ _ _ _ n p m c (r c d)
 ·rw[lG g] at d;rw[ox];exactλs=>e.dis _ _ _ _ i n m c d (r c s)
 rw[lG g] at d;rw[lG o];exact e.dis _ _ _ _ i p m c d
def cT.rm (l:cP C st A w I rt fp) {id:X} {q:aE} {i:ez} {j:ak9} {a:ak} {f:Value} (k:cT (bf I C.B) w st.h rt fp a f):cT (bf I C.B) w ((id,q)::del [id] st.h) (ld rt id i) (ld fp id j) (rm id a) f:=by
 unfold jN.rm;cases o:a.fD [id] with
 |true=>exact .dead _
 |false=>
  refine k.uf (λr g n=>⟨n,cp _ _⟩) (λd m p e=>?_);have c:d≠id:=λb=>Mb o d m (by simp[b]);refine⟨?_,lG c,lG c,(l.tree d p e).1,λg _=>cp _ _⟩;rw[tY,ar (λb=>c b.symm)];exact e
theorem VH (p:cP C st A w I rt fp) {id:X} (F:aq st.h id=Y P) {y:k.den} {u:Loc} {f:ak9} {r:a6} (D:aZ w P.1 bo (rt id) (r::j) k u V):∀{d:bm ak} {c:ak6} {a:ez},iY (cT (bf I C.B) w st.h rt fp) d a->uC d c=Y (id,r::j)->iY (cT (bf I C.B) w ((id,⟨k,y⟩)::del [id] st.h) (ld rt id V) (ld fp id f)) (ng id d c) a:=by
 have G:∀{d:bm ak} {a:ez},iY (cT (bf I C.B) w st.h rt fp) d a->iY (cT (bf I C.B) w ((id,⟨k,y⟩)::del [id] st.h) (ld rt id V) (ld fp id f)) (d.map (jN.rm id)) a:=by
  intro d
  induction d with
  |nil=>intro a b;cases a with|nil=>trivial|cons=>exact b.elim
  |cons e n o=>intro a b;cases a with|nil=>exact b.elim|cons H a=>exact⟨b.1.rm p,o b.2⟩
 intro d
 induction d with
 |nil=>intro c a _ b;cases c<;>cases b
 |cons e n o=>
  intro c a b i;cases a with
  |nil=>exact b.elim
  |cons H a=>
  cases c with
  |nil=>cases e<;>first|(cases i;done)|(rename_i m g;cases g<;>cases i)
  |cons l c=>
   by_cases z:∃m s g,e=.ref m (s::g)/\l=bp
   ·obtain⟨m,s,g,rfl,rfl⟩:=z;simp only[uC,eZ,iK,ia] at i;obtain⟨rfl,rfl,rfl⟩:=i;have x:=b.1;cases x with|ref q E=>
    rw[F] at q;cases q;obtain⟨rfl,rfl,rfl⟩:=E.kF D;refine⟨.ref (t:=⟨_,y⟩) (loc:=bo) (by rw[tY,au bn]) ?_,G b.2⟩;rw[ox];exact amR
   have al:uC (e::n) (l::c)=uC n c:=by cases e<;>first|rfl|(rename_i m g;cases g<;>cases l<;>first|rfl|grind)
   have v:ng id (e::n) (l::c)=jN.rm id e::ng id n c:=by cases e<;>first|rfl|(rename_i m g;cases g<;>cases l<;>first|rfl|grind)
   rw[al] at i;rw[v];exact⟨b.1.rm p,o b.2 i⟩
theorem n0.aeo (J:cP C st A w I rt fp) {id:X} (z:aq st.h id=Y P) {x:k.den} (em:eU P.1 P.2 j k x) {av:Loc} (co:aZ w P.1 bo (rt id) j k av V):∃p u,aW (bf I C.B) w k V x p/\(fp id).Perm (p++u)/\∀{w':bC} {I':X->Prop} {s:ak9} {K:bm (X×bm a6)} {D:bm (X×aE)} {N:X->ez} {E:X->ak9} {O:k.den} {t:P.1.den},n0 C ⟨[],(id,⟨k,x⟩)::del [id] st.h⟩ w w' I I' (ld rt id V) (ld fp id p) s K D N E->id∈s->aq D id=Y ⟨k,O⟩->(id,[])∈K->(∀m∈K,m.2=[])->fk P.1 P.2 j k O t->∃ds d5,n0 C st w w' I I' rt fp s ((id,j)::K) ((id,⟨P.1,t⟩)::D) ds d5/\∀l,l≠id->ds l=N l:=by
 obtain⟨f0,dl,f1⟩:=J.tree id P z;obtain⟨hr,f7,p,u,d6,d7,d8,G,gc,d9,ek⟩:=Bc j (loc:=bo) f0 (λ_ _ b=>by cases b) dl (λ_ _ b=>by cases b) (J.notM z) em;obtain⟨_,rfl,rfl⟩:=co.kF d6;refine⟨p,u,d7,G,λ{w' I' s K D N E O t} f bs U q eq cs=>?_⟩;have gt:∀a∈p,a∈fp id:=λa c=>G.mem_iff.2 (by grind);have gi:=iI.1 (G.nodup_iff.1 dl);have M:∀a,(∃d∈s,∃e,aq ((id,(⟨k,x⟩:aE))::del [id] st.h) d=Y e/\a∈ld fp id p d)->∃d∈s,∃e,aq st.h d=Y e/\a∈fp d/\(d=id->a∈p):=by
  rintro a ⟨d,o,e,g,c⟩;by_cases m:d=id
  ·grind [ox]
  rw[tY,ar (λd4=>m d4.symm)] at g;grind [lG]
 have am:∀a∈u,a<w.heap.size/\¬∃d∈s,∃e,aq ((id,(⟨k,x⟩:aE))::del [id] st.h) d=Y e/\a∈ld fp id p d:=λa c=>by
  have L:a∈fp id:=G.mem_iff.2 (by grind);refine⟨(f1 a L).2.2.1,λb=>?_⟩;obtain⟨d,_,e,g,n,H⟩:=M a b;by_cases m:d=id
  ·grind
  exact J.dis d id e P g z m a n L
 have R:∀a∈u,w'.heap[a]?=w.heap[a]?:=λa c=>f.heap a (am a c).1 (λd o e g b=>(am a c).2 ⟨d,o,e,g,b⟩);have ge:∀F a,bf I C.B F a->dd w w' a:=λF a T=>.of_heap (f.heap a (J.ib a (nH T)) (λd o e g b=>by
  obtain⟨d,_,e,g,n,_⟩:=M a ⟨d,o,e,g,b⟩;exact J.notM g a n F T))
 obtain⟨_,an,hs,fT⟩:=f.tree id _ U;obtain⟨v,hc,_,cv,_⟩:=f.keep _ q ⟨k,x⟩ (by rw[tY,au bn]);simp only[ox] at cv;rw[cv] at an;have d3:∀a,dd w w' a->sO w w' av k.size a:=λa b=>⟨λr _=>(b.1 r).1,λr=>(b.1 r).2,λr=>by rw[(b.1 r).1],b.2⟩;obtain⟨f8,a3,fs,_,fz,_,c1,_,ft⟩:=d9 w' (bf I' C.B) V O (E id) t (λF a c=>by cases F;exact f.i a c;exact c.imp (f.i a) (λb=>b)) (by
   rintro a (⟨F,T⟩|c|⟨c2,go⟩)
   ·grind
   ·exact d3 a (.of_heap (R a c))
   grind) an (λ_ _=>rfl)
  (λa c2 ex=>by
   have c:a∈u:=(by grind);exact(d8 a c2 ex).1.sm (.of_heap (R a c))) cs
 obtain rfl:=fz bn (.inr bn);have Q:∀a∈a3,a∈E id\/a∈u:=λa c=>g0.1 (c1.mem_iff.1 c);have gl:∀l e,aq D l=Y e->∀a∈E l,a∉u:=λl e q a c gs=>by
  rcases((f.tree l e q).2.2.2 a c).2.2 with b|b
  ·grind
  grind
 have ad:∀l v,aq ((id,(⟨P.1,t⟩:aE))::D) l=Y v->(l=id/\v=⟨P.1,t⟩)\/(l≠id/\aq D l=Y v):=λl v q=>(by rw[eC] at q;grind);have ci:∀a,(w.heap.size<=a\/∃d∈s,∃e,aq ((id,(⟨k,x⟩:aE))::del [id] st.h) d=Y e/\a∈ld fp id p d)->w.heap.size<=a\/∃d∈s,∃e,aq st.h d=Y e/\a∈fp d:=λa b=>b.imp (λb=>b) (λb=>by
  obtain⟨d,o,e,g,n,_⟩:=M a b;grind)
 refine⟨ld N id (rt id),ld E id a3,⟨f.size,f.os,f.tape,f.output,?_,f.evo,f.i,?_,?_,?_,?_,?_⟩,λl q=>lG q⟩
 ·intro a c gf;refine f.heap a c (λd o e g b=>?_);obtain⟨d,o,e,g,n,_⟩:=M a ⟨d,o,e,g,b⟩;grind
 ·intro a c;exact(f.i2 a c).imp (λb=>b) (λb=>⟨b.1,ci a b.2⟩)
 ·intro l v q;rcases ad l v q with⟨rfl,rfl⟩|⟨n,H⟩
  ·rw[ox,ox];refine⟨.inl bs,fs,?_,λa c=>?_⟩
   ·grind
   rcases Q a c with c|c
   ·obtain⟨d0,d1,d2⟩:=fT a c;grind
   have L:a∈fp l:=G.mem_iff.2 (by grind);refine⟨λo=>?_,jE (am a c).1 f.size,.inr ⟨l,bs,P,z,L⟩⟩;rcases f.i2 a o with b|⟨_,b|b⟩
   ·grind
   ·grind
   grind
  rw[lG n,lG n];obtain⟨f2,d0,d1,d2⟩:=f.tree l v H;refine⟨f2.imp (λb=>b) (λb=>?_),d0,d1,λa c=>?_⟩
  ·have b:aq ((id,(⟨k,x⟩:aE))::del [id] st.h) l=bo:=b;rw[tY,ar (λm=>n m.symm)] at b;exact b
  obtain⟨v1,fb,ap⟩:=d2 a c;exact⟨v1,fb,ci a ap⟩
 ·intro d r f3 f4 o en S a c;rcases ad d f3 o with⟨rfl,rfl⟩|⟨n,H⟩<;>rcases ad r f4 en with⟨rfl,rfl⟩|⟨a4,bl⟩
  ·omega
  ·rw[ox] at c;rw[lG a4];rcases Q a c with c|c
   ·exact f.dis d r _ _ U bl S a c
   grind
  ·rw[lG n] at c;rw[ox];intro b;rcases Q a b with b|b
   ·exact f.dis d r _ _ H U S a c b
   grind
  rw[lG n] at c;rw[lG a4];exact f.dis d r _ _ H bl S a c
 ·intro m y e g;rcases fF.1 y with rfl|y
  ·rw[z] at g;cases g;exact⟨⟨P.1,t⟩,by rw[eC,au bn],bn,ox,⟨_,co.ty⟩,ft⟩
  by_cases al:m.1=id
  ·rw[al,z] at g;cases g;refine⟨⟨P.1,t⟩,by rw[eC,au al.symm],bn,by grind [ox],⟨P.1,by rw[eq m y];cases P.1<;>rfl⟩,λdg _ _ _ q=>?_⟩;grind [FE]
  obtain⟨v1,fb,ap,v4,f5,Md⟩:=f.keep m y e (by rw[tY,ar (λb=>al b.symm)];omega);rw[lG al] at v4 Md;exact⟨v1,by rw[eC,ar (λb=>al b.symm)];exact fb,ap,by grind [lG],f5,Md⟩
 intro m y e g dg hw hv hi f6 f9 bx fn fl ce fr;rcases fF.1 y with rfl|y
 ·rw[z] at g;cases g;refine⟨⟨P.1,t⟩,by rw[eC,au bn],vI bx cs ce,λa0 el=>?_⟩;obtain⟨ax,an⟩:=ek dg _ _ _ _ _ bx (by exact fn) ce fl fr a0 el;rw[ox];exact⟨c1.mem_iff.2 (ln _ ax),.of_heap (R a0 ax)⟩
 grind [vH]
theorem e8.sub {v:bQ} {t:bm ak} {i S:bT _} (dg:v.op=.call {callee:=.value n,args:=i,argTypes:=S}) (d7:aX st.g n=.di m t) (ce:v.dst=Y a) (ci:C.ok a) (fn:∀(R:ew) (w:bC),(callFunc m R).run E.P w=.ok (.enter m R) w) {b:bm hP} {e:bm aE} (bs:sN E m b e) (d2:p6 0 b=bo) (am:∀F,C.I0 F\/C.B F->F<C.w0.heap.size/\¬C.F0 F) (an:lM E C.I0 C.w0) {id:X} {j:aE} (s:aq st.h id=Y j) {A:a6} {p:bm a6} {D:k.den} (O:eU j.1 j.2 (A::p) k D) {J:ak6} (d3:uC (i.toList.map (aX st.g)++t) J=Y (id,A::p)) {c:bm ak} (a4:c=ng id (i.toList.map (aX st.g)++t) J) (a3:po ((id,⟨k,D⟩)::del [id] st.h) (gA c b) c b) (G:n6 a ⟨[],(id,⟨k,D⟩)::del [id] st.h⟩ c b e=bp) (a0:id∈gA c b) (ap:id∈m7 c b) {y':k.den} {z:j.1.den} (cs:aq (kw c b++jz a (jv e) 0 e) id=Y ⟨k,y'⟩) (d1:fk j.1 j.2 (A::p) k y' z) (r:u ⟨(a,wF a e)::alu (gA c b) ((id,A::p)::yt (m7 c b)) st.g,((id,⟨j.1,z⟩)::(kw c b++jz a (jv e) 0 e))++del (gA c b) st.h⟩):e8 E C v st u:=by
 rintro d w ⟨I,rt,fp,l⟩ next em c2
 obtain⟨o,d6,ad⟩:∃o:ew,d.eval n=.func (.func m) #[] o/\iY (cT (bf I C.B) w st.h rt fp) t o.toList:=by
  have H:=l.aX n;rw[d7] at H;generalize fz:d.eval n=f4 at H;cases H with|di fs fr=>
  grind [zS]
 have bl:iY (cT (bf I C.B) w st.h rt fp) (i.toList.map (aX st.g)++t) (i.toList.map d.eval++o.toList):=HP (HQ (λn=>l.aX n) _) ad;obtain⟨d9,ek,f0⟩:=l.tree id j s;obtain⟨el,en,_,_,K,_⟩:=Fi (A::p) (loc:=bo) d9 (λ_ _ r=>by cases r) ek (λ_ _ r=>by cases r) (l.notM s) O;obtain⟨U,f1,ax,d8,dl⟩:=n0.aeo l s O K;have M:=l.split s ax d8;have N:=VH (y:=D) (f:=U) l s K bl d3;rw[<-a4] at N;have bx:=M.call N bs a3 G (λ_ _=>by rw[d2];trivial) (M.glob am an);have d0:(bM d.eval v).run E.P w=.ok (.enter m (i.toList.map d.eval++o.toList).toArray) w:=(by have al:i.map d.eval=(i.toList.map d.eval).toArray:=(by rw[<-Array.toList_map]);have T:(i.toList.map d.eval++o.toList).toArray=(i.toList.map d.eval).toArray++o:=ac;rw[T];simp only[bM,dg,alW,al,bW,d6,Deferred.ofValue,ct,b1,invoke,Array.empty_append,Array.append_empty];grind);unfold alk;rw[d0];show Calls E.P m _ w _;refine bx.mono ?_;rintro q w' ⟨I',f2,eq,cC,rfl,d4,ds⟩;show next (d.put v.dst (q9 cC)) w'
 rw[ce];obtain⟨f3,ex,d5,ft⟩:=dl d4 a0 cs (eS.2 ⟨id,ap,bn⟩) (λq co=>by obtain⟨fT,_,rfl⟩:=eS.1 co;rfl) d1;simp only[n6,cF,g7] at G;have cv:=j0.ok G.1.2;refine c2 _ _ _ r bn ⟨I',_,_,(l.eG d5).put ci (av:=wF a e) (ds _ _ _ (λx Q=>?_))⟩;have V:=SK cv x Q;have L:=G.2 x Q;have c1:x.1≠id:=λq=>(by rw[q,tY,au bn] at L;cases L);have fl:aq ((id,(⟨j.1,z⟩:aE))::(kw c b++jz a (jv e) 0 e)) x.1=Y x.2:=(by rw[eC,ar (λq=>c1 q.symm)];exact V);grind [k4,fv]
end
end
section
def j9:X->bm hP->bm (X×ak)
 |_,[]=>[]
 |k,.v b::a=>(k,.val b.1 b.2)::j9 (k+1) a
 |k,.m _ _::a=>(k,.ref k [])::j9 (k+1) a
 |k,.o _::a=>(k,.ref k [])::j9 (k+1) a
 |k,.n::a=>(k,.eB (.slice bo 0 0))::j9 (k+1) a
 |k,.w _ _ e d _::a=>(k,.view k [] e d)::j9 (k+1) a
 |k,.s _ _::a=>j9 (k+1) a
 |k,.c f g::a=>(k,.di f (g.map λb=>.val b.1 b.2))::j9 (k+1) a
def kC:X->bm hP->bm (X×aE)
 |_,[]=>[]
 |k,.v _::a=>kC (k+1) a
 |k,.m b _::a=>(k,b)::kC (k+1) a
 |k,.o b::a=>(k,b)::kC (k+1) a
 |k,.w e d _ _ _::a=>(k,⟨.osl e,d⟩)::kC (k+1) a
 |k,.c _ _::a=>kC (k+1) a
 |k,.n::a=>kC (k+1) a
 |k,.s _ _::a=>kC (k+1) a
def h4:X->bm hP->ak9
 |_,[]=>[]
 |k,.m _ _::a=>k::h4 (k+1) a
 |k,.w _ _ _ _ _::a=>k::h4 (k+1) a
 |k,_::a=>h4 (k+1) a
def u0 (a:e7):bu dY->Prop
 |none=>True
 |some (c,g,d)=>c∈a.pin/\(∀h∈d,h∈a.pin)/\∃b e f,a.vs c=.pointer (Y ⟨b,e,bo⟩)/\b<a.w0.heap.size/\¬a.F0 b/\a.w0.cell? ⟨b,e,bo⟩=Y (.func (.func g) #[] f)/\f.toList=d.map a.vs
def ow:bu dY->ak9
 |none=>[]
 |some (a,_,b)=>a::b
def s3 (j:bY) (e:aR) (a:aE):alc->ak9->Prop
 |.tmp m,c=>match gt e.g m with
  |.val i n=>(⟨i,n⟩:aE)=a/\c=[]
  |.eB f=>ji a.1 f.cells.toList=Y a.2/\c3 a.1 f.cells.toList=f/\c=[]
  |.ref id d=>c=[id]/\∃b,aq e.h id=Y b/\eU b.1 b.2 d a.1 a.2
  |_=>b4
 |.cell l k,c=>fx j a.1 k/\match gt e.g l with
  |.ref id d=>c=[id]/\∃b i,aq e.h id=Y b/\fC b.1 d=Y (.optr i)/\eU b.1 b.2 (d++[.deref]) a.1 a.2
  |_=>b4
def uZ (b:bY) (d:aR):bm alc->bm aE->ak9->Prop
 |[],[],a=>a=[]
 |r::f,e::g,a=>e.1.gp=bp/\∃i1 c,a=i1++c/\s3 b d e r i1/\uZ b d f g c
 |_,_,_=>b4
def qw (a:aR):X->bm hP->Prop
 |_,[]=>True
 |k,.m c l::b=>(gt a.g k=.ref k []/\aq a.h k=Y ⟨c.1,l⟩/\c.1.gp=bp/\sI c.1=bp)/\qw a (k+1) b
 |k,.w i j e d f::b=>(gt a.g k=.view k [] e d/\aq a.h k=Y ⟨.osl i,f⟩/\(i.gp=bp/\e<d)/\f.length=j.length)/\qw a (k+1) b
 |k,_::b=>qw a (k+1) b
def Mw (e:bY) (a:bm hP) (g:bm alc) (f:bm aE) (b:b5) (d:aR):Prop:=
 (b=.normal\/b=.ret)/\∃c,uZ e d g f c/\j0 (h4 0 a++c)=bp/\qw d 0 a
section
variable {E:fM}
theorem WA {h:X->Prop} {b:bm aE} (g:iY (zr h N v) b V):cT (bf h N) v e O x (.di a (b.map λc=>.val c.1 c.2)) (.func (.func a) #[] V.toArray):=by
 have q:=MZ g;refine .di (by grind) (λf o j d i=>?_);have k:∀{b:bm aE} {V:ez} {f:X} {c:aE} {j:Value},iY (zr h N v) b V->b[f]?=Y c->V[f]?=Y j->zr h N v c j:=by
  intro b
  induction b with
  |nil=>grind
  |cons s b n=>
   intro V f c j g d i;cases V with
   |nil=>grind
   |cons r V=>
    cases f with
    |zero=>simp only[rE,eZ] at d i;subst d i;exact g.1
    |succ f=>exact n g.2 (by simpa using d) (by grind)
 rw[j3] at d;obtain⟨c,m,rfl⟩:=fO.1 d;obtain⟨p,rfl,l⟩:=k g m (by simpa using i);exact .val l
theorem Nf {q p:X->Prop} {w:bC}:∀{k:X} {d:bm hP} {D:ez} {x:et},mY (zo q p w) d D x->∃(h:X->ez) (e:X->ak9),(∀id b,aq (kC k d) id=Y b->k<=id/\(∃u,x[id-k]?=Y u/\e id=u)/\aW (bf q p) w b.1 (h id) b.2 (e id))/\(∀a,gt (j9 k d) (k+a)=.dead\/∃v,D[a]?=Y v/\cT (bf q p) w (kC k d) h e (gt (j9 k d) (k+a)) v)/\(∀a,a<k->gt (j9 k d) a=.dead)
 |k,[],D,x,t=>⟨λ_=>[],λ_=>[],(λid b t=>by cases t),λa=>.inl bn,λa _=>rfl⟩
 |k,j::d,[],x,t=>t.elim
 |k,j::d,v::D,[],t=>t.elim
 |k,j::d,v::D,u::x,t=>by
  obtain⟨A,T⟩:=t;obtain⟨h,e,i1,H,Q⟩:=Nf (k:=k+1) T;have I:∀id b,aq (kC (k+1) d) id=Y b->k<=id/\(∃E,(u::x)[id-k]?=Y E/\e id=E)/\aW (bf q p) w b.1 (h id) b.2 (e id):=λid b P=>(by grind);have M:∀(b:aE) (r:ez) (J:ak),(∀(z:bm (X×aE)) (C:X->ez) (F:X->ak9),aq z k=Y b->C k=r->cT (bf q p) w z C F J v)->aW (bf q p) w b.1 r b.2 u->kC k (j::d)=(k,b)::kC (k+1) d->j9 k (j::d)=(k,J)::j9 (k+1) d->_:=λb r J f l al O=>by
   refine(⟨λG=>if G=k then r else h G,λG=>if G=k then u else e G,?_,?_,?_⟩:∃(h:X->ez) (e:X->ak9),(∀id b,aq (kC k (j::d)) id=Y b->k<=id/\(∃E,(u::x)[id-k]?=Y E/\e id=E)/\aW (bf q p) w b.1 (h id) b.2 (e id))/\(∀a,gt (j9 k (j::d)) (k+a)=.dead\/∃i,(v::D)[a]?=Y i/\cT (bf q p) w (kC k (j::d)) h e (gt (j9 k (j::d)) (k+a)) i)/\(∀a,a<k->gt (j9 k (j::d)) a=.dead))
   ·grind [eC]
   ·intro a;rw[O,ju];cases a with
    |zero=>
     right;refine⟨v,bn,?_⟩;rw[au aa];exact f _ _ _ (by rw[al,eC,au bn]) (by grind)
    |succ a=>
     rw[ar aa,(aa:k+(a+1)=k+1+a)];refine(H a).imp id ?_;rintro⟨i,ax,g⟩;refine⟨i,by grind,?_⟩;refine g.uf (λm K U=>⟨U,cp w K⟩) (λid _ am P=>?_);obtain⟨bl,_,bs⟩:=i1 id am P;have an:¬id=k:=aa;have ap:¬k=id:=aa;simp_all [eC,ar,cp]
   intro a y;rw[O,ju,ar aa];grind
  cases j with
  |v b=>
   obtain⟨rfl,r,f,l⟩:=A;refine⟨h,e,I,λa=>?_,λa y=>?_⟩
   ·show gt ((k,_)::_) _=_\/_;rw[ju];cases a with
    |zero=>
     right;refine⟨v,bn,?_⟩;show cT _ _ _ _ _ (gt ((k,_)::_) _) _;rw[ju,au aa,f];exact .val l
    |succ a=>
     rw[ar aa,(aa:k+(a+1)=k+1+a)];refine(H a).imp id ?_;rintro⟨i,ax,g⟩;refine⟨i,by grind,?_⟩;show cT _ _ _ _ _ (gt ((k,_)::_) _) _;rw[ju,ar aa];exact g
   show gt ((k,_)::_) _=_;rw[ju,ar aa];grind
  |n=>
   obtain⟨rfl,f⟩:=A;refine⟨h,e,I,λa=>?_,λa y=>?_⟩
   ·show gt ((k,_)::_) _=_\/_;rw[ju];cases a with
    |zero=>
     right;refine⟨v,bn,?_⟩;show cT _ _ _ _ _ (gt ((k,_)::_) _) _;rw[ju,au aa,f];exact .eB _
    |succ a=>
     rw[ar aa,(aa:k+(a+1)=k+1+a)];refine(H a).imp id ?_;rintro⟨i,ax,g⟩;refine⟨i,by grind,?_⟩;show cT _ _ _ _ _ (gt ((k,_)::_) _) _;rw[ju,ar aa];exact g
   show gt ((k,_)::_) _=_;rw[ju,ar aa];grind
  |s av a3=>
   refine⟨h,e,I,λa=>?_,λa y=>Q a aa⟩;cases a with
   |zero=>exact .inl (Q k aa)
   |succ a=>
    have y:=H a;rw[(aa:k+1+a=k+(a+1))] at y;refine y.imp id ?_;rintro⟨i,ax,g⟩;exact⟨i,by grind,g⟩
  |c n bx=>
   obtain⟨rfl,ce,f,l⟩:=A;refine⟨h,e,I,λa=>?_,λa y=>?_⟩
   ·show gt ((k,_)::_) _=_\/_;rw[ju];cases a with
    |zero=>
     right;refine⟨v,bn,?_⟩;show cT _ _ _ _ _ (gt ((k,_)::_) _) _;rw[ju,au aa,f];exact WA l
    |succ a=>
     rw[ar aa,(aa:k+(a+1)=k+1+a)];refine(H a).imp id ?_;rintro⟨i,ax,g⟩;refine⟨i,by grind,?_⟩;show cT _ _ _ _ _ (gt ((k,_)::_) _) _;rw[ju,ar aa];exact g
   show gt ((k,_)::_) _=_;rw[ju,ar aa];grind
  |m b ci=>obtain⟨r,f,l⟩:=A;exact M b r (.ref k []) (λz C F ax g=>by subst f;exact .ref (loc:=bo) ax (by grind [amR])) l bn rfl
  |o b=>obtain⟨r,f,l⟩:=A;exact M b r (.ref k []) (λz C F ax g=>by subst f;exact .ref (loc:=bo) ax (by grind [amR])) l bn rfl
  |w S R B L co=>
   obtain⟨K,o,N,f,⟨a4,V,ad⟩,l⟩:=A;refine M ⟨.osl S,R⟩ _ (.view k [] B L) (λz C F ax g=>?_) l bn rfl;have a0:cT (bf q p) w z C F (.view k [] B L) (.slice (Y ⟨K,if N=B then o else o+B*S.size,bo⟩) (L-B) (N-B)):=.view (loc:=bo) (len:=R.length) ax (by grind [amR]) aa V ad;grind
theorem aaP {a:et} (g:a.flatten.Nodup):(∀(c:X) b,a[c]?=Y b->b.Nodup)/\∀(c e:X) b d,a[c]?=Y b->a[e]?=Y d->c≠e->∀f∈b,f∉d:=by
 induction a with
 |nil=>grind
 |cons i a h=>
  simp only[mi,iI] at g;grind [List.getElem?_cons_zero,amu,amJ,anl]
def B1 (b:ew):alc->Sem Value
 |.tmp a=>amq (b.getD a bV)
 |.cell c a=>do loadVar a (<-asAddr (b.getD c bV))
def afV {f:Func} {e:bm alc} (h:f.results=e.toArray) (c:ew) (a:bC) (i:(e.mapM (B1 c)).run p a=.ok V a):(results f c).run p a=.ok (q9 V) a:=by
 unfold results;simp only[bW,h];rw[aoR,Sem.run_map];have j:∀b:alc->Sem Value,(∀d,b d=B1 c d)->(e.mapM b).run p a=.ok V a:=λb g=>(by rw[show b=B1 c from funext g];exact i);rw[j _ (λd=>by cases d<;>rfl)];simp only[b1,ct];congr 1
 match V with
 |[]=>rfl
 |[r]=>rfl
 |r::l::k=>simp[q9]
theorem s3.rep {G:e7} {d:ew} (q:cP G i d v N O x) (C:P.1.gp=bp) {c:alc} (a:s3 p i P c f):∃o H,(B1 d c).run p v=.ok o v/\CH N v P o H/\(∃ap,(f.map x).flatten.Perm (H++ap))/\∀id∈f,∃P,aq i.h id=Y P:=by
 have J:∀(id:X) (g:aE) (l:bm a6),aq i.h id=Y g->eU g.1 g.2 l P.1 P.2->∃u m k n,aZ v g.1 bo (O id) l P.1 u m/\aW (bf N G.B) v P.1 m P.2 k/\qv v u m P.1.size/\(x id).Perm (k++n):=(by intro id g l e r;obtain⟨ax,F,bl⟩:=q.tree id _ e;obtain⟨u,m,k,n,w,z,E,I,_⟩:=Fi l (τ':=P.1) (y:=P.2) ax (loc:=bo) (λ_ _ a=>by cases a) F (λ_ _ a=>by cases a) (q.notM e) r;grind);cases c with
 |tmp c=>
  have b:=q.tmp c;simp only[s3] at a;split at a
  ·rename_i a0 bx j;rw[j] at b;obtain⟨rfl,rfl⟩:=a;generalize D:d.getD c bV=o at b;cases b with|val av=>
   exact⟨_,[],by show(amq (d.getD c bV):Sem Value).run p v=_;simp_all,⟨_,bn,av.gp C⟩,⟨[],ac⟩,ac⟩
  ·rename_i o j;rw[j] at b;obtain⟨ax,F,rfl⟩:=a;generalize D:d.getD c bV=bs at b;cases b;exact⟨_,[],by show(amq (d.getD c bV):Sem Value).run p v=_;simp_all,⟨_,F.symm,qJ ax⟩,⟨[],ac⟩,ac⟩
  ·rename_i id l j;rw[j] at b;obtain⟨rfl,g,e,r⟩:=a;generalize D:d.getD c bV=o at b;cases b with|ref t s=>
   rw[e] at t;cases t;obtain⟨u,m,k,n,w,z,E,I⟩:=J id g l e r;obtain⟨rfl,rfl,rfl⟩:=s.kF w;refine⟨_,k,by show(amq (d.getD c bV):Sem Value).run p v=_;simp_all,⟨_,bn,z.gp C⟩,⟨n,by grind⟩,λam U=>?_⟩;grind
  grind
 |cell A K=>
  have b:=q.tmp A;simp only[s3] at a;obtain⟨a3,a⟩:=a;split at a
  ·rename_i id l j;rw[j] at b;obtain⟨rfl,g,a0,e,ad,r⟩:=a;generalize D:d.getD A bV=o at b;cases b with|ref t s=>
   rw[e] at t;cases t;have:=s.ty;rw[ad] at this;cases this;obtain⟨L,an,R,rfl,M,Q⟩:=pX (q.tree id _ e).1 s;have V:=s.append (aZ.IW M Q);obtain⟨u,m,k,n,w,z,E,I⟩:=J id g _ e r;obtain⟨al,S,T⟩:=V.kF w;subst S;subst T;subst al;have a4:=(E L an bn).1;refine⟨c3 P.1 R,k,?_,⟨_,bn,z.gp C⟩,⟨n,by grind⟩,λam U=>?_⟩
   ·show(do loadVar K (<-asAddr (d.getD A bV)):Sem Value).run p v=_;grind [LC,bW,ct,b1,c3,List.headD,asAddr]
   grind
  grind
theorem uZ.rep {j:bY} {o:e7} {f:aR} {n:ew} {e w0:bC} {i:X->Prop} {z:X->ez} {k:X->ak9} (l:cP o f n e i z k):∀{d:bm alc} {m:bm aE} {a:ak9},uZ j f d m a->∃vs c,(d.mapM (B1 n)).run j e=.ok vs e/\mY (CH i e) m vs c/\(∃w,(a.map k).flatten.Perm (c.flatten++w))/\∀id∈a,∃g,aq f.h id=Y g
 |[],[],a,b=>by obtain rfl:a=[]:=b;exact⟨[],[],bn,trivial,⟨[],.refl _⟩,ac⟩
 |[],g::A,a,b=>b.elim
 |r::d,[],a,b=>b.elim
 |r::d,g::A,a,b=>by
  obtain⟨v,i1,K,rfl,t,u⟩:=b;obtain⟨B,s,C,p,⟨x,D⟩,E⟩:=t.rep l v;obtain⟨vs,c,F,q,⟨y,G⟩,H⟩:=uZ.rep (w0:=w0) l u;refine⟨B::vs,s::c,?_,⟨p,q⟩,⟨x++y,?_⟩,λJ I=>?_⟩
  ·simp_all
  ·grind
  grind
theorem Ng:∀{k:X} {args:bm hP},∀b∈h4 k args,k<=b
 |k,[],b,a=>by cases a
 |k,f::args,b,a=>by
  have d:=Ng (k:=k+1) (args:=args);cases f with
  |m e q=>
   rcases fF.1 a with rfl|a
   ·omega
   grind
  |w t p j h r=>
   rcases fF.1 a with rfl|a
   ·omega
   grind
  |v e=>have:=d b a;omega
  |o e=>have:=d b a;omega
  |c n l=>have:=d b a;omega
  |n=>have:=d b a;omega
  |s g i=>have:=d b a;omega
theorem qw.rep {Q:e7} {A:aR} {E:ew} {w:bC} {F:X->Prop} {L:X->ez} {t:X->ak9} (u:cP Q A E w F L t) {B:X->Prop}:∀{k:X} {f:bm hP} {vs:ez},qw A k f->vs.length=f.length->(∀e,e∈h4 k f->∀v,vs[e-k]?=Y v->E.getD e bV=v)->∃b,mY (zp F B w) f vs b/\b.flatten=((h4 k f).map t).flatten/\∀id∈h4 k f,k<=id/\∃r,aq A.h id=Y r
 |k,[],vs,g,C,x=>by cases vs with
  |nil=>exact⟨[],trivial,bn,by simp[h4]⟩
  |cons=>cases C
 |k,G::f,[],g,C,x=>by cases C
 |k,G::f,v::vs,g,C,x=>by
  have p:qw A (k+1) f->(∀e,e∈h4 (k+1) f->e∈h4 k (G::f))->∃b,mY (zp F B w) f vs b/\b.flatten=((h4 (k+1) f).map t).flatten/\∀id∈h4 (k+1) f,k+1<=id/\∃r,aq A.h id=Y r:=λg T=>by
   have a4:=Ng (k:=k+1) (args:=f);exact qw.rep u g (by grind) (λe i am bs=>x e (T e i) am (by
    grind))
  cases G with
  |v r=>
   obtain⟨b,j,q,d⟩:=p g (λe i=>i);exact⟨[]::b,⟨bn,j⟩,by grind [h4],λid a=>⟨by have:=(d id a).1;omega,(d id a).2⟩⟩
  |o r=>
   obtain⟨b,j,q,d⟩:=p g (λe i=>i);exact⟨[]::b,⟨bn,j⟩,by grind [h4],λid a=>⟨by have:=(d id a).1;omega,(d id a).2⟩⟩
  |n=>
   obtain⟨b,j,q,d⟩:=p g (λe i=>i);exact⟨[]::b,⟨bn,j⟩,by grind [h4],λid a=>⟨by have:=(d id a).1;omega,(d id a).2⟩⟩
  |s a3 ce=>
   obtain⟨b,j,q,d⟩:=p g (λe i=>i);exact⟨[]::b,⟨bn,j⟩,by grind [h4],λid a=>⟨by have:=(d id a).1;omega,(d id a).2⟩⟩
  |c n dg=>
   obtain⟨b,j,q,d⟩:=p g (λe i=>i);exact⟨[]::b,⟨bn,j⟩,by grind [h4],λid a=>⟨by have:=(d id a).1;omega,(d id a).2⟩⟩
  |m r ds=>
   obtain⟨⟨J,z,K,U⟩,g⟩:=g;obtain⟨b,j,q,d⟩:=p g (λe i=>gx _ i);have l:=u.tmp k;rw[J] at l;have I:E.getD k bV=v:=x k (by simp[h4]) v ac;rw[I] at l;obtain⟨D,_⟩:=u.tree k _ z;refine⟨t k::b,⟨?_,j⟩,by grind [amt,h4],λid a=>?_⟩
   ·cases l with|ref y H=>
    rw[z] at y;cases y;obtain⟨rfl,rfl,rfl⟩:=alE.1 H;exact⟨L k,bn,D.gp K⟩
   rcases fF.1 a with rfl|a
   ·grind
   grind
  |w an dl ci bl d0=>
   obtain⟨⟨J,z,⟨K,U⟩,bx⟩,g⟩:=g;obtain⟨b,j,q,d⟩:=p g (λe i=>gx _ i);have l:=u.tmp k;rw[J] at l;have I:E.getD k bV=v:=x k (by simp[h4]) v ac;rw[I] at l;obtain⟨D,_⟩:=u.tree k _ z;refine⟨t k::b,⟨?_,j⟩,by grind [amt,h4],λid a=>?_⟩
   ·cases l with
    |mM=>omega
    |view y H ax cs cv=>
    rename_i c2 d1 co M P V N;rw[z] at y;cases y;obtain⟨al,a0,R⟩:=alE.1 H;simp only[ah.osl.injEq] at al;subst al;have O:L k=[.slice (Y ⟨M,P,bo⟩) V N]:=R;have S:=D;obtain⟨ap,av,ad,c1⟩:=S;rw[ad] at O;simp only[ia,alf,cc] at O;refine⟨M,P,N,by rw[ar aa],aa,?_⟩;have:=aW.gp (τ:=.osl an) (B':=B) K D;grind
   rcases fF.1 a with rfl|a
   ·grind
   grind
theorem sN.aa4 {q:FuncId} {j:Func} {c:cq} {b:bm hP} {a0:bm alc} {C:bm aE} (dg:E.P.funcs[q]?=Y j) (f:j.body=Y c) (d1:j.results=a0.toArray) (fn:b.length<=j.ntmps) (g:∀d:e7,d.n=j.ntmps->d.pin=h4 0 b++ow (p6 0 b)->(∀a,d.I0 a\/d.B a->a<d.w0.heap.size/\¬d.F0 a)->u0 d (p6 0 b)->lM E d.I0 d.w0->J E d c ⟨j9 0 b,kC 0 b⟩ (Mw E.P b a0 C)):sN E q b C:=by
 intro r s y l K R N ds O U dl;obtain⟨d4,fl⟩:=HR N;obtain⟨a3,H,bs,bx,en⟩:=Nf (k:=0) N
 let d:e7:={I0:=s,B:=y,F0:=λa=>a∈K.flatten,w0:=r,n:=j.ntmps,pin:=h4 0 b++ow (p6 0 b),vs:=λi=>l.getD i bV}
 have ad:∀i,(l.toArray++ao1 (j.ntmps-l.toArray.size) bV).getD i bV=l.getD i undef:=(by intro i;rw[ao0,ky];grind);obtain⟨fr,fs⟩:=aaP ds;have co:cP d ⟨j9 0 b,kC 0 b⟩ (l.toArray++ao1 (j.ntmps-l.toArray.size) bV) r s a3 H:=by
  refine{n:=?_,i0:=λ_ g=>g,i1:=λ_ g=>.inl g,ib:=R,tree:=?_,dis:=?_,tmp:=?_,frame:=λ_ _ _=>rfl,evo:=λ_ _=>.refl _ _,size:=bc _,os:=rfl,tape:=rfl,output:=rfl,pin:=λi _=>ad i}
  ·grind
  ·intro id m v;obtain⟨_,⟨q,ax,d7⟩,d8⟩:=bs id m v;rw[amv] at ax;grind [amJ,anl]
  ·grind
  intro i;show cT _ _ _ _ _ (gt (j9 0 b) i) _;rw[ad];rcases bx i with g|⟨w,M,ci⟩
  ·rw[mm] at g;rw[g];exact .dead _
  grind
 have d2:u0 d (p6 0 b):=by
  cases o:p6 0 b with
  |none=>trivial
  |some d6=>
   obtain⟨i,q,ap⟩:=d6;rw[o] at U;obtain⟨_,_,a,d5,em,D,F,a4,ek,el⟩:=U;have fp:d.pin=h4 0 b++ow (Y (i,q,ap)):=(by grind);refine⟨by grind [ow],λan T=>by grind [ow],a,d5,em,D,F,a4,ek,el⟩
 refine calls_of_wp dg f (wp_mono (g d bn rfl (λa f=>⟨R a f,λt=>f.elim (O a t).1 (O a t).2.1⟩) d2 dl _ r ⟨s,a3,H,co⟩ rfl) ?_);rintro eq G x ⟨bl,⟨c2,am,d0,A,t⟩,⟨z,fT,I,e⟩,Q⟩;obtain⟨f0,o,d9,D,⟨fz,F⟩,a4⟩:=uZ.rep (w0:=r) e d0;obtain⟨p,ce,L,ex⟩:=qw.rep e (B:=y) (vs:=l) t d4 (λan T w d3=>by
  rw[amv] at d3;rw[e.pin an (lT _ T)];grind)
 have A:=j0.ok A;have V:∀id∈h4 0 b++am,∃m,aq bl.h id=Y m:=λid S=>(by grind);have u:=KC e V A;rw[jC,zB,<-L] at u;have u:(p.flatten++o.flatten).Nodup:=(by have:=(aoh p.flatten F).nodup_iff.1 u;grind);have cs:∀a∈p.flatten++o.flatten,∃id m,aq bl.h id=Y m/\a∈I id:=λa f=>(by have f:a∈((h4 0 b++am).map I).flatten:=(by rw[jC,zB,<-L];grind);obtain⟨ap,M,ci⟩:=mj.1 f;obtain⟨id,S,rfl⟩:=eS.1 M;obtain⟨m,v⟩:=V id S;grind);have av:∃w,(results j G.tmps).run E.P x=.ok w x/\∃z p o cC,Ending.returned w=.returned (q9 cC)/\MJ s y r K b l C z p o cC x:=
  ⟨_,afV d1 G.tmps x d9,z,p,o,_,bn,ce,D,u,(λa f=>by
   obtain⟨id,m,v,cv⟩:=cs a f;obtain⟨ax,d7,d8,ft⟩:=(e.tree id m v).2.2 a cv;grind),e.i0,(λa f=>by
   rcases e.i1 a f with g|g|g
   ·grind
   ·exact .inr ⟨e.ib a (.inl f),.inl g⟩
   exact .inr ⟨e.ib a (.inl f),.inr g⟩),e.size,e.os,e.tape,e.output,e.evo,λa f c1=>e.frame a f c1⟩
 rcases c2 with rfl|rfl
 ·exact⟨Q,av⟩
 exact⟨Q,av⟩
end
end
section
open Classical in
def pick {a:Type} (c:a->Prop):bu a:=if h:∃b,c b then Y h.choose else bo
theorem aek {d:b->Prop} {c:b} (a:pick d=Y c):d c:=by
 unfold pick at a;split at a
 ·grind
 grind
inductive pu where
 |v (τ:ah)
 |s (a:ak)
 |p (id:X) (a b:bm a6)
 |w (id:X)
structure nY where
 g:bm (X×pu)
 h:bm (X×ah)
@[reducible] def ri:bm (X×pu)->Type->Type
 |[],r=>r
 |(_,.v a)::l,r=>a.den×ri l r
 |(_,.s _)::l,r=>ri l r
 |(_,.p _ _ _)::l,r=>X×ri l r
 |(_,.w _)::l,r=>ej×ri l r
@[reducible] def wJ:bm (X×ah)->Type
 |[]=>bt
 |(_,a)::l=>a.den×wJ l
@[reducible] def nY.den (a:nY):Type:=ri a.g (wJ a.h)
def o1 {e:Type}:(c:bm (X×pu))->ri c e->bm (X×ak)
 |[],_=>[]
 |(d,.v f)::c,s=>(d,.val f s.1)::o1 c s.2
 |(d,.s a)::c,s=>(d,a)::o1 c s
 |(d,.p id a b)::c,s=>(d,.ref id (a++.idx s.1::b))::o1 c s.2
 |(d,.w id)::c,s=>(d,.view id [] s.1.1 s.1.2)::o1 c s.2
def vL {b:Type}:(a:bm (X×pu))->ri a b->b
 |[],s=>s
 |(_,.v _)::a,s=>vL a s.2
 |(_,.s _)::a,s=>vL a s
 |(_,.p _ _ _)::a,s=>vL a s.2
 |(_,.w _)::a,s=>vL a s.2
def vJ:(a:bm (X×ah))->wJ a->bm (X×aE)
 |[],_=>[]
 |(d,b)::a,s=>(d,⟨b,s.1⟩)::vJ a s.2
def lw (a:nY) (b:a.den):aR:=⟨o1 a.g b,vJ a.h (vL a.g b)⟩
def ij {τ:ah} (a:ah) (b:τ.den):bu a.den:=if e:τ=a then Y (e▸b) else bo
theorem kD {a:Q.den} {b:k.den} (c:ij k a=Y b):(⟨Q,a⟩:aE)=⟨k,b⟩:=by grind [ij]
def wP:a6->a6->bz
 |.idx a,.idx b=>bH a b
 |.deref,.deref|.unst,.unst|.fst,.fst|.snd,.snd=>bp
 |_,_=>bq
theorem wP.ok {a b:a6} (c:wP a b=bp):a=b:=by cases a<;>cases b<;>first|rfl|(cases c;done)|(rw[fH c])
def mE:bm a6->bm a6->bz
 |[],[]=>bp
 |a::c,b::d=>wP a b&&mE c d
 |_,_=>bq
theorem mE.ok:∀{c d:bm a6},mE c d=bp->c=d
 |[],[],_=>rfl
 |[],_::_,b=>by cases b
 |_::_,[],b=>by cases b
 |a::c,e::d,b=>by simp only[mE,cF] at b;rw[wP.ok b.1,mE.ok b.2]
def u5:ak->ak->bz
 |.ref a c,.ref b d=>bH a b&&mE c d
 |.addr a c,.addr b d=>bH a b&&mE c d
 |_,_=>bq
theorem u5.ok {a b:ak} (c:u5 a b=bp):a=b:=by cases a<;>cases b<;>first|(cases c;done)|(simp only[u5,cF] at c;grind [alZ,mE.ok])
def u6:bm ak->bm ak->bz
 |[],[]=>bp
 |a::c,b::d=>u5 a b&&u6 c d
 |_,_=>bq
theorem u6.ok:∀{c d:bm ak},u6 c d=bp->c=d
 |[],[],_=>rfl
 |[],_::_,b=>by cases b
 |_::_,[],b=>by cases b
 |a::c,e::d,b=>by simp only[u6,cF] at b;rw[u5.ok b.1,u6.ok b.2]
def te:ak->ak->bz
 |.di c e,.di d f=>bH c d&&u6 e f
 |a,b=>u5 a b
theorem te.ok {a b:ak} (c:te a b=bp):a=b:=by cases a<;>cases b<;>first|exact u5.ok c|(simp only[te,cF] at c;grind [alZ,u6.ok])
def Cd:bm a6->bm a6->bm a6->ak5
 |[],a,.idx k::b=>bif mE a b then Y k else bo
 |s::c,a,d::b=>bif wP s d then Cd c a b else bo
 |_,_,_=>bo
theorem TG:∀{d b e:bm a6} {c:X},Cd d b e=Y c->e=d++.idx c::b
 |[],b,[],c,a=>by cases a
 |[],b,s::e,c,a=>by
  cases s<;>simp only[Cd] at a<;>try (cases a;done)
  grind [mE.ok]
 |s::d,b,[],c,a=>by cases a
 |s::d,b,g::e,c,a=>by
  simp only[Cd] at a;cases f:wP s g with
  |false=>grind
  |true=>rw[f] at a;rw[wP.ok f,TG a];rfl
def q7 {f:Type} (e:bm (X×ak)) (g:bu f):(c:bm (X×pu))->bu (ri c f)
 |[]=>g
 |(d,.v o)::c=>match gt e d with
  |.val _ m=>match ij o m with
   |some n=>(q7 e g c).map (λi=>(n,i))
   |none=>bo
  |_=>bo
 |(d,.s a)::c=>match te a (gt e d) with
  |true=>q7 e g c
  |false=>bo
 |(d,.p id a b)::c=>match gt e d with
  |.ref h i=>bif bH id h then match Cd a b i with
   |some k=>(q7 e g c).map (λf=>(k,f))
   |none=>bo else bo
  |_=>bo
 |(d,.w id)::c=>match gt e d with
  |.view h [] l j=>bif bH id h then(q7 e g c).map (λf=>((l,j),f)) else bo
  |_=>bo
def Gl (b:bm (X×aE)):(a:bm (X×ah))->bu (wJ a)
 |[]=>Y ()
 |(d,g)::a=>match aq b d with
  |some e=>match ij g e.2 with
   |some f=>(Gl b a).map (λc=>(f,c))
   |none=>bo
  |none=>bo
def yo:bm (X×ah)->X->bz
 |[],_=>bq
 |(k,_)::r,n=>bif bH k n then bp else yo r n
def rk:bm (X×pu)->bm (X×ah)->bz
 |[],_=>bp
 |(_,.v _)::l,h=>rk l h
 |(_,.s a)::l,h=>(a.ids.all λid=>yo h id)&&rk l h
 |(_,.p id _ _)::l,h=>yo h id&&rk l h
 |(_,.w id)::l,h=>yo h id&&rk l h
def proj (a:nY) (b:aR):bu a.den:=bif rk a.g a.h then q7 b.g (Gl b.h a.h) a.g else bo
theorem E0:∀{b:bm (X×ah)} {c:wJ b} {id:X},yo b id=bp->(aq (vJ b c) id).isSome=bp
 |[],_,_,a=>by cases a
 |(k,e)::b,c,id,a=>by
  simp only[yo] at a;simp only[vJ,aq];cases d:bH k id with
  |true=>rfl
  |false=>rw[d] at a;exact E0 (by grind)
theorem BV {o:Type} {q:aR} {n:bu o}:∀{e:bm (X×pu)} {f:ri e o},q7 q.g n e=Y f->pF (o1 e f) q/\n=Y (vL e f)
 |[],f,c=>⟨trivial,c⟩
 |(d,.v F)::e,f,c=>by
  simp only[q7] at c;split at c
  case h_2=>cases c
  rename_i G D t;split at c
  case h_2=>cases c
  rename_i E u;obtain⟨x,k,rfl⟩:=fO.1 c;obtain⟨h,i⟩:=BV k;refine⟨⟨?_,h⟩,i⟩;rw[t];cases kD u;rfl
 |(d,.s a)::e,f,c=>by
  simp only[q7] at c;split at c
  case h_2=>cases c
  rename_i r;obtain⟨h,i⟩:=BV c;exact⟨⟨(te.ok r).symm,h⟩,i⟩
 |(d,.p id a b)::e,f,c=>by
  simp only[q7] at c;split at c
  case h_2=>cases c
  rename_i m x k;cases j:bH id m with
  |false=>grind
  |true=>
  rw[j] at c;simp only[bF] at c;split at c
  case h_2=>cases c
  rename_i B A;obtain⟨y,l,rfl⟩:=fO.1 c;obtain⟨h,i⟩:=BV l;refine⟨⟨?_,h⟩,i⟩;grind [TG,alZ]
 |(d,.w id)::e,f,c=>by
  simp only[q7] at c;split at c
  case h_2=>cases c
  rename_i m C z k;cases j:bH id m with
  |false=>grind
  |true=>
  rw[j] at c;simp only[bF] at c;obtain⟨y,l,rfl⟩:=fO.1 c;obtain⟨h,i⟩:=BV l;refine⟨⟨?_,h⟩,i⟩;simp_all
theorem Sl {e:aR}:∀{b:bm (X×ah)} {c:wJ b},Gl e.h b=Y c->pG (vJ b c) e
 |[],c,a=>trivial
 |(d,m)::b,c,a=>by
  simp only[Gl] at a;split at a
  case h_2=>cases a
  rename_i k g;split at a
  case h_2=>cases a
  rename_i l i;obtain⟨j,f,rfl⟩:=fO.1 a;refine⟨?_,Sl f⟩;grind [kD]
theorem Cb {r:Type} {c:bm (X×ah)} {t:wJ c}:∀{l:bm (X×pu)} {s:ri l r},rk l c=bp->m5 (o1 l s) (vJ c t)=bp
 |[],s,h=>rfl
 |(d,.v e)::l,s,h=>by have:=Cb (r:=r) (t:=t) (l:=l) (s:=s.2) h;simp only[m5,o1,sT,bS,ao2,anB] at this|-;omega
 |(d,.s a)::l,s,h=>by simp only[rk,cF] at h;have:=Cb (r:=r) (t:=t) (l:=l) (s:=s) h.2;simp only[m5,o1,sT,cF] at this|-;grind [E0,amn]
 |(_,.p id a b)::l,s,h=>by simp only[rk,cF] at h;have:=Cb (r:=r) (t:=t) (l:=l) (s:=s.2) h.2;simp only[m5,o1,sT,cF] at this|-;refine⟨?_,this⟩;simp_all [E0,sT,ao2,aoi,bS]
 |(_,.w id)::l,s,h=>by simp only[rk,cF] at h;have:=Cb (r:=r) (t:=t) (l:=l) (s:=s.2) h.2;simp only[m5,o1,sT,cF] at this|-;refine⟨?_,this⟩;simp_all [E0,sT,ao2,aoi,bS]
theorem uu {a:nY} {b:a.den} (c:proj a i=Y b):pF (lw a b).g i/\pG (lw a b).h i/\m5 (lw a b).g (lw a b).h=bp:=by
 unfold proj at c;cases d:rk a.g a.h with
 |false=>grind
 |true=>
  rw[d] at c;obtain⟨e,f⟩:=BV c;exact⟨e,Sl f,Cb d⟩
inductive hE where
 |v (τ:ah)
 |m (τ:ah)
 |o (τ:ah)
 |c (f:X) (τs:bm ah)
 |n
 |s (f:X) (l:ak9)
 |w (σ:ah)
@[reducible] def l5:bm ah->Type
 |[]=>bt
 |τ::a=>τ.den×l5 a
@[reducible] def hH:bm hE->Type
 |[]=>bt
 |.c _ e::a=>l5 e×hH a
 |.n::a=>bt×hH a
 |.s _ _::a=>bt×hH a
 |.v b::a=>b.den×hH a
 |.m b::a=>b.den×hH a
 |.o b::a=>b.den×hH a
 |.w d::a=>(bm d.den×X×X)×hH a
@[reducible] def jn:bm hE->Type->Type
 |[],a=>a
 |.m e::b,a=>e.den×jn b a
 |.w d::b,a=>bm d.den×jn b a
 |.v _::b,a=>jn b a
 |.o _::b,a=>jn b a
 |.c _ _::b,a=>jn b a
 |.n::b,a=>jn b a
 |.s _ _::b,a=>jn b a
structure jM where
 f:X
 ps:bm hE
 rs:bm ah
 y6:hH ps->bu (jn ps (l5 rs))
def jx:(c:bm ah)->l5 c->bm aE
 |[],_=>[]
 |τ::b,a=>⟨τ,a.1⟩::jx b a.2
def gP {j:Type}:(f:bm hE)->hH f->jn f j->bm hP
 |[],_,_=>[]
 |.v e::d,a,b=>.v ⟨e,a.1⟩::gP d a.2 b
 |.m e::d,a,b=>.m ⟨e,a.1⟩ b.1::gP d a.2 b.2
 |.o e::d,a,b=>.o ⟨e,a.1⟩::gP d a.2 b
 |.c h l::d,a,b=>.c h (jx l a.1)::gP d a.2 b
 |.n::d,a,b=>.n::gP d a.2 b
 |.w k::d,a,b=>.w k a.1.1 a.1.2.1 a.1.2.2 b.1::gP d a.2 b.2
 |.s g i::d,a,b=>.s g i::gP d a.2 b
def iP {d:Type}:(e:bm hE)->jn e d->d
 |[],a=>a
 |.m _::b,a=>iP b a.2
 |.w _::b,a=>iP b a.2
 |.v _::b,a=>iP b a
 |.o _::b,a=>iP b a
 |.c _ _::b,a=>iP b a
 |.n::b,a=>iP b a
 |.s _ _::b,a=>iP b a
def j2:X->bm hE->bu dY
 |_,[]=>bo
 |k,.s a b::_=>Y (k,a,b)
 |k,_::c=>j2 (k+1) c
theorem B6 {r:Type}:∀{k:X} {ps:bm hE} {a:hH ps} {b:jn ps r},p6 k (gP ps a b)=j2 k ps
 |k,[],a,b=>rfl
 |k,e::d,a,b=>by have c:=λa b=>B6 (r:=r) (k:=k+1) (ps:=d) (a:=a) (b:=b);cases e<;>first|exact c _ _|rfl
def aC (E:fM) (a:jM):Prop:=
 (∀(d:ew) (e:bC),(callFunc a.f d).run E.P e=.ok (.enter a.f d) e)/\∀c b,a.y6 c=Y b->sN E a.f (gP a.ps c b) (jx a.rs (iP a.ps b))
def il:(j:ah)->j.den->bm a6->(a:ah)->bu a.den
 |_,c,[],a=>ij a c
 |.osl d,i,.idx h::b,a=>match i[h]? with
  |some g=>il d g b a
  |none=>bo
 |.optr d,c,.deref::b,a=>il d c b a
 |.st d,c,.unst::b,a=>il d c b a
 |.pr e _,c,.fst::b,a=>il e c.1 b a
 |.pr _ f,c,.snd::b,a=>il f c.2 b a
 |_,_,_,_=>bo
def YG {a:k.den}:il k a [] Q=ij Q a:=by cases k<;>rfl
theorem jl:∀{g:bm a6} {τ:ah} {e:τ.den} {d:ah} {f:d.den},il τ e g d=Y f->eU τ e g d f
 |[],τ,e,d,f,c=>by rw[YG] at c;cases kD c;grind [eU.gE]
 |s::g,τ,e,d,f,c=>by
  cases τ<;>cases s<;>simp only[il] at c<;>try (cases c;done)
  case osl.idx t i=>
   split at c
   ·rename_i h j;exact⟨h,j,jl c⟩
   grind
  case optr.deref t=>exact jl (τ:=t) c
  case st.unst t=>exact jl (τ:=t) c
  case pr.fst a b=>exact jl (τ:=a) c
  case pr.snd a b=>exact jl (τ:=b) c
def yP {τ':ah} (b:τ'.den) (a:ah):bu a.den:=if e:eN τ' a=bp then Y (cast (eN.den e) b) else bo
theorem R6 {b:Q.den} {c:k.den} (a:yP b k=Y c):oO Q b k c:=by
 unfold yP at a;split at a
 ·rename_i d;cases a;exact .same d (cast_heq _ _).symm
 grind
def BS:(c:ah)->c.den->(b:ah)->bu b.den
 |.optr d,a,.ptr .c9 e=>(yP (τ':=d) a e).map Y
 |_,a,b=>yP a b
theorem ad9 {c:Q.den} {d:k.den} (a:BS Q c k=Y d):oO Q c k d:=by
 unfold BS at a;split at a
 ·obtain⟨f,b,rfl⟩:=fO.1 a;simp only[yP] at b;split at b
  ·rename_i e;cases b;exact .ptr e (cast_heq _ _).symm
  grind
 exact R6 a
def qK:ah->Value->bz
 |τ,.agg _=>pT τ
 |_,.tuple _=>bq
 |τ,_=>!pT τ
theorem qK.ok (a:qK k R=bp):c3 k R.cells.toList=R:=by
 cases R<;>simp only[qK] at a<;>first
  |(cases a;done)
  |(rw[Gv a];rfl)
  |(rw[uK] at a;rw[Gu a];rfl)
def n5 (
 h:bm (X×aE)) (f:ak9):ak->(a:ah)->bu a.den
 |.val _ g,a=>yP g a
 |.eB d,a=>bif qK a d then ji a d.cells.toList else bo
 |.ref id c,a=>match eY id f with
  |true=>bo
  |false=>match aq h id with
   |none=>bo
   |some b=>match fC b.1 c with
    |none=>bo
    |some e=>match il b.1 b.2 c e with
     |none=>bo
     |some i=>BS e i a
 |_,_=>bo
theorem HW {h:k.den} (a:n5 e f d k=Y h):zn e f d ⟨k,h⟩:=by
 cases d with
 |val c b=>exact R6 a
 |eB p=>
  simp only[n5] at a;cases i:qK k p with
  |false=>grind
  |true=>rw[i] at a;exact⟨a,qK.ok i⟩
 |ref id n=>
  simp only[n5] at a;split at a
  ·cases a
  rename_i j;split at a
  ·cases a
  rename_i o l;split at a
  ·cases a
  rename_i c q;split at a
  ·cases a
  rename_i b m;have:eY id f=bq/\∃g c b,aq e id=Y g/\eU g.1 g.2 n c b/\oO c b k h:=⟨j,o,c,b,l,jl m,ad9 a⟩;exact this
 |_=>cases a
def vc (d:bm (X×aE)) (c:ak9):ak->(b:ah)->bu b.den
 |.hL a,.ptr .bj e=>bif pk e then(n5 d c a e).map Y else bo
 |a,b=>n5 d c a b
def tm (d:bm (X×aE)) (c:ak9):bm ak->(b:ah)->bu b.den
 |[],.nil=>Y ()
 |a::f,.pr e b=>bif pk e then(vc d c a e).bind λh=>(tm d c f b).map λg=>(h,g) else bo
 |_,_=>bo
def xE (d:bm (X×aE)) (c:ak9):ak->(b:ah)->bu b.den
 |.hL (.di f e),.ptr .bj (.fn g h)=>bif bH f g then(tm d c e h).map Y else bo
 |a,b=>vc d c a b
def NJ {c:k.den} (a:vc e f d k=Y c):pp e f d k c:=by
 unfold vc at a;split at a
 ·rename_i i h;cases b:pk h with
  |false=>rw[b] at a;cases a
  |true=>
   rw[b,bF] at a;obtain⟨j,g,rfl⟩:=fO.1 a;exact .hL b (.base (HW g))
 exact .base (HW a)
def NL {h:bm (X×aE)} {g:ak9}:∀{f:bm ak} {c:ah} {d:c.den},tm h g f c=Y d->w1 h g f c d
 |[],c,d,b=>by
  cases c<;>simp only[tm] at b<;>try (cases b;done)
  exact .nil
 |a::f,c,d,b=>by
  cases c<;>simp only[tm] at b<;>try (cases b;done)
  rename_i c l;cases e:pk c with
  |false=>rw[e] at b;cases b
  |true=>
   rw[e,bF] at b;obtain⟨m,j,b⟩:=eV.1 b;obtain⟨k,i,rfl⟩:=fO.1 b;exact .cons e (NJ j) (NL i)
def Wz {c:k.den} (a:xE e f d k=Y c):pp e f d k c:=by
 unfold xE at a;split at a
 ·rename_i h j i l;cases b:bH h i with
  |false=>rw[b] at a;cases a
  |true=>
   rw[b,bF] at a;obtain rfl:=fH b;obtain⟨m,g,rfl⟩:=fO.1 a;exact .hL bn (.di (NL g))
 exact NJ a
def pR (b:bm (X×aE)) (a:ak9):(g:bm ah)->bm ak->bu (l5 g)
 |[],[]=>Y ()
 |τ::d,c::as=>match xE b a c τ with
  |some f=>(pR b a d as).map (λe=>(f,e))
  |none=>bo
 |_,_=>bo
def Pu {f:bm (X×aE)} {d:ak9}:∀{c:bm ah} {e:bm ak} {b:l5 c},pR f d c e=Y b->iY (λb g=>pp f d b g.1 g.2) e (jx c b)
 |[],[],_,_=>trivial
 |[],_::_,_,a=>by cases a
 |_::_,[],_,a=>by cases a
 |τ::k,j::as,b,a=>by
  simp only[pR] at a;split at a
  case h_2=>cases a
  rename_i m i;obtain⟨l,h,rfl⟩:=fO.1 a;exact⟨Wz i,Pu h⟩
def sG:bm ak->bm hE->ak9
 |.ref id []::as,.m _::a=>id::sG as a
 |.ref id []::as,.o _::a=>id::sG as a
 |.view id [] _ _::as,.w _::a=>id::sG as a
 |_::as,_::a=>sG as a
 |_,_=>[]
def ui:Value->bz
 |.slice bo 0 0=>bp
 |_=>bq
theorem ui.ok (a:ui R=bp):R=.slice bo 0 0:=by grind [ui]
def BG:(a:ah)->Value->bu a.den
 |.osl _,.slice bo 0 0=>Y []
 |_,_=>bo
theorem aa0 {b:k.den} (a:BG k R=Y b):R=.slice bo 0 0/\∃c,(⟨k,b⟩:aE)=⟨.osl c,[]⟩:=by
 unfold BG at a;split at a
 ·simp_all
 grind
def fY (d:bm (X×aE)) (f:ak9):(t:bm hE)->bm ak->bu (hH t)
 |[],[]=>Y ()
 |.v g::b,p::as=>match n5 d f p g with
  |some e=>(fY d f b as).map (λa=>(e,a))
  |none=>bo
 |.c r u::b,.di q a::as=>bif bH q r then match pR d f u a with
  |some e=>(fY d f b as).map (λa=>(e,a))
  |none=>bo else bo
 |.m g::b,.ref id []::as=>bif g.gp&&sI g then match aq d id with
  |some h=>match ij g h.2 with
   |some e=>(fY d f b as).map (λa=>(e,a))
   |none=>bo
  |none=>bo else bo
 |.o g::b,.ref id []::as=>match aq d id with
  |some h=>match ij g h.2 with
   |some e=>(fY d f b as).map (λa=>(e,a))
   |none=>bo
  |none=>bo
 |.n::b,.eB i::as=>bif ui i then(fY d f b as).map (λa=>((),a)) else bo
 |.s _ _::b,_::as=>(fY d f b as).map (λa=>((),a))
 |.o g::b,.eB i::as=>match BG g i with
  |some e=>(fY d f b as).map (λa=>(e,a))
  |none=>bo
 |.w l::b,.view id [] k j::as=>bif l.gp then(bif cb k j then match aq d id with
  |some h=>match ij (.osl l) h.2 with
   |some e=>(fY d f b as).map (λa=>((e,k,j),a))
   |none=>bo
  |none=>bo else bo) else bo
 |_,_=>bo
def CV {h:Type} (f:bm (X×aE)) (e:ak9) (av:ak) (c:ah) (d:c.den->bu h):bu h:=match av with
 |.ref id g=>match eY id e with
  |true=>bo
  |false=>match aq f id with
   |none=>bo
   |some a=>match fC a.1 g with
    |none=>bo
    |some i=>(il a.1 a.2 g i).bind λj=>match BS i j c with
     |none=>bo
     |some b=>d b
 |av=>match n5 f e av c with
  |none=>bo
  |some b=>d b
theorem VZ {c:k.den->bu b}:CV e f d k c=(n5 e f d k).bind c:=by
 cases d with
 |ref id g=>
  grind [eY,aq,fC,il,BS,CV,n5]
 |_=>
  simp only[CV];split
  ·rename_i a;rw[a];rfl
  rename_i a;rw[a];rfl
def kH {p:Type} (e:bm (X×aE)) (g:ak9):(x:bm hE)->bm ak->(hH x->bu p)->bu p
 |[],[],a=>a ()
 |.v h::d,r::as,a=>CV e g r h λf=>kH e g d as λb=>a (f,b)
 |.c u y::d,.di t b::as,a=>bif bH t u then match pR e g y b with
  |some f=>kH e g d as λb=>a (f,b)
  |none=>bo else bo
 |.m h::d,.ref id []::as,a=>bif h.gp&&sI h then match aq e id with
  |some i=>match ij h i.2 with
   |some f=>kH e g d as λb=>a (f,b)
   |none=>bo
  |none=>bo else bo
 |.o h::d,.ref id []::as,a=>match aq e id with
  |some i=>match ij h i.2 with
   |some f=>kH e g d as λb=>a (f,b)
   |none=>bo
  |none=>bo
 |.n::d,.eB j::as,a=>bif ui j then kH e g d as λb=>a ((),b) else bo
 |.s _ _::d,_::as,a=>kH e g d as λb=>a ((),b)
 |.o h::d,.eB j::as,a=>match BG h j with
  |some f=>kH e g d as λb=>a (f,b)
  |none=>bo
 |.w q::d,.view id [] l k::as,a=>bif q.gp then(bif cb l k then match aq e id with
  |some i=>match ij (.osl q) i.2 with
   |some f=>kH e g d as λb=>a ((f,l,k),b)
   |none=>bo
  |none=>bo else bo) else bo
 |_,_,_=>bo
theorem oc {A:Type} {d:bm (X×aE)} {f:ak9}:∀{k:bm hE} {q:bm ak} {b:hH k->bu A},kH d f k q b=(fY d f k q).bind b
 |[],[],b=>rfl
 |[],_::_,b=>rfl
 |p::a,[],b=>by cases p<;>rfl
 |.v h::a,e::as,b=>by
  simp only[kH,fY,VZ];cases n5 d f e h with
  |none=>rfl
  |some g=>
   simp only[aI];rw[oc];cases fY d f a as<;>rfl
 |.c z B::a,e::as,b=>by
  cases e with
  |di y i=>
   simp only[kH,fY];cases bH y z with
   |false=>rfl
   |true=>
    simp only[bF];cases pR d f B i with
    |none=>rfl
    |some g=>
     simp only;rw[oc];cases fY d f a as<;>rfl
  |ref id p=>cases p<;>rfl
  |_=>rfl
 |.m h::a,e::as,b=>by
  cases e with
  |ref id p=>
   cases p with
   |cons=>rfl
   |nil=>
    simp only[kH,fY];cases(h.gp&&sI h) with
    |false=>rfl
    |true=>
     simp only[bF];cases aq d id with
     |none=>rfl
     |some j=>
      simp only;cases ij h j.2 with
      |none=>rfl
      |some g=>
       simp only;rw[oc];cases fY d f a as<;>rfl
  |_=>rfl
 |.o h::a,e::as,b=>by
  cases e with
  |ref id p=>
   cases p with
   |cons=>rfl
   |nil=>
    simp only[kH,fY];cases aq d id with
    |none=>rfl
    |some j=>
     simp only;cases ij h j.2 with
     |none=>rfl
     |some g=>
      simp only;rw[oc];cases fY d f a as<;>rfl
  |eB l=>
   simp only[kH,fY];cases BG h l with
   |none=>rfl
   |some g=>
    simp only;rw[oc];cases fY d f a as<;>rfl
  |_=>rfl
 |.w u::a,e::as,b=>by
  cases e with
  |view id p t r=>
   cases p with
   |cons=>rfl
   |nil=>
    simp only[kH,fY];cases u.gp with
    |false=>rfl
    |true=>
     simp only[bF];cases cb t r with
     |false=>rfl
     |true=>
     simp only[bF];cases aq d id with
     |none=>rfl
     |some j=>
      simp only;cases ij (.osl u) j.2 with
      |none=>rfl
      |some g=>
       simp only;rw[oc];cases fY d f a as<;>rfl
  |ref id p=>cases p<;>rfl
  |_=>rfl
 |.n::a,e::as,b=>by
  cases e with
  |eB l=>
   simp only[kH,fY];cases ui l with
   |false=>rfl
   |true=>
    simp only[bF];rw[oc];cases fY d f a as<;>rfl
  |ref id p=>cases p<;>rfl
  |_=>rfl
 |.s C i::a,e::as,b=>by
  have x:∀g:bu (hH a),(g.bind λi=>b ((),i))=(g.map λi=>((),i)).bind b:=λg=>(by cases g<;>rfl);cases e with
  |ref id p=>cases p<;>(simp only[kH,fY];rw[oc];grind)
  |view id p t r=>cases p<;>(simp only[kH,fY];rw[oc];grind)
  |_=>simp only[kH,fY];rw[oc];exact x _
theorem L0 {r:Type}:∀{ps:bm hE} {a:hH ps} {b:jn ps r} {avs:bm ak},gA avs (gP ps a b)=sG avs ps
 |[],a,b,avs=>by cases avs with|nil=>rfl|cons h c=>cases h<;>first|rfl|(rename_i id p;cases p<;>rfl)|(rename_i id p c g;cases p<;>rfl)
 |p::c,a,b,[]=>by cases p<;>rfl
 |p::c,a,b,f::avs=>by have d:=λa b=>L0 (r:=r) (ps:=c) (a:=a) (b:=b) (avs:=avs);cases p<;>cases f<;>first|exact d _ _|(rename_i id e;cases e<;>simp only[gP,gA,sG,d];done)|(rename_i id e c g;cases e<;>simp only[gP,gA,sG,d])
theorem qT {G:Type} {q:bm (X×aE)} {u:ak9}:∀{r:bm hE} {e:hH r} {g:jn r G} {h:bm ak},fY q u r h=Y e->po q u h (gP r e g)
 |[],e,g,[],_=>trivial
 |[],e,g,_::_,a=>by cases a
 |p::i,e,g,[],a=>by cases p<;>cases a
 |.v t::i,e,g,d::h,a=>by
  simp only[fY] at a;split at a
  case h_2=>cases a
  rename_i l j;obtain⟨k,b,rfl⟩:=fO.1 a;exact⟨by cases d<;>exact HW j,qT b⟩
 |.c F J::i,e,g,d::h,a=>by
  cases d with
  |di E k=>
   simp only[fY] at a;cases f:bH E F with
   |false=>grind
   |true=>
    rw[f] at a;obtain rfl:=fH f;simp only[bF] at a;split at a
    case h_2=>cases a
    rename_i l j;obtain⟨I,b,rfl⟩:=fO.1 a;exact⟨⟨bn,Pu j⟩,qT b⟩
  |ref id p=>cases p<;>cases a
  |_=>cases a
 |.m t::i,e,g,d::h,a=>by
  cases d with
  |ref id p=>cases p with
   |cons=>cases a
   |nil=>
    simp only[fY] at a;cases f:(t.gp&&sI t) with
    |false=>grind
    |true=>
     rw[f] at a;simp only[cF] at f;simp only[bF] at a;split at a
     case h_2=>cases a
     rename_i B A;split at a
     case h_2=>cases a
     rename_i l j;obtain⟨k,b,rfl⟩:=fO.1 a;refine⟨⟨?_,f.1,f.2⟩,qT b⟩;grind [kD]
  |_=>cases a
 |.o t::i,e,g,d::h,a=>by
  cases d with
  |ref id p=>cases p with
   |cons=>cases a
   |nil=>
    simp only[fY] at a;split at a
    case h_2=>cases a
    rename_i B A;split at a
    case h_2=>cases a
    rename_i l j;obtain⟨k,b,rfl⟩:=fO.1 a;refine⟨?_,qT b⟩;show aq q id=Y _;grind [kD]
  |eB C=>
   simp only[fY] at a;split at a
   case h_2=>cases a
   rename_i l j;obtain⟨k,b,rfl⟩:=fO.1 a;exact⟨aa0 j,qT b⟩
  |_=>cases a
 |.w H::i,e,g,d::h,a=>by
  cases d with
  |view id p y x=>cases p with
   |cons=>cases a
   |nil=>
    simp only[fY] at a;cases f:H.gp with
    |false=>grind
    |true=>
     rw[f] at a;simp only[bF] at a;cases z:cb y x with
     |false=>grind
     |true=>
     rw[z] at a;simp only[bF] at a;split at a
     case h_2=>cases a
     rename_i B A;split at a
     case h_2=>cases a
     rename_i l j;obtain⟨k,b,rfl⟩:=fO.1 a;refine⟨⟨?_,⟨bn,bn⟩,g1 z,f⟩,qT b⟩;grind [kD]
  |ref id p=>cases p<;>cases a
  |_=>cases a
 |.n::i,e,g,d::h,a=>by
  cases d with
  |eB C=>
   simp only[fY] at a;cases f:ui C with
   |false=>grind
   |true=>
    rw[f] at a;obtain⟨k,b,rfl⟩:=fO.1 a;exact⟨ui.ok f,qT b⟩
  |ref id p=>cases p<;>cases a
  |_=>cases a
 |.s D k::i,e,g,d::h,a=>by
  have a:(fY q u i h).map (λl=>(((),l):hH (.s D k::i)))=Y e:=by
   cases d with
   |ref id p=>cases p<;>exact a
   |view id p y x=>cases p<;>exact a
   |_=>exact a
  obtain⟨l,b,rfl⟩:=fO.1 a;refine⟨?_,qT b⟩;cases d with
  |ref id p=>cases p<;>trivial
  |view id p y x=>cases p<;>trivial
  |_=>trivial
end
section
def nc:(τ:ah)->τ.den->bm a6->(b:ah)->b.den->bu τ.den
 |τ,_,[],_,a=>ij τ a
 |.osl f,h,.idx g::c,b,a=>match h[g]? with
  |some k=>(nc f k c b a).map λe=>h.set g e
  |none=>bo
 |.optr f,d,.deref::c,b,a=>nc f d c b a
 |.st f,d,.unst::c,b,a=>nc f d c b a
 |.pr i _,d,.fst::c,b,a=>(nc i d.1 c b a).map λe=>(e,d.2)
 |.pr _ j,d,.snd::c,b,a=>(nc j d.2 c b a).map λe=>(d.1,e)
 |_,_,_,_,_=>bo
theorem af2 {b:k.den} {a:Q.den}:nc k b [] Q a=ij k a:=by cases k<;>rfl
theorem fk.aaN {d:k.den} {a:Q.den} {b:k.den} (c:ij k a=Y b):fk k d [] Q a b:=by cases kD c;cases k<;>exact⟨bn,bn⟩
theorem nM:∀{k:bm a6} {τ:ah} {g:τ.den} {f:ah} {h:f.den} {j:τ.den},nc τ g k f h=Y j->fk τ g k f h j
 |[],τ,g,f,h,j,c=>by grind [fk.aaN,af2]
 |s::k,τ,g,f,h,j,c=>by
  cases τ<;>cases s<;>simp only[nc] at c<;>try (cases c;done)
  case osl.idx t i=>
   split at c
   ·rename_i l m;obtain⟨d,e,rfl⟩:=fO.1 c;exact⟨l,d,m,nM e,bn⟩
   grind
  case optr.deref t=>exact nM (τ:=t) c
  case st.unst t=>exact nM (τ:=t) c
  case pr.fst a b=>
   obtain⟨d,e,rfl⟩:=fO.1 c;exact⟨d,nM e,bn⟩
  case pr.snd a b=>
   obtain⟨d,e,rfl⟩:=fO.1 c;exact⟨d,nM e,bn⟩
def hj (a:Z):ak5:=if 0<=a then Y a.toNat else bo
theorem aaF {b:Z} (c:hj b=Y a):b=(a:Z):=by grind [hj]
def be (b:X) (a:Z):ak5:=if 0<=a/\a.toNat<b then Y a.toNat else bo
theorem PN {b:Z} (c:be m b=Y a):b=(a:Z)/\a<m:=by grind [be]
def cN (a:X):bu bt:=if a<=hN then Y () else bo
theorem yz {b:bt} (c:cN a=Y b):a<=hN:=by grind [cN]
def kM (b:cr) (c a:Z):eA:=if a≠0 then Y (b.wrap (c.tdiv a)) else bo
def jy (b a:Z):eA:=if a≠0 then Y (b.tmod a) else bo
def it (a:cr) (c b:Z):eA:=if 0<=b then Y (a.wrap (c*2^min b.toNat a.bits)) else bo
def eQ (b:cr) (c a:Z):eA:=if 0<=a then Y (c.fdiv (2^min a.toNat b.bits)) else bo
def e0 (a:cr) (b c:Z):Z:=a.wrap (cg a.bits b&&&cg a.bits c).toNat
def gK (a:cr) (b c:Z):Z:=a.wrap (cg a.bits b|||cg a.bits c).toNat
def uJ (a:cr) (b c:Z):Z:=a.wrap (cg a.bits b^^^cg a.bits c).toNat
def CT (a:cr) (b c:Z):Z:=a.wrap (cg a.bits b&&&~~~cg a.bits c).toNat
def xB (c:bu ak) (a:X):ak5:=
 match c with
 |none=>Y a
 |some (.val (.int _) b)=>hj b
 |some _=>bo
theorem C3 {c:bu ak} (b:xB c a=Y m):tj c a m:=by
 unfold xB at b;unfold tj;split at b
 ·grind
 ·exact aaF b
 grind
def hX (b a c:X):bu bt:=if b<=a/\a<=c then Y () else bo
theorem P9 {b:X} {c:bt} (d:hX m a b=Y c):m<=a/\a<=b:=by grind [hX]
def wx (_:X):bu bt:=Y ()
def gg (a b:Z):ak5:=if 0<=a/\a<=b/\b<=(hN:Z) then Y a.toNat else bo
open Classical in
def ss {b:Type} (c:X) (d a:bu b):bu b:=if c=0 then if d=a then a else bo else a
theorem aaK {d e:bu b} {c:b} (f:ss a d e=Y c):e=Y c/\(a=0->d=Y c):=by grind [absurd,ss]
def qI:ala:=[0,1,28,2,29,14,24,3,30,22,20,15,25,17,4,8,31,27,13,23,21,19,16,7,26,12,18,6,11,5,10,9]
inductive Hz where
 |e6 (av:ak)
 |opt (α:Type) (o:bu α) (f:α->ak)
 |new (α:Type) (o:bu α) (t:α->aE) (d:X)
 |no
def k0 (tt:bm (bE×ah)) (z:bm (X×ah)) (k:bm (X×aE)) (g:bL->ak) (w:X) (v:Op):Hz:=
 match v with
 |.binOp v _ b e _=>match g b,g e with
  |.val (.int c) b,.val (.int A) e=>if c=A then
   (match v with
   |.add=>.e6 (.val (.int c) (c.wrap (b+e)))
   |.sub=>.e6 (.val (.int c) (c.wrap (b-e)))
   |.mul=>.e6 (.val (.int c) (c.wrap (b*e)))
   |.quo=>.opt Z (kM c b e) (.val (.int c))
   |.rem=>.opt Z (jy b e) (.val (.int c))
   |.shl=>.opt Z (it c b e) (.val (.int c))
   |.shr=>.opt Z (eQ c b e) (.val (.int c))
   |.and=>.e6 (.val (.int c) (e0 c b e))
   |.or=>.e6 (.val (.int c) (gK c b e))
   |.xor=>.e6 (.val (.int c) (uJ c b e))
   |.andNot=>.e6 (.val (.int c) (CT c b e))
   |_=>.no) else
   (match v with
   |.shl=>.opt Z (it c b e) (.val (.int c))
   |.shr=>.opt Z (eQ c b e) (.val (.int c))
   |_=>.no)
  |_,_=>.no
 |.unOp .neg _ b=>match g b with
  |.val (.int c) b=>.e6 (.val (.int c) (c.wrap (0-b)))
  |_=>.no
 |.convert t p b=>match aq tt t,aq tt p,g b with
  |some (.int _),Y (.int c),.val (.int _) b=>.e6 (.val (.int c) (c.wrap b))
  |_,_,_=>.no
 |.nilCheck b=>match g b with
  |.val (.ptr r a) b=>.opt a.den b λe=>.val (.ptr r a) (Y e)
  |_=>.no
 |.indexAddr h b q=>match g4 tt h,g q with
  |some i,.val (.int _) q=>match g b with
   |.val (.a8 r a) j=>bif bd i a then .opt a.den (aw j q) λe=>.val (.ptr r a) (Y e) else .no
   |.ref id f=>match aq k id with
    |some d=>match fC d.1 f with
     |some (.osl a)=>bif bd i a then .opt X ((il d.1 d.2 f (.osl a)).bind λj=>be j.length q) λc=>.addr id (f++[.idx c]) else .no
     |_=>.no
    |none=>.no
   |.view id [] s u=>match aq k id with
    |some d=>match d.1 with
     |.osl a=>bif bd i a then .opt X (be (u-s) q) λc=>.addr id [.idx (s+c)] else .no
     |_=>.no
    |none=>.no
   |_=>.no
  |_,_=>.no
 |.load h b=>match aq tt h with
  |some i=>match g b with
   |.addr id f=>match aq k id with
    |some d=>match fC d.1 f with
     |some a=>bif bd i a&&a.pure then .opt a.den (il d.1 d.2 f a) λe=>.val a e else .no
     |none=>.no
    |none=>.no
   |.ref id f=>match aq k id with
    |some d=>match fC d.1 f with
     |some (.optr a)=>bif bd i a&&a.pure then .opt a.den (il d.1 d.2 (f++[.deref]) a) λe=>.val a e else .no
     |_=>.no
    |none=>.no
   |.val (.ptr _ a) b=>bif bd i a then .opt a.den b λe=>wv a e else .no
   |_=>.no
  |none=>.no
 |.fieldAddr h b m=>match l1 tt h,g b with
  |some i,.val (.ptr r (.st a)) b=>bif bd i a&&(fR a m).isSome then .opt a.den b λe=>(match sb a e m with
   |some n=>.val (.ptr r n.1) (Y n.2)
   |none=>.dead) else .no
  |_,_=>.no
 |.slice h b s u bo=>match g4 tt h with
  |some i=>match g b with
   |.val (.a8 r a) j=>bif bd i a then
    .opt ej ((xB (s.map g) 0).bind λl=>(xB (u.map g) j.length).bind λp=>(hX l p j.length).map λ_=>(l,p)) (λn=>.val (.a8 r a) ((j.take n.2).drop n.1)) else .no
   |.ref id f=>match aq k id with
    |some d=>match fC d.1 f with
     |some (.osl a)=>bif bd i a then
      .opt ej ((il d.1 d.2 f (.osl a)).bind λj=>(xB (s.map g) 0).bind λl=>(xB (u.map g) j.length).bind λp=>(hX l p j.length).bind λ_=>(wx j.length).map λ_=>(l,p)) (λn=>.view id f n.1 n.2) else .no
     |_=>.no
    |none=>.no
   |_=>.no
  |none=>.no
 |.makeSlice h l o=>match g4 tt h,aq z w,aq k w with
  |some i,Y (.osl a),bo=>match mN a,g l,g o with
   |some y,.val (.int _) l,.val (.int _) o=>bif bd i a&&b2 a.size 2000 then
    .new X (gg l o) (λm=>⟨.osl a,bJ m y⟩) w else .no
   |_,_,_=>.no
  |_,_,_=>.no
 |.index h b q=>match aq tt h,g b,g q with
  |some .str,.eB (.string t),.val (.int _) m=>.opt Z (rp t m) (.val (.int .u8))
  |some .str,.val .str t,.val (.int _) m=>.opt Z (rp t m) (.val (.int .u8))
  |_,_,_=>.no
 |.lookup h b c B=>match lC tt h,g b,g c with
  |some i,.ref id f,.val (.int .i64) c=>match aq k id with
   |some d=>match fC d.1 f with
    |some (.mp a)=>match mN a with
     |some y=>bif bd i a then .opt (bu (bm (Z×a.den)×X)) (il d.1 d.2 f (.mp a)) λx=>FM a x y c B else .no
     |none=>.no
    |_=>.no
   |none=>.no
  |_,_,_=>.no
 |.call o=>match o.callee,o.args.toList,o.argTypes.toList with
  |.builtin .len,[b],[h]=>match g4 tt h,g b with
   |some _,.ref id f=>match aq k id with
    |some d=>match fC d.1 f with
     |some (.osl a)=>.opt (bm a.den) (il d.1 d.2 f (.osl a)) λj=>.val (.int .i64) (j.length:Z)
     |_=>.no
    |none=>.no
   |none,.ref id f=>match lC tt h,aq k id with
    |some _,Y d=>match fC d.1 f with
     |some (.mp a)=>.opt (bu (bm (Z×a.den)×X)) (il d.1 d.2 f (.mp a)) λx=>.val (.int .i64) (yB x)
     |_=>.no
    |_,_=>.no
   |_,_=>.no
  |_,_,_=>.no
 |_=>.no
theorem Pg:∀{t:ah} {y:t.den} {b:X},(fR t b).isSome=bp->∃d,sb t y b=Y d
 |.pr e c,y,0,_=>⟨_,bn⟩
 |.pr e c,y,b+1,a=>by
  simp only[fR] at a;split at a
  ·rename_i d f;exact Pg (t:=c) (by grind)
  grind
 |.int _,_,_,a=>by cases a
 |.bool,_,_,a=>by cases a
 |.str,_,_,a=>by cases a
 |.a8 _ _,_,_,a=>by cases a
 |.ptr _ _,_,_,a=>by cases a
 |.osl _,_,_,a=>by cases a
 |.optr _,_,_,a=>by cases a
 |.st _,_,_,a=>by cases a
 |.nil,_,_,a=>by cases a
 |.eI,_,_,a=>by cases a
def Hz.K (g:Hz) (b:ak->bm (X×aE)->Prop):Prop:=
 match g with
 |.e6 e=>b e []
 |.opt _ c f=>∃a,c=Y a/\b (f a) []
 |.new _ c h d=>∃a,c=Y a/\b (.ref d []) [(d,h a)]
 |.no=>b4
theorem Ja {tt:bm (bE×ah)} {P:Op} {Q:ak->bm (X×aE)->Prop} (b:(k0 tt l e U a P).K Q):(hg tt l e U a P).K Q:=by
 unfold k0 at b;split at b
 ·rename_i P r m j a0;simp only[hg];split at b
  case h_2=>exact b.elim
  rename_i q m T j h ad;simp only[h,ad];split at b
  ·rename_i x;subst x;split at b
   ·simp only[mv,ck];exact⟨_,⟨trivial,bn⟩,b⟩
   ·simp only[mv,ck];exact⟨_,⟨trivial,bn⟩,b⟩
   ·simp only[mv,ck];exact⟨_,⟨trivial,bn⟩,b⟩
   ·obtain⟨w,i,f⟩:=b;unfold kM at i;split at i
    ·rename_i c;cases i;simp only[mv,ck];exact⟨_,⟨c,bn⟩,f⟩
    grind
   ·obtain⟨w,i,f⟩:=b;unfold jy at i;split at i
    ·rename_i c;cases i;simp only[mv,ck];exact⟨_,⟨c,bn⟩,f⟩
    grind
   ·obtain⟨w,i,f⟩:=b;unfold it at i;split at i
    ·rename_i c;cases i;exact⟨_,⟨c,bn⟩,f⟩
    grind
   ·obtain⟨w,i,f⟩:=b;unfold eQ at i;split at i
    ·rename_i c;cases i;exact⟨_,⟨c,bn⟩,f⟩
    grind
   ·simp only[mv,ck];exact⟨_,⟨trivial,bn⟩,b⟩
   ·simp only[mv,ck];exact⟨_,⟨trivial,bn⟩,b⟩
   ·simp only[mv,ck];exact⟨_,⟨trivial,bn⟩,b⟩
   ·simp only[mv,ck];exact⟨_,⟨trivial,bn⟩,b⟩
   exact b.elim
  split at b
  ·obtain⟨w,i,f⟩:=b;unfold it at i;split at i
   ·rename_i c;cases i;exact⟨_,⟨c,bn⟩,f⟩
   grind
  ·obtain⟨w,i,f⟩:=b;unfold eQ at i;split at i
   ·rename_i c;cases i;exact⟨_,⟨c,bn⟩,f⟩
   grind
  exact b.elim
 ·rename_i r m;simp only[hg];split at b
  case h_2=>exact b.elim
  rename_i q m h;rw[h];exact⟨_,bn,b⟩
 ·rename_i V x m;simp only[hg,Db];split at b
  case h_2=>exact b.elim
  rename_i T q a4 m al o h;rw[al,o,h];exact⟨_,bn,b⟩
 ·rename_i m;simp only[hg,wj];split at b
  case h_2=>exact b.elim
  rename_i E g m h;rw[h];obtain⟨j,rfl,f⟩:=b;exact⟨j,bn,f⟩
 ·rename_i r m S;simp only[hg,vV];split at b
  case h_2=>exact b.elim
  rename_i k q S al o;rw[al,o];simp only;split at b
  ·rename_i E g D h;rw[h];simp only;cases d:bd k g with
   |false=>rw[d] at b;exact b.elim
   |true=>
   rw[d] at b;obtain⟨j,c,f⟩:=b;exact⟨j,c,f⟩
  ·rename_i id B h;rw[h];simp only;split at b
   case h_2=>exact b.elim
   rename_i t n;rw[n];simp only;split at b
   case h_2=>exact b.elim
   rename_i g p;rw[p];simp only;cases d:bd k g with
   |false=>rw[d] at b;exact b.elim
   |true=>
   rw[d] at b;obtain⟨j,c,f⟩:=b;obtain⟨D,N,c⟩:=eV.1 c;obtain⟨u,v⟩:=PN c;exact⟨(D,j),⟨jl N,u,v⟩,f⟩
  ·rename_i id ap am h;rw[h];simp only;split at b
   case h_2=>exact b.elim
   rename_i t n;obtain⟨bx,m⟩:=t;rw[n];simp only at b|-;split at b
   case h_2=>exact b.elim
   rename_i g;simp only[fC];cases d:bd k g with
   |false=>rw[d] at b;exact b.elim
   |true=>
   rw[d] at b;obtain⟨q,an,f⟩:=b;obtain⟨u,v⟩:=PN an;exact⟨(m,q),⟨⟨bn,bn⟩,u,v⟩,f⟩
  exact b.elim
 ·rename_i r m;simp only[hg,v7];split at b
  case h_2=>exact b.elim
  rename_i k al;rw[al];simp only;split at b
  ·rename_i id B h;rw[h];simp only;split at b
   case h_2=>exact b.elim
   rename_i t n;rw[n];simp only;split at b
   case h_2=>exact b.elim
   rename_i g p;rw[p];simp only[wC];cases d:(bd k g&&g.pure) with
   |false=>rw[d] at b;exact b.elim
   |true=>
   rw[d] at b;simp only[cF] at d;rw[d.1,d.2];obtain⟨j,c,f⟩:=b;exact⟨j,jl c,f⟩
  ·rename_i id B h;rw[h];simp only;split at b
   case h_2=>exact b.elim
   rename_i t n;rw[n];simp only;split at b
   case h_2=>exact b.elim
   rename_i g p;rw[p];simp only[wC];cases d:(bd k g&&g.pure) with
   |false=>rw[d] at b;exact b.elim
   |true=>
   rw[d] at b;simp only[cF] at d;rw[d.1,d.2];obtain⟨j,c,f⟩:=b;exact⟨j,jl c,f⟩
  ·rename_i E g m h;rw[h];cases d:bd k g with
   |false=>rw[d] at b;exact b.elim
   |true=>
   rw[d] at b;obtain⟨j,rfl,f⟩:=b;simp only[d,bF];exact f
  exact b.elim
 ·rename_i r m O;simp only[hg,vP];split at b
  case h_2=>exact b.elim
  rename_i k E g m al h;rw[al,h];cases d:(bd k g&&(fR g O).isSome) with
  |false=>rw[d] at b;exact b.elim
  |true=>
  rw[d] at b;simp only[cF] at d;obtain⟨j,rfl,f⟩:=b;obtain⟨bs,R⟩:=Pg (y:=j) d.2;simp only[R] at f;simp only[d.1,bF,R];exact f
 ·rename_i r m ap am;simp only[hg,wL];split at b
  case h_2=>exact b.elim
  rename_i k al;rw[al];simp only;split at b
  ·rename_i E g D h;rw[h];simp only;cases d:bd k g with
   |false=>rw[d] at b;exact b.elim
   |true=>
   rw[d] at b;obtain⟨j,c,f⟩:=b;obtain⟨A,L,c⟩:=eV.1 c;obtain⟨x,J,c⟩:=eV.1 c;obtain⟨av,M,rfl⟩:=fO.1 c;obtain⟨u,v⟩:=P9 M;exact⟨(A,x),⟨C3 L,C3 J,u,v⟩,f⟩
  ·rename_i id B h;rw[h];simp only;split at b
   case h_2=>exact b.elim
   rename_i t n;rw[n];simp only;split at b
   case h_2=>exact b.elim
   rename_i g p;rw[p];simp only;cases d:bd k g with
   |false=>rw[d] at b;exact b.elim
   |true=>
   rw[d] at b;obtain⟨j,c,f⟩:=b;obtain⟨D,N,c⟩:=eV.1 c;obtain⟨A,L,c⟩:=eV.1 c;obtain⟨x,J,c⟩:=eV.1 c;obtain⟨av,M,c⟩:=eV.1 c;obtain⟨fb,a3,rfl⟩:=fO.1 c;obtain⟨u,v⟩:=P9 M;exact⟨(D,A,x),⟨jl N,C3 L,C3 J,u,v⟩,f⟩
  exact b.elim
 ·rename_i r A G;simp only[hg,wa];split at b
  case h_2=>exact b.elim
  rename_i k g al o s;rw[al,o,s];simp only;split at b
  case h_2=>exact b.elim
  rename_i w q A T G z C H;rw[z,C,H];simp only;cases d:(bd k g&&b2 g.size 2000) with
  |false=>rw[d] at b;exact b.elim
  |true=>
  rw[d] at b;obtain⟨j,c,f⟩:=b;unfold gg at c;split at c
  ·rename_i I;cases c;exact⟨(A.toNat,G.toNat),⟨(ap5 I.1).symm,(ap5 (Int.le_trans I.1 I.2.1)).symm,aa,aa⟩,f⟩
  grind
 ·rename_i r m S;simp only[hg,GR];split at b
  ·rename_i V q O al o s;rw[al,o,s];obtain⟨F,d,f⟩:=b;exact⟨F,d,f⟩
  ·rename_i V q O al o s;rw[al,o,s];obtain⟨F,d,f⟩:=b;exact⟨F,d,f⟩
  exact b.elim
 ·rename_i r m q bl;simp only[hg,v8];split at b
  case h_2=>exact b.elim
  rename_i k id B q al o s;rw[al,o,s];simp only;split at b
  case h_2=>exact b.elim
  rename_i t n;rw[n];simp only;split at b
  case h_2=>exact b.elim
  rename_i g p;rw[p];simp only;split at b
  case h_2=>exact b.elim
  rename_i w i;rw[i];simp only;cases d:bd k g with
  |false=>rw[d] at b;exact b.elim
  |true=>
  rw[d] at b;obtain⟨j,c,f⟩:=b;exact⟨j,jl c,f⟩
 ·rename_i G;simp only[hg];split at b
  ·rename_i m r al o s;rw[al,o,s];simp only;split at b
   ·rename_i k id B z C;rw[z,C];simp only[v2,z];split at b
    case h_2=>exact b.elim
    rename_i t n;rw[n];simp only;split at b
    case h_2=>exact b.elim
    rename_i g p;rw[p];obtain⟨j,c,f⟩:=b;exact⟨j,jl c,f⟩
   ·rename_i id B z C;rw[z,C];simp only[we];split at b
    case h_2=>exact b.elim
    rename_i k t H n;rw[H,n];simp only;split at b
    case h_2=>exact b.elim
    rename_i g p;rw[p];obtain⟨j,c,f⟩:=b;exact⟨j,jl c,f⟩
   exact b.elim
  exact b.elim
 exact b.elim
def jW {e:Type} (c d:bm e) (a b:X):bm e:=c.take a++(d.take (b-a)++c.drop (a+min d.length (b-a)))
end
section
def Bk:ak->bz
 |.val _ _=>bp
 |_=>bq
def JX:ak->bz
 |.val _ _=>bp
 |.di _ a=>a.all Bk
 |_=>bq
theorem JY (b:JX d=bp):∀id∈d.ids,False:=by
 intro id c;cases d with
 |val f e=>grind [bS]
 |di g a=>
  have b:a.all Bk=bp:=b;have:∀a:bm ak,a.all Bk=bp->∀id∈amh a,False:=by
   intro a
   induction a with
   |nil=>grind [amh]
   |cons d a h=>
    intro b id c;simp only[sT,cF] at b;simp only[amh,g0] at c;rcases c with c|c
    ·cases d with
     |val f e=>grind [bS]
     |_=>cases b.1
    grind
  exact this a b id c
 |_=>cases b
def ql (C:e7) (c:bm (X×ak)):Prop:=
 (∀a,C.I0 a\/C.B a->a<C.w0.heap.size/\¬C.F0 a)/\
 ∀b∈c,b.1∈C.pin/\JX b.2=bp/\cT (bf C.I0 C.B) C.w0 [] (λ_=>[]) (λ_=>[]) b.2 (C.vs b.1)
section
variable {E:fM} {C:e7}
def ql.nil (b:∀a,C.I0 a\/C.B a->a<C.w0.heap.size/\¬C.F0 a):ql C []:=⟨b,λc b=>by cases b⟩
theorem YM (c b:bm (X×ak)) (a:X):gt (c++b) a=match aq c a with|some d=>d|none=>gt b a:=by grind [k4,aq,gt]
theorem Bq {e:Type}:∀{c:bm (X×e)} {b:X} {d:e},aq c b=Y d->(b,d)∈c
 |[],_,_,a=>by cases a
 |(f,v0)::c,b,d,a=>by
  rw[eC] at a;split at a
  ·grind
  exact gx _ (Bq a)
def gR.kg (f:ql C S) {j:ew} (n:gR C i j v):gR C ⟨S++i.g,i.h⟩ j v:=by
 obtain⟨k,w,m,b⟩:=n;refine⟨k,w,m,{b with tmp:=λc=>?_}⟩;show cT _ _ _ _ _ (gt (S++i.g) c) _;rw[YM];split
 ·rename_i l s;obtain⟨o,p,d⟩:=f.2 _ (Bq s);have d:cT (bf C.I0 C.B) C.w0 [] (λ_=>[]) (λ_=>[]) l (C.vs c):=d;rw[b.pin c o];refine d.uf (λt a e=>?_) (λid r=>(JY p id r).elim);have q:C.I0 a\/C.B a:=nH e;obtain⟨ax,u⟩:=f.1 a q;refine⟨?_,ao3 (b.frame a ax u)⟩;cases t
  ·exact b.i0 a e
  exact e.imp (b.i0 a) id
 exact b.tmp c
def J.kg {d:bm (X×ak)} (k:ql C d) {c:cq} {a:aR} {b:b5->aR->Prop} (f:J E C c ⟨d++a.g,a.h⟩ b):J E C c a b:=
 λe l i j=>f e l (i.kg k) j
def tS (a:bm (X×ak)):ak9->bu (bm (X×ak))
 |[]=>Y []
 |k::c=>match gt a k with
  |.val g f=>(tS a c).map λb=>(k,.val g f)::b
  |.di e d=>bif d.all Bk then(tS a c).map λb=>(k,.di e d)::b else bo
  |_=>bo
theorem JP {h:bm (X×ak)}:∀{g:ak9} {d:bm (X×ak)},tS h g=Y d->∀b∈d,b.1∈g/\JX b.2=bp/\gt h b.1=b.2
 |[],d,c,b,a=>by cases c;cases a
 |k::g,d,c,b,a=>by
  simp only[tS] at c;split at c
  ·rename_i q p f;obtain⟨n,e,rfl⟩:=fO.1 c;rcases fF.1 a with rfl|a
   ·exact⟨jd ..,bn,f⟩
   obtain⟨j,l⟩:=JP e b a;grind
  ·rename_i o m f;cases i:m.all Bk with
   |false=>grind
   |true=>
   rw[i] at c;obtain⟨n,e,rfl⟩:=fO.1 c;rcases fF.1 a with rfl|a
   ·exact⟨jd ..,i,f⟩
   obtain⟨j,l⟩:=JP e b a;grind
  grind
theorem J.keep {K:cq} {H:bm (X×ak)} (r:ql C S) (ap:tS i.g f=Y H) (l:∀k:e7,k.n=C.n->k.pin=f++C.pin->ql k (H++S)->(∀t,u0 C t->u0 k t)->(lM E C.I0 C.w0->lM E k.I0 k.w0)->J E k K i y):J E C K i y:=by
 rintro u I ⟨z,M,A,b⟩ ad
 let k:e7:={I0:=z,B:=C.B,F0:=λa=>∃id d,aq i.h id=Y d/\a∈A id,w0:=I,n:=C.n,pin:=f++C.pin,vs:=λq=>u.tmps.getD q bV}
 have U:cP k i u.tmps I z M A:=
  {n:=b.n,i0:=λ_ l=>l,i1:=λ_ l=>.inl l,ib:=b.ib,tree:=λid d j=>⟨(b.tree id d j).1,(b.tree id d j).2.1,λa c=>⟨((b.tree id d j).2.2 a c).1,((b.tree id d j).2.2 a c).2.1,((b.tree id d j).2.2 a c).2.2.1,.inr ⟨id,d,j,c⟩⟩⟩,dis:=b.dis,tmp:=b.tmp,frame:=λ_ _ _=>rfl,evo:=λ_ _=>.refl _ _,size:=bc _,os:=rfl,tape:=rfl,output:=rfl,pin:=λq _=>rfl}
 have an:ql k (H++S):=by
  refine⟨λa c=>⟨b.ib a c,?_⟩,λw p=>?_⟩
  ·rintro⟨id,d,j,V⟩;obtain⟨ax,x,_⟩:=(b.tree id d j).2.2 a V;grind
  rcases g0.1 p with p|p
  ·obtain⟨m,o,D⟩:=JP ap w p;refine⟨g0.2 (.inl m),o,?_⟩;have:=b.tmp w.1;rw[D] at this;exact this.uf (λL a s=>⟨s,cp _ _⟩) (λid F=>(JY o id F).elim)
  obtain⟨m,o,D⟩:=r.2 w p;refine⟨g0.2 (.inr m),o,?_⟩;show cT _ _ _ _ _ _ (u.tmps.getD w.1 bV);rw[b.pin _ m];refine D.uf (λL a s=>?_) (λid F=>(JY o id F).elim);obtain⟨ax,x⟩:=r.1 a (nH s);refine⟨?_,ao3 (b.frame a ax x)⟩;cases L
  ·exact b.i0 a s
  exact s.imp (b.i0 a) id
 have a0:∀t,u0 C t->u0 k t:=by
  rintro(_|⟨q,dl,d0⟩) av
  ·trivial
  obtain⟨N,O,a,a3,c1,ci,P,co,d1,cs⟩:=av;refine⟨ln _ N,λv G=>ln _ (O v G),a,a3,c1,(b.pin q N).trans ci,jE P b.size,?_,?_,?_⟩
  ·rintro⟨id,d,j,c⟩;rcases((b.tree id d j).2.2 a c).2.2.2 with m|m
   ·omega
   grind
  ·have c:=b.frame a P co;grind [block,amr]
  rw[cs];exact iU λv G=>(b.pin v (O v G)).symm
 refine wp_mono (l k bn rfl an a0 (λT=>b.glob r.1 T) u I ⟨z,M,A,U⟩ ad) ?_;rintro dg c2 d2 ⟨cv,p,⟨Q,ce,R,e⟩,am⟩;have ds:∀a,k.F0 a->C.w0.heap.size<=a\/C.F0 a:=(by rintro a ⟨id,d,j,c⟩;exact((b.tree id d j).2.2 a c).2.2.2);refine⟨cv,p,⟨Q,ce,R,?_⟩,am⟩;refine{n:=e.n,i0:=λa c=>e.i0 a (b.i0 a c),i1:=λa c=>?_,ib:=e.ib,tree:=λid d j=>?_,dis:=e.dis,tmp:=e.tmp,frame:=λa m o=>?_,evo:=λa c=>(b.evo a c).trans (e.evo a (jE c b.size)),size:=cO b.size e.size,os:=e.os.trans b.os,tape:=e.tape.trans b.tape,output:=e.output.trans b.output,pin:=λq r=>?_}
 ·rcases e.i1 a c with l|l|l
  ·exact b.i1 a l
  ·exact .inr (.inl (cO b.size l))
  grind
 ·obtain⟨ax,x,a4⟩:=e.tree id d j;refine⟨ax,x,λa c=>?_⟩;obtain⟨bl,bs,bx,aV⟩:=a4 a c;refine⟨bl,bs,bx,?_⟩;rcases aV with l|l
  ·exact .inl (cO b.size l)
  grind
 ·refine(e.frame a (jE m b.size) ?_).trans (b.frame a m o);grind
 rw[e.pin q (g0.2 (.inr r))];exact b.pin q r
end
end
structure cK where
 d:bu (X×ak)
 S:ak9
 keep:bm (X×bm a6)
 put:bm (X×aE)
variable{q:cK}
def og (a:ak9) (c:bm (X×bm a6)) (b:bm (X×ak)):bm (X×ak):=match a with
 |[]=>b
 |_=>alu a c b
def r7 (a:ak9) (b:bm (X×aE)):bm (X×aE):=match a with
 |[]=>b
 |_=>del a b
def cK.app (a:cK) (b:aR):aR:=⟨match a.d with
 |some c=>c::og a.S a.keep b.g
 |none=>og a.S a.keep b.g,a.put++r7 a.S b.h⟩
theorem Zo (b:bm (X×bm a6)) (a:ak):fS [] b a=a:=by
 have c:∀a,fo [] b a=a:=λa=>(by have:(a.ids.any λd=>eY d [])=bq:=(by grind [ao4,eY]);simp only[fo,alo,this,ao5,bP]);cases a with
 |fu e=>grind [alA,ao6,fS]
 |_=>exact c _
theorem Zt (c:bm (X×bm a6)):∀b:bm (X×ak),alu [] c b=b
 |[]=>rfl
 |(k,a)::b=>by simp_all [gL,Zo,alu]
theorem W9:∀a:bm (X×aE),del [] a=a
 |[]=>rfl
 |x::a=>by simp_all [mh,au,eY,del]
theorem tT (a:ak9) (c:bm (X×bm a6)) (b:bm (X×ak)):og a c b=alu a c b:=by
 cases a
 ·exact(Zt c b).symm
 rfl
theorem ya (a:ak9) (b:bm (X×aE)):r7 a b=del a b:=by
 cases a
 ·exact(W9 b).symm
 rfl
def sE {k:Type} (tt:bm (bE×ah)) (f:bm (X×aE)) (m:bE) (q v:ak) (e:cK->bu k):bu k:=
 match su f q with
 |none=>bo
 |some (
  id,p)=>match aq f id,aq tt m with
  |some a,Y o=>match fC a.1 p with
   |none=>bo
   |some b=>bif bd o b then match v with
    |.ref c g=>match aq f c with
     |some l=>bif bH id c then bo else(il l.1 l.2 g b).bind λh=>(nc a.1 a.2 p b h).bind λd=>e ⟨bo,[id,c],[(id,p)],[(id,⟨a.1,d⟩)]⟩
     |none=>bo
    |.app c g i j n=>match ij (τ:=.osl i) b j with
     |some _=>bif bH c id&&mE g p then(il a.1 a.2 p (.osl i)).bind λr=>(nc a.1 a.2 p (.osl i) (r++j)).bind λd=>e ⟨bo,id::n,[(id,p)],[(id,⟨a.1,d⟩)]⟩ else bo
     |none=>bo
    |v=>match coe b v with
     |some h=>(nc a.1 a.2 p b h).bind λd=>e ⟨bo,[id],[(id,p)],[(id,⟨a.1,d⟩)]⟩
     |none=>bo
   else bo
  |_,_=>bo
theorem agx {q:b} {n:cK->bu b} {tt:bm (bE×ah)} (a:sE tt i.h c t d n=Y q) (k:∀o,n o=Y q->u (o.app i)):(GQ tt i c t d).K u:=by
 unfold sE at a;unfold GQ;split at a
 ·cases a
 rename_i id A v;rw[v];simp only;split at a
 case h_2=>cases a
 rename_i F B w r;obtain⟨O,M⟩:=F;rw[w,r];simp only at a|-;split at a
 ·cases a
 rename_i D z;rw[z];simp only;cases s:bd B D with
 |false=>grind
 |true=>
 rw[s] at a;simp only[bF] at a|-;split at a
 ·rename_i l p;split at a
  case h_2=>cases a
  rename_i E x;obtain⟨P,J⟩:=E;cases e:bH id l with
  |true=>grind
  |false=>
  rw[e] at a;obtain⟨m,f,a⟩:=eV.1 a;obtain⟨j,g,a⟩:=eV.1 a;simp only[x,e,bP];exact⟨(m,j),⟨jl f,nM g⟩,k _ a⟩
 ·rename_i l p N L I;split at a
  case h_2=>cases a
  rename_i m f;cases kD f;cases e:(bH l id&&mE p A) with
  |false=>grind
  |true=>
  rw[e] at a;simp only[cF] at e;obtain⟨C,y,a⟩:=eV.1 a;obtain⟨j,g,a⟩:=eV.1 a;simp only[ams];exact⟨(C,j),⟨fH e.1,mE.ok e.2,jl y,nM g⟩,k _ a⟩
 rename_i d G H;split at a
 case h_2=>cases a
 rename_i m f;obtain⟨j,g,a⟩:=eV.1 a;split
 ·grind
 ·grind
 rw[f];exact⟨j,nM g,k _ a⟩
def lK (e:bm (X×aE)) (a:ah) (i:ak):bu (bm a.den):=
 match i with
 |.val (.a8 _ h) d=>ij (τ:=.osl h) (.osl a) d
 |.eB (.slice bo 0 0)=>Y []
 |.ref id c=>match aq e id with
  |some b=>bif a.pure then il b.1 b.2 c (.osl a) else bo
  |none=>bo
 |.view id c g f=>match aq e id with
  |some b=>bif a.pure then(il b.1 b.2 c (.osl a)).bind λd=>Y ((d.take f).drop g) else bo
  |none=>bo
 |_=>bo
def ms.Hm {c:ah} (e:ms c) (b:bm c.den):Prop:=
 match e with
 |.e6 f=>f=b
 |.part _ g d=>∃a,g a/\d a=b
 |.bad=>b4
theorem Cp {f:bm k.den} (a:lK e k d=Y f):(sK e k d).Hm f:=by
 unfold lK at a;unfold sK;split at a
 ·rename_i p q h;cases kD a;simp only[ams];rfl
 ·cases a;rfl
 ·rename_i id j;split at a
  case h_2=>cases a
  rename_i g c;obtain⟨m,l⟩:=g;simp only[c];cases b:k.pure with
  |false=>grind
  |true=>rw[b] at a;exact⟨f,jl a,bn⟩
 ·rename_i id j o n;split at a
  case h_2=>cases a
  rename_i g c;obtain⟨m,l⟩:=g;simp only[c];cases b:k.pure with
  |false=>grind
  |true=>
   rw[b] at a;obtain⟨h,i,a⟩:=eV.1 a;cases a;exact⟨h,jl i,bn⟩
 grind
def ms.Hm.to {d:ah} {c:ms d} {a:bm d.den} (b:c.Hm a) {g:X->Prop} {f:bm d.den->aR} {e:aR->Prop} (h:g a.length) (i:e (f a)):(c.to g f).K e:=by
 cases c with
 |e6 l=>obtain rfl:l=a:=b;exact⟨(),h,i⟩
 |part n o m=>obtain⟨k,j,rfl⟩:=b;exact⟨k,⟨j,h⟩,i⟩
 |bad=>exact b.elim
def pD {n:Type} (tt:bm (bE×ah)) (p:bm (X×ah)) (d:bm (X×aE)) (b:X) (o:bE) (q g:ak) (f:cK->bu n):bu n:=
 match g4 tt o with
 |none=>bo
 |some i=>
  match q with
  |.ref id []=>match aq d id with
   |some ⟨.osl a,e⟩=>bif bd i a&&b2 a.size 1300 then
    match a.pure with
    |true=>(lK d a g).bind λc=>(cN (e.length+c.length)).bind λ_=>f ⟨Y (b,.ref b []),[id,b],[],[(b,⟨.osl a,e++c⟩)]⟩
    |false=>match g with
     |.ref k []=>match aq d k with
      |some r=>match ij (.osl a) r.2 with
       |some c=>bif bH id k then bo else(cN (e.length+cz (α:=a.den) c)).bind λ_=>f ⟨Y (b,.ref b []),[id,k,b],[],[(b,⟨.osl a,List.append (α:=a.den) e c⟩)]⟩
       |none=>bo
      |none=>bo
     |_=>bo
    else bo
   |_=>bo
  |.ref id h=>match aq d id,aq d b with
   |some j,bo=>match fC j.1 h with
    |some (.osl a)=>bif bd i a&&b2 a.size 1300&&a.k5 then
     (il j.1 j.2 h (.osl a)).bind λe=>(lK d a g).bind λc=>(cN (cz (α:=a.den) e+c.length)).bind λ_=>
      f ⟨Y (b,.app id h a c [b]),[id],[(id,h),(id,[])],[(b,⟨.eI,()⟩),(id,j)]⟩
     else bo
    |_=>bo
   |_,_=>bo
  |.view id [] m l=>match aq d id with
   |some ⟨.osl a,e⟩=>bif bd i a&&b2 a.size 1300 then
    (lK d a g).bind λc=>(cN (cz (α:=a.den) ((e.take l).drop m)+c.length)).bind λ_=>f ⟨Y (b,.ref b []),[id,b],[],[(b,⟨.osl a,(e.take l).drop m++c⟩)]⟩
    else bo
   |_=>bo
  |.eB (.slice bo 0 0)=>match aq p b with
   |some (.osl a)=>bif bd i a&&b2 a.size 1300 then
    (lK d a g).bind λc=>(cN c.length).bind λ_=>f ⟨Y (b,.ref b []),[b],[],[(b,⟨.osl a,c⟩)]⟩
    else bo
   |_=>bo
  |_=>bo
theorem VS {A:b} {w:cK->bu b} {tt:bm (bE×ah)} (e:pD tt l i.h a c d t w=Y A) (m:∀x,w x=Y A->u (x.app i)):(CU tt l i a c d t).K u:=by
 unfold pD at e;unfold CU;split at e
 ·cases e
 rename_i s F;rw[F];simp only;split at e
 ·rename_i id;simp only;split at e
  case h_2=>cases e
  rename_i j v n;rw[n];simp only;cases k:(bd s j&&b2 j.size 1300) with
  |false=>grind
  |true=>
  rw[k] at e;simp only[bF] at e|-;split at e
  ·rename_i q;rw[q];obtain⟨p,f,e⟩:=eV.1 e;obtain⟨_,g,e⟩:=eV.1 e;exact(Cp f).to (yz g) (m _ e)
  rename_i q;rw[q];split at e
  case h_2=>cases e
  rename_i H;split at e
  case h_2=>cases e
  rename_i M E;obtain⟨V,R⟩:=M;split at e
  case h_2=>cases e
  rename_i p f;cases kD f;cases y:bH id H with
  |true=>grind
  |false=>
  rw[y] at e;obtain⟨_,g,e⟩:=eV.1 e;simp only[E,ams,y,bP];exact⟨(),yz g,m _ e⟩
 ·rename_i id z q;split at e
  case h_2=>cases e
  rename_i L n D;obtain⟨U,S⟩:=L;simp only at e;split at e
  case h_2=>cases e
  rename_i j G;cases k:(bd s j&&b2 j.size 1300&&j.k5) with
  |false=>grind
  |true=>
  rw[k] at e;obtain⟨v,r,e⟩:=eV.1 e;obtain⟨p,f,e⟩:=eV.1 e;obtain⟨_,g,e⟩:=eV.1 e;have g:=yz g;have f:=Cp f;have r:=jl r;cases z with
  |nil=>grind
  |cons Q z=>
  simp only[n,D,G,k,bF];split
  ·rename_i J o;rw[o] at f;obtain rfl:J=p:=f;exact⟨v,⟨r,g⟩,m _ e⟩
  ·rename_i T ad N o;rw[o] at f;obtain⟨I,B,rfl⟩:=f;exact⟨(v,I),⟨r,B,g⟩,m _ e⟩
  rename_i o;rw[o] at f;exact f.elim
 ·rename_i id P O;simp only;split at e
  case h_2=>cases e
  rename_i j v n;rw[n];simp only;cases k:(bd s j&&b2 j.size 1300) with
  |false=>grind
  |true=>
  rw[k] at e;simp only[bF] at e|-;obtain⟨p,f,e⟩:=eV.1 e;obtain⟨_,g,e⟩:=eV.1 e;exact(Cp f).to (yz g) (m _ e)
 ·simp only;split at e
  case h_2=>cases e
  rename_i j C;rw[C];simp only;cases k:(bd s j&&b2 j.size 1300) with
  |false=>grind
  |true=>
  rw[k] at e;simp only[bF] at e|-;obtain⟨p,f,e⟩:=eV.1 e;obtain⟨_,g,e⟩:=eV.1 e;exact(Cp f).to (yz g) (m _ e)
 grind
def qG (d:bm (X×ah)) (c:bm (X×aE)) (a:X) (h:ak):bu cK:=
 match h with
 |.ref id []=>match aq c id with
  |some b=>Y ⟨Y (a,.ref a []),[id,a],[],[(a,b)]⟩
  |none=>bo
 |.ref id g=>bif bH id a then bo else Y ⟨Y (a,.ref id g),[a],[],[]⟩
 |.view id [] f e=>match aq c id with
  |some ⟨.osl b,i⟩=>Y ⟨Y (a,.ref a []),[id,a],[],[(a,⟨.osl b,(i.take e).drop f⟩)]⟩
  |_=>bo
 |.eB (.slice bo 0 0)=>match aq d a with
  |some (.osl b)=>Y ⟨Y (a,.ref a []),[a],[],[(a,⟨.osl b,[]⟩)]⟩
  |_=>bo
 |_=>bo
theorem V3 (b:qG l i.h a d=Y q) (e:u (q.app i)):(CW l i a d).K u:=by
 unfold qG at b;unfold CW;split at b
 ·split at b
  ·rename_i j c;cases b;simp only[c];exact e
  grind
 ·rename_i id g k;cases f:bH id a with
  |true=>grind
  |false=>
  rw[f] at b;cases b;cases g with
  |nil=>grind
  |cons m g=>simp only[f,bP];exact e
 ·split at b
  ·rename_i j n c;cases b;simp only[c];exact e
  grind
 ·split at b
  ·rename_i j c;cases b;simp only[c];exact e
  grind
 grind
section
section
variable {E:fM} {C:e7} {st:aR} {a:Act} {w w':bC} {I:X->Prop} {rt:X->ez} {fp:X->ak9} {o:bQ} {Q:aR->Prop}
def e8.own {S:ak9} {t:aE} {cs:ez} {f:ak9} {v:Value} {next:Act->bC->Prop} {u:b5->Act->bC->Prop} (A:o.dst=Y m) (F:C.ok m) (l:cP C st a.tmps w I rt fp) (J:∀r k w',Q r->k.defers=a.defers->gR C r k.tmps w'->next k w') (D:m∈S\/aq st.h m=bo) (M:(bM a.eval o).run E.P w=.ok (.value v) w') (c:hC w w') (N:v=c3 t.1 cs) (L:aW (bf I C.B) w' t.1 cs t.2 f) (G:f.Nodup) (i:∀b∈f,(w.heap.size<=b/\b<w'.heap.size)\/∃q∈S,∃R,aq st.h q=Y R/\b∈fp q) (K:Q ⟨(m,.ref m [])::alu S [] st.g,(m,t)::del S st.h⟩):o.wp E.P a w next u:=by
 have j:=l.eG (n0.one (st:=st) (C:=C) (rt:=rt) (w':=w') (I':=I) (S:=S) (d:=m) (t:=t) (cs:=cs) (f:=f) D c.size c.os c.tape c.output (λb i _=>c.heap b i) (λb i=>(ao3 (c.heap b i)).2) (λ_ e=>e) (λ_ e=>.inl e) L G (λb z=>by
  rcases i b z with⟨x,y⟩|⟨p,H,s,j,n⟩
  ·exact⟨λe=>by have:=l.ib b (.inl e);omega,y,.inl x⟩
  obtain⟨ax,T,O,U⟩:=(l.tree p s j).2.2 b n;exact⟨ax,jE O c.size,.inr ⟨p,H,s,j,n⟩⟩))
 unfold alk;rw[M];show next (a.put o.dst v) w'
 rw[A];refine J _ _ _ K bn ⟨_,_,_,j.put F (av:=.ref m []) ?_⟩;rw[N];refine .ref (t:=t) (loc:=bo) (by rw[k4,eC,au bn];rfl) ?_;rw[FR];exact amR
def yO (e:bm (X×aE)) (a:ah):ak->bu (aE×ak9)
 |.val d b=>bif bd a d then Y (⟨d,b⟩,[]) else bo
 |.eB f=>match ji a f.cells.toList with
  |some b=>Y (⟨a,b⟩,[])
  |none=>bo
 |.ref id []=>match aq e id with
  |some c=>bif bd a c.1 then Y (c,[id]) else bo
  |none=>bo
 |_=>bo
theorem R5 (l:∀id t,aq e id=Y t->aW T w t.1 (rt id) t.2 (fp id)) {a:ah} (i:fx p a c) (h:cT T w e rt fp d R) {t:aE} {ids:ak9} (b:yO e a d=Y (t,ids)):aW T w t.1 R.cells.toList t.2 (ids.map fp).flatten/\t.1.size=a.size/\∀id∈ids,∃o,aq e id=Y o:=by
 unfold yO at b;split at b
 ·rename_i r q;cases f:bd a r with
  |false=>grind
  |true=>
   rw[f] at b;cases b;cases h with|val g=>
   rw[pc (i.lay f) g.len g.one];grind [ao7]
 ·rename_i u;split at b
  ·rename_i q s;cases b;cases h;grind [qJ]
  grind
 ·rename_i id;split at b
  ·rename_i n j;cases f:bd a n.1 with
   |false=>grind
   |true=>
    rw[f] at b;cases b;cases h with|ref k m=>
    rw[j] at k;cases k;obtain⟨rfl,rfl,rfl⟩:=alE.1 m;have g:=l id _ j;rw[pc (i.lay f) g.len g.one];grind [alh,ao7]
  grind
 grind
def nI (e:bm (X×aE)) (d:bL->ak) (g:bm (X×bL)):ah->X->bu (aE×ak9)
 |.pr a h,f=>
  match(match mF g f with
   |none=>match mN a with
    |some i=>Y ((⟨a,i⟩:aE),([]:ak9))
    |none=>bo
   |some b=>yO e a (d b)),nI e d g h (f+1) with
  |some b,Y c=>Y (⟨.pr b.1.1 c.1.1,(b.1.2,c.1.2)⟩,b.2++c.2)
  |_,_=>bo
 |.nil,_=>Y (⟨.nil,()⟩,[])
 |_,_=>bo
theorem QK {p:bY} {g:eH->X->Prop} {b:bm (X×aE)} (z:∀id t,aq b id=Y t->aW g w t.1 (rt id) t.2 (fp id)) {m:bL->ak} {h:bL->Value} (y:∀c,cT g w b rt fp (m c) (h c)) {parts:bm (X×bL)} {cells:ez}:∀{u:ah} {n:X} {r:bm alz} {off:X} {zs:ez} {t:aE} {ids:ak9},i9 p u r off zs->nI b m parts u n=Y (t,ids)->cells.length=off+u.size->(∀d k e,fR u d=Y (k,e)->(∀c,mF parts (n+d)=Y c->(h c).cells.size=e.size/\(cells.drop (off+fK u d)).take e.size=(h c).cells.toList)/\(mF parts (n+d)=bo->(cells.drop (off+fK u d)).take e.size=(zs.drop (fK u d)).take e.size))->aW g w t.1 (cells.drop off) t.2 (ids.map fp).flatten/\t.1.size=u.size/\∀id∈ids,∃u,aq b id=Y u
 |.pr a q,n,E::O,off,zs,t,ids,o,f,A,i=>by
  simp only[nI] at f;split at f
  case h_2=>cases f
  rename_i c l j C;cases f;obtain⟨F,s,G,⟨K,R,ax,M,N⟩,v⟩:=o;have x:=i 0 _ a bn;simp only[ml,fK,np] at x;have H:aW g w c.1.1 ((cells.drop off).take a.size) c.1.2 (c.2.map fp).flatten/\c.1.1.size=a.size/\∀id∈c.2,∃u,aq b id=Y u:=by
   split at j
   ·rename_i J;split at j
    ·rename_i S D;cases j;obtain⟨L,T,P,Q,_,aV⟩:=wW s D;grind
    grind
   grind [R5]
  have I:=QK z y (parts:=parts) (cells:=cells) (u:=q) (n:=n+1) (off:=off+a.size) (zs:=zs.drop a.size) (t:=l.1) (ids:=l.2) v C (by grind [alC]) (by
   intro d k e B;have:=i (d+1) (.snd::k) e (by simp[fR,B]);grind [ann,fK])
  refine⟨⟨(c.2.map fp).flatten,(l.2.map fp).flatten,ac,?_,?_⟩,by grind [alC],?_⟩
  ·grind
  ·simp_all
  grind
 |.nil,n,[],off,zs,t,ids,o,f,A,i=>by cases f;exact⟨⟨bn,by grind [List.drop_eq_nil_iff,alC]⟩,bn,ac⟩
 |.pr _ _,_,[],_,_,_,_,b,_,_,_=>b.elim
 |.nil,_,_::_,_,_,_,_,b,_,_,_=>b.elim
 |.int _,_,_,_,_,_,_,b,_,_,_=>by cases b
 |.bool,_,_,_,_,_,_,b,_,_,_=>by cases b
 |.str,_,_,_,_,_,_,b,_,_,_=>by cases b
 |.a8 _ _,_,_,_,_,_,_,b,_,_,_=>by cases b
 |.osl _,_,_,_,_,_,_,b,_,_,_=>by cases b
 |.ptr _ _,_,_,_,_,_,_,b,_,_,_=>by cases b
 |.optr _,_,_,_,_,_,_,b,_,_,_=>by cases b
 |.st _,_,_,_,_,_,_,b,_,_,_=>by cases b
 |.eI,_,_,_,_,_,_,b,_,_,_=>by cases b
theorem QL {z:bY} {h:eH->X->Prop} {b:bm (X×aE)} (l:∀id t,aq b id=Y t->aW h w t.1 (rt id) t.2 (fp id)) {j:bL->ak} {i:bL->Value} (k:∀e,cT h w b rt fp (j e) (i e)) {q:bm (X×bL)}:∀{u:ah} {n:X} {B:bm alz} {p:X} {y:ez} {t:aE} {ids:ak9},i9 z u B p y->nI b j q u n=Y (t,ids)->∀d s g,fR u d=Y (s,g)->∀e,mF q (n+d)=Y e->(i e).cells.size=g.size
 |.pr a A,n,I::P,p,y,t,ids,E,f,d,s,g,c,e,m=>by
  simp only[nI] at f;split at f
  case h_2=>cases f
  rename_i v x o G;obtain⟨J,C,K,⟨L,Q,ax,N,O⟩,D⟩:=E;cases d with
  |zero=>
   simp only[fR,eZ,iK] at c;obtain⟨_,rfl⟩:=c;rw[ml] at m;rw[m] at o;obtain⟨H,M,_⟩:=R5 (t:=v.1) (ids:=v.2) l C (k e) o;have:=H.len;grind
  |succ d=>
   simp only[fR] at c;split at c
   ·rename_i r F;simp only[eZ,iK] at c;obtain⟨_,rfl⟩:=c;exact QL l k (u:=A) (n:=n+1) (t:=x.1) (ids:=x.2) D G d r.1 r.2 F e (by rwa[(aa:n+1+d=n+(d+1))])
   grind
 |.pr _ _,_,[],_,_,_,_,b,_,_,_,_,_,_,_=>b.elim
 |.nil,_,_,_,_,_,_,_,_,_,_,_,c,_,_=>by cases c
 |.int _,_,_,_,_,_,_,b,_,_,_,_,_,_,_=>by cases b
 |.bool,_,_,_,_,_,_,b,_,_,_,_,_,_,_=>by cases b
 |.str,_,_,_,_,_,_,b,_,_,_,_,_,_,_=>by cases b
 |.a8 _ _,_,_,_,_,_,_,b,_,_,_,_,_,_,_=>by cases b
 |.osl _,_,_,_,_,_,_,b,_,_,_,_,_,_,_=>by cases b
 |.ptr _ _,_,_,_,_,_,_,b,_,_,_,_,_,_,_=>by cases b
 |.optr _,_,_,_,_,_,_,b,_,_,_,_,_,_,_=>by cases b
 |.st _,_,_,_,_,_,_,b,_,_,_,_,_,_,_=>by cases b
 |.eI,_,_,_,_,_,_,b,_,_,_,_,_,_,_=>by cases b
theorem Wp (av:o.op=.build c s) {J:ah} (D:l1 E.tt c=Y J) (ds:bd J k=bp\/J=k) (R:m6 s.toList 0=bp) (A:∀d∈s.toList,cb d.1 (gQ k)=bp) (O:∀e l b,fR k e=Y (l,b)->∀f,mF s.toList e=Y f->(a.eval f).cells.size=b.size):∃h g p,i9 E.P k h 0 g/\(bM a.eval o).run E.P w=.ok (.value (.agg p)) w/\p.toList.length=k.size/\(∀e l b,fR k e=Y (l,b)->(∀f,mF s.toList (0+e)=Y f->(a.eval f).cells.size=b.size/\(p.toList.drop (0+fK k e)).take b.size=(a.eval f).cells.toList)/\(mF s.toList (0+e)=bo->(p.toList.drop (0+fK k e)).take b.size=(g.drop (fK k e)).take b.size)):=by
 obtain⟨m,h,g,S,c1,T,U,q,c2⟩:∃m h g,E.P.info? c=some m/\m.size=k.size/\m.zero=some (.agg g)/\E.P.underlying c=some (.struct h)/\i9 E.P k h.toList 0 g.toList/\g.size=k.size:=by
  unfold l1 at D;split at D
  ·rename_i ek ad;cases D;obtain⟨_,m,h,g,ax,d1,_,d2,d3,d4,d5⟩:=E.ok c _ ad;grind [ao7,i9.lay]
  grind
 have F:=run_places (P:=E.P) w k h.toList 0 g.toList q;simp only[mm] at F;generalize dl:((bI (gQ k)).map λn=>(fK k n,match fR k n with|some d=>d.2.size|none=>0))=H at F;have v:∀n l b,fR k n=Y (l,b)->n<gQ k->H.toArray[n]?=Y (fK k n,b.size):=(by grind);obtain⟨p,ce,d6,ci,aV⟩:=A8 (λm=>H.toArray[m]?) (s.toList.map λd=>(d.1,a.eval d.2)) g (by
  intro d x;obtain⟨j,B,rfl⟩:=eS.1 x;have t:j.1<gQ k:=g1 (A j B);obtain⟨l,b,i⟩:=sr q j.1 t;refine⟨_,_,v _ _ _ i t,O _ _ _ i j.2 ?_,by simp_all [yj]⟩;grind [JH]) (by
  rw[nW];refine(JI R).imp_of_mem ?_;intro d I x a4 t bx co d0 d7 al L;have z:d.1<gQ k:=g1 (A d x);have Q:I.1<gQ k:=g1 (A I a4);obtain⟨cs,cv,r⟩:=sr q d.1 z;obtain⟨d8,d9,N⟩:=sr q I.1 Q;rw[v _ _ _ r z] at al;rw[v _ _ _ N Q] at L;cases al;cases L;exact .inl (vQ r N t))
 have bl:p.toList.length=k.size:=(by grind);refine⟨h.toList,g.toList,p,q,?_,bl,?_⟩
 ·have a3:(an4 (λf=>(f.fst,a.eval f.snd)) s).toList=s.toList.map λd=>(d.1,a.eval d.2):=ac;have a0:(h.mapM λM=>do amq (M.offset,<-al0 M.type):Sem (bT ej)).run E.P w=.ok H.toArray w:=by
   rw[aoR,Sem.run_map,F];rfl
  have G:(als c).run E.P w=.ok (.agg g) w:=(by simp[als,alI,S,T]);simp only[bM,av,Instr.build,bW,G,b7 U,b1,a0,a3,Value.cells,ce];rfl
 intro e l b i;have am:e<gQ k:=Jm i;simp only[mm];have dg:=yj i;refine⟨λf C=>?_,λC=>?_⟩
 ·have an:=Bp C;have G:=O e l b i f C;refine⟨G,?_⟩;apply ie;intro y;rcases cU y b.size with u|u
  ·obtain⟨K,bs⟩:∃K,(a.eval f).cells[y]?=some K:=⟨_,Cq aa⟩;have:=aV (e,a.eval f) (eS.2 ⟨(e,f),an,bn⟩) _ _ (v _ _ _ i am) y K bs;grind
  grind
 apply ie;intro y;rcases cU y b.size with u|u
 ·rw[rF u,rF u,pt,pt];simp only[Cr];refine ci _ ?_;intro d x bx co al;obtain⟨j,B,rfl⟩:=eS.1 x;have ap:=J9 C j B;have z:j.1<gQ k:=g1 (A j B);obtain⟨cs,cv,r⟩:=sr q j.1 z;rw[v _ _ _ r z] at al;cases al;rcases Nat.lt_or_gt_of_ne ap with t|V
  ·have:=vQ r i t;omega
  have:=vQ i r V;omega
 grind
theorem cP.Jp {t:ew} (d:cP C st t w I rt fp):∀{a:ak9},a.Nodup->(∀id∈a,∃b,aq st.h id=Y b)->(a.map fp).flatten.Nodup
 |[],_,_=>by simp
 |i::a,r,e=>by obtain⟨k,l⟩:=j4.1 r;obtain⟨b,f⟩:=e i ac;simp only[gL,mi];refine iI.2 ⟨(d.tree i b f).2.1,cP.Jp d l (λid x=>e id (by grind)),λj m v o c=>?_⟩;subst c;obtain⟨y,q,n⟩:=mj.1 o;obtain⟨g,p,rfl⟩:=eS.1 q;obtain⟨u,s⟩:=e g (by grind);exact d.dis i g b u f s (λc=>k (c▸p)) j m n
theorem aak (a:m∈(f.map fp).flatten):∃id∈f,m∈fp id:=by grind
def th {k:Type} (tt:bm (bE×ah)) (m:bm (X×ah)) (e:bm (X×aE)) (h:bL->ak) (a:X) (l:bE) (c:bm (X×bL)) (g:cK->bu k):bu k:=
 match l1 tt l with
 |none=>bo
 |some f=>match aq m a with
  |some (.st j)=>bif bd f j&&(m6 c 0&&c.all (λi=>cb i.1 (gQ j))) then match aq e a,nI e h c j 0 with
   |none,Y (b,d)=>bif j0 d then g ⟨Y (a,.ref a []),d,[],[(a,⟨.st b.1,b.2⟩)]⟩ else bo
   |_,_=>bo
   else bo
  |_=>bif m6 c 0&&c.all (λi=>cb i.1 (gQ f)) then match qY h c f 0 with
   |some b=>g ⟨Y (a,.val (.st b.1) b.2),[],[],[]⟩
   |none=>match aq e a,nI e h c f 0 with
    |none,Y (b,d)=>bif j0 d then g ⟨Y (a,.ref a []),d,[],[(a,⟨.st b.1,b.2⟩)]⟩ else bo
    |_,_=>bo
   else bo
theorem NC {F:b} {u:cK->bu b} (U:o.op=.build c s) (O:o.dst=Y m) (P:C.ok m) {r:ah} (y:l1 E.tt c=Y r) (D:bd r k=bp\/r=k) (q:(m6 s.toList 0&&s.toList.all (λp=>cb p.1 (gQ k)))=bp) (i:(match aq st.h m,nI st.h (aX st.g) s.toList k 0 with
  |none,Y (d,e)=>bif j0 e then u ⟨Y (m,.ref m []),e,[],[(m,⟨.st d.1,d.2⟩)]⟩ else bo
  |_,_=>bo)=Y F)
 (V:∀v,u v=Y F->Q (v.app st)):e8 E C o st Q:=by
 split at i
 case h_2=>cases i
 rename_i d e R n;cases A:j0 e with
 |false=>grind
 |true=>
 rw[A] at i;simp only[cF,g7] at q;obtain⟨H,J⟩:=q;rintro a w ⟨I,rt,fp,j⟩ next a3 T
 have z:∀id d,aq st.h id=Y d->aW (bf I C.B) w d.1 (rt id) d.2 (fp id):=λid d n=>(j.tree id d n).1;obtain⟨K,av,G,M,ad,bx,N⟩:=Wp (a:=a) (w:=w) U y D H J (by
  obtain⟨K,av,_,p⟩:=l1.ok y;intro an ap a0 am l bs;exact QL z (λl=>j.aX l) (D.elim (λi=>i9.lay i p) (λi=>i▸p)) n an ap a0 am l (by rwa[mm]))
 obtain⟨x,bl,L⟩:=QK z (λl=>j.aX l) (cells:=G.toList) M n aa N;rw[np] at x;refine e8.own (S:=e) (t:=⟨.st d.1,d.2⟩) (cs:=G.toList) (f:=(e.map fp).flatten) O P j T (.inr R) ad (hC.refl w) rfl x (j.Jp (j0.ok A) L) (λa4 q=>?_) ?_
 ·grind
 have:=V _ i;rw[show(cK.mk (Y (m,.ref m [])) e [] [(m,⟨.st d.1,d.2⟩)]).app st=⟨(m,.ref m [])::alu e [] st.g,(m,⟨.st d.1,d.2⟩)::del e st.h⟩ by
  show aR.mk ((m,_)::og e [] st.g) ([_]++r7 e st.h)=_;rw[tT,ya];rfl] at this
 omega
theorem Wf {t:b} {q:cK->bu b} (k:o.op=.build c s) (i:o.dst=Y m) (j:C.ok m) (a:th E.tt l st.h (aX st.g) m c s.toList q=Y t) (n:∀r,q r=Y t->Q (r.app st)):e8 E C o st Q:=by
 unfold th at a;split at a
 ·cases a
 rename_i u e;split at a
 ·rename_i v x;cases d:(bd u v&&(m6 s.toList 0&&s.toList.all (λp=>cb p.1 (gQ v)))) with
  |false=>grind
  |true=>
  rw[d] at a;simp only[bF] at a;have f:=d;rw[cF] at f;exact NC k i j e (.inl f.1) f.2 a n
 cases d:(m6 s.toList 0&&s.toList.all (λp=>cb p.1 (gQ u))) with
 |false=>grind
 |true=>
 rw[d] at a;simp only[bF] at a;split at a
 ·rename_i y w;refine al3 (an:=[]) i j ?_;rw[k];simp only[hg,z2,e,d,bF,w];exact n _ a
 exact NC k i j e (.inr bn) d a n
def u9 {i:Type} (tt:bm (bE×ah)) (f:bm (X×ah)) (g:bm (X×aE)) (a:X) (j:bE) (d:ak) (b:cK->bu i):bu i:=
 match aq tt j,aq g a with
 |some h,bo=>match d with
  |.val e d=>bif bd h e then match aq f a with
   |some (.ptr .bj _)=>b ⟨Y (a,.val (.ptr .bj e) (Y d)),[],[],[]⟩
   |_=>b ⟨Y (a,.ref a []),[],[],[(a,⟨.optr e,d⟩)]⟩
   else bo
  |.ref id []=>match aq g id with
   |some c=>bif bd h c.1 then match aq f a with
    |some (.ptr .bj _)=>bif pk c.1 then b ⟨Y (a,.hL (.ref id [])),[],[],[]⟩ else bo
    |_=>b ⟨Y (a,.ref a []),[id],[],[(a,⟨.optr c.1,c.2⟩)]⟩
    else bo
   |none=>bo
  |_=>bo
 |_,_=>bo
theorem Wi {ds:b} {ci:cK->bu b} (O:o.op=.box c n) (M:o.dst=Y m) (N:C.ok m) (e:u9 E.tt l st.h m c (aX st.g n) ci=Y ds) (P:∀c1,ci c1=Y ds->Q (c1.app st)):e8 E C o st Q:=by
 unfold u9 at e;split at e
 case h_2=>cases e
 rename_i r L dg;split at e
 ·rename_i ad d1 z;cases i:bd r ad with
  |false=>grind
  |true=>
  rw[i] at e;simp only[bF] at e;split at e
  ·rintro a w ⟨I,rt,fp,j⟩ next co F
   have p:=j.aX n;rw[z] at p;have A:=(E.ok c r L).lay i;generalize H:a.eval n=K at p;cases p with|val U=>
   rename_i V;have u:∀s d,bf I C.B s d->dd w (w.alloc (.cells V.toArray c)) d:=λs d i=>.of_heap ((al4 w _).heap d (j.ib d (nH i)));have bs:Yields E C st a w I rt fp o (λy J=>Q ⟨(m,y)::st.g,J++st.h⟩):=by
    refine⟨.pointer (Y ⟨w.heap.size,0,bo⟩),w.alloc (.cells V.toArray c),λd=>I d\/d=w.heap.size,λ_=>[],λ_=>[],.val (.ptr .bj ad) (Y d1),[],?_,al4 w _,λ_ e=>.inl e,?_,.nil,?_,P _ e⟩
    ·simp[bM,O,H,an3,newVar,alX,pc A U.len U.one]
    ·rintro d (e|rfl)
     ·grind
     simp_all
    refine .val (τ:=.ptr .bj ad) (x:=Y d1) (cs:=[.pointer (Y ⟨w.heap.size,0,bo⟩)]) ⟨bn,w.heap.size,0,V,bn,.inr bn,U.len,ao8 (λd5 K d3=>by grind),?_⟩;refine U.mono (λs d i=>⟨?_,u s d i⟩) ac;cases s
    ·exact .inl i
    exact i.imp .inl (λe=>e)
   exact bs.wp j M N (λy J am w' a3 ap a4=>F _ am w' a3 ap a4)
  refine al3 (an:=[]) M N ?_;rw[O];simp only[hg,z5,L,dg,z,i,bF];exact P _ e
 ·rename_i id z;split at e
  case h_2=>cases e
  rename_i k R;cases i:bd r k.1 with
  |false=>grind
  |true=>
  rw[i] at e;simp only[bF] at e;split at e
  ·cases bl:pk k.1 with
   |false=>rw[bl] at e;cases e
   |true=>
   rw[bl,bF] at e;rintro a w ⟨I,rt,fp,j⟩ next co F
   have p:=j.aX n;rw[z] at p;obtain⟨q,d0,ce⟩:=j.tree id k R;have A:=(E.ok c r L).lay i;generalize H:a.eval n=K at p;have d4:=p;cases p with|ref G a0=>
   rw[R] at G;cases G;obtain⟨rfl,rfl,rfl⟩:=alE.1 a0;obtain⟨al,d2⟩:=pP.one bl;have dl:=q.len;rw[al] at dl;obtain⟨cv,c2⟩:=qr.1 dl;have u:∀d,d<w.heap.size->dd w (w.alloc (.cells (rt id).toArray c)) d:=λd i=>.of_heap ((al4 w _).heap d i);have bs:Yields E C st a w I rt fp o (λy J=>Q ⟨(m,y)::st.g,J++st.h⟩):=by
    refine⟨.pointer (Y ⟨w.heap.size,0,bo⟩),w.alloc (.cells (rt id).toArray c),λd=>I d\/d=w.heap.size,rt,fp,.hL (.ref id []),[],?_,al4 w _,λ_ e=>.inl e,?_,.nil,?_,P _ e⟩
    ·simp[bM,O,H,an3,newVar,alX,pc A q.len q.one]
    ·rintro d (e|rfl)
     ·exact .inl e
     exact .inr ⟨bc _,ac⟩
    have av:cT (bf (λd=>I d\/d=w.heap.size) C.B) (w.alloc (.cells (rt id).toArray c)) ([]++st.h) (fv [] rt rt) (fv [] fp fp) (.ref id []) (c3 k.1 (rt id)):=by
     refine d4.mono (λs d D=>⟨?_,u d (j.ib d (nH D))⟩) (λbx r T=>⟨(j.tree bx r T).1,λd i=>u d ((j.tree bx r T).2.2 d i).2.2.1⟩) (λbx r T=>⟨T,bn,bn⟩);cases s
     ·exact .inl D
     exact D.imp .inl (λe=>e)
    rw[c2] at av|-;rw[d2] at av;refine .hL (v:=cv) (.inr bn) ?_ (q.one cv (by rw[c2];simp)) av;rw[World.cell?_alloc_new];rfl
   exact bs.wp j M N (λy J am w' a3 ap a4=>F _ am w' a3 ap a4)
  rintro a w ⟨I,rt,fp,j⟩ next co F
  have p:=j.aX n;rw[z] at p;obtain⟨q,d0,ce⟩:=j.tree id k R;have A:=(E.ok c r L).lay i;generalize H:a.eval n=K at p;cases p with|ref G a0=>
  rw[R] at G;cases G;obtain⟨rfl,rfl,rfl⟩:=alE.1 a0;have u:∀d,d<w.heap.size->dd w (w.alloc (.cells (rt id).toArray c)) d:=λd i=>.of_heap ((al4 w _).heap d i);have d6:aW (bf I C.B) (w.alloc (.cells (rt id).toArray c)) k.1 (rt id) k.2 (fp id):=q.mono (λs d i=>⟨i,u d (j.ib d (nH i))⟩) (λd i=>u d (ce d i).2.2.1);refine e8.own (S:=[id]) (t:=⟨.optr k.1,k.2⟩) (cs:=[.pointer (Y ⟨w.heap.size,0,bo⟩)]) (f:=w.heap.size::fp id) (v:=.pointer (Y ⟨w.heap.size,0,bo⟩)) (w':=w.alloc (.cells (rt id).toArray c)) M N j F (.inr dg) ?_ (al4 w _) rfl ⟨w.heap.size,0,fp id,rt id,bn,bn,q.len,ao8 (λd5 K d3=>by grind),ao9 (by simp[q.len]),d6⟩ (j4.2 ⟨λD=>amS _ (ce _ D).2.2.1,d0⟩) ?_ ?_
  ·simp[bM,O,H,an3,newVar,alX,pc A q.len q.one]
  ·intro d i;rcases fF.1 i with rfl|i
   ·simp_all
   grind
  have:=P _ e;rw[show(cK.mk (Y (m,.ref m [])) [id] [] [(m,⟨.optr k.1,k.2⟩)]).app st=⟨(m,.ref m [])::alu [id] [] st.g,(m,⟨.optr k.1,k.2⟩)::del [id] st.h⟩ from rfl] at this;omega
 grind
def KB (a:ah) (b:ak):bu a.den:=match a with
 |.osl _=>match b with
  |.eB (.slice bo 0 0)=>Y []
  |_=>bo
 |_=>bo
def aaM {w:bC} {rt:X->ez} {fp:X->ak9} (c:cT T w e rt fp d R) {b:k.den} (a:KB k d=Y b):aW T w k R.cells.toList b []:=by
 unfold KB at a;split at a
 ·split at a
  ·cases a;cases c;exact⟨bo,0,bn,.inl ⟨bn,bn,bn,bn⟩⟩
  cases a
 cases a
def vf (c:bm (X×aE)) (b:ah) (x:ak):bu (b.den×ak9):=
 match x with
 |.ref id []=>match aq c id with
  |some d=>match ij b d.2 with
   |some a=>Y (a,[id])
   |none=>bo
  |none=>bo
 |x=>match coe b x with
  |some a=>Y (a,[])
  |none=>(KB b x).map λa=>(a,[])
def vg (b:bm (X×aE)) (a:ah):bm ak->bu (bm a.den×et)
 |[]=>Y ([],[])
 |x::e=>match vf b a x,vg b a e with
  |some d,Y c=>Y (d.1::c.1,d.2::c.2)
  |_,_=>bo
theorem WL (o:∀id k,aq e id=Y k->aW T w k.1 (rt id) k.2 (fp id)) (m:fx E.P k c) (h:cT T w e rt fp d R) {j:k.den} (a:vf e k d=Y (j,f)):aW T w k R.cells.toList j (f.map fp).flatten/\∀id∈f,∃s,aq e id=Y s:=by
 unfold vf at a;split at a
 ·rename_i id;split at a
  case h_2=>cases a
  rename_i t b;split at a
  case h_2=>cases a
  rename_i u q;cases a;obtain⟨x,d⟩:=t;have n:=kD q;cases n;cases h with|ref g p=>
  rw[b] at g;cases g;obtain⟨rfl,rfl,rfl⟩:=alE.1 p;have i:=o id _ b;rw[pc m i.len i.one];grind
 split at a
 ·grind [Il]
 obtain⟨v,r,l⟩:=fO.1 a;cases l;exact⟨aaM h r,ac⟩
theorem N3 {e:bm (X×aE)} {c:ah}:∀{b:bm ak} {xs:bm c.den} {is:et},vg e c b=Y (xs,is)->xs.length=b.length/\is.length=b.length/\∀(d:X) (h:c.den),xs[d]?=Y h->∃(y:ak) (f:ak9),b[d]?=Y y/\is[d]?=Y f/\vf e c y=Y (h,f)
 |[],xs,is,a=>by cases a;grind
 |y::b,xs,is,a=>by
  simp only[vg] at a;split at a
  ·rename_i n g m i;cases a;obtain⟨j,k,l⟩:=N3 (xs:=g.1) (is:=g.2) i;grind
  grind
def tk {i:Type} (tt:bm (bE×ah)) (k:bm (X×ah)) (f:bm (X×aE)) (e:bL->ak) (a:X) (j:bE) (g:X) (c:bm (X×bL)) (d:cK->bu i):bu i:=
 match g4 tt j,aq f a with
 |some h,bo=>
  match(match aq k a with|some (.osl t)=>t|_=>h) with
  |t=>bif bd h t&&b2 t.size 2000&&b2 g 1000&&wI c 0&&bH c.length g then
   match z9 t (c.map λb=>e b.2) with
   |some l=>d ⟨Y (a,.ref a []),[],[],[(a,⟨.osl t,l⟩)]⟩
   |none=>match vg f t (c.map λb=>e b.2) with
    |some b=>bif j0 b.2.flatten then d ⟨Y (a,.ref a []),b.2.flatten,[],[(a,⟨.osl t,b.1⟩)]⟩ else bo
    |none=>bo
  else bo
 |_,_=>bo
theorem Wm {d7:b} {bs:cK->bu b} {q:X} (dl:o.op=.buildSlice c m s) (cv:o.dst=Y q) (c1:C.ok q) (j:tk E.tt l st.h (aX st.g) q c m s.toList bs=Y d7) (L:∀O,bs O=Y d7->Q (O.app st)):e8 E C o st Q:=by
 unfold tk at j;split at j
 case h_2=>cases j
 rename_i r co c2;generalize x:(match aq l q with|some (.osl d)=>d|_=>r)=d at j;simp only at j;cases i:(bd r d&&b2 d.size 2000&&b2 m 1000&&wI s.toList 0&&bH s.toList.length m) with
 |false=>grind
 |true=>
 rw[i] at j;simp only[bF] at j;split at j
 ·rename_i z d3;refine al3 (an:=l) cv c1 ?_;rw[dl];simp only[hg,xD,co,c2];cases H:aq l q with
  |none=>
   rw[H] at x;simp only at x;subst x;simp only[i,bF,d3];exact L _ j
  |some k=>
   rw[H] at x;cases k<;>(simp only at x;subst x;simp only[i,bF,d3];exact L _ j)
 split at j
 case h_2=>cases j
 rename_i k d0;obtain⟨z,p⟩:=k;cases av:j0 p.flatten with
 |false=>grind
 |true=>
 rw[av] at j;rintro a w ⟨I,rt,fp,D⟩ next f9 f3
 have fr:∀id d,aq st.h id=Y d->aW (bf I C.B) w d.1 (rt id) d.2 (fp id):=λid d x=>(D.tree id d x).1;simp only[cF] at i;obtain⟨⟨⟨⟨el,V⟩,ad⟩,N⟩,bx⟩:=i;have V:=g1 V;have ad:=g1 ad;have bx:s.toList.length=m:=fH bx;obtain⟨d5,U,_,eq,ex⟩:=g4.ok co;have K:=ex.lay el;obtain⟨a4,gc,d6,_⟩:=K.info;have gt:=K.pos;obtain⟨em,ce,ci⟩:=N3 d0;simp only[dh] at em ce;have f6:z.length=m:=aa;have go:m*d.size<=16777216:=(by have:m*d.size<=1000*2000:=nr ad V;omega);have am:∀(e:X) (k:X×bL),s.toList[e]?=Y k->∃(y:d.den) (u:ak9),z[e]?=Y y/\p[e]?=Y u/\aW (bf I C.B) w d (a.eval k.2).cells.toList y (u.map fp).flatten/\∀id∈u,∃r,aq st.h id=Y r:=(by intro e k F;have fT:e<z.length:=(by grind);obtain⟨i2,u,al,ge,R⟩:=ci e z[e] ac;rw[j3,F] at al;simp only[jr,eZ] at al;subst al;obtain⟨hr,hs⟩:=WL fr K (D.aX k.2) R;grind);have ap:∀id∈p.flatten,∃r,aq st.h id=Y r:=by
  intro id T;obtain⟨M,H,gi⟩:=mj.1 T;obtain⟨e,F,rfl⟩:=g8.1 H;have G:s.toList[e]?=Y (s.toList[e]'(by omega)):=cE _
  grind
 obtain⟨d4,ft,fz⟩:∃d9:ew,(m*d.size=0->d9=#[])/\(m*d.size≠0->∃J,(als U).run E.P w=.ok J w/\d9=J.cells):=by
  by_cases A:m*d.size=0
  ·simp_all
  obtain⟨J,_,f8⟩:=fx.JC K;exact⟨J.cells,λj=>absurd j A,λ_=>⟨J,by simp[als,alI,d6.info,f8 a4 d6.info],bn⟩⟩
 obtain⟨bl,d8,io,is,aV⟩:=A8 (λa4=>Y (a4*d.size,d.size)) (s.toList.map λk=>(k.1,a.eval k.2)) ((Array.range (m*d.size)).map (d4[· %d4.size]!)) (by
  intro k L;obtain⟨ii,f4,rfl⟩:=eS.1 L;obtain⟨e,F,rfl⟩:=g8.1 f4;have G:s.toList[e]?=Y s.toList[e]:=ac;obtain⟨y,_,_,_,a3,_⟩:=am e _ G;have O:=sA N e _ G;have:(e+1)*d.size<=m*d.size:=gj _ aa;rw[jD,h3] at this;refine⟨_,_,bn,by have:=a3.len;omega,?_⟩;grind) (by
  rw[iz];intro e M F H fT hw ix ic i0 al R;simp only[lR,eZ,iK] at al R;simp only[dh] at F H;have en:=sA N e s.toList[e] ac;have f2:=sA N M s.toList[M] ac;obtain⟨rfl,rfl⟩:=al;obtain⟨rfl,rfl⟩:=R;left;rw[en,f2];have:(0+e+1)*d.size<=(0+M)*d.size:=gj _ aa;grind)
 have hc:bl.size=m*d.size:=(by grind);have fl:∀n,n<w.heap.size->dd w (w.alloc (.cells bl U)) n:=λn i=>.of_heap ((al4 w _).heap n i);have fn:(p.map λu=>(u.map fp).flatten).flatten=(p.flatten.map fp).flatten:=by
  clear am ap ci av j d0 ce
  induction p with
  |nil=>rfl
  |cons y M hi=>grind
 have f0:∀n∈(p.flatten.map fp).flatten,n<w.heap.size/\∃id∈p.flatten,∃r,aq st.h id=Y r/\n∈fp id:=(by intro n i;obtain⟨id,T,i⟩:=aak i;obtain⟨r,a0⟩:=ap id T;exact⟨((D.tree id r a0).2.2 n i).2.2.1,id,T,r,a0,i⟩);refine e8.own (S:=p.flatten) (t:=⟨.osl d,z⟩) (cs:=[.slice (Y ⟨w.heap.size,0,bo⟩) m m]) (f:=w.heap.size::(p.flatten.map fp).flatten) (v:=.slice (Y ⟨w.heap.size,0,bo⟩) m m) (w':=w.alloc (.cells bl U)) cv c1 D f3 (.inr c2) ?_ (al4 w _) rfl ?_ (j4.2 ⟨λf1=>amS _ (f0 _ f1).1,D.Jp (j0.ok av) ap⟩) ?_ ?_
 ·have f5:=K.sizeOf w;have gs:¬(16777216<m*d.size):=aa;have ds:(an4 (λy=>(y.fst,a.eval y.snd)) s).toList=s.toList.map λk=>(k.1,a.eval k.2):=ac;simp only[bM,dl,Instr.buildSlice,bW,b7 eq,b1,f5];rw[ar aa];by_cases A:m*d.size=0
  ·rw[au A];obtain rfl:=ft A;rw[ds];simp only[bW,ct,b1,d8,alX,newObj];rfl
  rw[ar A];obtain⟨J,f7,rfl⟩:=fz A;rw[ds];simp only[bW,ct,b1,f7,d8,alX,newObj];rfl
 ·refine⟨Y ⟨w.heap.size,0,bo⟩,m,by rw[f6],.inr ⟨w.heap.size,0,p.map λu=>(u.map fp).flatten,bn,by rw[fn],by grind,(by grind),ao9 aa,λe y gf a3 dg=>?_⟩⟩;have F:e<m:=(by grind);have G:s.toList[e]?=Y (s.toList[e]'(by omega)):=by simp
  obtain⟨i1,u,d2,fs,d1,a0⟩:=am e _ G;rw[a3] at d2;obtain rfl:=gC d2;rw[j3,fs] at dg;obtain rfl:=gC dg;refine⟨_,d1.len,ao8 (λd5 ek gl=>?_),d1.mono (λhv n i=>⟨i,fl n (D.ib n (nH i))⟩) (λn i=>?_)⟩
  ·have:=aV (s.toList[e].1,a.eval s.toList[e].2) (eS.2 ⟨s.toList[e],cL _,bn⟩) _ _ rfl d5 ek (by grind);have O:=sA N e _ G;grind
  grind
 ·intro n i;rcases fF.1 i with rfl|i
  ·exact .inl ⟨bc _,ac⟩
  grind
 have:=L _ j;rw[show(cK.mk (Y (q,.ref q [])) p.flatten [] [(q,⟨.osl d,z⟩)]).app st=⟨(q,.ref q [])::alu p.flatten [] st.g,(q,⟨.osl d,z⟩)::del p.flatten st.h⟩ by
  show aR.mk ((q,_)::og _ [] st.g) ([_]++r7 _ st.h)=_;rw[tT,ya];rfl] at this
 omega
end
end
section
def ke:ah->ah
 |.osl a=>.a8 .bj (ke a)
 |.st a=>.st (ke a)
 |.pr b c=>.pr (ke b) (ke c)
 |.mp a=>.fj .bj a
 |τ=>τ
def sd:ah->bz
 |.osl a|.st a=>sd a
 |.pr b c=>sd b&&sd c
 |.optr _|.eI=>bq
 |_=>bp
def sf:∀d:ah,(ke d).den=d.den
 |.osl c=>b3 bm (sf c)
 |.st c=>sf c
 |.pr a b=>by show((ke a).den×(ke b).den)=(a.den×b.den);rw[sf a,sf b]
 |.int _|.bool|.str|.a8 _ _|.ptr _ _|.optr _|.nil|.eI|.mp _|.fj _ _|.fn _ _=>rfl
def ob (a:ah) (b:a.den):(ke a).den:=cast (sf a).symm b
def WB {c:Type} (d:b=c) (e:bm b=bm c) (a:bm b):cast e a=a.map (cast d):=by subst d;show a=a.map (λf=>f);simp
theorem Ie {c C d:Type} (e:b=c) (g:C=d) (f:(b×C)=(c×d)) (a:b×C):cast f a=(cast e a.1,cast g a.2):=by grind
def Po (a:ah) (b:bm a.den):(ob (.osl a) b:bm (ke a).den)=b.map (ob a):=WB (sf a).symm _ b
def Yv (a b:ah) (c:a.den×b.den):(ob (.pr a b) c:(ke a).den×(ke b).den)=(ob a c.1,ob b c.2):=Ie (sf a).symm (sf b).symm _ c
theorem tP:∀b:ah,(ke b).size=b.size
 |.osl a=>rfl
 |.st a=>tP a
 |.pr c d=>by simp only[ke,alC,tP c,tP d]
 |.int _|.bool|.str|.a8 _ _|.ptr _ _|.optr _|.nil|.eI|.mp _|.fj _ _|.fn _ _=>rfl
theorem wE {z q:eH->X->Prop} {w:bC} (i:∀c b,z c b->q c b):∀{τ:ah} {g:ez} {e:τ.den} {h:ak9},sd τ=bp->aW z w τ g e h->(∀b∈h,q .bj b)->aW q w (ke τ) g (ob τ e) []
 |.osl f,g,p,h,j,a,k=>by
  obtain⟨A,I,D,a⟩:=a;have E:(ob (.osl f) p:bm (ke f).den).length=cz (α:=f.den) p:=(by rw[Po];simp);rcases a with⟨rfl,T,rfl,rfl⟩|⟨b,P,B,rfl,rfl,o,v,C,x⟩
  ·refine⟨bn,bo,0,by rw[D,E],by grind,λ_=>rfl,.inl ?_⟩;grind
  refine⟨bn,_,I,by rw[D,E],aa,(λa=>by cases a),?_⟩;refine .inr ⟨b,P,bn,k b ac,λl e n=>?_⟩;rw[Po] at n;have n:(List.map (ob f) p)[l]?=Y e:=n;rw[j3] at n;obtain⟨Q,F,rfl⟩:=fO.1 n;have U:l<cz (α:=f.den) p:=(h0.1 F).1;have M:B[l]?=Y (B[l]'(by omega)):=cE _
  obtain⟨u,r,s,t⟩:=x l Q _ F M;rw[tP];exact⟨u,r,s,wE i j t (λm y=>k m (gx _ (mj.2 ⟨_,cL _,y⟩)))⟩
 |.st f,g,e,h,j,a,k=>wE (τ:=f) i j a k
 |.pr A b,g,e,h,j,a,k=>by
  simp only[sd,cF] at j;obtain⟨S,f2,rfl,o,v⟩:=a;have R:=Yv A b e;refine⟨[],[],bn,?_,?_⟩
  ·rw[tP];have:=wE i j.1 o (λm y=>k m (by grind));grind
  rw[tP];have:=wE i j.2 v (λm y=>k m (by grind));grind
 |.int O,g,e,h,_,a,_=>by obtain rfl:=ami (τ:=.int O) rfl a;exact a.mono (λc b d=>⟨i c b d,cp _ _⟩) ac
 |.bool,g,e,h,_,a,_=>by obtain rfl:=ami (τ:=.bool) rfl a;exact a.mono (λc b d=>⟨i c b d,cp _ _⟩) ac
 |.str,g,e,h,_,a,_=>by obtain rfl:=ami (τ:=.str) rfl a;exact a.mono (λc b d=>⟨i c b d,cp _ _⟩) ac
 |.a8 c f,g,e,h,_,a,_=>by obtain rfl:=ami (τ:=.a8 c f) rfl a;exact a.mono (λc b d=>⟨i c b d,cp _ _⟩) ac
 |.ptr c f,g,e,h,_,a,_=>by obtain rfl:=ami (τ:=.ptr c f) rfl a;exact a.mono (λc b d=>⟨i c b d,cp _ _⟩) ac
 |.nil,g,e,h,_,a,_=>by obtain rfl:=ami (τ:=.nil) rfl a;exact a.mono (λc b d=>⟨i c b d,cp _ _⟩) ac
 |.optr _,_,_,_,j,_,_=>by cases j
 |.fj c f,g,e,h,_,a,_=>by obtain rfl:=ami (τ:=.fj c f) rfl a;exact a.mono (λc b d=>⟨i c b d,cp _ _⟩) ac
 |.fn c f,g,e,h,_,a,_=>by obtain rfl:=ami (τ:=.fn c f) rfl a;exact a.mono (λc b d=>⟨i c b d,cp _ _⟩) ac
 |.mp f,g,e,h,_,a,k=>by
  cases e with
  |none=>exact⟨bn,a.2⟩
  |some G=>
   obtain⟨b,J,H,o,v,L,C,x,K⟩:=a;refine⟨b,J,H,o,bn,L,k b (by grind),C,x,λl G N=>?_⟩;obtain⟨u,r,s,t⟩:=K l G N;exact⟨u,r,s,t.mono (λc b d=>⟨i c b d,cp _ _⟩) ac⟩
 |.eI,_,_,_,j,_,_=>by cases j
def se:aE->ak
 |⟨.optr u,x⟩=>.val (.ptr .bj (ke u)) (Y (ob u x))
 |⟨a,x⟩=>.val (ke a) (ob a x)
def Js:ah->bz
 |.optr a=>sd a
 |τ=>sd τ
def g3 (c:bm (X×aE)) (b:ak9) (a:ak):ak:=
 match a with
 |.ref id []=>bif eY id b then match aq c id with
  |some d=>se d
  |none=>.dead else .ref id []
 |a=>bif a.fD b then .dead else a
theorem m3 (c:bm (X×aE)) (b:ak9) (a:ak):(∃id d,a=.ref id []/\id∈b/\aq c id=Y d/\g3 c b a=se d)\/(g3 c b a=.dead/\a.fD b=bp)\/(g3 c b a=a/\a.fD b=bq):=by
 have e:∀a:ak,g3 c b a=(bif a.fD b then .dead else a)->(∃id d,a=.ref id []/\id∈b/\aq c id=Y d/\g3 c b a=se d)\/(g3 c b a=.dead/\a.fD b=bp)\/(g3 c b a=a/\a.fD b=bq):=(by grind);cases a with
 |ref id g=>
  cases g with
  |nil=>
   cases f:eY id b with
   |true=>
    have i:(ak.ref id []).fD b=bp:=(by simp[alo,bS,f]);cases h:aq c id with
    |none=>grind [g3]
    |some d=>exact .inl ⟨id,d,bn,ht.1 f,h,by grind [g3]⟩
   |false=>grind [g3,alo,bS]
  |cons j g=>exact e _ rfl
 |_=>exact e _ rfl
def i4 (c:bm (X×aE)) (b:ak9):ak->ak
 |.fu d=>.fu (d.map (g3 c b))
 |a=>g3 c b a
theorem Jr (b:∀a,d≠.fu a):i4 e f d=g3 e f d:=by
 cases d with
 |fu a=>grind
 |_=>rfl
def tO (a:ak9) (st:aR):aR:=⟨st.g.map λb=>(b.1,i4 st.h a b.2),del a st.h⟩
def JA (c:ak->ak) (e:c .dead=.dead):∀(d:bm (X×ak)) (b:X),gt (d.map λf=>(f.1,c f.2)) b=c (gt d b)
 |[],b=>e.symm
 |(g,a)::d,b=>by
  show gt ((g,c a)::_) b=_;rw[ju,ju];split
  ·rfl
  exact JA c e d b
theorem Fo (a:ak9) (st:aR) (b:X):gt (tO a st).g b=i4 st.h a (gt st.g b):=JA (i4 st.h a) rfl st.g b
def Yy (a:ak9) (st:aR):aX (tO a st).g=λb=>i4 st.h a (aX st.g b):=by
 funext b;cases b with
 |tmp c=>exact Fo a st c
 |const d=>cases d<;>rfl
 |func e=>rfl
 |global f=>rfl
theorem G7 (b:d.fD f=bq) (a:bm (X×bm a6)):fo f a d=d:=by grind [fo]
def ahm {a:bm ak} (b:(ak.fu a).fD f=bq) (e:d∈a):d.fD f=bq:=by unfold alo at b|-;rw[uQ] at b|-;intro id h;obtain⟨c,g,rfl⟩:=g8.1 e;exact b id (ak.BA (l:=a) (i:=c) (cE g) h)
theorem Mc (b:d.fD f=bq) (a:bm (X×bm a6)):fS f a d=d:=by
 cases d with
 |fu e=>
  simp only[fS];rw[iU (λd c=>G7 (ahm b c) a),ao6]
 |_=>exact G7 b a
theorem Yz (a:ak9) (b:bm (X×bm a6)) (c:aE):fS a b (se c)=fo a b (se c):=by unfold se;split<;>rfl
def zm (a e:ak):Prop:=a=.dead\/a=e\/∃b c,a=.fu b/\e=.fu c/\b.length=c.length/\∀(f:X) (d g:ak),b[f]?=Y d->c[f]?=Y g->d=.dead\/d=g
section
variable {C:e7} {st:aR} {G:ew} {w:bC}
theorem cP.freeze {c:X->ak9} (u:cP C st G w N O c) (T:∀id∈f,∃b,aq st.h id=Y b/\Js b.1=bp):gR C (tO f st) G w:=by
 have J:=u.eG (S:=f) (keep:=[]) (new:=[]) (rtn:=O) (fpn:=c) (w':=w) (I':=λa=>N a\/∃id∈f,∃b,aq st.h id=Y b/\a∈c id) ⟨bc _,bn,bn,bn,λ_ _ _=>rfl,λ_ _=>.refl _ _,λ_ d=>.inl d,λa d=>d.imp id λ⟨id,ad,b,s,l⟩=>
  ⟨((u.tree id b s).2.2 a l).2.2.1,.inr ⟨id,ad,b,s,l⟩⟩,(λ_ _ d=>by cases d),(λ_ _ _ _ d=>by cases d),(λ_ d=>by cases d),(λ_ d=>by cases d)⟩
 refine⟨_,_,_,{J with tmp:=λq=>?_}⟩;rw[Fo];have m:=u.tmp q;have p:=J.tmp q;rw[show gt (aR.mk (alu f [] st.g) ([]++del f st.h)).g q=fS f [] (gt st.g q) from qU _ _ _ _] at p;generalize gt st.g q=j at m p;generalize G.getD q bV=i at m p;have D:∀(j:ak) (i:Value),cT (bf N C.B) w st.h O c j i->cT (bf (λa=>N a\/∃id∈f,∃b,aq st.h id=Y b/\a∈c id) C.B) w ([]++del f st.h) (fv [] O O) (fv [] c c) (fo f [] j) i->
  cT (bf (λa=>N a\/∃id∈f,∃b,aq st.h id=Y b/\a∈c id) C.B) w ([]++del f st.h) (fv [] O O) (fv [] c c) (g3 st.h f j) i:=by
  intro j i m p;rcases m3 st.h f j with⟨id,b,k,n,o,R⟩|⟨k,_⟩|⟨k,n⟩
  ·rw[R];rw[k] at m;cases m with|ref s am=>
   rw[o] at s;cases s;obtain⟨rfl,rfl,rfl⟩:=alE.1 am;obtain⟨c1,I,F⟩:=T id n;rw[o] at I;cases I;have E:∀v a,bf N C.B v a->bf (λa=>N a\/∃id∈f,∃b,aq st.h id=Y b/\a∈c id) C.B v a:=by
    intro v a l;cases v
    ·exact .inl l
    exact l.imp .inl (λd=>d)
   have H:=(u.tree id b o).1;have y:∀a∈c id,bf (λa=>N a\/∃id∈f,∃b,aq st.h id=Y b/\a∈c id) C.B .bj a:=λa l=>.inr ⟨id,n,b,o,l⟩;obtain⟨e,t⟩:=b;by_cases an:∃r,e=.optr r
   ·obtain⟨r,rfl⟩:=an;obtain⟨a,z,bx,M,al,a4,bl,P,bs,Q⟩:=H;show cT _ _ _ _ _ (.val (.ptr .bj (ke r)) (Y (ob r t))) _;have al:O id=[.pointer (Y ⟨a,z,bo⟩)]:=al;rw[al];refine .val (τ:=.ptr .bj (ke r)) (x:=Y (ob r t)) (cs:=[.pointer (Y ⟨a,z,bo⟩)]) ⟨bn,a,z,M,bn,y a (by grind),by grind [tP],P,wE E F Q (λL ce=>y L (by grind))⟩
   have av:c3 e (O id)=c3 (ke e) (O id):=(by cases e<;>rfl);have a0:se ⟨e,t⟩=.val (ke e) (ob e t):=by cases e<;>first|rfl|grind
   have ap:sd e=bp:=by cases e<;>first|exact F|grind
   rw[a0];show cT _ _ _ _ _ _ (c3 e (O id));rw[av];exact .val (wE E ap H y)
  ·rw[k];exact .dead _
  grind [G7]
 cases j with
 |fu cv=>
  cases m with|fu ci U=>
  cases p with|fu co V=>
  refine .fu (by grind) (λK a3 i k n=>?_);rw[j3] at k;obtain⟨A,o,rfl⟩:=fO.1 k;exact D A i (U K A i o n) (V K _ i (by grind) n)
 |_=>exact D _ _ m p
theorem gR.Qd (t:gR C st G w) (y:∀a,zm (gt i.g a) (gt st.g a)) (J:∀id,aq i.h id=aq st.h id):gR C i G w:=by
 obtain⟨k,n,l,d⟩:=t;refine⟨k,n,l,{d with tree:=λid e p=>d.tree id e (by grind),dis:=λj D e F L M=>d.dis j D e F (by grind) (by grind),tmp:=λa=>?_}⟩;have P:∀(b:ak) (f:Value),cT (bf k C.B) w st.h n l b f->cT (bf k C.B) w i.h n l b f:=λb f v=>
  v.uf (λO H x=>⟨x,cp _ _⟩) (λid _ e p=>⟨by grind,bn,bn,(d.tree id e p).1,λ_ _=>cp _ _⟩)
 have m:=d.tmp a;rcases y a with c|c|⟨N,E,al,q,r,s⟩
 ·rw[c];exact .dead _
 ·grind
 rw[al];rw[q] at m;generalize G.getD a bV=f at m;cases m with|fu z K=>
 refine .fu (r.trans z) (λj b f u I=>?_);obtain⟨o,A⟩:∃o,E[j]?=some o:=(by grind);rcases s j b o u A with c|c
 ·rw[c];exact .dead _
 grind
def gR.less (b:gR C st G w) (c:∀a,gt i.g a=.dead\/gt i.g a=gt st.g a) (d:∀id,aq i.h id=aq st.h id):gR C i G w:=
 b.Qd (λa=>(c a).imp id .inl) d
end
def sH:Op->bm bL
 |.build _ c=>c.toList.map (·.2)
 |.buildSlice _ _ c=>c.toList.map (·.2)
 |.store _ _ a=>[a]
 |.mapUpdate _ _ _ a=>[a]
 |.insert _ _ _ a=>[a]
 |.entryStore _ _ _ a=>[a]
 |.box _ a=>[a]
 |.assign a=>[a]
 |.call b=>match b.callee with
  |.value _=>b.args.toList
  |.builtin .append=>b.args.toList.drop 1
  |_=>[]
 |_=>[]
def vR (b:bQ):X:=match b.dst with
 |some a=>a
 |none=>999999
def m4 (a:alb) (c:X) (b:bL->ak):bm bL->ak9
 |[]=>[]
 |x::d=>match b x with
  |.ref id []=>bif a.any (λe=>bH e.1 c&&bH e.2 id) then id::m4 a c b d else m4 a c b d
  |_=>m4 a c b d
end
section
theorem Iq {c d:bm b} (e:m<=a) (f:a<=c.length):(jW c d m a).length=c.length:=by grind [alO,alD,apa,jW]
theorem N9 {d e:bm b} (f:a<=m) (g:m<=d.length) (c:X):(jW d e a m)[c]?=if a<=c/\c<a+min e.length (m-a) then e[c-a]? else d[c]?:=by grind [jW]
def rY {k:Type} (tt:bm (bE×ah)) (d:bm (X×aE)) (f:X) (l:bE) (m j:ak) (e:cK->bu k):bu k:=
 match g4 tt l with
 |none=>bo
 |some i=>match m with
  |.ref id []=>match aq d id with
   |some ⟨.osl a,b⟩=>bif bd i a&&bH a.size 1&&a.pure then
    (lK d a j).bind λc=>e ⟨Y (f,.val (.int .i64) ((min c.length (b.length-0):X):Z)),[id],[(id,[])],[(id,⟨.osl a,jW b c 0 b.length⟩)]⟩
    else bo
   |_=>bo
  |.view id [] h g=>match aq d id with
   |some ⟨.osl a,b⟩=>bif bd i a&&bH a.size 1&&a.pure then
    (lK d a j).bind λc=>e ⟨Y (f,.val (.int .i64) ((min c.length (g-h):X):Z)),[id],[(id,[])],[(id,⟨.osl a,jW b c h g⟩)]⟩
    else bo
   |_=>bo
  |_=>bo
def cK.VY {b:bm (X×bm a6)} {st:aR}:(cK.mk (Y (a,d)) f b e).app st=⟨(a,d)::alu f b st.g,e++del f st.h⟩:=by show aR.mk ((a,d)::og f b st.g) (e++r7 f st.h)=_;rw[tT,ya]
section
variable {E:fM} {C:e7} {st:aR} {a:Act} {w:bC} {I:X->Prop} {rt:X->ez} {fp:X->ak9} {o:bQ}
def Mn (e:cP C st a.tmps w I rt fp) {b:bm k.den} (c:lK st.h k (aX st.g n)=Y b):zP I C.B w k (a.eval n) b:=by
 refine wT e ?_;have:=Cp c;generalize sK st.h k (aX st.g n)=i at this;cases i with
 |e6 l=>exact this.symm
 |part m o j=>obtain⟨f,d,rfl⟩:=this;exact⟨f,d,bn⟩
 |bad=>exact this.elim
theorem Ip (co:cP C st a.tmps w I rt fp) {em:b} {dg:cK->bu b} {y:X} (gi:o.op=.call {callee:=.builtin .copy,args:=#[n,z],argTypes:=#[c,r]}) (f5:o.dst=Y y) (f6:C.ok y) {next:Act->bC->Prop} {ds:b5->Act->bC->Prop} (gf:∀en a3 w',(∃s,dg s=Y em/\en=s.app st)->a3.defers=a.defers->gR C en a3.tmps w'->next a3 w') (f2:g4 E.tt c=Y Q) (ge:bd Q k=bp) (H:k.size=1) (V:k.pure=bp) {id e:X} {j i:bm k.den} (am:aq st.h id=Y ⟨.osl k,j⟩) (ce:m<=e) (ci:e<=j.length) (gt:zP I C.B w k (a.eval z) i) {a4:bu Addr} {d0:X} (go:a.eval n=.slice a4 (e-m) d0) (gs:e-m=0\/∃d p M,rt id=[.slice (Y ⟨d,p,bo⟩) j.length M]/\a4=Y ⟨d,p+m,bo⟩) (fT:dg ⟨Y (y,.val (.int .i64) ((min i.length (e-m):X):Z)),[id],[(id,[])],[(id,⟨.osl k,jW j i m e⟩)]⟩=Y em):o.wp E.P a w next ds:=by
 obtain⟨f,dl,ax,d6,ft⟩:=g4.ok f2;have fz:=ft.lay ge;obtain⟨mo,_,ap,_⟩:=fz.info;obtain⟨ex,ne,nn⟩:=co.tree id _ am;obtain⟨fl,i2,d2,hi,cv,le⟩:=gt;have d1:∀w':bC,w'.heap.size=w.heap.size->w'.os=w.os->w'.tape=w.tape->w'.output=w.output->(∀d,d∉fp id->w'.heap[d]?=w.heap[d]?)->(∀d,jw w' d=jw w d)->aW (bf I C.B) w' (.osl k) (rt id) (jW j i m e) (fp id)->
  (Builtin.copy_ #[c,r] o.type #[a.eval n,a.eval z]).run E.P w=.ok (goInt ((min i.length (e-m):X):Z)) w'->o.wp E.P a w next ds:=by
  intro w' ii io is ix i0 i1 nd ad;have ad:(bM a.eval o).run E.P w=.ok (.value (goInt ((min i.length (e-m):X):Z))) w':=(by simp only[bM,gi,alW,invoke,amg,bW,ct,b1,an9,gL,uT,ad]);have gl:=co.eG (S:=[id]) (keep:=[(id,[])]) (new:=[(id,⟨.osl k,jW j i m e⟩)]) (rtn:=rt) (fpn:=fp) (w':=w') (I':=I)
   ⟨amT ii.symm,io,is,ix,λd lb f1=>i0 d (f1 id ac _ am),λd _=>.of_eq (i1 d),λ_ N=>N,λ_ N=>.inl N,(by
    intro f eq t;rw[eC] at t;split at t
    ·grind
    ·cases t),(by
    intro f g no nx t c1 lf;rw[eC] at t c1;split at t
    ·split at c1
     ·omega
     cases c1
    ·cases t),(by
    intro s O eq an;simp only[gq] at O;subst O;have an:aq st.h id=Y eq:=an;rw[am] at an;obtain rfl:=gC an;exact⟨⟨.osl k,jW j i m e⟩,by rw[eC,au bn],bn,bn,⟨_,bn⟩,λmz _ _ _ T=>by grind [FE]⟩),(by
    grind [vH,alh])⟩
  unfold alk;rw[ad];show next (a.put o.dst _) w'
  rw[f5];have V:=gl.put f6 (av:=.val (.int .i64) ((min i.length (e-m):X):Z)) (v:=goInt ((min i.length (e-m):X):Z)) (.val (τ:=.int .i64) (cs:=[.int .i64 _]) ⟨bn,bn⟩);have hrel:gR C ((cK.mk (Y (y,.val (.int .i64) ((min i.length (e-m):X):Z))) [id] [(id,[])] [(id,⟨.osl k,jW j i m e⟩)]).app st) (a.put (Y y) (goInt ((min i.length (e-m):X):Z))).tmps w':=(by rw[cK.VY];exact⟨I,_,_,V⟩);exact gf _ _ _ ⟨_,fT,bn⟩ rfl hrel
 have lt:Nat.min i.length (e-m)=min i.length (e-m):=rfl;by_cases T:min i.length (e-m)=0
 ·have lc:jW j i m e=j:=by
   apply ie;intro f;rw[N9 ce ci,ar aa]
  refine d1 w bn rfl rfl rfl (λ_ _=>rfl) (λ_=>rfl) (by grind) ?_;rw[go,hi,T];exact run_copy_none w c r o.type dl a4 fl _ _ _ _ d6 (by rw[ap.info];simp[ap.size,H]) aa
 rcases gs with kg|⟨d,p,M,ek,rfl⟩
 ·omega
 rw[ek] at ex;obtain⟨i3,kd,al,fs⟩:=ex;simp only[ia,alf,cc] at al;obtain⟨rfl,_,rfl⟩:=al;rcases fs with⟨bl,_⟩|⟨i8,mt,F,bl,d9,d3,d4,bx,d5⟩
 ·cases bl
 cases bl;have d4:j.length<=M:=d4;have d3:F.length=j.length:=d3;have f9:F.flatten=[]:=Jj (λbs R=>by
  obtain⟨f,t,rfl⟩:=g8.1 R;have lo:f<j.length:=aa;obtain⟨D,_,_,A⟩:=d5 f j[f] F[f] ac ac;exact A.pure V)
 rw[f9] at d9;obtain⟨c2,hv,hw,ib,ic⟩:=cv.cells aa;rw[H,amU] at hv;have hc:i≠[]:=λs=>(by grind);obtain⟨a0,rfl⟩:∃a0,fl=some a0:=by
  rcases cv.2 with N|⟨jp,mp,rfl,_⟩
  ·grind
  grind
 let l:=c2.take (min i.length (e-m))
 have f3:l.length=min i.length (e-m):=(by grind);have f4:∀g v,l[g]?=Y v->c2[g]?=Y v:=λg v q=>by
  rw[an0] at q;split at q
  ·exact q
  grind
 have d8:∀g,g<l.length->(w.cell? ⟨d,p+m+g,bo⟩).isSome=bp:=λg q=>(bx (p+m+g) aa (by grind)).1;have ad:=run_copy_cells (P:=E.P) w c r o.type dl d (p+m) (e-m) d0 a0 i.length i2 l d6 (by rw[ap.info];simp[ap.size,H]) (by rw[f3]) (λg v q=>ib a0 bn hc g v (f4 g v q)) d8 (λg q=>(bx (p+m+g) aa (by grind)).2) (λv x=>hw v (rG x));have d7:d∈fp id:=(by grind);have f0:∀K u,bf I C.B K u->u≠d:=λK u U s=>co.notM am d d7 K (s▸U);refine d1 (w.setCells d (p+m) l) (uA d l _ w) (p7 d l _ w).1 (p7 d l _ w).2.1 (p7 d l _ w).2.2 (λu T=>y7 d l _ w u (λs=>T (s▸d7))) (λu=>Bx _ _ _ _ _) ?_ ?_
 ·rw[ek,d9];refine⟨Y ⟨d,p,bo⟩,M,by rw[Iq ce ci],.inr ⟨d,p,bJ j.length [],bn,by rw[Jj (λbs R=>List.eq_of_mem_replicate R)],by grind [Iq],by grind [Iq],?_,?_⟩⟩
  ·intro g hr hs;obtain⟨n7,of⟩:=bx g hr hs;grind [LF,aoZ]
  intro f L bs J R;have f8:bs=[]:=(by grind);subst f8;rw[N9 ce ci] at J;have el:∀{D:ez} {L:k.den},aW (bf I C.B) w k D L []->aW (bf I C.B) (w.setCells d (p+m) l) k D L []:=λG=>G.mono (λK u U=>⟨U,sB (f0 K u U)⟩) ac;split at J
  ·rename_i ll;have q:f-m<l.length:=aa;have gc:d2[f-m]?=Y []:=by
    have l2:f-m<d2.length:=(by rw[cv.1];omega);grind [List.flatten_eq_nil_iff,b6,bX]
   have G:=ic (f-m) L [] J gc;rw[H,amU] at G;have f7:(c2.drop (f-m)).take 1=[l[f-m]]:=(by grind [List.drop_eq_getElem_cons]);rw[f7] at G;refine⟨[l[f-m]],by grind,?_,el G⟩;intro g v x;cases g with
   |zero=>
    simp only[rE,eZ] at x;subst x;have:=anz d l (p+m) w d8 (f-m) q;rw[<-this,H];congr 2;omega
   |succ g=>grind
  rename_i mc;have lk:f<j.length:=(h0.1 J).1;obtain⟨D,fn,fr,A⟩:=d5 f L (F[f]'(by omega)) J ac
  have O:F[f]'(by omega)=[]:=A.pure V
  rw[O] at A;refine⟨D,fn,?_,el A⟩;intro g v x;have:=fr g v x;grind [aod,al1]
 grind
theorem e8.copy {L:b} {G:cK->bu b} (B:o.op=.call {callee:=.builtin .copy,args:=#[n,z],argTypes:=#[c,r]}) (v:o.dst=Y m) (x:C.ok m) (d:rY E.tt st.h m c (aX st.g n) (aX st.g z) G=Y L):e8 E C o st (λT=>∃K,G K=Y L/\T=K.app st):=by
 rintro a w ⟨I,rt,fp,f⟩ next am A
 have k:=f.aX n;unfold rY at d;split at d
 ·cases d
 rename_i M D;split at d
 ·rename_i id u;split at d
  case h_2=>cases d
  rename_i j N i;cases e:(bd M j&&bH j.size 1&&j.pure) with
  |false=>grind
  |true=>
  rw[e] at d;simp only[cF] at e;obtain⟨V,q,d⟩:=eV.1 d;rw[u] at k;generalize p:a.eval n=U at k;cases k with|ref l y=>
  rw[i] at l;cases l;obtain⟨rfl,rfl,rfl⟩:=alE.1 y;have F:=(f.tree id _ i).1;obtain⟨H,J,al,O⟩:=F;have Q:a.eval n=.slice H (N.length-0) J:=(by rw[p,al];rfl);refine Ip f B v x A D e.1.1 (fH e.1.2) e.2 i (eJ _) (bc _) (Mn f q) Q ?_ d;grind
 ·rename_i id a4 av u;split at d
  case h_2=>cases d
  rename_i j N i;cases e:(bd M j&&bH j.size 1&&j.pure) with
  |false=>grind
  |true=>
  rw[e] at d;simp only[cF] at e;obtain⟨V,q,d⟩:=eV.1 d;rw[u] at k;generalize p:a.eval n=U at k;cases k with|mM=>(exact Ip f B v x A D e.1.1 (fH e.1.2) e.2 i (bc _) (eJ _) (Mn f q) p (.inl bn) d)|view l y R S a0=>
  rw[i] at l;cases l;rename_i ad bl an bs a3 J;obtain⟨s,_,t⟩:=alE.1 y;have s:ah.osl j=ah.osl ad:=s;cases s;have P:=fH e.1.2;have F:=(f.tree id _ i).1;obtain⟨H,ap,al,O⟩:=F;rw[al] at t;simp only[ia,alf,cc] at t;obtain⟨rfl,rfl,rfl⟩:=t;refine Ip f B v x A D e.1.1 P e.2 i R S (Mn f q) p ?_ d;grind
 grind
end
end
section
def aZ.cells {w q:bC} (e:∀a,q.cell? a=w.cell? a):∀{p:bm a6} {τ r:ah} {m n:Loc} {f g:ez},aZ w τ m f p r n g->aZ q τ m f p r n g
 |[],τ,_,_,_,_,_,c=>by cases τ<;>exact c
 |s::p,τ,r,m,n,f,g,c=>by
  have u:∀{b o:X} {d:ez},fE w b o d->fE q b o d:=λy A C z=>(by rw[e];exact y A C z);cases τ<;>cases s<;>simp only[aZ] at c
  case osl.idx t i=>
   obtain⟨b,o,B,v,d,h,j,k,l,x⟩:=c;exact⟨b,o,B,v,d,h,j,k,u l,x.cells e⟩
  case optr.deref t=>
   obtain⟨b,o,d,h,j,k,l⟩:=c;exact⟨b,o,d,h,j,u k,l.cells e⟩
  case st.unst t=>exact aZ.cells e (τ:=t) c
  case pr.fst a b=>exact aZ.cells e (τ:=a) c
  case pr.snd a b=>exact aZ.cells e (τ:=b) c
theorem ag3 (a:ah):fC a []=Y a:=by cases a<;>rfl
theorem aZ.zg {w:bC} {r:bm a6}:∀{p:bm a6} {τ c:ah} {m n:Loc} {e f:ez},aZ w τ m e p c n f->fC τ (p++r)=fC c r
 |[],τ,_,_,_,_,_,a=>by grind [alE]
 |s::p,τ,_,_,_,_,_,a=>by
  cases τ<;>cases s<;>simp only[aZ] at a
  case osl.idx t i=>obtain⟨d,o,u,q,g,h,j,k,b,l⟩:=a;exact l.zg
  case optr.deref t=>obtain⟨d,o,g,h,j,k,b⟩:=a;exact b.zg
  case st.unst t=>exact aZ.zg (p:=p) (τ:=t) a
  case pr.fst t1 t2=>exact aZ.zg (p:=p) (τ:=t1) a
  case pr.snd t1 t2=>exact aZ.zg (p:=p) (τ:=t2) a
section
variable {E:fM} {C:e7} {st:aR} {a:Act} {A:ew} {w:bC} {I:X->Prop} {rt:X->ez} {fp:X->ak9} {o:bQ} {Q:aR->Prop}
def Ox:∀{p q:bm a6},lu (p++[.deref]) q=bp->lu p q=bp
 |[],q,a=>by
  cases q with
  |nil=>cases a
  |cons s q=>
   cases s<;>cases a
 |s::p,[],a=>by cases s<;>cases a
 |s::p,b::q,a=>by cases s<;>cases b<;>first|(cases a;done)|exact Ox (p:=p) (q:=q) a|rfl
theorem cP.FQ (v:cP C st A w I rt fp) {id:X} (t:aq st.h id=Y P) {d6:ah} {ad:Loc} (N:aZ w P.1 bo (rt id) j d6 ad V) {S:bm (Z×k.den)} (cv:eU P.1 P.2 j (.mp k) (Y (S,m))):∃a E D,V=[.map (Y a)]/\a∈fp id/\(∀q b,bf I C.B q b->b≠a)/\hD (bf I C.B) w k a S m E D/\∀{e:bT cj} {c:X} {z:bm (Z×k.den)} {K:bm (Z×X×k.den)} {p:P.1.den},hD (bf I C.B) (gX w a e c) k a z c e K->li w (gX w a e c) a->fk P.1 P.2 j (.mp k) (Y (z,c)) p->∃d5 a0,cP C ⟨alu [id] [(id,j++[.deref])] st.g,(id,⟨P.1,p⟩)::del [id] st.h⟩ A (gX w a e c) I d5 a0:=by
 obtain⟨ds,Q,co⟩:=v.tree id P t;obtain⟨f1,d9,el,d4,a3,a4,bl,L,em,bs,bx⟩:=Bc j (loc:=bo) ds (λ_ _ i=>by cases i) Q (λ_ _ i=>by cases i) (v.notM t) cv;obtain⟨an,al,ap⟩:=N.kF a3;subst an;subst al;subst ap;obtain⟨a,E,D,rfl,rfl,F⟩:=a4.QQ;have G:a∈fp id:=L.mem_iff.2 ac;have ci:∀q b,bf I C.B q b->b≠a:=λq b f n=>v.notM t a G q (n▸f);refine⟨a,E,D,bn,G,ci,F,?_⟩;intro e c z K p ce eq R;have O:=L.nodup_iff.1 Q;rw[iI] at O;have fs:∀b∈d4,b≠a:=λb f n=>O.2.2 a ac b f n.symm;have x:=af3 (es':=e) (c':=c) F.h;have cs:=af4 (es':=e) (c':=c) F.h;have d1:∀b,b≠a->dd w (gX w a e c) b:=λb f=>GM f;obtain⟨ek,av,ft,_,d2,_,fT,_,fz⟩:=bs (gX w a e c) (bf I C.B) [.map (Y a)] (Y (z,c)) [a] p (λ_ _ i=>i) (λb f=>by
   have c1:b≠a:=by
    rcases f with⟨q,fn⟩|f|⟨o,fr⟩
    ·grind
    ·grind
    grind
   exact⟨λu _=>x _,λu=>cs _,λu=>by rw[x],(d1 b c1).2⟩)
  (aW.QR ce) (λ_ _=>rfl) (λam d3 n=>by
   have:=(bl am d3 n).1;exactλu U s=>by rw[x];exact this u U s) R
 obtain rfl:=d2 bn (.inr bn);have fl:=(co a G).2.2.1;have d:n0 C st w (gX w a e c) I I rt fp [id] [(id,j++[.deref])] [(id,⟨P.1,p⟩)] (λ_=>rt id) (λ_=>av):=by
  refine⟨by grind [Tr],bn,bn,bn,?_,?_,λ_ i=>i,λ_ i=>.inl i,?_,?_,?_,?_⟩
  ·grind [B8]
  ·intro b _;by_cases n:b=a
   ·grind
   exact .of_heap (B8 n)
  ·intro H J d;rw[eC] at d;split at d
   ·grind [Tr]
   cases d
  ·intro H u J U l s ex;rw[eC] at l s;split at l
   ·split at s
    ·omega
    cases s
   cases l
  ·intro H l J d;simp only[gq] at l;subst l;rw[t] at d;obtain rfl:=gC d;refine⟨⟨P.1,p⟩,by rw[eC,au bn],bn,bn,?_,λT f7 f3 d8 _ dl=>dl.cells x⟩;have en:=N.zg (r:=[.deref]);grind [ag3,fC]
  intro H l J d T f6 f5 f0 d7 f2 y dg c2 M d0;simp only[gq] at l;subst l;rw[t] at d;obtain rfl:=gC d;have y:=Ox y;refine⟨⟨P.1,p⟩,by rw[eC,au bn],vI y R M,λb f=>?_⟩;obtain⟨ax,f4⟩:=bx T _ _ _ _ _ y (by exact dg) M c2 d0 b f;grind
 exact⟨_,_,v.eG d⟩
def uc {α:Type} (c:bu (bm (Z×α)×X)) (b:Z) (d:α):bu (bu (bm (Z×α)×X)):=match c with
 |none=>bo
 |some a=>Y (Y (ku a.1 b d,bif (gd a.1 b).isSome then a.2 else a.2+1))
def o8 {f:Type} (tt:bm (bE×ah)) (i:bm (X×aE)) (h:bE) (n d m:ak) (g:cK->bu f):bu f:=
 match n with
 |.ref id c=>match aq i id with
  |some a=>match lC tt h,d,m with
   |some l,.val (.int .i64) d,.val p e=>match fC a.1 c with
    |some (.mp b)=>bif bd l b then match ij b e with
     |some e=>(il a.1 a.2 c (.mp b)).bind λj=>(uc (α:=b.den) j d e).bind λk=>(nc a.1 a.2 c (.mp b) k).bind λo=>g ⟨bo,[id],[(id,c++[.deref])],[(id,⟨a.1,o⟩)]⟩
     |none=>bo
     else bo
    |_=>bo
   |_,_,_=>bo
  |none=>bo
 |_=>bo
def Z9 {α:Type} (c:bu (bm (Z×α)×X)) (b:Z):bu (bu (bm (Z×α)×X)):=match c with
 |none=>bo
 |some a=>Y (Y (jF a.1 b,a.2))
def so {e:Type} (tt:bm (bE×ah)) (h:bm (X×aE)) (g:bE) (l d:ak) (f:cK->bu e):bu e:=
 match l with
 |.ref id b=>match aq h id with
  |some a=>match lC tt g,d with
   |some k,.val (.int .i64) d=>match fC a.1 b with
    |some (.mp c)=>bif bd k c then
     (il a.1 a.2 b (.mp c)).bind λi=>(Z9 (α:=c.den) i d).bind λj=>(nc a.1 a.2 b (.mp c) j).bind λm=>f ⟨bo,[id],[(id,b++[.deref])],[(id,⟨a.1,m⟩)]⟩
     else bo
    |_=>bo
   |_,_=>bo
  |none=>bo
 |_=>bo
theorem QV {B:b} {r:cK->bu b} {f:bL} (j:o.op=.mapUpdate c f n z\/o.op=.insert c f n z) (S:o.dst=bo) (d:o8 E.tt st.h c (aX st.g f) (aX st.g n) (aX st.g z) r=Y B):e8 E C o st (λcv=>∃t,r t=Y B/\cv=t.app st):=by
 rintro a w ⟨I,rt,fp,i⟩ next d2 ad
 have p:=i.aX f;have e:=i.aX n;have m:=i.aX z;unfold o8 at d;split at d
 case h_2=>cases d
 rename_i id d6 H;split at d
 case h_2=>cases d
 rename_i eq y;split at d
 case h_2=>cases d
 rename_i dg k en el R D G;obtain⟨dl,d1,c1,c2,d7⟩:=lC.ok R;split at d
 case h_2=>cases d
 rename_i q an;cases u:bd dg q with
 |false=>grind
 |true=>
 rw[u] at d;simp only[bF] at d;split at d
 case h_2=>cases d
 rename_i ek a0;obtain⟨bs,U,K⟩:=eV.1 d;obtain⟨d5,v,L⟩:=eV.1 K;obtain⟨em,a3,M⟩:=eV.1 L;cases bs with
 |none=>cases v
 |some bx=>
 obtain⟨a4,s⟩:=bx;cases v;cases kD a0;rw[H] at p;rw[D] at e;rw[G] at m;generalize av:a.eval f=d9 at p;generalize V:a.eval n=d4 at e;generalize ap:a.eval z=d8 at m;cases e with|val co=>
 obtain⟨_,rfl⟩:=co;cases m with|val cC=>
 cases p with|ref A x=>
 rw[y] at A;cases A;obtain⟨l,d3,ds,rfl,u,O,N,T⟩:=i.FQ y x (jl U);have:=x.ty;rw[an] at this;cases this;obtain⟨F,d0,ax,ce,ci⟩:=N.update (P:=E.P) c1 c2 k cC.len cC;obtain⟨cs,J,Q⟩:=T (ce (λbl n e=>⟨e,O bl n e⟩)) ci (nM a3);unfold alk;have am:(bM a.eval o).run E.P w=.ok .skip (gX w l F (bif (gd a4 k).isSome then s else s+1)):=by
  have this:∀q:ah,c3 (.mp q) [amQ (Y l)]=.map (Y l):=λ_=>rfl;rcases j with j|j<;>
  ·simp only[bM,j,av,V,ap,bW];rw[this,show c3 (.int .i64) [aln .i64 k]=.int .i64 k from rfl,ax];rfl
 rw[am];show next (a.put o.dst bV) _
 rw[S];refine ad _ _ _ ⟨_,M,?_⟩ rfl ⟨I,cs,J,Q⟩;rfl
theorem aaj {x:b} {m:cK->bu b} (U:o.op=.call {callee:=.builtin .delete,args:=#[z,n],argTypes:=#[c,r]}) (O:o.dst=bo) (d:so E.tt st.h c (aX st.g z) (aX st.g n) m=Y x):e8 E C o st (λbx=>∃p,m p=Y x/\bx=p.app st):=by
 rintro a w ⟨I,rt,fp,i⟩ next dg T
 have j:=i.aX z;have e:=i.aX n;unfold so at d;split at d
 case h_2=>cases d
 rename_i id d2 D;split at d
 case h_2=>cases d
 rename_i d6 u;split at d
 case h_2=>cases d
 rename_i co k N A;obtain⟨cs,c2,ce,ci,d3⟩:=lC.ok N;split at d
 case h_2=>cases d
 rename_i l ad;cases q:bd co l with
 |false=>grind
 |true=>
 rw[q] at d;simp only[bF] at d;obtain⟨av,R,G⟩:=eV.1 d;obtain⟨d1,s,H⟩:=eV.1 G;obtain⟨d5,an,J⟩:=eV.1 H;cases av with
 |none=>cases s
 |some a0=>
 obtain⟨d0,y⟩:=a0;cases s;rw[D] at j;rw[A] at e;generalize am:a.eval z=d4 at j;generalize S:a.eval n=ds at e;cases e with|val bl=>
 obtain⟨_,rfl⟩:=bl;cases j with|ref v t=>
 rw[u] at v;cases v;obtain⟨f,dl,cv,rfl,q,L,K,Q⟩:=i.FQ u t (jl R);have:=t.ty;rw[ad] at this;cases this;obtain⟨B,c1,ax,a3,a4⟩:=K.delete (P:=E.P) ce ci k o.type r;obtain⟨bs,F,M⟩:=Q (a3 (λap n e=>⟨e,L ap n e⟩)) a4 (nM an);unfold alk;have V:(bM a.eval o).run E.P w=.ok (.value (.tuple #[])) (gX w f B y):=(by simp only[bM,U,alW,invoke,amg,bW,ct,b1,an9,gL,uT,am,S];have this:∀l:ah,c3 (.mp l) [amQ (Y f)]=.map (Y f):=λ_=>rfl;rw[this,show c3 (.int .i64) [aln .i64 k]=.int .i64 k from rfl,ax];rfl);rw[V];show next (a.put o.dst (.tuple #[])) _
 rw[O];refine T _ _ _ ⟨_,J,?_⟩ rfl ⟨I,bs,F,M⟩;rfl
def ww (c:bm (X×aE)) (f g:ak):bu (X×bm a6×X×aE):=match f,g with
 |.ref id (e::d),.ref a []=>match aq c a with
  |some b=>match b.1 with
   |.osl h=>match h.pure with
    |true=>bo
    |false=>Y (id,e::d,a,b)
   |_=>bo
  |none=>bo
 |_,_=>bo
def zU {h:Type} (tt:bm (bE×ah)) (e:bm (X×aE)) (b:X) (j:bE) (id:X) (c:bm a6) (f:X) (k:aE) (i:cK->bu h):bu h:=
 match g4 tt j,aq e id,aq e b with
 |some l,Y d,bo=>match fC d.1 c with
  |some (.osl a)=>match ij (.osl a) k.2 with
   |some g=>bif bd l a&&(b2 a.size 1300&&(a.k5&&!(bH f id))) then
    (il d.1 d.2 c (.osl a)).bind λm=>(cN (cz (α:=a.den) m+cz (α:=a.den) g)).bind λ_=>i ⟨Y (b,.app id c a g [b,f]),[id],[(id,c),(id,[])],[(b,⟨.eI,()⟩),(id,d)]⟩
    else bo
   |none=>bo
  |_=>bo
 |_,_,_=>bo
def oU {g:Type} (tt:bm (bE×ah)) (h:bm (X×ah)) (a:bm (X×aE)) (d:X) (c:bE) (e f:ak) (b:cK->bu g):bu g:=match ww a e f with
 |some (id,j,i,k)=>zU tt a d c id j i k b
 |none=>pD tt h a d c e f b
theorem K5 {id:X} (a:ww e d t=Y (id,j,m,P)):d=.ref id j/\t=.ref m []/\aq e m=Y P:=by unfold ww at a;grind
theorem VV {D:b} {s:cK->bu b} (y:o.op=.call {callee:=.builtin .append,args:=#[z,n],argTypes:=#[c,c]}) (v:o.dst=Y m) (x:C.ok m) (d:oU E.tt l st.h m c (aX st.g z) (aX st.g n) s=Y D):e8 E C o st (λce=>∃f,s f=Y D/\ce=f.app st):=by
 unfold oU at d;split at d
 case h_2=>exact e8.app y v x (VS d (λf p=>⟨f,p,bn⟩))
 rename_i id dg e ci am;obtain⟨N,O,q⟩:=K5 am;unfold zU at d;split at d
 case h_2=>cases d
 rename_i co d3 L av M;split at d
 case h_2=>cases d
 rename_i j c1;split at d
 case h_2=>cases d
 rename_i d1 a3;cases i:(bd co j&&(b2 j.size 1300&&(j.k5&&!(bH e id)))) with
 |false=>grind
 |true=>
 rw[i] at d;simp only[cF] at i;obtain⟨R,ap,U,V⟩:=i;have V:e≠id:=λf=>(by simp_all);obtain⟨d0,a0,J⟩:=eV.1 d;obtain⟨_,S,K⟩:=eV.1 J;obtain⟨d2,F⟩:=ci;cases kD a3;rintro a w ⟨I,rt,fp,k⟩ next cs ad
 refine Nd (S2:=[e]) y v x k ad L R (g1 ap) U N av M (jl a0) ?_ ?_ (yz S) ⟨_,K,bn⟩
 ·have r:=k.aX n;rw[O] at r;generalize c2:a.eval n=ds at r;cases r with|ref A T=>
  rw[q] at A;cases A;obtain⟨rfl,rfl,rfl⟩:=alE.1 T;obtain⟨bl,bx,dl⟩:=k.tree e _ q;have a4:=bl;obtain⟨t,u,an,cv⟩:=a4;have bs:aW (bf I C.B) w (.osl j) [.slice t (cz (α:=j.den) F) u] F (fp e):=(by grind);obtain⟨_,_,H,p,P,Q,_⟩:=kS.osl bs;exact⟨t,u,H,by rw[an];rfl,p,Q bx,λG i=>⟨e,ac,_,q,P G i⟩⟩
 grind
end
end
section
section
variable {P:bY} {w:bC} {b c:X} {A:bT cj} {M:eH->X->Prop} {t:ah} {l:bm (Z×t.den)} {L:bm (Z×X×t.den)}
theorem LG {d e:bT cj} (g:w.heap[b]?=Y (.map A c)) (f:gX w b d a=gX w b e m):d=e/\a=m:=by grind [amu,Obj.map.injEq,pf]
theorem hD.Nl (h:hD M w t b l c A L) {g:cj} (i:A[a]?=Y g):∃d f,L[a]?=Y d/\g=⟨.int .i64 d.1,c3 t f,d.2.1⟩:=by have j:a<L.length:=(by have:=(sL.1 i).1;rw[h.n] at this;omega);obtain⟨f,_,k,_⟩:=h.e a L[a] (cE j);grind
theorem hD.aha (f:hD M w t b l c A L) {d e:Z×X×t.den} (n:L[a]?=Y d) (o:L[m]?=Y e) (k:d.1=e.1):a=m:=by have h:=f.pU.nd;have g:a<(L.map (·.1)).length:=(by grind);apply(an7 g h (i:=a) (j:=m)).1;grind
theorem hD.ag9 (f:hD M w t b l c A L) {e d:Z×X×t.den} (n:L[a]?=Y e) (o:L[m]?=Y d) (k:e.2.1=d.2.1):a=m:=by have h:=f.pU.2.2.1;have g:a<(L.map λd=>d.2.1).length:=(by grind);apply(an7 g h (i:=a) (j:=m)).1;grind
theorem QP {d:Type} {c:bT d} {e f:d->d} (g:∀b,c[a]?=Y b->e b=f b):c.modify a e=c.modify a f:=by grind
theorem hD.entry (d:hD M w t b l c A L) {z y:bE} {N:cr} (n:P.underlying r=Y (.map z y)) (g:P.underlying z=Y (.int N)) (a:Z) {x:t.den} (J:V.length=t.size) (F:aW M w t V x []) (K:∀w,(als y).run P w=.ok (c3 t V) w):∃(f:bT cj) (o:bm (Z×X×t.den)) (u:ez) (p e:X),(apb r (.map (Y b)) (.int .i64 a)).run P w=.ok (.tuple #[c3 t u,goInt ((p:X):Z)]) (gX w b f (bif (gd l a).isSome then c else c+1))/\aW M w t u ((gd l a).getD x) []/\f[e]?=Y (anZ (.int .i64 a) (c3 t u) p)/\(∀{B:eH->X->Prop},(∀G a,M G a->B G a/\a≠b)->hD B (gX w b f (bif (gd l a).isSome then c else c+1)) t b (ku l a ((gd l a).getD x)) (bif (gd l a).isSome then c else c+1) f o)/\li w (gX w b f (bif (gd l a).isSome then c else c+1)) b:=by
 rcases d.find (P:=P) g a with⟨v,I,s⟩|⟨e,p,S,q,v,I,s,Q,C,D⟩
 ·obtain⟨f,o,ax,i,j⟩:=d.update (P:=P) n g a J F;rw[v] at ax i j|-;simp only[aoU,bP,Option.getD_none] at ax i j|-;have k:(al2 r (.map (Y b)) (.int .i64 a) (c3 t V)).run P w=.ok () (gX w b (A.push ⟨.int .i64 a,c3 t V,c⟩) (c+1)):=by
   simp only[al2,bW,b7 n,b1,amV d.h,pe g,s];exact rf d.h
  rw[ax] at k;simp only[apc,amK] at k;obtain⟨rfl,_⟩:=LG d.h k;refine⟨_,o,V,c,A.size,?_,F,by rw[Array.getElem?_push,au bn],i,j⟩;simp only[apb,bW,b7 n,b1,amV d.h,pe g,s,K,rf d.h,ct];rfl
 obtain⟨f,o,ax,i,j⟩:=d.update (P:=P) n g a s C;rw[v] at ax i j|-;simp only[an6,bF,sZ] at ax i j|-;have E:(amP (((A[e]?).map (·.key)).getD (.int .i64 a)) (.int .i64 a)).run P w=.ok (.int .i64 a) w:=(by simp_all [amP,aoV]);have k:(al2 r (.map (Y b)) (.int .i64 a) (c3 t q)).run P w=.ok () (gX w b (A.modify e λm=>{m with key:=.int .i64 a,val:=c3 t q}) c):=(by simp only[al2,bW,b7 n,b1,amV d.h,pe g,D,E];exact rf d.h);rw[ax] at k;simp only[apc,amK] at k;obtain⟨rfl,_⟩:=LG d.h k;refine⟨_,o,q,p,e,?_,C,by grind,i,j⟩;have al:(A.modify e λm=>{m with key:=.int .i64 a,val:=c3 t q})=A.modify e λm=>{m with key:=.int .i64 a}:=QP λm R=>(by grind);have H:((A[e]?).map λO=>((O.born:X):Z)).getD 0=(p:Z):=(by grind);simp only[apb,bW,b7 n,b1,amV d.h,pe g,D,E,rf d.h,ct,al,H];rfl
theorem hD.XI (f:hD M w t b l c A L) {e:cj} {d:Z} (y:A[a]?=Y e) (ci:e.key=.int .i64 d) {q F:bE} {ad:cr} (x:P.underlying r=Y (.map q F)) (k:P.underlying q=Y (.int ad)) {E:t.den} (K:V.length=t.size) (U:aW M w t V E []):∃i j,(ap6 r (.map (Y b)) (.int .i64 (e.born:Z)) (c3 t V)).run P w=.ok () (gX w b i (bif (gd l d).isSome then c else c+1))/\(∀{s:eH->X->Prop},(∀C d,M C d->s C d/\d≠b)->hD s (gX w b i (bif (gd l d).isSome then c else c+1)) t b (ku l d E) (bif (gd l d).isSome then c else c+1) i j)/\li w (gX w b i (bif (gd l d).isSome then c else c+1)) b:=by
 obtain⟨D,a0,z,bx⟩:=f.Nl y;have cs:D.1=d:=(by grind);rcases f.find (P:=P) k d with⟨u,v,G⟩|⟨g,cv,c1,av,u,v,G,a4,bl,H⟩
 ·grind
 obtain rfl:g=a:=f.aha v z aa;obtain⟨i,j,ax,n,o⟩:=f.update (P:=P) x k d K U;rw[u] at ax n o|-;simp only[an6,bF] at ax n o|-;have S:(amP (((A[g]?).map (·.key)).getD (.int .i64 d)) (.int .i64 d)).run P w=.ok (.int .i64 d) w:=(by simp_all [amP,aoV]);have p:(al2 r (.map (Y b)) (.int .i64 d) (c3 t V)).run P w=.ok () (gX w b (A.modify g λe=>{e with key:=.int .i64 d,val:=c3 t V}) c):=(by simp only[al2,bW,b7 x,b1,amV f.h,pe k,H,S];exact rf f.h);rw[ax] at p;simp only[apc,amK] at p;obtain⟨rfl,_⟩:=LG f.h p;refine⟨_,j,?_,n,o⟩;have al:(A.modify g λe=>{e with key:=.int .i64 d,val:=c3 t V})=A.modify g λe=>{e with val:=c3 t V}:=QP λa3 N=>(by grind);have O:A.findIdx? (λan=>(an.born:Z)==(e.born:Z))=Y g:=by
  rw[Array.findIdx?_eq_some_iff_getElem];have Q:=(sL.1 y).1;refine⟨Q,?_,λB ce co=>?_⟩
  ·grind
  have R:B<A.size:=aa;obtain⟨am,ap,T,N⟩:=f.Nl (Cq R);have bs:(A[B].born:Z)=(e.born:Z):=(by grind);have J:am.2.1=D.2.1:=(by grind);have:=f.ag9 T z J;omega
 have I:∀(m:Z) (w:bC),(asInt (.int .i64 m)).run P w=.ok m w:=λm w=>(by simp[asInt,amp]);simp only[ap6,bW,ct,b1,amV f.h,I,O,rf f.h,al];rfl
end
def sp {f:Type} (tt:bm (bE×ah)) (j:bm (X×aE)) (i:X) (h:bE) (m a:ak) (g:cK->bu f):bu f:=
 match m with
 |.ref id c=>match aq j id with
  |some b=>match lC tt h,a with
   |some l,.val (.int .i64) a=>match fC b.1 c with
    |some (
     .mp t)=>match mN t with
     |some e=>bif bd l t then
      (il b.1 b.2 c (.mp t)).bind λd=>(uc (α:=t.den) d a ((gO d a).getD e)).bind λk=>(nc b.1 b.2 c (.mp t) k).bind λn=>
       g ⟨Y (i,.fu [.val t ((gO (α:=t.den) d a).getD e),.ent id c a]),[id],[(id,c++[.deref])],[(id,⟨b.1,n⟩)]⟩
      else bo
     |none=>bo
    |_=>bo
   |_,_=>bo
  |none=>bo
 |_=>bo
def sa {b:Type} (tt:bm (bE×ah)) (e:bm (X×aE)) (d:bE) (k i j:ak) (c:cK->bu b):bu b:=
 match k,i with
 |.ref id a,.ent f h g=>bif bH f id&&mE h a then o8 tt e d (.ref id a) (.val (.int .i64) g) j c else bo
 |_,_=>bo
theorem fk.lz:∀{p:bm a6} {τ:ah} {e g:τ.den} {d:ah} {f:d.den},fk τ e p d f g->eU τ g p d f
 |[],τ,e,g,d,f,c=>by grind [eU.gE,fk.gE]
 |s::p,τ,e,g,d,f,c=>by
  cases τ<;>cases s<;>simp only[fk] at c
  case osl.idx t i=>
   obtain⟨l,h,j,c,rfl⟩:=c;have k:i<e.length:=(h0.1 j).1;exact⟨h,by rw[List.getElem?_set_self k],fk.lz (p:=p) c⟩
  case optr.deref t=>exact fk.lz (p:=p) (τ:=t) c
  case st.unst t=>exact fk.lz (p:=p) (τ:=t) c
  case pr.fst a b=>obtain⟨h,c,rfl⟩:=c;exact fk.lz (p:=p) c
  case pr.snd a b=>obtain⟨h,c,rfl⟩:=c;exact fk.lz (p:=p) c
def PW:∀a:bm a6,hq (a++[.deref]) a=bp
 |[]=>rfl
 |s::a=>by cases s<;>exact PW a
theorem Zs (id:X) (a:bm a6):fS [id] [(id,a++[.deref])] (.ref id a)=.ref id a:=by
 have:lD [(id,a++[.deref])] (.ref id a)=bp:=by
  cases a with
  |nil=>simp[lD]
  |cons b a=>
   have:=PW (b::a);simp_all [List.any_cons,List.any_nil,Bool.or_false,anv,anB,lD]
 show fo _ _ _=_;unfold fo;rw[show kI [id] [(id,a++[.deref])] (.ref id a)=lD [(id,a++[.deref])] (.ref id a) from rfl,this];simp
def adS {id:X} (a:aX S n=.ref id j):aX (alu [id] [(id,j++[.deref])] S) n=.ref id j:=by
 cases n with
 |tmp c=>
  have a:gt S c=.ref id j:=a;have b:=qU [id] [(id,j++[a6.deref])] S c;rw[a] at b;exact b.trans (Zs id j)
 |const d=>exact absurd a (by cases d<;>simp[aX])
 |global S=>cases a
 |func e=>cases a
section
variable {E:fM} {C:e7} {st:aR} {o:bQ} {Q:aR->Prop}
theorem aap {a:Act} (k:cP C i a.tmps v N O x) {id:X} (q:aX i.g z=.ref id j) (d:aq i.h id=Y P) {t:ah} {G:bm (Z×t.den)} (w:eU P.1 P.2 j (.mp t) (Y (G,m))) {b:X} (E:a.eval z=.map (Y b)) {f:bT cj} (A:v.heap[b]?=Y (.map f m)) {F:X} {c:cj} (y:f[F]?=Y c) {n:Z} (s:c.key=.int .i64 n):cT (bf N C.B) v i.h O x (.ent id j n) (.int .i64 (c.born:Z)):=by
 have e:=k.aX (a:=a) z;rw[q,E] at e;generalize M:amQ (Y b)=T at e;cases e with|ref o l=>
 rename_i S U R J;rw[d] at o;obtain rfl:=gC o;obtain⟨rfl,L,D,_,u⟩:=k.lz d w l;rcases D.Kq with⟨c,_⟩|⟨p,Q,I,K,H,_,rfl,rfl,_⟩
 ·cases c
 have r:b=p:=(by grind [c3]);subst r;exact .ent d l (u b ac) (oh.2 A) y s
theorem aaq {an:Type} {V:an} {x:cK->bu an} {m:bL} (dg:o.op=.mapEntry r m z) (bx:o.dst=Y a) (bs:C.ok a) (d:sp E.tt st.h a r (aX st.g m) (aX st.g z) x=Y V):e8 E C o st (λv=>∃F,x F=Y V/\v=F.app st):=by
 rintro j w ⟨p,f8,f2,q⟩ next f1 c2
 have s:=q.aX m;have e:=q.aX z;unfold sp at d;split at d
 case h_2=>cases d
 rename_i id d5 H;split at d
 case h_2=>cases d
 rename_i ap Q;split at d
 case h_2=>cases d
 rename_i fl n bl a3;obtain⟨fT,a0,en,eq,ex⟩:=lC.ok bl;split at d
 case h_2=>cases d
 rename_i t d0;split at d
 case h_2=>cases d
 rename_i fn d1;cases N:bd fl t with
 |false=>grind
 |true=>
 rw[N] at d;simp only[bF] at d;obtain⟨d4,co,f⟩:=eV.1 d;obtain⟨f7,k,i⟩:=eV.1 f;obtain⟨am,T,I⟩:=eV.1 i;clear d f i;cases d4 with
 |none=>cases k
 |some d6=>
 obtain⟨l,c⟩:=d6;rw[H] at s;rw[a3] at e;generalize S:j.eval m=gc at s;generalize cv:j.eval z=f6 at e;cases e with|val el=>
 obtain⟨_,rfl⟩:=el;cases s with|ref R O=>
 rw[Q] at R;cases R;obtain⟨b,A,L,rfl,f3,K,J,ci⟩:=q.FQ Q O (jl co);have:=O.ty;rw[d0] at this;cases this;obtain⟨f5,fz,fp,fr,fs,ft⟩:=wW (ex.lay N) d1;have d2:∀w,(als a0).run E.P w=.ok (c3 t fz.cells.toList) w:=λw=>(by rw[<-fs];simp[als,alI,fp,fr]);have U:=ft (bf p C.B) w;obtain⟨G,f0,D,v,f4,ax,d7,d8,d9,ek⟩:=J.entry (P:=E.P) en eq n U.len U d2;have c1:gO (α:=t.den) (Y (l,c)) n=gd l n:=rfl;rw[c1] at k I;simp only[uc,eZ] at k;subst k;generalize(bif (gd l n).isSome then c else c+1)=y at*;generalize(gd l n).getD fn=ad at*;obtain⟨em,a4,M⟩:=ci (d9 (λu z e=>⟨e,K u z e⟩)) ek (nM T);have ds:(bM j.eval o).run E.P w=.ok (.value (.tuple #[c3 t D,goInt ((v:X):Z)])) (gX w b G y):=(by simp only[bM,dg,S,cv,bW];have this:∀t:ah,c3 (.mp t) [amQ (Y b)]=.map (Y b):=λ_=>rfl;rw[this,show c3 (.int .i64) [aln .i64 n]=.int .i64 n from rfl,ax];rfl);unfold alk;rw[ds];show next (j.put o.dst _) _
 rw[bx];have cs:aq ((id,(⟨ap.1,am⟩:aE))::del [id] st.h) id=Y ⟨ap.1,am⟩:=(by rw[eC,au bn]);have dl:aW (bf p C.B) (gX w b G y) t D ad []:=d7.mono (λu z e=>⟨e,GM (K u z e)⟩) ac;have ce:=aap M (adS H) cs (fk.lz (nM T)) S (pf J.h) d8 (n:=n) rfl;refine c2 _ _ _ ⟨_,I,?_⟩ rfl ⟨p,em,a4,M.put bs (av:=.fu [.val t ad,.ent id d5 n]) ?_⟩
 ·rfl
 refine .fu bn (λd3 av f9 f i=>?_)
 match d3 with
 |0=>simp at f i;subst f;subst i;exact .val dl
 |1=>simp at f i;subst f;subst i;exact ce
 |n+2=>grind
theorem XM {M:Type} {K:M} {u:cK->bu M} {i:bL} (ex:o.op=.entryStore r i n z) (av:o.dst=bo) (a:sa E.tt st.h r (aX st.g i) (aX st.g n) (aX st.g z) u=Y K):e8 E C o st (λn=>∃v,u v=Y K/\n=v.app st):=by
 rintro d w ⟨N,ft,em,e⟩ next el bx
 have s:=e.aX i;have m:=e.aX n;have q:=e.aX z;unfold sa at a;split at a
 case h_2=>cases a
 rename_i id ds cv d0 dl T R;cases f:(bH cv id&&mE d0 ds) with
 |false=>grind
 |true=>
 rw[f] at a;rw[cF] at f;obtain rfl:=fH f.1;obtain rfl:=mE.ok f.2;simp only[bF] at a;unfold o8 at a;simp only at a;split at a
 case h_2=>cases a
 rename_i f6 p;split at a
 case h_2=>cases a
 rename_i d7 fs f5 f3 an y S;simp only[ak.val.injEq,heq_eq_eq,amK] at y;subst y;obtain⟨d8,ek,d5,d6,fT⟩:=lC.ok an;split at a
 case h_2=>cases a
 rename_i t ci;cases ap:bd d7 t with
 |false=>grind
 |true=>
 rw[ap] at a;simp only[bF] at a;split at a
 case h_2=>cases a
 rename_i f2 co;obtain⟨dg,a3,B⟩:=eV.1 a;obtain⟨fr,j,D⟩:=eV.1 B;obtain⟨f4,cs,V⟩:=eV.1 D;clear a B D;cases dg with
 |none=>cases j
 |some d1=>
 obtain⟨l,c⟩:=d1;cases kD co;rw[T] at s;rw[R] at m;rw[S] at q;generalize fp:d.eval i=f1 at s;generalize fl:d.eval n=fz at m;generalize fn:d.eval z=f0 at q;cases q with|val cC=>
 cases m with|ent J bs en H a4 bl=>
 rw[p] at J;cases J;cases s with|ref I k=>
 rw[p] at I;cases I;obtain⟨b,A,L,rfl,eq,ad,F,a0⟩:=e.FQ p k (jl a3);have:=k.ty;rw[ci] at this;cases this;obtain⟨al,_,x⟩:=k.kF bs;simp only[ia,Value.map.injEq,eZ,cc] at x;subst x;rw[oh.2 F.h] at H;cases H;obtain⟨Q,d9,ax,d2,d3⟩:=F.XI (P:=E.P) a4 bl d5 d6 cC.len cC;simp only[uc,eZ] at j;subst j;generalize(bif (gd l dl).isSome then c else c+1)=O at*;obtain⟨d4,U,am⟩:=a0 (d2 (λc2 c1 G=>⟨G,ad c2 c1 G⟩)) d3 (nM cs);unfold alk;have ce:(bM d.eval o).run E.P w=.ok .skip (gX w b Q O):=(by have this:∀t:ah,c3 (.mp t) [amQ (Y b)]=.map (Y b):=λ_=>rfl;simp_all [bW,bM]);rw[ce];show next (d.put o.dst bV) _
 rw[av];refine bx _ _ _ ⟨_,V,?_⟩ rfl ⟨N,d4,U,am⟩;rfl
end
end
section
structure Vz where
 c:cq
 n:X
 pin:bu ak9
 ds:ak9
 α:Type
 f:aR->bu α
 g:aR->α->aR
structure gZ where
 tt:bm (bE×ah)
 GX:bm (X×jM)
 an:bm (X×ah)
 n:X
 pin:ak9
 kg:bm (X×ak)
 qS:alb
 agi:bu dY
 az:ey
 ak4:bm Vz
 vT:bm u1
 eq:ey
def zw (b:bY) (c:bE):Prop:=∃a e d,b.info? c=Y a/\a.size=1/\a.zero=Y e/\e.cells.size=1/\b.underlying c=Y d/\(match d with|.struct _|.array _ _=>bp|_=>bq)=bq
def A9:bm hE->bm ak->bz
 |.c d _::a,.di b _::as=>bH b d&&A9 a as
 |.c _ _::_,_=>bq
 |_::a,_::as=>A9 a as
 |_,_=>bp
def tX:bm (X×jM)->X->bm ak->bu jM
 |[],_,_=>bo
 |(k,F)::l,f,as=>bif bH k f&&(A9 F.ps as&&(j2 0 F.ps).isNone) then Y F else tX l f as
theorem J7:∀{e:bm (X×jM)} {c:X} {as:bm ak} {b:jM},tX e c as=Y b->∃d,(d,b)∈e
 |[],_,_,_,a=>by cases a
 |(d,G)::e,c,as,b,a=>by
  simp only[tX] at a;cases f:(bH d c&&(A9 G.ps as&&(j2 0 G.ps).isNone)) with
  |true=>grind
  |false=>
   rw[f] at a;obtain⟨h,g⟩:=J7 a;grind
theorem J8:∀{d:bm (X×jM)} {c:X} {as:bm ak} {b:jM},tX d c as=Y b->j2 0 b.ps=bo
 |[],_,_,_,a=>by cases a
 |(k,G)::d,c,as,b,a=>by
  simp only[tX] at a;cases e:(bH k c&&(A9 G.ps as&&(j2 0 G.ps).isNone)) with
  |true=>
   simp_all
  |false=>
   rw[e] at a;exact J8 a
def vK (ic:gZ) (a:nY) (b:a.den):aR:=⟨ic.kg++o1 a.g b,vJ a.h (vL a.g b)⟩
def gG (b:X) (c:ak9) (a:X):bz:=cb a b&&!(eY a c)
def al (ic:gZ) {A:Type} (a:bL->ak) (g:bm (X×aE)) (r:bQ) (c:cK->bu A):bu A:=
 match r.dst with
 |none=>match r.op with
  |.store d e v=>sE ic.tt g d (a e) (a v) c
  |.mapUpdate d e o v=>o8 ic.tt g d (a e) (a o) (a v) c
  |.insert d e o v=>o8 ic.tt g d (a e) (a o) (a v) c
  |.entryStore d e F v=>sa ic.tt g d (a e) (a F) (a v) c
  |.call {callee:=.builtin .delete,args:=xs,argTypes:=s}=>match xs.toList,s.toList with
   |[e,o],[d,_]=>so ic.tt g d (a e) (a o) c
   |_,_=>bo
  |_=>bo
 |some b=>
  bif gG ic.n ic.pin b then
  match r.op with
  |.pick y e i=>match a y with
   |.val .bool j=>(match a e,a i with
    |.val k u,.val H v=>match ij (τ:=H) k v with
     |some v=>c ⟨Y (b,.val k (bif j then u else v)),[],[],[]⟩
     |none=>bo
    |u,v=>match j with
     |true=>c ⟨Y (b,u),[],[],[]⟩
     |false=>c ⟨Y (b,v),[],[],[]⟩)
   |_=>bo
  |.call {callee:=.value z,args:=xs,argTypes:=_}=>match a z with
   |.di l m=>
    match tX ic.GX l (xs.toList.map a++m) with
    |none=>bo
    |some h=>bif bH h.f l then
     kH g (sG (xs.toList.map a++m) h.ps) h.ps (xs.toList.map a++m) λq=>(h.y6 q).bind λj=>bif n6 b ⟨[],g⟩ (xs.toList.map a++m) (gP h.ps q j) (jx h.rs (iP h.ps j)) then
      c ⟨Y (b,wF b (jx h.rs (iP h.ps j))),gA (xs.toList.map a++m) (gP h.ps q j),yt (m7 (xs.toList.map a++m) (gP h.ps q j)),kw (xs.toList.map a++m) (gP h.ps q j)++jz b (jv (jx h.rs (iP h.ps j))) 0 (jx h.rs (iP h.ps j))⟩ else bo
     else bo
   |_=>bo
  |.call {callee:=.builtin .append,args:=xs,argTypes:=s}=>match xs.toList,s.toList with
   |[e,i],[d,x]=>bif bH d x then oU ic.tt ic.an g b d (a e) (a i) c else bo
   |_,_=>bo
  |.call {callee:=.builtin .copy,args:=xs,argTypes:=s}=>match xs.toList,s.toList with
   |[e,i],[d,_]=>rY ic.tt g b d (a e) (a i) c
   |_,_=>bo
  |.assign e=>match a e with
   |.val k i=>c ⟨Y (b,.val k i),[],[],[]⟩
   |.di l m=>c ⟨Y (b,.di l m),[],[],[]⟩
   |.addr id E=>c ⟨Y (b,.addr id E),[],[],[]⟩
   |.eB v=>match aq ic.an b with
    |none=>c ⟨Y (b,.eB v),[],[],[]⟩
    |some k=>match k.pure&&qK k v with
     |true=>(ji k v.cells.toList).bind λi=>c ⟨Y (b,.val k i),[],[],[]⟩
     |false=>(qG ic.an g b (.eB v)).bind c
   |v=>(qG ic.an g b v).bind c
  |.build d w=>th ic.tt ic.an g a b d w.toList c
  |.mapEntry d e o=>sp ic.tt g b d (a e) (a o) c
  |.box d e=>u9 ic.tt ic.an g b d (a e) c
  |.buildSlice d C w=>tk ic.tt ic.an g a b d C w.toList c
  |_=>match k0 ic.tt ic.an g a b r.op with
   |.e6 t=>c ⟨Y (b,t),[],[],[]⟩
   |.opt _ i l=>i.bind λp=>c ⟨Y (b,l p),[],[],[]⟩
   |.new _ i G B=>bif bH B b then i.bind λp=>c ⟨Y (b,.ref b []),[],[],[(b,G p)]⟩ else bo
   |.no=>match hg ic.tt ic.an g a b r.op with
    |.e6 t D=>c ⟨Y (b,t),[],[],D⟩
    |.part _ I l=>(pick I).bind λp=>c ⟨Y (b,(l p).1),[],[],(l p).2⟩
    |.bad=>bo
  else bo
def n8 (b:bm (X×aE)) (a:ak9):bz:=a.all λid=>match aq b id with|some c=>Js c.1|none=>bq
def kG (ic:gZ) {A:Type} (e:bL->ak) (b:bm (X×aE)) (c:bQ) (f:cK->bu A):bu A:=
 match m4 ic.qS (vR c) e (sH c.op) with
 |[]=>al ic e b c f
 |F=>bif n8 b F then al ic (λh=>i4 b F (e h)) (del F b) c λa=>bif a.keep.all (λg=>!eY g.1 F) then f ⟨a.d,F++a.S,a.keep,a.put⟩ else bo else bo
def o7:hE->bz
 |.m _=>bp
 |_=>bq
def LP (ic:gZ) (a:bL->ak) (e:bQ):bu (X×bm a6):=match e.op with
 |.call {callee:=.value z,args:=xs,argTypes:=_}=>match a z with
  |.di d b=>match tX ic.GX d (xs.toList.map a++b) with
   |some c=>uC (xs.toList.map a++b) (c.ps.map o7)
   |none=>bo
  |_=>bo
 |_=>bo
def I4 (ic:gZ) {A:Type} (id:X) (k:a6) (j:bm a6) (c:bL->ak) (l:bm (X×aE)) (p:bQ) (r:cK->bu A):bu A:=
 match p.dst with
 |none=>bo
 |some g=>
  bif gG ic.n ic.pin g then
  match p.op with
  |.call {callee:=.value m,args:=xs,argTypes:=_}=>match c m with
   |.di o d=>
    match tX ic.GX o (xs.toList.map c++d) with
    |none=>bo
    |some a=>
     bif bH a.f o then
     match aq l id with
     |none=>bo
     |some h=>match fC h.1 (k::j) with
      |none=>bo
      |some i=>match il h.1 h.2 (k::j) i with
       |none=>bo
       |some q=>
        match fY ((id,⟨i,q⟩)::del [id] l) (sG (ng id (xs.toList.map c++d) (a.ps.map o7)) a.ps) a.ps (ng id (xs.toList.map c++d) (a.ps.map o7)) with
        |none=>bo
        |some e=>(a.y6 e).bind λb=>bif n6 g ⟨[],(id,⟨i,q⟩)::del [id] l⟩ (ng id (xs.toList.map c++d) (a.ps.map o7)) (gP a.ps e b) (jx a.rs (iP a.ps b))&&(eY id (gA (ng id (xs.toList.map c++d) (a.ps.map o7)) (gP a.ps e b))&&eY id (m7 (ng id (xs.toList.map c++d) (a.ps.map o7)) (gP a.ps e b))) then
         match aq (kw (ng id (xs.toList.map c++d) (a.ps.map o7)) (gP a.ps e b)++jz g (jv (jx a.rs (iP a.ps b))) 0 (jx a.rs (iP a.ps b))) id with
         |none=>bo
         |some s=>match ij i s.2 with
          |none=>bo
          |some t=>(nc h.1 h.2 (k::j) i t).bind λm=>
           r ⟨Y (g,wF g (jx a.rs (iP a.ps b))),gA (ng id (xs.toList.map c++d) (a.ps.map o7)) (gP a.ps e b),(id,k::j)::yt (m7 (ng id (xs.toList.map c++d) (a.ps.map o7)) (gP a.ps e b)),(id,⟨h.1,m⟩)::(kw (ng id (xs.toList.map c++d) (a.ps.map o7)) (gP a.ps e b)++jz g (jv (jx a.rs (iP a.ps b))) 0 (jx a.rs (iP a.ps b)))⟩
         else bo
     else bo
   |_=>bo
  |_=>bo
  else bo
def KA (ic:gZ) (b:bL->ak) (c:bQ):bu ej:=match c.dst,c.op with
 |some a,.binOp .eql d e g _=>match g4 ic.tt d,b e,b g with
  |some _,.val (.a8 _ h) f,.eB (.slice bo 0 0)=>bif gG ic.n ic.pin a then Y (a,cz (α:=h.den) f) else bo
  |_,_,_=>bo
 |_,_=>bo
def PS (tt:bm (bE×ah)) (a:bE):bz:=match aq tt a with|some (.ptr _ _)=>bp|_=>bq
def Kz (b:bm (X×aE)):ak->bu bz
 |.val (.ptr _ a) d=>Y (Option.isNone (α:=a.den) d)
 |.ref id c=>match aq b id with
  |some a=>match fC a.1 c with
   |some (.optr _)=>Y bq
   |_=>bo
  |none=>bo
 |_=>bo
def Ba:ah->bz
 |.nil=>bp
 |.pr (.int _) a=>Ba a
 |_=>bq
def tJ:(a:ah)->a.den->a.den->bz
 |.pr (.int _) d,b,c=>((b.1:Z)==(c.1:Z))&&tJ d b.2 c.2
 |_,_,_=>bp
def E3 (ic:gZ) (e:bL->ak) (f:bQ):bu (X×bz):=match f.dst,f.op with
 |some d,.binOp .eql c i j _=>match aq ic.tt c,e i,e j with
  |some h,.val (.st a) g,.val k b=>bif eY c ic.eq&&(Ba a&&(bd h (.st a)&&gG ic.n ic.pin d)) then(ij (τ:=k) (.st a) b).map λb=>(d,tJ a g b) else bo
  |_,_,_=>bo
 |_,_=>bo
def BW (ic:gZ) (c:bL->ak) (f:bm (X×aE)) (d:bQ):bu (X×bz):=match d.dst,d.op with
 |some a,.binOp g e h i _=>match PS ic.tt e,Kz f (c h),c i with
  |true,Y b,.eB (.pointer bo)=>bif gG ic.n ic.pin a then(match g with
   |.eql=>Y (a,b)
   |.neq=>Y (a,!b)
   |_=>bo) else bo
  |_,_,_=>bo
 |_,_=>bo
def LY (ic:gZ) (f:bL->ak) (d:bQ):bu (X×u1×Z):=match d.dst,d.op with
 |some c,.indexAddr e (.global h) g=>match ic.vT.find? (λa=>bH a.b h&&bH a.T e),f g with
  |some a,.val (.int _) i=>bif gG ic.n ic.pin c then Y (c,a,i) else bo
  |_,_=>bo
 |_,_=>bo
def i1 (ic:gZ) {A:Type} (a:aR) (b:bQ) (c:aR->bu A):bu A:=
 match LY ic (aX a.g) b with
 |some (d,i,f)=>(aw i.xs f).bind λn=>c ⟨(d,.val (.ptr .bj (.int i.k)) (Y n))::a.g,a.h⟩
 |none=>match(BW ic (aX a.g) a.h b).or (E3 ic (aX a.g) b) with
 |some (d,j)=>c ⟨(d,.val .bool j)::a.g,a.h⟩
 |none=>match KA ic (aX a.g) b with
 |some (d,f)=>ss f (c ⟨(d,.val .bool bp)::a.g,a.h⟩) (c ⟨(d,.val .bool bq)::a.g,a.h⟩)
 |none=>match LP ic (aX a.g) b with
  |some (id,m::l)=>I4 ic id m l (aX a.g) a.h b λe=>c (e.app a)
  |_=>kG ic (aX a.g) a.h b λe=>c (e.app a)
def lA (ic:gZ) {A:Type} (c:bT bQ):ak9->aR->(aR->bu A)->bu A
 |[],a,b=>b a
 |i::e,a,b=>match c[i]? with
  |none=>bo
  |some f=>match f.guard with
   |none=>i1 ic a f λk=>lA ic c e k b
   |some (
    l,uH)=>match(c[l]?).bind (·.dst),f.dst with
    |some j,Y d=>match gt a.g j with
     |.val .bool m=>bif gG ic.n ic.pin d then
      (match m==uH with
      |true=>i1 ic ⟨(j,.val .bool uH)::a.g,a.h⟩ f λk=>lA ic c e k b
      |false=>lA ic c e ⟨(d,.eB bV)::(j,.val .bool (!uH))::a.g,a.h⟩ b) else bo
     |.eB (.tuple _)=>bif gG ic.n ic.pin d then lA ic c e ⟨(d,.eB bV)::a.g,a.h⟩ b else bo
     |_=>bo
    |_,_=>bo
section
variable {E:fM} {C:e7} {ic:gZ} {A:Type}
def gZ.ae (E:fM) (C:e7) (ic:gZ):Prop:=ic.tt=E.tt/\ic.n=C.n/\ic.pin=C.pin/\((∀b∈ic.GX,aC E b.2)/\u0 C ic.agi/\(∀a∈ic.az,zw E.P a)/\lM E C.I0 C.w0/\ic.vT=E.glob/\ic.eq=E.eqs)/\ql C ic.kg
theorem gG.ok (b:ic.ae E C) {d:X} (a:gG ic.n ic.pin d=bp):C.ok d:=by obtain⟨_,c,e,_,_⟩:=b;rw[c,e] at a;simp only[gG,cF] at a;exact⟨g1 a.1,λf=>by grind [ht]⟩
def gR.same {e:ew} {d:aR} (l:∀b,gt d.g b=gt i.g b) (c:d.h=i.h) (k:gR C i e v):gR C d e v:=by obtain⟨f,m,j,a⟩:=k;exact⟨f,m,j,{a with tree:=by rw[c];exact a.tree,dis:=by rw[c];exact a.dis,tmp:=λb=>by rw[c,l];exact a.tmp b}⟩
def iJ.same {f:bT bQ} {e:ak9} {a b:aR} {c:aR->Prop} (l:∀d,gt b.g d=gt a.g d) (m:b.h=a.h) (j:iJ E C f e b c):iJ E C f e a c:=
 λi n k=>j i n (k.same l m)
def cK.M7 {b:bm (X×bm a6)}:(cK.mk (Y (a,d)) f b e).app i=⟨(a,d)::alu f b i.g,e++del f i.h⟩:=by show aR.mk ((a,d)::og f b i.g) (e++r7 f i.h)=_;rw[tT,ya]
theorem OI (L:ic.ae E C) {l:bQ} {st:aR} {o:cK->bu A} {s:A} (a:al ic (aX st.g) st.h l o=Y s):e8 E C l st (λv=>∃c,o c=Y s/\v=c.app st):=by
 obtain⟨B,d8,d9,dl,_⟩:=id L;unfold al at a;split at a
 ·rename_i i;split at a
  ·grind [agy,agx]
  ·grind [QV]
  ·rename_i p b ad ap e;rw[B] at a;exact QV (.inr e) i a
  ·grind [XM]
  ·rename_i x H e;split at a
   case h_2=>cases a
   rename_i b ad p a3 al S;rw[B] at a;obtain rfl:x=#[b,ad]:=(by grind);obtain rfl:H=#[p,a3]:=(by grind);grind [aaj]
  grind
 rename_i z i;cases U:gG ic.n ic.pin z with
 |false=>grind
 |true=>
 rw[U] at a;have j:=gG.ok L U;simp only[bF] at a;split at a
 ·rename_i d5 b m e;split at a
  case h_2=>cases a
  rename_i q K;have d6:∀y,(q=bp->y=aX st.g b)->(q=bq->y=aX st.g m)->o ⟨Y (z,y),[],[],[]⟩=Y s->e8 E C l st (λv=>∃c,o c=Y s/\v=c.app st):=by
   clear a;intro y ce ci u;refine al3 (an:=ic.an) i j ?_;rw[e];simp only[hg,Gj,K];refine⟨q,bn,_,u,?_⟩;cases q
   ·rw[ci bn];rfl
   rw[ce bn];rfl
  split at a
  ·rename_i d4 ex fn ap ek V;split at a
   case h_2=>cases a
   rename_i d3 ds;cases kD ds;grind
  grind
 ·rename_i fl x _ e;split at a
  case h_2=>cases a
  rename_i J am d1;split at a
  ·cases a
  rename_i I co;cases r:bH I.f J with
  |false=>grind
  |true=>
  rw[r] at a;obtain rfl:=fH r;simp only[bF,oc] at a;obtain⟨d,d7,a⟩:=eV.1 a;obtain⟨q,dg,a⟩:=eV.1 a;cases K:n6 z ⟨[],st.h⟩ (x.toList.map (aX st.g)++am) (gP I.ps d q) (jx I.rs (iP I.ps q)) with
  |false=>grind
  |true=>
  rw[K] at a;obtain⟨el,c2⟩:=J7 co;obtain⟨cv,c1⟩:=dl.1 _ c2;refine e8.call e d1 i j cv (c1 d q dg) (by grind [J8,B6]) L.2.2.2.2.1 L.2.2.2.1.2.2.2.1 ?_ K ⟨_,a,?_⟩
  ·grind [qT,L0]
  rw[cK.M7];rfl
 ·rename_i x H e;split at a
  case h_2=>cases a
  rename_i b m p N al S;cases r:bH p N with
  |false=>grind
  |true=>
  rw[r] at a;obtain rfl:=fH r;have bl:x=#[b,m]:=(by grind);have bs:H=#[p,p]:=(by grind);grind [VV]
 ·rename_i x H e;split at a
  case h_2=>cases a
  rename_i b m p N al S;have bl:x=#[b,m]:=(by grind);have bs:H=#[p,N]:=(by grind);grind [e8.copy]
 ·rename_i b e;have O:JK (aX st.g b)=bp->o ⟨Y (z,aX st.g b),[],[],[]⟩=Y s->e8 E C l st (λv=>∃c,o c=Y s/\v=c.app st):=λV u=>by
   refine al3 (an:=ic.an) i j ?_;rw[e];simp only[hg,V,bF];exact⟨_,u,bn⟩
  have as:(qG ic.an st.h z (aX st.g b)).bind o=Y s->e8 E C l st (λv=>∃c,o c=Y s/\v=c.app st):=λu=>(by obtain⟨c,cs,u⟩:=eV.1 u;exact e8.V2 e i j (V3 cs ⟨c,u,bn⟩));split at a
  ·rename_i d4 m t;exact O (by rw[t];rfl) (by grind)
  ·rename_i J am t;exact O (by rw[t];rfl) (by grind)
  ·rename_i id en t;rintro d w ⟨a0,d2,bx,D⟩ next a4 Q
   have M:=D.aX b;have R:(bM d.eval l).run E.P w=.ok (.value (d.eval b)) w:=(by simp[bM,e]);unfold alk;rw[R];show next (d.put l.dst (d.eval b)) w
   rw[i];refine Q _ _ _ ⟨_,a,bn⟩ rfl ⟨_,_,_,D.put j ?_⟩;grind
  ·rename_i ap t;split at a
   ·exact O (by rw[t];rfl) (by grind)
   split at a
   ·rename_i T;simp only[cF] at T;obtain⟨m,d0,a⟩:=eV.1 a;rintro d w ⟨a0,d2,bx,D⟩ next a4 Q
    have M:=D.aX b;have R:(bM d.eval l).run E.P w=.ok (.value (d.eval b)) w:=(by simp[bM,e]);unfold alk;rw[R];show next (d.put l.dst (d.eval b)) w
    rw[i];refine Q _ _ _ ⟨_,a,bn⟩ rfl ⟨_,_,_,D.put j ?_⟩;rw[t] at M;generalize d.eval b=d3 at M;cases M;rw[<-qK.ok T.2];exact .val (qJ d0)
   grind
  grind
 ·grind [Wf]
 ·grind [aaq]
 ·grind [Wi]
 ·grind [Wm]
 split at a
 ·rename_i y k;refine al3 (an:=ic.an) i j ?_;rw[<-B];exact Ja (by rw[k];exact⟨_,a,bn⟩)
 ·rename_i av m J k;refine al3 (an:=ic.an) i j ?_;rw[<-B];obtain⟨G,F,a⟩:=eV.1 a;exact Ja (by rw[k];exact⟨G,F,_,a,bn⟩)
 ·rename_i av m eq c k;cases r:bH c z with
  |false=>grind
  |true=>
  rw[r] at a;obtain rfl:=fH r;obtain⟨G,F,a⟩:=eV.1 a;refine al3 (an:=ic.an) i j ?_;rw[<-B];exact Ja (by rw[k];exact⟨G,F,_,a,bn⟩)
 refine al3 (an:=ic.an) i j ?_;rw[B] at a;split at a
 ·rename_i y em k;rw[k];exact⟨_,a,bn⟩
 ·rename_i av fp J k;rw[k];obtain⟨G,F,a⟩:=eV.1 a;exact⟨G,aek F,_,a,bn⟩
 grind
theorem e8.mono {P:aR->Prop} (e:e8 E C h i P) (j:∀a,P a->u a):e8 E C h i u:=
 λc l f next b g=>e c l f next b (λa d m k=>g a d m (j a k))
theorem afE (b:lD g d=bp):∃id,d.ids=[id]/\∃a∈g,a.1=id:=by
 have e:∀(id:X) (f:X×bm a6->bz),(g.any λa=>bH a.1 id&&f a)=bp->∃a∈g,a.1=id:=(by intro id f k;obtain⟨a,h,i⟩:=qm.1 k;simp only[cF] at i;grind [alZ]);cases d with
 |ref id c=>
  cases c with
  |nil=>
   obtain⟨a,h,j⟩:=qm.1 (show(g.any λa=>bH a.1 id)=bp from b);exact⟨id,bn,a,h,fH j⟩
  |cons n c=>exact⟨id,bn,e id _ b⟩
 |addr id c=>exact⟨id,bn,e id _ b⟩
 |view id c m l=>exact⟨id,bn,e id _ b⟩
 |_=>cases b
theorem G6:d.fD (f++w)=(d.fD f||d.fD w):=by simp only[alo];rw[wZ];simp only[qm,jK];grind [ht,aoj,aoe]
theorem NV {b:bm ak}:(ak.di a b).fD f=b.any λc=>c.fD f:=by
 show(amh b).any _=_
 induction b with
 |nil=>rfl
 |cons c b d=>grind [amh,alo]
theorem S1 (b:d.fD w=bq):kI (w++f) g d=kI f g d:=by
 cases d with
 |di m p=>
  rw[NV,uQ] at b;rw[wZ];simp only[kI,g7];constructor<;>intro i e h<;>have:=i e h<;>rw[G6,Bool.eq_false_iff.2 (b e h)] at*<;>simpa using this
 |app id q s r c=>
  have j:=Mb b;have o:∀a∈c,eY a (w++f)=eY a f:=λa k=>(by have n:a∉w:=j a (gx _ k);rw[wZ,ht,ht,g0];grind);have l:(c.all λa=>!(eY a (w++f)))=c.all λa=>!(eY a f):=(by grind);grind [kI]
 |_=>rfl
theorem Zm {F S:ak9} {keep:bm (X×bm a6)} {a:ak}:fo (F++S) keep a=.dead\/(a.fD F=bq/\fo (F++S) keep a=fo S keep a)\/(kI (F++S) keep a=bp/\fo (F++S) keep a=a):=by grind [S1,G6,kI,fo]
theorem n8.ok (b:n8 e f=bp):∀id∈f,∃a,aq e id=Y a/\Js a.1=bp:=by intro id c;have:=g7.1 b id c;grind
theorem OK (bx:ic.ae E C) {L:bQ} {O:cK->bu A} {am:A} (e:kG ic (aX i.g) i.h L O=Y am):e8 E C L i (λN=>∃b,O b=Y am/\N=b.app i):=by
 unfold kG at e;split at e
 ·grind [OI]
 generalize m4 ic.qS (vR L) (aX i.g) (sH L.op)=c at e;cases T:n8 i.h c with
 |false=>grind
 |true=>
 rw[T] at e;simp only[bF] at e;rw[<-Yy c i] at e;have m:=OI (st:=tO c i) bx e;intro j c1 M next an ci
 obtain⟨dg,d5,dl,M⟩:=M;refine m j c1 (M.freeze (n8.ok T)) next an (λd6 ap c2 cs bl a0=>?_)
 obtain⟨b,U,rfl⟩:=cs;cases V:b.keep.all (λl=>!eY l.1 c) with
 |false=>grind
 |true=>
 rw[V] at U;have V:∀l∈b.keep,l.1∉c:=λl q ce=>(by grind [ht,amn]);refine ci _ ap c2 ⟨_,U,bn⟩ bl (a0.Qd ?_ ?_)
 ·intro B;have r:∀j:ak,fo (c++b.S) b.keep j=.dead\/fo (c++b.S) b.keep j=fo b.S b.keep (g3 i.h c j):=by
   intro j;rcases Zm (F:=c) (S:=b.S) (keep:=b.keep) (a:=j) with e|⟨m,y⟩|⟨m,y⟩
   ·grind
   ·right;rw[y];rcases m3 i.h c j with⟨id,p,rfl,cv,_⟩|⟨_,o⟩|⟨o,_⟩
    ·grind [ht,alo,bS]
    ·grind
    grind
   have co:∀(id:X),(∃k∈b.keep,k.1=id)->eY id c=bq:=λid ⟨k,z,b⟩=>(by grind);have u:kI (c++b.S) b.keep j=kI b.S b.keep j->∀(id:X),j.ids=[id]->(∃k∈b.keep,k.1=id)->fo (c++b.S) b.keep j=.dead\/fo (c++b.S) b.keep j=fo b.S b.keep (g3 i.h c j):=by
    intro d0 id d2 z;have ad:j.fD c=bq:=(by grind [alo]);right;rcases m3 i.h c j with⟨l,p,rfl,cv,_⟩|⟨_,o⟩|⟨o,_⟩
    ·grind [ht,alo,bS]
    ·grind
    grind [fo,kI]
   have w:∀(id:X) (P:X×bm a6->bz),(b.keep.any λk=>bH k.1 id&&P k)=bp->∃k∈b.keep,k.1=id:=(by intro id P bs;obtain⟨k,z,y⟩:=qm.1 bs;simp only[cF] at y;grind [alZ]);cases j with
   |ref id f=>
    cases f with
    |nil=>
     obtain⟨k,z,G⟩:=qm.1 (show(b.keep.any λk=>bH k.1 id)=bp from m);exact u bn id bn ⟨k,z,fH G⟩
    |cons N f=>exact u bn id bn (w id _ m)
   |addr id f=>exact u bn id bn (w id _ m)
   |view id f D q=>exact u bn id bn (w id _ m)
   |di t n=>
    have a3:=g7.1 m;have ad:(ak.di t n).fD c=bq:=(by rw[NV,uQ];grind [afE,G6,id,alo,al]);right;rcases m3 i.h c (.di t n) with⟨l,p,ax,_⟩|⟨_,o⟩|⟨o,_⟩
    ·cases ax
    ·grind
    rw[o,y];unfold fo;have ds:kI b.S b.keep (.di t n)=bp:=g7.2 λav a4=>(by have G:=a3 av a4;rw[G6,Bool.not_or,jK,cF] at G;grind);grind
   |app id f v x s=>
    have R:((s.all λl=>!(eY l (c++b.S)))&&b.keep.any λk=>bH k.1 id&&lu k.2 f)=bp:=m;rw[cF] at R;have d1:=co id (w id _ R.2);have ad:(ak.app id f v x s).fD c=bq:=by
     unfold alo;rw[uQ];intro l q ce;rcases fF.1 (show l∈id::s from q) with rfl|q
     ·grind
     grind [amn,ht,aoj]
    right;rcases m3 i.h c (.app id f v x s) with⟨l,p,ax,_⟩|⟨_,o⟩|⟨o,_⟩
    ·cases ax
    ·grind
    grind [S1,fo]
   |hL j=>
    have m:lD b.keep j=bp:=m;cases j with
    |ref id f=>
     cases f with
     |nil=>
      obtain⟨k,z,G⟩:=qm.1 (show(b.keep.any λk=>bH k.1 id)=bp from m);exact u bn id bn ⟨k,z,fH G⟩
     |cons N f=>exact u bn id bn (w id _ m)
    |addr id f=>exact u bn id bn (w id _ m)
    |view id f D q=>exact u bn id bn (w id _ m)
    |_=>cases m
   |_=>cases m
  have d3:∀j:ak,zm (fS (c++b.S) b.keep j) (fS b.S b.keep (i4 i.h c j)):=by
   intro j;cases j with
   |fu n=>
    refine .inr (.inr ⟨_,_,bn,bn,ac,λl k d8 m y=>?_⟩);grind
   |ref id f=>
    have o:=r (.ref id f);have al:fS b.S b.keep (i4 i.h c (.ref id f))=fo b.S b.keep (g3 i.h c (.ref id f)):=by show fS b.S b.keep (g3 i.h c (.ref id f))=_;rcases m3 i.h c (.ref id f) with⟨l,p,_,_,_,e⟩|⟨e,_⟩|⟨e,_⟩<;>rw[e]<;>first|rfl|grind [Yz]
    rw[al];exact o.imp (λe=>e) .inl
   |dead=>exact(r .dead).imp (λe=>e) .inl
   |val v k=>exact .inr (.inl (by
    simp[fo,g3,i4,fS,alo,bS]))
   |eB d7=>exact .inr (.inl (by
    simp[fo,g3,i4,fS,alo,bS]))
   |addr id f=>
    have al:fS b.S b.keep (i4 i.h c (.addr id f))=fo b.S b.keep (g3 i.h c (.addr id f)):=by show fS b.S b.keep (g3 i.h c (.addr id f))=_;rcases m3 i.h c (.addr id f) with⟨l,p,_,_,_,e⟩|⟨e,_⟩|⟨e,_⟩<;>rw[e]<;>first|rfl|grind
    rw[al];exact(r _).imp (λe=>e) .inl
   |view id f D q=>
    have al:fS b.S b.keep (i4 i.h c (.view id f D q))=fo b.S b.keep (g3 i.h c (.view id f D q)):=by show fS b.S b.keep (g3 i.h c (.view id f D q))=_;rcases m3 i.h c (.view id f D q) with⟨l,p,_,_,_,e⟩|⟨e,_⟩|⟨e,_⟩<;>rw[e]<;>first|rfl|grind
    rw[al];exact(r _).imp (λe=>e) .inl
   |ent id f K=>
    have al:fS b.S b.keep (i4 i.h c (.ent id f K))=fo b.S b.keep (g3 i.h c (.ent id f K)):=by show fS b.S b.keep (g3 i.h c (.ent id f K))=_;rcases m3 i.h c (.ent id f K) with⟨l,p,_,_,_,e⟩|⟨e,_⟩|⟨e,_⟩<;>rw[e]<;>first|rfl|grind
    rw[al];exact(r _).imp (λe=>e) .inl
   |app id f v x s=>
    have al:fS b.S b.keep (i4 i.h c (.app id f v x s))=fo b.S b.keep (g3 i.h c (.app id f v x s)):=by show fS b.S b.keep (g3 i.h c (.app id f v x s))=_;rcases m3 i.h c (.app id f v x s) with⟨l,p,_,_,_,e⟩|⟨e,_⟩|⟨e,_⟩<;>rw[e]<;>first|rfl|grind
    rw[al];exact(r _).imp (λe=>e) .inl
   |agg n=>
    have al:fS b.S b.keep (i4 i.h c (.agg n))=fo b.S b.keep (g3 i.h c (.agg n)):=by show fS b.S b.keep (g3 i.h c (.agg n))=_;rcases m3 i.h c (.agg n) with⟨l,p,_,_,_,e⟩|⟨e,_⟩|⟨e,_⟩<;>rw[e]<;>first|rfl|grind
    rw[al];exact(r _).imp (λe=>e) .inl
   |di t n=>
    have al:fS b.S b.keep (i4 i.h c (.di t n))=fo b.S b.keep (g3 i.h c (.di t n)):=by show fS b.S b.keep (g3 i.h c (.di t n))=_;rcases m3 i.h c (.di t n) with⟨l,p,_,_,_,e⟩|⟨e,_⟩|⟨e,_⟩<;>rw[e]<;>first|rfl|grind
    rw[al];exact(r _).imp (λe=>e) .inl
   |hL j=>
    have al:fS b.S b.keep (i4 i.h c (.hL j))=fo b.S b.keep (g3 i.h c (.hL j)):=by show fS b.S b.keep (g3 i.h c (.hL j))=_;rcases m3 i.h c (.hL j) with⟨l,p,_,_,_,e⟩|⟨e,_⟩|⟨e,_⟩<;>rw[e]<;>first|rfl|grind
    rw[al];exact(r _).imp (λe=>e) .inl
  show zm (gt (cK.app ⟨b.d,c++b.S,b.keep,b.put⟩ i).g B) (gt (b.app (tO c i)).g B);obtain⟨J,H,I,d4⟩:=b;cases J with
  |none=>
   show zm (gt (og (c++H) I i.g) B) (gt (og H I (tO c i).g) B);grind [tT,qU,Fo]
  |some o=>
   obtain⟨J,Q⟩:=o;show zm (gt ((J,Q)::og (c++H) I i.g) B) (gt ((J,Q)::og H I (tO c i).g) B);rw[ju,ju];split
   ·exact .inr (.inl bn)
   grind [tT,qU,Fo]
 intro id;show aq (b.put++r7 (c++b.S) i.h) id=aq (b.put++r7 b.S (del c i.h)) id;grind [ya,k4,nG]
theorem Xw (m:ic.ae E C) {p:bQ} {id:X} {k:a6} (bs:LP ic (aX i.g) p=Y (id,k::j)) {q:cK->bu A} {y:A} (a:I4 ic id k j (aX i.g) i.h p q=Y y):e8 E C p i (λk=>∃r,q r=Y y/\k=r.app i):=by
 have R:=λc=>gG.ok m (d:=c);have M:=m.2.2.2.2.1;have N:=m.2.2.2.1.2.2.2.1;obtain⟨bx,_,_,V,_⟩:=m;unfold I4 at a;split at a
 ·cases a
 rename_i c I;cases w:gG ic.n ic.pin c with
 |false=>grind
 |true=>
 rw[w] at a;have J:=R c w;simp only[bF] at a;split at a
 case h_2=>cases a
 rename_i a4 B cv P;split at a
 case h_2=>cases a
 rename_i F x an;split at a
 ·cases a
 rename_i b G;cases u:bH b.f F with
 |false=>grind
 |true=>
 rw[u] at a;obtain rfl:=fH u;simp only[bF] at a;split at a
 ·cases a
 rename_i co T;split at a
 ·cases a
 rename_i a3 ce;split at a
 ·cases a
 rename_i av ad;split at a
 ·cases a
 rename_i l bl;obtain⟨e,Q,a⟩:=eV.1 a;have S:uC (B.toList.map (aX i.g)++x) (b.ps.map o7)=Y (id,k::j):=(by grind [LP]);generalize H:ng id (B.toList.map (aX i.g)++x) (b.ps.map o7)=o at*;cases v:n6 c ⟨[],(id,⟨a3,av⟩)::del [id] i.h⟩ o (gP b.ps l e) (jx b.rs (iP b.ps e)) with
 |false=>grind
 |true=>
 rw[v] at a;cases s:eY id (gA o (gP b.ps l e)) with
 |false=>grind
 |true=>
 rw[s] at a;cases t:eY id (m7 o (gP b.ps l e)) with
 |false=>grind
 |true=>
 rw[t] at a;simp only[Bool.and_self,bF] at a;split at a
 ·cases a
 rename_i cs U;split at a
 ·cases a
 rename_i D am;obtain⟨a0,ap,a⟩:=eV.1 a;obtain⟨ci,O⟩:=J7 G;obtain⟨K,L⟩:=V.1 _ O;refine e8.sub P an I J K (L l e Q) (by grind [J8,B6]) M N T (jl ad) S H.symm ?_ v (ht.1 s) (ht.1 t) (y':=D) (z:=a0) ?_ (nM ap) ⟨_,a,?_⟩
 ·grind [qT,L0]
 ·rw[U];exact b3 Y (kD am)
 rw[cK.M7]
def afT (b:bC) (e:X) (a:bu Addr) (g d:X) (f:p.underlying c=Y (.slice r)):(amo (e+1) c (.slice a g d) (.slice bo 0 0)).run p b=.ok a.isNone b:=by cases a<;>simp[amo,b7 f]
theorem afR (b:bC) (a:bu Addr) (e d:X) (f:p.underlying c=Y (.slice r)):(alm .eql c (.slice a e d) (.slice bo 0 0)).run p b=.ok (.bool a.isNone) b:=by simp_all [afT,ano,anp,alm]
theorem aaL (s:ic.ae E C) {x:bQ} (b:KA ic (aX i.g) x=Y (a,m)):e8 E C x i (λR=>∃c:bz,R=⟨(a,.val .bool c)::i.g,i.h⟩/\(c=bp->m=0)):=by
 unfold KA at b;split at b
 case h_2=>cases b
 rename_i D A j k a3 H J;split at b
 case h_2=>cases b
 rename_i a0 ap z y r F G;cases t:gG ic.n ic.pin D with
 |false=>grind
 |true=>
 rw[t] at b;simp only[bF,eZ,iK] at b;obtain⟨rfl,rfl⟩:=b;rw[s.1] at r;obtain⟨_,T,_,K,_⟩:=g4.ok r;rintro e f ⟨S,av,V,l⟩ next U an
 have o:=l.aX j;have p:=l.aX k;rw[F] at o;rw[G] at p;obtain⟨d,u⟩:∃d,d=e.eval j:=⟨_,bn⟩;obtain⟨fb,w⟩:∃d,d=e.eval k:=⟨_,bn⟩;rw[<-u] at o;rw[<-w] at p;cases o with|val O=>cases p with|eB _=>
 obtain⟨_,c,q,rfl,ad,am,_⟩:=O;have L:e.eval j=.slice c (cz (α:=z.den) y) q:=u.symm;have M:e.eval k=.slice bo 0 0:=w.symm;have I:∀f,(amf .eql A j k (.slice c (cz (α:=z.den) y) q) (.slice bo 0 0)).run E.P f=.ok () f:=λf=>(by unfold amf;simp);refine anC (Q:=λB N=>B=.val .bool c.isNone/\N=[]) l (.pure (v:=.bool _) (by simp only[bM,J,L,M,bW,I,b1,afR _ _ _ _ K];rfl) (.bool _) ⟨bn,bn⟩) H (gG.ok s t) ?_;grind
def agP {d:X} {f:cr} (i:E.P.underlying r=Y (.array d c)) (g:fx E.P (.int f) c) {b:Act} (k:h.op=.indexAddr r (.global m) n) {p:cr} (j:b.eval n=.int p a) (q:a<d):(bM b.eval h).run E.P v=.ok (.value (.pointer (Y ⟨m,0+a*1,bo⟩))) v:=by have e:=g.sizeOf v;have o:b.eval (.global m)=.pointer (Y ⟨m,0,bo⟩):=rfl;have:(0:Z)<=(a:Z)/\(a:Z)<(d:Z):=⟨aa,aa⟩;have l:(ah.int f).size=1:=rfl;rw[l] at e;simp[bM,k,o,j,Instr.indexAt,amL,amp,b7 i,this,e,ame];omega
theorem agL (e:ic.ae E C) {A:bQ} {r:u1} {z f:Z} (c:LY ic (aX i.g) A=Y (a,r,z)) (V:aw r.xs z=Y f):e8 E C A i (λap=>ap=⟨(a,.val (.ptr .bj (.int r.k)) (Y f))::i.g,i.h⟩):=by
 unfold LY at c;split at c
 case h_2=>cases c
 rename_i F a3 co p R S;split at c
 case h_2=>cases c
 rename_i d y q v M;cases w:gG ic.n ic.pin F with
 |false=>grind
 |true=>
 rw[w] at c;simp only[bF,eZ,iK] at c;obtain⟨rfl,rfl,rfl⟩:=c;have l:=List.find?_some v;have o:=Hs v;rw[cF] at l;obtain rfl:=fH l.1;obtain rfl:=fH l.2;rw[e.2.2.2.1.2.2.2.2.1] at o;obtain⟨a0,P,O⟩:=E.gok d o;rintro s dl ⟨av,c2,ce,j⟩ next a4 ci
 have m:=j.aX p;rw[M] at m;generalize T:s.eval p=dg at m;cases m with|val an=>
 obtain⟨_,rfl⟩:=an;obtain⟨al,K,L⟩:=Ps V;obtain⟨_,bl,bx,u,ax,c1,B⟩:=j.glob e.2.2.2.2.1 e.2.2.2.1.2.2.2.1 d o;simp only[ia,alf,cc] at u;obtain⟨rfl,_⟩:=u;rcases B with B|⟨bs,cv,t,N,am⟩
 ·grind
 simp only[eZ,aly,cc] at t;obtain⟨rfl,rfl⟩:=t;obtain⟨J,G,H,I⟩:=am _ _ L;have U:s.eval p=.int y (q.toNat:X):=(by rw[T];show aln y q=_;grind);refine anC (Q:=λD ad=>D=.val (.ptr .bj (.int d.k)) (Y f)/\ad=[]) j (.pure (agP P O S U K) (.val (τ:=.ptr .bj (.int d.k)) (x:=Y f) (cs:=[.pointer (Y ⟨d.b,0+q.toNat*1,bo⟩)]) ⟨bn,d.b,_,J,bn,N,G,H,I⟩) ⟨bn,bn⟩) R (gG.ok e w) ?_;grind
def S9 (b:bC) (d:X) (a:bu Addr) (e:p.underlying c=Y (.pointer r)):(amo (d+1) c (.pointer a) (.pointer bo)).run p b=.ok a.isNone b:=by cases a<;>simp[amo,b7 e]
theorem afS (b:bC) (a:bu Addr) (d:p.underlying c=Y (.pointer r)):(alm .eql c (.pointer a) (.pointer bo)).run p b=.ok (.bool a.isNone) b:=by simp_all [S9,ano,anp,alm]
theorem afU (b:bC) (a:bu Addr) (d:p.underlying c=Y (.pointer r)):(alm .neq c (.pointer a) (.pointer bo)).run p b=.ok (.bool (!a.isNone)) b:=by simp_all [S9,ano,anp,alm]
theorem aaH {f:Act} (m:cP C i f.tmps v N O x) {c:bz} (a:Kz i.h (aX i.g n)=Y c):∃l:bu Addr,f.eval n=.pointer l/\l.isNone=c:=by
 have b:=m.aX n;obtain⟨v1,d⟩:∃k,k=f.eval n:=⟨_,bn⟩;rw[<-d] at b;unfold Kz at a;split at a
 ·rename_i B y k j;rw[j] at b;cases b with|val e=>
  obtain⟨_,e⟩:=e;cases a;cases k with
  |none=>subst e;exact⟨bo,d.symm,bn⟩
  |some F=>obtain⟨r,u,s,rfl,_⟩:=e;exact⟨Y ⟨r,u,bo⟩,d.symm,bn⟩
 ·rename_i id D j;split at a
  case h_2=>cases a
  rename_i y p;split at a
  case h_2=>cases a
  rename_i E t;cases a;rw[j] at b;cases b with|ref q o=>
  rw[p] at q;cases q;have:=o.ty;rw[t] at this;cases this;obtain⟨c,w,s,rfl,z,A⟩:=pX (m.tree id _ p).1 o;exact⟨Y ⟨c,w,bo⟩,d.symm,bn⟩
 grind
theorem aey (p:ic.ae E C) {F:bQ} {m:bz} (b:BW ic (aX i.g) i.h F=Y (a,m)):e8 E C F i (λO=>O=⟨(a,.val .bool m)::i.g,i.h⟩):=by
 unfold BW at b;split at b
 case h_2=>cases b
 rename_i J d k R f av u y;split at b
 case h_2=>cases b
 rename_i I o K L;cases q:gG ic.n ic.pin J with
 |false=>grind
 |true=>
 rw[q] at b;simp only[bF] at b;have M:∃j,E.P.underlying k=Y (.pointer j):=by
  rw[p.1] at o;unfold PS at o;split at o
  ·rename_i am ap N;obtain⟨_,j,_,_,_,_,V,_⟩:=E.ok k _ N;grind
  grind
 obtain⟨j,z⟩:=M;rintro t e ⟨S,an,U,c⟩ next T ad
 have r:=c.aX f;rw[L] at r;obtain⟨fb,B⟩:∃G,G=t.eval f:=⟨_,bn⟩;rw[<-B] at r;cases r with|eB _=>
 obtain⟨H,A,x⟩:=aaH c K;have D:t.eval f=.pointer bo:=B.symm;have w:∀d e,(amf d k R f (.pointer H) (.pointer bo)).run E.P e=.ok () e:=λd e=>(by unfold amf;cases d<;>simp);split at b
 ·cases b;refine anC (Q:=λl s=>l=.val .bool m/\s=[]) c (.pure (v:=.bool _) (by simp only[bM,y,A,D,bW,w,b1,afS _ _ z,x];rfl) (.bool _) ⟨bn,bn⟩) u (gG.ok p q) ?_;grind
 ·cases b;refine anC (Q:=λl s=>l=.val .bool (!I)/\s=[]) c (.pure (v:=.bool _) (by simp only[bM,y,A,D,bW,w,b1,afU _ _ z,x];rfl) (.bool _) ⟨bn,bn⟩) u (gG.ok p q) ?_;grind
 grind
def OW {P:bY} {M:eH->X->Prop} {w w0:bC} {d:X}:∀{t:ah} {fs:bm alz} {off:X} {b:ez} {xs ys:ew} {p q:t.den},Ba t=bp->i9 P t fs off b->(fs.all λf=>f.name !="_")=bp->aW M w0 t (xs.toList.drop off) p []->aW M w0 t (ys.toList.drop off) q []->(aok (d+1) xs ys fs).run P w=.ok (tJ t p q) w
 |.nil,[],_,_,_,_,_,_,_,_,_,_,_=>by simp[aok,tJ]
 |.nil,_::_,_,_,_,_,_,_,_,c,_,_,_=>c.elim
 |.pr i e,[],_,_,_,_,_,_,_,c,_,_,_=>c.elim
 |.pr i e,f::fs,off,b,xs,ys,p,q,a,c,h,A,B=>by
  cases i<;>simp only[Ba] at a<;>try (cases a;done)
  rename_i L;obtain⟨v,k,J,_,x⟩:=c;simp only[sT,cF,bne_iff_ne,ne_eq] at h;obtain⟨G,f2,o,E,m⟩:=A;obtain⟨H,I,r,F,n⟩:=B;obtain⟨rfl,rfl⟩:=aoO.1 o.symm;obtain⟨rfl,rfl⟩:=aoO.1 r.symm;have j:∀(b:ew) (g:Value),(b.toList.drop off).take 1=[g]->(part f.type b f.offset).run P w=.ok g w:=λb g z=>(by have C:b[off]?=Y g:=(by have:=b3 (·[0]?) z;simpa[an0,pt] using this);simp only[part,bW,k.isAgg,b1,v,C,pT];rfl);have s:=j xs _ E.2;have u:=j ys _ F.2;obtain⟨K,_,_,_,_,y⟩:=k;have D:=OW (P:=P) (M:=M) (w:=w) (w0:=w0) (d:=d) (t:=e) (fs:=fs) (off:=off+1) (xs:=xs) (ys:=ys) (p:=p.2) (q:=q.2) a x (by simpa using h.2)
   (by rw[rA] at m;exact m) (by rw[rA] at n;exact n)
  simp only[aok,h.1,not_false_eq_true,ck,ne_eq,bW,s,u,b1,run_equalIn_int _ _ _ _ _ _ _ y];show Sem.run P (if(!((p.1:Z)==(q.1:Z)))=bp then pure bq else aok (d+1) xs ys fs) w=_;cases l:((p.1:Z)==(q.1:Z)) with
  |true=>
   rw[ar ac,D];show _=ap7 (((p.1:Z)==(q.1:Z))&&tJ e p.2 q.2) w;rw[l,anB]
  |false=>
   rw[au ac];show _=ap7 (((p.1:Z)==(q.1:Z))&&tJ e p.2 q.2) w;rw[l,ao5];rfl
 |.int _,_,_,_,_,_,_,_,a,_,_,_,_=>by cases a
 |.bool,_,_,_,_,_,_,_,a,_,_,_,_=>by cases a
 |.str,_,_,_,_,_,_,_,a,_,_,_,_=>by cases a
 |.a8 _ _,_,_,_,_,_,_,_,a,_,_,_,_=>by cases a
 |.ptr _ _,_,_,_,_,_,_,_,a,_,_,_,_=>by cases a
 |.osl _,_,_,_,_,_,_,_,a,_,_,_,_=>by cases a
 |.optr _,_,_,_,_,_,_,_,a,_,_,_,_=>by cases a
 |.st _,_,_,_,_,_,_,_,a,_,_,_,_=>by cases a
 |.eI,_,_,_,_,_,_,_,a,_,_,_,_=>by cases a
 |.mp _,_,_,_,_,_,_,_,a,_,_,_,_=>by cases a
 |.fj _ _,_,_,_,_,_,_,_,a,_,_,_,_=>by cases a
 |.fn _ _,_,_,_,_,_,_,_,a,_,_,_,_=>by cases a
theorem XN (o:ic.ae E C) {H:bQ} {w:bz} (b:E3 ic (aX i.g) H=Y (a,w)):e8 E C H i (λco=>co=⟨(a,.val .bool w)::i.g,i.h⟩):=by
 unfold E3 at b;split at b
 case h_2=>cases b
 rename_i R c s u d5 ap a0;split at b
 case h_2=>cases b
 rename_i cs e I d7 ds B U V;cases j:eY c ic.eq&&(Ba e&&(bd cs (.st e)&&gG ic.n ic.pin R)) with
 |false=>rw[j] at b;cases b
 |true=>
 rw[j,bF] at b;obtain⟨J,a3,b⟩:=fO.1 b;cases b;simp only[cF] at j;obtain⟨L,M,N,O⟩:=j;rw[o.1] at B;have am:=(E.ok c _ B).lay N;have an:=E.eqok c (by rw[<-o.2.2.2.1.2.2.2.2.2];exact ht.1 L);cases kD a3;obtain⟨_,dl,A,d6,ax,d0,d1,d2,r,bx,d3⟩:=am;obtain⟨al,S,ad,z,T⟩:=an;rw[r] at z;obtain rfl:A=ad:=(by simpa using z);rintro f k ⟨cv,d4,c2,m⟩ next c1 dg
 have p:=m.aX s;have q:=m.aX u;rw[U] at p;rw[V] at q;obtain⟨v1,F⟩:∃l,l=f.eval s:=⟨_,bn⟩;obtain⟨fb,G⟩:∃l,l=f.eval u:=⟨_,bn⟩;rw[<-F] at p;rw[<-G] at q;cases p with|val ce=>cases q with|val ci=>
 rename_i x y;have a4:f.eval s=.agg x.toArray:=F.symm;have bl:f.eval u=.agg y.toArray:=G.symm;have D:E.P.fieldsOf c=A:=(by unfold Program.fieldsOf;rw[r]);have av:(amo 10000 c (.agg x.toArray) (.agg y.toArray)).run E.P k=.ok (tJ e I J) k:=(by rw[run_equalIn_struct k 9999 c _ _ (by rw[D];exact r) al,D];exact OW (t:=e) (off:=0) (d:=9998) M bx T (by rw[np];exact ce) (by rw[np];exact ci));refine anC (Q:=λK bs=>K=.val .bool (tJ e I J)/\bs=[]) m (.pure (v:=.bool _) (by simp only[bM,a0,a4,bl,bW,run_eqGuard_agg k _ _ _ _ _ _ S,b1,run_eql_struct,av];rfl) (.bool _) ⟨bn,bn⟩) ap (gG.ok o O) ?_;grind
theorem PI (j:ic.ae E C) {p:bT bQ} {m:bQ} {q:aR->bu A} {s:A} (k:p[a]?=Y m) (l:lh p i m bp) (c:i1 ic i m q=Y s) (D:∀d,q d=Y s->iJ E C p f d u):iJ E C p (a::f) i u:=
by
 unfold i1 at c;split at c
 ·rename_i o H y b;obtain⟨J,x,c⟩:=eV.1 c;refine amW k l ((agL j b x).mono (λd e=>?_));grind
 split at c
 ·rename_i o n b;have w:BW ic (aX i.g) i.h m=Y (o,n)\/E3 ic (aX i.g) m=Y (o,n):=by
   cases r:BW ic (aX i.g) i.h m with
   |none=>rw[r,Option.none_or] at b;exact .inr b
   |some I=>rw[r,Option.some_or] at b;exact .inl b
  rcases w with b|b
  ·refine amW k l ((aey j b).mono (λd e=>?_));grind
  refine amW k l ((XN j b).mono (λd e=>?_));grind
 split at c
 ·rename_i o y b;obtain⟨z,B⟩:=aaK c;refine amW k l ((aaL j b).mono (λd e=>?_));obtain⟨n,rfl,F⟩:=e;cases n with
  |false=>grind
  |true=>grind
 split at c
 ·rename_i id d G e;exact amW k l ((Xw j e c).mono (λd ⟨t,v,e⟩=>by grind))
 exact amW k l ((OK j c).mono (λd ⟨t,v,e⟩=>by grind))
theorem Bj {l2:ak9} (d:ic.ae E C) {q:bT bQ} {s:aR->bu A} {y:A} {t:aR->Prop} (f:∀k,s k=Y y->iJ E C q l2 k t):∀{p:ak9} {b:aR},lA ic q p b s=Y y->iJ E C q (p++l2) b t
 |[],b,a=>f _ a
 |i::p,b,a=>by
  simp only[lA] at a;split at a
  ·cases a
  rename_i H j;split at a
  ·rename_i z;exact PI d j (by grind [lh]) a (λk c=>Bj d f c)
  rename_i G l z;split at a
  case h_2=>cases a
  rename_i v u D x;split at a
  case h_3=>cases a
  case h_2=>
   rename_i I B;cases c:gG ic.n ic.pin u with
   |false=>grind
   |true=>
   rw[c] at a;have o:=gG.ok d c;refine iJ.skip j x o ?_ (Bj d f a);grind [lh]
  rename_i m B;cases c:gG ic.n ic.pin u with
  |false=>grind
  |true=>
  rw[c] at a;have o:=gG.ok d c;simp only[bF] at a;split at a
  ·rename_i w;obtain rfl:m=l:=(by grind);have r:∀e,gt (⟨(v,.val .bool m)::b.g,b.h⟩:aR).g e=gt b.g e:=λe=>by
    grind [ju]
   refine iJ.same r bn (PI d j ?_ a (λk c=>Bj d f c));grind [lh]
  rename_i w;have F:m=!l:=by cases m<;>cases l<;>first|rfl|cases w
  have r:∀e,gt (⟨(v,.val .bool (!l))::b.g,b.h⟩:aR).g e=gt b.g e:=λe=>(by grind [ju]);refine iJ.same r bn (iJ.skip j x o ?_ (Bj d f a));grind [lh]
theorem YZ (h:ic.ae E C) {c:bT bQ} {b:aR->bu A} {d:A} (g:∀a,b a=Y d->u a) (e:lA ic c f i b=Y d):iJ E C c f i u:=by have:=Bj (l2:=[]) h (λa j=>iJ.nil (g a j)) e;grind
end
end
structure kV (s t:aR):Prop where
 g:∀k,gt s.g k=gt t.g k
 h:∀id,aq s.h id=aq t.h id
def kV.refl (a:aR):kV a a:=⟨λ_=>rfl,λ_=>rfl⟩
def kV.symm {c d:aR} (b:kV c d):kV d c:=⟨λa=>(b.g a).symm,λa=>(b.h a).symm⟩
theorem kV.trans {d e f:aR} (b:kV d e) (c:kV e f):kV d f:=⟨λa=>(b.g a).trans (c.g a),λa=>(b.h a).trans (c.h a)⟩
def cK.u4 (a:cK) (e:aR) (b:X):gt (a.app e).g b=match a.d with
 |some (c,f)=>if c=b then f else fS a.S a.keep (gt e.g b)
 |none=>fS a.S a.keep (gt e.g b):=by
 obtain⟨c,h,i,k⟩:=a;cases c with
 |none=>
  show gt (og h i e.g) b=_;rw[tT,qU]
 |some j=>
  obtain⟨c,f⟩:=j;show gt ((c,f)::og h i e.g) b=_;rw[ju,tT,qU]
theorem cK.tc (a:cK) (b:aR) (id:X):aq (a.app b).h id=(aq a.put id).or (if id∈a.S then bo else aq b.h id):=by show aq (a.put++r7 a.S b.h) id=_;rw[ya,k4,nG]
def kV.app {c t:aR} (b:kV c t) (a:cK):kV (a.app c) (a.app t):=
 ⟨λd=>by rw[cK.u4,cK.u4,b.g],λd=>by rw[cK.tc,cK.tc,b.h]⟩
def gR.seq {a:e7} {c:aR} {d:ew} (b:kV i c) (e:gR a i d v):gR a c d v:=e.less (λf=>.inr (b.g f).symm) (λid=>(b.h id).symm)
def EW:bu (X×ak)->ak5->bz
 |some b,Y a=>bH b.1 a
 |none,bo=>bp
 |_,_=>bq
def um:ak->bz
 |.dead=>bq
 |_=>bp
def qa (b c:ak9):bz:=b.all λa=>eY a c
theorem qa.ok (b:qa f w=bp):∀a∈f,a∈w:=λa c=>ht.1 (g7.1 b a c)
def p9 (a:ak9):ak->bz
 |.ref id []=>eY (id+500000) a
 |_=>bq
def yr:Op->bz
 |.move _=>bp
 |_=>bq
def Fp:X->bm a6->bu (X×bm a6)
 |k,.snd::a=>Fp (k+1) a
 |k,.fst::a=>Y (k,a)
 |_,_=>bo
def ym:bm a6->bu (X×bm a6)
 |.deref::.unst::a=>Fp 0 a
 |_=>bo
def tM (q:bm a6):ak5:=match q with
 |[]=>Y 1
 |[.deref]=>Y 2
 |q=>match ym q with
  |some (a,[])=>Y (2*a+4)
  |some (a,_::_)=>Y (2*a+5)
  |none=>bo
def rW:ak->bu ej
 |.ref id a=>match tM a with
  |some b=>Y (id,b)
  |none=>bo
 |.addr id a=>match tM a with
  |some b=>Y (id,b)
  |none=>bo
 |.app id a _ _ d=>match eY id d,ym a with
  |false,Y (c,_)=>Y (id,2*c+5)
  |_,_=>bo
 |_=>bo
def tW (b:ak9) (a:ak):bz:=match rW a with
 |some (id,d)=>cb id 500000&&(eY (id+1000000*d) b&&a.ids.all λc=>bH c id||eY c b)
 |none=>bq
def yQ (b:bm a6) (a:X):bz:=(bH a 1&&od b)||((bH a 2&&od b.tail&&(match b with|.deref::_=>bp|_=>bq))||match ym b with
 |some (c,d)=>b2 4 a&&(!(bH (a/2) (c+2))||(bH (a %2) 0&&od d))
 |none=>bq)
def tb (a:bL->ak) (b:bQ):bu (X×bm a6):=match b.op with
 |.call {callee:=.builtin .append,args:=xs,argTypes:=_}=>match xs.toList with
  |[x,_]=>match a x with
   |.ref id (d::c)=>Y (id,d::c)
   |_=>bo
  |_=>bo
 |_=>bo
def K8 (c:ak9) (b:bL->ak) (d:bQ):bz:=c.all λa=>cb a 1000000||(match tb b d with
 |some (id,e)=>bH (a %1000000) (id+500000)&&(cb id 500000&&yQ e (a/1000000))
 |none=>bq)
def Zr (a:ak9) (c:bm (X×bm a6)) (b:ak9):bz:=b.all λid=>cb id 500000&&((eY id a&&(eY (id+500000) a||lD c (.ref id [])))||eY (id+1500000) a)
def CS:ak->bz
 |.fu b=>b.all um
 |a=>um a
def pa (op:Op) (b:ak9) (a:ak):bz:=match op with
 |.extract _ d=>match a with
  |.fu e=>match e[d]? with
   |some c=>um c&&(qa c.ids b||p9 b c)
   |none=>bq
  |_=>bq
 |op=>CS a&&(qa a.ids b||((yr op&&p9 b a)||tW b a))
def sc (c e:ak9) (g:bL->ak) (f:bQ) (b:cK):bz:=
 EW b.d f.dst&&(f.op.operands.toList.all λh=>pa f.op c (g h))&&Zr e b.keep b.S&&(b.put.all λa=>cb a.1 500000&&(eY a.1 e||eY (a.1+1500000) e))&&((match b.d with|some a=>qa a.2.ids c||(p9 c a.2||tW c a.2)|none=>bp)&&K8 e g f)
theorem rX {e:Type} (c:bz) (d:bu b) (a:b->bu e):(bif c then d else bo).bind a=bif c then d.bind a else bo:=by grind
theorem agv (tt:bm (bE×ah)) (d:bm (X×aE)) (c:bE) (f e:ak) (a:cK->bu b):sE tt d c f e a=(sE tt d c f e Y).bind a:=by
 unfold sE;split
 ·rfl
 split
 case h_2=>rfl
 split
 ·rfl
 rw[rX];congr 1;split
 ·grind
 ·grind
 grind
theorem Kr (tt:bm (bE×ah)) (d:bm (X×aE)) (c:bE) (g e f:ak) (a:cK->bu b):o8 tt d c g e f a=(o8 tt d c g e f Y).bind a:=by
 unfold o8;split
 case h_2=>rfl
 split
 case h_2=>rfl
 split
 case h_2=>rfl
 split
 case h_2=>rfl
 grind
theorem aan (tt:bm (bE×ah)) (e:bm (X×aE)) (d:X) (c:bE) (g f:ak) (a:cK->bu b):sp tt e d c g f a=(sp tt e d c g f Y).bind a:=by
 unfold sp;split
 case h_2=>rfl
 split
 case h_2=>rfl
 split
 case h_2=>rfl
 split
 case h_2=>rfl
 split
 case h_2=>rfl
 grind
theorem XK (tt:bm (bE×ah)) (d:bm (X×aE)) (c:bE) (g e f:ak) (a:cK->bu b):sa tt d c g e f a=(sa tt d c g e f Y).bind a:=by
 unfold sa;split
 case h_2=>rfl
 rw[rX,Kr]
theorem aah (tt:bm (bE×ah)) (d:bm (X×aE)) (c:bE) (f e:ak) (a:cK->bu b):so tt d c f e a=(so tt d c f e Y).bind a:=by
 unfold so;split
 case h_2=>rfl
 split
 case h_2=>rfl
 split
 case h_2=>rfl
 split
 case h_2=>rfl
 grind
theorem VQ (tt:bm (bE×ah)) (d:bm (X×ah)) (f:bm (X×aE)) (e:X) (c:bE) (g h:ak) (a:cK->bu b):pD tt d f e c g h a=(pD tt d f e c g h Y).bind a:=by
 unfold pD;split
 ·rfl
 split
 ·split
  case h_2=>rfl
  rw[rX];congr 1;split
  ·grind
  grind
 ·split
  case h_2=>rfl
  split
  case h_2=>rfl
  grind
 ·split
  case h_2=>rfl
  grind
 ·grind
 rfl
theorem VT (tt:bm (bE×ah)) (d:bm (X×ah)) (f:bm (X×aE)) (e:X) (c:bE) (g h:ak) (a:cK->bu b):oU tt d f e c g h a=(oU tt d f e c g h Y).bind a:=by
 unfold oU;split
 ·unfold zU;split
  case h_2=>rfl
  split
  case h_2=>rfl
  grind
 grind [VQ]
theorem W2 (tt:bm (bE×ah)) (e:bm (X×aE)) (d:X) (c:bE) (f g:ak) (a:cK->bu b):rY tt e d c f g a=(rY tt e d c f g Y).bind a:=by
 unfold rY;split
 ·rfl
 split
 ·split
  case h_2=>rfl
  grind
 ·split
  case h_2=>rfl
  grind
 rfl
theorem We (tt:bm (bE×ah)) (d:bm (X×ah)) (g:bm (X×aE)) (f:bL->ak) (e:X) (c:bE) (h:bm (X×bL)) (a:cK->bu b):th tt d g f e c h a=(th tt d g f e c h Y).bind a:=by
 unfold th;split
 ·rfl
 split
 ·rw[rX];congr 1;split
  ·grind
  rfl
 rw[rX];congr 1;split
 ·rfl
 split
 ·grind
 rfl
theorem Wh (tt:bm (bE×ah)) (d:bm (X×ah)) (f:bm (X×aE)) (e:X) (c:bE) (g:ak) (a:cK->bu b):u9 tt d f e c g a=(u9 tt d f e c g Y).bind a:=by
 unfold u9;split
 ·split
  ·grind
  ·grind
  rfl
 rfl
theorem Wl (tt:bm (bE×ah)) (d:bm (X×ah)) (g:bm (X×aE)) (f:bL->ak) (e:X) (c:bE) (h:X) (i:bm (X×bL)) (a:cK->bu b):tk tt d g f e c h i a=(tk tt d g f e c h i Y).bind a:=by
 unfold tk;split
 ·grind
 rfl
theorem A2 {e:gZ} (c:bL->ak) (d:bm (X×aE)) (f:bQ) (a:cK->bu b):al e c d f a=(al e c d f Y).bind a:=by
 unfold al;split
 ·split
  ·grind [agv]
  ·grind [Kr]
  ·grind [Kr]
  ·grind [XK]
  ·grind [aah]
  rfl
 rw[rX];congr 1;split
 ·grind
 ·split
  case h_2=>rfl
  split
  ·rfl
  simp_all [oc,Option.bind_assoc,rX,aI]
 ·split
  case h_2=>rfl
  rw[rX];grind [VT]
 ·grind [W2]
 ·split
  ·rfl
  ·rfl
  ·rfl
  ·grind
  grind
 ·grind [We]
 ·grind [aan]
 ·grind [Wh]
 ·grind [Wl]
 grind
theorem Xr {e:gZ} (c:bL->ak) (d:bm (X×aE)) (f:bQ) (a:cK->bu b):kG e c d f a=(kG e c d f Y).bind a:=by
 unfold kG;split
 ·grind [A2]
 rw[rX];congr 1;refine(A2 _ _ _ _).trans (Eq.trans ?_ (b3 (λg=>bB g a) (A2 _ _ _ _)).symm);grind
theorem Pq:∀{d:bm a6} {b a:X} {e:bm a6},Fp b d=Y (a,e)->b<=a/\d=bJ (a-b) .snd++.fst::e
 |[],_,_,_,c=>by cases c
 |s::d,b,a,e,c=>by
  cases s<;>simp only[Fp] at c<;>first|(cases c;done)|skip
  ·simp_all
  obtain⟨g,f⟩:=Pq c;refine⟨aa,?_⟩;rw[(aa:a-b=(a-(b+1))+1),List.replicate_succ,kT,<-f]
theorem Fq {c:bm a6} (b:ym j=Y (a,c)):j=.deref::.unst::(bJ a .snd++.fst::c):=by
 unfold ym at b;split at b
 ·rename_i j;have:=(Pq b).2;grind
 grind
def IZ:∀{j k:X} {r r':bm a6},j≠k->lu (bJ j .snd++.fst::r) (bJ k .snd++.fst::r')=bp
 |0,0,_,_,a=>absurd rfl a
 |0,k+1,_,_,_=>rfl
 |j+1,0,_,_,_=>rfl
 |j+1,k+1,r,r',a=>IZ (j:=j) (k:=k) (r:=r) (r':=r') (λb=>a (by rw[b]))
def PY:∀{j:X} {r:bm a6},hq (bJ j .snd++.fst::r) (bJ j .snd++[.fst])=od r
 |0,r=>by cases r<;>rfl
 |j+1,r=>PY (j:=j) (r:=r)
def PX (a:bm a6):hq a []=od a:=by cases a<;>rfl
def aed (c:tM j=Y a):(a=1↔j=[])/\(a=2↔j=[.deref])/\(4<=a->∃d e,ym j=Y (d,e)/\((e=[]/\a=2*d+4)\/(e≠[]/\a=2*d+5)))/\(a=1\/a=2\/4<=a):=by
 unfold tM at c;split at c
 ·cases c;simp
 ·cases c;simp
 rename_i g h;split at c
 ·rename_i d f;cases c;refine⟨⟨λb=>by omega,λb=>absurd b g⟩,⟨λb=>by omega,λb=>absurd b h⟩,λ_=>⟨d,[],f,.inl ⟨bn,bn⟩⟩,aa⟩
 ·rename_i d i e f;cases c;refine⟨⟨λb=>by omega,λb=>absurd b g⟩,⟨λb=>by omega,λb=>absurd b h⟩,λ_=>⟨d,i::e,f,.inr ⟨ac,bn⟩⟩,aa⟩
 cases c
def aee {i:bm a6} (b:yQ j a=bp) (s:tM i=Y a):hq j i=bp:=by
 obtain⟨l,m,n,w⟩:=aed s;unfold yQ at b;rcases Cs.1 b with b|b
 ·obtain⟨c,f⟩:=sM.1 b;rw[l.1 (fH c),PX];exact f
 rcases Cs.1 b with b|b
 ·obtain⟨b,g⟩:=sM.1 b;obtain⟨c,f⟩:=sM.1 b;rw[m.1 (fH c)];cases j with
  |nil=>cases g
  |cons v j=>
   cases v<;>first|(cases g;done)|skip
   show hq j []=bp;rw[PX];exact f
 split at b
 ·rename_i d k t;obtain⟨o,b⟩:=sM.1 b;obtain⟨h,u,r,q⟩:=n (g1 o);rw[Fq r,Fq t];show hq (bJ d .snd++.fst::k) (bJ h .snd++.fst::u)=bp;by_cases c:d=h
  ·subst c;rcases q with⟨rfl,p⟩|⟨x,p⟩
   ·have al:a/2=d+2:=aa;have e:a %2=0:=aa;rw[al,e] at b;have:od k=bp:=(by simpa using b);rw[PY,this]
   have al:a/2=d+2:=aa;have e:a %2=1:=aa;rw[al,e] at b;simp at b
  exact IY (IZ c)
 cases b
theorem aec {id:X} (b:yQ j a=bp) (i:rW d=Y (id,a)) (n:∀c∈d.ids,c=id\/c∉f):kI f [(id,j),(id,[])] d=bp:=by
 have z:∀h,tM h=Y a->hq j h=bp:=λh p=>aee b p;have v:∀g:X,bH g g=bp:=anv;unfold rW at i;split at i
 ·grind [kI,lD]
 ·grind [kI,lD,JO]
 ·rename_i g h B A l;split at i
  case h_2=>cases i
  rename_i k t x o;cases i;have w:lu j h=bp:=by
   unfold yQ at b;rcases Cs.1 b with b|b
   ·have:=fH (sM.1 b).1;omega
   rcases Cs.1 b with b|b
   ·have:=fH (sM.1 (sM.1 b).1).1;omega
   split at b
   ·rename_i c s q;obtain⟨_,b⟩:=sM.1 b;rw[Fq o,Fq q];show lu (bJ c .snd++.fst::s) (bJ k .snd++.fst::t)=bp;by_cases e:c=k
    ·subst e;have al:(2*c+5)/2=c+2:=aa;have m:(2*c+5) %2=1:=aa;rw[al,m] at b;simp at b
    exact IZ e
   cases b
  have y:(l.all λg=>!(eY g f))=bp:=g7.2 λu r=>by
   rcases n u (gx _ r) with e|e
   ·grind [ht]
   grind [ht]
  show((l.all λg=>!(eY g f))&&([(id,j),(id,[])].any λe=>bH e.1 id&&lu e.2 h))=bp;grind
 grind
section
theorem Ko {g B:bL->ak} {b:bm (X×bL)} (d:∀e∈b,g e.2=B e.2):∀(f:ah) (a:X),qY g b f a=qY B b f a
 |.pr j h,a=>by
  simp only[qY,Ko d h (a+1)];cases i:mF b a with
  |none=>rfl
  |some c=>
   have:g c=B c:=d (a,c) (Bq i);grind
 |.nil,_=>rfl
 |.int _,_=>rfl
 |.bool,_=>rfl
 |.str,_=>rfl
 |.a8 _ _,_=>rfl
 |.ptr _ _,_=>rfl
 |.osl _,_=>rfl
 |.optr _,_=>rfl
 |.st _,_=>rfl
 |.eI,_=>rfl
 |.mp _,_=>rfl
 |.fj _ _,_=>rfl
 |.fn _ _,_=>rfl
theorem QI {h:bm (X×aE)} {g B:bL->ak} {b:bm (X×bL)} (d:∀e∈b,g e.2=B e.2):∀(f:ah) (a:X),nI h g b f a=nI h B b f a
 |.pr k i,a=>by
  simp only[nI,QI d i (a+1)];cases j:mF b a with
  |none=>rfl
  |some c=>
   have:g c=B c:=d (a,c) (Bq j);grind
 |.nil,_=>rfl
 |.int _,_=>rfl
 |.bool,_=>rfl
 |.str,_=>rfl
 |.a8 _ _,_=>rfl
 |.ptr _ _,_=>rfl
 |.osl _,_=>rfl
 |.optr _,_=>rfl
 |.st _,_=>rfl
 |.eI,_=>rfl
 |.mp _,_=>rfl
 |.fj _ _,_=>rfl
 |.fn _ _,_=>rfl
section
variable {tt:bm (bE×ah)} {an:bm (X×ah)} {h A:bm (X×aE)} {d:X} {g B:bL->ak}
theorem Gf {a:ev} (c:∀b∈a.toArray,g b=B b):a.map g=a.map B:=by
 cases a with
 |none=>rfl
 |some b=>grind
theorem XR {f:Op} (b:∀a∈f.operands,g a=B a):hg tt an h g d f=hg tt an h B d f:=by
 cases f
 case build T ps=>
  have:∀e∈ps.toList,g e.2=B e.2:=λe m=>b e.2 (by simp only[bU,zF,eS];grind);grind [Ko,hg,z2]
 case buildSlice T n ps=>
  have:∀e∈ps.toList,g e.2=B e.2:=λe m=>b e.2 (by simp only[bU,zF,eS];grind);grind [alA,hg,xD]
 case slice T a j hi p=>
  simp only[bU] at b;have t:g a=B a:=b a ac;have u:j.map g=j.map B:=Gf (λi o=>b i (by grind));have v:hi.map g=hi.map B:=Gf (λi o=>b i (by grind));cases p
  ·grind [hg]
  rfl
 case makeMap T q=>
  cases q<;>rfl
 case makeFunc l s cs=>
  cases l<;>try rfl
  grind [alA,alY,hg,bU]
 case call c=>
  obtain⟨r,k,y⟩:=c;have w:∀a∈k.toList,g a=B a:=λa x=>b a (by grind [alY,bU,alP]);clear b;simp only[hg];split
  ·grind
  ·grind [alA]
  ·grind [alA]
  rfl
 all_goals (simp only[bU] at b;simp only[hg])
 all_goals (first|rfl|(simp_all;done))
theorem XU {e:Op} (b:∀a∈e.operands,g a=B a):k0 tt an h g d e=k0 tt an h B d e:=by
 cases e
 case slice T a j hi l=>
  simp only[bU] at b;have i:g a=B a:=b a ac;have n:j.map g=j.map B:=Gf (λf k=>b f (by grind));have o:hi.map g=hi.map B:=Gf (λf k=>b f (by grind));cases l
  ·simp_all [k0]
  rfl
 case call c=>
  grind [alY,al,k0,bU,alP]
 case unOp m T a=>
  have i:g a=B a:=b a (by simp[bU]);cases m<;>simp only[k0,i]
 all_goals (simp only[bU] at b;simp only[k0])
 all_goals (first|rfl|(simp_all;done))
theorem OG {k:gZ} {n:bQ} {r:cK->bu b} (c:∀j∈n.op.operands,g j=B j):al k g h n r=al k B h n r:=by
 have x:=λ(d:X)=>XU (tt:=k.tt) (an:=k.an) (h:=h) (d:=d) c;have w:=λ(d:X)=>XR (tt:=k.tt) (an:=k.an) (h:=h) (d:=d) c;unfold al;cases y:n.dst with
 |none=>
  simp only;split
  ·grind [bU]
  ·grind [bU]
  ·grind [bU]
  ·grind [bU]
  ·rename_i i t e;rw[e] at c;split
   ·rename_i j u l s al _;have p:∀a∈i.toList,g a=B a:=λa m=>c a (by grind [alY,bU,alP]);grind
   rfl
  rfl
 |some d=>
  simp only;congr 1;split
  ·grind [bU]
  ·rename_i a i _ e;rw[e] at c;have:i.toList.map g=i.toList.map B:=iU λj p=>c j (by grind [alY,bU,alP]);have m:g a=B a:=c a (by simp[bU,alP]);rw[this,m]
  ·rename_i i t e;rw[e] at c;split
   ·rename_i j u l s al _;have p:∀a∈i.toList,g a=B a:=λa m=>c a (by grind [alY,bU,alP]);grind
   rfl
  ·rename_i i t e;rw[e] at c;split
   ·rename_i j u l s al _;have p:∀a∈i.toList,g a=B a:=λa m=>c a (by grind [alY,bU,alP]);grind
   rfl
  ·grind [bU]
  ·rename_i l q e;rw[e] at c;have o:∀f∈q.toList,g f.2=B f.2:=λf v=>c f.2 (by simp only[bU,zF,eS];grind);simp only[th,Ko o,QI o]
  ·grind [bU]
  ·grind [bU]
  ·rename_i l z q e;rw[e] at c;have o:∀f∈q.toList,g f.2=B f.2:=λf v=>c f.2 (by simp only[bU,zF,eS];grind);grind [alA,tk]
  grind
def gv (h A:bm (X×aE)) (a:ak):Prop:=∀id∈a.ids,aq h id=aq A id
def aem (a:gv h A t):su h t=su A t:=by
 cases t with
 |ref id b=>simp only[su,a id (by simp[bS])]
 |_=>rfl
theorem ael {id:X} (a:su h t=Y (id,j)):id∈t.ids:=by
 unfold su at a;split at a
 ·grind [bS]
 ·grind [bS]
 grind
theorem agw {a:ak} {d:cK->bu b} (e:gv h A a) (g:gv h A t):sE tt h c a t d=sE tt A c a t d:=by
 unfold sE;rw[<-aem e];split
 ·rfl
 rename_i id j f;rw[e id (ael f)];cases t with
 |ref i k=>simp only[g i (by simp[bS])]
 |_=>rfl
theorem Uz (a:gv h A t):lK h k t=lK A k t:=by
 cases t with
 |ref id b=>simp only[lK,a id (by simp[bS])]
 |view id b e d=>simp only[lK,a id (by simp[bS])]
 |val c g=>cases c<;>rfl
 |eB f=>unfold lK;grind
 |_=>rfl
theorem VR {e:ak} {j:cK->bu b} (f:gv h A e) (k:gv h A t) (n:aq h d=aq A d):pD tt an h d c e t j=pD tt an A d c e t j:=by
 unfold pD;split
 ·rfl
 have g:∀i:ah,lK h i t=lK A i t:=λi=>Uz k;cases e with
 |ref id a=>
  cases a with
  |nil=>
   simp only[f id (by simp[bS]),g];cases t with
   |ref o l=>
    cases l with
    |nil=>simp only[k o (by simp[bS])]
    |cons m l=>rfl
   |_=>rfl
  |cons m a=>simp only[f id (by simp[bS]),g,n]
 |view id a q p=>
  cases a with
  |nil=>simp only[f id (by simp[bS]),g]
  |cons m a=>rfl
 |eB r=>grind
 |_=>rfl
def ad1 {a:ak} (d:gv h A t):ww h a t=ww A a t:=by
 unfold ww;cases a with
 |ref id b=>
  cases b with
  |nil=>rfl
  |cons f b=>
   cases t with
   |ref e c=>
    cases c with
    |nil=>simp only[d e (by simp[bS])]
    |cons g c=>rfl
   |_=>rfl
 |_=>rfl
theorem VU {a:ak} {e:cK->bu b} (g:gv h A t) (i:gv h A a) (f:aq h d=aq A d):oU tt an h d c t a e=oU tt an A d c t a e:=by
 unfold oU;rw[ad1 i,VR g i f];split
 ·rename_i id l k m j;obtain⟨rfl,_,_⟩:=K5 j;unfold zU;rw[g id (by simp[bS]),f]
 rfl
theorem W3 {e:ak} {g:cK->bu b} (i:gv h A e) (k:gv h A t):rY tt h d c e t g=rY tt A d c e t g:=by
 unfold rY;split
 ·rfl
 have j:∀f:ah,lK h f t=lK A f t:=λf=>Uz k;cases e with
 |ref id a=>
  cases a with
  |nil=>simp only[i id (by simp[bS]),j]
  |cons l a=>rfl
 |view id a n m=>
  cases a with
  |nil=>simp only[i id (by simp[bS]),j]
  |cons l a=>rfl
 |_=>rfl
theorem HX (b:gv h A t):qG an h d t=qG an A d t:=by
 cases t with
 |ref id a=>
  cases a with
  |nil=>simp only[qG,b id (by simp[bS])]
  |cons c a=>rfl
 |view id a f e=>
  cases a with
  |nil=>simp only[qG,b id (by simp[bS])]
  |cons c a=>rfl
 |eB t=>unfold qG;grind
 |_=>rfl
def ad8 (b:gv h A t):yO h k t=yO A k t:=by
 cases t with
 |ref id a=>
  cases a with
  |nil=>simp only[yO,b id (by simp[bS])]
  |cons c a=>rfl
 |_=>rfl
def QJ {b:bm (X×bL)} (c:∀i∈b,gv h A (g i.2)):∀(d:ah) (a:X),nI h g b d a=nI A g b d a
 |.pr k e,a=>by
  simp only[nI,QJ c e (a+1)];cases f:mF b a with
  |none=>rfl
  |some j=>simp only[ad8 (c (a,j) (Bq f))]
 |.nil,_=>rfl
 |.int _,_=>rfl
 |.bool,_=>rfl
 |.str,_=>rfl
 |.a8 _ _,_=>rfl
 |.ptr _ _,_=>rfl
 |.osl _,_=>rfl
 |.optr _,_=>rfl
 |.st _,_=>rfl
 |.eI,_=>rfl
 |.mp _,_=>rfl
 |.fj _ _,_=>rfl
 |.fn _ _,_=>rfl
def WK (b:gv h A t):vf h k t=vf A k t:=by
 cases t with
 |ref id a=>
  cases a with
  |nil=>simp only[vf,b id (by simp[bS])]
  |cons c a=>rfl
 |_=>rfl
theorem N4 {c:ah}:∀{l:bm ak},(∀a∈l,gv h A a)->vg h c l=vg A c l
 |[],_=>rfl
 |x::d,b=>by simp only[vg,WK (b x ac),N4 (l:=d) (λa e=>b a (by grind))]
def HV {v:ak} (a:gv h A v):n5 h f v k=n5 A f v k:=by
 cases v with
 |ref id b=>simp only[n5,a id (by simp[bS])]
 |_=>rfl
theorem ak.Ki {f:X} {a:bm ak} {id:X} (c:t∈a) (e:id∈t.ids):id∈(ak.di f a).ids:=by obtain⟨b,d,rfl⟩:=g8.1 c;exact ak.BA (l:=a) (i:=b) (cE d) e
def NI (a:gv h A t):vc h f t k=vc A f t k:=by
 unfold vc;split
 ·rename_i b d;rw[HV (v:=b) (λid c=>a id (by simpa[bS] using c))]
 exact HV a
def NK {c:ak9}:∀{l:bm ak} {b:ah},(∀a∈l,gv h A a)->tm h c l b=tm A c l b
 |[],b,_=>by cases b<;>rfl
 |a::l,b,d=>by
  cases b<;>first|rfl|skip
  simp only[tm,NI (d a ac),NK (l:=l) (λa e=>d a (by simp[e]))]
def Wy (a:gv h A t):xE h w t k=xE A w t k:=by
 unfold xE;split
 ·rename_i e b i j;rw[NK (l:=b) (λg c id d=>a id (by
   have:=ak.Ki (f:=e) c d;simpa[bS] using this))]
 exact NI a
theorem Pt {b:ak9}:∀{τs:bm ah} {avs:bm ak},(∀a∈avs,gv h A a)->pR h b τs avs=pR A b τs avs
 |[],[],_=>rfl
 |[],_::_,_=>rfl
 |_::_,[],_=>rfl
 |τ::e,d::as,c=>by simp only[pR,Wy (c d ac),Pt (τs:=e) (avs:=as) (λa f=>c a (by grind))]
theorem tQ {S:ak9}:∀{ps:bm hE} {avs:bm ak},(∀b∈avs,gv h A b)->fY h S ps avs=fY A S ps avs
 |[],[],_=>rfl
 |[],_::_,_=>rfl
 |p::d,[],_=>by cases p<;>rfl
 |.v q::d,e::as,a=>by simp only[fY,HV (a e ac),tQ (ps:=d) (avs:=as) (λb g=>a b (by grind))]
 |.c z r::d,e::as,a=>by
  have f:=tQ (S:=S) (ps:=d) (avs:=as) (λb g=>a b (by grind));cases e with
  |di u i=>
   have:pR h S r i=pR A S r i:=Pt (λb g id t=>a (.di u i) ac id (ak.Ki g t));grind [fY]
  |_=>rfl
 |.m q::d,e::as,a=>by
  have f:=tQ (S:=S) (ps:=d) (avs:=as) (λb g=>a b (by grind));cases e with
  |ref id p=>
   cases p with
   |nil=>simp only[fY,a (.ref id []) ac id (by simp[bS]),f]
   |cons l p=>rfl
  |_=>rfl
 |.o q::d,e::as,a=>by
  have f:=tQ (S:=S) (ps:=d) (avs:=as) (λb g=>a b (by grind));cases e with
  |ref id p=>
   cases p with
   |nil=>simp only[fY,a (.ref id []) ac id (by simp[bS]),f]
   |cons l p=>rfl
  |eB x=>grind [fY]
  |_=>rfl
 |.w B::d,e::as,a=>by
  have f:=tQ (S:=S) (ps:=d) (avs:=as) (λb g=>a b (by grind));cases e with
  |view id p k j=>
   cases p with
   |nil=>simp only[fY,a (.view id [] k j) ac id (by simp[bS]),f]
   |cons l p=>rfl
  |_=>rfl
 |.n::d,e::as,a=>by
  have f:=tQ (S:=S) (ps:=d) (avs:=as) (λb g=>a b (by grind));cases e with
  |eB x=>grind [fY]
  |_=>rfl
 |.s y i::d,e::as,a=>by
  have f:=tQ (S:=S) (ps:=d) (avs:=as) (λb g=>a b (by grind));cases e with
  |ref id p=>grind [fY]
  |view id p k j=>grind [fY]
  |_=>simp only[fY,f]
theorem ZQ (a:gv h A t):v2 tt h c t=v2 tt A c t:=by
 unfold v2;cases t with
 |ref id d=>simp only[a id (by simp[bS])]
 |app id d b i e=>simp only[a id (by simp[bS])]
 |val b j=>cases g4 tt c with|none=>rfl|some f=>cases b<;>rfl
 |eB g=>grind
 |_=>rfl
theorem aau (a:gv h A t):we tt h c t=we tt A c t:=by
 unfold we;cases t with
 |ref id d=>simp only[a id (by simp[bS])]
 |val b f=>cases lC tt c with|none=>rfl|some e=>cases b<;>rfl
 |_=>rfl
def Z1 {a:ak} {b:bz} (d:gv h A t):v8 tt h c t a b=v8 tt A c t a b:=by
 unfold v8;cases t with
 |ref id f=>simp only[d id (by simp[bS])]
 |val e g=>split<;>first|rfl|(cases e<;>rfl)
 |_=>split<;>rfl
theorem aas (a:aq h d=aq A d):yD tt an h d c=yD tt an A d c:=by grind [yD]
theorem Ks {a:cK->bu b} {d e:ak} (f:gv h A t):o8 tt h c t d e a=o8 tt A c t d e a:=by
 unfold o8;cases t with
 |ref id g=>simp only[f id (by simp[bS])]
 |_=>rfl
theorem aao {a:cK->bu b} {e:ak} (f:gv h A t):sp tt h d c t e a=sp tt A d c t e a:=by
 unfold sp;cases t with
 |ref id g=>simp only[f id (by simp[bS])]
 |_=>rfl
theorem XL {a:cK->bu b} {d e:ak} (f:gv h A t):sa tt h c t d e a=sa tt A c t d e a:=by unfold sa;grind [Ks]
theorem aai {a:cK->bu b} {d:ak} (e:gv h A t):so tt h c t d a=so tt A c t d a:=by
 unfold so;cases t with
 |ref id f=>simp only[e id (by simp[bS])]
 |_=>rfl
def Y2 {b:ak} (a:gv h A t):vV tt h c t b=vV tt A c t b:=by
 unfold vV;cases t with
 |ref id d=>simp only[a id (by simp[bS])]
 |view id d g f=>simp only[a id (by simp[bS])]
 |val e j=>cases e<;>rfl
 |eB i=>rfl
 |_=>rfl
theorem ZY (a:gv h A t):v7 tt h c t=v7 tt A c t:=by
 unfold v7;cases t with
 |ref id b=>simp only[a id (by simp[bS])]
 |addr id b=>simp only[a id (by simp[bS])]
 |val d f=>cases d<;>first|rfl|grind
 |eB e=>rfl
 |_=>rfl
theorem Yf (b:gv h A t):vP tt h c t a=vP tt A c t a:=by
 unfold vP;cases t with
 |ref id d=>simp only[b id (by simp[bS])]
 |addr id d=>simp only[b id (by simp[bS])]
 |val e g=>cases e<;>first|rfl|grind
 |eB f=>rfl
 |_=>rfl
def Yh (b:gv h A t):jN.yi tt h c t a=jN.yi tt A c t a:=by
 unfold jN.yi;cases t with
 |ref id e=>simp only[b id (by simp[bS])]
 |val d g=>cases d<;>rfl
 |eB f=>rfl
 |_=>rfl
def aaI (a:gv h A t):wj h t=wj A t:=by
 unfold wj;cases t with
 |ref id c=>simp only[a id (by simp[bS])]
 |val b e=>cases b<;>rfl
 |eB d=>rfl
 |_=>rfl
def agf {b a:bu ak} (d:gv h A t):wL tt h c t b a=wL tt A c t b a:=by
 unfold wL;cases t with
 |ref id f=>simp only[d id (by simp[bS])]
 |val e i=>cases e<;>rfl
 |eB g=>rfl
 |_=>rfl
theorem aad {a:ak} (b:aq h d=aq A d):wa tt an h d c a t=wa tt an A d c a t:=by grind [wa]
theorem VL (a:aq h d=aq A d):xo tt an h d c=xo tt an A d c:=by grind [xo]
theorem XS {e:Op} (b:∀a∈e.operands,gv h A (g a)) (f:aq h d=aq A d):hg tt an h g d e=hg tt an A g d e:=by
 cases e
 case box T a=>grind [hg,z5]
 case buildSlice T n ps=>grind [hg,xD]
 case alloc T=>exact VL f
 case makeSlice T l c=>exact aad f
 case makeMap T p=>
  cases p
  ·exact aas f
  rfl
 case lookup T a k ok=>exact Z1 (b a (by simp[bU]))
 case load T a=>exact ZY (b a (by simp[bU]))
 case nilCheck a=>exact aaI (b a (by simp[bU]))
 case indexAddr T a i=>exact Y2 (b a (by simp[bU]))
 case fieldAddr T a n=>exact Yf (b a (by simp[bU]))
 case field T a n=>exact Yh (b a (by simp[bU]))
 case slice T a u hi o=>
  cases o
  ·exact agf (b a (by simp[bU]))
  rfl
 case call c=>
  obtain⟨q,j,v⟩:=c;have s:∀a∈j.toList,gv h A (g a):=λa t=>b a (by grind [alY,bU,alP]);clear b;simp only[hg];split
  ·grind [aau,ZQ]
  ·rfl
  ·rfl
  rfl
 case makeFunc m r cs=>cases m<;>rfl
 all_goals rfl
theorem XV {n:Op} (j:∀b∈n.operands,gv h A (g b)) (z:aq h d=aq A d):k0 tt an h g d n=k0 tt an A g d n:=by
 cases n
 case lookup f b k ok=>
  have a:=j b (by simp[bU]);simp only[k0];split
  ·rename_i w id e B al r y;rw[r] at a;rw[a id (by simp[bS])]
  rfl
 case makeSlice f l c=>grind [k0]
 case unOp v f b=>cases v<;>rfl
 case indexAddr f b i=>
  have a:=j b (by simp[bU]);simp only[k0];revert a;cases g b with
  |ref id e=>intro a;simp only[a id (by simp[bS])]
  |view id e t s=>
   intro a;cases e with
   |nil=>simp only[a id (by simp[bS])]
   |cons=>rfl
  |val m p=>intro _;cases m<;>rfl
  |_=>intro _;rfl
 case load f b=>
  have a:=j b (by simp[bU]);simp only[k0];revert a;cases g b with
  |ref id e=>intro a;simp only[a id (by simp[bS])]
  |addr id e=>intro a;simp only[a id (by simp[bS])]
  |val m p=>intro _;cases m<;>rfl
  |_=>intro _;rfl
 case slice f b t s u=>
  have a:=j b (by simp[bU]);cases u
  ·simp only[k0];revert a;cases g b with
   |ref id e=>intro a;simp only[a id (by simp[bS])]
   |val m p=>intro _;cases m<;>rfl
   |_=>intro _;rfl
  rfl
 case call c=>
  obtain⟨x,q,C⟩:=c;have o:∀b∈q.toList,gv h A (g b):=λb a=>j b (by grind [alY,bU,alP]);clear j;simp only[k0];split
  ·rename_i b f al _;rw[al] at o;have a:=o b ac;cases g4 tt f with
   |none=>
    revert a;cases g b with
    |ref id e=>intro a;simp only;rw[a id (by simp[bS])]
    |_=>intro _;rfl
   |some w=>
    revert a;cases g b with
    |ref id e=>intro a;simp only;rw[a id (by simp[bS])]
    |_=>intro _;rfl
  rfl
 all_goals rfl
theorem ue {b:Callee} {a:bT bL} {c:bT bE} (d:n∈a.toList):n∈(Op.call {callee:=b,args:=a,argTypes:=c}).operands:=by grind [alY,bU,alP]
theorem OH {t:gZ} {s:bQ} (a:al t g h s Y=Y q) (e:∀l∈s.op.operands,gv h A (g l)) (o:∀d,s.dst=Y d->aq h d=aq A d) (p:∀b∈q.put,aq h b.1=aq A b.1):al t g A s Y=Y q:=by
 unfold al at a|-;cases v:s.dst with
 |none=>
  rw[v] at a;simp only at a|-;split at a
  ·grind [agw,bU]
  ·grind [Ks,bU]
  ·grind [Ks,bU]
  ·grind [XL,bU]
  ·grind [aai,ue]
  omega
 |some d=>
  rw[v] at a;have o:=o d v;simp only at a|-;cases G:gG t.n t.pin d with
  |false=>grind
  |true=>
  rw[G] at a;simp only[bF] at a|-;split at a
  ·omega
  ·rename_i J z _ i;rw[i] at e;split at a
   case h_2=>cases a
   rename_i D x I
   try rw[I]
   try simp only
   have F:∀j∈z.toList.map g++x,gv h A j:=λj k=>by
    rcases g0.1 k with k|k
    ·grind [ue]
    intro id N;exact e J (by simp[bU,alP]) id (by grind [ak.Ki])
   split at a
   ·cases a
   rename_i c K;cases E:bH c.f D with
   |false=>grind
   |true=>
   rw[E] at a;simp only[bF,oc] at a|-;rw[<-tQ F];obtain⟨j,k,a⟩:=eV.1 a;obtain⟨m,H,a⟩:=eV.1 a;simp only[k,H,aI];cases C:n6 d ⟨[],h⟩ (z.toList.map g++x) (gP c.ps j m) (jx c.rs (iP c.ps m)) with
   |false=>grind
   |true=>
   rw[C] at a;have L:n6 d ⟨[],A⟩ (z.toList.map g++x) (gP c.ps j m) (jx c.rs (iP c.ps m))=bp:=(by rw[<-C];unfold n6;congr 1;rw[wZ,g7,g7];cases a;have w:∀b∈jz d (jv (jx c.rs (iP c.ps m))) 0 (jx c.rs (iP c.ps m)),aq h b.1=aq A b.1:=λb w=>p b (by grind);grind);grind
  ·grind [VU,ue]
  ·grind [W3,ue]
  ·rename_i l i;rw[i] at e;have r:=e l (by simp[bU]);revert a r;cases g l with
   |val T S=>grind
   |eB R=>grind [HX]
   |ref id u=>grind [HX]
   |view id u O M=>grind [HX]
   |_=>intro a _;exact a
  ·rename_i B y i;rw[i] at e;have p:∀b∈y.toList,gv h A (g b.2):=λb w=>e b.2 (by simp only[bU,zF,eS];grind);rw[<-a];simp only[th,QJ p,o]
  ·grind [aao,bU]
  ·rename_i B l i;rw[i] at e;have r:=e l (by simp[bU]);rw[<-a];simp only[u9,o];revert r;cases g l with
   |ref id u=>
    intro r;cases u with
    |nil=>simp only[r id (by simp[bS])]
    |cons Q u=>rfl
   |_=>intro _;rfl
  ·rename_i B P y i;rw[i] at e;have p:∀j∈y.toList.map (λb=>g b.2),gv h A j:=λj k=>by
    obtain⟨b,w,rfl⟩:=eS.1 k;exact e b.2 (by simp only[bU,zF,eS];grind)
   rw[<-a];simp only[tk,N4 p,o]
  grind [XV,XS]
end
theorem Uo {d:Op}:∀e∈sH d,e∈d.operands:=by
 intro e b;cases d<;>simp only[sH] at b<;>first|(cases b;done)|skip
 case assign y=>grind [bU]
 case box T y=>grind [bU]
 case build T ps=>grind [bU]
 case buildSlice T n ps=>grind [bU]
 case store T a v=>grind [bU]
 case mapUpdate T a k v=>grind [bU]
 case insert T a k v=>grind [bU]
 case entryStore T a k v=>grind [bU]
 case call c=>
  obtain⟨g,f,h⟩:=c;simp only at b;split at b
  ·exact ue b
  ·exact ue (List.mem_of_mem_drop b)
  grind
theorem Fm {e:alb} {f:X} {g:bL->ak}:∀{a:bm bL},∀id∈m4 e f g a,∃x∈a,g x=.ref id []
 |[],id,h=>by cases h
 |x::a,id,h=>by
  simp only[m4] at h;split at h
  ·rename_i j i;rw[Bool.cond_eq_ite] at h;split at h
   ·rcases fF.1 h with rfl|h
    ·grind
    obtain⟨d,c,b⟩:=Fm id h;grind
   obtain⟨d,c,b⟩:=Fm id h;grind
  obtain⟨d,c,b⟩:=Fm id h;grind
theorem Pp {a:alb} {c:X} {g B:bL->ak}:∀{l:bm bL},(∀x∈l,g x=B x)->m4 a c g l=m4 a c B l
 |[],_=>rfl
 |x::l,b=>by simp only[m4,b x ac,Pp (l:=l) (λd e=>b d (by grind))]
theorem Pn {h A:bm (X×aE)} (c:∀id∈f,aq h id=aq A id) (a:ak):g3 h f a=g3 A f a:=by
 cases a with
 |ref id b=>
  cases b with
  |nil=>
   grind [ht,eY,g3]
  |cons d b=>rfl
 |_=>rfl
theorem Yu {h A:bm (X×aE)} (d:∀id∈f,aq h id=aq A id) (a:ak):i4 h f a=i4 A f a:=by
 by_cases c:∃b,a=.fu b
 ·obtain⟨b,rfl⟩:=c;grind [alA,Pn,i4]
 grind [Jr,Pn]
theorem Pm {h:bm (X×aE)}:∀id∈(g3 h f d).ids,id∈d.ids:=by
 intro id b;rcases m3 h f d with⟨e,c,rfl,_,_,a⟩|⟨a,_⟩|⟨a,_⟩
 ·rw[a] at b;have:(se c).ids=[]:=(by unfold se;split<;>rfl);grind
 ·rw[a] at b;cases b
 grind
def PL {c:ak->ak} (d:∀a,∀id∈(c a).ids,id∈a.ids):∀{b:bm ak} {id:X},id∈amh (b.map c)->id∈amh b
 |[],_,h=>h
 |a::b,id,h=>by simp only[gL,amh,g0] at h|-;exact h.imp (d a id) (PL d)
theorem Yt {h:bm (X×aE)}:∀id∈(i4 h f d).ids,id∈d.ids:=by
 by_cases c:∃a,d=.fu a
 ·obtain⟨a,rfl⟩:=c;exactλid b=>PL (λd=>Pm) b
 grind [Jr,Pm]
theorem Xt {i:gZ} {g B:bL->ak} {h A:bm (X×aE)} {b:bQ} (c:kG i g h b Y=Y q) (o:∀a∈b.op.operands,g a=B a) (n:∀a∈b.op.operands,gv h A (g a)) (t:∀d,b.dst=Y d->aq h d=aq A d) (y:∀l∈q.put,aq h l.1=aq A l.1):kG i B A b Y=Y q:=by
 unfold kG at c|-;rw[<-Pp (λa f=>o a (Uo a f))];split
 ·rename_i j;rw[j] at c;rw[<-OG o];grind [OH]
 rename_i x;split at c
 ·grind
 have j:∀id∈m4 i.qS (vR b) g (sH b.op),aq h id=aq A id:=λid k=>(by obtain⟨a,f,q⟩:=Fm id k;exact n a (Uo a f) id (by grind [bS]));generalize m4 i.qS (vR b) g (sH b.op)=e at c j|-;have r:n8 A e=n8 h e:=(by unfold n8;grind);rw[r];cases s:n8 h e with
 |false=>grind
 |true=>
 rw[s] at c;simp only[bF] at c|-;rw[A2] at c|-;obtain⟨m,p,v⟩:=eV.1 c;have z:m.put=q.put:=(by grind);have w:al i (λa=>i4 A e (B a)) (del e A) b Y=Y m:=by
  rw[<-OG (g:=λa=>i4 h e (g a)) (λa f=>by grind [Yu])];refine OH p (λa f id k=>?_) (λd u=>?_) (λl C=>?_)
  ·rw[nG,nG,n a f id (Yt id k)]
  ·rw[nG,nG,t d u]
  grind [nG]
 grind
end
section
def q6 (D:bT bQ) (a:X):ak9:=match D[a]? with
 |some b=>(b.after.toList.filter (apd .any)).map (·.on)
 |none=>[]
def zd (a:X):cK:=⟨Y (a,.eB bV),[],[],[]⟩
def EY (ic:gZ) {d:Type} (G C:ak9) (a:aR) (c:bQ) (e:cK->bu d):bu d:=
 kG ic (aX a.g) a.h c λb=>bif sc G C (aX a.g) c b then e b else bo
def iX (ic:gZ) (D:bT bQ) (G C:X->ak9) (e:X) (b:aR) (d:cK):Prop:=
 ∃a,D[e]?=Y a/\((lh D b a bp/\kG ic (aX b.g) b.h a Y=Y d/\sc (G e) (C e) (aX b.g) a d=bp)\/(lh D b a bq/\∃c,a.dst=Y c/\gG ic.n ic.pin c=bp/\d=zd c))
def tR (ic:gZ) {k:Type} (D:bT bQ) (G C:X->ak9):ak9->aR->(aR->bu k)->bu k
 |[],a,b=>b a
 |i::e,a,b=>match D[i]? with
  |none=>bo
  |some f=>match f.guard with
   |none=>EY ic (G i) (C i) a f λj=>tR ic D G C e (j.app a) b
   |some (
    l,uH)=>match(D[l]?).bind (·.dst),f.dst with
    |some d,Y c=>match gt a.g d with
     |.val .bool m=>bif gG ic.n ic.pin c then
      (match m==uH with
      |true=>EY ic (G i) (C i) ⟨(d,.val .bool uH)::a.g,a.h⟩ f λj=>tR ic D G C e (j.app ⟨(d,.val .bool uH)::a.g,a.h⟩) b
      |false=>tR ic D G C e ⟨(c,.eB bV)::(d,.val .bool (!uH))::a.g,a.h⟩ b) else bo
     |.eB (.tuple _)=>bif gG ic.n ic.pin c then tR ic D G C e ⟨(c,.eB bV)::a.g,a.h⟩ b else bo
     |_=>bo
    |_,_=>bo
def oQ (ic:gZ) (D:bT bQ) (G C:X->ak9):ak9->aR->aR->Prop
 |[],a,b=>kV a b
 |i::d,a,b=>∃c,iX ic D G C i a c/\oQ ic D G C d (c.app a) b
theorem VP {tt:bm (bE×ah)} {id:X} {f:a6} (b:oU tt l e a c (.ref id (f::j)) d Y=Y q):q.keep=[(id,f::j),(id,[])]/\q.S=[id]/\aq q.put id=aq e id:=by
 have o:∀{h:ak} {g:aE},aq e id=Y g->aq e a=bo->Y (cK.mk (Y (a,h)) [id] [(id,f::j),(id,[])] [(a,⟨.eI,()⟩),(id,g)])=Y q->q.keep=[(id,f::j),(id,[])]/\q.S=[id]/\aq q.put id=aq e id:=(by intro h g i p k;cases k;have m:¬a=id:=λq=>(by grind);exact⟨bn,bn,by rw[eC,ar m,eC,au bn,i]⟩);unfold oU at b;split at b
 ·rename_i r t s u n;obtain⟨al,_,_⟩:=K5 n;cases al;unfold zU at b;split at b
  case h_2=>cases b
  grind [amw]
 unfold pD at b;split at b
 ·cases b
 rename_i v _;simp only at b;split at b
 case h_2=>cases b
 grind [amw]
theorem HT {id:X} (e:tb U h=Y (id,j)):∃d f c g b a,h.op=.call {callee:=.builtin .append,args:=d,argTypes:=f}/\d.toList=[c,g]/\j=b::a/\U c=.ref id (b::a):=by unfold tb at e;grind
theorem OF {ic:gZ} {g:bL->ak} {id:X} {d:bT bL} {o:bT bE} {p:bL} {c:a6} {b:bm a6} (k:h.op=.call {callee:=.builtin .append,args:=d,argTypes:=o}) (m:d.toList=[z,p]) (s:j=c::b) (r:g z=.ref id (c::b)) (a:al ic g e h Y=Y q):q.keep=[(id,j),(id,[])]/\q.S=[id]/\aq q.put id=aq e id:=by
 unfold al at a;cases i:h.dst with
 |none=>grind
 |some f=>
  rw[i] at a;simp only at a;cases l:gG ic.n ic.pin f with
  |false=>grind
  |true=>
  rw[l] at a;simp only[bF,k,m] at a;grind [VP]
theorem OJ {ic:gZ} {id:X} (x:tb U h=Y (id,j)) (c:kG ic U e h Y=Y q):q.keep=[(id,j),(id,[])]/\aq q.put id=aq e id:=by
 obtain⟨M,K,k,N,i,f,p,r,C,o⟩:=HT x;unfold kG at c;split at c
 ·grind [OF]
 generalize m4 ic.qS (vR h) U (sH h.op)=b at c;cases z:n8 e b with
 |false=>grind
 |true=>
 rw[z] at c;simp only[bF] at c;rw[A2] at c;obtain⟨l,a,m⟩:=eV.1 c;cases B:l.keep.all (λs=>!eY s.1 b) with
 |false=>grind
 |true=>
 rw[B] at m;cases m;have d:i4 e b (.ref id (i::f))=.ref id (i::f)\/i4 e b (.ref id (i::f))=.dead:=by
  rw[Jr (by grind)];rcases m3 e b (.ref id (i::f)) with⟨s,J,q,_⟩|⟨q,_⟩|⟨q,_⟩
  ·cases q
  ·grind
  grind
 rcases d with d|d
 ·obtain⟨E,_,F⟩:=OF (g:=λk=>i4 e b (U k)) p r C (by show i4 e b (U k)=_;rw[o];exact d) a;refine⟨E,?_⟩;show aq l.put id=_;rw[F,nG];have I:id∉b:=λH=>by
   grind [ht,amn]
  grind
 exfalso;unfold al at a;cases A:h.dst with
 |none=>grind
 |some v=>
  rw[A] at a;simp only at a;cases D:gG ic.n ic.pin v with
  |false=>grind
  |true=>
  rw[D] at a;simp only[bF,p,r] at a;split at a
  case h_2=>cases a
  rename_i L O t u w G;cases w;cases y:bH t u with
  |false=>grind
  |true=>
  rw[y] at a;simp only[bF,o,d,oU,ww,pD] at a;grind
section
variable {ic:gZ} {D:bT bQ} {G C:X->ak9}
theorem EW.ok {e:bu (X×ak)} {a:ak5} (c:EW e a=bp):∀d b,e=Y (d,b)->a=Y d:=by
 intro d b g;subst g;cases a with
 |none=>cases c
 |some f=>rw[fH (show bH d f=bp from c)]
theorem OL {c:bQ} {d:cK->bu b} {e:b} (j:EY ic f w i c d=Y e):∃a,kG ic (aX i.g) i.h c Y=Y a/\sc f w (aX i.g) c a=bp/\d a=Y e:=by unfold EY at j;grind [amw,Xr]
def nl (b:ak9) (a:ak):Prop:=(∀id∈a.ids,id∈b)\/(∃id,a=.ref id []/\id+500000∈b)\/∃id c,rW a=Y (id,c)/\id<500000/\id+1000000*c∈b/\∀d∈a.ids,d=id\/d∈b
theorem tW.ok (a:tW f d=bp):∃id b,rW d=Y (id,b)/\id<500000/\id+1000000*b∈f/\∀c∈d.ids,c=id\/c∈f:=by
 unfold tW at a;split at a
 case h_2=>cases a
 rename_i id b e;simp only[cF] at a;refine⟨id,b,e,g1 a.1,ht.1 a.2.1,λc g=>?_⟩;simp_all [fH,ht,jK,g7]
theorem p9.ok (a:p9 f d=bp):∃id,d=.ref id []/\id+500000∈f:=by unfold p9 at a;grind [ht]
theorem nl.ok {c:ak9} {b:ak} (a:(qa b.ids c||p9 c b)=bp):nl c b:=by
 rcases jK _ _▸a with a|a
 ·exact .inl (qa.ok a)
 exact .inr (.inl (p9.ok a))
theorem nl.abU (a:(qa d.ids f||(p9 f d||tW f d))=bp):nl f d:=by
 simp only[jK] at a;rcases a with a|a|a
 ·exact .inl (qa.ok a)
 ·exact .inr (.inl (p9.ok a))
 exact .inr (.inr (tW.ok a))
theorem O7 (b:tM j=Y a):1<=a:=by unfold tM at b;grind
theorem WJ {id:X} (b:rW d=Y (id,a)):1<=a:=by
 unfold rW at b;split at b
 ·split at b
  ·rename_i c;cases b;exact O7 c
  grind
 ·split at b
  ·rename_i c;cases b;exact O7 c
  grind
 ·grind
 grind
def MH (e:Op) (c:ak9) (b:ak):Prop:=
 (∃f d g a,e=.extract f d/\b=.fu g/\g[d]?=Y a/\um a=bp/\nl c a)\/
 ((∀f d,e≠.extract f d)/\CS b=bp/\nl c b/\((∀id∈b.ids,id∈c\/∃a,1<=a/\id<500000/\id+1000000*a∈c)\/yr e=bp))
theorem pa.ok {h:Op} {f:ak9} {e:ak} (a:pa h f e=bp):MH h f e:=by
 unfold pa at a;split at a
 ·rename_i d b;split at a
  case h_2=>cases a
  rename_i q;split at a
  case h_2=>cases a
  rename_i c o;rw[cF] at a;exact .inl ⟨d,b,q,c,bn,bn,o,a.1,.ok a.2⟩
 rename_i p;simp only[cF,jK] at a;refine .inr ⟨λd b i=>p d b i,a.1,?_⟩;rcases a.2 with a|⟨a,j⟩|a
 ·exact⟨.inl (qa.ok a),.inl λb g=>.inl (qa.ok a b g)⟩
 ·exact⟨.inr (.inl (p9.ok j)),.inr a⟩
 obtain⟨id,c,k,l,m,n⟩:=tW.ok a;refine⟨.inr (.inr ⟨id,c,k,l,m,n⟩),.inl λb g=>?_⟩;grind
theorem sc.ok {h b:ak9} {i:bL->ak} {f:bQ} {c:cK} (a:sc h b i f c=bp):(∀d e,c.d=Y (d,e)->f.dst=Y d)/\(∀k∈f.op.operands,MH f.op h (i k))/\(∀id∈c.S,id<500000/\(id∈b/\(id+500000∈b\/lD c.keep (.ref id [])=bp)\/id+1500000∈b))/\(∀g∈c.put,g.1<500000/\(g.1∈b\/g.1+1500000∈b))/\(∀d e,c.d=Y (d,e)->nl h e)/\(∀n∈b,1000000<=n->∃id j,tb i f=Y (id,j)/\n %1000000=id+500000/\id<500000/\yQ j (n/1000000)=bp):=by
 unfold sc at a;simp only[cF] at a;obtain⟨⟨⟨⟨l,t⟩,m⟩,o⟩,u,p⟩:=a;refine⟨EW.ok l,λk y=>?_,λid q=>?_,λg s=>?_,λd e w=>?_,λn r x=>?_⟩
 ·grind [pa.ok,amn]
 ·have:=g7.1 m id q;simp_all [g1,ht,cF,jK]
 ·have:=g7.1 o g s;simp_all [g1,ht,cF,jK]
 ·grind [nl.abU]
 have:=g7.1 p n r;rw[jK] at this;rcases this with a|a
 ·have:n<1000000:=g1 a;omega
 split at a
 case h_2=>cases a
 rename_i id j v;simp only[cF] at a;grind [alZ,Nat.le_of_ble_eq_true]
def rK (d:ak9) (a c:ak):Prop:=(CS a=bp->nl d a->c=a)/\∀f,a=.fu f->∃g,c=.fu g/\∀(e:X) (b:ak),f[e]?=Y b->um b=bp->nl d b->g[e]?=Y b
def rK.refl (a:t=d):rK f d t:=⟨λ_ _=>a,λc b=>⟨c,by rw[a,b],λ_ _ a _ _=>a⟩⟩
theorem rK.pa {a:ak9} {h:Op} {c d:ak} (e:rK a c d) (g:pa h a c=bp):jN.pa h a d=bp:=by
 rcases pa.ok g with⟨r,p,k,l,i,b,f,j,n⟩|⟨i,b,f,j⟩
 ·obtain⟨q,m,o⟩:=e.2 k b;grind [jN.pa]
 rw[e.1 b f];exact g
theorem Xs {ic:gZ} {b:bL->ak} {g:bm (X×aE)} {c f:bm ak} (o:h.op=.extract n a) (m:kG ic U e h Y=Y q) (i:U n=.fu c) (j:b n=.fu f) (k:c[a]?=Y d) (l:f[a]?=Y d):kG ic b g h Y=Y q:=by simp_all [k0,hg,E8,al,m4,vR,sH,kG]
theorem Xu {ic:gZ} {a:bL->ak} {d:bm (X×aE)} (b:yr h.op=bp) (f:kG ic U e h Y=Y q) (g:∀c∈h.op.operands,U c=a c):kG ic a d h Y=Y q:=by
 unfold yr at b;split at b
 ·simp_all [k0,hg,al,m4,vR,sH,kG,bU]
 grind
theorem aal (b:.tmp a∈h.op.operands):a∈h.looksAt D:=
 lT _ (List.mem_filterMap.2 ⟨.tmp a,by grind,bn⟩)
theorem aam {b:bz} (c:h.guard=Y (m,b)) (d:(D[m]?).bind (·.dst)=Y a):a∈h.looksAt D:=
 ln _ (by grind)
theorem Uu {l:aR} {c:bz} (n:∀k∈h.looksAt D,rK f (gt i.g k) (gt l.g k)) (a:lh D i h c):lh D l h c:=by
 unfold lh at*;cases d:h.guard with
 |none=>grind
 |some p=>
  obtain⟨o,r⟩:=p;rw[d] at a;simp only at a|-;cases e:(D[o]?).bind (·.dst) with
  |none=>grind
  |some m=>
   rw[e] at a;simp only at a|-;have j:=n m (aam d e);split at a
   ·rename_i s b;rw[j.1 (by rw[b];rfl) (by rw[b];exact .inl (by simp[bS])),b];exact a
   ·rename_i q b;rw[j.1 (by rw[b];rfl) (by rw[b];exact .inl (by simp[bS])),b];exact a
   grind
theorem iX.congr {f:aR} (e:iX ic D G C a i q) (m:∀c,D[a]?=Y c->∀o∈c.looksAt D,rK (G a) (gt i.g o) (gt f.g o)) (w:∀c,D[a]?=Y c->∀id,id∈G a\/id∈C a\/c.dst=Y id->aq i.h id=aq f.h id) (c1:∀id j,1<=j->id<500000->id+1000000*j∈G a->aq i.h id=aq f.h id):iX ic D G C a f q:=by
 obtain⟨c,x,e⟩:=e;have m:=m c x;have w:=w c x;refine⟨c,x,e.imp (λ⟨s,t,l⟩=>⟨Uu m s,?_⟩) (λ⟨s,t⟩=>⟨Uu m s,t⟩)⟩;obtain⟨bx,f2,ce,f4,f5,P⟩:=sc.ok l;have n:∀b∈c.op.operands,rK (G a) (aX i.g b) (aX f.g b):=by
  intro b d;cases b with
  |tmp o=>exact m o (aal d)
  |const ap=>exact .refl (by cases ap<;>rfl)
  |func bs=>exact .refl bn
  |global Q=>exact .refl bn
 constructor
 ·by_cases S:∃b F,c.op=.extract b F
  ·obtain⟨b,F,U⟩:=S;have d:b∈c.op.operands:=(by grind [bU]);rcases f2 b d with⟨J,H,y,j,k,r,z,ci,co⟩|⟨k,_⟩
   ·rw[U] at k;cases k;obtain⟨ds,ax,d0⟩:=(n b d).2 y r;grind [Xs]
   grind
  have A:∀b∈c.op.operands,CS (aX i.g b)=bp/\nl (G a) (aX i.g b)/\((∀id∈(aX i.g b).ids,id∈G a\/∃j,1<=j/\id<500000/\id+1000000*j∈G a)\/yr c.op=bp):=λb d=>by
   rcases f2 b d with⟨J,H,y,j,k,_⟩|⟨_,Q⟩
   ·grind
   omega
  have v:∀b∈c.op.operands,aX i.g b=aX f.g b:=λb d=>((n b d).1 (A b d).1 (A b d).2.1).symm;by_cases c2:yr c.op=bp
  ·grind [Xu]
  have V:∀b∈c.op.operands,∀id∈(aX i.g b).ids,aq i.h id=aq f.h id:=λb d id cv=>(by grind);refine Xt t v V (λO R=>w O (.inr (.inr R))) (λI B=>?_);rcases(f4 I B).2 with e|e
  ·grind
  obtain⟨id,p,K,a3,a4,_⟩:=P _ e aa;have:=(f4 I B).1;obtain⟨av,an,b,a0,am,ax,L,M,_,N⟩:=HT K;grind [alh,ue,bS]
 unfold sc at*;have:(c.op.operands.toList.all λb=>pa c.op (G a) (aX f.g b))=bp:=(by simp only[cF] at l;rw[g7];intro b d;exact(n b (by grind)).pa (g7.1 l.1.1.1.2 b d));have cs:∀id p,tb (aX i.g) c=Y (id,p)->tb (aX f.g) c=Y (id,p):=λid p v=>by
  obtain⟨av,an,b,a0,am,ax,L,M,bl,N⟩:=HT v;have E:b∈c.op.operands:=(by grind [ue]);have dl:aX f.g b=aX i.g b:=by
   rcases f2 b E with⟨J,H,y,j,k,_⟩|⟨_,r,z,_⟩
   ·grind
   exact(n b E).1 r z
  grind [tb]
 have dg:K8 (C a) (aX f.g) c=bp:=by
  simp only[cF] at l;have u:=l.2.2;unfold K8 at u|-;rw[g7] at u|-;intro ad T;have:=u ad T;rw[jK] at this|-;refine this.imp (λe=>e) (λe=>?_);split at e
  case h_2=>cases e
  grind
 grind
theorem iX.EZ (g:iX ic D G C a i q) {r:bQ} (F:D[a]?=Y r):(∀f c,q.d=Y (f,c)->r.dst=Y f)/\(∀id∈q.S,id<500000/\(id∈C a/\(id+500000∈C a\/lD q.keep (.ref id [])=bp)\/id+1500000∈C a))/\(∀k∈q.put,k.1<500000/\(k.1∈C a\/k.1+1500000∈C a))/\(∀f c,q.d=Y (f,c)->nl (G a) c)/\(∀id,id<500000->id+1500000∈C a->aq (q.app i).h id=aq i.h id)/\(∀id b e,id∈q.S->id<500000->id+1000000*b+500000∈C a->1<=b->rW e=Y (id,b)->(∀p∈e.ids,p=id\/p∉q.S)->kI q.S q.keep e=bp):=by
 obtain⟨L,n,g⟩:=g;rw[F] at n;cases n;rcases g with⟨_,x,g⟩|⟨_,f,A,_,rfl⟩
 ·obtain⟨u,f2,v,f4,f5,w⟩:=sc.ok g;refine⟨u,v,f4,f5,λid B m=>?_,λid b e l B m K z E=>?_⟩
  ·grind [cK.tc,OJ]
  obtain⟨o,M,s,H,I,J⟩:=w _ m aa;obtain rfl:o=id:=aa;obtain⟨y,_⟩:=OJ s x;rw[y];refine aec ?_ z E;have:(o+1000000*b+500000)/1000000=b:=aa;grind
 refine⟨λt c j=>?_,by simp[zd],by simp[zd],λt c j=>?_,λid _ _=>rfl,λid b e l=>by cases l⟩
 ·cases j;exact A
 cases j;exact .inl (by simp[bS])
structure zK (f S:ak9) (keep:bm (X×bm a6)):Prop where
 a:∀id∈S,id∉f
 b:∀id∈S,id+500000∈f->lD keep (.ref id [])=bp
 c:∀id∈S,∀c v,1<=c->id<500000->id+1000000*c∈f->rW v=Y (id,c)->(∀j∈v.ids,j=id\/j∉S)->kI S keep v=bp
theorem FG (b:ak9) (c:bm (X×bm a6)) (a:ak):fo b c a=.dead\/fo b c a=a:=by grind [kI,fo]
theorem JR (b:um (fo f g d)=bp):fo f g d=d:=by
 rcases FG f g d with a|a
 ·rw[a] at b;cases b
 omega
theorem JQ (a:∀id∈d.ids,id∉f):fo f g d=d:=by grind [ht,ao4,G7,id,alo]
theorem Zn (a:∀id∈d.ids,id∉f):fS f g d=d:=by grind [ht,ao4,Mc,id,alo]
theorem P2 (e:nl w d) (i:zK w f g):fo f g d=d:=by
 rcases e with e|⟨id,rfl,e⟩|⟨id,o,k,p,q,l⟩
 ·exact JQ λid s h=>i.a id h (e id s)
 ·by_cases h:id∈f
  ·unfold fo;rw[show kI f g (.ref id [])=lD g (.ref id []) from rfl,i.b id h e];simp
  grind [JQ,alh,bS]
 by_cases h:id∈f
 ·unfold fo;rw[i.c id h o d (WJ k) p q k (λn t=>(l n t).imp (λe=>e) (λe h=>i.a n h e))];simp
 exact JQ λm r u=>by
  rcases l m r with j|j
  ·grind
  exact i.a m u j
theorem Bm (b:nl w d) (e:zK w f g):fS f g d=d:=by
 cases d with
 |fu k=>
  rcases b with b|⟨id,c,_⟩|⟨id,j,c,_⟩
  ·exact Zn λid h i=>e.a id i (b id h)
  ·cases c
  cases c
 |_=>exact P2 b e
theorem P1 (a:ak9) (d:bm (X×bm a6)) (b:ak9) (e:bm (X×bm a6)) (c:ak):fo a d (fo b e c)=fo b e (fo a d c):=by grind [FG]
theorem P0 (b:∀a,d≠.fu a):fS f g d=fo f g d:=by
 cases d with
 |fu a=>grind
 |_=>rfl
theorem FF (b:ak9) (d:bm (X×bm a6)) (c:ak9) (e:bm (X×bm a6)) (a:ak):fS b d (fS c e a)=fS c e (fS b d a):=by
 by_cases g:∃f,a=.fu f
 ·obtain⟨f,rfl⟩:=g;simp_all [b3,iU,P1,qt,fS]
 grind [FG,P0,P1]
theorem Zp (l d:ak9) (e:bm (X×bm a6)) (b:ak):rK l (fS d e b) b:=by
 by_cases j:∃a,b=.fu a
 ·obtain⟨a,rfl⟩:=j;refine⟨λc _=>?_,λr m=>⟨a,bn,λq o p i _=>?_⟩⟩
  ·simp only[fS] at c|-;have c:∀g∈a.map (fo d e),um g=bp:=g7.1 c;congr 1;rw[iU (λg n=>JR (c _ (eS.2 ⟨g,n,bn⟩))),ao6]
  simp only[fS,ak.fu.injEq] at m;grind [JR,ap8]
 have i:∀a,b≠.fu a:=λa f=>j ⟨a,f⟩;rw[P0 i];have h:∀a,fo d e b≠.fu a:=λa f=>(by grind [FG]);refine⟨λc _=>?_,λa f=>absurd f (h a)⟩;have:um (fo d e b)=bp:=by
  generalize fo d e b=k at c h;cases k with
  |fu a=>grind
  |_=>exact c
 grind [JR]
theorem Zq (a:ak) (d:zK w f g):rK w a (fS f g a):=by refine⟨λ_ c=>Bm c d,λk b=>?_⟩;subst b;refine⟨_,bn,λj e h _ i=>?_⟩;grind [P2]
def M8 (e:∀b c,q.d=Y (b,c)->b≠a):gt (q.app i).g a=fS q.S q.keep (gt i.g a):=by
 rw[cK.u4];cases f:q.d with
 |none=>rfl
 |some h=>obtain⟨b,c⟩:=h;simp only;rw[ar (e b c f)]
def ZX {c:bm (X×b)} {id:X} (d:∀a∈c,a.1≠id):aq c id=bo:=by
 induction c with
 |nil=>rfl
 |cons a c f=>
  obtain⟨g,h⟩:=a;rw[eC,ar (d (g,h) ac),f (λa e=>d a (by simp[e]))]
def M9 {id:X} (a:id∉q.S) (b:∀c∈q.put,c.1≠id):aq (q.app i).h id=aq i.h id:=by rw[cK.tc,ar a,ZX b];rfl
def tD (b c:ak9):bz:=b.all λa=>!(eY a c)
theorem tD.ok (b:tD f w=bp):∀a∈f,a∉w:=λa c d=>by have:=g7.1 b a c;rw[ht.2 d] at this;cases this
def dl (b:bQ):ak9:=match b.dst with
 |some a=>[a]
 |none=>[]
theorem yC (b:h.dst=Y a):a∈dl h:=by unfold dl;rw[b];simp
def tE (b c:ak9):bz:=b.all λa=>b2 1000000 a||!(eY a c)
theorem tE.ok (a:tE f w=bp):∀b∈f,b<1000000->b∉w:=λb c e d=>by
 have:=g7.1 a b c;rw[ht.2 d,jK] at this;rcases this with a|a
 ·have:=g1 a;omega
 cases a
def sh (e d f b:ak9):bz:=(b.all λa=>cb a 1000000||(!(eY (a %1000000-500000) e)&&(!(eY (a %1000000-500000) d)&&!(eY (a %1000000-500000) f))))&&d.all λc=>cb c 1000000||(!(eY (c %1000000) b)&&(!(eY (c %1000000+1500000) b)||eY (c+500000) b))
theorem sh.ok {d i:ak9} (a:sh d w i f=bp):(∀id,id<500000->id+1500000∈f->id∉d/\id∉w/\id∉i)/\∀id b,1<=b->id<500000->id+1000000*b∈w->id∉f/\(id+1500000∈f->id+1000000*b+500000∈f):=by
 unfold sh at a;rw[cF] at a;have e:∀{g:X} {h:ak9},(!(eY g h))=bp->g∉h:=λ{g h} a c=>(by rw[ht.2 c] at a;cases a);constructor
 ·intro id k c;have:=g7.1 a.1 _ c;rw[jK] at this;rcases this with a|a
  ·have:id+1500000<1000000:=g1 a;omega
  rw[(aa:(id+1500000) %1000000-500000=id)] at a;simp only[cF] at a;exact⟨e a.1,e a.2.1,e a.2.2⟩
 intro id b l k c;have:=g7.1 a.2 _ c;rw[jK] at this;rcases this with a|a
 ·have:id+1000000*b<1000000:=g1 a;omega
 rw[(aa:(id+1000000*b) %1000000=id)] at a;simp only[cF,jK] at a;refine⟨e a.1,λj=>?_⟩;rcases a.2 with a|a
 ·exact absurd j (e a)
 exact ht.1 a
def vi (D:bT bQ) (G C:X->ak9) (a b:X):bz:=
 match D[a]?,D[b]? with
 |some d,Y c=>d.apart D c&&tE (C b) (dl d++(G a++C a))&&tE (C a) (dl c++G b)&&(sh (dl d) (G a) (C a) (C b)&&sh (dl c) (G b) (C b) (C a))
 |_,_=>bq
def iX.yA (b:iX ic D G C a i q) {id:X} (m:500000<=id):aq (q.app i).h id=aq i.h id:=by obtain⟨k,c,j⟩:=b;have b:iX ic D G C a i q:=⟨k,c,j⟩;obtain⟨_,d,e,_⟩:=b.EZ c;exact M9 (λf=>by have:=(d id f).1;omega) (λl g q=>by have:=(e l g).1;omega)
def iX.tZ (d:iX ic D G C a i q) {id:X} (e:id∉C a):aq (q.app i).h id=aq i.h id:=by
 obtain⟨o,f,n⟩:=d;have d:iX ic D G C a i q:=⟨o,f,n⟩;obtain⟨_,g,j,_,k,_⟩:=d.EZ f;by_cases c:id<500000/\id+1500000∈C a
 ·exact k id c.1 c.2
 refine M9 (λl=>?_) (λp m q=>?_)
 ·obtain⟨ax,b⟩:=g id l;rcases b with b|b
  ·exact e b.1
  exact c ⟨ax,b⟩
 subst q;obtain⟨ax,b⟩:=j p m;rcases b with b|b
 ·exact e b
 exact c ⟨ax,b⟩
theorem iX.swap {e:cK} (l:vi D G C m a=bp) (o:iX ic D G C m i e) (B:iX ic D G C a (e.app i) q):iX ic D G C a i q/\iX ic D G C m (q.app i) e/\kV (q.app (e.app i)) (e.app (q.app i)):=by
 unfold vi at l;split at l
 case h_2=>cases l
 rename_i a3 a0 ap an;simp only[cF] at l;obtain⟨⟨⟨c2,J⟩,K⟩,ds,d0⟩:=l;have J:=tE.ok J;have K:=tE.ok K;obtain⟨cv,U⟩:=sh.ok ds;obtain⟨c1,V⟩:=sh.ok d0;obtain⟨ce,ci,co⟩:=Oper.apart_spec c2;obtain⟨bs,T,el,em,en,bx⟩:=o.EZ ap;obtain⟨i1,N,d4,d5,d6,av⟩:=B.EZ an;have d8:∀p∈a0.looksAt D,gt (e.app i).g p=fS e.S e.keep (gt i.g p):=λp A=>M8 λj w z y=>ce j (bs j w z) (y▸A);have d7:∀p∈a3.looksAt D,gt (q.app i).g p=fS q.S q.keep (gt i.g p):=λp A=>M8 λj w z y=>co j (i1 j w z) (y▸A);have L:∀j H t I,q.d=Y (j,H)->e.d=Y (t,I)->j≠t:=λj H t I z dg y=>ci t (bs t I dg) (y▸i1 j H z);have E:∀id,id<1000000->id∈G m\/id∈C m\/a3.dst=Y id->id∉C a:=λid h c s=>J id s h (by
  rcases c with c|c|c
  ·simp[c]
  ·simp[c]
  simp[yC c])
 have bl:∀id,id<1000000->id∈G a\/a0.dst=Y id->id∉C m:=λid h c s=>K id s h (by
  rcases c with c|c
  ·simp[c]
  simp[yC c])
 have d3:∀id,id<1000000->id∈C a->id∉C m:=λid h c s=>E id h (.inr (.inl s)) c;have ek:zK (G a) e.S e.keep:=by
  refine⟨λid k f=>?_,λid k f=>?_,λid k r R l n f M x=>?_⟩
  ·obtain⟨ax,b⟩:=T id k;rcases b with b|b
   ·exact bl id aa (.inl f) b.1
   exact(c1 id ax b).2.1 f
  ·obtain⟨ax,b⟩:=T id k;rcases b with b|b
   ·exact b.2.resolve_left (bl _ aa (.inl f))
   exact bx id 1 (.ref id []) k ax (by rw[(aa:id+1000000*1+500000=id+1500000)];exact b) (bc _) rfl (λd1 x=>.inl (by simpa[bS] using x))
  obtain⟨_,b⟩:=T id k;obtain⟨a4,Q⟩:=V id r l n f;rcases b with b|b
  ·exact absurd b.1 a4
  exact bx id r R k n (Q b) l M x
 have d9:zK (G m) q.S q.keep:=by
  refine⟨λid k f=>?_,λid k f=>?_,λid k r R l n f M x=>?_⟩
  ·obtain⟨ax,b⟩:=N id k;rcases b with b|b
   ·exact E id aa (.inl f) b.1
   exact(cv id ax b).2.1 f
  ·obtain⟨ax,b⟩:=N id k;rcases b with b|b
   ·exact b.2.resolve_left (E _ aa (.inl f))
   exact av id 1 (.ref id []) k ax (by rw[(aa:id+1000000*1+500000=id+1500000)];exact b) (bc _) rfl (λd1 x=>.inl (by grind [bS]))
  obtain⟨_,b⟩:=N id k;obtain⟨a4,Q⟩:=U id r l n f;rcases b with b|b
  ·grind
  exact av id r R k n (Q b) l M x
 have v:iX ic D G C a i q:=by
  refine B.congr (λO u p A=>?_) (λO u id n=>?_) (λid r l n f=>?_)
  ·grind [Zp]
  ·rw[an] at u;cases u;rcases cU id 500000 with h|h
   ·refine o.tZ ?_;rcases n with c|c|c
    ·grind
    ·grind
    grind
   exact o.yA h
  exact o.tZ (V id r l n f).1
 have F:iX ic D G C m (q.app i) e:=by
  refine o.congr (λO u p A=>?_) (λO u id n=>?_) (λid r l n f=>?_)
  ·grind [Zq]
  ·rw[ap] at u;cases u;rcases cU id 500000 with h|h
   ·exact(v.tZ (E id aa n)).symm
   exact(v.yA h).symm
  exact(v.tZ (U id r l n f).1).symm
 refine⟨v,F,?_,λid=>?_⟩
 ·intro p;rw[cK.u4 q,cK.u4 e (q.app i),cK.u4 e i,cK.u4 q i];cases dl:e.d with
  |none=>
   cases ad:q.d with
   |none=>grind [FF]
   |some P=>
    obtain⟨j,w⟩:=P;simp only;split
    ·grind [Bm]
    grind [FF]
  |some d2=>
   obtain⟨t,cs⟩:=d2;cases ad:q.d with
   |none=>
    simp only;split
    ·grind [Bm]
    grind [FF]
   |some P=>
    obtain⟨j,w⟩:=P;have L:j≠t:=L j w t cs ad dl;simp only;by_cases o:j=p
    ·subst o;rw[au bn,ar (Ne.symm L),au bn];grind [Bm]
    rw[ar o,ar o];split
    ·grind [Bm]
    grind [FF]
 rcases cU id 500000 with h|h
 ·by_cases s:id∈C a
  ·have am:=d3 id aa s;rw[F.tZ am,cK.tc q,cK.tc q,o.tZ am]
  rw[B.tZ s,cK.tc e,cK.tc e,v.tZ s]
 rw[B.yA h,o.yA h,F.yA h,v.yA h]
def iX.seq {c:aR} (b:kV i c) (d:iX ic D G C a i q):iX ic D G C a c q:=
 d.congr (λ_ _ e _=>.refl (b.g e).symm) (λ_ _ id _=>b.h id) (λid _ _ _ _=>b.h id)
def oQ.seq:∀{c:ak9} {d e f:aR},kV d e->oQ ic D G C c d f->oQ ic D G C c e f
 |[],_,_,_,a,h=>a.symm.trans h
 |_::_,_,_,_,a,⟨b,g,i⟩=>⟨b,g.seq a,oQ.seq (a.app b) i⟩
theorem oQ.front {g:X} {h:ak9}:∀{b:ak9} {a d:aR},(∀x∈b,vi D G C x g=bp)->oQ ic D G C (b++g::h) a d->∃c,iX ic D G C g a c/\oQ ic D G C (b++h) (c.app a) d
 |[],a,d,_,⟨c,e,f⟩=>⟨c,e,f⟩
 |x::b,a,d,i,⟨k,e,f⟩=>by obtain⟨j,o,p⟩:=oQ.front (λq r=>i q (by grind)) f;obtain⟨l,m,n⟩:=iX.swap (i x ac) e o;exact⟨j,l,k,m,p.seq n⟩
end
end
section
section
variable {ic:gZ} {F:bT bQ} {i5 ip:X->ak9}
theorem Bh {D:Type} {y:aR->bu D} {C:D}:∀{w:ak9} {b:aR},tR ic F i5 ip w b y=Y C->∃c,oQ ic F i5 ip w b c/\y c=Y C
 |[],b,a=>⟨b,kV.refl b,a⟩
 |i::w,b,a=>by
  simp only[tR] at a;split at a
  ·cases a
  rename_i o m;split at a
  ·rename_i A;obtain⟨k,s,t,u⟩:=OL a;obtain⟨c,f,j⟩:=Bh u;exact⟨c,⟨k,⟨o,m,.inl ⟨by grind [lh],s,t⟩⟩,f⟩,j⟩
  rename_i I x A;split at a
  case h_2=>cases a
  rename_i r e G z;split at a
  case h_3=>cases a
  case h_2=>
   rename_i K B;cases l:gG ic.n ic.pin e with
   |false=>grind
   |true=>
   rw[l] at a;obtain⟨c,f,j⟩:=Bh a;refine⟨c,⟨zd e,⟨o,m,.inr ⟨?_,e,z,l,bn⟩⟩,f⟩,j⟩;grind [lh]
  rename_i d B;cases l:gG ic.n ic.pin e with
  |false=>grind
  |true=>
  rw[l] at a;simp only[bF] at a;have p:∀q,d=q->kV ⟨(r,.val .bool q)::b.g,b.h⟩ b:=λq v=>⟨λJ=>by
   grind [ju],λ_=>rfl⟩
  split at a
  ·rename_i v;obtain rfl:d=x:=(by grind);obtain⟨k,s,t,u⟩:=OL a;obtain⟨c,f,j⟩:=Bh u;have E:iX ic F i5 ip i ⟨(r,.val .bool d)::b.g,b.h⟩ k:=by
    refine⟨o,m,.inl ⟨?_,s,t⟩⟩;unfold lh;rw[A];simp only[G,(p d bn).g r,B];simp
   exact⟨c,⟨k,E.seq (p d bn),f.seq ((p d bn).app k)⟩,j⟩
  rename_i v;have H:d=!x:=by cases d<;>cases x<;>first|rfl|cases v
  obtain⟨c,f,j⟩:=Bh a;refine⟨c,⟨zd e,⟨o,m,.inr ⟨?_,e,z,l,bn⟩⟩,f.seq ((p _ H).app (zd e))⟩,j⟩;grind [lh]
structure md where
 i:X
 d:ak9
 aq:ak9
 ps:ak9
 i5:ak9
 ip:ak9
def tK:ak9->ak9->bz
 |[],[]=>bp
 |a::c,b::d=>bH a b&&tK c d
 |_,_=>bq
theorem qP:∀{c d:ak9},tK c d=bp->c=d
 |[],[],_=>rfl
 |a::c,e::d,b=>by simp only[tK,cF] at b;rw[fH b.1,qP b.2]
 |[],_::_,b=>by cases b
 |_::_,[],b=>by cases b
def re (F:bT bQ) (i5 ip:X->ak9) (a:md):bz:=match F[a.i]? with
 |some b=>tK (dl b) a.d&&tK (b.looksAt F) a.aq&&tK (q6 F a.i) a.ps&&tK (i5 a.i) a.i5&&tK (ip a.i) a.ip
 |none=>bq
def Im (a b:md):bz:=tD a.d b.aq&&tD a.d b.d&&tD b.d a.aq&&tE b.ip (a.d++(a.i5++a.ip))&&tE a.ip (b.d++b.i5)&&(sh a.d a.i5 a.ip b.ip&&sh b.d b.i5 b.ip a.ip)
theorem WU {j h:md} (b:re F i5 ip j=bp) (a:re F i5 ip h=bp) (c:Im j h=bp):vi F i5 ip j.i h.i=bp:=by
 unfold re at b a;split at b
 case h_2=>cases b
 rename_i v q;split at a
 case h_2=>cases a
 rename_i u p;simp only[cF] at b a;obtain⟨⟨⟨⟨w,x⟩,D⟩,y⟩,z⟩:=b;obtain⟨⟨⟨⟨i1,r⟩,A⟩,s⟩,t⟩:=a;unfold Im at c;rw[<-qP w,<-qP x,<-qP y,<-qP z,<-qP i1,<-qP r,<-qP s,<-qP t] at c;simp only[cF] at c;obtain⟨⟨⟨⟨⟨e,f⟩,k⟩,l⟩,m⟩,n,o⟩:=c;unfold vi;simp only[q,p,l,m,n,o,aoi];have e:=tD.ok e;have f:=tD.ok f;have k:=tD.ok k;unfold Oper.apart;rw[cF];constructor
 ·cases g:v.dst with
  |none=>rfl
  |some d=>
   have B:=e d (yC g);have C:=f d (yC g);simp only[cF,uK];refine⟨?_,?_⟩
   ·grind
   rw[bne_iff_ne];grind [yC]
 cases g:u.dst with
 |none=>rfl
 |some d=>
  simp_all [Bool.not_eq_true,List.contains_iff_mem,uK,yC]
def lX (a b:X):bz:=bH (Nat.land (Nat.shiftRight a b) 1) 1
def HN (a b:X):X:=ape a (Nat.shiftLeft 1 b)
theorem z1:lX a m=bp↔a.testBit m=bp:=by simp_all [anD,alg,fH,Nat.shiftRight_eq_div_pow,Nat.and_one_is_mod,Nat.testBit_eq_decide_div_mod_eq,bH,lX]
theorem Ny {b:X} (c:lX (ape m b) a=bp):lX m a=bp\/lX b a=bp:=by simp_all [ap9,z1]
theorem Nx {c:X} (b:lX (HN m c) a=bp):lX m a=bp\/a=c:=by
 rcases Ny b with b|b
 ·grind
 simp_all [z1,Nat.shiftLeft_eq,h3,apf,anD]
theorem C1 (b:lX 0 a=bp):False:=by grind [z1]
def zT (a:alb):ak9->X
 |[]=>0
 |p::b=>ape (HN ((jN.aq a p).getD 0) p) (zT a b)
theorem M1 {e:alb}:∀{d:ak9} {b:X},lX (zT e d) b=bp->∃p∈d,b=p\/∃c,jN.aq e p=Y c/\lX c b=bp
 |[],_,a=>(C1 a).elim
 |p::d,b,a=>by
  rcases Ny a with a|a
  ·refine⟨p,ac,?_⟩;rcases Nx a with a|a
   ·cases g:jN.aq e p with
    |none=>grind [C1]
    |some c=>grind
   omega
  obtain⟨i,h,f⟩:=M1 a;grind
def C7 (c:X):X->bm md->alb->bm md->bz
 |_,_,_,[]=>bp
 |sm,d,b,a::f=>
  a.ps.all (λg=>lX sm g)&&(d.all λe=>lX (zT b a.ps) e.i||Im e a)&&!(lX sm a.i)&&cb a.i c&&C7 c (HN sm a.i) (a::d) ((a.i,zT b a.ps)::b) f
def lB (a:bm md):ak9:=a.map (·.i)
def vd (F:bT bQ) (i5 ip:X->ak9) (a:bm md):bz:=a.all (re F i5 ip)&&C7 F.size 0 [] [] a&&((bI F.size).all λb=>eY b (lB a))&&b2 a.length F.size
def Cu (F:bT bQ) (a:X->Prop):Prop:=∀b,a b->∀c∈q6 F b,a c
theorem re.ps {b:md} (a:re F i5 ip b=bp):q6 F b.i=b.ps:=by
 unfold re at a;split at a
 case h_2=>cases a
 simp only[cF] at a;grind [qP]
theorem Ii:∀{q j:bm md} {o:X} {s:alb},C7 F.size o j s q=bp->(∀r∈q,re F i5 ip r=bp)->(∀r∈j,re F i5 ip r=bp)->(∀h,lX o h=bp->h∈lB j)->(∀h∈lB j,lX o h=bp)->(∀e v,jN.aq s e=Y v->∀b,Cu F b->b e->∀a,lX v a=bp->b a)->∀f g p,lB q=f++g::p->(∀e∈q6 F g,e∈lB j\/e∈f)/\(∀b,Cu F b->(∀e∈q6 F g,b e)->∀a,(a∈lB j\/a∈f)->¬b a->vi F i5 ip a g=bp)/\g∉lB j/\g∉f/\g<F.size
 |[],_,_,_,t,_,_,_,_,M,f,g,p,m=>by cases f<;>cases m
 |r::q,j,o,s,t,z,S,d,J,M,f,g,p,m=>by
  simp only[C7,cF,g7,uK] at t;obtain⟨⟨⟨⟨E,G⟩,x⟩,H⟩,I⟩:=t;have L:=z r ac;have K:=re.ps L;have x:r.i∉lB j:=λk=>(by grind);have N:∀b,Cu F b->(∀e∈q6 F r.i,b e)->∀a,lX (zT s r.ps) a=bp->b a:=(by grind [M1]);cases f with
  |nil=>
   cases m;refine⟨λe l=>.inl (d _ (E e (K▸l))),λb n l a c y=>?_,x,ac,g1 H⟩;rcases c with c|c
   ·obtain⟨P,O,rfl⟩:=eS.1 c;have:=G P O;rcases jK _ _▸this with d|d
    ·grind
    grind [WU]
   grind
  |cons Q f=>
   simp only[lB,gL,kT,ia] at m;obtain⟨rfl,m⟩:=m;obtain⟨B,C,w,R,D⟩:=Ii I (λa c=>z a (by grind)) (λa c=>by
    grind) (λh k=>by
    rcases Nx k with k|rfl
    ·exact gx _ (d h k)
    ·exact jd ..) (λh k=>by
    rw[z1];show(o|||(1<<<r.i)).testBit h=bp;rw[ap9,jK];rcases fF.1 k with rfl|k
    ·grind
    ·left;exact z1.1 (J h k)) (λe v u b n l a c=>by
    rw[eC] at u;split at u
    ·rename_i A;cases u;subst A;exact N b n (n _ l) a c
    grind) f g p m
   refine⟨λe l=>?_,λb n l a c y=>C b n l a ?_ y,λd=>w (gx _ d),λd=>?_,D⟩
   ·rcases B e l with d|d
    ·rcases fF.1 d with rfl|d
     ·grind
     exact .inl d
    grind
   ·rcases c with c|c
    ·exact .inl (gx _ c)
    rcases fF.1 c with rfl|c
    ·exact .inl (jd ..)
    grind
   rcases fF.1 d with rfl|d
   ·exact w (jd ..)
   grind
variable {E:fM} {C:e7}
theorem iX.wp (h:ic.ae E C) (d:iX ic F i5 ip a i q) {b:Act} (g:gR C i b.tmps v) {next:Act->bC->Prop} (p:∀c j,c.defers=b.defers->gR C (q.app i) c.tmps j->next c j):wpOp E.P F o a next b v:=by
 obtain⟨w,r,d⟩:=d;obtain⟨k,t,l,e⟩:=id g;unfold wpOp;simp only[r];rcases d with⟨f,m,_⟩|⟨f,u,n,s,rfl⟩
 ·rw[f.ok e,au bn];refine .inl (OK h m b v g _ _ ?_);grind
 rw[f.ok e,ar ac,n];exact p _ v bn ⟨k,t,l,e.put (gG.ok h s) (.eB bV)⟩
def left (a:ak9) (c:bT bz):ak9:=a.filter λb=>!c.getD b bp
theorem Qb {b:bT bz} {c:ak9} (g:left f b=w++a::c) (h:a∉w) (i:a∉c) (j:a<b.size):left f (b.setIfInBounds a bp)=w++c:=by
 have:left f (b.setIfInBounds a bp)=(left f b).filter λd=>!(d==a):=by
  unfold left;rw[zA];refine qo λd _=>?_;by_cases e:a=d
  ·simp_all
  rw[apg bp e];grind
 grind [amN,List.filter_cons_of_neg]
theorem Le (c:F[a]?=Y h):m∈q6 F a↔∃b∈h.after,apd .any b=bp/\b.on=m:=by grind [q6]
theorem VO (d3:ic.ae E C) {R:bm md} (dg:f=lB R) (r:vd F i5 ip R=bp) {t:aR} {ds:bm Deferred} (am:∀d g,d.defers=ds->gR C t d.tmps g->o .normal d g):∀(q:X) (a:bT bz) (d:Act) (g:bC) (w:aR),a.size=F.size->(left f a).length<=q->Cu F (λe=>a.getD e bp=bp/\e<F.size)->oQ ic F i5 ip (left f a) w t->gR C w d.tmps g->d.defers=ds->wpAny E.P .any F o q a d g:=by
 unfold vd at r;simp only[cF,g7,fN] at r;obtain⟨⟨⟨el,r⟩,an⟩,_⟩:=r;have I:=Ii r el ac (λe d4=>(C1 d4).elim) (by simp[lB]) (λH f3 c=>by cases c);rw[<-dg] at I an;have Q:∀i,i<F.size->i∈f:=λi M=>ht.1 (an i M);have fs:∀{a:bT bz} {e:X},a.size=F.size->e<F.size->a.getD e bp=bp->a.getD e bq=bp:=(by grind);have a4:∀{a:bT bz} {i:X},a.size=F.size->i∈aph .any F a->i<F.size/\a.getD i bp=bq/\∃m,F[i]?=Y m/\∀b∈m.after,apd .any b=bp->a.getD b.on bq=bp:=(by grind [Array.getElem?_eq_some_iff,mem_ready]);have first:∀{a:bT bz} {i:X} {K:ak9},a.size=F.size->left f a=i::K->i∈aph .any F a:=by
  intro a i K D N;have u:i∈left f a:=(by grind);have d2:i∈f:=(h1.1 u).1;have em:a.getD i bp=bq:=(by simpa using(h1.1 u).2);obtain⟨h,n,z⟩:=w7 d2;obtain⟨ci,_,_,x,cs⟩:=I h i n z;obtain⟨m,v⟩:∃m,F[i]?=some m:=⟨_,Cq cs⟩;refine mem_ready.2 ⟨em,m,v,λb k s=>?_⟩;have p:b.on∈q6 F i:=(Le v).2 ⟨b,k,s,bn⟩;have fz:b.on∈h:=by
   rcases ci _ p with c|c
   ·cases c
   omega
  have f0:∀j∈h,a.getD j bp=bp:=by
   intro j G;cases en:a.getD j bp with
   |true=>rfl
   |false=>
    obtain⟨J,bl,ad⟩:=w7 G;have:left f a=left J a++j::(left bl a++left (i::n) a):=(by show anE _ f=_;rw[z,ad];simp only[left,oG,mh,en,lQ,kT];rfl);rw[N] at this;cases c2:left J a with
    |nil=>grind
    |cons f4 fl=>
     rw[c2] at this;cases this;have:i∈left J a:=(by grind);exact absurd (by rw[ad];exact lT _ (h1.1 this).1) x
  have a3:b.on<F.size:=(by have:b.on∈f:=(by grind);obtain⟨fp,fr,ft⟩:=w7 this;grind);grind
 intro q
 induction q with
 |zero=>
  intro a d g w D d6 L l A B;have d8:left f a=[]:=List.length_eq_zero_iff.1 aa;rw[d8] at l;refine⟨?_,am d g B (A.seq l)⟩;cases ek:aph .any F a with
  |nil=>rfl
  |cons i fl=>
   obtain⟨y,cv,_⟩:=a4 D (i:=i) (by grind);have:i∈left f a:=h1.2 ⟨Q i y,by grind⟩;grind
 |succ q ex=>
  intro a d g w D d6 L l A B;constructor
  ·intro ek;cases N:left f a with
   |nil=>rw[N] at l;exact am d g B (A.seq l)
   |cons i K=>
    grind
  intro i M;obtain⟨y,cv,m,v,T⟩:=a4 D M;have u:i∈left f a:=h1.2 ⟨Q i y,by grind⟩;obtain⟨h,n,z⟩:=w7 (Q i y);obtain⟨_,co,_,x,_⟩:=I h i n z;have ap:i∉n:=(by intro u;obtain⟨bs,bx,fT⟩:=w7 u;have:=(I (h++i::bs) i bx (by grind)).2.2.2.1;grind);have O:left f a=left h a++i::left n a:=(by grind [left,anE]);have d0:∀j∈left h a,vi F i5 ip j i=bp:=(by intro j G;obtain⟨eq,f2⟩:=h1.1 G;refine co _ L (λH p=>?_) j (.inr eq) (λG=>by grind);obtain⟨b,k,s,rfl⟩:=(Le v).1 p;have U:=T b k s;have a3:b.on<a.size:=(by grind);grind);rw[O] at l;obtain⟨b,k,f1⟩:=oQ.front d0 l;refine k.wp d3 A (λce fn d1 dl=>ex _ ce fn (b.app w) (by grind) ?_ ?_ ?_ dl (d1.trans B))
  ·rw[Qb O (λc=>x (h1.1 c).1) (λc=>ap (h1.1 c).1) aa];grind
  ·intro e ⟨av,d5⟩ H p;by_cases a0:i=e
   ·subst a0;obtain⟨b,k,s,rfl⟩:=(Le v).1 p;have U:=T b k s;have a3:b.on<a.size:=by
     grind
    have V:=getD_set_true (i:=i) U;refine⟨?_,aa⟩;have d7:b.on<(a.setIfInBounds i bp).size:=(by grind);have al:∀S,(a.setIfInBounds i bp).getD b.on S=(a.setIfInBounds i bp)[b.on]:=λS=>(by simp only[Array.getD,d7,ams];rfl);grind
   rw[apg bp a0] at av;obtain⟨V,c1⟩:=L e ⟨av,d5⟩ H p;refine⟨?_,c1⟩;by_cases d9:i=H
   ·grind
   rw[apg bp d9];exact V
  rw[Qb O (λc=>x (h1.1 c).1) (λc=>ap (h1.1 c).1) aa];omega
theorem J.draw (A:E.P.follows .mixedOrders=bp) (x:ic.ae E C) {g:aR->bu b} {h:b} {id:X} {a:bm md} (c:vd F i5 ip a=bp) (e:tR ic F i5 ip (lB a) i g=Y h) (r:∀j,g j=Y h->y .normal j):J E C (.region id F bp) i y:=by
 obtain⟨d,K,p⟩:=Bh e;intro n H f u;refine wp_region_any A ?_;have L:left (lB a) (ao1 F.size bq)=lB a:=(by refine mU.2 λB w=>?_;unfold vd at c;simp only[cF,g7] at c;obtain⟨k,l,q⟩:=w7 w;have:=(Ii c.1.1.2 c.1.1.1 ac (λD z=>(C1 z).elim) (by simp[lB]) (λQ R e=>by cases e) k B l q).2.2.2.2;simp_all);have O:(lB a).length<=F.size:=(by simp_all [g1,dh,cF,lB,vd]);refine VO x bn c (t:=d) (ds:=[]) (λI S v s=>⟨d,r d p,s,v⟩) F.size _ n _ i ac (by grind) ?_ (by grind) ?_ u
 ·intro D ⟨M,N⟩;simp_all
 obtain⟨m,G,o,f⟩:=f;exact⟨m,G,o,f.YL (hC.refl H).drew⟩
end
end
section
def kp:bm a6->ah->ah
 |[],e=>ke e
 |.deref::a,.optr d=>.optr (kp a d)
 |.unst::a,.st d=>.st (kp a d)
 |.fst::a,.pr b c=>.pr (kp a b) c
 |.snd::a,.pr b c=>.pr b (kp a c)
 |_,e=>e
def o5:bm a6->ah->bz
 |[],e=>sd e
 |.deref::a,.optr b=>o5 a b
 |.unst::a,.st b=>o5 a b
 |.fst::a,.pr c _=>o5 a c
 |.snd::a,.pr _ d=>o5 a d
 |_,_=>bq
def vS:∀(a:bm a6) (e:ah),o5 a e=bp->(kp a e).den=e.den
 |[],e,_=>sf e
 |.deref::a,.optr f,b=>vS a f b
 |.unst::a,.st f,b=>vS a f b
 |.fst::a,.pr c d,b=>by show((kp a c).den×d.den)=(c.den×d.den);rw[vS a c b]
 |.snd::a,.pr c d,b=>by show(c.den×(kp a d).den)=(c.den×d.den);rw[vS a d b]
def yl:∀(a:bm a6) (c:ah),o5 a c=bp->(kp a c).size=c.size
 |[],c,_=>tP c
 |.deref::a,.optr f,b=>rfl
 |.unst::a,.st f,b=>yl a f b
 |.fst::a,.pr d e,b=>by simp only[kp,alC,yl a d b]
 |.snd::a,.pr d e,b=>by simp only[kp,alC,yl a e b]
def o4 (b:bm a6) (a:ah) (c:o5 b a=bp) (d:a.den):(kp b a).den:=cast (vS b a c).symm d
theorem BZ {E:eH->X->Prop} {w:bC}:∀{p:bm a6} {τ:ah} {m:ez} {x:τ.den} {h:ak9} (c:o5 p τ=bp),aW E w τ m x h->h.Nodup->∃f f2:ak9,(∀a,a∈h↔a∈f\/a∈f2)/\(∀a∈f,a∉f2)/\f.Nodup/\∀g:eH->X->Prop,(∀o a,E o a->g o a)->(∀a∈f2,g .bj a)->aW g w (kp p τ) m (o4 p τ c x) f
 |[],τ,m,x,h,c,i,e=>⟨[],h,ac,ac,List.nodup_nil,λg j n=>wE j c i n⟩
 |.deref::p,.optr y,m,x,h,c,i,e=>by
  obtain⟨a,L,l,G,r,rfl,H,I,J,K⟩:=i;rw[j4] at e;obtain⟨f,f2,ax,s,t,u⟩:=BZ (p:=p) (τ:=y) c K e.2;refine⟨a::f,f2,λb=>by simp only[fF,ax];grind,λb d=>?_,?_,λg j n=>?_⟩
  ·rcases fF.1 d with rfl|d
   ·exactλl=>e.1 ((ax b).2 (.inr l))
   exact s b d
  ·rw[j4];exact⟨λl=>e.1 ((ax a).2 (.inl l)),t⟩
  have F:=yl p y c;exact⟨a,L,f,G,r,bn,by rw[F];exact H,I,by rw[F];exact J,u g j n⟩
 |.unst::p,.st y,m,x,h,c,i,e=>BZ (p:=p) (τ:=y) (x:=x) c i e
 |.fst::p,.pr k a,m,x,h,c,i,e=>by
  obtain⟨z,A,rfl,r,B⟩:=i;rw[iI] at e;obtain⟨f,f2,ax,s,t,u⟩:=BZ (p:=p) (τ:=k) c r e.1;refine⟨f++A,f2,λb=>by simp only[g0,ax];grind,λb d=>?_,?_,λg j n=>?_⟩
  ·rcases g0.1 d with d|d
   ·exact s b d
   exactλl=>e.2.2 b ((ax b).2 (.inr l)) b d bn
  ·rw[iI];exact⟨t,e.2.1,λb d v D=>e.2.2 b ((ax b).2 (.inl d)) v D⟩
  have q:o4 (.fst::p) (.pr k a) c x=(o4 p k c x.1,x.2):=Ie (vS p k c).symm bn _ x;refine⟨f,A,bn,?_,?_⟩
  ·rw[yl p k c,q];exact u g j n
  rw[yl p k c,q];exact B.mono (λo a C=>⟨j o a C,cp _ _⟩) λ_ _=>cp _ _
 |.snd::p,.pr k a,m,x,h,c,i,e=>by
  obtain⟨z,A,rfl,r,B⟩:=i;rw[iI] at e;obtain⟨f,f2,ax,s,t,u⟩:=BZ (p:=p) (τ:=a) c B e.2.1;refine⟨z++f,f2,λb=>by simp only[g0,ax];grind,λb d=>?_,?_,λg j n=>?_⟩
  ·rcases g0.1 d with d|d
   ·exactλl=>e.2.2 b d b ((ax b).2 (.inr l)) rfl
   exact s b d
  ·rw[iI];exact⟨e.1,t,λb d v D=>e.2.2 b d v ((ax v).2 (.inl D))⟩
  have q:o4 (.snd::p) (.pr k a) c x=(x.1,o4 p a c x.2):=Ie bn (vS p a c).symm _ x;refine⟨z,f,bn,?_,?_⟩
  ·rw[q];exact r.mono (λo a C=>⟨j o a C,cp _ _⟩) λ_ _=>cp _ _
  rw[q];exact u g j n
def qR (id:X):ak->ak
 |.ref b []=>.ref b []
 |a=>bif a.fD [id] then .dead else a
def Jt (id:X) (b:bm a6) (a:aE) (d:o5 b a.1=bp) (st:aR):aR:=⟨st.g.map λc=>(c.1,qR id c.2),(id,⟨kp b a.1,o4 b a.1 d a.2⟩)::del [id] st.h⟩
def Yw (id:X) (a:ak):(∃b,a=.ref b []/\qR id a=.ref b [])\/(qR id a=.dead)\/(qR id a=a/\a.fD [id]=bq):=by
 have d:∀a:ak,qR id a=(bif a.fD [id] then .dead else a)->(∃b,a=.ref b []/\qR id a=.ref b [])\/(qR id a=.dead)\/(qR id a=a/\a.fD [id]=bq):=by
  intro a c;cases e:a.fD [id] with
  |true=>rw[e] at c;exact .inr (.inl c)
  |false=>rw[e] at c;exact .inr (.inr ⟨c,bn⟩)
 cases a with
 |ref b f=>
  cases f with
  |nil=>exact .inl ⟨b,bn,bn⟩
  |cons g f=>exact d _ rfl
 |_=>exact d _ rfl
def Yx:∀(a:bm a6) (c:ah) (b:ez),a≠[]->o5 a c=bp->c3 (kp a c) b=c3 c b
 |[],_,_,h,_=>absurd rfl h
 |.deref::a,.optr f,b,_,_=>rfl
 |.unst::a,.st f,b,_,_=>rfl
 |.fst::a,.pr d e,b,_,_=>rfl
 |.snd::a,.pr d e,b,_,_=>rfl
section
variable {C:e7} {st:aR} {A:ew} {w:bC}
def cP.Yq (o:cP C st A w N O x) {id:X} (I:j≠[]) (m:aq st.h id=Y P) (c:o5 j P.1=bp):gR C (Jt id j P c st) A w:=by
 obtain⟨R,T,u⟩:=o.tree id P m;obtain⟨v,f2,ax,K,L,Q⟩:=BZ c R T;have F:∀n a,bf N C.B n a->bf (λa=>N a\/a∈f2) C.B n a:=by
  intro n a b;cases n
  ·exact .inl b
  exact b.imp .inl (λc=>c)
 have z:=o.eG (S:=[id]) (keep:=[]) (new:=[(id,⟨kp j P.1,o4 j P.1 c P.2⟩)]) (rtn:=O) (fpn:=λ_=>v) (w':=w) (I':=λa=>N a\/a∈f2) ⟨bc _,bn,bn,bn,λ_ _ _=>rfl,λ_ _=>.refl _ _,λ_ c=>.inl c,λa b=>b.imp (λc=>c) λb=>⟨(u a ((ax a).2 (.inr b))).2.2.1,.inr ⟨id,ac,P,m,(ax a).2 (.inr b)⟩⟩,(λd U e=>by
    rw[eC] at e;split at e
    ·rename_i f;subst f;cases e;refine⟨.inl ac,Q _ F (λa b=>.inr b),L,λa b=>⟨λl=>?_,(u a ((ax a).2 (.inl b))).2.2.1,.inr ⟨id,ac,P,m,(ax a).2 (.inl b)⟩⟩⟩;rcases l with l|l
     ·exact(u a ((ax a).2 (.inl b))).1 l
     exact K a b l
    cases e),
   (λd ad U V e r y=>by
    rw[eC] at e r;split at e
    ·split at r
     ·omega
     cases r
    cases e),(λf q=>by cases q),(λf q=>by cases q)⟩
 refine⟨_,_,_,{z with tmp:=λi=>?_}⟩;have s:=o.tmp i;have k:=z.tmp i;rw[show gt (aR.mk (alu [id] [] st.g) ([(id,⟨kp j P.1,o4 j P.1 c P.2⟩)]++del [id] st.h)).g i=fS [id] [] (gt st.g i) from qU _ _ _ _] at k;have G:gt (Jt id j P c st).g i=qR id (gt st.g i):=JA (qR id) rfl st.g i;rw[G];generalize gt st.g i=E at s k;generalize A.getD i bV=V at s k;rcases Yw id E with⟨d,rfl,f⟩|f|⟨f,J⟩
 ·rw[f];by_cases e:d=id
  ·subst e;cases s with|ref D H=>
   rw[m] at D;cases D;obtain⟨rfl,rfl,rfl⟩:=alE.1 H;have:=cT.ref (M:=bf (λa=>N a\/a∈f2) C.B) (w:=w) (h:=[(d,(⟨kp j P.1,o4 j P.1 c P.2⟩:aE))]++del [d] st.h) (rt:=fv [(d,(⟨kp j P.1,o4 j P.1 c P.2⟩:aE))] O O) (fp:=fv [(d,(⟨kp j P.1,o4 j P.1 c P.2⟩:aE))] (λ_=>v) x) (id:=d) (p:=[]) (t:=⟨kp j P.1,o4 j P.1 c P.2⟩) (τ':=kp j P.1) (loc:=bo) (cs:=O d)
    (by rw[zG,eC,au bn]) (alE.2 ⟨bn,bn,by unfold fv;split<;>rfl⟩)
   rw[Yx j P.1 _ I c] at this;exact this
  have b:bH id d=bq:=by
   cases b:bH id d with
   |false=>rfl
   |true=>exact absurd (fH b).symm e
  have y:(ak.ref d []).fD [id]=bq:=(by simp[alo,bS,eY,b]);rw[Mc y] at k;exact k
 ·rw[f];exact .dead _
 rw[f];rw[Mc J] at k;exact k
end
end
section
section
variable {E:fM} {C:e7} {ic:gZ}
def zw.store (g:zw p c) {w:bC} {b o:X} {v:Value} (k:v.cells=#[v]) (h:v.oneCell'=bp) (e:ja w b o (o+1)):(storeVar c ⟨b,o,bo⟩ v).run p w=.ok () (w.setCells b o [v]):=by obtain⟨n,x,m,ax,l,q,r,s,t⟩:=g;have j:=run_storeCells_cells (P:=p) b o [v] 0 w (λd a=>by simpa using(e (o+d) aa (by simp at a;omega)).1) (λd a=>by simpa using(e (o+d) aa (by simp at a;omega)).2) (λu f=>by rw[gq] at f;subst f;exact h);have i:(al0 c).run p w=.ok 1 w:=(by simp[al0,alI,ax,l]);simp only[storeVar,k,bW,i,b1];simpa using j
def Me (a:h.guard=bo) (b:X->bu bz):aof h b=bp:=by unfold aof;rw[a]
end
end
section
def Ia (ic:gZ) (q:bT bQ) (c:aR):bu aR:=
 match q.toList with
 |[d,e,f]=>match d.guard,e.guard,f.guard with
  |none,bo,bo=>match d.op,d.dst,e.op,e.dst,f.op,f.dst with
   |.makeFunc (.func k) p j,Y b,.alloc i,Y a,.store l (.tmp m) (.tmp o),bo=>match aq ic.tt i with
    |some (.fn _ _)=>bif (bH i l&&(bH a m&&(bH b o&&!(bH a b))))&&(p.isEmpty&&(gG ic.n ic.pin a&&gG ic.n ic.pin b)) then
     Y ⟨(a,.hL (.di k (j.toList.map (aX c.g))))::(b,.di k (j.toList.map (aX c.g)))::c.g,c.h⟩ else bo
    |_=>bo
   |_,_,_,_,_,_=>bo
  |_,_,_=>bo
 |_=>bo
section
variable {E:fM} {C:e7} {ic:gZ}
theorem J.z6 (am:ic.ae E C) {N:bT bQ} {id:X} {ap:aR} (f:Ia ic N i=Y ap) (eq:y .normal ap):J E C (.region id N bq) i y:=by
 have an:=λa3=>gG.ok am (d:=a3);have fp:=am.1;unfold Ia at f;split at f
 case h_2=>cases f
 rename_i r s t hv;split at f
 case h_2=>cases f
 rename_i dg dl ds;split at f
 case h_2=>cases f
 rename_i a Q q m k l a4 bl cs fz cv i0 c1 i1 c2;split at f
 case h_2=>cases f
 rename_i ix jp A;cases hcond:(bH k a4&&(bH l bl&&(bH m cs&&!(bH l m))))&&(Q.isEmpty&&(gG ic.n ic.pin l&&gG ic.n ic.pin m)) with
 |false=>grind
 |true=>
 rw[hcond] at f;simp only[bF,eZ] at f;subst f;simp only[cF] at hcond;obtain⟨⟨bs,bx,ce,gf⟩,gi,ci,co⟩:=hcond;obtain rfl:=fH bs;obtain rfl:=fH bx;obtain rfl:=fH ce;have hs:¬l=m:=λgl=>(by grind);have U:=an _ ci;have ad:=an _ co;rw[fp] at A;obtain⟨fs,i2,i3,kd,f5,f6,_,f7,f8⟩:=E.ok k _ A;have A:zw E.P k:=⟨fs,.nilFunc,_,f5,f6,f7,bn,f8,bn⟩;have i8:amx.cells.size=1:=rfl;have el:Q=#[]:=(by grind);subst el;obtain rfl:N=#[r,s,t]:=(by grind);rintro e w ⟨G,O,I,K⟩ d6;have f9:(#[r,s,t]:bT bQ)[0]?=Y r:=rfl;have gc:(#[r,s,t]:bT bQ)[1]?=Y s:=rfl;have ge:(#[r,s,t]:bT bQ)[2]?=Y t:=rfl;have f2:(bM e.eval r).run E.P w=.ok (.value (.func (.func a) #[] (q.map e.eval))) w:=(by simp[bM,fz,Instr.makeFunc]);have ii:q.toList.length=(q.map e.eval).size:=ac;have fr:∀(x:X) (z:Value),(q.map e.eval)[x]?=Y z->∃F,q.toList[x]?=Y F/\z=e.eval F:=λx z hr=>(by grind);generalize q.map e.eval=c at*;generalize L:e.put (Y m) (.func (.func a) #[] c)=u;have hc:m<e.tmps.size:=(by rw[K.n];exact ad.1);have gs:l<e.tmps.size:=(by rw[K.n];exact U.1);have fl:u.tmps=e.tmps.setIfInBounds m (.func (.func a) #[] c):=(by rw[<-L];rfl);have d7:u.defers=e.defers:=(by rw[<-L];rfl);have f3:(bM u.eval s).run E.P w=.ok (.value (.pointer (Y ⟨w.heap.size,0,bo⟩))) (w.alloc (.cells amx.cells k)):=(by simp_all [bM,Instr.alloc,als,alI,newVar,alX]);generalize M:u.put (Y l) (.pointer (Y ⟨w.heap.size,0,bo⟩))=p;have fn:p.tmps=u.tmps.setIfInBounds l (.pointer (Y ⟨w.heap.size,0,bo⟩)):=(by rw[<-M];rfl);have d8:p.defers=u.defers:=(by rw[<-M];rfl);have d5:p.tmps.getD l bV=.pointer (Y ⟨w.heap.size,0,bo⟩):=(by simp_all);have d9:p.tmps.getD m bV=.func (.func a) #[] c:=(by simp_all);have gt:((w.alloc (.cells amx.cells k)).cell? ⟨w.heap.size,0,bo⟩).isSome=bp:=(by simp_all);have ex:(w.alloc (.cells amx.cells k)).heap.size=w.heap.size+1:=(by simp_all);have ek:ja (w.alloc (.cells amx.cells k)) w.heap.size 0 (0+1):=ao9 aa;have D:hC w (w.alloc (.cells amx.cells k)):=al4 w _;generalize io:w.alloc (.cells amx.cells k)=j at*;have f4:(bM p.eval t).run E.P j=.ok .skip (j.setCells w.heap.size 0 [.func (.func a) #[] c]):=(by have hw:=A.store (w:=j) (b:=w.heap.size) (o:=0) (v:=.func (.func a) #[] c) rfl rfl ek;have al:p.eval (.tmp l)=.pointer (Y ⟨w.heap.size,0,bo⟩):=d5;have go:p.eval (.tmp m)=.func (.func a) #[] c:=d9;simp_all [bM,Instr.storeAt,amL]);have ft:∀H:b5->Act->bC->Prop,H .normal p (j.setCells w.heap.size 0 [.func (.func a) #[] c])->wpOps E.P #[r,s,t] H [0,1,2] e w:=(by intro H d2;simp only[wpOps,f9,gc,ge];rw[au (Me dg _)];refine .inl ?_;unfold alk;rw[f2,aqa,cv,L,au (Me dl _)];refine .inl ?_;rw[f3,aqa,c1,M,au (Me ds _)];refine .inl ?_;rw[f4,Oper.upon_skip,c2];exact d2);refine wp_region (ft _ ?_);have en:(j.setCells w.heap.size 0 [.func (.func a) #[] c]).cell? ⟨w.heap.size,0,bo⟩=Y (.func (.func a) #[] c):=
  anz w.heap.size [.func (.func a) #[] c] 0 j (λis hi=>by
   grind) 0 ac
 have em:hC w (j.setCells w.heap.size 0 [.func (.func a) #[] c]):=(by obtain⟨fT,f0,f1⟩:=p7 w.heap.size [.func (.func a) #[] c] 0 j;exact⟨fT.trans D.os,f0.trans D.tape,f1.trans D.output,by grind [uA],λb d4=>(y7 _ _ _ _ _ aa).trans (D.heap b d4)⟩);have ib:(j.setCells w.heap.size 0 [.func (.func a) #[] c]).heap.size=w.heap.size+1:=(by rw[uA,ex]);generalize j.setCells w.heap.size 0 [.func (.func a) #[] c]=a0 at*;have T:cP C i e.tmps a0 (λb=>G b\/b=w.heap.size) O I:=by
  have:=K.ext (I':=λb=>G b\/b=w.heap.size) (rtn:=O) (fpn:=I) em (λ_ d0=>.inl d0) (by
   grind) (new:=[]) .nil
  exact this
 have V:cT (bf (λb=>G b\/b=w.heap.size) C.B) a0 i.h O I (.di a (q.toList.map (aX i.g))) (.func (.func a) #[] c):=(by refine .di (by grind) (λx av z R d1=>?_);obtain⟨F,ax,rfl⟩:=fr x z d1;rw[j3,ax] at R;cases R;exact T.aX F);have d3:=(T.put ad V);have S:=d3.put U (av:=.hL (.di a (q.toList.map (aX i.g)))) (v:=.pointer (Y ⟨w.heap.size,0,bo⟩)) (.hL (.inr bn) en bn V);rw[<-fl,<-fn] at S;exact⟨_,eq,⟨_,_,_,S⟩,d8.trans (d7.trans d6)⟩
end
end
section
inductive Hn where
 |none
 |x (l:ak9) (Ca:nY)
 |wS (l:ak9) (Ca:nY)
inductive Ho where
 |r
 |x (id:X) (Ca:nY)
 |wS (id:X) (Ca:nY)
inductive mO where
 |leaf
 |one (a:mO)
 |two (j:Hn) (a b:mO)
 |loop (Ca:nY) (m:Ho) (a:mO)
 |keep (l:ak9) (a:mO)
 |qS (F:ak9) (a:mO)
 |fp (id:X) (p:bm a6) (a:mO)
 |draw (L:bm md)
 |z6
def Fr:bm md->X->ak9
 |[],_=>[]
 |r::b,a=>bif bH r.i a then r.i5 else Fr b a
def FT:bm md->X->ak9
 |[],_=>[]
 |r::b,a=>bif bH r.i a then r.ip else FT b a
def ND {A:Type} (id:X) (b:b5->aR->bu A):b5->aR->bu A
 |.exit c,a=>match bH c id with
  |true=>b .normal a
  |false=>b (.exit c) a
 |e,a=>b e a
def Zi {a:Type} (c:aR->bu a):b5->aR->bu a
 |.normal,b=>c b
 |_,_=>bo
def Zj {b A:Type} (d:aR->bu b) (c:b5->aR->bu A):b5->aR->bu (b⊕A)
 |.normal,a=>(d a).map .inl
 |e,a=>(c e a).map .inr
def B7 {A:Type} (c:aR->bu A) (b:b5->aR->bu A):b5->aR->bu A
 |.normal,a=>c a
 |e,a=>b e a
def Z7 {b A:Type} (d:aR->bu b) (c:b5->aR->bu A):b5->aR->bu (b⊕A)
 |.normal,a=>(d a).map .inl
 |e,a=>(c e a).map .inr
def Qs {b c:Type} (e:aR->bu b) (id:X) (f:aR->bu c):b5->aR->bu (b⊕c)
 |.normal,a=>(e a).map .inl
 |.exit d,a=>match bH d id with
  |true=>(f a).map .inr
  |false=>bo
 |_,_=>bo
def Qt {f g A:Type} (h:aR->bu f) (id:X) (i:aR->bu g) (c:b5->aR->bu A):b5->aR->bu (f⊕(g⊕A))
 |.normal,a=>(h a).map .inl
 |.exit d,a=>match bH d id with
  |true=>(i a).map λb=>.inr (.inl b)
  |false=>(c (.exit d) a).map λb=>.inr (.inr b)
 |e,a=>(c e a).map λb=>.inr (.inr b)
def hW:gZ->mO->cq->aR->(A:Type)->(b5->aR->bu A)->bu A
 |ic,.leaf,d,a,_,b=>match d with
  |.skip=>b .normal a
  |.exit id=>b (.exit id) a
  |.ret=>b .ret a
  |.region _ l bq=>lA ic l (bI l.size) a (b .normal)
  |_=>bo
 |ic,.one e,d,a,A,b=>match d with
  |.block id j=>hW ic e j a A (ND id b)
  |_=>bo
 |ic,.two w e q,d,a,A,b=>match d with
  |.seq j p=>match w with
   |.none=>hW ic e j a A (B7 (λf=>hW ic q p f A b) b)
   |.x k c=>match tS a.g k with
    |some i=>(hW {ic with pin:=k++ic.pin,kg:=i++ic.kg} e j a c.den (Zi (proj c))).bind λm=>hW ic q p (vK {ic with pin:=k++ic.pin,kg:=i++ic.kg} c m) A b
    |none=>bo
   |.wS k c=>match tS a.g k with
    |some i=>(hW {ic with pin:=k++ic.pin,kg:=i++ic.kg} e j a (c.den⊕A) (Zj (proj c) b)).bind λ
     |.inl m=>hW ic q p (vK {ic with pin:=k++ic.pin,kg:=i++ic.kg} c m) A b
     |.inr i=>Y i
    |none=>bo
  |.cond t j p=>match aX a.g t with
   |.val .bool z=>match z with
    |true=>hW ic e j a A b
    |false=>hW ic q p a A b
   |_=>bo
  |_=>bo
 |ic,.loop c y e,d,a,A,b=>match d with
  |.loop j=>(proj c a).bind λu=>match y with
   |.r=>(loop (λf=>hW ic e j (vK ic c f) (c.den⊕A) (Z7 (proj c) b)) u).bind Y
   |.x id n=>(loop (λf=>hW ic e j (vK ic c f) (c.den⊕n.den) (Qs (proj c) id (proj n))) u).bind λm=>b (.exit id) (vK ic n m)
   |.wS id n=>(loop (λf=>hW ic e j (vK ic c f) (c.den⊕(n.den⊕A)) (Qt (proj c) id (proj n) b)) u).bind λ
    |.inl m=>b (.exit id) (vK ic n m)
    |.inr i=>Y i
  |_=>bo
 |ic,.draw o,d,a,_,b=>match d with
  |.region _ l bp=>bif vd l (Fr o) (FT o) o then tR ic l (Fr o) (FT o) (lB o) a (b .normal) else bo
  |_=>bo
 |ic,.z6,d,a,_,b=>match d with
  |.region _ l bq=>match Ia ic l a with
   |some f=>b .normal f
   |none=>bo
  |_=>bo
 |ic,.qS v e,d,a,A,b=>bif n8 a.h v then hW ic e d (tO v a) A b else bo
 |ic,.fp id s e,d,a,A,b=>match aq a.h id,s with
  |some t,f::s=>if h:o5 (f::s) t.1=bp then hW ic e d (Jt id (f::s) t h a) A b else bo
  |_,_=>bo
 |ic,.keep k e,d,a,A,b=>match tS a.g k with
  |some i=>hW {ic with pin:=k++ic.pin,kg:=i++ic.kg} e d a A b
  |none=>bo
section
variable {E:fM} {C:e7} {ic:gZ} {A:Type}
theorem J.post (s:ql C S) {e:cq} (k:J E C e i (λf c=>y f c\/∃(d a:aR),y f d/\d=⟨S++a.g,a.h⟩/\pF a.g c/\pG a.h c/\m5 a.g a.h=bp)):J E C e i y:=
 λj t q r=>wp_mono (k j t q r) (λ_ _ _ ⟨c,b,o,p⟩=>by
  rcases b with b|⟨d,a,b,rfl,l,m,n⟩
  ·grind
  exact⟨_,b,(o.Aa l m n).kg s,p⟩)
theorem mB:∀{am:mO} {C:e7} {ic:gZ} {m:cq} {j:aR} {A:Type} {k:b5->aR->bu A} {r:A} {l:b5->aR->Prop},ic.ae E C->hW ic am m j A k=Y r->(∀e i,k e i=Y r->l e i)->J E C m j l
 |.leaf,C,ic,m,j,A,k,r,l,b,a,d=>by
  simp only[hW] at a;split at a
  ·grind [J.skip]
  ·grind [J.exit]
  ·grind [J.ret]
  ·grind [J.region,YZ]
  grind
 |.one q,C,ic,m,j,A,k,r,l,b,a,d=>by
  simp only[hW] at a;split at a
  ·refine J.block (mB b a ?_);intro e i c;cases e with
   |exit M=>
    grind [H8,ND]
   |_=>exact d _ _ c
  grind
 |.two M q cv,C,ic,m,j,A,k,r,l,b,a,d=>by
  simp only[hW] at a;split at a
  ·rename_i x cs;refine J.seq ?_;split at a
   ·refine mB b a ?_;intro e i c;cases e with
    |normal=>exact mB b c d
    |_=>exact d _ _ c
   ·rename_i D F;split at a
    case h_2=>cases a
    rename_i Q L;obtain⟨n,B,a⟩:=eV.1 a;refine J.keep b.2.2.2.2 L (λS s t o u v=>J.post o (mB (ic:={ic with pin:=D++ic.pin,kg:=Q++ic.kg}) ⟨b.1,b.2.1.trans s.symm,by rw[t,<-b.2.2.1],⟨b.2.2.2.1.1,u _ b.2.2.2.1.2.1,b.2.2.2.1.2.2.1,v b.2.2.2.1.2.2.2.1,b.2.2.2.1.2.2.2.2⟩,o⟩ B ?_));intro e i c;cases e with
    |normal=>exact .inr ⟨_,_,mB b a d,bn,uu c⟩
    |_=>cases c
   rename_i D F;split at a
   case h_2=>cases a
   rename_i Q L;obtain⟨n,B,a⟩:=eV.1 a;refine J.keep b.2.2.2.2 L (λS s t o u v=>J.post o (mB (ic:={ic with pin:=D++ic.pin,kg:=Q++ic.kg}) ⟨b.1,b.2.1.trans s.symm,by rw[t,<-b.2.2.1],⟨b.2.2.2.1.1,u _ b.2.2.2.1.2.1,b.2.2.2.1.2.2.1,v b.2.2.2.1.2.2.2.1,b.2.2.2.1.2.2.2.2⟩,o⟩ B ?_));intro e i c;cases e with
   |normal=>
    obtain⟨bx,g,f⟩:=fO.1 c;cases f;exact .inr ⟨_,_,mB b a d,bn,uu g⟩
   |_=>
    obtain⟨bx,g,f⟩:=fO.1 c;cases f;cases a;exact .inl (d _ _ g)
  ·rename_i ci x cs;split at a
   ·rename_i c2 a3;refine J.cond a3 (λe=>?_) (λe=>?_)
    ·subst e;exact mB b a d
    subst e;exact mB b a d
   grind
  grind
 |.loop F a4 q,C,ic,m,j,A,k,r,l,b,a,d=>by
  simp only[hW] at a;split at a
  case h_2=>cases a
  rename_i x;obtain⟨c1,ap,a⟩:=eV.1 a;obtain⟨N,O,P⟩:=uu ap;refine J.post b.2.2.2.2 ?_;cases a4 with
  |r=>
   refine J.loop (lw F) a N O P ?_;intro i T y z;refine J.kg b.2.2.2.2 (mB b y ?_);intro e U c;cases e with
   |normal=>
    obtain⟨n,g,f⟩:=fO.1 c;grind [uu]
   |_=>
    obtain⟨n,g,f⟩:=fO.1 c;cases f;cases z;exact⟨(λa=>by cases a),.inl (d _ _ g)⟩
  |x id co=>
   refine J.loop (lw F) a N O P ?_;intro i T y z;refine J.kg b.2.2.2.2 (mB b y ?_);intro e U c;cases e with
   |normal=>
    obtain⟨n,g,f⟩:=fO.1 c;grind [uu]
   |exit M=>
    simp only[Qs] at c;split at c
    ·rename_i K;obtain rfl:=fH K;obtain⟨n,g,f⟩:=fO.1 c;cases f;exact⟨(λa=>by cases a),.inr ⟨_,_,d _ _ z,bn,uu g⟩⟩
    grind
   |_=>cases c
  |wS id co=>
   refine J.loop (lw F) a N O P ?_;intro i T y z;refine J.kg b.2.2.2.2 (mB b y ?_);intro e U c;cases e with
   |normal=>
    obtain⟨n,g,f⟩:=fO.1 c;grind [uu]
   |exit M=>
    simp only[Qt] at c;split at c
    ·rename_i K;obtain rfl:=fH K;obtain⟨n,g,f⟩:=fO.1 c;cases f;exact⟨(λa=>by cases a),.inr ⟨_,_,d _ _ z,bn,uu g⟩⟩
    grind [ap8]
   |_=>
    obtain⟨n,g,f⟩:=fO.1 c;grind
 |.draw G,C,ic,m,j,A,k,r,l,b,a,d=>by
  simp only[hW] at a;split at a
  case h_2=>cases a
  rename_i id bl;cases w:vd bl (Fr G) (FT G) G with
  |false=>grind
  |true=>
  rw[w] at a;exact J.draw E.mix b w a (λi c=>d _ i c)
 |.z6,C,ic,m,j,A,k,r,l,b,a,d=>by simp only[hW] at a;grind [J.z6]
 |.qS V q,C,ic,m,j,A,k,r,l,b,a,d=>by
  simp only[hW] at a;cases w:n8 j.h V with
  |false=>grind
  |true=>
  rw[w] at a;intro H R p I;obtain⟨ad,ce,an,p⟩:=p;exact mB b a d H R (p.freeze (n8.ok w)) I
 |.fp id bs q,C,ic,m,j,A,k,r,l,b,a,d=>by
  simp only[hW] at a;split at a
  case h_2=>cases a
  rename_i ci i bs a0;split at a
  case isFalse=>cases a
  rename_i av;intro H R p I;obtain⟨ad,ce,an,p⟩:=p;exact mB b a d H R (p.Yq ac a0 av) I
 |.keep D q,C,ic,m,j,A,k,r,l,b,a,d=>by
  simp only[hW] at a;split at a
  case h_2=>cases a
  rename_i n B;refine J.keep b.2.2.2.2 B ?_;intro S s t o u v;exact mB (ic:={ic with pin:=D++ic.pin,kg:=n++ic.kg}) ⟨b.1,b.2.1.trans s.symm,by rw[t,<-b.2.2.1],⟨b.2.2.2.1.1,u _ b.2.2.2.1.2.1,b.2.2.2.1.2.2.1,v b.2.2.2.1.2.2.2.1,b.2.2.2.1.2.2.2.2⟩,o⟩ a d
end
end
end Go.jN
end
